/-
  heap.push: one more entry, sifted up.
-/
import Derived.Test.YtplfbdkljnblmaaRowQOncep3
set_option linter.unusedVariables false
set_option linter.unusedSimpArgs false
namespace Go.Proofs.Ytplfbdkljnblmaa
open Go.RowKit

theorem infoE : (Try.prog.info? 30).map (fun i => (i.zero, i.size, i.bytes)) = some (some (.agg #[.int .i64 0, .int .i64 0, .int .i64 0]), 3, 24) := by kernel_rfl

theorem encs_flat (l : List Ent) : encs l = (l.map fun e => [Value.int .i64 e.key, .int .i64 e.weight, .int .i64 e.age]).flatten := by simp [encs, List.flatMap]
theorem row_acc {w : World} {base : Nat} {v : Value} {l : List Ent} (h : Row w base v l) : Acc rpE 30 base (fun _ => True) w v l :=
  ⟨l.map fun e => [.int .i64 e.key, .int .i64 e.weight, .int .i64 e.age], by simp, by rw [← encs_flat]; exact h, fun i hi => ⟨[.int .i64 l[i].key, .int .i64 l[i].weight, .int .i64 l[i].age], by simp [hi], rfl⟩⟩
theorem acc_row {F : Nat → Prop} {w : World} {base : Nat} {v : Value} {l : List Ent} (h : Acc rpE 30 base F w v l) : Row w base v l := by
  obtain ⟨X, h1, h2, h3⟩ := h
  have : X = l.map fun e => [.int .i64 e.key, .int .i64 e.weight, .int .i64 e.age] := by
    apply List.ext_getElem (by simpa using h1)
    intro i hi hi2
    obtain ⟨x, hx, hr⟩ := h3 i (by omega)
    rw [List.getElem?_eq_getElem hi] at hx
    cases hx
    have hr' : X[i] = [.int .i64 l[i].key, .int .i64 l[i].weight, .int .i64 l[i].age] := hr
    simpa using hr'
  subst this
  unfold Row
  rw [encs_flat]
  exact h2

theorem oper_append_eq {P : Program} {w w' : World} {o : Oper} {a : Act} {K : Act → World → Prop} {Q : Exit → Act → World → Prop} (s x : Operand) (ta tb : TypeId) (v' : Value)
    (ho : o.op = .call { callee := .builtin .append, args := #[s, x], argTypes := #[ta, tb] }) (hr : (Builtin.append_ #[ta, tb] o.type #[a.eval s, a.eval x]).run P w = .ok v' w')
    (h : K (a.put o.dst v') w') : o.wp P a w K Q := by
  unfold Oper.wp execOp
  simp only [ho, resolve, invoke, builtin, Sem.run_bind, Sem.run_pure, Result.andThen_ok, List.map_toArray, List.map_cons, List.map_nil, hr]
  exact h

def Turn (q : Nat) (v : Value) (k : Nat) : Prop := k = q ∨ v.ownBlock = some k

set_option maxRecDepth 100000 in
set_option maxHeartbeats 4000000 in
theorem push_q {f : FuncId} {lt : Ent → Ent → Bool} (hf : Fst f lt) (O : Hp.Ord lt) {w : World} {q o : Nat} {cs : Array Value} {t : TypeId} {v : Value} {l : List Ent} {base : Nat} (hq : Blk w q cs t) (ho : cs[o]? = some v) (hf' : cs[o + 1]? = some (.func (.func f) #[] #[]))
    (hr : Row w base v l) (hh : Hp.Heap lt l) (hv : v.ownBlock ≠ some q) (hb : base ≤ w.heap.size) (hl : l.length ≤ 900000) (x : Ent) :
    Calls Try.prog 24 #[.pointer (some ⟨q, o, none⟩), x.v] w fun e w' => e = .returned (.tuple #[]) ∧ ∃ v' l', Blk w' q (cs.setIfInBounds o v') t ∧ Row w' base v' l' ∧ l'.Perm (x :: l) ∧ Hp.Heap lt l' ∧
      (∀ g, v'.ownBlock = some g → v.ownBlock = some g ∨ w.heap.size ≤ g) ∧ Off (Turn q v) w w' := by
  obtain ⟨i0, hi0, hz0, hz1, hz2⟩ := info_parts infoE
  unfold Ent.v
  obtain ⟨wB, hwB⟩ : ∃ wB, w.alloc (.cells #[.int .i64 x.key, .int .i64 x.weight, .int .i64 x.age] 30) = wB := ⟨_, rfl⟩
  have B0 : Below w.heap.size w wB := by rw [← hwB]; exact (Below.refl _ _).alloc (Nat.le_refl _) _
  have x0 : Blk wB w.heap.size #[.int .i64 x.key, .int .i64 x.weight, .int .i64 x.age] 30 := by rw [← hwB]; exact Blk.new _ _ _ rfl
  have hqB := hq.below B0
  have hrB := hr.below B0
  have hz : wB.heap.size = w.heap.size + 1 := by rw [← hwB]; simp
  go_enter Try.func24, Try.ntmps24
  go_wp2_with fail
  try rw [hwB]
  clear hwB
  refine wp_region_noPanic (wp_region_need (S := fun w' => w'.cell? ⟨q, o, none⟩ = some v ∧ w'.cell? ⟨w.heap.size, 0, none⟩ = some (.int .i64 x.key) ∧ w'.cell? ⟨w.heap.size, 1, none⟩ = some (.int .i64 x.weight) ∧ w'.cell? ⟨w.heap.size, 2, none⟩ = some (.int .i64 x.age)) (by kernel_rfl) ?_)
  have hS : (wB.drew).cell? ⟨q, o, none⟩ = some v ∧ (wB.drew).cell? ⟨w.heap.size, 0, none⟩ = some (.int .i64 x.key) ∧ (wB.drew).cell? ⟨w.heap.size, 1, none⟩ = some (.int .i64 x.weight) ∧ (wB.drew).cell? ⟨w.heap.size, 2, none⟩ = some (.int .i64 x.age) := ⟨hqB.drew.cell ho, x0.drew.cell rfl, x0.drew.cell rfl, x0.drew.cell rfl⟩
  refine wpN_take (i := 0) (v := ?v1) rfl (by kernel_rfl) (fun _ _ _ h => h) hS (Or.inl ⟨by rfl, ?hy1⟩) ?hr1
  case hy1 => (intro wS hSw; (try dsimp only at hSw); go_simp; (try with_reducible rfl))
  try simp only [Act.put, List.setIfInBounds_toArray, List.set_cons_zero, List.set_cons_succ, List.getElem_toArray, List.getElem_cons_zero, List.getElem_cons_succ]
  refine wpN_take (i := 1) (v := ?v2) rfl (by kernel_rfl) (fun _ _ _ h => h) hS (Or.inl ⟨by rfl, ?hy2⟩) ?hr2
  case hy2 => (intro wS hSw; (try dsimp only at hSw); go_simp; (try with_reducible rfl))
  try simp only [Act.put, List.setIfInBounds_toArray, List.set_cons_zero, List.set_cons_succ, List.getElem_toArray, List.getElem_cons_zero, List.getElem_cons_succ]
  refine wpN_take (i := 2) (v := ?v3) rfl (by kernel_rfl) (fun _ _ _ h => h) hS (Or.inl ⟨by rfl, ?hy3⟩) ?hr3
  case hy3 => (intro wS hSw; (try dsimp only at hSw); go_simp; (try with_reducible rfl))
  try simp only [Act.put, List.setIfInBounds_toArray, List.set_cons_zero, List.set_cons_succ, List.getElem_toArray, List.getElem_cons_zero, List.getElem_cons_succ]
  refine wpN_take (i := 3) (v := ?v4) rfl (by kernel_rfl) (fun _ _ _ h => h) hS (Or.inl ⟨by rfl, ?hy4⟩) ?hr4
  case hy4 => (intro wS hSw; (try dsimp only at hSw); go_simp; (try with_reducible rfl))
  try simp only [Act.put, List.setIfInBounds_toArray, List.set_cons_zero, List.set_cons_succ, List.getElem_toArray, List.getElem_cons_zero, List.getElem_cons_succ]
  refine wpN_take (i := 4) (v := ?v5) rfl (by kernel_rfl) (fun _ _ _ h => h) hS (Or.inl ⟨by rfl, ?hy5⟩) ?hr5
  case hy5 => (intro wS hSw; (try dsimp only at hSw); go_simp; (try with_reducible rfl))
  try simp only [Act.put, List.setIfInBounds_toArray, List.set_cons_zero, List.set_cons_succ, List.getElem_toArray, List.getElem_cons_zero, List.getElem_cons_succ]
  refine wpN_take (i := 5) (v := ?v6) rfl (by kernel_rfl) (fun _ _ _ h => h) hS (Or.inl ⟨by rfl, ?hy6⟩) ?hr6
  case hy6 => (intro wS hSw; (try dsimp only at hSw); go_simp; (try with_reducible rfl))
  try simp only [Act.put, List.setIfInBounds_toArray, List.set_cons_zero, List.set_cons_succ, List.getElem_toArray, List.getElem_cons_zero, List.getElem_cons_succ]
  refine wpN_step (i := 6) (by kernel_rfl) rfl (fun K hK => ?_)
  go_simp
  obtain ⟨wC, hwC⟩ : ∃ wC, wB.alloc (.cells #[.int .i64 x.key, .int .i64 x.weight, .int .i64 x.age] 30) = wC := ⟨_, rfl⟩
  have B1 : Below w.heap.size w wC := by rw [← hwC]; exact B0.alloc B0.size _
  have y0 : Blk wC (w.heap.size + 1) #[.int .i64 x.key, .int .i64 x.weight, .int .i64 x.age] 30 := by rw [← hwC]; exact Blk.new _ _ _ hz.symm
  have x1 : Blk wC w.heap.size #[.int .i64 x.key, .int .i64 x.weight, .int .i64 x.age] 30 := by rw [← hwC]; exact x0.alloc _
  have hq1 := hq.below B1
  have hr1 := hr.below B1
  have hzC : wC.heap.size = w.heap.size + 2 := by rw [← hwC]; simp [hz]
  have hwC' : (wB.alloc (.cells #[.int .i64 x.key, .int .i64 x.weight, .int .i64 x.age] 30)).drew = wC.drew := by rw [hwC]
  rw [hwC']
  obtain ⟨wD, hwD⟩ : ∃ wD, wC.drew = wD := ⟨_, rfl⟩
  have B2 : Below w.heap.size w wD := by rw [← hwD]; exact B1.drew
  have y1 : Blk wD (w.heap.size + 1) #[.int .i64 x.key, .int .i64 x.weight, .int .i64 x.age] 30 := by rw [← hwD]; exact y0.drew
  have x2 : Blk wD w.heap.size #[.int .i64 x.key, .int .i64 x.weight, .int .i64 x.age] 30 := by rw [← hwD]; exact x1.drew
  have hq2 := hq.below B2
  have hr2 := hr.below B2
  have hzD : wD.heap.size = w.heap.size + 2 := by rw [← hwD]; simp [hzC]
  rw [hwD]
  clear hwD hwC hwC' B1 y0 x1 hq1 hr1 hzC
  have hS : (wD).cell? ⟨q, o, none⟩ = some v ∧ (wD).cell? ⟨w.heap.size, 0, none⟩ = some (.int .i64 x.key) ∧ (wD).cell? ⟨w.heap.size, 1, none⟩ = some (.int .i64 x.weight) ∧ (wD).cell? ⟨w.heap.size, 2, none⟩ = some (.int .i64 x.age) := ⟨hq2.cell ho, x2.cell rfl, x2.cell rfl, x2.cell rfl⟩
  refine hK.out _ _ (fun _ => hS) ?_
  clear hK K
  try simp only [Act.put, List.setIfInBounds_toArray, List.set_cons_zero, List.set_cons_succ, List.getElem_toArray, List.getElem_cons_zero, List.getElem_cons_succ]
  refine wpN_step (i := 7) (by kernel_rfl) rfl (fun K hK => ?_)
  have hsl : IsSl2 rpE (fun _ => True) (fun k => True ∧ v.ownBlock ≠ some k) wD (.slice (some ⟨w.heap.size + 1, 0, none⟩) 1 1) [x] :=
    ⟨_, 1, w.heap.size + 1, 0, fun _ => [.int .i64 x.key, .int .i64 x.weight, .int .i64 x.age], rfl, ⟨by simp [maxLen], by simp⟩, fun _ => ⟨rfl, trivial⟩, fun i j u hi hu => by
      obtain rfl : i = 0 := by simp at hi; omega
      exact y1.cell (by simpa using hu), fun i hi => by
      obtain rfl : i = 0 := by simp at hi; omega
      rfl⟩
  obtain ⟨v', w3, hrun, hacc, hg, hloc⟩ := run_append_sl rpE (by decide) (P := Try.prog) wD 53 53 base 30 i0 _ 24 Try.underlying53 hi0 hz0 hz1 hz2 rfl (by decide) (fun _ => True) v l (row_acc hr2) _ [x] hsl (by simp; omega) (by omega)
  rw [if_pos (by rfl)]
  refine oper_append_eq (.tmp 10) (.tmp 12) _ _ v' rfl hrun ?_
  try simp only [Act.put, List.setIfInBounds_toArray, List.set_cons_zero, List.set_cons_succ, List.getElem_toArray, List.getElem_cons_zero, List.getElem_cons_succ]
  have B3 : Off (Turn q v) w w3 := (Off.of_below _ B2).grown hg (fun k hk => .inr hk)
  have hq3 : Blk w3 q cs t := hq2.grown hg hv
  have hx3 : Blk w3 w.heap.size _ _ := x2.grown hg (fun e => by have := (hr.base_le _ e).2; omega)
  have hr3 := acc_row hacc
  clear hrun hsl hr2 hrB y1 hacc
  obtain ⟨g, cap, hv', hgb, hlc, hcm, -, -⟩ := hr3.open_ (by simp)
  obtain ⟨N, hN⟩ : ∃ N, (l ++ [x]).length = N := ⟨_, rfl⟩
  rw [hN] at hv' hlc
  subst hv'
  have HNl := Lib.hid (show N = l.length + 1 by rw [← hN]; simp)
  have HN := Lib.hid hN; clear hN
  have hS : (w3).cell? ⟨q, o, none⟩ = some v ∧ (w3).cell? ⟨w.heap.size, 0, none⟩ = some (.int .i64 x.key) ∧ (w3).cell? ⟨w.heap.size, 1, none⟩ = some (.int .i64 x.weight) ∧ (w3).cell? ⟨w.heap.size, 2, none⟩ = some (.int .i64 x.age) := ⟨hq3.cell ho, hx3.cell rfl, hx3.cell rfl, hx3.cell rfl⟩
  refine hK.out _ _ (fun _ => hS) ?_
  clear hK K
  try simp only [Act.put, List.setIfInBounds_toArray, List.set_cons_zero, List.set_cons_succ, List.getElem_toArray, List.getElem_cons_zero, List.getElem_cons_succ]
  refine wpN_pure (i := 8) (v := ?v7) rfl (by kernel_rfl) (fun _ _ _ h => h) (Or.inl ⟨by rfl, ?hy7⟩) ?hr7
  case hy7 => (intro wS hSw; go_simp; (try with_reducible rfl))
  try simp only [Act.put, List.setIfInBounds_toArray, List.set_cons_zero, List.set_cons_succ, List.getElem_toArray, List.getElem_cons_zero, List.getElem_cons_succ]
  refine wpN_pure (i := 9) (v := ?v8) rfl (by kernel_rfl) (fun _ _ _ h => h) (Or.inl ⟨by rfl, ?hy8⟩) ?hr8
  case hy8 => (intro wS hSw; go_simp; (try with_reducible rfl))
  try simp only [Act.put, List.setIfInBounds_toArray, List.set_cons_zero, List.set_cons_succ, List.getElem_toArray, List.getElem_cons_zero, List.getElem_cons_succ]
  have f0 := hq3.free o
  refine wpN_step (i := 10) (by kernel_rfl) rfl (fun K hK => ?_)
  go_simp
  refine hK.out _ _ (fun h => absurd h (by decide)) ?_
  clear hK K
  try simp only [Act.put, List.setIfInBounds_toArray, List.set_cons_zero, List.set_cons_succ, List.getElem_toArray, List.getElem_cons_zero, List.getElem_cons_succ]
  refine wpN_done (by kernel_rfl) ?_
  refine NoPanic.normal ?_
  have hgq : g ≠ q := by
    rintro rfl
    rcases hloc with h | h
    · exact hv (by rw [← h]; rfl)
    · have h2 : g = wD.heap.size := Option.some.inj h
      have := hq.lt
      omega
  have hgx : w.heap.size ≠ g := by
    rintro rfl
    rcases hloc with h | h
    · have := (hr.base_le w.heap.size (by rw [← h]; rfl)).2; omega
    · have h2 : w.heap.size = wD.heap.size := Option.some.inj h
      omega
  have hgl : ∀ k, (Value.slice (some ⟨g, 0, none⟩) N cap).ownBlock = some k → v.ownBlock = some k ∨ w.heap.size ≤ k := fun k hk => by
    rcases hloc with h | h
    · exact .inl (by rw [← h]; exact hk)
    · have h2 : k = wD.heap.size := by rw [hk] at h; exact Option.some.inj h
      exact .inr (by omega)
  have hq4 := hq3.set o (.slice (some ⟨g, 0, none⟩) N cap)
  have hr4 := hr3.far ⟨q, o, none⟩ (.slice (some ⟨g, 0, none⟩) N cap) (fun e => hgq (by cases e; rfl))
  have B4 := B3.set ⟨q, o, none⟩ (.slice (some ⟨g, 0, none⟩) N cap) (.inl (.inl rfl))
  obtain ⟨w4, hw4⟩ : ∃ w4, w3.setCell ⟨q, o, none⟩ (.slice (some ⟨g, 0, none⟩) N cap) = w4 := ⟨_, rfl⟩
  rw [hw4] at hq4 hr4 B4
  rw [hw4]
  clear hw4 hq3 hr3 B3 hx3 hq2 x2 x0 hqB B0 B2 f0 hg hloc
  obtain ⟨cs4, hcs⟩ : ∃ cs4, cs.setIfInBounds o (.slice (some ⟨g, 0, none⟩) N cap) = cs4 := ⟨_, rfl⟩
  have ho4 : cs4[o]? = some (.slice (some ⟨g, 0, none⟩) N cap) := by
    rw [← hcs, Array.getElem?_setIfInBounds_self_of_lt (Array.getElem?_eq_some_iff.1 ho).1]
  have hf4 : cs4[o + 1]? = some (.func (.func f) #[] #[]) := by rw [← hcs, Array.getElem?_setIfInBounds_ne (by omega)]; exact hf'
  rw [hcs] at hq4
  have c0 := hq4.cell ho4
  have hup := Hp.Up.start (x := x) hh
  have hUp := Lib.hid hup; clear hup hh
  have hN0 : N ≤ 900001 := by have := HNl.out; omega
  have hw1 : (1 : Int) ≤ N := by have := HNl.out; omega
  have hw2 : (N : Int) ≤ 900001 := by omega
  go_wp2_with fail
  go_loopw [4] (fun iv wr => ∃ (i : Nat) (l' : List Ent), iv = .int .i64 i ∧ i < N ∧ Hid (l'.length = N) ∧ Hid (l'.Perm (x :: l)) ∧ Hid (Hp.Up lt l' i) ∧ Row wr base (.slice (some ⟨g, 0, none⟩) N cap) l' ∧ Blk wr q cs4 t ∧ Off (Turn q v) w wr) (fun iv _ => (intOf iv).toNat)
  case atStart =>
    refine ⟨N - 1, l ++ [x], by rw [show ((N - 1 : Nat) : Int) = (N : Int) - 1 by omega], by have := HNl.out; omega, HN.out, ?_, ?_, hr4, hq4, B4⟩
    · exact List.perm_append_comm
    · have := HNl.out
      rw [show N - 1 = l.length by omega]
      exact hUp.out
  case round =>
    obtain ⟨i, l', rfl, hi, hl', hpm, hu, hr5, hq5, B5⟩ := hrel
    have c0 := hq5.cell ho4
    have c1 := hq5.cell hf4
    obtain ⟨g', cap', hve, -, -, -, hcell, hfree⟩ := hr5.open_ (by rw [hl'.out]; omega)
    have hge : g' = g := by injection hve with q1 q2 q3; cases q1; rfl
    subst hge
    clear hve
    by_cases h0 : 0 < i
    · have h0I : (0 : Int) < i := by omega
      go_wp2_with fail
      obtain ⟨p, hp⟩ : ∃ p, Hp.par i = p := ⟨_, rfl⟩
      have hpI : ((i : Int) - 1) / 2 = (p : Int) := by rw [← hp]; unfold Hp.par; omega
      have hpi : p < i := by rw [← hp]; exact Hp.par_lt h0
      rw [hpI]
      have HpI := Lib.hid hpI; clear hpI
      have Hp' := Lib.hid hp; clear hp
      obtain ⟨a, ha⟩ : ∃ a, Hp.at_ l' i = a := ⟨_, rfl⟩
      obtain ⟨b, hb'⟩ : ∃ b, Hp.at_ l' p = b := ⟨_, rfl⟩
      obtain ⟨a0, a1, a2⟩ := hcell i (by rw [hl'.out]; omega)
      obtain ⟨b0, b1, b2⟩ := hcell p (by rw [hl'.out]; omega)
      rw [← Hp.at_get, ha] at a0 a1 a2
      rw [← Hp.at_get, hb'] at b0 b1 b2
      clear hcell
      have Ha := Lib.hid ha; have Hb := Lib.hid hb'; clear ha hb'
      have i1 : (i : Int) < N := by omega
      have i2 : (p : Int) < N := by omega
      have i3 : (0 : Int) ≤ p := by omega
      obtain ⟨ak, aw, ag⟩ := a
      obtain ⟨bk, bw, bg⟩ := b
      dsimp only at a0 a1 a2 b0 b1 b2
      refine wp_region_noPanic (wp_region_need (S := fun w' => w'.cell? ⟨q, o, none⟩ = some (.slice (some ⟨g', 0, none⟩) N cap) ∧ w'.cell? ⟨q, o + 1, none⟩ = some (.func (.func f) #[] #[]) ∧ w'.cell? ⟨g', i * 3, none⟩ = some (.int .i64 ak) ∧ w'.cell? ⟨g', i * 3 + 1, none⟩ = some (.int .i64 aw) ∧ w'.cell? ⟨g', i * 3 + 2, none⟩ = some (.int .i64 ag) ∧ w'.cell? ⟨g', p * 3, none⟩ = some (.int .i64 bk) ∧ w'.cell? ⟨g', p * 3 + 1, none⟩ = some (.int .i64 bw) ∧ w'.cell? ⟨g', p * 3 + 2, none⟩ = some (.int .i64 bg)) (by kernel_rfl) ?_)
      have hS : (wr.drew).cell? ⟨q, o, none⟩ = some (.slice (some ⟨g', 0, none⟩) N cap) ∧ (wr.drew).cell? ⟨q, o + 1, none⟩ = some (.func (.func f) #[] #[]) ∧ (wr.drew).cell? ⟨g', i * 3, none⟩ = some (.int .i64 ak) ∧ (wr.drew).cell? ⟨g', i * 3 + 1, none⟩ = some (.int .i64 aw) ∧ (wr.drew).cell? ⟨g', i * 3 + 2, none⟩ = some (.int .i64 ag) ∧ (wr.drew).cell? ⟨g', p * 3, none⟩ = some (.int .i64 bk) ∧ (wr.drew).cell? ⟨g', p * 3 + 1, none⟩ = some (.int .i64 bw) ∧ (wr.drew).cell? ⟨g', p * 3 + 2, none⟩ = some (.int .i64 bg) := ⟨c0, c1, a0, a1, a2, b0, b1, b2⟩
      refine wpN_take (i := 0) (v := ?v9) rfl (by kernel_rfl) (fun _ _ _ h => h) hS (Or.inl ⟨by rfl, ?hy9⟩) ?hr9
      case hy9 => (intro wS hSw; (try dsimp only at hSw); go_simp; (try with_reducible rfl))
      try simp only [Act.put, List.setIfInBounds_toArray, List.set_cons_zero, List.set_cons_succ, List.getElem_toArray, List.getElem_cons_zero, List.getElem_cons_succ]
      refine wpN_take (i := 1) (v := ?v10) rfl (by kernel_rfl) (fun _ _ _ h => h) hS (Or.inl ⟨by rfl, ?hy10⟩) ?hr10
      case hy10 => (intro wS hSw; (try dsimp only at hSw); go_simp; (try with_reducible rfl))
      try simp only [Act.put, List.setIfInBounds_toArray, List.set_cons_zero, List.set_cons_succ, List.getElem_toArray, List.getElem_cons_zero, List.getElem_cons_succ]
      refine wpN_take (i := 2) (v := ?v11) rfl (by kernel_rfl) (fun _ _ _ h => h) hS (Or.inl ⟨by rfl, ?hy11⟩) ?hr11
      case hy11 => (intro wS hSw; (try dsimp only at hSw); go_simp; (try with_reducible rfl))
      try simp only [Act.put, List.setIfInBounds_toArray, List.set_cons_zero, List.set_cons_succ, List.getElem_toArray, List.getElem_cons_zero, List.getElem_cons_succ]
      refine wpN_take (i := 3) (v := ?v12) rfl (by kernel_rfl) (fun _ _ _ h => h) hS (Or.inl ⟨by rfl, ?hy12⟩) ?hr12
      case hy12 => (intro wS hSw; (try dsimp only at hSw); go_simp; (try with_reducible rfl))
      try simp only [Act.put, List.setIfInBounds_toArray, List.set_cons_zero, List.set_cons_succ, List.getElem_toArray, List.getElem_cons_zero, List.getElem_cons_succ]
      refine wpN_take (i := 4) (v := ?v13) rfl (by kernel_rfl) (fun _ _ _ h => h) hS (Or.inl ⟨by rfl, ?hy13⟩) ?hr13
      case hy13 => (intro wS hSw; (try dsimp only at hSw); go_simp; (try with_reducible rfl))
      try simp only [Act.put, List.setIfInBounds_toArray, List.set_cons_zero, List.set_cons_succ, List.getElem_toArray, List.getElem_cons_zero, List.getElem_cons_succ]
      refine wpN_take (i := 5) (v := ?v14) rfl (by kernel_rfl) (fun _ _ _ h => h) hS (Or.inl ⟨by rfl, ?hy14⟩) ?hr14
      case hy14 => (intro wS hSw; (try dsimp only at hSw); go_simp; (try with_reducible rfl))
      try simp only [Act.put, List.setIfInBounds_toArray, List.set_cons_zero, List.set_cons_succ, List.getElem_toArray, List.getElem_cons_zero, List.getElem_cons_succ]
      refine wpN_take (i := 6) (v := ?v15) rfl (by kernel_rfl) (fun _ _ _ h => h) hS (Or.inl ⟨by rfl, ?hy15⟩) ?hr15
      case hy15 => (intro wS hSw; (try dsimp only at hSw); go_simp; (try with_reducible rfl))
      try simp only [Act.put, List.setIfInBounds_toArray, List.set_cons_zero, List.set_cons_succ, List.getElem_toArray, List.getElem_cons_zero, List.getElem_cons_succ]
      refine wpN_take (i := 7) (v := ?v16) rfl (by kernel_rfl) (fun _ _ _ h => h) hS (Or.inl ⟨by rfl, ?hy16⟩) ?hr16
      case hy16 => (intro wS hSw; (try dsimp only at hSw); go_simp; (try with_reducible rfl))
      try simp only [Act.put, List.setIfInBounds_toArray, List.set_cons_zero, List.set_cons_succ, List.getElem_toArray, List.getElem_cons_zero, List.getElem_cons_succ]
      refine wpN_take (i := 8) (v := ?v17) rfl (by kernel_rfl) (fun _ _ _ h => h) hS (Or.inl ⟨by rfl, ?hy17⟩) ?hr17
      case hy17 => (intro wS hSw; (try dsimp only at hSw); go_simp; (try with_reducible rfl))
      try simp only [Act.put, List.setIfInBounds_toArray, List.set_cons_zero, List.set_cons_succ, List.getElem_toArray, List.getElem_cons_zero, List.getElem_cons_succ]
      refine wpN_take (i := 9) (v := ?v18) rfl (by kernel_rfl) (fun _ _ _ h => h) hS (Or.inl ⟨by rfl, ?hy18⟩) ?hr18
      case hy18 => (intro wS hSw; (try dsimp only at hSw); go_simp; (try with_reducible rfl))
      try simp only [Act.put, List.setIfInBounds_toArray, List.set_cons_zero, List.set_cons_succ, List.getElem_toArray, List.getElem_cons_zero, List.getElem_cons_succ]
      refine wpN_take (i := 10) (v := ?v19) rfl (by kernel_rfl) (fun _ _ _ h => h) hS (Or.inl ⟨by rfl, ?hy19⟩) ?hr19
      case hy19 => (intro wS hSw; (try dsimp only at hSw); go_simp; (try with_reducible rfl))
      try simp only [Act.put, List.setIfInBounds_toArray, List.set_cons_zero, List.set_cons_succ, List.getElem_toArray, List.getElem_cons_zero, List.getElem_cons_succ]
      refine wpN_take (i := 11) (v := ?v20) rfl (by kernel_rfl) (fun _ _ _ h => h) hS (Or.inl ⟨by rfl, ?hy20⟩) ?hr20
      case hy20 => (intro wS hSw; (try dsimp only at hSw); go_simp; (try with_reducible rfl))
      try simp only [Act.put, List.setIfInBounds_toArray, List.set_cons_zero, List.set_cons_succ, List.getElem_toArray, List.getElem_cons_zero, List.getElem_cons_succ]
      refine wpN_take (i := 12) (v := ?v21) rfl (by kernel_rfl) (fun _ _ _ h => h) hS (Or.inl ⟨by rfl, ?hy21⟩) ?hr21
      case hy21 => (intro wS hSw; (try dsimp only at hSw); go_simp; (try with_reducible rfl))
      try simp only [Act.put, List.setIfInBounds_toArray, List.set_cons_zero, List.set_cons_succ, List.getElem_toArray, List.getElem_cons_zero, List.getElem_cons_succ]
      refine wpN_take (i := 13) (v := ?v22) rfl (by kernel_rfl) (fun _ _ _ h => h) hS (Or.inl ⟨by rfl, ?hy22⟩) ?hr22
      case hy22 => (intro wS hSw; (try dsimp only at hSw); go_simp; (try with_reducible rfl))
      try simp only [Act.put, List.setIfInBounds_toArray, List.set_cons_zero, List.set_cons_succ, List.getElem_toArray, List.getElem_cons_zero, List.getElem_cons_succ]
      refine wpN_take (i := 14) (v := ?v23) rfl (by kernel_rfl) (fun _ _ _ h => h) hS (Or.inl ⟨by rfl, ?hy23⟩) ?hr23
      case hy23 => (intro wS hSw; (try dsimp only at hSw); go_simp; (try with_reducible rfl))
      try simp only [Act.put, List.setIfInBounds_toArray, List.set_cons_zero, List.set_cons_succ, List.getElem_toArray, List.getElem_cons_zero, List.getElem_cons_succ]
      refine wpN_take (i := 15) (v := ?v24) rfl (by kernel_rfl) (fun _ _ _ h => h) hS (Or.inl ⟨by rfl, ?hy24⟩) ?hr24
      case hy24 => (intro wS hSw; (try dsimp only at hSw); go_simp; (try with_reducible rfl))
      try simp only [Act.put, List.setIfInBounds_toArray, List.set_cons_zero, List.set_cons_succ, List.getElem_toArray, List.getElem_cons_zero, List.getElem_cons_succ]
      refine wpN_take (i := 16) (v := ?v25) rfl (by kernel_rfl) (fun _ _ _ h => h) hS (Or.inl ⟨by rfl, ?hy25⟩) ?hr25
      case hy25 => (intro wS hSw; (try dsimp only at hSw); go_simp; (try with_reducible rfl))
      try simp only [Act.put, List.setIfInBounds_toArray, List.set_cons_zero, List.set_cons_succ, List.getElem_toArray, List.getElem_cons_zero, List.getElem_cons_succ]
      refine wpN_take (i := 17) (v := ?v26) rfl (by kernel_rfl) (fun _ _ _ h => h) hS (Or.inl ⟨by rfl, ?hy26⟩) ?hr26
      case hy26 => (intro wS hSw; (try dsimp only at hSw); go_simp; (try with_reducible rfl))
      try simp only [Act.put, List.setIfInBounds_toArray, List.set_cons_zero, List.set_cons_succ, List.getElem_toArray, List.getElem_cons_zero, List.getElem_cons_succ]
      refine wpN_step (i := 18) (by kernel_rfl) rfl (fun K hK => ?_)
      have hen := hf.enters
      go_simp
      clear hen
      refine (hf.calls ⟨ak, aw, ag⟩ ⟨bk, bw, bg⟩ _).mono ?_
      rintro e w6 ⟨rfl, hb6⟩
      have hb6' : Below wr.heap.size wr w6 := (Below.refl _ _).drew.trans hb6
      have q0 := (hq5.below hb6').cell ho4
      have q1 := (hq5.below hb6').cell hf4
      have hr6 := hr5.below hb6'
      have hq6 := hq5.below hb6'
      have B6 := B5.below hb6'
      have K6 := (Keep.refl (fun _ => True) wr).below hb6'
      have a0 := K6 _ _ _ trivial a0; have a1 := K6 _ _ _ trivial a1; have a2 := K6 _ _ _ trivial a2
      have b0 := K6 _ _ _ trivial b0; have b1 := K6 _ _ _ trivial b1; have b2 := K6 _ _ _ trivial b2
      have hS : (w6).cell? ⟨q, o, none⟩ = some (.slice (some ⟨g', 0, none⟩) N cap) ∧ (w6).cell? ⟨q, o + 1, none⟩ = some (.func (.func f) #[] #[]) ∧ (w6).cell? ⟨g', i * 3, none⟩ = some (.int .i64 ak) ∧ (w6).cell? ⟨g', i * 3 + 1, none⟩ = some (.int .i64 aw) ∧ (w6).cell? ⟨g', i * 3 + 2, none⟩ = some (.int .i64 ag) ∧ (w6).cell? ⟨g', p * 3, none⟩ = some (.int .i64 bk) ∧ (w6).cell? ⟨g', p * 3 + 1, none⟩ = some (.int .i64 bw) ∧ (w6).cell? ⟨g', p * 3 + 2, none⟩ = some (.int .i64 bg) := ⟨q0, q1, a0, a1, a2, b0, b1, b2⟩
      refine hK.out _ _ (fun _ => hS) ?_
      clear hK K
      try simp only [Act.put, List.setIfInBounds_toArray, List.set_cons_zero, List.set_cons_succ, List.getElem_toArray, List.getElem_cons_zero, List.getElem_cons_succ]
      refine wpN_pure (i := 19) (v := ?v27) rfl (by kernel_rfl) (fun _ _ _ h => h) (Or.inl ⟨by rfl, ?hy27⟩) ?hr27
      case hy27 => (intro wS hSw; go_simp; (try with_reducible rfl))
      try simp only [Act.put, List.setIfInBounds_toArray, List.set_cons_zero, List.set_cons_succ, List.getElem_toArray, List.getElem_cons_zero, List.getElem_cons_succ]
      refine wpN_done (by kernel_rfl) ?_
      refine NoPanic.normal ?_
      obtain ⟨r, hrr⟩ : ∃ r, lt ⟨ak, aw, ag⟩ ⟨bk, bw, bg⟩ = r := ⟨_, rfl⟩
      rw [hrr]
      have Hrr := Lib.hid hrr; clear hrr
      cases r
      · go_wp2_with fail
        (try simp only [Exit.inBlock, Exit.then]); refine bodyPost_ret (results_none rfl _ _ _) rfl ?_
        refine ⟨rfl, _, l', by rw [hcs]; exact hq6, hr6, hpm.out, ?_, hgl, B6⟩
        exact hu.out.done fun _ => by rw [Hp'.out, Ha.out, Hb.out]; exact Hrr.out
      · go_wp2_with fail
        refine wp_region_noPanic (wp_region_need (S := fun w' => w'.cell? ⟨q, o, none⟩ = some (.slice (some ⟨g', 0, none⟩) N cap) ∧ w'.cell? ⟨g', i * 3, none⟩ = some (.int .i64 ak) ∧ w'.cell? ⟨g', i * 3 + 1, none⟩ = some (.int .i64 aw) ∧ w'.cell? ⟨g', i * 3 + 2, none⟩ = some (.int .i64 ag) ∧ w'.cell? ⟨g', p * 3, none⟩ = some (.int .i64 bk) ∧ w'.cell? ⟨g', p * 3 + 1, none⟩ = some (.int .i64 bw) ∧ w'.cell? ⟨g', p * 3 + 2, none⟩ = some (.int .i64 bg)) (by kernel_rfl) ?_)
        have hS : (w6.drew).cell? ⟨q, o, none⟩ = some (.slice (some ⟨g', 0, none⟩) N cap) ∧ (w6.drew).cell? ⟨g', i * 3, none⟩ = some (.int .i64 ak) ∧ (w6.drew).cell? ⟨g', i * 3 + 1, none⟩ = some (.int .i64 aw) ∧ (w6.drew).cell? ⟨g', i * 3 + 2, none⟩ = some (.int .i64 ag) ∧ (w6.drew).cell? ⟨g', p * 3, none⟩ = some (.int .i64 bk) ∧ (w6.drew).cell? ⟨g', p * 3 + 1, none⟩ = some (.int .i64 bw) ∧ (w6.drew).cell? ⟨g', p * 3 + 2, none⟩ = some (.int .i64 bg) := ⟨q0, a0, a1, a2, b0, b1, b2⟩
        refine wpN_pure (i := 0) (v := ?v28) rfl (by kernel_rfl) (fun _ _ _ h => h) (Or.inl ⟨by rfl, ?hy28⟩) ?hr28
        case hy28 => (intro wS hSw; go_simp; (try with_reducible rfl))
        try simp only [Act.put, List.setIfInBounds_toArray, List.set_cons_zero, List.set_cons_succ, List.getElem_toArray, List.getElem_cons_zero, List.getElem_cons_succ]
        refine wpN_pure (i := 1) (v := ?v29) rfl (by kernel_rfl) (fun _ _ _ h => h) (Or.inl ⟨by rfl, ?hy29⟩) ?hr29
        case hy29 => (intro wS hSw; go_simp; (try with_reducible rfl))
        try simp only [Act.put, List.setIfInBounds_toArray, List.set_cons_zero, List.set_cons_succ, List.getElem_toArray, List.getElem_cons_zero, List.getElem_cons_succ]
        refine wpN_pure (i := 2) (v := ?v30) rfl (by kernel_rfl) (fun _ _ _ h => h) (Or.inl ⟨by rfl, ?hy30⟩) ?hr30
        case hy30 => (intro wS hSw; go_simp; (try with_reducible rfl))
        try simp only [Act.put, List.setIfInBounds_toArray, List.set_cons_zero, List.set_cons_succ, List.getElem_toArray, List.getElem_cons_zero, List.getElem_cons_succ]
        refine wpN_take (i := 3) (v := ?v31) rfl (by kernel_rfl) (fun _ _ _ h => h) hS (Or.inl ⟨by rfl, ?hy31⟩) ?hr31
        case hy31 => (intro wS hSw; (try dsimp only at hSw); go_simp; (try with_reducible rfl))
        try simp only [Act.put, List.setIfInBounds_toArray, List.set_cons_zero, List.set_cons_succ, List.getElem_toArray, List.getElem_cons_zero, List.getElem_cons_succ]
        refine wpN_pure (i := 4) (v := ?v32) rfl (by kernel_rfl) (fun _ _ _ h => h) (Or.inl ⟨by rfl, ?hy32⟩) ?hr32
        case hy32 => (intro wS hSw; go_simp; (try with_reducible rfl))
        try simp only [Act.put, List.setIfInBounds_toArray, List.set_cons_zero, List.set_cons_succ, List.getElem_toArray, List.getElem_cons_zero, List.getElem_cons_succ]
        refine wpN_pure (i := 5) (v := ?v33) rfl (by kernel_rfl) (fun _ _ _ h => h) (Or.inl ⟨by rfl, ?hy33⟩) ?hr33
        case hy33 => (intro wS hSw; go_simp; (try with_reducible rfl))
        try simp only [Act.put, List.setIfInBounds_toArray, List.set_cons_zero, List.set_cons_succ, List.getElem_toArray, List.getElem_cons_zero, List.getElem_cons_succ]
        refine wpN_pure (i := 6) (v := ?v34) rfl (by kernel_rfl) (fun _ _ _ h => h) (Or.inl ⟨by rfl, ?hy34⟩) ?hr34
        case hy34 => (intro wS hSw; go_simp; (try with_reducible rfl))
        try simp only [Act.put, List.setIfInBounds_toArray, List.set_cons_zero, List.set_cons_succ, List.getElem_toArray, List.getElem_cons_zero, List.getElem_cons_succ]
        refine wpN_pure (i := 7) (v := ?v35) rfl (by kernel_rfl) (fun _ _ _ h => h) (Or.inl ⟨by rfl, ?hy35⟩) ?hr35
        case hy35 => (intro wS hSw; go_simp; (try with_reducible rfl))
        try simp only [Act.put, List.setIfInBounds_toArray, List.set_cons_zero, List.set_cons_succ, List.getElem_toArray, List.getElem_cons_zero, List.getElem_cons_succ]
        refine wpN_take (i := 8) (v := ?v36) rfl (by kernel_rfl) (fun _ _ _ h => h) hS (Or.inl ⟨by rfl, ?hy36⟩) ?hr36
        case hy36 => (intro wS hSw; (try dsimp only at hSw); go_simp; (try with_reducible rfl))
        try simp only [Act.put, List.setIfInBounds_toArray, List.set_cons_zero, List.set_cons_succ, List.getElem_toArray, List.getElem_cons_zero, List.getElem_cons_succ]
        refine wpN_pure (i := 9) (v := ?v37) rfl (by kernel_rfl) (fun _ _ _ h => h) (Or.inl ⟨by rfl, ?hy37⟩) ?hr37
        case hy37 => (intro wS hSw; go_simp; (try with_reducible rfl))
        try simp only [Act.put, List.setIfInBounds_toArray, List.set_cons_zero, List.set_cons_succ, List.getElem_toArray, List.getElem_cons_zero, List.getElem_cons_succ]
        refine wpN_pure (i := 10) (v := ?v38) rfl (by kernel_rfl) (fun _ _ _ h => h) (Or.inl ⟨by rfl, ?hy38⟩) ?hr38
        case hy38 => (intro wS hSw; go_simp; (try with_reducible rfl))
        try simp only [Act.put, List.setIfInBounds_toArray, List.set_cons_zero, List.set_cons_succ, List.getElem_toArray, List.getElem_cons_zero, List.getElem_cons_succ]
        refine wpN_pure (i := 11) (v := ?v39) rfl (by kernel_rfl) (fun _ _ _ h => h) (Or.inl ⟨by rfl, ?hy39⟩) ?hr39
        case hy39 => (intro wS hSw; go_simp; (try with_reducible rfl))
        try simp only [Act.put, List.setIfInBounds_toArray, List.set_cons_zero, List.set_cons_succ, List.getElem_toArray, List.getElem_cons_zero, List.getElem_cons_succ]
        refine wpN_pure (i := 12) (v := ?v40) rfl (by kernel_rfl) (fun _ _ _ h => h) (Or.inl ⟨by rfl, ?hy40⟩) ?hr40
        case hy40 => (intro wS hSw; go_simp; (try with_reducible rfl))
        try simp only [Act.put, List.setIfInBounds_toArray, List.set_cons_zero, List.set_cons_succ, List.getElem_toArray, List.getElem_cons_zero, List.getElem_cons_succ]
        refine wpN_take (i := 13) (v := ?v41) rfl (by kernel_rfl) (fun _ _ _ h => h) hS (Or.inl ⟨by rfl, ?hy41⟩) ?hr41
        case hy41 => (intro wS hSw; (try dsimp only at hSw); go_simp; (try with_reducible rfl))
        try simp only [Act.put, List.setIfInBounds_toArray, List.set_cons_zero, List.set_cons_succ, List.getElem_toArray, List.getElem_cons_zero, List.getElem_cons_succ]
        refine wpN_pure (i := 14) (v := ?v42) rfl (by kernel_rfl) (fun _ _ _ h => h) (Or.inl ⟨by rfl, ?hy42⟩) ?hr42
        case hy42 => (intro wS hSw; go_simp; (try with_reducible rfl))
        try simp only [Act.put, List.setIfInBounds_toArray, List.set_cons_zero, List.set_cons_succ, List.getElem_toArray, List.getElem_cons_zero, List.getElem_cons_succ]
        refine wpN_pure (i := 15) (v := ?v43) rfl (by kernel_rfl) (fun _ _ _ h => h) (Or.inl ⟨by rfl, ?hy43⟩) ?hr43
        case hy43 => (intro wS hSw; go_simp; (try with_reducible rfl))
        try simp only [Act.put, List.setIfInBounds_toArray, List.set_cons_zero, List.set_cons_succ, List.getElem_toArray, List.getElem_cons_zero, List.getElem_cons_succ]
        refine wpN_take (i := 16) (v := ?v44) rfl (by kernel_rfl) (fun _ _ _ h => h) hS (Or.inl ⟨by rfl, ?hy44⟩) ?hr44
        case hy44 => (intro wS hSw; (try dsimp only at hSw); go_simp; (try with_reducible rfl))
        try simp only [Act.put, List.setIfInBounds_toArray, List.set_cons_zero, List.set_cons_succ, List.getElem_toArray, List.getElem_cons_zero, List.getElem_cons_succ]
        refine wpN_pure (i := 17) (v := ?v45) rfl (by kernel_rfl) (fun _ _ _ h => h) (Or.inl ⟨by rfl, ?hy45⟩) ?hr45
        case hy45 => (intro wS hSw; go_simp; (try with_reducible rfl))
        try simp only [Act.put, List.setIfInBounds_toArray, List.set_cons_zero, List.set_cons_succ, List.getElem_toArray, List.getElem_cons_zero, List.getElem_cons_succ]
        refine wpN_pure (i := 18) (v := ?v46) rfl (by kernel_rfl) (fun _ _ _ h => h) (Or.inl ⟨by rfl, ?hy46⟩) ?hr46
        case hy46 => (intro wS hSw; go_simp; (try with_reducible rfl))
        try simp only [Act.put, List.setIfInBounds_toArray, List.set_cons_zero, List.set_cons_succ, List.getElem_toArray, List.getElem_cons_zero, List.getElem_cons_succ]
        refine wpN_pure (i := 19) (v := ?v47) rfl (by kernel_rfl) (fun _ _ _ h => h) (Or.inl ⟨by rfl, ?hy47⟩) ?hr47
        case hy47 => (intro wS hSw; go_simp; (try with_reducible rfl))
        try simp only [Act.put, List.setIfInBounds_toArray, List.set_cons_zero, List.set_cons_succ, List.getElem_toArray, List.getElem_cons_zero, List.getElem_cons_succ]
        refine wpN_take (i := 20) (v := ?v48) rfl (by kernel_rfl) (fun _ _ _ h => h) hS (Or.inl ⟨by rfl, ?hy48⟩) ?hr48
        case hy48 => (intro wS hSw; (try dsimp only at hSw); go_simp; (try with_reducible rfl))
        try simp only [Act.put, List.setIfInBounds_toArray, List.set_cons_zero, List.set_cons_succ, List.getElem_toArray, List.getElem_cons_zero, List.getElem_cons_succ]
        refine wpN_pure (i := 21) (v := ?v49) rfl (by kernel_rfl) (fun _ _ _ h => h) (Or.inl ⟨by rfl, ?hy49⟩) ?hr49
        case hy49 => (intro wS hSw; go_simp; (try with_reducible rfl))
        try simp only [Act.put, List.setIfInBounds_toArray, List.set_cons_zero, List.set_cons_succ, List.getElem_toArray, List.getElem_cons_zero, List.getElem_cons_succ]
        refine wpN_pure (i := 22) (v := ?v50) rfl (by kernel_rfl) (fun _ _ _ h => h) (Or.inl ⟨by rfl, ?hy50⟩) ?hr50
        case hy50 => (intro wS hSw; go_simp; (try with_reducible rfl))
        try simp only [Act.put, List.setIfInBounds_toArray, List.set_cons_zero, List.set_cons_succ, List.getElem_toArray, List.getElem_cons_zero, List.getElem_cons_succ]
        refine wpN_take (i := 23) (v := ?v51) rfl (by kernel_rfl) (fun _ _ _ h => h) hS (Or.inl ⟨by rfl, ?hy51⟩) ?hr51
        case hy51 => (intro wS hSw; (try dsimp only at hSw); go_simp; (try with_reducible rfl))
        try simp only [Act.put, List.setIfInBounds_toArray, List.set_cons_zero, List.set_cons_succ, List.getElem_toArray, List.getElem_cons_zero, List.getElem_cons_succ]
        refine wpN_pure (i := 24) (v := ?v52) rfl (by kernel_rfl) (fun _ _ _ h => h) (Or.inl ⟨by rfl, ?hy52⟩) ?hr52
        case hy52 => (intro wS hSw; go_simp; (try with_reducible rfl))
        try simp only [Act.put, List.setIfInBounds_toArray, List.set_cons_zero, List.set_cons_succ, List.getElem_toArray, List.getElem_cons_zero, List.getElem_cons_succ]
        have hr7 := hr6.below (Below.refl _ _).drew
        have hq7 := hq6.below (Below.refl _ _).drew
        have B7 := B6.drew
        obtain ⟨w7, hw7⟩ : ∃ w7, w6.drew = w7 := ⟨_, rfl⟩
        rw [hw7] at hr7 hq7 B7 hS ⊢
        obtain ⟨g7, _, hve, -, -, -, hcell, hfree⟩ := hr7.open_ (by rw [hl'.out]; omega)
        have hge : g' = g7 := by injection hve with q1 q2 q3; cases q1; rfl
        subst hge
        clear hve
        have f1 := hfree (i * 3); have f2 := hfree (i * 3 + 1); have f3 := hfree (i * 3 + 2)
        have f4 := hfree (p * 3); have f5 := hfree (p * 3 + 1); have f6 := hfree (p * 3 + 2)
        obtain ⟨a0, a1, a2⟩ := hcell i (by rw [hl'.out]; omega)
        obtain ⟨b0, b1, b2⟩ := hcell p (by rw [hl'.out]; omega)
        refine wpN_step (i := 25) (by kernel_rfl) rfl (fun K hK => ?_)
        go_simp
        have Ra : (⟨ak, aw, ag⟩ : Ent) = Hp.at_ l' i := Ha.out.symm
        have Rb : (⟨bk, bw, bg⟩ : Ent) = Hp.at_ l' p := Hb.out.symm
        have hr8 := hr7.set i (by rw [hl'.out]; omega) ⟨bk, bw, bg⟩ (g := g') (cap := cap) (by rw [hl'.out])
        dsimp only at hr8
        have hq8 : Blk (((w7.setCell ⟨g', i * 3, none⟩ (.int .i64 bk)).setCell ⟨g', i * 3 + 1, none⟩ (.int .i64 bw)).setCell ⟨g', i * 3 + 2, none⟩ (.int .i64 bg)) q cs4 t := ((hq7.far _ _ (Ne.symm hgq)).far _ _ (Ne.symm hgq)).far _ _ (Ne.symm hgq)
        have hT : Turn q v g' ∨ w.heap.size ≤ g' := (hgl g' rfl).imp .inr id
        have B8 := ((B7.set ⟨g', i * 3, none⟩ (.int .i64 bk) hT).set ⟨g', i * 3 + 1, none⟩ (.int .i64 bw) hT).set ⟨g', i * 3 + 2, none⟩ (.int .i64 bg) hT
        obtain ⟨w8, hw8⟩ : ∃ w8, ((w7.setCell ⟨g', i * 3, none⟩ (.int .i64 bk)).setCell ⟨g', i * 3 + 1, none⟩ (.int .i64 bw)).setCell ⟨g', i * 3 + 2, none⟩ (.int .i64 bg) = w8 := ⟨_, rfl⟩
        rw [hw8] at hr8 hq8 B8 ⊢
        clear hw8 hr7 hq7 B7 hS
        have hl8 : (l'.set i ⟨bk, bw, bg⟩).length = N := by rw [List.length_set, hl'.out]
        obtain ⟨g8, _, hve, -, -, -, hcell8, hfree8⟩ := hr8.open_ (by rw [hl8]; omega)
        have hge : g' = g8 := by injection hve with q1 q2 q3; cases q1; rfl
        subst hge
        clear hve
        have f4 := hfree8 (p * 3); have f5 := hfree8 (p * 3 + 1); have f6 := hfree8 (p * 3 + 2)
        clear f1 f2 f3
        obtain ⟨d0, d1, d2⟩ := hcell8 p (by rw [hl8]; omega)
        refine hK.out _ _ (fun h => absurd h (by decide)) ?_
        clear hK K
        try simp only [Act.put, List.setIfInBounds_toArray, List.set_cons_zero, List.set_cons_succ, List.getElem_toArray, List.getElem_cons_zero, List.getElem_cons_succ]
        refine wpN_pure (i := 26) (v := ?v53) rfl (by kernel_rfl) (fun _ _ _ h => h) (Or.inl ⟨by rfl, ?hy53⟩) ?hr53
        case hy53 => (intro wS hSw; go_simp; (try with_reducible rfl))
        try simp only [Act.put, List.setIfInBounds_toArray, List.set_cons_zero, List.set_cons_succ, List.getElem_toArray, List.getElem_cons_zero, List.getElem_cons_succ]
        refine wpN_step (i := 27) (by kernel_rfl) rfl (fun K hK => ?_)
        go_simp
        have hr9 := hr8.set p (by rw [hl8]; omega) ⟨ak, aw, ag⟩ (g := g') (cap := cap) (by rw [hl8])
        dsimp only at hr9
        have hq9 : Blk (((w8.setCell ⟨g', p * 3, none⟩ (.int .i64 ak)).setCell ⟨g', p * 3 + 1, none⟩ (.int .i64 aw)).setCell ⟨g', p * 3 + 2, none⟩ (.int .i64 ag)) q cs4 t := ((hq8.far _ _ (Ne.symm hgq)).far _ _ (Ne.symm hgq)).far _ _ (Ne.symm hgq)
        have B9 := ((B8.set ⟨g', p * 3, none⟩ (.int .i64 ak) hT).set ⟨g', p * 3 + 1, none⟩ (.int .i64 aw) hT).set ⟨g', p * 3 + 2, none⟩ (.int .i64 ag) hT
        have hsw : (l'.set i ⟨bk, bw, bg⟩).set p ⟨ak, aw, ag⟩ = Hp.swap l' i p := by unfold Hp.swap; rw [← Ra, ← Rb]
        rw [hsw] at hr9
        obtain ⟨w9, hw9⟩ : ∃ w9, ((w8.setCell ⟨g', p * 3, none⟩ (.int .i64 ak)).setCell ⟨g', p * 3 + 1, none⟩ (.int .i64 aw)).setCell ⟨g', p * 3 + 2, none⟩ (.int .i64 ag) = w9 := ⟨_, rfl⟩
        rw [hw9] at hr9 hq9 B9 ⊢
        clear hw9
        refine hK.out _ _ (fun h => absurd h (by decide)) ?_
        clear hK K
        try simp only [Act.put, List.setIfInBounds_toArray, List.set_cons_zero, List.set_cons_succ, List.getElem_toArray, List.getElem_cons_zero, List.getElem_cons_succ]
        refine wpN_done (by kernel_rfl) ?_
        refine NoPanic.normal ?_
        have hstep := Lib.hid (hu.out.step O (by rw [hl'.out]; omega) h0 (by rw [Hp'.out, Ha.out, Hb.out]; exact Hrr.out))
        have hperm := Lib.hid ((Hp.swap_perm l' i p (by rw [hl'.out]; omega) (by rw [hl'.out]; omega)).trans hpm.out)
        clear hu hpm
        go_wp2_with fail
        go_roundw
        case rel => exact ⟨p, Hp.swap l' i p, rfl, by omega, by show _ = _; rw [Hp.length_swap, hl'.out], hperm.out, by have := hstep.out; rwa [Hp'.out] at this, hr9, hq9, B9⟩
        case measure => simp [intOf]; omega
    · go_wp2_with fail
      go_end0
      refine ⟨rfl, _, l', by rw [hcs]; exact hq5, hr5, hpm.out, ?_, hgl, B5⟩
      exact hu.out.done fun h => absurd h h0
end Go.Proofs.Ytplfbdkljnblmaa

