/-
  Queue.waits and heap.top: those ahead that wait no more go; the first that waits is told. A region that draws its order where several operations can come up.
-/
import Derived.Test.YtplfbdkljnblmaaRowQOncep6
import Derived.Test.YtplfbdkljnblmaaRowQOncep2
import Derived.RegionTactic
set_option linter.unusedVariables false
set_option linter.unusedSimpArgs false
namespace Go.Proofs.Ytplfbdkljnblmaa
open Go.RowKit Go.Maps

set_option maxRecDepth 100000 in
set_option maxHeartbeats 4000000 in
theorem waits_q {w : World} {q m n : Nat} {cs : Array Value} {t : TypeId} {L : List Ent} (hq : Blk w q cs t) (h7 : cs[7]? = some (.map (some m))) (hm : MapOf w m n L) (x : Ent) (hx : W64 x.key) :
    Calls Try.prog 29 #[.pointer (some ⟨q, 0, none⟩), x.v] w fun e w' => e = .returned (.bool (decide (findK L x.key = some x))) ∧ Below w.heap.size w w' := by
  obtain ⟨y, hy⟩ : ∃ y, (findK L x.key).getD Hp.z0 = y := ⟨_, rfl⟩
  obtain ⟨ok, hok⟩ : ∃ ok, (findK L x.key).isSome = ok := ⟨_, rfl⟩
  have Hl : Hid (∀ w', MapOf w' m n L → (Instr.lookup 60 (.map (some m)) (.int .i64 x.key) true).run Try.prog w' = .ok (.tuple #[y.v, .bool ok]) w') := fun w' h => by
    rw [← hy, ← hok]; exact h.look hx
  have Hr : Hid (decide (findK L x.key = some x) = (ok && decide (y = x))) := by
    show _ = _
    rw [← hy, ← hok]
    cases findK L x.key <;> simp
  rw [Hr.out]
  clear hy hok Hr
  obtain ⟨xk, xw, xg⟩ := x
  obtain ⟨yk, yw, yg⟩ := y
  unfold Ent.v at *
  dsimp only at *
  obtain ⟨wB, hwB⟩ : ∃ wB, w.alloc (.cells #[.int .i64 xk, .int .i64 xw, .int .i64 xg] 30) = wB := ⟨_, rfl⟩
  have B0 : Below w.heap.size w wB := by rw [← hwB]; exact (Below.refl _ _).alloc (Nat.le_refl _) _
  have x0 : Blk wB w.heap.size #[.int .i64 xk, .int .i64 xw, .int .i64 xg] 30 := by rw [← hwB]; exact Blk.new _ _ _ rfl
  have hqB := hq.below B0
  have hmB := hm.below B0
  go_enter Try.func29, Try.ntmps29
  go_wp2_with fail
  try rw [hwB]
  clear hwB
  refine wp_region_noPanic (wp_region_need (S := fun w' => w'.cell? ⟨q, 7, none⟩ = some (.map (some m)) ∧ w'.cell? ⟨w.heap.size, 0, none⟩ = some (.int .i64 xk) ∧ (Instr.lookup 60 (.map (some m)) (.int .i64 xk) true).run Try.prog w' = .ok (.tuple #[.agg #[.int .i64 yk, .int .i64 yw, .int .i64 yg], .bool ok]) w') (by kernel_rfl) ?_)
  have hS : (wB.drew).cell? ⟨q, 7, none⟩ = some (.map (some m)) ∧ (wB.drew).cell? ⟨w.heap.size, 0, none⟩ = some (.int .i64 xk) ∧ (Instr.lookup 60 (.map (some m)) (.int .i64 xk) true).run Try.prog (wB.drew) = .ok (.tuple #[.agg #[.int .i64 yk, .int .i64 yw, .int .i64 yg], .bool ok]) (wB.drew) := ⟨hqB.drew.cell h7, x0.drew.cell rfl, Hl.out _ hmB.drew⟩
  refine wpN_take (i := 0) (v := ?v1) rfl (by kernel_rfl) (fun _ _ _ h => h) hS (Or.inl ⟨by rfl, ?hy1⟩) ?hr1
  case hy1 => (intro wS hSw; (try dsimp only at hSw); go_simp; (try with_reducible rfl))
  try simp only [Act.put, List.setIfInBounds_toArray, List.set_cons_zero, List.set_cons_succ, List.getElem_toArray, List.getElem_cons_zero, List.getElem_cons_succ]
  refine wpN_take (i := 1) (v := ?v2) rfl (by kernel_rfl) (fun _ _ _ h => h) hS (Or.inl ⟨by rfl, ?hy2⟩) ?hr2
  case hy2 => (intro wS hSw; (try dsimp only at hSw); go_simp; (try with_reducible rfl))
  try simp only [Act.put, List.setIfInBounds_toArray, List.set_cons_zero, List.set_cons_succ, List.getElem_toArray, List.getElem_cons_zero, List.getElem_cons_succ]
  refine wpN_take (i := 2) (v := ?v3) rfl (by kernel_rfl) (fun _ _ _ h => h) hS (Or.inl ⟨by rfl, ?hy3⟩) ?hr3
  case hy3 => (intro wS hSw; (try dsimp only at hSw); go_simp; (try with_reducible rfl))
  try simp only [Act.put, List.setIfInBounds_toArray, List.set_cons_zero, List.set_cons_succ, List.getElem_toArray, List.getElem_cons_zero, List.getElem_cons_succ]
  refine wpN_take (i := 3) (v := ?v4) rfl (by kernel_rfl) (fun _ _ _ h => h) hS (Or.inl ⟨by rfl, ?hy4⟩) ?hr4
  case hy4 => (intro wS hSw; (try dsimp only at hSw); go_simp; (try with_reducible rfl))
  try simp only [Act.put, List.setIfInBounds_toArray, List.set_cons_zero, List.set_cons_succ, List.getElem_toArray, List.getElem_cons_zero, List.getElem_cons_succ]
  refine wpN_take (i := 4) (v := ?v5) rfl (by kernel_rfl) (fun _ _ _ h => h) hS (Or.inl ⟨by rfl, ?hy5⟩) ?hr5
  case hy5 => (intro wS hSw; (try dsimp only at hSw); go_simp; (try with_reducible rfl))
  try simp only [Act.put, List.setIfInBounds_toArray, List.set_cons_zero, List.set_cons_succ, List.getElem_toArray, List.getElem_cons_zero, List.getElem_cons_succ]
  refine wpN_take (i := 5) (v := ?v6) rfl (by kernel_rfl) (fun _ _ _ h => h) hS (Or.inl ⟨by rfl, ?hy6⟩) ?hr6
  case hy6 => (intro wS hSw; (try dsimp only at hSw); go_simp; (try with_reducible rfl))
  try simp only [Act.put, List.setIfInBounds_toArray, List.set_cons_zero, List.set_cons_succ, List.getElem_toArray, List.getElem_cons_zero, List.getElem_cons_succ]
  refine wpN_take (i := 6) (v := ?v7) rfl (by kernel_rfl) (fun _ _ _ h => h) hS (Or.inl ⟨by rfl, ?hy7⟩) ?hr7
  case hy7 => (intro wS hSw; (try dsimp only at hSw); go_simp; (try with_reducible rfl))
  try simp only [Act.put, List.setIfInBounds_toArray, List.set_cons_zero, List.set_cons_succ, List.getElem_toArray, List.getElem_cons_zero, List.getElem_cons_succ]
  refine wpN_pure (i := 7) (v := ?v8) rfl (by kernel_rfl) (fun _ _ _ h => h) (Or.inl ⟨by rfl, ?hy8⟩) ?hr8
  case hy8 => (intro wS hSw; go_simp; (try with_reducible rfl))
  try simp only [Act.put, List.setIfInBounds_toArray, List.set_cons_zero, List.set_cons_succ, List.getElem_toArray, List.getElem_cons_zero, List.getElem_cons_succ]
  refine wpN_pure (i := 8) (v := ?v9) rfl (by kernel_rfl) (fun _ _ _ h => h) (Or.inl ⟨by rfl, ?hy9⟩) ?hr9
  case hy9 => (intro wS hSw; go_simp; (try with_reducible rfl))
  try simp only [Act.put, List.setIfInBounds_toArray, List.set_cons_zero, List.set_cons_succ, List.getElem_toArray, List.getElem_cons_zero, List.getElem_cons_succ]
  refine wpN_pure (i := 9) (v := ?v10) rfl (by kernel_rfl) (fun _ _ _ h => h) (Or.inl ⟨by rfl, ?hy10⟩) ?hr10
  case hy10 => (intro wS hSw; go_simp; (try with_reducible rfl))
  try simp only [Act.put, List.setIfInBounds_toArray, List.set_cons_zero, List.set_cons_succ, List.getElem_toArray, List.getElem_cons_zero, List.getElem_cons_succ]
  refine wpN_step (i := 10) (by kernel_rfl) rfl (fun K hK => ?_)
  go_simp
  have hx1 := x0.alloc (.cells #[.int .i64 0, .int .i64 0, .int .i64 0] 30)
  have hq1 := hqB.alloc (.cells #[.int .i64 0, .int .i64 0, .int .i64 0] 30)
  have B1 := B0.alloc B0.size (.cells #[.int .i64 0, .int .i64 0, .int .i64 0] 30)
  have hm1 := hm.below B1
  have y1 : Blk (wB.alloc (.cells #[.int .i64 0, .int .i64 0, .int .i64 0] 30)) wB.heap.size _ _ := Blk.new _ _ _ rfl
  obtain ⟨w1, hw1⟩ : ∃ w1, (wB.alloc (.cells #[.int .i64 0, .int .i64 0, .int .i64 0] 30)).drew = w1 := ⟨_, rfl⟩
  have hx2 := hx1.drew
  have hq2 := hq1.drew
  have B2 := B1.drew
  have hm2 := hm1.drew
  have y2 := y1.drew
  rw [hw1] at hx2 hq2 B2 hm2 y2 ⊢
  clear hw1 hx1 hq1 B1 hm1 y1
  have hS : (w1).cell? ⟨q, 7, none⟩ = some (.map (some m)) ∧ (w1).cell? ⟨w.heap.size, 0, none⟩ = some (.int .i64 xk) ∧ (Instr.lookup 60 (.map (some m)) (.int .i64 xk) true).run Try.prog (w1) = .ok (.tuple #[.agg #[.int .i64 yk, .int .i64 yw, .int .i64 yg], .bool ok]) (w1) := ⟨hq2.cell h7, hx2.cell rfl, Hl.out _ hm2⟩
  refine hK.out _ _ (fun _ => hS) ?_
  clear hK K
  try simp only [Act.put, List.setIfInBounds_toArray, List.set_cons_zero, List.set_cons_succ, List.getElem_toArray, List.getElem_cons_zero, List.getElem_cons_succ]
  have f1 := y2.free 0; have f2 := y2.free 1; have f3 := y2.free 2
  have d0 := y2.cell (i := 0) rfl; have d1 := y2.cell (i := 1) rfl; have d2 := y2.cell (i := 2) rfl
  refine wpN_step (i := 11) (by kernel_rfl) rfl (fun K hK => ?_)
  go_simp
  obtain ⟨Y, hY⟩ : ∃ Y, wB.heap.size = Y := ⟨_, rfl⟩
  have hYs : w.heap.size < Y := by rw [← hY]; have := x0.lt; exact this
  rw [hY] at y2 ⊢
  have z0 := ((y2.set 0 (.int .i64 yk)).set 1 (.int .i64 yw)).set 2 (.int .i64 yg)
  have zx := ((hx2.far ⟨Y, 0, none⟩ (.int .i64 yk) (by simp; omega)).far ⟨Y, 1, none⟩ (.int .i64 yw) (by simp; omega)).far ⟨Y, 2, none⟩ (.int .i64 yg) (by simp; omega)
  have B3 := ((B2.setCell (p := ⟨Y, 0, none⟩) (by simp; omega) (.int .i64 yk)).setCell (p := ⟨Y, 1, none⟩) (by simp; omega) (.int .i64 yw)).setCell (p := ⟨Y, 2, none⟩) (by simp; omega) (.int .i64 yg)
  obtain ⟨w2, hw2⟩ : ∃ w2, ((w1.setCell ⟨Y, 0, none⟩ (.int .i64 yk)).setCell ⟨Y, 1, none⟩ (.int .i64 yw)).setCell ⟨Y, 2, none⟩ (.int .i64 yg) = w2 := ⟨_, rfl⟩
  rw [hw2] at z0 zx B3 ⊢
  clear hw2
  refine hK.out _ _ (fun h => absurd h (by decide)) ?_
  clear hK K
  try simp only [Act.put, List.setIfInBounds_toArray, List.set_cons_zero, List.set_cons_succ, List.getElem_toArray, List.getElem_cons_zero, List.getElem_cons_succ]
  refine wpN_pure (i := 12) (v := ?v11) rfl (by kernel_rfl) (fun _ _ _ h => h) (Or.inl ⟨by rfl, ?hy11⟩) ?hr11
  case hy11 => (intro wS hSw; go_simp; (try with_reducible rfl))
  try simp only [Act.put, List.setIfInBounds_toArray, List.set_cons_zero, List.set_cons_succ, List.getElem_toArray, List.getElem_cons_zero, List.getElem_cons_succ]
  refine wpN_done (by kernel_rfl) ?_
  refine NoPanic.normal ?_
  have e0 := z0.cell (i := 0) rfl; have e1 := z0.cell (i := 1) rfl; have e2 := z0.cell (i := 2) rfl
  have e3 := zx.cell (i := 0) rfl; have e4 := zx.cell (i := 1) rfl; have e5 := zx.cell (i := 2) rfl
  simp only [List.getElem?_toArray, Array.setIfInBounds, List.getElem?_cons_zero] at e0 e1 e2
  cases ok
  · go_wp2_with fail
    go_ret
    exact ⟨by simp, B3⟩
  · go_wp2_with fail
    all_goals
      go_ret
      refine ⟨?_, B3⟩
      first
        | (simp; done)
        | (simp; omega)
        | (simp_all; done)
        | (simp_all; omega)

theorem results_ent {fn : Func} {c u : Tmp} (h : fn.results = #[.cell c 30, .tmp u]) (tmps : Array Value) (w : World) {r : Nat} (hp : tmps.getD c undef = .pointer (some ⟨r, 0, none⟩)) {e : Ent} (hb : Blk w r #[.int .i64 e.key, .int .i64 e.weight, .int .i64 e.age] 30) :
    (results fn tmps).run Try.prog w = .ok (.tuple #[e.v, tmps.getD u undef]) w := by
  have c0 := hb.cell (i := 0) rfl; have c1 := hb.cell (i := 1) rfl; have c2 := hb.cell (i := 2) rfl
  rw [Array.getD_eq_getD_getElem?] at hp
  simp [results, h, hp]
  go_simp
  rfl

def lenAt (w : World) (q o : Nat) : Nat := match w.cell? ⟨q, o, none⟩ with
  | some (.slice _ n _) => n
  | _ => 0

def TopPost (lt : Ent → Ent → Bool) (q o : Nat) (cs : Array Value) (t : TypeId) (v : Value) (base : Nat) (l L : List Ent) (w : World) (e : Ending) (w' : World) : Prop :=
  ∃ v' l' gone, (Blk w' q (cs.setIfInBounds o v') t ∧ Row w' base v' l' ∧ v'.ownBlock = v.ownBlock) ∧ Hp.Heap lt l' ∧ l.Perm (gone ++ l') ∧ (∀ x ∈ gone, findK L x.key ≠ some x) ∧ Off (Turn q v) w w' ∧
    ((l' = [] ∧ e = .returned (.tuple #[Hp.z0.v, .bool false])) ∨ (0 < l'.length ∧ findK L (Hp.at_ l' 0).key = some (Hp.at_ l' 0) ∧ e = .returned (.tuple #[(Hp.at_ l' 0).v, .bool true])))

set_option maxRecDepth 100000 in
set_option maxHeartbeats 8000000 in
theorem top_q {f : FuncId} {lt : Ent → Ent → Bool} (hf : Fst f lt) (O : Hp.Ord lt) {w : World} {q o m n : Nat} {cs : Array Value} {t : TypeId} {v : Value} {l L : List Ent} {base : Nat} (hq : Blk w q cs t) (ho : cs[o]? = some v) (hf' : cs[o + 1]? = some (.func (.func f) #[] #[]))
    (h7 : cs[7]? = some (.map (some m))) (ho7 : o ≠ 7) (hr : Row w base v l) (hh : Hp.Heap lt l) (hv : v.ownBlock ≠ some q) (hvm : v.ownBlock ≠ some m) (hqm : m ≠ q) (hm : MapOf w m n L) (hw : ∀ e ∈ l, W64 e.key) (hl : l.length ≤ 900001) :
    Calls Try.prog 28 #[.pointer (some ⟨q, o, none⟩), .func (.func 29) #[.pointer (some ⟨q, 0, none⟩)] #[]] w (TopPost lt q o cs t v base l L w) := by
  obtain ⟨wB, hwB⟩ : ∃ wB, w.alloc (.cells #[.int .i64 0, .int .i64 0, .int .i64 0] 30) = wB := ⟨_, rfl⟩
  have B0 : Below w.heap.size w wB := by rw [← hwB]; exact (Below.refl _ _).alloc (Nat.le_refl _) _
  have x0 : Blk wB w.heap.size #[.int .i64 0, .int .i64 0, .int .i64 0] 30 := by rw [← hwB]; exact Blk.new _ _ _ rfl
  have hqB := hq.below B0
  have hmB := hm.below B0
  have hrB := hr.below B0
  go_enter Try.func28, Try.ntmps28
  go_wp2_with fail
  try rw [hwB]
  clear hwB
  have hvl := hr.base_le
  go_loopw [] (fun wr => ∃ (v' : Value) (l' gone : List Ent), Blk wr q (cs.setIfInBounds o v') t ∧ Row wr base v' l' ∧ v'.ownBlock = v.ownBlock ∧ Hid (Hp.Heap lt l') ∧ Hid (l.Perm (gone ++ l')) ∧ Hid (∀ x ∈ gone, findK L x.key ≠ some x) ∧ Off (Turn q v) w wr ∧ Blk wr w.heap.size #[.int .i64 0, .int .i64 0, .int .i64 0] 30) (fun wr => lenAt wr q o)
  case atStart =>
    have hss : cs.setIfInBounds o v = cs := by
      apply Array.ext_getElem?
      intro j
      by_cases hj : j = o
      · subst hj; rw [Array.getElem?_setIfInBounds_self_of_lt (Array.getElem?_eq_some_iff.1 ho).1, ho]
      · rw [Array.getElem?_setIfInBounds_ne (Ne.symm hj)]
    exact ⟨v, l, [], by rw [hss]; exact hqB, hrB, rfl, hh, List.Perm.refl _, fun x hx => by simp at hx, Off.of_below _ B0, x0⟩
  case round =>
    obtain ⟨v', l', gone, hq5, hr5, hvb, hh5, hp5, hg5, B5, hx5⟩ := hrel
    obtain ⟨cs5, hcs⟩ : ∃ cs5, cs.setIfInBounds o v' = cs5 := ⟨_, rfl⟩
    have ho5 : cs5[o]? = some v' := by rw [← hcs, Array.getElem?_setIfInBounds_self_of_lt (Array.getElem?_eq_some_iff.1 ho).1]
    have hf5 : cs5[o + 1]? = some (.func (.func f) #[] #[]) := by rw [← hcs, Array.getElem?_setIfInBounds_ne (by omega)]; exact hf'
    have h75 : cs5[7]? = some (.map (some m)) := by rw [← hcs, Array.getElem?_setIfInBounds_ne ho7]; exact h7
    have hm5 : MapOf wr m n L := hm.off B5 (fun h => by rcases h with h | h; exact hqm h; exact hvm h)
    have Hcs := Lib.hid hcs
    rw [hcs] at hq5
    clear hcs
    have c0 := hq5.cell ho5
    have Hll : Hid (l'.length ≤ 900001) := by show _ ≤ _; have := hp5.out.length_eq; simp at this; omega
    by_cases h0 : 0 < l'.length
    · obtain ⟨g, cap, rfl, hgb, hlc, hcm, hcell, hfree⟩ := hr5.open_ h0
      obtain ⟨a0, a1, a2⟩ := hcell 0 h0
      rw [← Hp.at_get] at a0 a1 a2
      obtain ⟨x, hx⟩ : ∃ x, Hp.at_ l' 0 = x := ⟨_, rfl⟩
      rw [hx] at a0 a1 a2
      simp only [Nat.zero_mul, Nat.zero_add] at a0 a1 a2
      have hxm : x ∈ l' := by rw [← hx, Hp.at_get h0]; exact List.getElem_mem h0
      have hxw : W64 x.key := hw x (hp5.out.mem_iff.2 (List.mem_append_right _ hxm))
      have Hx := Lib.hid hx; have Hxw := Lib.hid hxw
      clear hx hxm hxw hcell hfree
      obtain ⟨N, hN⟩ : ∃ N, l'.length = N := ⟨_, rfl⟩
      have HN := Lib.hid hN
      rw [hN] at c0 h0 Hll ho5 Hcs hr5 hvb
      clear hN
      have h0I : (0 : Int) < N := by omega
      have hNI : (N : Int) ≤ 900001 := by have := Hll.out; omega
      obtain ⟨xk, xw, xg⟩ := x
      dsimp only at a0 a1 a2
      have hxl := hx5.lt
      go_wp2_with fail
      refine (waits_q hq5 h75 hm5 ⟨xk, xw, xg⟩ Hxw.out).mono ?_
      rintro e w6 ⟨rfl, hb6⟩
      have B6 := B5.below hb6
      have hq6 := hq5.below hb6
      have hr6 := hr5.below hb6
      have hx6 := hx5.below hb6
      have hm6 := hm5.below hb6
      have K6 := (Keep.refl (fun _ => True) wr).below hb6
      have cW := Lib.hid c0
      have c0 := K6 _ _ _ trivial c0
      have a0 := K6 _ _ _ trivial a0; have a1 := K6 _ _ _ trivial a1; have a2 := K6 _ _ _ trivial a2
      clear hb6 K6
      by_cases hk : findK L xk = some ⟨xk, xw, xg⟩
      · have hd : decide (findK L (⟨xk, xw, xg⟩ : Ent).key = some ⟨xk, xw, xg⟩) = true := decide_eq_true hk
        rw [hd]
        have Hk := Lib.hid hk; clear hk hd
        have f1 := hx6.free 0; have f2 := hx6.free 1; have f3 := hx6.free 2
        have d0 := hx6.cell (i := 0) rfl; have d1 := hx6.cell (i := 1) rfl; have d2 := hx6.cell (i := 2) rfl
        go_wp2_with fail
        have z := ((hx6.set 0 (.int .i64 xk)).set 1 (.int .i64 xw)).set 2 (.int .i64 xg)
        have hxq : q ≠ w.heap.size := fun e => by have := hq.lt; omega
        have hqz := ((hq6.far ⟨w.heap.size, 0, none⟩ (.int .i64 xk) hxq).far ⟨w.heap.size, 1, none⟩ (.int .i64 xw) hxq).far ⟨w.heap.size, 2, none⟩ (.int .i64 xg) hxq
        have hgx : (Value.slice (some ⟨g, 0, none⟩) N cap).ownBlock ≠ some w.heap.size := fun e => by
          have := (hvl w.heap.size (by rw [← hvb]; exact e)).2; omega
        have hrz := ((hr6.far ⟨w.heap.size, 0, none⟩ (.int .i64 xk) hgx).far ⟨w.heap.size, 1, none⟩ (.int .i64 xw) hgx).far ⟨w.heap.size, 2, none⟩ (.int .i64 xg) hgx
        have Bz := ((B6.set ⟨w.heap.size, 0, none⟩ (.int .i64 xk) (.inr (Nat.le_refl _))).set ⟨w.heap.size, 1, none⟩ (.int .i64 xw) (.inr (Nat.le_refl _))).set ⟨w.heap.size, 2, none⟩ (.int .i64 xg) (.inr (Nat.le_refl _))
        (try simp only [Exit.inBlock, Exit.then]); refine bodyPost_ret (results_ent rfl _ _ rfl (e := ⟨xk, xw, xg⟩) z) rfl ?_
        refine ⟨_, l', gone, ⟨by rw [Hcs.out]; exact hqz, hrz, hvb⟩, hh5.out, hp5.out, hg5.out, Bz, .inr ⟨by rw [HN.out]; exact h0, by rw [Hx.out]; exact Hk.out, by rw [Hx.out]; rfl⟩⟩
      · have hd : decide (findK L (⟨xk, xw, xg⟩ : Ent).key = some ⟨xk, xw, xg⟩) = false := decide_eq_false hk
        rw [hd]
        have Hk := Lib.hid hk; clear hk hd
        go_wp2_with fail
        refine (pop_q hf O hq6 ho5 hf5 hr6 hh5.out (by rw [hvb]; exact hv) (by rw [HN.out]; exact Hll.out) (by rw [HN.out]; exact h0)).mono ?_
        rintro e w7 ⟨rfl, v7, l7, hq7, hr7, hp7, hh7, hvb7, B7⟩
        rw [← Hcs.out, Array.setIfInBounds_setIfInBounds] at hq7
        have Hp7 := Lib.hid hp7; have Hh7 := Lib.hid hh7; clear hp7 hh7
        go_wp2_with fail
        go_roundw
        case rel =>
          refine ⟨v7, l7, gone ++ [⟨xk, xw, xg⟩], hq7, hr7, hvb7.trans hvb, Hh7.out, ?_, ?_, B6.trans (B7.mono fun k hk h => h.imp id fun h => by rw [← hvb]; exact h), B7.blk hx6 ?_⟩
          · have h := Hp7.out
            rw [Hx.out] at h
            have := hp5.out.trans (List.Perm.append_left gone h)
            rw [List.append_assoc]; exact this
          · intro x hx
            rcases List.mem_append.1 hx with hx | hx
            · exact hg5.out x hx
            · simp at hx; subst hx; exact Hk.out
          · rintro (h | h)
            · have := hq.lt; omega
            · have := (hvl w.heap.size (by rw [← hvb]; exact h)).2; omega
        case measure =>
          obtain ⟨a7, c7, rfl⟩ := hr7.shape
          have hlen := Hp7.out.length_eq
          rw [HN.out] at hlen
          have e1 : w7.cell? ⟨q, o, none⟩ = some (.slice a7 l7.length c7) := hq7.cell (by rw [Array.getElem?_setIfInBounds_self_of_lt (Array.getElem?_eq_some_iff.1 ho).1])
          have e2 := cW.out
          unfold lenAt
          rw [e1, e2]
          simp at hlen ⊢
          omega
    · have hl0 : l' = [] := List.length_eq_zero_iff.1 (by omega)
      obtain ⟨a', c', hvs⟩ := hr5.shape
      rw [hl0] at hvs
      simp only [List.length_nil] at hvs
      subst hvs
      have f1 := hx5.free 0; have f2 := hx5.free 1; have f3 := hx5.free 2
      have d0 := hx5.cell (i := 0) rfl; have d1 := hx5.cell (i := 1) rfl; have d2 := hx5.cell (i := 2) rfl
      have hxl := hx5.lt
      go_wp2_with fail
      have z := (((hx5.set 0 (.int .i64 0)).set 1 (.int .i64 0)).set 2 (.int .i64 0)).alloc (.cells #[.int .i64 0, .int .i64 0, .int .i64 0] 30)
      have hxq : q ≠ w.heap.size := fun e => by have := hq.lt; omega
      have hqz := (((hq5.far ⟨w.heap.size, 0, none⟩ (.int .i64 0) hxq).far ⟨w.heap.size, 1, none⟩ (.int .i64 0) hxq).far ⟨w.heap.size, 2, none⟩ (.int .i64 0) hxq).alloc (.cells #[.int .i64 0, .int .i64 0, .int .i64 0] 30)
      have hgx : (Value.slice a' 0 c').ownBlock ≠ some w.heap.size := fun e => by
        have := (hvl w.heap.size (by rw [← hvb]; exact e)).2; omega
      have hrz := (((hr5.far ⟨w.heap.size, 0, none⟩ (.int .i64 0) hgx).far ⟨w.heap.size, 1, none⟩ (.int .i64 0) hgx).far ⟨w.heap.size, 2, none⟩ (.int .i64 0) hgx).below ((Below.refl _ _).alloc (Nat.le_refl _) (.cells #[.int .i64 0, .int .i64 0, .int .i64 0] 30))
      have Bz := (((B5.set ⟨w.heap.size, 0, none⟩ (.int .i64 0) (.inr (Nat.le_refl _))).set ⟨w.heap.size, 1, none⟩ (.int .i64 0) (.inr (Nat.le_refl _))).set ⟨w.heap.size, 2, none⟩ (.int .i64 0) (.inr (Nat.le_refl _))).alloc (.cells #[.int .i64 0, .int .i64 0, .int .i64 0] 30)
      (try simp only [Exit.inBlock, Exit.then]); refine bodyPost_ret (results_ent rfl _ _ rfl (e := ⟨0, 0, 0⟩) z) rfl ?_
      exact ⟨_, l', gone, ⟨by rw [Hcs.out]; exact hqz, hrz, hvb⟩, hh5.out, hp5.out, hg5.out, Bz, .inl ⟨hl0, rfl⟩⟩
end Go.Proofs.Ytplfbdkljnblmaa

namespace Go.Proofs.Ytplfbdkljnblmaa

section
variable {P : Program} {ops : Array Oper} {Q : Exit → Act → World → Prop} {md : Region.Mode} {S : World → Prop}

theorem wpN_pick (rs : List Nat) {n : Nat} {listed : Array Bool} {a : Act} {w : World} (hr : Region.ready md ops listed = rs) (hne : rs ≠ [])
    (h : ∀ i ∈ rs, wpOp P ops Q i (fun a' w' => (asksS ops i = true → S w') ∧ wpN P md ops Q S n (listed.setIfInBounds i true) a' w') a w) : wpN P md ops Q S (n + 1) listed a w :=
  ⟨fun h0 => absurd (hr.symm.trans h0) hne, fun i hi => wpOp_mono (fun _ _ hh => ⟨fun ha _ => hh.1 ha, hh.2⟩) (h i (by rw [hr] at hi; exact hi))⟩

theorem wpN_name {n : Nat} {listed : Array Bool} {a : Act} {w : World}
    (h : ∀ ops' Q' S' a', ops' = ops → Q' = Q → S' = S → a' = a → wpN P md ops' Q' S' n listed a' w) : wpN P md ops Q S n listed a w := h _ _ _ _ rfl rfl rfl rfl

def waitsFor (md : Region.Mode) (ops : Array Oper) (listed : Array Bool) (i : Nat) (D : List Nat) : Bool :=
  D.all fun k => !(listed.getD k true) && match ops[k]? with
    | some o => o.after.any fun e => Region.binds md e && (e.on == i || D.contains e.on)
    | none => false
def freeBut (ops : Array Oper) (listed : Array Bool) (i : Nat) (D : List Nat) : Bool :=
  match ops[i]? with
  | none => false
  | some oi => (List.range ops.size).all fun j => j == i || listed.getD j true || D.contains j || match ops[j]? with
    | some oj => oi.apart ops oj && asksS ops j
    | none => true

theorem waits_not_ready {i j : Nat} {D : List Nat} {listed : Array Bool} (hw : ∀ k ∈ D, listed.getD k true = false ∧ ∃ o, ops[k]? = some o ∧ ∃ e ∈ o.after, Region.binds md e = true ∧ (e.on = i ∨ e.on ∈ D)) (hi : listed.getD i true = false) (hj : j ∈ D) : j ∉ Region.ready md ops listed := by
  intro hr
  obtain ⟨_, o, ho, hall⟩ := mem_ready.1 hr
  obtain ⟨_, o', ho', e, he, hb, hon⟩ := hw j hj
  rw [ho] at ho'; cases ho'
  have hl := hall e he hb
  have hun : listed.getD e.on true = false := by
    rcases hon with h | h
    · rw [h]; exact hi
    · exact (hw _ h).1
  rcases Nat.lt_or_ge e.on listed.size with hlt | hge
  · simp [hlt] at hun hl; rw [hun] at hl; cases hl
  · simp [Array.getElem?_eq_none hge] at hl

theorem wpN_firstD {i : Nat} {oi : Oper} {v : Value} {D : List Nat} (hi : ops[i]? = some oi) (hiD : i ∉ D) (hsel : ∀ (j : Nat) (o : Oper) cs b, ops[j]? = some o → o.op ≠ .select cs b)
    (hQ : ∀ c a w, Q (.panic c) (a.put oi.dst v) w → Q (.panic c) a w) (hai : asksS ops i = true) :
    ∀ (n : Nat) (listed : Array Bool) (a : Act) (w : World),
      (∀ k ∈ D, listed.getD k true = false ∧ ∃ o, ops[k]? = some o ∧ ∃ e ∈ o.after, Region.binds md e = true ∧ (e.on = i ∨ e.on ∈ D)) →
      (∀ j oj, ops[j]? = some oj → j ≠ i → listed.getD j true = false → j ∉ D → oi.apart ops oj = true ∧ asksS ops j = true) →
      i ∈ Region.ready md ops listed → YieldsIf P ops S oi v a → S w →
      wpN P md ops Q S n (listed.setIfInBounds i true) (a.put oi.dst v) w → wpN P md ops Q S (n + 1) listed a w := by
  intro n
  induction n with
  | zero =>
    intro listed a w _ _ hr hy hS H
    refine ⟨fun h0 => (by rw [h0] at hr; cases hr), fun j hj => ?_⟩
    by_cases hji : j = i
    · subst hji; exact hy.wpOp hi hS ⟨fun _ h => h, H⟩
    · have h0 := ready_mono hj hji
      rw [H.1] at h0; cases h0
  | succ n ih =>
    intro listed a w hw hfree hr hy hS H
    refine ⟨fun h0 => (by rw [h0] at hr; cases hr), fun j hj => ?_⟩
    by_cases hji : j = i
    · subst hji; exact hy.wpOp hi hS ⟨fun _ h => h, H⟩
    · have hrest := H.2 j (ready_mono hj hji)
      obtain ⟨hjun, oj, hoj, hall⟩ := mem_ready.1 hj
      have hiun := (mem_ready.1 hr).1
      have hjD : j ∉ D := fun h => waits_not_ready hw hiun h hj
      obtain ⟨hap, haj⟩ := hfree j oj hoj hji hjun hjD
      have hput := wpOp_putIf hoj hap (fun cs b => hsel i oi cs b hi) (fun cs b => hsel j oj cs b hoj) hQ hy hrest
      refine wpOp_mono (fun a' w' hh => ?_) hput
      obtain ⟨hy', hSw, hw'⟩ := hh
      refine ⟨hSw, ih (listed.setIfInBounds j true) a' w' ?_ ?_ (ready_mono hr (Ne.symm hji)) hy' (hSw haj hS) ?_⟩
      · intro k hk
        have hkj : j ≠ k := fun h => hjD (h ▸ hk)
        refine ⟨?_, (hw k hk).2⟩
        rw [getD_set_ne true hkj]; exact (hw k hk).1
      · intro k ok hk hki hun hkD
        refine hfree k ok hk hki ?_ hkD
        by_cases hjk : j = k
        · subst hjk; exact hjun
        · rw [getD_set_ne true hjk] at hun; exact hun
      · rw [Array.setIfInBounds_comm _ _ hji]; exact hw'

theorem wpN_takeD (D : List Nat) {i : Nat} {oi : Oper} {v : Value} {n : Nat} {listed : Array Bool} {a : Act} {w : World} (hi : ops[i]? = some oi)
    (hs : (Region.noSelect ops && freeBut ops listed i D && (Region.ready md ops listed).contains i && asksS ops i && waitsFor md ops listed i D && !(D.contains i)) = true)
    (hQ : ∀ c a w, Q (.panic c) (a.put oi.dst v) w → Q (.panic c) a w) (hS : S w) (hy : YieldsIf P ops S oi v a)
    (h : wpN P md ops Q S n (listed.setIfInBounds i true) (a.put oi.dst v) w) : wpN P md ops Q S (n + 1) listed a w := by
  simp only [Bool.and_eq_true] at hs
  obtain ⟨⟨⟨⟨⟨h1, h2⟩, h3⟩, h4⟩, h5⟩, h6⟩ := hs
  refine wpN_firstD (D := D) hi (by simpa using h6) (Region.noSelect_spec h1) hQ h4 n listed a w (fun k hk => ?_) (fun j oj hj hne hun hD => ?_) (by simpa using h3) hy hS h
  · simp only [waitsFor, List.all_eq_true] at h5
    have h7 := h5 k hk
    simp only [Bool.and_eq_true, Bool.not_eq_true'] at h7
    refine ⟨h7.1, ?_⟩
    have h8 := h7.2
    cases ho : ops[k]? with
    | none => rw [ho] at h8; cases h8
    | some o =>
      rw [ho] at h8
      obtain ⟨e, he, hb⟩ := Array.any_eq_true'.1 h8
      simp only [Bool.and_eq_true, Bool.or_eq_true, beq_iff_eq, List.contains_iff_mem] at hb
      exact ⟨o, rfl, e, he, hb.1, hb.2⟩
  · simp only [freeBut, hi, List.all_eq_true, List.mem_range] at h2
    have h7 := h2 j (Array.getElem?_eq_some_iff.1 hj).1
    simp only [hj, Bool.or_eq_true, beq_iff_eq, hne, hun, Bool.false_eq_true, false_or, List.contains_iff_mem, hD, Bool.and_eq_true] at h7
    exact h7

theorem pick_two {p : Nat → Prop} {i j : Nat} (hi : p i) (hj : p j) : ∀ x ∈ [i, j], p x := by
  intro x hx
  simp only [List.mem_cons, List.not_mem_nil, or_false] at hx
  rcases hx with rfl | rfl
  · exact hi
  · exact hj
theorem pick_three {p : Nat → Prop} {i j k : Nat} (hi : p i) (hj : p j) (hk : p k) : ∀ x ∈ [i, j, k], p x := by
  intro x hx
  simp only [List.mem_cons, List.not_mem_nil, or_false] at hx
  rcases hx with rfl | rfl | rfl
  · exact hi
  · exact hj
  · exact hk
theorem pick_one {p : Nat → Prop} {i : Nat} (hi : p i) : ∀ x ∈ [i], p x := by
  intro x hx
  simp only [List.mem_cons, List.not_mem_nil, or_false] at hx
  rcases hx with rfl
  exact hi
end
end Go.Proofs.Ytplfbdkljnblmaa

