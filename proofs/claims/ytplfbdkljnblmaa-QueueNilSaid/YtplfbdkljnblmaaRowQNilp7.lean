/-
  queue.New, Len, Taken; and what a nil queue answers. The law's known example: what the queue answers there. The law QueueNil, stepped through.
-/
import Derived.Test.YtplfbdkljnblmaaRowQNilp6
set_option linter.unusedVariables false
set_option linter.unusedSimpArgs false
namespace Go.Proofs.Ytplfbdkljnblmaa
open Go.RowKit Go.Maps

theorem new_q (w : World) (period : Int) (h1 : 1 ≤ period) (h2 : period ≤ 1000) :
    Calls Try.prog 7 #[.int .i64 period] w fun e w' => ∃ q, e = .returned (.tuple #[.pointer (some ⟨q, 0, none⟩), .int .i64 0]) ∧ w.heap.size ≤ q ∧ QueueAt (fun k => w.heap.size ≤ k) w' q ⟨period, 0, 0, []⟩ ∧ Below w.heap.size w w' := by
  have hmm := @run_makeMap Try.prog
  have n1 : ¬ period < 1 := by omega
  have n2 : ¬ period > 1000 := by omega
  have n3 : ¬ 1000 < period := by omega
  go_enter Try.func7, Try.ntmps7
  go_wp2_with fail
  go_ret2
  have hm : MapOf ((w.alloc (.map #[] 0)).alloc (.cells #[.int .i64 period, .int .i64 0, .int .i64 0, .slice none 0 0, .func (.func 22) #[] #[], .slice none 0 0, .func (.func 23) #[] #[], .map (some w.heap.size)] 62)) w.heap.size 0 [] :=
    (MapOf.made w).below ((Below.refl _ _).alloc (Nat.le_refl _) _)
  have hb : Blk ((w.alloc (.map #[] 0)).alloc (.cells #[.int .i64 period, .int .i64 0, .int .i64 0, .slice none 0 0, .func (.func 22) #[] #[], .slice none 0 0, .func (.func 23) #[] #[], .map (some w.heap.size)] 62)) (w.heap.size + 1) (qCells ⟨period, 0, 0, []⟩ (.slice none 0 0) (.slice none 0 0) w.heap.size) 62 := Blk.new _ _ _ (by simp)
  refine ⟨w.heap.size + 1, rfl, by omega, ⟨.slice none 0 0, .slice none 0 0, w.heap.size, 0, [], [], ?_⟩, ((Below.refl _ _).alloc (Nat.le_refl _) _).alloc (by simp) _⟩
  exact {
    inv := { per := ⟨h1, h2⟩, tak := ⟨Int.le_refl _, (by show (0 : Int) ≤ 800000; decide)⟩, many := (by show (0 : Nat) ≤ 800000; decide), keys := by simp, ages := by simp, inl := fun _ h => h, ino := fun _ h => h, wkl := fun _ h => (by cases h), wko := fun _ h => (by cases h), last := fun _ h => (by cases h), lenl := Nat.le_refl _, leno := Nat.le_refl _ }
    blk := hb
    rl := Row.nil _ _
    ro := Row.nil _ _
    mp := hm
    hn := Nat.le_refl _
    hl := fun j hj => by simp at hj
    ho := fun j hj => by simp at hj
    lq := by simp [Value.ownBlock]
    lm := by simp [Value.ownBlock]
    oq := by simp [Value.ownBlock]
    om := by simp [Value.ownBlock]
    mq := by omega
    lo := fun g hg => by cases hg
    fq := by show _ ≤ _; omega
    fm := Nat.le_refl _
    fl := fun g hg => by cases hg
    fo := fun g hg => by cases hg }

theorem len_q {F : Nat → Prop} {w : World} {q : Nat} {s : QS} (h : QueueAt F w q s) :
    Calls Try.prog 12 #[.pointer (some ⟨q, 0, none⟩)] w fun e w' => e = .returned (.int .i64 s.L.length) ∧ Below w.heap.size w w' := by
  obtain ⟨lv, ov, m, n, light, old, h⟩ := h
  have c7 : w.cell? ⟨q, 7, none⟩ = some (.map (some m)) := h.blk.cell rfl
  have hln := h.mp.len 3
  go_enter Try.func12, Try.ntmps12
  go_wp2_with fail
  go_ret
  exact ⟨rfl, Below.refl _ _⟩
theorem taken_q {F : Nat → Prop} {w : World} {q : Nat} {s : QS} (h : QueueAt F w q s) :
    Calls Try.prog 21 #[.pointer (some ⟨q, 0, none⟩)] w fun e w' => e = .returned (.int .i64 s.taken) ∧ Below w.heap.size w w' := by
  obtain ⟨lv, ov, m, n, light, old, h⟩ := h
  have c1 : w.cell? ⟨q, 1, none⟩ = some (.int .i64 s.taken) := h.blk.cell rfl
  go_enter Try.func21, Try.ntmps21
  go_wp2_with fail
  go_ret
  exact ⟨rfl, Below.refl _ _⟩

theorem len_nil (w : World) : Calls Try.prog 12 #[.pointer none] w fun e w' => e = .returned (.int .i64 0) ∧ Below w.heap.size w w' := by
  go_enter Try.func12, Try.ntmps12
  go_wp2_with fail
  go_ret
  exact ⟨rfl, Below.refl _ _⟩
theorem taken_nil (w : World) : Calls Try.prog 21 #[.pointer none] w fun e w' => e = .returned (.int .i64 0) ∧ Below w.heap.size w w' := by
  go_enter Try.func21, Try.ntmps21
  go_wp2_with fail
  go_ret
  exact ⟨rfl, Below.refl _ _⟩
theorem put_nil (w : World) (a b : Int) : Calls Try.prog 8 #[.pointer none, .int .i64 a, .int .i64 b] w fun e w' => e = .returned (.int .i64 13) ∧ Below w.heap.size w w' := by
  go_enter Try.func8, Try.ntmps8
  go_wp2_with fail
  go_ret
  exact ⟨rfl, Below.refl _ _⟩
theorem drop_nil (w : World) (v : Value) : Calls Try.prog 11 #[.pointer none, v] w fun e w' => e = .returned (.int .i64 0) ∧ Below w.heap.size w w' := by
  go_enter Try.func11, Try.ntmps11
  go_wp2_with fail
  go_ret
  exact ⟨rfl, Below.refl _ _⟩
theorem all_nil (w : World) : Calls Try.prog 20 #[.pointer none] w fun e w' => e = .returned (.slice none 0 0) ∧ Below w.heap.size w w' := by
  go_enter Try.func20, Try.ntmps20
  go_wp2_with fail
  go_ret
  exact ⟨rfl, Below.refl _ _⟩
theorem copy_nil (w : World) : Calls Try.prog 19 #[.pointer none] w fun e w' => e = .returned (.pointer none) ∧ Below w.heap.size w w' := by
  go_enter Try.func19, Try.ntmps19
  go_wp2_with fail
  go_ret
  exact ⟨rfl, Below.refl _ _⟩
theorem peek_nil (w : World) : Calls Try.prog 16 #[.pointer none] w fun e w' => e = .returned (.tuple #[.agg #[.int .i64 0, .int .i64 0, .int .i64 0], .bool false]) ∧ Below w.heap.size w w' := by
  go_enter Try.func16, Try.ntmps16
  go_wp2_with fail
  have z := Blk.new w #[.int .i64 0, .int .i64 0, .int .i64 0] 30 rfl
  (try simp only [Exit.inBlock, Exit.then]); refine bodyPost_ret (results_ent rfl _ _ rfl (e := ⟨0, 0, 0⟩) z) rfl ?_
  exact ⟨rfl, (Below.refl _ _).alloc (Nat.le_refl _) _⟩
theorem next_nil (w : World) : Calls Try.prog 9 #[.pointer none] w fun e w' => e = .returned (.tuple #[.agg #[.int .i64 0, .int .i64 0, .int .i64 0], .bool false]) ∧ Below w.heap.size w w' := by
  obtain ⟨wB, hwB⟩ : ∃ wB, w.alloc (.cells #[.int .i64 0, .int .i64 0, .int .i64 0] 30) = wB := ⟨_, rfl⟩
  have B0 : Below w.heap.size w wB := by rw [← hwB]; exact (Below.refl _ _).alloc (Nat.le_refl _) _
  have x0 : Blk wB w.heap.size #[.int .i64 0, .int .i64 0, .int .i64 0] 30 := by rw [← hwB]; exact Blk.new _ _ _ rfl
  go_enter Try.func9, Try.ntmps9
  go_wp2_with fail
  try rw [hwB]
  clear hwB
  refine (peek_nil _).mono ?_
  rintro e w1 ⟨rfl, hb⟩
  have x1 := x0.below hb
  have B1 := B0.trans (hb.mono B0.size)
  have f1 := x1.free 0; have f2 := x1.free 1; have f3 := x1.free 2
  have d0 := x1.cell (i := 0) rfl; have d1 := x1.cell (i := 1) rfl; have d2 := x1.cell (i := 2) rfl
  have hlt := x1.lt
  clear x0 B0 hb
  go_wp2_with fail
  have z := (((x1.set 0 (.int .i64 0)).set 1 (.int .i64 0)).set 2 (.int .i64 0)).alloc (.cells #[.int .i64 0, .int .i64 0, .int .i64 0] 30)
  (try simp only [Exit.inBlock, Exit.then]); refine bodyPost_ret (results_ent rfl _ _ rfl (e := ⟨0, 0, 0⟩) z) rfl ?_
  exact ⟨rfl, (((B1.setCell (p := ⟨w.heap.size, 0, none⟩) (Nat.le_refl _) _).setCell (p := ⟨w.heap.size, 1, none⟩) (Nat.le_refl _) _).setCell (p := ⟨w.heap.size, 2, none⟩) (Nat.le_refl _) _).alloc (by simp; omega) _⟩
end Go.Proofs.Ytplfbdkljnblmaa

namespace Go.Proofs.Ytplfbdkljnblmaa
open Go.RowKit Go.Maps

theorem QueueAt.tight {F : Nat → Prop} {w : World} {q : Nat} {s : QS} (h : QueueAt F w q s) : QueueAt (fun k => F k ∧ k < w.heap.size) w q s := by
  obtain ⟨lv, ov, m, n, light, old, h⟩ := h
  exact ⟨lv, ov, m, n, light, old, { h with fq := h.qb (.inl rfl) |>.symm, fm := h.qb (.inr (.inl rfl)) |>.symm, fl := fun g hg => (h.qb (.inr (.inr (.inl hg)))).symm, fo := fun g hg => (h.qb (.inr (.inr (.inr hg)))).symm }⟩

namespace Kn
def kL : List Ent := [⟨0, 5, 0⟩, ⟨1, 1, 1⟩, ⟨2, 1, 2⟩, ⟨3, 1, 3⟩]
def kp (k : Nat) : QS := ⟨3, 0, k, kL.take k⟩
def rem : Nat → List Ent
  | 0 => kL
  | 1 => [⟨0, 5, 0⟩, ⟨2, 1, 2⟩, ⟨3, 1, 3⟩]
  | 2 => [⟨0, 5, 0⟩, ⟨3, 1, 3⟩]
  | 3 => [⟨3, 1, 3⟩]
  | _ => []
def want : Nat → Int
  | 0 => 1
  | 1 => 2
  | 2 => 0
  | _ => 3
def kn (k : Nat) : QS := ⟨3, k, 4, rem k⟩

theorem put_kp {k : Nat} (hk : k < 4) {key weight : Int} (hkw : kL[k]? = some ⟨key, weight, k⟩) {e : Ending} {s' : QS} (h : PutRes (kp k) key weight e s') : e = .returned (.int .i64 0) ∧ s' = kp (k + 1) := by
  have hn : findK (kp k).L key = none := by
    match k, hk, hkw with
    | 0, _, h => rfl
    | 1, _, h => cases h; decide
    | 2, _, h => cases h; decide
    | 3, _, h => cases h; decide
  have hl : (kp k).L.length ≠ 10000 := by
    have : (kp k).L.length ≤ 4 := by simp [kp, kL]; omega
    omega
  rcases h with ⟨h1, _⟩ | ⟨_, h1, _⟩ | ⟨_, _, h1, h2⟩
  · rw [hn] at h1; cases h1
  · exact absurd h1 hl
  · refine ⟨h1, h2.trans ?_⟩
    match k, hk, hkw with
    | 0, _, h => cases h; rfl
    | 1, _, h => cases h; rfl
    | 2, _, h => cases h; rfl
    | 3, _, h => cases h; rfl

theorem next_kn {k : Nat} (hk : k < 4) {e : Ending} {s' : QS} (h : NextRes (kn k) e s') : ∃ x : Ent, e = .returned (.tuple #[x.v, .bool true]) ∧ x.key = want k ∧ s' = kn (k + 1) := by
  rcases h with ⟨h1, _⟩ | ⟨x, hx, hmin, he, hs⟩
  · exfalso
    match k, hk with
    | 0, _ => cases h1
    | 1, _ => cases h1
    | 2, _ => cases h1
    | 3, _ => cases h1
  · refine ⟨x, he, ?_⟩
    rw [hs]
    match k, hk with
    | 0, _ =>
      have h0 := hmin ⟨1, 1, 1⟩ (by decide)
      simp [kn, rem, kL] at hx
      rcases hx with rfl | rfl | rfl | rfl
      · exact absurd h0 (by decide)
      · exact ⟨rfl, rfl⟩
      · exact absurd h0 (by decide)
      · exact absurd h0 (by decide)
    | 1, _ =>
      have h0 := hmin ⟨2, 1, 2⟩ (by decide)
      simp [kn, rem] at hx
      rcases hx with rfl | rfl | rfl
      · exact absurd h0 (by decide)
      · exact ⟨rfl, rfl⟩
      · exact absurd h0 (by decide)
    | 2, _ =>
      have h0 := hmin ⟨0, 5, 0⟩ (by decide)
      simp [kn, rem] at hx
      rcases hx with rfl | rfl
      · exact ⟨rfl, rfl⟩
      · exact absurd h0 (by decide)
    | 3, _ =>
      simp [kn, rem] at hx
      subst hx
      exact ⟨rfl, rfl⟩
theorem want_cell {k : Nat} (hk : k < 4) : (#[.int .i64 1, .int .i64 2, .int .i64 0, .int .i64 3] : Array Value)[k]? = some (.int .i64 (want k)) := by
  match k, hk with
  | 0, _ => rfl
  | 1, _ => rfl
  | 2, _ => rfl
  | 3, _ => rfl
theorem kL_get {k : Nat} (h1 : 1 ≤ k) (hk : k < 4) : kL[k]? = some ⟨k, 1, k⟩ := by
  match k, h1, hk with
  | 1, _, _ => rfl
  | 2, _, _ => rfl
  | 3, _, _ => rfl
theorem kp_kn : kp 4 = kn 0 := rfl
end Kn

set_option maxRecDepth 100000 in
set_option maxHeartbeats 4000000 in
theorem known25 (w : World) : Calls Try.prog 10 #[] w fun e w' => e = .returned (.bool true) ∧ Below w.heap.size w w' := by
  go_enter Try.func10, Try.ntmps10
  go_wp2_with fail
  refine (new_q w 3 (by decide) (by decide)).mono ?_
  rintro e w1 ⟨q, rfl, hq, hQ, hb⟩
  go_wp2_with fail
  refine (put_q hQ (by decide) (fun k hk => Nat.le_trans hb.size hk) 0 5 (by unfold W64; decide)).mono ?_
  rintro e w2 ⟨s', hres, hQ2, hO⟩
  obtain ⟨rfl, rfl⟩ := Kn.put_kp (k := 0) (by decide) rfl hres
  have hb2 := hb.trans (hO.toBelow hb.size fun k hk => hk)
  clear hb hO hQ hres
  go_wp2_with fail
  go_loopw [3] (fun iv wr => ∃ k : Nat, iv = .int .i64 k ∧ 1 ≤ k ∧ k ≤ 4 ∧ QueueAt (fun k => w.heap.size ≤ k) wr q (Kn.kp k) ∧ Below w.heap.size w wr) (fun iv _ => 4 - (intOf iv).toNat)
  case atStart => exact ⟨1, rfl, by omega, by omega, hQ2, hb2⟩
  case round =>
    obtain ⟨k, rfl, hk1, hk4, hQk, hbk⟩ := hrel
    by_cases hlt : k < 4
    · have hltI : (k : Int) < 4 := by omega
      go_wp2_with fail
      refine (put_q hQk (by show k ≤ 799999; omega) (fun j hj => Nat.le_trans hbk.size hj) k 1 (by unfold W64; omega)).mono ?_
      rintro e w3 ⟨s', hres, hQ3, hO⟩
      obtain ⟨rfl, rfl⟩ := Kn.put_kp (k := k) hlt (Kn.kL_get hk1 hlt) hres
      have hb3 := hbk.trans (hO.toBelow hbk.size fun k hk => hk)
      clear hO hres
      go_wp2_with fail
      go_roundw
      case rel => exact ⟨k + 1, by go_num, by omega, by omega, hQ3, hb3⟩
      case measure => simp [intOf]; omega
    · obtain rfl : k = 4 := by omega
      go_wp2_with fail
      obtain ⟨A, hA⟩ : ∃ A, wr.heap.size = A := ⟨_, rfl⟩
      have hQt := hQk.tight
      rw [hA] at hQt
      have hb4 : Below wr.heap.size wr (wr.alloc (.cells #[.int .i64 1, .int .i64 2, .int .i64 0, .int .i64 3] 64)) := (Below.refl _ _).alloc (Nat.le_refl _) _
      have hA4 : Blk (wr.alloc (.cells #[.int .i64 1, .int .i64 2, .int .i64 0, .int .i64 3] 64)) A #[.int .i64 1, .int .i64 2, .int .i64 0, .int .i64 3] 64 := Blk.new _ _ _ hA.symm
      have hQ4 : QueueAt (fun k => w.heap.size ≤ k ∧ k ≠ A) (wr.alloc (.cells #[.int .i64 1, .int .i64 2, .int .i64 0, .int .i64 3] 64)) q (Kn.kn 0) :=
        (hQt.weaken fun k hk => ⟨hk.1, by omega⟩).below hb4
      have hb4' := hbk.trans (hb4.mono hbk.size)
      have hwA : w.heap.size ≤ A := by rw [← hA]; exact hbk.size
      rw [hA]
      clear hQt hQk hbk hb4
      go_loopw [5] (fun iv wr => ∃ k : Nat, iv = .int .i64 k ∧ k ≤ 4 ∧ QueueAt (fun k => w.heap.size ≤ k ∧ k ≠ A) wr q (Kn.kn k) ∧ Blk wr A #[.int .i64 1, .int .i64 2, .int .i64 0, .int .i64 3] 64 ∧ Below w.heap.size w wr) (fun iv _ => 4 - (intOf iv).toNat)
      case atStart => exact ⟨0, rfl, by omega, hQ4, hA4, hb4'⟩
      case round =>
        obtain ⟨k, rfl, hk4, hQk, hAk, hbk⟩ := hrel
        by_cases hlt : k < 4
        · have hltI : (k : Int) < 4 := by omega
          go_wp2_with fail
          refine (next_q hQk (by show (k : Int) ≤ 799999; omega)).mono ?_
          rintro e w5 ⟨s', hres, hQ5, hO⟩
          obtain ⟨x, rfl, hx, rfl⟩ := Kn.next_kn hlt hres
          have hA5 := hO.blk hAk (fun h => h.2 rfl)
          have hb5 := hbk.trans (hO.toBelow hbk.size fun k hk => hk.1)
          obtain ⟨xk, xw, xg⟩ := x
          dsimp only at hx
          have ca : w5.cell? ⟨A, k, none⟩ = some (.int .i64 xk) := by
            rw [hx]
            exact hA5.cell (Kn.want_cell hlt)
          have hal := hA5.lt
          unfold Ent.v
          dsimp only
          clear hO hres hx
          go_wp2_with fail
          obtain ⟨w6, hw6⟩ : ∃ w6, w5.alloc (.cells #[.int .i64 xk, .int .i64 xw, .int .i64 xg] 30) = w6 := ⟨_, rfl⟩
          obtain ⟨X, hX⟩ : ∃ X, w5.heap.size = X := ⟨_, rfl⟩
          have hb56 : Below w5.heap.size w5 w6 := by rw [← hw6]; exact (Below.refl _ _).alloc (Nat.le_refl _) _
          have x6 : Blk w6 X #[.int .i64 xk, .int .i64 xw, .int .i64 xg] 30 := by rw [← hw6]; exact Blk.new _ _ _ hX.symm
          have hA6 := hA5.below hb56
          have hQ6 := hQ5.below hb56
          have hb6 := hb5.trans (hb56.mono hb5.size)
          have ca6 := (Keep.refl (fun _ => True) w5).below hb56 _ _ _ trivial ca
          rw [hw6]
          rw [hX]
          clear hw6 hX hb56 hA5 hQ5 hb5 ca
          refine wp_region_noPanic (wp_region_need (S := fun w' => w'.cell? ⟨X, 0, none⟩ = some (.int .i64 xk) ∧ w'.cell? ⟨A, k, none⟩ = some (.int .i64 xk)) (by kernel_rfl) ?_)
          have hS : (w6.drew).cell? ⟨X, 0, none⟩ = some (.int .i64 xk) ∧ (w6.drew).cell? ⟨A, k, none⟩ = some (.int .i64 xk) := ⟨x6.drew.cell rfl, ca6⟩
          refine wpN_take (i := 0) (v := ?v1) rfl (by kernel_rfl) (fun _ _ _ h => h) hS (Or.inl ⟨by rfl, ?hy1⟩) ?hr1
          case hy1 => (intro wS hSw; (try dsimp only at hSw); go_simp; (try with_reducible rfl))
          try simp only [Act.put, List.setIfInBounds_toArray, List.set_cons_zero, List.set_cons_succ, List.getElem_toArray, List.getElem_cons_zero, List.getElem_cons_succ]
          refine wpN_take (i := 1) (v := ?v2) rfl (by kernel_rfl) (fun _ _ _ h => h) hS (Or.inl ⟨by rfl, ?hy2⟩) ?hr2
          case hy2 => (intro wS hSw; (try dsimp only at hSw); go_simp; (try with_reducible rfl))
          try simp only [Act.put, List.setIfInBounds_toArray, List.set_cons_zero, List.set_cons_succ, List.getElem_toArray, List.getElem_cons_zero, List.getElem_cons_succ]
          refine wpN_take (i := 2) (v := ?v3) rfl (by kernel_rfl) (fun _ _ _ h => h) hS (Or.inl ⟨by rfl, ?hy3⟩) ?hr3
          case hy3 => (intro wS hSw; (try dsimp only at hSw); go_simp; (try with_reducible rfl))
          try simp only [Act.put, List.setIfInBounds_toArray, List.set_cons_zero, List.set_cons_succ, List.getElem_toArray, List.getElem_cons_zero, List.getElem_cons_succ]
          refine wpN_take (i := 3) (v := ?v4) rfl (by kernel_rfl) (fun _ _ _ h => h) hS (Or.inl ⟨by rfl, ?hy4⟩) ?hr4
          case hy4 => (intro wS hSw; (try dsimp only at hSw); go_simp; (try with_reducible rfl))
          try simp only [Act.put, List.setIfInBounds_toArray, List.set_cons_zero, List.set_cons_succ, List.getElem_toArray, List.getElem_cons_zero, List.getElem_cons_succ]
          refine wpN_take (i := 4) (v := ?v5) rfl (by kernel_rfl) (fun _ _ _ h => h) hS (Or.inl ⟨by rfl, ?hy5⟩) ?hr5
          case hy5 => (intro wS hSw; (try dsimp only at hSw); go_simp; (try with_reducible rfl))
          try simp only [Act.put, List.setIfInBounds_toArray, List.set_cons_zero, List.set_cons_succ, List.getElem_toArray, List.getElem_cons_zero, List.getElem_cons_succ]
          refine wpN_take (i := 5) (v := ?v6) rfl (by kernel_rfl) (fun _ _ _ h => h) hS (Or.inl ⟨by rfl, ?hy6⟩) ?hr6
          case hy6 => (intro wS hSw; (try dsimp only at hSw); go_simp; (try with_reducible rfl))
          try simp only [Act.put, List.setIfInBounds_toArray, List.set_cons_zero, List.set_cons_succ, List.getElem_toArray, List.getElem_cons_zero, List.getElem_cons_succ]
          refine wpN_take (i := 6) (v := ?v7) rfl (by kernel_rfl) (fun _ _ _ h => h) hS (Or.inl ⟨by rfl, ?hy7⟩) ?hr7
          case hy7 => (intro wS hSw; (try dsimp only at hSw); go_simp; (try with_reducible rfl))
          try simp only [Act.put, List.setIfInBounds_toArray, List.set_cons_zero, List.set_cons_succ, List.getElem_toArray, List.getElem_cons_zero, List.getElem_cons_succ]
          refine wpN_take (i := 7) (v := ?v8) rfl (by kernel_rfl) (fun _ _ _ h => h) hS (Or.inl ⟨by rfl, ?hy8⟩) ?hr8
          case hy8 => (intro wS hSw; (try dsimp only at hSw); go_simp; (try with_reducible rfl))
          try simp only [Act.put, List.setIfInBounds_toArray, List.set_cons_zero, List.set_cons_succ, List.getElem_toArray, List.getElem_cons_zero, List.getElem_cons_succ]
          refine wpN_take (i := 8) (v := ?v9) rfl (by kernel_rfl) (fun _ _ _ h => h) hS (Or.inl ⟨by rfl, ?hy9⟩) ?hr9
          case hy9 => (intro wS hSw; (try dsimp only at hSw); go_simp; (try with_reducible rfl))
          try simp only [Act.put, List.setIfInBounds_toArray, List.set_cons_zero, List.set_cons_succ, List.getElem_toArray, List.getElem_cons_zero, List.getElem_cons_succ]
          refine wpN_take (i := 9) (v := ?v10) rfl (by kernel_rfl) (fun _ _ _ h => h) hS (Or.inl ⟨by rfl, ?hy10⟩) ?hr10
          case hy10 => (intro wS hSw; (try dsimp only at hSw); go_simp; (try with_reducible rfl))
          try simp only [Act.put, List.setIfInBounds_toArray, List.set_cons_zero, List.set_cons_succ, List.getElem_toArray, List.getElem_cons_zero, List.getElem_cons_succ]
          refine wpN_done (by kernel_rfl) ?_
          refine NoPanic.normal ?_
          have hd : Below w6.heap.size w6 w6.drew := (Below.refl _ _).drew
          have hA7 := hA6.below hd
          have hQ7 := hQ6.below hd
          have hb7 := hb6.trans (hd.mono hb6.size)
          go_wp2_with fail
          go_roundw
          case rel => exact ⟨k + 1, by go_num, by omega, hQ7, hA7, hb7⟩
          case measure => simp [intOf]; omega
        · obtain rfl : k = 4 := by omega
          go_wp2_with fail
          refine (len_q hQk).mono ?_
          rintro e w5 ⟨rfl, hb5⟩
          have hQ5 := hQk.below hb5
          have hbb5 := hbk.trans (hb5.mono hbk.size)
          have e0 : ((Kn.kn 4).L.length : Int) = 0 := rfl
          rw [e0]
          go_wp2_with fail
          refine (taken_q hQ5).mono ?_
          rintro e w6 ⟨rfl, hb6⟩
          have hbb6 := hbb5.trans (hb6.mono hbb5.size)
          have e1 : (Kn.kn 4).taken = 4 := rfl
          rw [e1]
          go_wp2_with fail
          go_ret
          exact ⟨rfl, hbb6⟩
end Go.Proofs.Ytplfbdkljnblmaa

namespace Go.Proofs.Ytplfbdkljnblmaa
open Go.RowKit

set_option maxRecDepth 100000 in
set_option maxHeartbeats 4000000 in
theorem queueNil_walk (w : World) (kind key weight : Int) (a : Option Addr) (n c : Nat) :
    Calls Try.prog 6 #[.agg #[.int .i64 kind, .int .i64 key, .int .i64 weight, .slice a n c]] w fun e w' => e = .returned (.bool true) ∧ Below w.heap.size w w' := by
  obtain ⟨w1, hw1⟩ : ∃ w1, w.alloc (.cells #[.int .i64 kind, .int .i64 key, .int .i64 weight, .slice a n c] 45) = w1 := ⟨_, rfl⟩
  have B1 : Below w.heap.size w w1 := by rw [← hw1]; exact (Below.refl _ _).alloc (Nat.le_refl _) _
  have x1 : Blk w1 w.heap.size #[.int .i64 kind, .int .i64 key, .int .i64 weight, .slice a n c] 45 := by rw [← hw1]; exact Blk.new _ _ _ rfl
  go_enter Try.func6, Try.ntmps6
  go_wp2_with fail
  try rw [hw1]
  clear hw1
  refine (next_nil w1).mono ?_
  rintro e w2 ⟨rfl, hb⟩
  have x2 := x1.below hb
  have B2 := B1.trans (hb.mono B1.size)
  clear x1 B1 hb
  go_wp2_with fail
  refine (peek_nil _).mono ?_
  rintro e w3 ⟨rfl, hb⟩
  have x3 := (x2.alloc (.cells #[.int .i64 0, .int .i64 0, .int .i64 0] 30)).below hb
  have B3 := (B2.alloc B2.size (.cells #[.int .i64 0, .int .i64 0, .int .i64 0] 30)).trans (hb.mono (by have := B2.size; simp; omega))
  clear x2 B2 hb
  have c1 : w3.cell? ⟨w.heap.size, 1, none⟩ = some (.int .i64 key) := x3.cell rfl
  have c2 : w3.cell? ⟨w.heap.size, 2, none⟩ = some (.int .i64 weight) := x3.cell rfl
  have hlt := x3.lt
  go_wp2_with fail
  clear c1 c2 hlt
  refine (known25 _).mono ?_
  rintro e w4 ⟨rfl, hb⟩
  have x4 := (x3.alloc (.cells #[.int .i64 0, .int .i64 0, .int .i64 0] 30)).below hb
  have B4 := (B3.alloc B3.size (.cells #[.int .i64 0, .int .i64 0, .int .i64 0] 30)).trans (hb.mono (by have := B3.size; simp; omega))
  clear x3 B3 hb
  have c1 : w4.cell? ⟨w.heap.size, 1, none⟩ = some (.int .i64 key) := x4.cell rfl
  have c2 : w4.cell? ⟨w.heap.size, 2, none⟩ = some (.int .i64 weight) := x4.cell rfl
  have hlt := x4.lt
  go_wp2_with fail
  clear c1 c2 hlt
  refine (put_nil _ _ _).mono ?_
  rintro e w5 ⟨rfl, hb⟩
  have x5 := x4.below hb
  have B5 := B4.trans (hb.mono B4.size)
  clear x4 B4 hb
  have c1 : w5.cell? ⟨w.heap.size, 1, none⟩ = some (.int .i64 key) := x5.cell rfl
  have c2 : w5.cell? ⟨w.heap.size, 2, none⟩ = some (.int .i64 weight) := x5.cell rfl
  have hlt := x5.lt
  go_wp2_with fail
  clear c1 c2 hlt
  refine (drop_nil _ _).mono ?_
  rintro e w6 ⟨rfl, hb⟩
  have x6 := (x5.alloc (.cells #[.int .i64 key] 3)).below hb
  have B6 := (B5.alloc B5.size (.cells #[.int .i64 key] 3)).trans (hb.mono (by have := B5.size; simp; omega))
  clear x5 B5 hb
  have c1 : w6.cell? ⟨w.heap.size, 1, none⟩ = some (.int .i64 key) := x6.cell rfl
  have c2 : w6.cell? ⟨w.heap.size, 2, none⟩ = some (.int .i64 weight) := x6.cell rfl
  have hlt := x6.lt
  go_wp2_with fail
  clear c1 c2 hlt
  refine (len_nil _).mono ?_
  rintro e w7 ⟨rfl, hb⟩
  have x7 := x6.below hb
  have B7 := B6.trans (hb.mono B6.size)
  clear x6 B6 hb
  have c1 : w7.cell? ⟨w.heap.size, 1, none⟩ = some (.int .i64 key) := x7.cell rfl
  have c2 : w7.cell? ⟨w.heap.size, 2, none⟩ = some (.int .i64 weight) := x7.cell rfl
  have hlt := x7.lt
  go_wp2_with fail
  clear c1 c2 hlt
  refine (taken_nil _).mono ?_
  rintro e w8 ⟨rfl, hb⟩
  have x8 := x7.below hb
  have B8 := B7.trans (hb.mono B7.size)
  clear x7 B7 hb
  have c1 : w8.cell? ⟨w.heap.size, 1, none⟩ = some (.int .i64 key) := x8.cell rfl
  have c2 : w8.cell? ⟨w.heap.size, 2, none⟩ = some (.int .i64 weight) := x8.cell rfl
  have hlt := x8.lt
  go_wp2_with fail
  clear c1 c2 hlt
  refine (all_nil _).mono ?_
  rintro e w9 ⟨rfl, hb⟩
  have x9 := x8.below hb
  have B9 := B8.trans (hb.mono B8.size)
  clear x8 B8 hb
  have c1 : w9.cell? ⟨w.heap.size, 1, none⟩ = some (.int .i64 key) := x9.cell rfl
  have c2 : w9.cell? ⟨w.heap.size, 2, none⟩ = some (.int .i64 weight) := x9.cell rfl
  have hlt := x9.lt
  go_wp2_with fail
  clear c1 c2 hlt
  refine (copy_nil _).mono ?_
  rintro e w10 ⟨rfl, hb⟩
  have x10 := x9.below hb
  have B10 := B9.trans (hb.mono B9.size)
  clear x9 B9 hb
  have c1 : w10.cell? ⟨w.heap.size, 1, none⟩ = some (.int .i64 key) := x10.cell rfl
  have c2 : w10.cell? ⟨w.heap.size, 2, none⟩ = some (.int .i64 weight) := x10.cell rfl
  have hlt := x10.lt
  go_wp2_with fail
  clear c1 c2 hlt
  go_ret
  exact ⟨rfl, B10⟩
end Go.Proofs.Ytplfbdkljnblmaa

