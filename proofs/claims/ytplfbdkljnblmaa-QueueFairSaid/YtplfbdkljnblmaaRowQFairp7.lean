/-
  queue.New, Len, Taken; and what a nil queue answers. The law's known example: what the queue answers there. The plain law behind QueueFair: an elder one goes each period. The law QueueFair, stepped through.
-/
import Derived.Test.YtplfbdkljnblmaaRowQFairp6
import Derived.Test.YtplfbdkljnblmaaRowQFairp5
set_option linter.unusedVariables false
set_option linter.unusedSimpArgs false
namespace Go.Proofs.Ytplfbdkljnblmaa
open Go.RowKit Go.Maps

theorem new_q (w : World) (period : Int) (h1 : 1 ≤ period) (h2 : period ≤ 1000) :
    Calls Try.prog 7 #[.int .i64 period] w fun e w' => ∃ q, e = .returned (.tuple #[.pointer (some ⟨q, 0, none⟩), .int .i64 0]) ∧ w.heap.size ≤ q ∧ QueueAt (fun k => w.heap.size ≤ k) w' q ⟨period, 0, 0, []⟩ ∧ Below w.heap.size w w' := by
  have hmm := @run_makeMap Try.prog
  have n1 : ¬ period < 1 := by omega
  have n2 : ¬ period > 1000 := by omega
  have n3 : ¬ 1000 < period := by omega
  go_enter Try.func7, Try.ntmps7
  go_wp2_with fail
  go_ret2
  have hm : MapOf ((w.alloc (.map #[] 0)).alloc (.cells #[.int .i64 period, .int .i64 0, .int .i64 0, .slice none 0 0, .func (.func 22) #[] #[], .slice none 0 0, .func (.func 23) #[] #[], .map (some w.heap.size)] 62)) w.heap.size 0 [] :=
    (MapOf.made w).below ((Below.refl _ _).alloc (Nat.le_refl _) _)
  have hb : Blk ((w.alloc (.map #[] 0)).alloc (.cells #[.int .i64 period, .int .i64 0, .int .i64 0, .slice none 0 0, .func (.func 22) #[] #[], .slice none 0 0, .func (.func 23) #[] #[], .map (some w.heap.size)] 62)) (w.heap.size + 1) (qCells ⟨period, 0, 0, []⟩ (.slice none 0 0) (.slice none 0 0) w.heap.size) 62 := Blk.new _ _ _ (by simp)
  refine ⟨w.heap.size + 1, rfl, by omega, ⟨.slice none 0 0, .slice none 0 0, w.heap.size, 0, [], [], ?_⟩, ((Below.refl _ _).alloc (Nat.le_refl _) _).alloc (by simp) _⟩
  exact {
    inv := { per := ⟨h1, h2⟩, tak := ⟨Int.le_refl _, (by show (0 : Int) ≤ 800000; decide)⟩, many := (by show (0 : Nat) ≤ 800000; decide), keys := by simp, ages := by simp, inl := fun _ h => h, ino := fun _ h => h, wkl := fun _ h => (by cases h), wko := fun _ h => (by cases h), last := fun _ h => (by cases h), lenl := Nat.le_refl _, leno := Nat.le_refl _ }
    blk := hb
    rl := Row.nil _ _
    ro := Row.nil _ _
    mp := hm
    hn := Nat.le_refl _
    hl := fun j hj => by simp at hj
    ho := fun j hj => by simp at hj
    lq := by simp [Value.ownBlock]
    lm := by simp [Value.ownBlock]
    oq := by simp [Value.ownBlock]
    om := by simp [Value.ownBlock]
    mq := by omega
    lo := fun g hg => by cases hg
    fq := by show _ ≤ _; omega
    fm := Nat.le_refl _
    fl := fun g hg => by cases hg
    fo := fun g hg => by cases hg }

theorem len_q {F : Nat → Prop} {w : World} {q : Nat} {s : QS} (h : QueueAt F w q s) :
    Calls Try.prog 12 #[.pointer (some ⟨q, 0, none⟩)] w fun e w' => e = .returned (.int .i64 s.L.length) ∧ Below w.heap.size w w' := by
  obtain ⟨lv, ov, m, n, light, old, h⟩ := h
  have c7 : w.cell? ⟨q, 7, none⟩ = some (.map (some m)) := h.blk.cell rfl
  have hln := h.mp.len 3
  go_enter Try.func12, Try.ntmps12
  go_wp2_with fail
  go_ret
  exact ⟨rfl, Below.refl _ _⟩
theorem taken_q {F : Nat → Prop} {w : World} {q : Nat} {s : QS} (h : QueueAt F w q s) :
    Calls Try.prog 21 #[.pointer (some ⟨q, 0, none⟩)] w fun e w' => e = .returned (.int .i64 s.taken) ∧ Below w.heap.size w w' := by
  obtain ⟨lv, ov, m, n, light, old, h⟩ := h
  have c1 : w.cell? ⟨q, 1, none⟩ = some (.int .i64 s.taken) := h.blk.cell rfl
  go_enter Try.func21, Try.ntmps21
  go_wp2_with fail
  go_ret
  exact ⟨rfl, Below.refl _ _⟩

theorem len_nil (w : World) : Calls Try.prog 12 #[.pointer none] w fun e w' => e = .returned (.int .i64 0) ∧ Below w.heap.size w w' := by
  go_enter Try.func12, Try.ntmps12
  go_wp2_with fail
  go_ret
  exact ⟨rfl, Below.refl _ _⟩
theorem taken_nil (w : World) : Calls Try.prog 21 #[.pointer none] w fun e w' => e = .returned (.int .i64 0) ∧ Below w.heap.size w w' := by
  go_enter Try.func21, Try.ntmps21
  go_wp2_with fail
  go_ret
  exact ⟨rfl, Below.refl _ _⟩
theorem put_nil (w : World) (a b : Int) : Calls Try.prog 8 #[.pointer none, .int .i64 a, .int .i64 b] w fun e w' => e = .returned (.int .i64 13) ∧ Below w.heap.size w w' := by
  go_enter Try.func8, Try.ntmps8
  go_wp2_with fail
  go_ret
  exact ⟨rfl, Below.refl _ _⟩
theorem drop_nil (w : World) (v : Value) : Calls Try.prog 11 #[.pointer none, v] w fun e w' => e = .returned (.int .i64 0) ∧ Below w.heap.size w w' := by
  go_enter Try.func11, Try.ntmps11
  go_wp2_with fail
  go_ret
  exact ⟨rfl, Below.refl _ _⟩
theorem all_nil (w : World) : Calls Try.prog 20 #[.pointer none] w fun e w' => e = .returned (.slice none 0 0) ∧ Below w.heap.size w w' := by
  go_enter Try.func20, Try.ntmps20
  go_wp2_with fail
  go_ret
  exact ⟨rfl, Below.refl _ _⟩
theorem copy_nil (w : World) : Calls Try.prog 19 #[.pointer none] w fun e w' => e = .returned (.pointer none) ∧ Below w.heap.size w w' := by
  go_enter Try.func19, Try.ntmps19
  go_wp2_with fail
  go_ret
  exact ⟨rfl, Below.refl _ _⟩
theorem peek_nil (w : World) : Calls Try.prog 16 #[.pointer none] w fun e w' => e = .returned (.tuple #[.agg #[.int .i64 0, .int .i64 0, .int .i64 0], .bool false]) ∧ Below w.heap.size w w' := by
  go_enter Try.func16, Try.ntmps16
  go_wp2_with fail
  have z := Blk.new w #[.int .i64 0, .int .i64 0, .int .i64 0] 30 rfl
  (try simp only [Exit.inBlock, Exit.then]); refine bodyPost_ret (results_ent rfl _ _ rfl (e := ⟨0, 0, 0⟩) z) rfl ?_
  exact ⟨rfl, (Below.refl _ _).alloc (Nat.le_refl _) _⟩
theorem next_nil (w : World) : Calls Try.prog 9 #[.pointer none] w fun e w' => e = .returned (.tuple #[.agg #[.int .i64 0, .int .i64 0, .int .i64 0], .bool false]) ∧ Below w.heap.size w w' := by
  obtain ⟨wB, hwB⟩ : ∃ wB, w.alloc (.cells #[.int .i64 0, .int .i64 0, .int .i64 0] 30) = wB := ⟨_, rfl⟩
  have B0 : Below w.heap.size w wB := by rw [← hwB]; exact (Below.refl _ _).alloc (Nat.le_refl _) _
  have x0 : Blk wB w.heap.size #[.int .i64 0, .int .i64 0, .int .i64 0] 30 := by rw [← hwB]; exact Blk.new _ _ _ rfl
  go_enter Try.func9, Try.ntmps9
  go_wp2_with fail
  try rw [hwB]
  clear hwB
  refine (peek_nil _).mono ?_
  rintro e w1 ⟨rfl, hb⟩
  have x1 := x0.below hb
  have B1 := B0.trans (hb.mono B0.size)
  have f1 := x1.free 0; have f2 := x1.free 1; have f3 := x1.free 2
  have d0 := x1.cell (i := 0) rfl; have d1 := x1.cell (i := 1) rfl; have d2 := x1.cell (i := 2) rfl
  have hlt := x1.lt
  clear x0 B0 hb
  go_wp2_with fail
  have z := (((x1.set 0 (.int .i64 0)).set 1 (.int .i64 0)).set 2 (.int .i64 0)).alloc (.cells #[.int .i64 0, .int .i64 0, .int .i64 0] 30)
  (try simp only [Exit.inBlock, Exit.then]); refine bodyPost_ret (results_ent rfl _ _ rfl (e := ⟨0, 0, 0⟩) z) rfl ?_
  exact ⟨rfl, (((B1.setCell (p := ⟨w.heap.size, 0, none⟩) (Nat.le_refl _) _).setCell (p := ⟨w.heap.size, 1, none⟩) (Nat.le_refl _) _).setCell (p := ⟨w.heap.size, 2, none⟩) (Nat.le_refl _) _).alloc (by simp; omega) _⟩
end Go.Proofs.Ytplfbdkljnblmaa

namespace Go.Proofs.Ytplfbdkljnblmaa
open Go.RowKit Go.Maps

theorem QueueAt.tight {F : Nat → Prop} {w : World} {q : Nat} {s : QS} (h : QueueAt F w q s) : QueueAt (fun k => F k ∧ k < w.heap.size) w q s := by
  obtain ⟨lv, ov, m, n, light, old, h⟩ := h
  exact ⟨lv, ov, m, n, light, old, { h with fq := h.qb (.inl rfl) |>.symm, fm := h.qb (.inr (.inl rfl)) |>.symm, fl := fun g hg => (h.qb (.inr (.inr (.inl hg)))).symm, fo := fun g hg => (h.qb (.inr (.inr (.inr hg)))).symm }⟩

namespace Kn
def kL : List Ent := [⟨0, 5, 0⟩, ⟨1, 1, 1⟩, ⟨2, 1, 2⟩, ⟨3, 1, 3⟩]
def kp (k : Nat) : QS := ⟨3, 0, k, kL.take k⟩
def rem : Nat → List Ent
  | 0 => kL
  | 1 => [⟨0, 5, 0⟩, ⟨2, 1, 2⟩, ⟨3, 1, 3⟩]
  | 2 => [⟨0, 5, 0⟩, ⟨3, 1, 3⟩]
  | 3 => [⟨3, 1, 3⟩]
  | _ => []
def want : Nat → Int
  | 0 => 1
  | 1 => 2
  | 2 => 0
  | _ => 3
def kn (k : Nat) : QS := ⟨3, k, 4, rem k⟩

theorem put_kp {k : Nat} (hk : k < 4) {key weight : Int} (hkw : kL[k]? = some ⟨key, weight, k⟩) {e : Ending} {s' : QS} (h : PutRes (kp k) key weight e s') : e = .returned (.int .i64 0) ∧ s' = kp (k + 1) := by
  have hn : findK (kp k).L key = none := by
    match k, hk, hkw with
    | 0, _, h => rfl
    | 1, _, h => cases h; decide
    | 2, _, h => cases h; decide
    | 3, _, h => cases h; decide
  have hl : (kp k).L.length ≠ 10000 := by
    have : (kp k).L.length ≤ 4 := by simp [kp, kL]; omega
    omega
  rcases h with ⟨h1, _⟩ | ⟨_, h1, _⟩ | ⟨_, _, h1, h2⟩
  · rw [hn] at h1; cases h1
  · exact absurd h1 hl
  · refine ⟨h1, h2.trans ?_⟩
    match k, hk, hkw with
    | 0, _, h => cases h; rfl
    | 1, _, h => cases h; rfl
    | 2, _, h => cases h; rfl
    | 3, _, h => cases h; rfl

theorem next_kn {k : Nat} (hk : k < 4) {e : Ending} {s' : QS} (h : NextRes (kn k) e s') : ∃ x : Ent, e = .returned (.tuple #[x.v, .bool true]) ∧ x.key = want k ∧ s' = kn (k + 1) := by
  rcases h with ⟨h1, _⟩ | ⟨x, hx, hmin, he, hs⟩
  · exfalso
    match k, hk with
    | 0, _ => cases h1
    | 1, _ => cases h1
    | 2, _ => cases h1
    | 3, _ => cases h1
  · refine ⟨x, he, ?_⟩
    rw [hs]
    match k, hk with
    | 0, _ =>
      have h0 := hmin ⟨1, 1, 1⟩ (by decide)
      simp [kn, rem, kL] at hx
      rcases hx with rfl | rfl | rfl | rfl
      · exact absurd h0 (by decide)
      · exact ⟨rfl, rfl⟩
      · exact absurd h0 (by decide)
      · exact absurd h0 (by decide)
    | 1, _ =>
      have h0 := hmin ⟨2, 1, 2⟩ (by decide)
      simp [kn, rem] at hx
      rcases hx with rfl | rfl | rfl
      · exact absurd h0 (by decide)
      · exact ⟨rfl, rfl⟩
      · exact absurd h0 (by decide)
    | 2, _ =>
      have h0 := hmin ⟨0, 5, 0⟩ (by decide)
      simp [kn, rem] at hx
      rcases hx with rfl | rfl
      · exact ⟨rfl, rfl⟩
      · exact absurd h0 (by decide)
    | 3, _ =>
      simp [kn, rem] at hx
      subst hx
      exact ⟨rfl, rfl⟩
theorem want_cell {k : Nat} (hk : k < 4) : (#[.int .i64 1, .int .i64 2, .int .i64 0, .int .i64 3] : Array Value)[k]? = some (.int .i64 (want k)) := by
  match k, hk with
  | 0, _ => rfl
  | 1, _ => rfl
  | 2, _ => rfl
  | 3, _ => rfl
theorem kL_get {k : Nat} (h1 : 1 ≤ k) (hk : k < 4) : kL[k]? = some ⟨k, 1, k⟩ := by
  match k, h1, hk with
  | 1, _, _ => rfl
  | 2, _, _ => rfl
  | 3, _, _ => rfl
theorem kp_kn : kp 4 = kn 0 := rfl
end Kn

set_option maxRecDepth 100000 in
set_option maxHeartbeats 4000000 in
theorem known25 (w : World) : Calls Try.prog 10 #[] w fun e w' => e = .returned (.bool true) ∧ Below w.heap.size w w' := by
  go_enter Try.func10, Try.ntmps10
  go_wp2_with fail
  refine (new_q w 3 (by decide) (by decide)).mono ?_
  rintro e w1 ⟨q, rfl, hq, hQ, hb⟩
  go_wp2_with fail
  refine (put_q hQ (by decide) (fun k hk => Nat.le_trans hb.size hk) 0 5 (by unfold W64; decide)).mono ?_
  rintro e w2 ⟨s', hres, hQ2, hO⟩
  obtain ⟨rfl, rfl⟩ := Kn.put_kp (k := 0) (by decide) rfl hres
  have hb2 := hb.trans (hO.toBelow hb.size fun k hk => hk)
  clear hb hO hQ hres
  go_wp2_with fail
  go_loopw [3] (fun iv wr => ∃ k : Nat, iv = .int .i64 k ∧ 1 ≤ k ∧ k ≤ 4 ∧ QueueAt (fun k => w.heap.size ≤ k) wr q (Kn.kp k) ∧ Below w.heap.size w wr) (fun iv _ => 4 - (intOf iv).toNat)
  case atStart => exact ⟨1, rfl, by omega, by omega, hQ2, hb2⟩
  case round =>
    obtain ⟨k, rfl, hk1, hk4, hQk, hbk⟩ := hrel
    by_cases hlt : k < 4
    · have hltI : (k : Int) < 4 := by omega
      go_wp2_with fail
      refine (put_q hQk (by show k ≤ 799999; omega) (fun j hj => Nat.le_trans hbk.size hj) k 1 (by unfold W64; omega)).mono ?_
      rintro e w3 ⟨s', hres, hQ3, hO⟩
      obtain ⟨rfl, rfl⟩ := Kn.put_kp (k := k) hlt (Kn.kL_get hk1 hlt) hres
      have hb3 := hbk.trans (hO.toBelow hbk.size fun k hk => hk)
      clear hO hres
      go_wp2_with fail
      go_roundw
      case rel => exact ⟨k + 1, by go_num, by omega, by omega, hQ3, hb3⟩
      case measure => simp [intOf]; omega
    · obtain rfl : k = 4 := by omega
      go_wp2_with fail
      obtain ⟨A, hA⟩ : ∃ A, wr.heap.size = A := ⟨_, rfl⟩
      have hQt := hQk.tight
      rw [hA] at hQt
      have hb4 : Below wr.heap.size wr (wr.alloc (.cells #[.int .i64 1, .int .i64 2, .int .i64 0, .int .i64 3] 64)) := (Below.refl _ _).alloc (Nat.le_refl _) _
      have hA4 : Blk (wr.alloc (.cells #[.int .i64 1, .int .i64 2, .int .i64 0, .int .i64 3] 64)) A #[.int .i64 1, .int .i64 2, .int .i64 0, .int .i64 3] 64 := Blk.new _ _ _ hA.symm
      have hQ4 : QueueAt (fun k => w.heap.size ≤ k ∧ k ≠ A) (wr.alloc (.cells #[.int .i64 1, .int .i64 2, .int .i64 0, .int .i64 3] 64)) q (Kn.kn 0) :=
        (hQt.weaken fun k hk => ⟨hk.1, by omega⟩).below hb4
      have hb4' := hbk.trans (hb4.mono hbk.size)
      have hwA : w.heap.size ≤ A := by rw [← hA]; exact hbk.size
      rw [hA]
      clear hQt hQk hbk hb4
      go_loopw [5] (fun iv wr => ∃ k : Nat, iv = .int .i64 k ∧ k ≤ 4 ∧ QueueAt (fun k => w.heap.size ≤ k ∧ k ≠ A) wr q (Kn.kn k) ∧ Blk wr A #[.int .i64 1, .int .i64 2, .int .i64 0, .int .i64 3] 64 ∧ Below w.heap.size w wr) (fun iv _ => 4 - (intOf iv).toNat)
      case atStart => exact ⟨0, rfl, by omega, hQ4, hA4, hb4'⟩
      case round =>
        obtain ⟨k, rfl, hk4, hQk, hAk, hbk⟩ := hrel
        by_cases hlt : k < 4
        · have hltI : (k : Int) < 4 := by omega
          go_wp2_with fail
          refine (next_q hQk (by show (k : Int) ≤ 799999; omega)).mono ?_
          rintro e w5 ⟨s', hres, hQ5, hO⟩
          obtain ⟨x, rfl, hx, rfl⟩ := Kn.next_kn hlt hres
          have hA5 := hO.blk hAk (fun h => h.2 rfl)
          have hb5 := hbk.trans (hO.toBelow hbk.size fun k hk => hk.1)
          obtain ⟨xk, xw, xg⟩ := x
          dsimp only at hx
          have ca : w5.cell? ⟨A, k, none⟩ = some (.int .i64 xk) := by
            rw [hx]
            exact hA5.cell (Kn.want_cell hlt)
          have hal := hA5.lt
          unfold Ent.v
          dsimp only
          clear hO hres hx
          go_wp2_with fail
          obtain ⟨w6, hw6⟩ : ∃ w6, w5.alloc (.cells #[.int .i64 xk, .int .i64 xw, .int .i64 xg] 30) = w6 := ⟨_, rfl⟩
          obtain ⟨X, hX⟩ : ∃ X, w5.heap.size = X := ⟨_, rfl⟩
          have hb56 : Below w5.heap.size w5 w6 := by rw [← hw6]; exact (Below.refl _ _).alloc (Nat.le_refl _) _
          have x6 : Blk w6 X #[.int .i64 xk, .int .i64 xw, .int .i64 xg] 30 := by rw [← hw6]; exact Blk.new _ _ _ hX.symm
          have hA6 := hA5.below hb56
          have hQ6 := hQ5.below hb56
          have hb6 := hb5.trans (hb56.mono hb5.size)
          have ca6 := (Keep.refl (fun _ => True) w5).below hb56 _ _ _ trivial ca
          rw [hw6]
          rw [hX]
          clear hw6 hX hb56 hA5 hQ5 hb5 ca
          refine wp_region_noPanic (wp_region_need (S := fun w' => w'.cell? ⟨X, 0, none⟩ = some (.int .i64 xk) ∧ w'.cell? ⟨A, k, none⟩ = some (.int .i64 xk)) (by kernel_rfl) ?_)
          have hS : (w6.drew).cell? ⟨X, 0, none⟩ = some (.int .i64 xk) ∧ (w6.drew).cell? ⟨A, k, none⟩ = some (.int .i64 xk) := ⟨x6.drew.cell rfl, ca6⟩
          refine wpN_take (i := 0) (v := ?v1) rfl (by kernel_rfl) (fun _ _ _ h => h) hS (Or.inl ⟨by rfl, ?hy1⟩) ?hr1
          case hy1 => (intro wS hSw; (try dsimp only at hSw); go_simp; (try with_reducible rfl))
          try simp only [Act.put, List.setIfInBounds_toArray, List.set_cons_zero, List.set_cons_succ, List.getElem_toArray, List.getElem_cons_zero, List.getElem_cons_succ]
          refine wpN_take (i := 1) (v := ?v2) rfl (by kernel_rfl) (fun _ _ _ h => h) hS (Or.inl ⟨by rfl, ?hy2⟩) ?hr2
          case hy2 => (intro wS hSw; (try dsimp only at hSw); go_simp; (try with_reducible rfl))
          try simp only [Act.put, List.setIfInBounds_toArray, List.set_cons_zero, List.set_cons_succ, List.getElem_toArray, List.getElem_cons_zero, List.getElem_cons_succ]
          refine wpN_take (i := 2) (v := ?v3) rfl (by kernel_rfl) (fun _ _ _ h => h) hS (Or.inl ⟨by rfl, ?hy3⟩) ?hr3
          case hy3 => (intro wS hSw; (try dsimp only at hSw); go_simp; (try with_reducible rfl))
          try simp only [Act.put, List.setIfInBounds_toArray, List.set_cons_zero, List.set_cons_succ, List.getElem_toArray, List.getElem_cons_zero, List.getElem_cons_succ]
          refine wpN_take (i := 3) (v := ?v4) rfl (by kernel_rfl) (fun _ _ _ h => h) hS (Or.inl ⟨by rfl, ?hy4⟩) ?hr4
          case hy4 => (intro wS hSw; (try dsimp only at hSw); go_simp; (try with_reducible rfl))
          try simp only [Act.put, List.setIfInBounds_toArray, List.set_cons_zero, List.set_cons_succ, List.getElem_toArray, List.getElem_cons_zero, List.getElem_cons_succ]
          refine wpN_take (i := 4) (v := ?v5) rfl (by kernel_rfl) (fun _ _ _ h => h) hS (Or.inl ⟨by rfl, ?hy5⟩) ?hr5
          case hy5 => (intro wS hSw; (try dsimp only at hSw); go_simp; (try with_reducible rfl))
          try simp only [Act.put, List.setIfInBounds_toArray, List.set_cons_zero, List.set_cons_succ, List.getElem_toArray, List.getElem_cons_zero, List.getElem_cons_succ]
          refine wpN_take (i := 5) (v := ?v6) rfl (by kernel_rfl) (fun _ _ _ h => h) hS (Or.inl ⟨by rfl, ?hy6⟩) ?hr6
          case hy6 => (intro wS hSw; (try dsimp only at hSw); go_simp; (try with_reducible rfl))
          try simp only [Act.put, List.setIfInBounds_toArray, List.set_cons_zero, List.set_cons_succ, List.getElem_toArray, List.getElem_cons_zero, List.getElem_cons_succ]
          refine wpN_take (i := 6) (v := ?v7) rfl (by kernel_rfl) (fun _ _ _ h => h) hS (Or.inl ⟨by rfl, ?hy7⟩) ?hr7
          case hy7 => (intro wS hSw; (try dsimp only at hSw); go_simp; (try with_reducible rfl))
          try simp only [Act.put, List.setIfInBounds_toArray, List.set_cons_zero, List.set_cons_succ, List.getElem_toArray, List.getElem_cons_zero, List.getElem_cons_succ]
          refine wpN_take (i := 7) (v := ?v8) rfl (by kernel_rfl) (fun _ _ _ h => h) hS (Or.inl ⟨by rfl, ?hy8⟩) ?hr8
          case hy8 => (intro wS hSw; (try dsimp only at hSw); go_simp; (try with_reducible rfl))
          try simp only [Act.put, List.setIfInBounds_toArray, List.set_cons_zero, List.set_cons_succ, List.getElem_toArray, List.getElem_cons_zero, List.getElem_cons_succ]
          refine wpN_take (i := 8) (v := ?v9) rfl (by kernel_rfl) (fun _ _ _ h => h) hS (Or.inl ⟨by rfl, ?hy9⟩) ?hr9
          case hy9 => (intro wS hSw; (try dsimp only at hSw); go_simp; (try with_reducible rfl))
          try simp only [Act.put, List.setIfInBounds_toArray, List.set_cons_zero, List.set_cons_succ, List.getElem_toArray, List.getElem_cons_zero, List.getElem_cons_succ]
          refine wpN_take (i := 9) (v := ?v10) rfl (by kernel_rfl) (fun _ _ _ h => h) hS (Or.inl ⟨by rfl, ?hy10⟩) ?hr10
          case hy10 => (intro wS hSw; (try dsimp only at hSw); go_simp; (try with_reducible rfl))
          try simp only [Act.put, List.setIfInBounds_toArray, List.set_cons_zero, List.set_cons_succ, List.getElem_toArray, List.getElem_cons_zero, List.getElem_cons_succ]
          refine wpN_done (by kernel_rfl) ?_
          refine NoPanic.normal ?_
          have hd : Below w6.heap.size w6 w6.drew := (Below.refl _ _).drew
          have hA7 := hA6.below hd
          have hQ7 := hQ6.below hd
          have hb7 := hb6.trans (hd.mono hb6.size)
          go_wp2_with fail
          go_roundw
          case rel => exact ⟨k + 1, by go_num, by omega, hQ7, hA7, hb7⟩
          case measure => simp [intOf]; omega
        · obtain rfl : k = 4 := by omega
          go_wp2_with fail
          refine (len_q hQk).mono ?_
          rintro e w5 ⟨rfl, hb5⟩
          have hQ5 := hQk.below hb5
          have hbb5 := hbk.trans (hb5.mono hbk.size)
          have e0 : ((Kn.kn 4).L.length : Int) = 0 := rfl
          rw [e0]
          go_wp2_with fail
          refine (taken_q hQ5).mono ?_
          rintro e w6 ⟨rfl, hb6⟩
          have hbb6 := hbb5.trans (hb6.mono hbb5.size)
          have e1 : (Kn.kn 4).taken = 4 := rfl
          rw [e1]
          go_wp2_with fail
          go_ret
          exact ⟨rfl, hbb6⟩
end Go.Proofs.Ytplfbdkljnblmaa

namespace Go.Proofs.Ytplfbdkljnblmaa
open Go.RowKit

theorem QueueAt.facts {F : Nat → Prop} {w : World} {q : Nat} {s : QS} (h : QueueAt F w q s) : (s.L.map Ent.key).Nodup ∧ (s.L.Pairwise fun a b => a.age < b.age) ∧ (∀ e ∈ s.L, W64 e.key) ∧ s.put ≤ 800000 := by
  obtain ⟨lv, ov, m, n, light, old, h⟩ := h
  exact ⟨h.inv.keys, h.inv.ages, fun e he => h.inv.wkl e (h.inv.inl e he), h.inv.many⟩

theorem put_new {s : QS} {key weight : Int} {e : Ending} {s' : QS} (h : PutRes s key weight e s') (hk : ∀ x ∈ s.L, x.key ≠ key) (hl : s.L.length < 10000) : e = .returned (.int .i64 0) ∧ s' = s.more ⟨key, weight, s.put⟩ := by
  have hn : findK s.L key = none := by
    unfold findK
    rw [List.find?_eq_none]
    intro x hx
    simpa using hk x hx
  rcases h with ⟨h1, _⟩ | ⟨_, h1, _⟩ | ⟨_, _, h1, h2⟩
  · rw [hn] at h1; cases h1
  · omega
  · exact ⟨h1, h2⟩

structure Elders (per : Int) (i : Nat) (s : QS) : Prop where
  hper : s.period = per
  tak : s.taken = 0
  put : s.put = i
  len : s.L.length = i
  keys : ∀ e ∈ s.L, e.key < i
theorem Elders.step {per : Int} {i : Nat} {s : QS} (h : Elders per i s) (hi : i ≤ 100) {weight : Int} {e : Ending} {s' : QS} (hp : PutRes s i weight e s') : e = .returned (.int .i64 0) ∧ Elders per (i + 1) s' := by
  obtain ⟨h1, rfl⟩ := put_new hp (fun x hx e => by have := h.keys x hx; omega) (by have := h.len; omega)
  refine ⟨h1, ⟨h.hper, h.tak, by show s.put + 1 = i + 1; rw [h.put], by show (s.L ++ [_]).length = _; simp [h.len], fun x hx => ?_⟩⟩
  rcases List.mem_append.1 hx with hx | hx
  · have := h.keys x hx; push_cast; omega
  · simp at hx; subst hx; push_cast; omega

structure Fair (per elder : Nat) (x0 : Ent) (i : Nat) (s : QS) : Prop where
  hper : s.period = per
  tak : s.taken + 1 = i
  put : s.put + 1 = elder + 2 * i
  len : s.L.length ≤ s.put
  keys : ∀ e ∈ s.L, e.key < 2000 + 2 * i
  split : ∃ pre post, s.L = pre ++ x0 :: post ∧ pre.length + (i - 1) / per ≤ elder
theorem Fair.start {per elder : Nat} {s : QS} (h : Elders per elder s) (he : elder ≤ 20) {weight : Int} {e : Ending} {s' : QS} (hp : PutRes s 1000 weight e s') : e = .returned (.int .i64 0) ∧ Fair per elder ⟨1000, weight, elder⟩ 1 s' := by
  obtain ⟨h1, rfl⟩ := put_new hp (fun x hx e => by have := h.keys x hx; omega) (by have := h.len; omega)
  have hput := h.put
  refine ⟨h1, ⟨h.hper, by show s.taken + 1 = ((1 : Nat) : Int); rw [h.tak]; rfl, by show s.put + 1 + 1 = _; omega, by show (s.L ++ [_]).length ≤ s.put + 1; simp; have := h.len; omega, fun x hx => ?_, ⟨s.L, [], by show s.L ++ [_] = _; rw [hput], by have := h.len; simp; omega⟩⟩⟩
  rcases List.mem_append.1 hx with hx | hx
  · have := h.keys x hx; omega
  · simp at hx; subst hx; simp

structure Half (per elder : Nat) (x0 : Ent) (i : Nat) (s : QS) : Prop where
  hper : s.period = per
  tak : s.taken = i
  put : s.put + 1 = elder + 2 * i
  len : s.L.length ≤ s.put
  keys : ∀ e ∈ s.L, e.key < 2000 + 2 * i
  split : ∃ pre post, s.L = pre ++ x0 :: post ∧ pre.length + i / per ≤ elder
theorem Fair.take {per elder : Nat} {x0 : Ent} {i : Nat} {s : QS} (h : Fair per elder x0 i s) (hp : 1 ≤ per) (hi : 1 ≤ i) (h0 : x0.key = 1000) (hk : (s.L.map Ent.key).Nodup) (ha : s.L.Pairwise fun a b => a.age < b.age)
    {x : Ent} (hx : x ∈ s.L) (hmin : ∀ y ∈ s.L, s.lt y x = false) (hne : x.key ≠ 1000) : Half per elder x0 i (s.took x.key) := by
  obtain ⟨pre, post, hL, hpre⟩ := h.split
  have hsub : ∀ e ∈ (s.took x.key).L, e ∈ s.L := fun e he => (List.mem_filter.1 he).1
  refine ⟨h.hper, h.tak, h.put, Nat.le_trans (List.length_filter_le _ _) h.len, fun e he => h.keys e (hsub e he), MapOf.less pre x.key, MapOf.less post x.key, ?_, ?_⟩
  · show MapOf.less s.L x.key = _
    rw [hL]
    unfold MapOf.less
    rw [List.filter_append, List.filter_cons_of_pos]
    simp [h0]; omega
  · have hle : (MapOf.less pre x.key).length ≤ pre.length := List.length_filter_le _ _
    by_cases hc : i % per = 0
    · -- the first one goes
      have hlt : s.lt = Hp.elder := by
        unfold QS.lt
        rw [h.tak, h.hper, if_pos]
        rw [Int.tmod_eq_emod_of_nonneg (by omega)]
        omega
      have hxp : x ∈ pre := by
        cases pre with
        | nil =>
          exfalso
          rw [hL] at hx hmin ha
          rw [List.nil_append] at hx hmin ha
          rcases List.mem_cons.1 hx with rfl | hx
          · exact hne h0
          · have h1 := hmin x0 (by simp)
            rw [hlt] at h1
            have h2 := (List.pairwise_cons.1 ha).1 x hx
            simp [Hp.elder] at h1; omega
        | cons f pre =>
          rw [hL] at hx hmin ha
          rcases List.mem_cons.1 hx with rfl | hx
          · simp
          · exfalso
            have h1 := hmin f (by simp)
            rw [hlt] at h1
            have h2 := (List.pairwise_cons.1 ha).1 x hx
            simp [Hp.elder] at h1; omega
      have hlt2 : (MapOf.less pre x.key).length < pre.length := by
        unfold MapOf.less
        rw [List.length_filter_lt_length_iff_exists]
        exact ⟨x, hxp, by simp⟩
      have hd : i / per = (i - 1) / per + 1 := by
        obtain ⟨k, hk⟩ := Nat.dvd_of_mod_eq_zero hc
        subst hk
        have hk0 : 0 < k := Nat.pos_of_ne_zero (fun e => by subst e; simp at hi)
        rw [Nat.mul_div_cancel_left _ (by omega)]
        have : per * k - 1 = (per - 1) + per * (k - 1) := by
          obtain ⟨k, rfl⟩ : ∃ k', k = k' + 1 := ⟨k - 1, by omega⟩
          rw [Nat.mul_add, Nat.add_sub_cancel]; omega
        rw [this, Nat.add_mul_div_left _ _ (by omega), Nat.div_eq_of_lt (by omega)]
        omega
      omega
    · have hd : i / per = (i - 1) / per := by
        have h1 := Nat.div_add_mod i per
        have h2 : i % per < per := Nat.mod_lt _ (by omega)
        generalize i / per = q at *
        generalize i % per = r at *
        subst h1
        have h3 : per * q + r - 1 = (r - 1) + per * q := by
          generalize per * q = P
          omega
        rw [h3, Nat.add_mul_div_left _ _ (by omega), Nat.div_eq_of_lt (by omega)]
        omega
      omega
theorem Half.puts {per elder : Nat} {x0 : Ent} {i : Nat} {s : QS} (h : Half per elder x0 i s) (he : elder ≤ 20) (hi : i ≤ 300) {w1 w2 : Int} {e e' : Ending} {s' s'' : QS} (hp : PutRes s (2000 + 2 * i) w1 e s') (hp' : PutRes s' (2001 + 2 * i) w2 e' s'') :
    e = .returned (.int .i64 0) ∧ e' = .returned (.int .i64 0) ∧ Fair per elder x0 (i + 1) s'' := by
  have hlen := h.len
  have hput := h.put
  obtain ⟨h1, rfl⟩ := put_new hp (fun x hx e => by have := h.keys x hx; omega) (by omega)
  obtain ⟨h2, rfl⟩ := put_new hp' (fun x hx e => by
    rcases List.mem_append.1 hx with hx | hx
    · have := h.keys x hx; omega
    · simp at hx; subst hx; simp at e) (by show (s.L ++ [_]).length < 10000; simp; omega)
  obtain ⟨pre, post, hL, hpre⟩ := h.split
  refine ⟨h1, h2, ⟨h.hper, by show s.taken + 1 = _; rw [h.tak]; push_cast; rfl, by show s.put + 1 + 1 + 1 = _; omega, by show (s.L ++ [_] ++ [_]).length ≤ s.put + 1 + 1; simp; omega, fun x hx => ?_, pre, post ++ [(⟨2000 + 2 * i, w1, s.put⟩ : Ent)] ++ [(⟨2001 + 2 * i, w2, ((s.put + 1 : Nat) : Int)⟩ : Ent)], by show s.L ++ [_] ++ [_] = _; rw [hL]; simp [QS.more], by simpa using hpre⟩⟩
  rcases List.mem_append.1 hx with hx | hx
  · rcases List.mem_append.1 hx with hx | hx
    · have := h.keys x hx; push_cast; omega
    · simp at hx; subst hx; push_cast; omega
  · simp at hx; subst hx; push_cast; omega
theorem Fair.never {per elder : Nat} {x0 : Ent} {i : Nat} {s : QS} (h : Fair per elder x0 i s) (hp : 1 ≤ per) (hi : per * (elder + 1) < i) : False := by
  obtain ⟨pre, post, hL, hpre⟩ := h.split
  have : elder + 1 ≤ (i - 1) / per := (Nat.le_div_iff_mul_le (by omega)).2 (by rw [Nat.mul_comm]; omega)
  omega
end Go.Proofs.Ytplfbdkljnblmaa

namespace Go.Proofs.Ytplfbdkljnblmaa
open Go.RowKit

structure IntsAt (w : World) (a : Option Addr) (n : Nat) : Prop where
  cell : ∀ i, i < n → ∃ bl o x, a = some ⟨bl, o, none⟩ ∧ w.cell? ⟨bl, o + i, none⟩ = some (.int .i64 x)
theorem IntsAt.below {w w' : World} {a : Option Addr} {n : Nat} (h : IntsAt w a n) (hb : Below w.heap.size w w') : IntsAt w' a n :=
  ⟨fun i hi => by
    obtain ⟨bl, o, x, e, hc⟩ := h.cell i hi
    exact ⟨bl, o, x, e, (Keep.refl (fun _ => True) w).below hb _ _ _ trivial hc⟩⟩
theorem intsAt {w : World} {a : Option Addr} {n c : Nat} {l : List Int} (h : IsSl rpI (fun _ => True) w (.slice a n c) l) : n = l.length ∧ n ≤ c ∧ n ≤ maxLen ∧ IntsAt w a n := by
  obtain ⟨a', c', bl, off, X, hv, hm, ha, h1, h2⟩ := h
  injection hv with q1 q2 q3
  subst q1 q2 q3
  refine ⟨rfl, hm.2, hm.1, ⟨fun i hi => ⟨bl, off, l[i], (ha (by omega)).1, ?_⟩⟩⟩
  have hx : X i = [.int .i64 l[i]] := h2 i hi
  have := h1 i 0 (.int .i64 l[i]) hi (by rw [hx]; rfl)
  simpa [rpI] using this

theorem keepB' {w w' : World} (h : Below w.heap.size w w') : Keep (fun _ => True) w w' := (Keep.refl _ _).below h
theorem u64_pos (n : Int) : 0 ≤ IntKind.u64.wrap n := by
  unfold IntKind.wrap
  simp only [IntKind.signed, IntKind.bits, Bool.false_and, Bool.false_eq_true, if_false]
  exact Int.emod_nonneg _ (by decide)
theorem u64_mod (n : Int) (m : Nat) (hm : 1 ≤ m) (hm2 : m ≤ 1000) : ∃ k : Nat, k < m ∧ wrap64 ((IntKind.u64.wrap n).tmod m) = k := by
  have h1 := u64_pos n
  have h2 := Int.tmod_nonneg (m : Int) h1
  have h3 := Int.tmod_lt_of_pos (IntKind.u64.wrap n) (show (0 : Int) < m by omega)
  obtain ⟨k, hk⟩ := Int.eq_ofNat_of_zero_le h2
  refine ⟨k, by omega, ?_⟩
  rw [hk] at h3 ⊢
  unfold wrap64
  omega

theorem PutRes.put_le {s : QS} {k x : Int} {e : Ending} {s' : QS} (h : PutRes s k x e s') : s'.put ≤ s.put + 1 := by
  rcases h with ⟨_, _, rfl⟩ | ⟨_, _, _, rfl⟩ | ⟨_, _, _, rfl⟩
  · omega
  · omega
  · exact Nat.le_refl _

set_option maxRecDepth 100000 in
set_option maxHeartbeats 8000000 in
theorem fair_le {w : World} {a : Option Addr} {n c : Nat} (pd el wt : Int) (hc : n ≤ c) (hm : n ≤ maxLen) (hI : IntsAt w a n) (hcase : n ≤ 20) :
    Calls Try.prog 3 #[.int .i64 pd, .int .i64 el, .int .i64 wt, .slice a n c] w fun e w' => e = .returned (.bool true) ∧ Below w.heap.size w w' := by
  obtain ⟨per0, hper0, e1⟩ : ∃ k : Nat, k < 10 ∧ wrap64 ((IntKind.u64.wrap pd).tmod 10) = k := u64_mod pd 10 (by decide) (by decide)
  obtain ⟨eld, heldl, e2⟩ : ∃ k : Nat, k < 20 ∧ wrap64 ((IntKind.u64.wrap el).tmod 20) = k := u64_mod el 20 (by decide) (by decide)
  have HI : Hid (∀ i, i < n → ∃ bl o x, a = some ⟨bl, o, none⟩ ∧ w.cell? ⟨bl, o + i, none⟩ = some (.int .i64 x)) := fun i hi => hI.cell i (by omega)
  have hcI : (n : Int) ≤ c := by omega
  have hm2 : (n : Int) ≤ 9223372036854775807 := by simp only [maxLen] at hm; omega
  go_enter Try.func3, Try.ntmps3
  go_wp2_with fail
  all_goals try (exfalso; omega)
  simp only [e1, e2]
  refine (new_q w (1 + per0) (by omega) (by omega)).mono ?_
  rintro e w1 ⟨q, rfl, hq, hQ, hb⟩
  clear e1 e2 hI
  go_wp2_with fail
  go_loopw [11] (fun iv wr => ∃ (i : Nat) (s : QS), iv = .int .i64 i ∧ i ≤ eld ∧ QueueAt (fun k => w.heap.size ≤ k) wr q s ∧ Hid (Elders (1 + (per0 : Int)) i s) ∧ Below w.heap.size w wr) (fun iv _ => eld - (intOf iv).toNat)
  case atStart => exact ⟨0, _, rfl, by omega, hQ, ⟨rfl, rfl, rfl, rfl, by simp⟩, hb⟩
  case round =>
    obtain ⟨i, s, rfl, hi, hQi, hEi, hbi⟩ := hrel
    by_cases hlt : i < eld
    · have hltI : (i : Int) < eld := by omega
      have hput : (s.put : Nat) ≤ 799999 := by have := hEi.out.put; omega
      have fin : ∀ x : Int, Calls Try.prog 8 #[.pointer (some ⟨q, 0, none⟩), .int .i64 i, .int .i64 x] wr fun e w' => e = .returned (.int .i64 0) ∧ ∃ s', QueueAt (fun k => w.heap.size ≤ k) w' q s' ∧ Hid (Elders (1 + (per0 : Int)) (i + 1) s') ∧ Below w.heap.size w w' := fun x =>
        (put_q hQi hput (fun k hk => Nat.le_trans hbi.size hk) i x (by unfold W64; omega)).mono fun e w' ⟨s', hres, hQ', hO⟩ => by
          obtain ⟨he, hE⟩ := hEi.out.step (by omega) hres
          exact ⟨he, s', hQ', hE, hbi.trans (hO.toBelow hbi.size fun k hk => hk)⟩
      have Fin := Lib.hid fin; clear fin
      by_cases hik : i < n
      · have hikI : (i : Int) < n := by omega
        obtain ⟨bl, o, x, rfl, hx⟩ := HI.out i hik
        have hx' := (Keep.refl (fun _ => True) w).trans (keepB' hbi) _ _ _ trivial hx
        go_wp2_with fail
        refine (Fin.out x).mono ?_
        rintro e w3 ⟨rfl, s', hQ3, hE3, hb3⟩
        go_wp2_with fail
        go_roundw
        case rel => exact ⟨i + 1, s', by go_num, by omega, hQ3, hE3, hb3⟩
        case measure => simp [intOf]; omega
      · have hikI : ¬ (i : Int) < n := by omega
        go_wp2_with fail
        refine (Fin.out 0).mono ?_
        rintro e w3 ⟨rfl, s', hQ3, hE3, hb3⟩
        go_wp2_with fail
        go_roundw
        case rel => exact ⟨i + 1, s', by go_num, by omega, hQ3, hE3, hb3⟩
        case measure => simp [intOf]; omega
    · obtain rfl : i = eld := by omega
      go_wp2_with fail
      refine (put_q hQi (by have := hEi.out.put; omega) (fun k hk => Nat.le_trans hbi.size hk) 1000 wt (by unfold W64; decide)).mono ?_
      rintro e w2 ⟨s2, hres, hQ2, hO⟩
      have hE1 : Elders (((1 + per0 : Nat)) : Int) i s := by have := hEi.out; push_cast; exact this
      obtain ⟨rfl, hF⟩ := Fair.start hE1 (by omega) hres
      have HF := Lib.hid hF
      have hb2 := hbi.trans (hO.toBelow hbi.size fun k hk => hk)
      clear hF hE1 hres hO hEi hQi hbi hQ hb
      obtain ⟨M, hM⟩ : ∃ M, (1 + per0) * (i + 1) = M := ⟨_, rfl⟩
      have hM200 : M ≤ 200 := by rw [← hM]; exact Nat.le_trans (Nat.mul_le_mul (show 1 + per0 ≤ 10 by omega) (show i + 1 ≤ 20 by omega)) (by decide)
      have hMI : (1 + (per0 : Int)) * ((i : Int) + 1) = M := by rw [← hM]; push_cast; rfl
      have hM2 : (M : Int) ≤ 200 := by omega
      have hM3 : (0 : Int) ≤ M := by omega
      have hM4 : IntKind.i64.wrap (M : Int) = M := IntWalk.i64_in _ (by omega)
      have hiI : (i : Int) ≤ 20 := by omega
      have HM := Lib.hid hM; clear hM
      go_wp2_with fail
      go_loopw [13] (fun iv wr => ∃ (j : Nat) (s : QS), iv = .int .i64 j ∧ 1 ≤ j ∧ j ≤ M + 1 ∧ QueueAt (fun k => w.heap.size ≤ k) wr q s ∧ Hid (Fair (1 + per0) i ⟨1000, wt, i⟩ j s) ∧ Below w.heap.size w wr) (fun iv _ => M + 1 - (intOf iv).toNat)
      case atStart => exact ⟨1, s2, rfl, by omega, by omega, hQ2, HF.out, hb2⟩
      case round =>
        obtain ⟨j, s, rfl, hj1, hjM, hQj, hFj, hbj⟩ := hrel
        by_cases hle : j ≤ M
        · have hleI : (j : Int) ≤ M := by omega
          go_wp2_with fail
          refine (next_q hQj (by have := hFj.out.tak; omega)).mono ?_
          rintro e w5 ⟨s5, hres, hQ5, hO⟩
          obtain ⟨hfk, hfa, -, -⟩ := hQj.facts
          rcases hres with ⟨hL, _⟩ | ⟨x, hx, hmin, rfl, rfl⟩
          · exfalso
            obtain ⟨pre, post, hs, _⟩ := hFj.out.split
            rw [hs] at hL
            simp at hL
          have hb5 := hbj.trans (hO.toBelow hbj.size fun k hk => hk)
          by_cases hx0 : x.key = 1000
          · obtain ⟨xk, xw, xg⟩ := x
            dsimp only at hx0
            subst hx0
            unfold Ent.v
            dsimp only
            clear hx hmin hO hfk hfa
            go_wp2_with fail
            refine (known25 _).mono ?_
            rintro e w6 ⟨rfl, hb6⟩
            go_wp2_with fail
            go_ret
            exact ⟨rfl, (hb5.alloc hb5.size _).trans (hb6.mono (by have := hb5.size; simp; omega))⟩
          · have HH := Lib.hid (hFj.out.take (by omega) hj1 rfl hfk hfa hx hmin hx0)
            obtain ⟨xk, xw, xg⟩ := x
            dsimp only at hx0 HH hQ5
            have hxb : (xk == 1000) = false := by simpa using hx0
            unfold Ent.v
            dsimp only
            clear hx hmin hO hfk hfa hFj hQj
            have hb6' : Below w5.heap.size w5 (w5.alloc (.cells #[.int .i64 xk, .int .i64 xw, .int .i64 xg] 30)) := (Below.refl _ _).alloc (Nat.le_refl _) _
            have hQ6 := hQ5.below hb6'
            have hb6 := hb5.trans (hb6'.mono hb5.size)
            have hj300 : j ≤ 300 := by omega
            have hjI3 : (j : Int) ≤ 300 := by omega
            have hj0I : (0 : Int) ≤ j := by omega
            have fin : ∀ y : Int, Calls Try.prog 8 #[.pointer (some ⟨q, 0, none⟩), .int .i64 (2000 + 2 * (j : Int)), .int .i64 y] (w5.alloc (.cells #[.int .i64 xk, .int .i64 xw, .int .i64 xg] 30)) fun e w' => e = .returned (.int .i64 0) ∧ ∃ s', PutRes (QS.took s xk) (2000 + 2 * (j : Int)) y e s' ∧ QueueAt (fun k => w.heap.size ≤ k) w' q s' ∧ Below w.heap.size w w' := fun y =>
              (put_q hQ6 (by have := HH.out.put; omega) (fun k hk => Nat.le_trans hb6.size hk) (2000 + 2 * (j : Int)) y (by unfold W64; omega)).mono fun e w' ⟨s', hr, hQ', hO'⟩ => by
                have hn := put_new hr (fun x hx e => by have := HH.out.keys x hx; omega) (by have h1 := HH.out.len; have h2 := HH.out.put; omega)
                exact ⟨hn.1, s', hr, hQ', hb6.trans (hO'.toBelow hb6.size fun k hk => hk)⟩
            have Fin := Lib.hid fin; clear fin
            by_cases hk0 : 0 < n
            · have hkI : (0 : Int) < n := by omega
              obtain ⟨r, hr, hrI⟩ : ∃ r : Nat, r < n ∧ (j : Int).tmod n = r := ⟨j % n, Nat.mod_lt _ hk0, by rw [Int.tmod_eq_emod_of_nonneg hj0I]; rfl⟩
              obtain ⟨bl, o, y, rfl, hy⟩ := HI.out r hr
              have hy' := (Keep.refl (fun _ => True) w).trans (keepB' hb6) _ _ _ trivial hy
              have hr0 : (0 : Int) ≤ r := by omega
              have hrK : (r : Int) < n := by omega
              have hnz : ¬ (n : Int) = 0 := by omega
              go_wp2_with fail
              refine (Fin.out y).mono ?_
              rintro e w7 ⟨rfl, s7, hres7, hQ7, hb7⟩
              go_wp2_with fail
              refine (put_q hQ7 (by have h1 := HH.out.put; have h2 := hres7.put_le; omega) (fun k hk => Nat.le_trans hb7.size hk) (2001 + 2 * (j : Int)) (-9223372036854775807) (by unfold W64; omega)).mono ?_
              rintro e w8 ⟨s8, hres8, hQ8, hO8⟩
              obtain ⟨-, rfl, hF8⟩ := HH.out.puts (by omega) (by omega) hres7 hres8
              have hb8 := hb7.trans (hO8.toBelow hb7.size fun k hk => hk)
              clear hO8 hres8
              go_wp2_with fail
              go_roundw
              case rel => exact ⟨j + 1, s8, by go_num, by omega, by omega, hQ8, hF8, hb8⟩
              case measure => simp [intOf]; omega
            · try (exfalso; omega)
              all_goals
                have hkI : ¬ (0 : Int) < n := by omega
                go_wp2_with fail
                refine (Fin.out (-5)).mono ?_
                rintro e w7 ⟨rfl, s7, hres7, hQ7, hb7⟩
                go_wp2_with fail
                refine (put_q hQ7 (by have h1 := HH.out.put; have h2 := hres7.put_le; omega) (fun k hk => Nat.le_trans hb7.size hk) (2001 + 2 * (j : Int)) (-9223372036854775807) (by unfold W64; omega)).mono ?_
                rintro e w8 ⟨s8, hres8, hQ8, hO8⟩
                obtain ⟨-, rfl, hF8⟩ := HH.out.puts (by omega) (by omega) hres7 hres8
                have hb8 := hb7.trans (hO8.toBelow hb7.size fun k hk => hk)
                clear hO8 hres8
                go_wp2_with fail
                go_roundw
                case rel => exact ⟨j + 1, s8, by go_num, by omega, by omega, hQ8, hF8, hb8⟩
                case measure => simp [intOf]; omega
        · exact (hFj.out.never (by omega) (by rw [HM.out]; omega)).elim
set_option maxRecDepth 100000 in
set_option maxHeartbeats 8000000 in
theorem fair_gt {w : World} {a : Option Addr} {n c : Nat} (pd el wt : Int) (hc : n ≤ c) (hm : n ≤ maxLen) (hI : IntsAt w a n) (hcase : 20 < n) :
    Calls Try.prog 3 #[.int .i64 pd, .int .i64 el, .int .i64 wt, .slice a n c] w fun e w' => e = .returned (.bool true) ∧ Below w.heap.size w w' := by
  obtain ⟨per0, hper0, e1⟩ : ∃ k : Nat, k < 10 ∧ wrap64 ((IntKind.u64.wrap pd).tmod 10) = k := u64_mod pd 10 (by decide) (by decide)
  obtain ⟨eld, heldl, e2⟩ : ∃ k : Nat, k < 20 ∧ wrap64 ((IntKind.u64.wrap el).tmod 20) = k := u64_mod el 20 (by decide) (by decide)
  have HI : Hid (∀ i, i < 20 → ∃ bl o x, a = some ⟨bl, o, none⟩ ∧ w.cell? ⟨bl, o + i, none⟩ = some (.int .i64 x)) := fun i hi => hI.cell i (by omega)
  have hcI : (n : Int) ≤ c := by omega
  have hm2 : (n : Int) ≤ 9223372036854775807 := by simp only [maxLen] at hm; omega
  go_enter Try.func3, Try.ntmps3
  go_wp2_with fail
  all_goals try (exfalso; omega)
  simp only [e1, e2]
  refine (new_q w (1 + per0) (by omega) (by omega)).mono ?_
  rintro e w1 ⟨q, rfl, hq, hQ, hb⟩
  clear e1 e2 hI
  go_wp2_with fail
  go_loopw [11] (fun iv wr => ∃ (i : Nat) (s : QS), iv = .int .i64 i ∧ i ≤ eld ∧ QueueAt (fun k => w.heap.size ≤ k) wr q s ∧ Hid (Elders (1 + (per0 : Int)) i s) ∧ Below w.heap.size w wr) (fun iv _ => eld - (intOf iv).toNat)
  case atStart => exact ⟨0, _, rfl, by omega, hQ, ⟨rfl, rfl, rfl, rfl, by simp⟩, hb⟩
  case round =>
    obtain ⟨i, s, rfl, hi, hQi, hEi, hbi⟩ := hrel
    by_cases hlt : i < eld
    · have hltI : (i : Int) < eld := by omega
      have hput : (s.put : Nat) ≤ 799999 := by have := hEi.out.put; omega
      have fin : ∀ x : Int, Calls Try.prog 8 #[.pointer (some ⟨q, 0, none⟩), .int .i64 i, .int .i64 x] wr fun e w' => e = .returned (.int .i64 0) ∧ ∃ s', QueueAt (fun k => w.heap.size ≤ k) w' q s' ∧ Hid (Elders (1 + (per0 : Int)) (i + 1) s') ∧ Below w.heap.size w w' := fun x =>
        (put_q hQi hput (fun k hk => Nat.le_trans hbi.size hk) i x (by unfold W64; omega)).mono fun e w' ⟨s', hres, hQ', hO⟩ => by
          obtain ⟨he, hE⟩ := hEi.out.step (by omega) hres
          exact ⟨he, s', hQ', hE, hbi.trans (hO.toBelow hbi.size fun k hk => hk)⟩
      have Fin := Lib.hid fin; clear fin
      by_cases hik : i < 20
      · have hikI : (i : Int) < 20 := by omega
        obtain ⟨bl, o, x, rfl, hx⟩ := HI.out i hik
        have hx' := (Keep.refl (fun _ => True) w).trans (keepB' hbi) _ _ _ trivial hx
        go_wp2_with fail
        refine (Fin.out x).mono ?_
        rintro e w3 ⟨rfl, s', hQ3, hE3, hb3⟩
        go_wp2_with fail
        go_roundw
        case rel => exact ⟨i + 1, s', by go_num, by omega, hQ3, hE3, hb3⟩
        case measure => simp [intOf]; omega
      · have hikI : ¬ (i : Int) < 20 := by omega
        go_wp2_with fail
        refine (Fin.out 0).mono ?_
        rintro e w3 ⟨rfl, s', hQ3, hE3, hb3⟩
        go_wp2_with fail
        go_roundw
        case rel => exact ⟨i + 1, s', by go_num, by omega, hQ3, hE3, hb3⟩
        case measure => simp [intOf]; omega
    · obtain rfl : i = eld := by omega
      go_wp2_with fail
      refine (put_q hQi (by have := hEi.out.put; omega) (fun k hk => Nat.le_trans hbi.size hk) 1000 wt (by unfold W64; decide)).mono ?_
      rintro e w2 ⟨s2, hres, hQ2, hO⟩
      have hE1 : Elders (((1 + per0 : Nat)) : Int) i s := by have := hEi.out; push_cast; exact this
      obtain ⟨rfl, hF⟩ := Fair.start hE1 (by omega) hres
      have HF := Lib.hid hF
      have hb2 := hbi.trans (hO.toBelow hbi.size fun k hk => hk)
      clear hF hE1 hres hO hEi hQi hbi hQ hb
      obtain ⟨M, hM⟩ : ∃ M, (1 + per0) * (i + 1) = M := ⟨_, rfl⟩
      have hM200 : M ≤ 200 := by rw [← hM]; exact Nat.le_trans (Nat.mul_le_mul (show 1 + per0 ≤ 10 by omega) (show i + 1 ≤ 20 by omega)) (by decide)
      have hMI : (1 + (per0 : Int)) * ((i : Int) + 1) = M := by rw [← hM]; push_cast; rfl
      have hM2 : (M : Int) ≤ 200 := by omega
      have hM3 : (0 : Int) ≤ M := by omega
      have hM4 : IntKind.i64.wrap (M : Int) = M := IntWalk.i64_in _ (by omega)
      have hiI : (i : Int) ≤ 20 := by omega
      have HM := Lib.hid hM; clear hM
      go_wp2_with fail
      go_loopw [13] (fun iv wr => ∃ (j : Nat) (s : QS), iv = .int .i64 j ∧ 1 ≤ j ∧ j ≤ M + 1 ∧ QueueAt (fun k => w.heap.size ≤ k) wr q s ∧ Hid (Fair (1 + per0) i ⟨1000, wt, i⟩ j s) ∧ Below w.heap.size w wr) (fun iv _ => M + 1 - (intOf iv).toNat)
      case atStart => exact ⟨1, s2, rfl, by omega, by omega, hQ2, HF.out, hb2⟩
      case round =>
        obtain ⟨j, s, rfl, hj1, hjM, hQj, hFj, hbj⟩ := hrel
        by_cases hle : j ≤ M
        · have hleI : (j : Int) ≤ M := by omega
          go_wp2_with fail
          refine (next_q hQj (by have := hFj.out.tak; omega)).mono ?_
          rintro e w5 ⟨s5, hres, hQ5, hO⟩
          obtain ⟨hfk, hfa, -, -⟩ := hQj.facts
          rcases hres with ⟨hL, _⟩ | ⟨x, hx, hmin, rfl, rfl⟩
          · exfalso
            obtain ⟨pre, post, hs, _⟩ := hFj.out.split
            rw [hs] at hL
            simp at hL
          have hb5 := hbj.trans (hO.toBelow hbj.size fun k hk => hk)
          by_cases hx0 : x.key = 1000
          · obtain ⟨xk, xw, xg⟩ := x
            dsimp only at hx0
            subst hx0
            unfold Ent.v
            dsimp only
            clear hx hmin hO hfk hfa
            go_wp2_with fail
            refine (known25 _).mono ?_
            rintro e w6 ⟨rfl, hb6⟩
            go_wp2_with fail
            go_ret
            exact ⟨rfl, (hb5.alloc hb5.size _).trans (hb6.mono (by have := hb5.size; simp; omega))⟩
          · have HH := Lib.hid (hFj.out.take (by omega) hj1 rfl hfk hfa hx hmin hx0)
            obtain ⟨xk, xw, xg⟩ := x
            dsimp only at hx0 HH hQ5
            have hxb : (xk == 1000) = false := by simpa using hx0
            unfold Ent.v
            dsimp only
            clear hx hmin hO hfk hfa hFj hQj
            have hb6' : Below w5.heap.size w5 (w5.alloc (.cells #[.int .i64 xk, .int .i64 xw, .int .i64 xg] 30)) := (Below.refl _ _).alloc (Nat.le_refl _) _
            have hQ6 := hQ5.below hb6'
            have hb6 := hb5.trans (hb6'.mono hb5.size)
            have hj300 : j ≤ 300 := by omega
            have hjI3 : (j : Int) ≤ 300 := by omega
            have hj0I : (0 : Int) ≤ j := by omega
            have fin : ∀ y : Int, Calls Try.prog 8 #[.pointer (some ⟨q, 0, none⟩), .int .i64 (2000 + 2 * (j : Int)), .int .i64 y] (w5.alloc (.cells #[.int .i64 xk, .int .i64 xw, .int .i64 xg] 30)) fun e w' => e = .returned (.int .i64 0) ∧ ∃ s', PutRes (QS.took s xk) (2000 + 2 * (j : Int)) y e s' ∧ QueueAt (fun k => w.heap.size ≤ k) w' q s' ∧ Below w.heap.size w w' := fun y =>
              (put_q hQ6 (by have := HH.out.put; omega) (fun k hk => Nat.le_trans hb6.size hk) (2000 + 2 * (j : Int)) y (by unfold W64; omega)).mono fun e w' ⟨s', hr, hQ', hO'⟩ => by
                have hn := put_new hr (fun x hx e => by have := HH.out.keys x hx; omega) (by have h1 := HH.out.len; have h2 := HH.out.put; omega)
                exact ⟨hn.1, s', hr, hQ', hb6.trans (hO'.toBelow hb6.size fun k hk => hk)⟩
            have Fin := Lib.hid fin; clear fin
            by_cases hk0 : 0 < 20
            · have hkI : (0 : Int) < 20 := by omega
              obtain ⟨r, hr, hrI⟩ : ∃ r : Nat, r < 20 ∧ (j : Int).tmod 20 = r := ⟨j % 20, Nat.mod_lt _ hk0, by rw [Int.tmod_eq_emod_of_nonneg hj0I]; rfl⟩
              obtain ⟨bl, o, y, rfl, hy⟩ := HI.out r hr
              have hy' := (Keep.refl (fun _ => True) w).trans (keepB' hb6) _ _ _ trivial hy
              have hr0 : (0 : Int) ≤ r := by omega
              have hrK : (r : Int) < 20 := by omega
              have hnz : ¬ (20 : Int) = 0 := by omega
              go_wp2_with fail
              refine (Fin.out y).mono ?_
              rintro e w7 ⟨rfl, s7, hres7, hQ7, hb7⟩
              go_wp2_with fail
              refine (put_q hQ7 (by have h1 := HH.out.put; have h2 := hres7.put_le; omega) (fun k hk => Nat.le_trans hb7.size hk) (2001 + 2 * (j : Int)) (-9223372036854775807) (by unfold W64; omega)).mono ?_
              rintro e w8 ⟨s8, hres8, hQ8, hO8⟩
              obtain ⟨-, rfl, hF8⟩ := HH.out.puts (by omega) (by omega) hres7 hres8
              have hb8 := hb7.trans (hO8.toBelow hb7.size fun k hk => hk)
              clear hO8 hres8
              go_wp2_with fail
              go_roundw
              case rel => exact ⟨j + 1, s8, by go_num, by omega, by omega, hQ8, hF8, hb8⟩
              case measure => simp [intOf]; omega
            · try (exfalso; omega)
              all_goals
                have hkI : ¬ (0 : Int) < 20 := by omega
                go_wp2_with fail
                refine (Fin.out (-5)).mono ?_
                rintro e w7 ⟨rfl, s7, hres7, hQ7, hb7⟩
                go_wp2_with fail
                refine (put_q hQ7 (by have h1 := HH.out.put; have h2 := hres7.put_le; omega) (fun k hk => Nat.le_trans hb7.size hk) (2001 + 2 * (j : Int)) (-9223372036854775807) (by unfold W64; omega)).mono ?_
                rintro e w8 ⟨s8, hres8, hQ8, hO8⟩
                obtain ⟨-, rfl, hF8⟩ := HH.out.puts (by omega) (by omega) hres7 hres8
                have hb8 := hb7.trans (hO8.toBelow hb7.size fun k hk => hk)
                clear hO8 hres8
                go_wp2_with fail
                go_roundw
                case rel => exact ⟨j + 1, s8, by go_num, by omega, by omega, hQ8, hF8, hb8⟩
                case measure => simp [intOf]; omega
        · exact (hFj.out.never (by omega) (by rw [HM.out]; omega)).elim
theorem queueFair_walk {w : World} {a : Option Addr} {n c : Nat} {l : List Int} (pd el wt : Int) (h : IsSl rpI (fun _ => True) w (.slice a n c) l) :
    Calls Try.prog 3 #[.int .i64 pd, .int .i64 el, .int .i64 wt, .slice a n c] w fun e w' => e = .returned (.bool true) ∧ Below w.heap.size w w' := by
  obtain ⟨-, hc, hm, hI⟩ := intsAt h
  by_cases hn : n ≤ 20
  · exact fair_le pd el wt hc hm hI hn
  · exact fair_gt pd el wt hc hm hI (by omega)
end Go.Proofs.Ytplfbdkljnblmaa

