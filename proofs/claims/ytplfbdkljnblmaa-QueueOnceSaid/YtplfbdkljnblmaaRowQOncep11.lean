/-
  The law's known example: what the queue answers there. The plain law behind QueueFair: an elder one goes each period.
-/
import Derived.Test.YtplfbdkljnblmaaRowQOncep10
set_option linter.unusedVariables false
set_option linter.unusedSimpArgs false
namespace Go.Proofs.Ytplfbdkljnblmaa
open Go.RowKit Go.Maps

theorem QueueAt.tight {F : Nat → Prop} {w : World} {q : Nat} {s : QS} (h : QueueAt F w q s) : QueueAt (fun k => F k ∧ k < w.heap.size) w q s := by
  obtain ⟨lv, ov, m, n, light, old, h⟩ := h
  exact ⟨lv, ov, m, n, light, old, { h with fq := h.qb (.inl rfl) |>.symm, fm := h.qb (.inr (.inl rfl)) |>.symm, fl := fun g hg => (h.qb (.inr (.inr (.inl hg)))).symm, fo := fun g hg => (h.qb (.inr (.inr (.inr hg)))).symm }⟩

namespace Kn
def kL : List Ent := [⟨0, 5, 0⟩, ⟨1, 1, 1⟩, ⟨2, 1, 2⟩, ⟨3, 1, 3⟩]
def kp (k : Nat) : QS := ⟨3, 0, k, kL.take k⟩
def rem : Nat → List Ent
  | 0 => kL
  | 1 => [⟨0, 5, 0⟩, ⟨2, 1, 2⟩, ⟨3, 1, 3⟩]
  | 2 => [⟨0, 5, 0⟩, ⟨3, 1, 3⟩]
  | 3 => [⟨3, 1, 3⟩]
  | _ => []
def want : Nat → Int
  | 0 => 1
  | 1 => 2
  | 2 => 0
  | _ => 3
def kn (k : Nat) : QS := ⟨3, k, 4, rem k⟩

theorem put_kp {k : Nat} (hk : k < 4) {key weight : Int} (hkw : kL[k]? = some ⟨key, weight, k⟩) {e : Ending} {s' : QS} (h : PutRes (kp k) key weight e s') : e = .returned (.int .i64 0) ∧ s' = kp (k + 1) := by
  have hn : findK (kp k).L key = none := by
    match k, hk, hkw with
    | 0, _, h => rfl
    | 1, _, h => cases h; decide
    | 2, _, h => cases h; decide
    | 3, _, h => cases h; decide
  have hl : (kp k).L.length ≠ 10000 := by
    have : (kp k).L.length ≤ 4 := by simp [kp, kL]; omega
    omega
  rcases h with ⟨h1, _⟩ | ⟨_, h1, _⟩ | ⟨_, _, h1, h2⟩
  · rw [hn] at h1; cases h1
  · exact absurd h1 hl
  · refine ⟨h1, h2.trans ?_⟩
    match k, hk, hkw with
    | 0, _, h => cases h; rfl
    | 1, _, h => cases h; rfl
    | 2, _, h => cases h; rfl
    | 3, _, h => cases h; rfl

theorem next_kn {k : Nat} (hk : k < 4) {e : Ending} {s' : QS} (h : NextRes (kn k) e s') : ∃ x : Ent, e = .returned (.tuple #[x.v, .bool true]) ∧ x.key = want k ∧ s' = kn (k + 1) := by
  rcases h with ⟨h1, _⟩ | ⟨x, hx, hmin, he, hs⟩
  · exfalso
    match k, hk with
    | 0, _ => cases h1
    | 1, _ => cases h1
    | 2, _ => cases h1
    | 3, _ => cases h1
  · refine ⟨x, he, ?_⟩
    rw [hs]
    match k, hk with
    | 0, _ =>
      have h0 := hmin ⟨1, 1, 1⟩ (by decide)
      simp [kn, rem, kL] at hx
      rcases hx with rfl | rfl | rfl | rfl
      · exact absurd h0 (by decide)
      · exact ⟨rfl, rfl⟩
      · exact absurd h0 (by decide)
      · exact absurd h0 (by decide)
    | 1, _ =>
      have h0 := hmin ⟨2, 1, 2⟩ (by decide)
      simp [kn, rem] at hx
      rcases hx with rfl | rfl | rfl
      · exact absurd h0 (by decide)
      · exact ⟨rfl, rfl⟩
      · exact absurd h0 (by decide)
    | 2, _ =>
      have h0 := hmin ⟨0, 5, 0⟩ (by decide)
      simp [kn, rem] at hx
      rcases hx with rfl | rfl
      · exact ⟨rfl, rfl⟩
      · exact absurd h0 (by decide)
    | 3, _ =>
      simp [kn, rem] at hx
      subst hx
      exact ⟨rfl, rfl⟩
theorem want_cell {k : Nat} (hk : k < 4) : (#[.int .i64 1, .int .i64 2, .int .i64 0, .int .i64 3] : Array Value)[k]? = some (.int .i64 (want k)) := by
  match k, hk with
  | 0, _ => rfl
  | 1, _ => rfl
  | 2, _ => rfl
  | 3, _ => rfl
theorem kL_get {k : Nat} (h1 : 1 ≤ k) (hk : k < 4) : kL[k]? = some ⟨k, 1, k⟩ := by
  match k, h1, hk with
  | 1, _, _ => rfl
  | 2, _, _ => rfl
  | 3, _, _ => rfl
theorem kp_kn : kp 4 = kn 0 := rfl
end Kn

set_option maxRecDepth 100000 in
set_option maxHeartbeats 4000000 in
theorem known25 (w : World) : Calls Try.prog 10 #[] w fun e w' => e = .returned (.bool true) ∧ Below w.heap.size w w' := by
  go_enter Try.func10, Try.ntmps10
  go_wp2_with fail
  refine (new_q w 3 (by decide) (by decide)).mono ?_
  rintro e w1 ⟨q, rfl, hq, hQ, hb⟩
  go_wp2_with fail
  refine (put_q hQ (by decide) (fun k hk => Nat.le_trans hb.size hk) 0 5 (by unfold W64; decide)).mono ?_
  rintro e w2 ⟨s', hres, hQ2, hO⟩
  obtain ⟨rfl, rfl⟩ := Kn.put_kp (k := 0) (by decide) rfl hres
  have hb2 := hb.trans (hO.toBelow hb.size fun k hk => hk)
  clear hb hO hQ hres
  go_wp2_with fail
  go_loopw [3] (fun iv wr => ∃ k : Nat, iv = .int .i64 k ∧ 1 ≤ k ∧ k ≤ 4 ∧ QueueAt (fun k => w.heap.size ≤ k) wr q (Kn.kp k) ∧ Below w.heap.size w wr) (fun iv _ => 4 - (intOf iv).toNat)
  case atStart => exact ⟨1, rfl, by omega, by omega, hQ2, hb2⟩
  case round =>
    obtain ⟨k, rfl, hk1, hk4, hQk, hbk⟩ := hrel
    by_cases hlt : k < 4
    · have hltI : (k : Int) < 4 := by omega
      go_wp2_with fail
      refine (put_q hQk (by show k ≤ 799999; omega) (fun j hj => Nat.le_trans hbk.size hj) k 1 (by unfold W64; omega)).mono ?_
      rintro e w3 ⟨s', hres, hQ3, hO⟩
      obtain ⟨rfl, rfl⟩ := Kn.put_kp (k := k) hlt (Kn.kL_get hk1 hlt) hres
      have hb3 := hbk.trans (hO.toBelow hbk.size fun k hk => hk)
      clear hO hres
      go_wp2_with fail
      go_roundw
      case rel => exact ⟨k + 1, by go_num, by omega, by omega, hQ3, hb3⟩
      case measure => simp [intOf]; omega
    · obtain rfl : k = 4 := by omega
      go_wp2_with fail
      obtain ⟨A, hA⟩ : ∃ A, wr.heap.size = A := ⟨_, rfl⟩
      have hQt := hQk.tight
      rw [hA] at hQt
      have hb4 : Below wr.heap.size wr (wr.alloc (.cells #[.int .i64 1, .int .i64 2, .int .i64 0, .int .i64 3] 64)) := (Below.refl _ _).alloc (Nat.le_refl _) _
      have hA4 : Blk (wr.alloc (.cells #[.int .i64 1, .int .i64 2, .int .i64 0, .int .i64 3] 64)) A #[.int .i64 1, .int .i64 2, .int .i64 0, .int .i64 3] 64 := Blk.new _ _ _ hA.symm
      have hQ4 : QueueAt (fun k => w.heap.size ≤ k ∧ k ≠ A) (wr.alloc (.cells #[.int .i64 1, .int .i64 2, .int .i64 0, .int .i64 3] 64)) q (Kn.kn 0) :=
        (hQt.weaken fun k hk => ⟨hk.1, by omega⟩).below hb4
      have hb4' := hbk.trans (hb4.mono hbk.size)
      have hwA : w.heap.size ≤ A := by rw [← hA]; exact hbk.size
      rw [hA]
      clear hQt hQk hbk hb4
      go_loopw [5] (fun iv wr => ∃ k : Nat, iv = .int .i64 k ∧ k ≤ 4 ∧ QueueAt (fun k => w.heap.size ≤ k ∧ k ≠ A) wr q (Kn.kn k) ∧ Blk wr A #[.int .i64 1, .int .i64 2, .int .i64 0, .int .i64 3] 64 ∧ Below w.heap.size w wr) (fun iv _ => 4 - (intOf iv).toNat)
      case atStart => exact ⟨0, rfl, by omega, hQ4, hA4, hb4'⟩
      case round =>
        obtain ⟨k, rfl, hk4, hQk, hAk, hbk⟩ := hrel
        by_cases hlt : k < 4
        · have hltI : (k : Int) < 4 := by omega
          go_wp2_with fail
          refine (next_q hQk (by show (k : Int) ≤ 799999; omega)).mono ?_
          rintro e w5 ⟨s', hres, hQ5, hO⟩
          obtain ⟨x, rfl, hx, rfl⟩ := Kn.next_kn hlt hres
          have hA5 := hO.blk hAk (fun h => h.2 rfl)
          have hb5 := hbk.trans (hO.toBelow hbk.size fun k hk => hk.1)
          obtain ⟨xk, xw, xg⟩ := x
          dsimp only at hx
          have ca : w5.cell? ⟨A, k, none⟩ = some (.int .i64 xk) := by
            rw [hx]
            exact hA5.cell (Kn.want_cell hlt)
          have hal := hA5.lt
          unfold Ent.v
          dsimp only
          clear hO hres hx
          go_wp2_with fail
          obtain ⟨w6, hw6⟩ : ∃ w6, w5.alloc (.cells #[.int .i64 xk, .int .i64 xw, .int .i64 xg] 30) = w6 := ⟨_, rfl⟩
          obtain ⟨X, hX⟩ : ∃ X, w5.heap.size = X := ⟨_, rfl⟩
          have hb56 : Below w5.heap.size w5 w6 := by rw [← hw6]; exact (Below.refl _ _).alloc (Nat.le_refl _) _
          have x6 : Blk w6 X #[.int .i64 xk, .int .i64 xw, .int .i64 xg] 30 := by rw [← hw6]; exact Blk.new _ _ _ hX.symm
          have hA6 := hA5.below hb56
          have hQ6 := hQ5.below hb56
          have hb6 := hb5.trans (hb56.mono hb5.size)
          have ca6 := (Keep.refl (fun _ => True) w5).below hb56 _ _ _ trivial ca
          rw [hw6]
          rw [hX]
          clear hw6 hX hb56 hA5 hQ5 hb5 ca
          refine wp_region_noPanic (wp_region_need (S := fun w' => w'.cell? ⟨X, 0, none⟩ = some (.int .i64 xk) ∧ w'.cell? ⟨A, k, none⟩ = some (.int .i64 xk)) (by kernel_rfl) ?_)
          have hS : (w6.drew).cell? ⟨X, 0, none⟩ = some (.int .i64 xk) ∧ (w6.drew).cell? ⟨A, k, none⟩ = some (.int .i64 xk) := ⟨x6.drew.cell rfl, ca6⟩
          refine wpN_take (i := 0) (v := ?v1) rfl (by kernel_rfl) (fun _ _ _ h => h) hS (Or.inl ⟨by rfl, ?hy1⟩) ?hr1
          case hy1 => (intro wS hSw; (try dsimp only at hSw); go_simp; (try with_reducible rfl))
          try simp only [Act.put, List.setIfInBounds_toArray, List.set_cons_zero, List.set_cons_succ, List.getElem_toArray, List.getElem_cons_zero, List.getElem_cons_succ]
          refine wpN_take (i := 1) (v := ?v2) rfl (by kernel_rfl) (fun _ _ _ h => h) hS (Or.inl ⟨by rfl, ?hy2⟩) ?hr2
          case hy2 => (intro wS hSw; (try dsimp only at hSw); go_simp; (try with_reducible rfl))
          try simp only [Act.put, List.setIfInBounds_toArray, List.set_cons_zero, List.set_cons_succ, List.getElem_toArray, List.getElem_cons_zero, List.getElem_cons_succ]
          refine wpN_take (i := 2) (v := ?v3) rfl (by kernel_rfl) (fun _ _ _ h => h) hS (Or.inl ⟨by rfl, ?hy3⟩) ?hr3
          case hy3 => (intro wS hSw; (try dsimp only at hSw); go_simp; (try with_reducible rfl))
          try simp only [Act.put, List.setIfInBounds_toArray, List.set_cons_zero, List.set_cons_succ, List.getElem_toArray, List.getElem_cons_zero, List.getElem_cons_succ]
          refine wpN_take (i := 3) (v := ?v4) rfl (by kernel_rfl) (fun _ _ _ h => h) hS (Or.inl ⟨by rfl, ?hy4⟩) ?hr4
          case hy4 => (intro wS hSw; (try dsimp only at hSw); go_simp; (try with_reducible rfl))
          try simp only [Act.put, List.setIfInBounds_toArray, List.set_cons_zero, List.set_cons_succ, List.getElem_toArray, List.getElem_cons_zero, List.getElem_cons_succ]
          refine wpN_take (i := 4) (v := ?v5) rfl (by kernel_rfl) (fun _ _ _ h => h) hS (Or.inl ⟨by rfl, ?hy5⟩) ?hr5
          case hy5 => (intro wS hSw; (try dsimp only at hSw); go_simp; (try with_reducible rfl))
          try simp only [Act.put, List.setIfInBounds_toArray, List.set_cons_zero, List.set_cons_succ, List.getElem_toArray, List.getElem_cons_zero, List.getElem_cons_succ]
          refine wpN_take (i := 5) (v := ?v6) rfl (by kernel_rfl) (fun _ _ _ h => h) hS (Or.inl ⟨by rfl, ?hy6⟩) ?hr6
          case hy6 => (intro wS hSw; (try dsimp only at hSw); go_simp; (try with_reducible rfl))
          try simp only [Act.put, List.setIfInBounds_toArray, List.set_cons_zero, List.set_cons_succ, List.getElem_toArray, List.getElem_cons_zero, List.getElem_cons_succ]
          refine wpN_take (i := 6) (v := ?v7) rfl (by kernel_rfl) (fun _ _ _ h => h) hS (Or.inl ⟨by rfl, ?hy7⟩) ?hr7
          case hy7 => (intro wS hSw; (try dsimp only at hSw); go_simp; (try with_reducible rfl))
          try simp only [Act.put, List.setIfInBounds_toArray, List.set_cons_zero, List.set_cons_succ, List.getElem_toArray, List.getElem_cons_zero, List.getElem_cons_succ]
          refine wpN_take (i := 7) (v := ?v8) rfl (by kernel_rfl) (fun _ _ _ h => h) hS (Or.inl ⟨by rfl, ?hy8⟩) ?hr8
          case hy8 => (intro wS hSw; (try dsimp only at hSw); go_simp; (try with_reducible rfl))
          try simp only [Act.put, List.setIfInBounds_toArray, List.set_cons_zero, List.set_cons_succ, List.getElem_toArray, List.getElem_cons_zero, List.getElem_cons_succ]
          refine wpN_take (i := 8) (v := ?v9) rfl (by kernel_rfl) (fun _ _ _ h => h) hS (Or.inl ⟨by rfl, ?hy9⟩) ?hr9
          case hy9 => (intro wS hSw; (try dsimp only at hSw); go_simp; (try with_reducible rfl))
          try simp only [Act.put, List.setIfInBounds_toArray, List.set_cons_zero, List.set_cons_succ, List.getElem_toArray, List.getElem_cons_zero, List.getElem_cons_succ]
          refine wpN_take (i := 9) (v := ?v10) rfl (by kernel_rfl) (fun _ _ _ h => h) hS (Or.inl ⟨by rfl, ?hy10⟩) ?hr10
          case hy10 => (intro wS hSw; (try dsimp only at hSw); go_simp; (try with_reducible rfl))
          try simp only [Act.put, List.setIfInBounds_toArray, List.set_cons_zero, List.set_cons_succ, List.getElem_toArray, List.getElem_cons_zero, List.getElem_cons_succ]
          refine wpN_done (by kernel_rfl) ?_
          refine NoPanic.normal ?_
          have hd : Below w6.heap.size w6 w6.drew := (Below.refl _ _).drew
          have hA7 := hA6.below hd
          have hQ7 := hQ6.below hd
          have hb7 := hb6.trans (hd.mono hb6.size)
          go_wp2_with fail
          go_roundw
          case rel => exact ⟨k + 1, by go_num, by omega, hQ7, hA7, hb7⟩
          case measure => simp [intOf]; omega
        · obtain rfl : k = 4 := by omega
          go_wp2_with fail
          refine (len_q hQk).mono ?_
          rintro e w5 ⟨rfl, hb5⟩
          have hQ5 := hQk.below hb5
          have hbb5 := hbk.trans (hb5.mono hbk.size)
          have e0 : ((Kn.kn 4).L.length : Int) = 0 := rfl
          rw [e0]
          go_wp2_with fail
          refine (taken_q hQ5).mono ?_
          rintro e w6 ⟨rfl, hb6⟩
          have hbb6 := hbb5.trans (hb6.mono hbb5.size)
          have e1 : (Kn.kn 4).taken = 4 := rfl
          rw [e1]
          go_wp2_with fail
          go_ret
          exact ⟨rfl, hbb6⟩
end Go.Proofs.Ytplfbdkljnblmaa

namespace Go.Proofs.Ytplfbdkljnblmaa
open Go.RowKit

theorem QueueAt.facts {F : Nat → Prop} {w : World} {q : Nat} {s : QS} (h : QueueAt F w q s) : (s.L.map Ent.key).Nodup ∧ (s.L.Pairwise fun a b => a.age < b.age) ∧ (∀ e ∈ s.L, W64 e.key) ∧ s.put ≤ 800000 := by
  obtain ⟨lv, ov, m, n, light, old, h⟩ := h
  exact ⟨h.inv.keys, h.inv.ages, fun e he => h.inv.wkl e (h.inv.inl e he), h.inv.many⟩

theorem put_new {s : QS} {key weight : Int} {e : Ending} {s' : QS} (h : PutRes s key weight e s') (hk : ∀ x ∈ s.L, x.key ≠ key) (hl : s.L.length < 10000) : e = .returned (.int .i64 0) ∧ s' = s.more ⟨key, weight, s.put⟩ := by
  have hn : findK s.L key = none := by
    unfold findK
    rw [List.find?_eq_none]
    intro x hx
    simpa using hk x hx
  rcases h with ⟨h1, _⟩ | ⟨_, h1, _⟩ | ⟨_, _, h1, h2⟩
  · rw [hn] at h1; cases h1
  · omega
  · exact ⟨h1, h2⟩

structure Elders (per : Int) (i : Nat) (s : QS) : Prop where
  hper : s.period = per
  tak : s.taken = 0
  put : s.put = i
  len : s.L.length = i
  keys : ∀ e ∈ s.L, e.key < i
theorem Elders.step {per : Int} {i : Nat} {s : QS} (h : Elders per i s) (hi : i ≤ 100) {weight : Int} {e : Ending} {s' : QS} (hp : PutRes s i weight e s') : e = .returned (.int .i64 0) ∧ Elders per (i + 1) s' := by
  obtain ⟨h1, rfl⟩ := put_new hp (fun x hx e => by have := h.keys x hx; omega) (by have := h.len; omega)
  refine ⟨h1, ⟨h.hper, h.tak, by show s.put + 1 = i + 1; rw [h.put], by show (s.L ++ [_]).length = _; simp [h.len], fun x hx => ?_⟩⟩
  rcases List.mem_append.1 hx with hx | hx
  · have := h.keys x hx; push_cast; omega
  · simp at hx; subst hx; push_cast; omega

structure Fair (per elder : Nat) (x0 : Ent) (i : Nat) (s : QS) : Prop where
  hper : s.period = per
  tak : s.taken + 1 = i
  put : s.put + 1 = elder + 2 * i
  len : s.L.length ≤ s.put
  keys : ∀ e ∈ s.L, e.key < 2000 + 2 * i
  split : ∃ pre post, s.L = pre ++ x0 :: post ∧ pre.length + (i - 1) / per ≤ elder
theorem Fair.start {per elder : Nat} {s : QS} (h : Elders per elder s) (he : elder ≤ 20) {weight : Int} {e : Ending} {s' : QS} (hp : PutRes s 1000 weight e s') : e = .returned (.int .i64 0) ∧ Fair per elder ⟨1000, weight, elder⟩ 1 s' := by
  obtain ⟨h1, rfl⟩ := put_new hp (fun x hx e => by have := h.keys x hx; omega) (by have := h.len; omega)
  have hput := h.put
  refine ⟨h1, ⟨h.hper, by show s.taken + 1 = ((1 : Nat) : Int); rw [h.tak]; rfl, by show s.put + 1 + 1 = _; omega, by show (s.L ++ [_]).length ≤ s.put + 1; simp; have := h.len; omega, fun x hx => ?_, ⟨s.L, [], by show s.L ++ [_] = _; rw [hput], by have := h.len; simp; omega⟩⟩⟩
  rcases List.mem_append.1 hx with hx | hx
  · have := h.keys x hx; omega
  · simp at hx; subst hx; simp

structure Half (per elder : Nat) (x0 : Ent) (i : Nat) (s : QS) : Prop where
  hper : s.period = per
  tak : s.taken = i
  put : s.put + 1 = elder + 2 * i
  len : s.L.length ≤ s.put
  keys : ∀ e ∈ s.L, e.key < 2000 + 2 * i
  split : ∃ pre post, s.L = pre ++ x0 :: post ∧ pre.length + i / per ≤ elder
theorem Fair.take {per elder : Nat} {x0 : Ent} {i : Nat} {s : QS} (h : Fair per elder x0 i s) (hp : 1 ≤ per) (hi : 1 ≤ i) (h0 : x0.key = 1000) (hk : (s.L.map Ent.key).Nodup) (ha : s.L.Pairwise fun a b => a.age < b.age)
    {x : Ent} (hx : x ∈ s.L) (hmin : ∀ y ∈ s.L, s.lt y x = false) (hne : x.key ≠ 1000) : Half per elder x0 i (s.took x.key) := by
  obtain ⟨pre, post, hL, hpre⟩ := h.split
  have hsub : ∀ e ∈ (s.took x.key).L, e ∈ s.L := fun e he => (List.mem_filter.1 he).1
  refine ⟨h.hper, h.tak, h.put, Nat.le_trans (List.length_filter_le _ _) h.len, fun e he => h.keys e (hsub e he), MapOf.less pre x.key, MapOf.less post x.key, ?_, ?_⟩
  · show MapOf.less s.L x.key = _
    rw [hL]
    unfold MapOf.less
    rw [List.filter_append, List.filter_cons_of_pos]
    simp [h0]; omega
  · have hle : (MapOf.less pre x.key).length ≤ pre.length := List.length_filter_le _ _
    by_cases hc : i % per = 0
    · -- the first one goes
      have hlt : s.lt = Hp.elder := by
        unfold QS.lt
        rw [h.tak, h.hper, if_pos]
        rw [Int.tmod_eq_emod_of_nonneg (by omega)]
        omega
      have hxp : x ∈ pre := by
        cases pre with
        | nil =>
          exfalso
          rw [hL] at hx hmin ha
          rw [List.nil_append] at hx hmin ha
          rcases List.mem_cons.1 hx with rfl | hx
          · exact hne h0
          · have h1 := hmin x0 (by simp)
            rw [hlt] at h1
            have h2 := (List.pairwise_cons.1 ha).1 x hx
            simp [Hp.elder] at h1; omega
        | cons f pre =>
          rw [hL] at hx hmin ha
          rcases List.mem_cons.1 hx with rfl | hx
          · simp
          · exfalso
            have h1 := hmin f (by simp)
            rw [hlt] at h1
            have h2 := (List.pairwise_cons.1 ha).1 x hx
            simp [Hp.elder] at h1; omega
      have hlt2 : (MapOf.less pre x.key).length < pre.length := by
        unfold MapOf.less
        rw [List.length_filter_lt_length_iff_exists]
        exact ⟨x, hxp, by simp⟩
      have hd : i / per = (i - 1) / per + 1 := by
        obtain ⟨k, hk⟩ := Nat.dvd_of_mod_eq_zero hc
        subst hk
        have hk0 : 0 < k := Nat.pos_of_ne_zero (fun e => by subst e; simp at hi)
        rw [Nat.mul_div_cancel_left _ (by omega)]
        have : per * k - 1 = (per - 1) + per * (k - 1) := by
          obtain ⟨k, rfl⟩ : ∃ k', k = k' + 1 := ⟨k - 1, by omega⟩
          rw [Nat.mul_add, Nat.add_sub_cancel]; omega
        rw [this, Nat.add_mul_div_left _ _ (by omega), Nat.div_eq_of_lt (by omega)]
        omega
      omega
    · have hd : i / per = (i - 1) / per := by
        have h1 := Nat.div_add_mod i per
        have h2 : i % per < per := Nat.mod_lt _ (by omega)
        generalize i / per = q at *
        generalize i % per = r at *
        subst h1
        have h3 : per * q + r - 1 = (r - 1) + per * q := by
          generalize per * q = P
          omega
        rw [h3, Nat.add_mul_div_left _ _ (by omega), Nat.div_eq_of_lt (by omega)]
        omega
      omega
theorem Half.puts {per elder : Nat} {x0 : Ent} {i : Nat} {s : QS} (h : Half per elder x0 i s) (he : elder ≤ 20) (hi : i ≤ 300) {w1 w2 : Int} {e e' : Ending} {s' s'' : QS} (hp : PutRes s (2000 + 2 * i) w1 e s') (hp' : PutRes s' (2001 + 2 * i) w2 e' s'') :
    e = .returned (.int .i64 0) ∧ e' = .returned (.int .i64 0) ∧ Fair per elder x0 (i + 1) s'' := by
  have hlen := h.len
  have hput := h.put
  obtain ⟨h1, rfl⟩ := put_new hp (fun x hx e => by have := h.keys x hx; omega) (by omega)
  obtain ⟨h2, rfl⟩ := put_new hp' (fun x hx e => by
    rcases List.mem_append.1 hx with hx | hx
    · have := h.keys x hx; omega
    · simp at hx; subst hx; simp at e) (by show (s.L ++ [_]).length < 10000; simp; omega)
  obtain ⟨pre, post, hL, hpre⟩ := h.split
  refine ⟨h1, h2, ⟨h.hper, by show s.taken + 1 = _; rw [h.tak]; push_cast; rfl, by show s.put + 1 + 1 + 1 = _; omega, by show (s.L ++ [_] ++ [_]).length ≤ s.put + 1 + 1; simp; omega, fun x hx => ?_, pre, post ++ [(⟨2000 + 2 * i, w1, s.put⟩ : Ent)] ++ [(⟨2001 + 2 * i, w2, ((s.put + 1 : Nat) : Int)⟩ : Ent)], by show s.L ++ [_] ++ [_] = _; rw [hL]; simp [QS.more], by simpa using hpre⟩⟩
  rcases List.mem_append.1 hx with hx | hx
  · rcases List.mem_append.1 hx with hx | hx
    · have := h.keys x hx; push_cast; omega
    · simp at hx; subst hx; push_cast; omega
  · simp at hx; subst hx; push_cast; omega
theorem Fair.never {per elder : Nat} {x0 : Ent} {i : Nat} {s : QS} (h : Fair per elder x0 i s) (hp : 1 ≤ per) (hi : per * (elder + 1) < i) : False := by
  obtain ⟨pre, post, hL, hpre⟩ := h.split
  have : elder + 1 ≤ (i - 1) / per := (Nat.le_div_iff_mul_le (by omega)).2 (by rw [Nat.mul_comm]; omega)
  omega
end Go.Proofs.Ytplfbdkljnblmaa

