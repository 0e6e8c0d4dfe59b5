/-
  Endings, sgn, cmp.Compare and cmp.Or of ints; which of two entries comes first. A heap's row of entries in memory; what a call may turn.
-/
import Derived.Test.YtplfbdkljnblmaaProg
import Derived.Test.YtplfbdkljnblmaaRowQOncep1
import Derived.Test.YtplfbdkljnblmaaRowQOncep2
import Derived.Lib.Hide
import Derived.Deep.RegionHeld3
import Derived.Deep.DrawnRows
import Derived.RegionTactic
import Derived.Shelf.Abstract
set_option linter.unusedVariables false
set_option linter.unusedSimpArgs false
namespace Go.Proofs.Ytplfbdkljnblmaa
open Go.RowKit

def RetI (n : Int) (w : World) (e : Ending) (w' : World) : Prop := e = .returned (.int .i64 n) ∧ Below w.heap.size w w'
def RetB (p : Prop) (w : World) (e : Ending) (w' : World) : Prop := ∃ b : Bool, (b = true ↔ p) ∧ e = .returned (.bool b) ∧ Below w.heap.size w w'
theorem no_of {p : Prop} (h : false = true ↔ p) : ¬ p := fun hp => by simpa using h.2 hp
theorem yes_of {p : Prop} (h : true = true ↔ p) : p := h.1 rfl

def sgn (x y : Int) : Int := if x < y then -1 else if y < x then 1 else 0
def orl (a b : Int) : Int := if a = 0 then b else a
def orls : List Int → Int
  | [] => 0
  | a :: l => orl a (orls l)
@[simp] theorem orl_zero (b : Int) : orl 0 b = b := by simp [orl]
@[simp] theorem orl_zero_right (a : Int) : orl a 0 = a := by unfold orl; split <;> simp_all
theorem orl_eq_zero {a b : Int} : orl a b = 0 ↔ a = 0 ∧ b = 0 := by unfold orl; split <;> simp_all
theorem orl_ne {a b : Int} (h : a ≠ 0) : orl a b = a := by simp [orl, h]
theorem orl_neg (a b : Int) : orl (-a) (-b) = - orl a b := by unfold orl; split <;> split <;> omega
theorem orl_assoc (a b c : Int) : orl (orl a b) c = orl a (orl b c) := by
  unfold orl
  by_cases h : a = 0 <;> simp [h]
theorem sgn_neg (x y : Int) : sgn y x = - sgn x y := by unfold sgn; split <;> split <;> (try split) <;> omega
theorem sgn_zero {x y : Int} : sgn x y = 0 ↔ x = y := by unfold sgn; constructor <;> intro h <;> (repeat split at h) <;> (repeat split) <;> omega
theorem sgn_range (x y : Int) : -1 ≤ sgn x y ∧ sgn x y ≤ 1 := by unfold sgn; repeat split <;> omega
theorem orl_range {a b : Int} (ha : -1 ≤ a ∧ a ≤ 1) (hb : -1 ≤ b ∧ b ≤ 1) : -1 ≤ orl a b ∧ orl a b ≤ 1 := by unfold orl; split <;> omega

theorem sgn_lt {x y : Int} (h : x < y) : sgn x y = -1 := by simp [sgn, h]
theorem sgn_gt {x y : Int} (h : y < x) : sgn x y = 1 := by simp [sgn, h, show ¬ x < y by omega]
theorem sgn_eq {x y : Int} (h1 : ¬ x < y) (h2 : ¬ y < x) : sgn x y = 0 := by simp [sgn, h1, h2]


theorem isNaN_i (w : World) (x : Int) : Calls Try.prog 37 #[.int .i64 x] w fun e w' => e = .returned (.bool false) ∧ w' = w := by
  have h : (x != x) = false := by simp
  go_enter Try.func37, Try.ntmps37
  go_wp2_with fail
  go_ret
  exact ⟨rfl, rfl⟩

theorem compare_i (w : World) (x y : Int) : Calls Try.prog 32 #[.int .i64 x, .int .i64 y] w (RetI (sgn x y) w) := by
  by_cases h1 : x < y
  · have Hs := Lib.hid (sgn_lt h1)
    go_enter Try.func32, Try.ntmps32
    go_wp2_with fail
    refine (isNaN_i w x).mono ?_
    rintro e w1 ⟨rfl, rfl⟩
    go_wp2_with fail
    refine (isNaN_i _ y).mono ?_
    rintro e w2 ⟨rfl, rfl⟩
    go_wp2_with fail
    go_ret
    exact ⟨by rw [Hs.out]; rfl, Below.refl _ _⟩
  · by_cases h2 : y < x
    · have Hs := Lib.hid (sgn_gt h2)
      have h2' : x > y := h2
      go_enter Try.func32, Try.ntmps32
      go_wp2_with fail
      refine (isNaN_i w x).mono ?_
      rintro e w1 ⟨rfl, rfl⟩
      go_wp2_with fail
      refine (isNaN_i _ y).mono ?_
      rintro e w2 ⟨rfl, rfl⟩
      go_wp2_with fail
      go_ret
      exact ⟨by rw [Hs.out]; rfl, Below.refl _ _⟩
    · have Hs := Lib.hid (sgn_eq h1 h2)
      have h2' : ¬ x > y := h2
      go_enter Try.func32, Try.ntmps32
      go_wp2_with fail
      refine (isNaN_i w x).mono ?_
      rintro e w1 ⟨rfl, rfl⟩
      go_wp2_with fail
      refine (isNaN_i _ y).mono ?_
      rintro e w2 ⟨rfl, rfl⟩
      go_wp2_with fail
      go_ret
      exact ⟨by rw [Hs.out]; rfl, Below.refl _ _⟩

theorem orls_drop {l : List Int} {k : Nat} (hk : k < l.length) (h : l[k] = 0) : orls (l.drop k) = orls (l.drop (k + 1)) := by
  rw [List.drop_eq_getElem_cons hk, orls, h, orl_zero]
theorem orls_drop_ne {l : List Int} {k : Nat} (hk : k < l.length) (h : l[k] ≠ 0) : orls (l.drop k) = l[k] := by
  rw [List.drop_eq_getElem_cons hk, orls, orl_ne h]

theorem or_i (w : World) (bl off n c : Nat) (l : List Int) (hl : l.length = n) (hn : n ≤ 1000) (h : ∀ i (hi : i < l.length), w.cell? ⟨bl, off + i, none⟩ = some (.int .i64 l[i])) : Calls Try.prog 33 #[.slice (some ⟨bl, off, none⟩) n c] w (RetI (orls l) w) := by
  have Hc := Lib.hid h; clear h
  have Hl := Lib.hid hl; clear hl
  go_enter Try.func33, Try.ntmps33
  go_wp2_with fail
  go_loopw [8] (fun i wr => ∃ k : Nat, i = .int .i64 k ∧ k ≤ n ∧ wr = w ∧ Hid (orls l = orls (l.drop k))) (fun i _ => n - (intOf i).toNat)
  case atStart => exact ⟨0, rfl, by omega, rfl, rfl⟩
  case round =>
    obtain ⟨k, rfl, hk, rfl, hrel⟩ := hrel
    by_cases hlt : k < n
    · have hkl : k < l.length := by rw [Hl.out]; exact hlt
      have e1 := Hc.out k hkl
      by_cases h0 : l[k] = 0
      · have hd := Lib.hid (orls_drop hkl h0)
        rw [h0] at e1
        go_wp2_with fail
        go_roundw
        case rel => exact ⟨k + 1, by go_num, by omega, by trivial, hrel.out.trans hd.out⟩
        case measure => simp [intOf]; omega
      · have hd := Lib.hid (orls_drop_ne hkl h0)
        generalize l[k] = x at *
        have hx : (x != 0) = true := by simpa using h0
        have hx : (x == 0) = false := by simpa using h0
        go_wp2_with fail
        go_ret
        exact ⟨by rw [hrel.out, hd.out]; rfl, Below.refl _ _⟩
    · have hd : Hid (orls (l.drop k) = 0) := by show _ = _; rw [List.drop_of_length_le (by rw [Hl.out]; omega)]; rfl
      go_wp2_with fail
      go_ret
      exact ⟨by rw [hrel.out, hd.out]; rfl, Below.refl _ _⟩
theorem or2_i (w : World) (bl c : Nat) (x y : Int) (h : Blk w bl #[.int .i64 x, .int .i64 y] 3) : Calls Try.prog 33 #[.slice (some ⟨bl, 0, none⟩) 2 c] w (RetI (orl x y) w) := by
  have hi := or_i w bl 0 2 c [x, y] rfl (by omega) fun i hi => by
    match i, hi with
    | 0, _ => exact h.cell rfl
    | 1, _ => exact h.cell rfl
  have e : orls [x, y] = orl x y := by simp [orls]
  rw [e] at hi
  exact hi

def Ent.v (e : Ent) : Value := .agg #[.int .i64 e.key, .int .i64 e.weight, .int .i64 e.age]

theorem elder_q (a b : Ent) (w : World) : Calls Try.prog 23 #[a.v, b.v] w fun e w' => e = .returned (.bool (Hp.elder a b)) ∧ Below w.heap.size w w' := by
  obtain ⟨k, x, g⟩ := a
  obtain ⟨k', x', g'⟩ := b
  unfold Ent.v
  go_enter Try.func23, Try.ntmps23
  go_wp2_with fail
  go_ret
  exact ⟨rfl, ((Below.refl _ _).alloc (Nat.le_refl _) _).alloc (by simp) _⟩

theorem orl_sgn_lighter (a b : Ent) : decide (orl (sgn a.weight b.weight) (sgn a.age b.age) < 0) = Hp.lighter a b := by
  unfold Hp.lighter
  congr 1
  apply propext
  unfold orl sgn
  constructor
  · intro h
    (repeat split at h) <;> first | omega | (simp at *; omega)
  · intro h
    (repeat split) <;> first | omega | (simp at *; omega)

set_option maxHeartbeats 1000000 in
theorem lighter_q (a b : Ent) (w : World) : Calls Try.prog 22 #[a.v, b.v] w fun e w' => e = .returned (.bool (Hp.lighter a b)) ∧ Below w.heap.size w w' := by
  have HL := Lib.hid (orl_sgn_lighter a b)
  obtain ⟨k, x, g⟩ := a
  obtain ⟨k', x', g'⟩ := b
  dsimp only at HL
  obtain ⟨r, hr⟩ : ∃ r, Hp.lighter ⟨k, x, g⟩ ⟨k', x', g'⟩ = r := ⟨_, rfl⟩
  rw [hr] at HL ⊢
  clear hr
  unfold Ent.v
  obtain ⟨wB, hwB⟩ : ∃ wB, (w.alloc (.cells #[.int .i64 k, .int .i64 x, .int .i64 g] 30)).alloc (.cells #[.int .i64 k', .int .i64 x', .int .i64 g'] 30) = wB := ⟨_, rfl⟩
  have B0 : Below w.heap.size w wB := by rw [← hwB]; exact ((Below.refl _ _).alloc (Nat.le_refl _) _).alloc (by simp) _
  have x0 : Blk wB w.heap.size #[.int .i64 k, .int .i64 x, .int .i64 g] 30 := by rw [← hwB]; exact (Blk.new _ _ _ rfl).alloc _
  have x1 : Blk wB (w.heap.size + 1) #[.int .i64 k', .int .i64 x', .int .i64 g'] 30 := by rw [← hwB]; exact Blk.new _ _ _ (by simp)
  go_enter Try.func22, Try.ntmps22
  go_wp2_with fail
  try rw [hwB]
  clear hwB
  refine wp_region_noPanic (wp_region_need (S := fun w' => w'.cell? ⟨w.heap.size, 1, none⟩ = some (.int .i64 x) ∧ w'.cell? ⟨w.heap.size + 1, 1, none⟩ = some (.int .i64 x') ∧ w'.cell? ⟨w.heap.size, 2, none⟩ = some (.int .i64 g) ∧ w'.cell? ⟨w.heap.size + 1, 2, none⟩ = some (.int .i64 g')) (by kernel_rfl) ?_)
  have hS : (wB.drew).cell? ⟨w.heap.size, 1, none⟩ = some (.int .i64 x) ∧ (wB.drew).cell? ⟨w.heap.size + 1, 1, none⟩ = some (.int .i64 x') ∧ (wB.drew).cell? ⟨w.heap.size, 2, none⟩ = some (.int .i64 g) ∧ (wB.drew).cell? ⟨w.heap.size + 1, 2, none⟩ = some (.int .i64 g') := ⟨x0.drew.cell rfl, x1.drew.cell rfl, x0.drew.cell rfl, x1.drew.cell rfl⟩
  refine wpN_take (i := 0) (v := ?v1) rfl (by kernel_rfl) (fun _ _ _ h => h) hS (Or.inl ⟨by rfl, ?hy1⟩) ?hr1
  case hy1 => (intro wS hSw; (try dsimp only at hSw); go_simp; (try with_reducible rfl))
  try simp only [Act.put, List.setIfInBounds_toArray, List.set_cons_zero, List.set_cons_succ, List.getElem_toArray, List.getElem_cons_zero, List.getElem_cons_succ]
  refine wpN_take (i := 1) (v := ?v2) rfl (by kernel_rfl) (fun _ _ _ h => h) hS (Or.inl ⟨by rfl, ?hy2⟩) ?hr2
  case hy2 => (intro wS hSw; (try dsimp only at hSw); go_simp; (try with_reducible rfl))
  try simp only [Act.put, List.setIfInBounds_toArray, List.set_cons_zero, List.set_cons_succ, List.getElem_toArray, List.getElem_cons_zero, List.getElem_cons_succ]
  refine wpN_take (i := 2) (v := ?v3) rfl (by kernel_rfl) (fun _ _ _ h => h) hS (Or.inl ⟨by rfl, ?hy3⟩) ?hr3
  case hy3 => (intro wS hSw; (try dsimp only at hSw); go_simp; (try with_reducible rfl))
  try simp only [Act.put, List.setIfInBounds_toArray, List.set_cons_zero, List.set_cons_succ, List.getElem_toArray, List.getElem_cons_zero, List.getElem_cons_succ]
  refine wpN_take (i := 3) (v := ?v4) rfl (by kernel_rfl) (fun _ _ _ h => h) hS (Or.inl ⟨by rfl, ?hy4⟩) ?hr4
  case hy4 => (intro wS hSw; (try dsimp only at hSw); go_simp; (try with_reducible rfl))
  try simp only [Act.put, List.setIfInBounds_toArray, List.set_cons_zero, List.set_cons_succ, List.getElem_toArray, List.getElem_cons_zero, List.getElem_cons_succ]
  refine wpN_take (i := 5) (v := ?v5) rfl (by kernel_rfl) (fun _ _ _ h => h) hS (Or.inl ⟨by rfl, ?hy5⟩) ?hr5
  case hy5 => (intro wS hSw; (try dsimp only at hSw); go_simp; (try with_reducible rfl))
  try simp only [Act.put, List.setIfInBounds_toArray, List.set_cons_zero, List.set_cons_succ, List.getElem_toArray, List.getElem_cons_zero, List.getElem_cons_succ]
  refine wpN_take (i := 6) (v := ?v6) rfl (by kernel_rfl) (fun _ _ _ h => h) hS (Or.inl ⟨by rfl, ?hy6⟩) ?hr6
  case hy6 => (intro wS hSw; (try dsimp only at hSw); go_simp; (try with_reducible rfl))
  try simp only [Act.put, List.setIfInBounds_toArray, List.set_cons_zero, List.set_cons_succ, List.getElem_toArray, List.getElem_cons_zero, List.getElem_cons_succ]
  refine wpN_take (i := 7) (v := ?v7) rfl (by kernel_rfl) (fun _ _ _ h => h) hS (Or.inl ⟨by rfl, ?hy7⟩) ?hr7
  case hy7 => (intro wS hSw; (try dsimp only at hSw); go_simp; (try with_reducible rfl))
  try simp only [Act.put, List.setIfInBounds_toArray, List.set_cons_zero, List.set_cons_succ, List.getElem_toArray, List.getElem_cons_zero, List.getElem_cons_succ]
  refine wpN_take (i := 8) (v := ?v8) rfl (by kernel_rfl) (fun _ _ _ h => h) hS (Or.inl ⟨by rfl, ?hy8⟩) ?hr8
  case hy8 => (intro wS hSw; (try dsimp only at hSw); go_simp; (try with_reducible rfl))
  try simp only [Act.put, List.setIfInBounds_toArray, List.set_cons_zero, List.set_cons_succ, List.getElem_toArray, List.getElem_cons_zero, List.getElem_cons_succ]
  refine wpN_step (i := 4) (by kernel_rfl) rfl (fun K hK => ?_)
  go_simp
  refine (compare_i _ _ _).mono ?_
  rintro e w1 ⟨rfl, hb1⟩
  have B1 := B0.drew.trans (hb1.mono B0.size)
  have y0 := x0.drew.below hb1
  have y1 := x1.drew.below hb1
  have hS : (w1).cell? ⟨w.heap.size, 1, none⟩ = some (.int .i64 x) ∧ (w1).cell? ⟨w.heap.size + 1, 1, none⟩ = some (.int .i64 x') ∧ (w1).cell? ⟨w.heap.size, 2, none⟩ = some (.int .i64 g) ∧ (w1).cell? ⟨w.heap.size + 1, 2, none⟩ = some (.int .i64 g') := ⟨y0.cell rfl, y1.cell rfl, y0.cell rfl, y1.cell rfl⟩
  refine hK.out _ _ (fun _ => hS) ?_
  clear hK K
  try simp only [Act.put, List.setIfInBounds_toArray, List.set_cons_zero, List.set_cons_succ, List.getElem_toArray, List.getElem_cons_zero, List.getElem_cons_succ]
  refine wpN_step (i := 9) (by kernel_rfl) rfl (fun K hK => ?_)
  go_simp
  refine (compare_i _ _ _).mono ?_
  rintro e w2 ⟨rfl, hb2⟩
  have B2 := B1.trans (hb2.mono B1.size)
  have z0 := y0.below hb2
  have z1 := y1.below hb2
  have hS : (w2).cell? ⟨w.heap.size, 1, none⟩ = some (.int .i64 x) ∧ (w2).cell? ⟨w.heap.size + 1, 1, none⟩ = some (.int .i64 x') ∧ (w2).cell? ⟨w.heap.size, 2, none⟩ = some (.int .i64 g) ∧ (w2).cell? ⟨w.heap.size + 1, 2, none⟩ = some (.int .i64 g') := ⟨z0.cell rfl, z1.cell rfl, z0.cell rfl, z1.cell rfl⟩
  refine hK.out _ _ (fun _ => hS) ?_
  clear hK K
  try simp only [Act.put, List.setIfInBounds_toArray, List.set_cons_zero, List.set_cons_succ, List.getElem_toArray, List.getElem_cons_zero, List.getElem_cons_succ]
  refine wpN_step (i := 10) (by kernel_rfl) rfl (fun K hK => ?_)
  go_simp
  have B3 := B2.alloc B2.size (.cells #[.int .i64 (sgn x x'), .int .i64 (sgn g g')] 3)
  have u0 := z0.alloc (.cells #[.int .i64 (sgn x x'), .int .i64 (sgn g g')] 3)
  have u1 := z1.alloc (.cells #[.int .i64 (sgn x x'), .int .i64 (sgn g g')] 3)
  have u2 := Blk.new w2 #[.int .i64 (sgn x x'), .int .i64 (sgn g g')] 3 rfl
  have hS : (w2.alloc (.cells #[.int .i64 (sgn x x'), .int .i64 (sgn g g')] 3)).cell? ⟨w.heap.size, 1, none⟩ = some (.int .i64 x) ∧ (w2.alloc (.cells #[.int .i64 (sgn x x'), .int .i64 (sgn g g')] 3)).cell? ⟨w.heap.size + 1, 1, none⟩ = some (.int .i64 x') ∧ (w2.alloc (.cells #[.int .i64 (sgn x x'), .int .i64 (sgn g g')] 3)).cell? ⟨w.heap.size, 2, none⟩ = some (.int .i64 g) ∧ (w2.alloc (.cells #[.int .i64 (sgn x x'), .int .i64 (sgn g g')] 3)).cell? ⟨w.heap.size + 1, 2, none⟩ = some (.int .i64 g') := ⟨u0.cell rfl, u1.cell rfl, u0.cell rfl, u1.cell rfl⟩
  refine hK.out _ _ (fun _ => hS) ?_
  clear hK K
  try simp only [Act.put, List.setIfInBounds_toArray, List.set_cons_zero, List.set_cons_succ, List.getElem_toArray, List.getElem_cons_zero, List.getElem_cons_succ]
  refine wpN_step (i := 11) (by kernel_rfl) rfl (fun K hK => ?_)
  go_simp
  refine (or2_i _ _ _ _ _ u2).mono ?_
  rintro e w6 ⟨rfl, hb6⟩
  have B6 := B3.trans (hb6.mono B3.size)
  have z0 := u0.below hb6
  have z1 := u1.below hb6
  have hS : (w6).cell? ⟨w.heap.size, 1, none⟩ = some (.int .i64 x) ∧ (w6).cell? ⟨w.heap.size + 1, 1, none⟩ = some (.int .i64 x') ∧ (w6).cell? ⟨w.heap.size, 2, none⟩ = some (.int .i64 g) ∧ (w6).cell? ⟨w.heap.size + 1, 2, none⟩ = some (.int .i64 g') := ⟨z0.cell rfl, z1.cell rfl, z0.cell rfl, z1.cell rfl⟩
  refine hK.out _ _ (fun _ => hS) ?_
  clear hK K
  try simp only [Act.put, List.setIfInBounds_toArray, List.set_cons_zero, List.set_cons_succ, List.getElem_toArray, List.getElem_cons_zero, List.getElem_cons_succ]
  refine wpN_pure (i := 12) (v := ?v9) rfl (by kernel_rfl) (fun _ _ _ h => h) (Or.inl ⟨by rfl, ?hy9⟩) ?hr9
  case hy9 => (intro wS hSw; go_simp; (try with_reducible rfl))
  try simp only [Act.put, List.setIfInBounds_toArray, List.set_cons_zero, List.set_cons_succ, List.getElem_toArray, List.getElem_cons_zero, List.getElem_cons_succ]
  refine wpN_pure (i := 13) (v := ?v10) rfl (by kernel_rfl) (fun _ _ _ h => h) (Or.inl ⟨by rfl, ?hy10⟩) ?hr10
  case hy10 => (intro wS hSw; go_simp; (try with_reducible rfl))
  try simp only [Act.put, List.setIfInBounds_toArray, List.set_cons_zero, List.set_cons_succ, List.getElem_toArray, List.getElem_cons_zero, List.getElem_cons_succ]
  refine wpN_done (by kernel_rfl) ?_
  refine NoPanic.normal ?_
  go_wp2_with fail
  go_ret
  exact ⟨by rw [← HL.out]; rfl, B6⟩
end Go.Proofs.Ytplfbdkljnblmaa

namespace Go.Proofs.Ytplfbdkljnblmaa
open Go.RowKit

structure Fst (f : FuncId) (lt : Ent → Ent → Bool) : Prop where
  enters : ∀ args w, (callFunc f args).run Try.prog w = .ok (.enter f args) w
  calls : ∀ (a b : Ent) (w : World), Calls Try.prog f #[a.v, b.v] w fun e w' => e = .returned (.bool (lt a b)) ∧ Below w.heap.size w w'
theorem fst_elder : Fst 23 Hp.elder := ⟨enters_of Try.func23 (by kernel_rfl) rfl, elder_q⟩
theorem fst_lighter : Fst 22 Hp.lighter := ⟨enters_of Try.func22 (by kernel_rfl) rfl, lighter_q⟩

structure Off (F : Nat → Prop) (w w' : World) : Prop where
  os : w'.os = w.os
  tape : w'.tape = w.tape
  output : w'.output = w.output
  size : w.heap.size ≤ w'.heap.size
  block : ∀ k, k < w.heap.size → ¬ F k → w'.heap[k]? = w.heap[k]?
namespace Off
variable {F G : Nat → Prop} {w w' w'' : World}
theorem refl (F : Nat → Prop) (w : World) : Off F w w := ⟨rfl, rfl, rfl, Nat.le_refl _, fun _ _ _ => rfl⟩
theorem trans (h : Off F w w') (h' : Off F w' w'') : Off F w w'' :=
  ⟨h'.os.trans h.os, h'.tape.trans h.tape, h'.output.trans h.output, Nat.le_trans h.size h'.size, fun k hk hF => (h'.block k (Nat.lt_of_lt_of_le hk h.size) hF).trans (h.block k hk hF)⟩
theorem mono (h : Off F w w') (hF : ∀ k, k < w.heap.size → F k → G k) : Off G w w' := ⟨h.os, h.tape, h.output, h.size, fun k hk hG => h.block k hk fun hf => hG (hF k hk hf)⟩
theorem below (h : Off F w w') (hb : Below w'.heap.size w' w'') : Off F w w'' := h.trans ⟨hb.os, hb.tape, hb.output, hb.size, fun k hk _ => hb.block k hk⟩
theorem of_below (F : Nat → Prop) (hb : Below w.heap.size w w') : Off F w w' := (refl F w).below hb
theorem drew (h : Off F w w') : Off F w w'.drew := h.below (Below.refl _ _).drew
theorem alloc (h : Off F w w') (o : Obj) : Off F w (w'.alloc o) := h.below ((Below.refl _ _).alloc (Nat.le_refl _) _)
theorem grown (h : Off F w w') {row : Option Nat} (hg : w'.grownBy w'' row) (hr : ∀ k, row = some k → F k) : Off F w w'' :=
  h.trans ⟨hg.os, hg.tape, hg.output, hg.size, fun k hk hF => hg.block k hk fun e => hF (hr k e.symm)⟩
theorem set (h : Off F w w') (p : Addr) (u : Value) (hp : F p.block ∨ w.heap.size ≤ p.block) : Off F w (w'.setCell p u) := by
  have hb := (Below.refl 0 w').setCell (p := p) (Nat.zero_le _) u
  refine ⟨hb.os.trans h.os, hb.tape.trans h.tape, hb.output.trans h.output, Nat.le_trans h.size hb.size, fun k hk hF => ?_⟩
  exact (Below.heap_setCell _ _ _ _ (fun e => by rcases hp with hp | hp; exact hF (e ▸ hp); omega)).trans (h.block k hk hF)
theorem toBelow (h : Off F w w') {n : Nat} (hn : n ≤ w.heap.size) (hF : ∀ k, F k → n ≤ k) : Below n w w' :=
  ⟨h.os, h.tape, h.output, h.size, fun k hk => h.block k (by omega) fun hf => by have := hF k hf; omega⟩
theorem blk (h : Off F w w') {n : Nat} {cs : Array Value} {t : TypeId} (hb : Blk w n cs t) (hF : ¬ F n) : Blk w' n cs t := hb.same (h.block n hb.lt hF)
end Off

def encs (l : List Ent) : List Value := l.flatMap fun e => [.int .i64 e.key, .int .i64 e.weight, .int .i64 e.age]
theorem length_encs (l : List Ent) : (encs l).length = l.length * 3 := by
  induction l with
  | nil => rfl
  | cons e l ih => simp only [encs, List.flatMap_cons, List.length_append, List.length_cons, List.length_nil] at *; omega
theorem encs_append (l r : List Ent) : encs (l ++ r) = encs l ++ encs r := by simp [encs]
theorem encs_get (l : List Ent) (i : Nat) (hi : i < l.length) : (encs l)[i * 3]? = some (.int .i64 l[i].key) ∧ (encs l)[i * 3 + 1]? = some (.int .i64 l[i].weight) ∧ (encs l)[i * 3 + 2]? = some (.int .i64 l[i].age) := by
  have h : l = l.take i ++ (l[i] :: l.drop (i + 1)) := by rw [← List.drop_eq_getElem_cons hi, List.take_append_drop]
  have hl : (encs (l.take i)).length = i * 3 := by rw [length_encs]; simp; omega
  have e : encs l = encs (l.take i) ++ ([.int .i64 l[i].key, .int .i64 l[i].weight, .int .i64 l[i].age] ++ encs (l.drop (i + 1))) := by
    conv => lhs; rw [h]
    rw [encs_append]; rfl
  rw [e]
  refine ⟨?_, ?_, ?_⟩ <;> rw [List.getElem?_append_right (by omega), hl] <;> simp
theorem encs_take (l : List Ent) (k : Nat) : encs (l.take k) = (encs l).take (k * 3) := by
  induction l generalizing k with
  | nil => simp [encs]
  | cons e l ih =>
    cases k with
    | zero => simp [encs]
    | succ k =>
      have : (k + 1) * 3 = k * 3 + 1 + 1 + 1 := by omega
      rw [this]
      simp only [List.take_succ_cons]
      have h1 : encs (e :: l) = .int .i64 e.key :: .int .i64 e.weight :: .int .i64 e.age :: encs l := rfl
      have h2 : encs (e :: l.take k) = .int .i64 e.key :: .int .i64 e.weight :: .int .i64 e.age :: encs (l.take k) := rfl
      rw [h1, h2, ih]; rfl

def Row (w : World) (base : Nat) (v : Value) (l : List Ent) : Prop := w.ownsRow base 30 3 v l.length (encs l)
namespace Row
variable {w w' : World} {base : Nat} {v : Value} {l : List Ent}
theorem nil (w : World) (base : Nat) : Row w base (.slice none 0 0) [] := World.ownsRow_nil _ _ _ _
theorem shape (h : Row w base v l) : ∃ a c, v = .slice a l.length c := by
  rcases h.2 with ⟨rfl, h0⟩ | ⟨g, cap, cur, rfl, _⟩
  · exact ⟨none, 0, by rw [h0]⟩
  · exact ⟨_, _, rfl⟩
theorem below (h : Row w base v l) (hb : Below w.heap.size w w') : Row w' base v l :=
  h.kept ⟨hb.os, hb.tape, hb.output, hb.size, fun k hk _ => hb.block k hk⟩ (row := none) (by cases h : v.ownBlock <;> simp)
theorem base_le (h : Row w base v l) : ∀ g, v.ownBlock = some g → base ≤ g ∧ g < w.heap.size := by
  intro g hg
  rcases h.2 with ⟨rfl, h0⟩ | ⟨g', cap, cur, rfl, hb, hc, _⟩
  · cases hg
  · cases hg; exact ⟨hb, (Array.getElem?_eq_some_iff.1 hc).1⟩
theorem far (h : Row w base v l) (p : Addr) (u : Value) (hp : v.ownBlock ≠ some p.block) : Row (w.setCell p u) base v l := by
  rcases h with ⟨h1, h2 | ⟨g, cap, cur, rfl, hb, hc, h3⟩⟩
  · exact ⟨h1, .inl h2⟩
  · refine ⟨h1, .inr ⟨g, cap, cur, rfl, hb, ?_, h3⟩⟩
    rw [← hc]; exact Below.heap_setCell _ _ _ _ (fun e => hp (by rw [← e]; rfl))
theorem open_ (h : Row w base v l) (h0 : 0 < l.length) : ∃ g cap, v = .slice (some ⟨g, 0, none⟩) l.length cap ∧ base ≤ g ∧ l.length ≤ cap ∧ cap ≤ maxLen ∧
    (∀ i (hi : i < l.length), w.cell? ⟨g, i * 3, none⟩ = some (.int .i64 l[i].key) ∧ w.cell? ⟨g, i * 3 + 1, none⟩ = some (.int .i64 l[i].weight) ∧ w.cell? ⟨g, i * 3 + 2, none⟩ = some (.int .i64 l[i].age)) ∧ ∀ o, w.frozen? ⟨g, o, none⟩ = false := by
  rcases h.2 with ⟨rfl, he⟩ | ⟨g, cap, cur, rfl, hb, hc, h1, h2, h3, h4⟩
  · omega
  · refine ⟨g, cap, rfl, hb, h1, h2, fun i hi => ?_, fun o => Blk.free (cs := cur) hc o⟩
    obtain ⟨e1, e2, e3⟩ := encs_get l i hi
    rw [← h4] at e1 e2 e3
    have key : ∀ j u, (cur.toList.take (l.length * 3))[j]? = some u → w.cell? ⟨g, j, none⟩ = some u := fun j u hj => by
      rw [List.getElem?_take] at hj
      split at hj
      · exact Blk.cell (cs := cur) hc (by rw [← Array.getElem?_toList]; exact hj)
      · cases hj
    exact ⟨key _ _ e1, key _ _ e2, key _ _ e3⟩
theorem take (h : Row w base v l) (k : Nat) (hk : k ≤ l.length) {a : Option Addr} {c : Nat} (hv : v = .slice a l.length c) : Row w base (.slice a k c) (l.take k) := by
  subst hv
  have hl : (l.take k).length = k := by simp; omega
  rcases h with ⟨h1, ⟨h2, h0⟩ | ⟨g, cap, cur, h2, hb, hc, h3, h4, h5, h6⟩⟩
  · injection h2 with q1 q2 q3
    subst q1; subst q3
    obtain rfl : k = 0 := by omega
    exact ⟨by rw [length_encs], .inl ⟨rfl, by simp⟩⟩
  · cases h2
    refine ⟨by rw [length_encs], .inr ⟨g, _, cur, by rw [hl], hb, hc, by omega, h4, h5, ?_⟩⟩
    rw [hl, encs_take, ← h6, List.take_take, Nat.min_eq_left (by omega)]
theorem set (h : Row w base v l) (i : Nat) (hi : i < l.length) (e : Ent) {g cap : Nat} (hv : v = .slice (some ⟨g, 0, none⟩) l.length cap) :
    Row (((w.setCell ⟨g, i * 3, none⟩ (.int .i64 e.key)).setCell ⟨g, i * 3 + 1, none⟩ (.int .i64 e.weight)).setCell ⟨g, i * 3 + 2, none⟩ (.int .i64 e.age)) base v (l.set i e) := by
  subst hv
  rcases h with ⟨h1, ⟨h2, h0⟩ | ⟨g', cap', cur, h2, hb, hc, h3, h4, h5, h6⟩⟩
  · cases h2
  · cases h2
    refine ⟨by rw [length_encs], .inr ⟨g, _, ((cur.setIfInBounds (i * 3) (.int .i64 e.key)).setIfInBounds (i * 3 + 1) (.int .i64 e.weight)).setIfInBounds (i * 3 + 2) (.int .i64 e.age), by simp, hb, ?_, by simpa using h3, h4, by simpa using h5, ?_⟩⟩
    · have b0 : Blk w g cur 30 := hc
      exact ((b0.set (i * 3) (.int .i64 e.key)).set (i * 3 + 1) (.int .i64 e.weight)).set (i * 3 + 2) (.int .i64 e.age)
    · simp only [List.length_set, Array.toList_setIfInBounds]
      apply List.ext_getElem?
      intro j
      rw [List.getElem?_take]
      by_cases hj : j < l.length * 3
      · rw [if_pos hj]
        have hcur : cur.toList.length = cap * 3 := by simpa using h5
        obtain ⟨d, m, rfl, hm⟩ : ∃ d m, j = d * 3 + m ∧ (m = 0 ∨ m = 1 ∨ m = 2) := ⟨j / 3, j % 3, by omega, by omega⟩
        have hd : d < l.length := by omega
        obtain ⟨q1, q2, q3⟩ := encs_get (l.set i e) d (by simpa using hd)
        have hold : ∀ j, j < l.length * 3 → cur.toList[j]? = (encs l)[j]? := fun j hj => by
          rw [← h6, List.getElem?_take, if_pos hj]
        obtain ⟨p1, p2, p3⟩ := encs_get l d hd
        simp only [List.getElem?_set, List.length_set]
        by_cases hji : d = i
        · subst hji
          have eE : (l.set d e)[d]'(by simpa using hd) = e := by simp
          rw [eE] at q1 q2 q3
          rcases hm with rfl | rfl | rfl
          · rw [if_neg (by omega), if_neg (by omega), if_pos (by omega), if_pos (by omega)]; exact q1.symm
          · rw [if_neg (by omega), if_pos rfl, if_pos (by omega)]; exact q2.symm
          · rw [if_pos rfl, if_pos (by omega)]; exact q3.symm
        · have eE : (l.set i e)[d]'(by simpa using hd) = l[d] := by rw [List.getElem_set_ne (by omega)]
          rw [eE] at q1 q2 q3
          rw [if_neg (by omega), if_neg (by omega), if_neg (by omega), hold _ hj]
          rcases hm with rfl | rfl | rfl
          · exact p1.trans q1.symm
          · exact p2.trans q2.symm
          · exact p3.trans q3.symm
      · rw [if_neg hj, List.getElem?_eq_none (by rw [length_encs]; simp; omega)]
end Row

def rpE : Rp Ent where
  n := 3
  R _ _ x e := x = [.int .i64 e.key, .int .i64 e.weight, .int .i64 e.age]
  len := by rintro F w x a rfl; rfl
  one := by
    rintro F w x a rfl u hu
    simp at hu
    rcases hu with rfl | rfl | rfl <;> rfl
  keep := by intro F w w' x a h _; exact h
  weaken := by intro F F' w x a h _; exact h
end Go.Proofs.Ytplfbdkljnblmaa

