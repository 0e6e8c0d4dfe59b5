/-
  sign, cmp.Compare and cmp.Or of ints.
-/
import Derived.Test.YtejpgifofkiofaaCmp
namespace Go.Proofs.Ytejpgifofkiofaa
open Go.RowKit

theorem sgn_lt {x y : Int} (h : x < y) : sgn x y = -1 := by simp [sgn, h]
theorem sgn_gt {x y : Int} (h : y < x) : sgn x y = 1 := by simp [sgn, h, show ¬ x < y by omega]
theorem sgn_eq {x y : Int} (h1 : ¬ x < y) (h2 : ¬ y < x) : sgn x y = 0 := by simp [sgn, h1, h2]

theorem sign_r (w : World) (x y : Int) : Calls Try.prog 105 #[.int .i64 x, .int .i64 y] w (RetI (sgn x y) w) := by
  by_cases h1 : x < y
  · have Hs := Lib.hid (sgn_lt h1)
    go_enter Try.func105, Try.ntmps105
    go_wp2_with fail
    go_ret
    exact ⟨by rw [Hs.out]; rfl, Below.refl _ _⟩
  · by_cases h2 : y < x
    · have Hs := Lib.hid (sgn_gt h2)
      have h2' : x > y := h2
      go_enter Try.func105, Try.ntmps105
      go_wp2_with fail
      go_ret
      exact ⟨by rw [Hs.out]; rfl, Below.refl _ _⟩
    · have Hs := Lib.hid (sgn_eq h1 h2)
      have h2' : ¬ x > y := h2
      go_enter Try.func105, Try.ntmps105
      go_wp2_with fail
      go_ret
      exact ⟨by rw [Hs.out]; rfl, Below.refl _ _⟩
theorem sign_r6 (w : World) (x y : Int) : Calls Try.prog 104 #[.int .i64 x, .int .i64 y] w (RetI (sgn x y) w) := by
  by_cases h1 : x < y
  · have Hs := Lib.hid (sgn_lt h1)
    go_enter Try.func104, Try.ntmps104
    go_wp2_with fail
    go_ret
    exact ⟨by rw [Hs.out]; rfl, Below.refl _ _⟩
  · by_cases h2 : y < x
    · have Hs := Lib.hid (sgn_gt h2)
      have h2' : x > y := h2
      go_enter Try.func104, Try.ntmps104
      go_wp2_with fail
      go_ret
      exact ⟨by rw [Hs.out]; rfl, Below.refl _ _⟩
    · have Hs := Lib.hid (sgn_eq h1 h2)
      have h2' : ¬ x > y := h2
      go_enter Try.func104, Try.ntmps104
      go_wp2_with fail
      go_ret
      exact ⟨by rw [Hs.out]; rfl, Below.refl _ _⟩

theorem isNaN_i (w : World) (x : Int) : Calls Try.prog 123 #[.int .i64 x] w fun e w' => e = .returned (.bool false) ∧ w' = w := by
  have h : (x != x) = false := by simp
  go_enter Try.func123, Try.ntmps123
  go_wp2_with fail
  go_ret
  exact ⟨rfl, rfl⟩

theorem compare_i (w : World) (x y : Int) : Calls Try.prog 100 #[.int .i64 x, .int .i64 y] w (RetI (sgn x y) w) := by
  by_cases h1 : x < y
  · have Hs := Lib.hid (sgn_lt h1)
    go_enter Try.func100, Try.ntmps100
    go_wp2_with fail
    refine (isNaN_i w x).mono ?_
    rintro e w1 ⟨rfl, rfl⟩
    go_wp2_with fail
    refine (isNaN_i _ y).mono ?_
    rintro e w2 ⟨rfl, rfl⟩
    go_wp2_with fail
    go_ret
    exact ⟨by rw [Hs.out]; rfl, Below.refl _ _⟩
  · by_cases h2 : y < x
    · have Hs := Lib.hid (sgn_gt h2)
      have h2' : x > y := h2
      go_enter Try.func100, Try.ntmps100
      go_wp2_with fail
      refine (isNaN_i w x).mono ?_
      rintro e w1 ⟨rfl, rfl⟩
      go_wp2_with fail
      refine (isNaN_i _ y).mono ?_
      rintro e w2 ⟨rfl, rfl⟩
      go_wp2_with fail
      go_ret
      exact ⟨by rw [Hs.out]; rfl, Below.refl _ _⟩
    · have Hs := Lib.hid (sgn_eq h1 h2)
      have h2' : ¬ x > y := h2
      go_enter Try.func100, Try.ntmps100
      go_wp2_with fail
      refine (isNaN_i w x).mono ?_
      rintro e w1 ⟨rfl, rfl⟩
      go_wp2_with fail
      refine (isNaN_i _ y).mono ?_
      rintro e w2 ⟨rfl, rfl⟩
      go_wp2_with fail
      go_ret
      exact ⟨by rw [Hs.out]; rfl, Below.refl _ _⟩

theorem orls_drop {l : List Int} {k : Nat} (hk : k < l.length) (h : l[k] = 0) : orls (l.drop k) = orls (l.drop (k + 1)) := by
  rw [List.drop_eq_getElem_cons hk, orls, h, orl_zero]
theorem orls_drop_ne {l : List Int} {k : Nat} (hk : k < l.length) (h : l[k] ≠ 0) : orls (l.drop k) = l[k] := by
  rw [List.drop_eq_getElem_cons hk, orls, orl_ne h]

theorem or_i (w : World) (bl off n c : Nat) (l : List Int) (hl : l.length = n) (hn : n ≤ 1000) (h : ∀ i (hi : i < l.length), w.cell? ⟨bl, off + i, none⟩ = some (.int .i64 l[i])) : Calls Try.prog 99 #[.slice (some ⟨bl, off, none⟩) n c] w (RetI (orls l) w) := by
  have Hc := Lib.hid h; clear h
  have Hl := Lib.hid hl; clear hl
  go_enter Try.func99, Try.ntmps99
  go_wp2_with fail
  go_loopw [8] (fun i wr => ∃ k : Nat, i = .int .i64 k ∧ k ≤ n ∧ wr = w ∧ Hid (orls l = orls (l.drop k))) (fun i _ => n - (intOf i).toNat)
  case atStart => exact ⟨0, rfl, by omega, rfl, rfl⟩
  case round =>
    obtain ⟨k, rfl, hk, rfl, hrel⟩ := hrel
    by_cases hlt : k < n
    · have hkl : k < l.length := by rw [Hl.out]; exact hlt
      have e1 := Hc.out k hkl
      by_cases h0 : l[k] = 0
      · have hd := Lib.hid (orls_drop hkl h0)
        rw [h0] at e1
        go_wp2_with fail
        go_roundw
        case rel => exact ⟨k + 1, by go_num, by omega, by trivial, hrel.out.trans hd.out⟩
        case measure => simp [intOf]; omega
      · have hd := Lib.hid (orls_drop_ne hkl h0)
        generalize l[k] = x at *
        have hx : (x != 0) = true := by simpa using h0
        have hx : (x == 0) = false := by simpa using h0
        go_wp2_with fail
        go_ret
        exact ⟨by rw [hrel.out, hd.out]; rfl, Below.refl _ _⟩
    · have hd : Hid (orls (l.drop k) = 0) := by show _ = _; rw [List.drop_of_length_le (by rw [Hl.out]; omega)]; rfl
      go_wp2_with fail
      go_ret
      exact ⟨by rw [hrel.out, hd.out]; rfl, Below.refl _ _⟩
theorem or2_i (w : World) (bl c : Nat) (x y : Int) (h : Blk w bl #[.int .i64 x, .int .i64 y] 3) : Calls Try.prog 99 #[.slice (some ⟨bl, 0, none⟩) 2 c] w (RetI (orl x y) w) := by
  have hi := or_i w bl 0 2 c [x, y] rfl (by omega) fun i hi => by
    match i, hi with
    | 0, _ => exact h.cell rfl
    | 1, _ => exact h.cell rfl
  have e : orls [x, y] = orl x y := by simp [orls]
  rw [e] at hi
  exact hi
end Go.Proofs.Ytejpgifofkiofaa
