/-
  The law QueueFair, stepped through. Queue.Drop: some go.
-/
import Derived.Test.YtplfbdkljnblmaaRowQOncep11
import Derived.Test.YtplfbdkljnblmaaRowQOncep6
import Derived.Test.YtplfbdkljnblmaaRowQOncep10
set_option linter.unusedVariables false
set_option linter.unusedSimpArgs false
namespace Go.Proofs.Ytplfbdkljnblmaa
open Go.RowKit

structure IntsAt (w : World) (a : Option Addr) (n : Nat) : Prop where
  cell : ∀ i, i < n → ∃ bl o x, a = some ⟨bl, o, none⟩ ∧ w.cell? ⟨bl, o + i, none⟩ = some (.int .i64 x)
theorem IntsAt.below {w w' : World} {a : Option Addr} {n : Nat} (h : IntsAt w a n) (hb : Below w.heap.size w w') : IntsAt w' a n :=
  ⟨fun i hi => by
    obtain ⟨bl, o, x, e, hc⟩ := h.cell i hi
    exact ⟨bl, o, x, e, (Keep.refl (fun _ => True) w).below hb _ _ _ trivial hc⟩⟩
theorem intsAt {w : World} {a : Option Addr} {n c : Nat} {l : List Int} (h : IsSl rpI (fun _ => True) w (.slice a n c) l) : n = l.length ∧ n ≤ c ∧ n ≤ maxLen ∧ IntsAt w a n := by
  obtain ⟨a', c', bl, off, X, hv, hm, ha, h1, h2⟩ := h
  injection hv with q1 q2 q3
  subst q1 q2 q3
  refine ⟨rfl, hm.2, hm.1, ⟨fun i hi => ⟨bl, off, l[i], (ha (by omega)).1, ?_⟩⟩⟩
  have hx : X i = [.int .i64 l[i]] := h2 i hi
  have := h1 i 0 (.int .i64 l[i]) hi (by rw [hx]; rfl)
  simpa [rpI] using this

theorem keepB' {w w' : World} (h : Below w.heap.size w w') : Keep (fun _ => True) w w' := (Keep.refl _ _).below h
theorem u64_pos (n : Int) : 0 ≤ IntKind.u64.wrap n := by
  unfold IntKind.wrap
  simp only [IntKind.signed, IntKind.bits, Bool.false_and, Bool.false_eq_true, if_false]
  exact Int.emod_nonneg _ (by decide)
theorem u64_mod (n : Int) (m : Nat) (hm : 1 ≤ m) (hm2 : m ≤ 1000) : ∃ k : Nat, k < m ∧ wrap64 ((IntKind.u64.wrap n).tmod m) = k := by
  have h1 := u64_pos n
  have h2 := Int.tmod_nonneg (m : Int) h1
  have h3 := Int.tmod_lt_of_pos (IntKind.u64.wrap n) (show (0 : Int) < m by omega)
  obtain ⟨k, hk⟩ := Int.eq_ofNat_of_zero_le h2
  refine ⟨k, by omega, ?_⟩
  rw [hk] at h3 ⊢
  unfold wrap64
  omega

theorem PutRes.put_le {s : QS} {k x : Int} {e : Ending} {s' : QS} (h : PutRes s k x e s') : s'.put ≤ s.put + 1 := by
  rcases h with ⟨_, _, rfl⟩ | ⟨_, _, _, rfl⟩ | ⟨_, _, _, rfl⟩
  · omega
  · omega
  · exact Nat.le_refl _

set_option maxRecDepth 100000 in
set_option maxHeartbeats 8000000 in
theorem fair_le {w : World} {a : Option Addr} {n c : Nat} (pd el wt : Int) (hc : n ≤ c) (hm : n ≤ maxLen) (hI : IntsAt w a n) (hcase : n ≤ 20) :
    Calls Try.prog 3 #[.int .i64 pd, .int .i64 el, .int .i64 wt, .slice a n c] w fun e w' => e = .returned (.bool true) ∧ Below w.heap.size w w' := by
  obtain ⟨per0, hper0, e1⟩ : ∃ k : Nat, k < 10 ∧ wrap64 ((IntKind.u64.wrap pd).tmod 10) = k := u64_mod pd 10 (by decide) (by decide)
  obtain ⟨eld, heldl, e2⟩ : ∃ k : Nat, k < 20 ∧ wrap64 ((IntKind.u64.wrap el).tmod 20) = k := u64_mod el 20 (by decide) (by decide)
  have HI : Hid (∀ i, i < n → ∃ bl o x, a = some ⟨bl, o, none⟩ ∧ w.cell? ⟨bl, o + i, none⟩ = some (.int .i64 x)) := fun i hi => hI.cell i (by omega)
  have hcI : (n : Int) ≤ c := by omega
  have hm2 : (n : Int) ≤ 9223372036854775807 := by simp only [maxLen] at hm; omega
  go_enter Try.func3, Try.ntmps3
  go_wp2_with fail
  all_goals try (exfalso; omega)
  simp only [e1, e2]
  refine (new_q w (1 + per0) (by omega) (by omega)).mono ?_
  rintro e w1 ⟨q, rfl, hq, hQ, hb⟩
  clear e1 e2 hI
  go_wp2_with fail
  go_loopw [11] (fun iv wr => ∃ (i : Nat) (s : QS), iv = .int .i64 i ∧ i ≤ eld ∧ QueueAt (fun k => w.heap.size ≤ k) wr q s ∧ Hid (Elders (1 + (per0 : Int)) i s) ∧ Below w.heap.size w wr) (fun iv _ => eld - (intOf iv).toNat)
  case atStart => exact ⟨0, _, rfl, by omega, hQ, ⟨rfl, rfl, rfl, rfl, by simp⟩, hb⟩
  case round =>
    obtain ⟨i, s, rfl, hi, hQi, hEi, hbi⟩ := hrel
    by_cases hlt : i < eld
    · have hltI : (i : Int) < eld := by omega
      have hput : (s.put : Nat) ≤ 799999 := by have := hEi.out.put; omega
      have fin : ∀ x : Int, Calls Try.prog 8 #[.pointer (some ⟨q, 0, none⟩), .int .i64 i, .int .i64 x] wr fun e w' => e = .returned (.int .i64 0) ∧ ∃ s', QueueAt (fun k => w.heap.size ≤ k) w' q s' ∧ Hid (Elders (1 + (per0 : Int)) (i + 1) s') ∧ Below w.heap.size w w' := fun x =>
        (put_q hQi hput (fun k hk => Nat.le_trans hbi.size hk) i x (by unfold W64; omega)).mono fun e w' ⟨s', hres, hQ', hO⟩ => by
          obtain ⟨he, hE⟩ := hEi.out.step (by omega) hres
          exact ⟨he, s', hQ', hE, hbi.trans (hO.toBelow hbi.size fun k hk => hk)⟩
      have Fin := Lib.hid fin; clear fin
      by_cases hik : i < n
      · have hikI : (i : Int) < n := by omega
        obtain ⟨bl, o, x, rfl, hx⟩ := HI.out i hik
        have hx' := (Keep.refl (fun _ => True) w).trans (keepB' hbi) _ _ _ trivial hx
        go_wp2_with fail
        refine (Fin.out x).mono ?_
        rintro e w3 ⟨rfl, s', hQ3, hE3, hb3⟩
        go_wp2_with fail
        go_roundw
        case rel => exact ⟨i + 1, s', by go_num, by omega, hQ3, hE3, hb3⟩
        case measure => simp [intOf]; omega
      · have hikI : ¬ (i : Int) < n := by omega
        go_wp2_with fail
        refine (Fin.out 0).mono ?_
        rintro e w3 ⟨rfl, s', hQ3, hE3, hb3⟩
        go_wp2_with fail
        go_roundw
        case rel => exact ⟨i + 1, s', by go_num, by omega, hQ3, hE3, hb3⟩
        case measure => simp [intOf]; omega
    · obtain rfl : i = eld := by omega
      go_wp2_with fail
      refine (put_q hQi (by have := hEi.out.put; omega) (fun k hk => Nat.le_trans hbi.size hk) 1000 wt (by unfold W64; decide)).mono ?_
      rintro e w2 ⟨s2, hres, hQ2, hO⟩
      have hE1 : Elders (((1 + per0 : Nat)) : Int) i s := by have := hEi.out; push_cast; exact this
      obtain ⟨rfl, hF⟩ := Fair.start hE1 (by omega) hres
      have HF := Lib.hid hF
      have hb2 := hbi.trans (hO.toBelow hbi.size fun k hk => hk)
      clear hF hE1 hres hO hEi hQi hbi hQ hb
      obtain ⟨M, hM⟩ : ∃ M, (1 + per0) * (i + 1) = M := ⟨_, rfl⟩
      have hM200 : M ≤ 200 := by rw [← hM]; exact Nat.le_trans (Nat.mul_le_mul (show 1 + per0 ≤ 10 by omega) (show i + 1 ≤ 20 by omega)) (by decide)
      have hMI : (1 + (per0 : Int)) * ((i : Int) + 1) = M := by rw [← hM]; push_cast; rfl
      have hM2 : (M : Int) ≤ 200 := by omega
      have hM3 : (0 : Int) ≤ M := by omega
      have hM4 : IntKind.i64.wrap (M : Int) = M := IntWalk.i64_in _ (by omega)
      have hiI : (i : Int) ≤ 20 := by omega
      have HM := Lib.hid hM; clear hM
      go_wp2_with fail
      go_loopw [13] (fun iv wr => ∃ (j : Nat) (s : QS), iv = .int .i64 j ∧ 1 ≤ j ∧ j ≤ M + 1 ∧ QueueAt (fun k => w.heap.size ≤ k) wr q s ∧ Hid (Fair (1 + per0) i ⟨1000, wt, i⟩ j s) ∧ Below w.heap.size w wr) (fun iv _ => M + 1 - (intOf iv).toNat)
      case atStart => exact ⟨1, s2, rfl, by omega, by omega, hQ2, HF.out, hb2⟩
      case round =>
        obtain ⟨j, s, rfl, hj1, hjM, hQj, hFj, hbj⟩ := hrel
        by_cases hle : j ≤ M
        · have hleI : (j : Int) ≤ M := by omega
          go_wp2_with fail
          refine (next_q hQj (by have := hFj.out.tak; omega)).mono ?_
          rintro e w5 ⟨s5, hres, hQ5, hO⟩
          obtain ⟨hfk, hfa, -, -⟩ := hQj.facts
          rcases hres with ⟨hL, _⟩ | ⟨x, hx, hmin, rfl, rfl⟩
          · exfalso
            obtain ⟨pre, post, hs, _⟩ := hFj.out.split
            rw [hs] at hL
            simp at hL
          have hb5 := hbj.trans (hO.toBelow hbj.size fun k hk => hk)
          by_cases hx0 : x.key = 1000
          · obtain ⟨xk, xw, xg⟩ := x
            dsimp only at hx0
            subst hx0
            unfold Ent.v
            dsimp only
            clear hx hmin hO hfk hfa
            go_wp2_with fail
            refine (known25 _).mono ?_
            rintro e w6 ⟨rfl, hb6⟩
            go_wp2_with fail
            go_ret
            exact ⟨rfl, (hb5.alloc hb5.size _).trans (hb6.mono (by have := hb5.size; simp; omega))⟩
          · have HH := Lib.hid (hFj.out.take (by omega) hj1 rfl hfk hfa hx hmin hx0)
            obtain ⟨xk, xw, xg⟩ := x
            dsimp only at hx0 HH hQ5
            have hxb : (xk == 1000) = false := by simpa using hx0
            unfold Ent.v
            dsimp only
            clear hx hmin hO hfk hfa hFj hQj
            have hb6' : Below w5.heap.size w5 (w5.alloc (.cells #[.int .i64 xk, .int .i64 xw, .int .i64 xg] 30)) := (Below.refl _ _).alloc (Nat.le_refl _) _
            have hQ6 := hQ5.below hb6'
            have hb6 := hb5.trans (hb6'.mono hb5.size)
            have hj300 : j ≤ 300 := by omega
            have hjI3 : (j : Int) ≤ 300 := by omega
            have hj0I : (0 : Int) ≤ j := by omega
            have fin : ∀ y : Int, Calls Try.prog 8 #[.pointer (some ⟨q, 0, none⟩), .int .i64 (2000 + 2 * (j : Int)), .int .i64 y] (w5.alloc (.cells #[.int .i64 xk, .int .i64 xw, .int .i64 xg] 30)) fun e w' => e = .returned (.int .i64 0) ∧ ∃ s', PutRes (QS.took s xk) (2000 + 2 * (j : Int)) y e s' ∧ QueueAt (fun k => w.heap.size ≤ k) w' q s' ∧ Below w.heap.size w w' := fun y =>
              (put_q hQ6 (by have := HH.out.put; omega) (fun k hk => Nat.le_trans hb6.size hk) (2000 + 2 * (j : Int)) y (by unfold W64; omega)).mono fun e w' ⟨s', hr, hQ', hO'⟩ => by
                have hn := put_new hr (fun x hx e => by have := HH.out.keys x hx; omega) (by have h1 := HH.out.len; have h2 := HH.out.put; omega)
                exact ⟨hn.1, s', hr, hQ', hb6.trans (hO'.toBelow hb6.size fun k hk => hk)⟩
            have Fin := Lib.hid fin; clear fin
            by_cases hk0 : 0 < n
            · have hkI : (0 : Int) < n := by omega
              obtain ⟨r, hr, hrI⟩ : ∃ r : Nat, r < n ∧ (j : Int).tmod n = r := ⟨j % n, Nat.mod_lt _ hk0, by rw [Int.tmod_eq_emod_of_nonneg hj0I]; rfl⟩
              obtain ⟨bl, o, y, rfl, hy⟩ := HI.out r hr
              have hy' := (Keep.refl (fun _ => True) w).trans (keepB' hb6) _ _ _ trivial hy
              have hr0 : (0 : Int) ≤ r := by omega
              have hrK : (r : Int) < n := by omega
              have hnz : ¬ (n : Int) = 0 := by omega
              go_wp2_with fail
              refine (Fin.out y).mono ?_
              rintro e w7 ⟨rfl, s7, hres7, hQ7, hb7⟩
              go_wp2_with fail
              refine (put_q hQ7 (by have h1 := HH.out.put; have h2 := hres7.put_le; omega) (fun k hk => Nat.le_trans hb7.size hk) (2001 + 2 * (j : Int)) (-9223372036854775807) (by unfold W64; omega)).mono ?_
              rintro e w8 ⟨s8, hres8, hQ8, hO8⟩
              obtain ⟨-, rfl, hF8⟩ := HH.out.puts (by omega) (by omega) hres7 hres8
              have hb8 := hb7.trans (hO8.toBelow hb7.size fun k hk => hk)
              clear hO8 hres8
              go_wp2_with fail
              go_roundw
              case rel => exact ⟨j + 1, s8, by go_num, by omega, by omega, hQ8, hF8, hb8⟩
              case measure => simp [intOf]; omega
            · try (exfalso; omega)
              all_goals
                have hkI : ¬ (0 : Int) < n := by omega
                go_wp2_with fail
                refine (Fin.out (-5)).mono ?_
                rintro e w7 ⟨rfl, s7, hres7, hQ7, hb7⟩
                go_wp2_with fail
                refine (put_q hQ7 (by have h1 := HH.out.put; have h2 := hres7.put_le; omega) (fun k hk => Nat.le_trans hb7.size hk) (2001 + 2 * (j : Int)) (-9223372036854775807) (by unfold W64; omega)).mono ?_
                rintro e w8 ⟨s8, hres8, hQ8, hO8⟩
                obtain ⟨-, rfl, hF8⟩ := HH.out.puts (by omega) (by omega) hres7 hres8
                have hb8 := hb7.trans (hO8.toBelow hb7.size fun k hk => hk)
                clear hO8 hres8
                go_wp2_with fail
                go_roundw
                case rel => exact ⟨j + 1, s8, by go_num, by omega, by omega, hQ8, hF8, hb8⟩
                case measure => simp [intOf]; omega
        · exact (hFj.out.never (by omega) (by rw [HM.out]; omega)).elim
set_option maxRecDepth 100000 in
set_option maxHeartbeats 8000000 in
theorem fair_gt {w : World} {a : Option Addr} {n c : Nat} (pd el wt : Int) (hc : n ≤ c) (hm : n ≤ maxLen) (hI : IntsAt w a n) (hcase : 20 < n) :
    Calls Try.prog 3 #[.int .i64 pd, .int .i64 el, .int .i64 wt, .slice a n c] w fun e w' => e = .returned (.bool true) ∧ Below w.heap.size w w' := by
  obtain ⟨per0, hper0, e1⟩ : ∃ k : Nat, k < 10 ∧ wrap64 ((IntKind.u64.wrap pd).tmod 10) = k := u64_mod pd 10 (by decide) (by decide)
  obtain ⟨eld, heldl, e2⟩ : ∃ k : Nat, k < 20 ∧ wrap64 ((IntKind.u64.wrap el).tmod 20) = k := u64_mod el 20 (by decide) (by decide)
  have HI : Hid (∀ i, i < 20 → ∃ bl o x, a = some ⟨bl, o, none⟩ ∧ w.cell? ⟨bl, o + i, none⟩ = some (.int .i64 x)) := fun i hi => hI.cell i (by omega)
  have hcI : (n : Int) ≤ c := by omega
  have hm2 : (n : Int) ≤ 9223372036854775807 := by simp only [maxLen] at hm; omega
  go_enter Try.func3, Try.ntmps3
  go_wp2_with fail
  all_goals try (exfalso; omega)
  simp only [e1, e2]
  refine (new_q w (1 + per0) (by omega) (by omega)).mono ?_
  rintro e w1 ⟨q, rfl, hq, hQ, hb⟩
  clear e1 e2 hI
  go_wp2_with fail
  go_loopw [11] (fun iv wr => ∃ (i : Nat) (s : QS), iv = .int .i64 i ∧ i ≤ eld ∧ QueueAt (fun k => w.heap.size ≤ k) wr q s ∧ Hid (Elders (1 + (per0 : Int)) i s) ∧ Below w.heap.size w wr) (fun iv _ => eld - (intOf iv).toNat)
  case atStart => exact ⟨0, _, rfl, by omega, hQ, ⟨rfl, rfl, rfl, rfl, by simp⟩, hb⟩
  case round =>
    obtain ⟨i, s, rfl, hi, hQi, hEi, hbi⟩ := hrel
    by_cases hlt : i < eld
    · have hltI : (i : Int) < eld := by omega
      have hput : (s.put : Nat) ≤ 799999 := by have := hEi.out.put; omega
      have fin : ∀ x : Int, Calls Try.prog 8 #[.pointer (some ⟨q, 0, none⟩), .int .i64 i, .int .i64 x] wr fun e w' => e = .returned (.int .i64 0) ∧ ∃ s', QueueAt (fun k => w.heap.size ≤ k) w' q s' ∧ Hid (Elders (1 + (per0 : Int)) (i + 1) s') ∧ Below w.heap.size w w' := fun x =>
        (put_q hQi hput (fun k hk => Nat.le_trans hbi.size hk) i x (by unfold W64; omega)).mono fun e w' ⟨s', hres, hQ', hO⟩ => by
          obtain ⟨he, hE⟩ := hEi.out.step (by omega) hres
          exact ⟨he, s', hQ', hE, hbi.trans (hO.toBelow hbi.size fun k hk => hk)⟩
      have Fin := Lib.hid fin; clear fin
      by_cases hik : i < 20
      · have hikI : (i : Int) < 20 := by omega
        obtain ⟨bl, o, x, rfl, hx⟩ := HI.out i hik
        have hx' := (Keep.refl (fun _ => True) w).trans (keepB' hbi) _ _ _ trivial hx
        go_wp2_with fail
        refine (Fin.out x).mono ?_
        rintro e w3 ⟨rfl, s', hQ3, hE3, hb3⟩
        go_wp2_with fail
        go_roundw
        case rel => exact ⟨i + 1, s', by go_num, by omega, hQ3, hE3, hb3⟩
        case measure => simp [intOf]; omega
      · have hikI : ¬ (i : Int) < 20 := by omega
        go_wp2_with fail
        refine (Fin.out 0).mono ?_
        rintro e w3 ⟨rfl, s', hQ3, hE3, hb3⟩
        go_wp2_with fail
        go_roundw
        case rel => exact ⟨i + 1, s', by go_num, by omega, hQ3, hE3, hb3⟩
        case measure => simp [intOf]; omega
    · obtain rfl : i = eld := by omega
      go_wp2_with fail
      refine (put_q hQi (by have := hEi.out.put; omega) (fun k hk => Nat.le_trans hbi.size hk) 1000 wt (by unfold W64; decide)).mono ?_
      rintro e w2 ⟨s2, hres, hQ2, hO⟩
      have hE1 : Elders (((1 + per0 : Nat)) : Int) i s := by have := hEi.out; push_cast; exact this
      obtain ⟨rfl, hF⟩ := Fair.start hE1 (by omega) hres
      have HF := Lib.hid hF
      have hb2 := hbi.trans (hO.toBelow hbi.size fun k hk => hk)
      clear hF hE1 hres hO hEi hQi hbi hQ hb
      obtain ⟨M, hM⟩ : ∃ M, (1 + per0) * (i + 1) = M := ⟨_, rfl⟩
      have hM200 : M ≤ 200 := by rw [← hM]; exact Nat.le_trans (Nat.mul_le_mul (show 1 + per0 ≤ 10 by omega) (show i + 1 ≤ 20 by omega)) (by decide)
      have hMI : (1 + (per0 : Int)) * ((i : Int) + 1) = M := by rw [← hM]; push_cast; rfl
      have hM2 : (M : Int) ≤ 200 := by omega
      have hM3 : (0 : Int) ≤ M := by omega
      have hM4 : IntKind.i64.wrap (M : Int) = M := IntWalk.i64_in _ (by omega)
      have hiI : (i : Int) ≤ 20 := by omega
      have HM := Lib.hid hM; clear hM
      go_wp2_with fail
      go_loopw [13] (fun iv wr => ∃ (j : Nat) (s : QS), iv = .int .i64 j ∧ 1 ≤ j ∧ j ≤ M + 1 ∧ QueueAt (fun k => w.heap.size ≤ k) wr q s ∧ Hid (Fair (1 + per0) i ⟨1000, wt, i⟩ j s) ∧ Below w.heap.size w wr) (fun iv _ => M + 1 - (intOf iv).toNat)
      case atStart => exact ⟨1, s2, rfl, by omega, by omega, hQ2, HF.out, hb2⟩
      case round =>
        obtain ⟨j, s, rfl, hj1, hjM, hQj, hFj, hbj⟩ := hrel
        by_cases hle : j ≤ M
        · have hleI : (j : Int) ≤ M := by omega
          go_wp2_with fail
          refine (next_q hQj (by have := hFj.out.tak; omega)).mono ?_
          rintro e w5 ⟨s5, hres, hQ5, hO⟩
          obtain ⟨hfk, hfa, -, -⟩ := hQj.facts
          rcases hres with ⟨hL, _⟩ | ⟨x, hx, hmin, rfl, rfl⟩
          · exfalso
            obtain ⟨pre, post, hs, _⟩ := hFj.out.split
            rw [hs] at hL
            simp at hL
          have hb5 := hbj.trans (hO.toBelow hbj.size fun k hk => hk)
          by_cases hx0 : x.key = 1000
          · obtain ⟨xk, xw, xg⟩ := x
            dsimp only at hx0
            subst hx0
            unfold Ent.v
            dsimp only
            clear hx hmin hO hfk hfa
            go_wp2_with fail
            refine (known25 _).mono ?_
            rintro e w6 ⟨rfl, hb6⟩
            go_wp2_with fail
            go_ret
            exact ⟨rfl, (hb5.alloc hb5.size _).trans (hb6.mono (by have := hb5.size; simp; omega))⟩
          · have HH := Lib.hid (hFj.out.take (by omega) hj1 rfl hfk hfa hx hmin hx0)
            obtain ⟨xk, xw, xg⟩ := x
            dsimp only at hx0 HH hQ5
            have hxb : (xk == 1000) = false := by simpa using hx0
            unfold Ent.v
            dsimp only
            clear hx hmin hO hfk hfa hFj hQj
            have hb6' : Below w5.heap.size w5 (w5.alloc (.cells #[.int .i64 xk, .int .i64 xw, .int .i64 xg] 30)) := (Below.refl _ _).alloc (Nat.le_refl _) _
            have hQ6 := hQ5.below hb6'
            have hb6 := hb5.trans (hb6'.mono hb5.size)
            have hj300 : j ≤ 300 := by omega
            have hjI3 : (j : Int) ≤ 300 := by omega
            have hj0I : (0 : Int) ≤ j := by omega
            have fin : ∀ y : Int, Calls Try.prog 8 #[.pointer (some ⟨q, 0, none⟩), .int .i64 (2000 + 2 * (j : Int)), .int .i64 y] (w5.alloc (.cells #[.int .i64 xk, .int .i64 xw, .int .i64 xg] 30)) fun e w' => e = .returned (.int .i64 0) ∧ ∃ s', PutRes (QS.took s xk) (2000 + 2 * (j : Int)) y e s' ∧ QueueAt (fun k => w.heap.size ≤ k) w' q s' ∧ Below w.heap.size w w' := fun y =>
              (put_q hQ6 (by have := HH.out.put; omega) (fun k hk => Nat.le_trans hb6.size hk) (2000 + 2 * (j : Int)) y (by unfold W64; omega)).mono fun e w' ⟨s', hr, hQ', hO'⟩ => by
                have hn := put_new hr (fun x hx e => by have := HH.out.keys x hx; omega) (by have h1 := HH.out.len; have h2 := HH.out.put; omega)
                exact ⟨hn.1, s', hr, hQ', hb6.trans (hO'.toBelow hb6.size fun k hk => hk)⟩
            have Fin := Lib.hid fin; clear fin
            by_cases hk0 : 0 < 20
            · have hkI : (0 : Int) < 20 := by omega
              obtain ⟨r, hr, hrI⟩ : ∃ r : Nat, r < 20 ∧ (j : Int).tmod 20 = r := ⟨j % 20, Nat.mod_lt _ hk0, by rw [Int.tmod_eq_emod_of_nonneg hj0I]; rfl⟩
              obtain ⟨bl, o, y, rfl, hy⟩ := HI.out r hr
              have hy' := (Keep.refl (fun _ => True) w).trans (keepB' hb6) _ _ _ trivial hy
              have hr0 : (0 : Int) ≤ r := by omega
              have hrK : (r : Int) < 20 := by omega
              have hnz : ¬ (20 : Int) = 0 := by omega
              go_wp2_with fail
              refine (Fin.out y).mono ?_
              rintro e w7 ⟨rfl, s7, hres7, hQ7, hb7⟩
              go_wp2_with fail
              refine (put_q hQ7 (by have h1 := HH.out.put; have h2 := hres7.put_le; omega) (fun k hk => Nat.le_trans hb7.size hk) (2001 + 2 * (j : Int)) (-9223372036854775807) (by unfold W64; omega)).mono ?_
              rintro e w8 ⟨s8, hres8, hQ8, hO8⟩
              obtain ⟨-, rfl, hF8⟩ := HH.out.puts (by omega) (by omega) hres7 hres8
              have hb8 := hb7.trans (hO8.toBelow hb7.size fun k hk => hk)
              clear hO8 hres8
              go_wp2_with fail
              go_roundw
              case rel => exact ⟨j + 1, s8, by go_num, by omega, by omega, hQ8, hF8, hb8⟩
              case measure => simp [intOf]; omega
            · try (exfalso; omega)
              all_goals
                have hkI : ¬ (0 : Int) < 20 := by omega
                go_wp2_with fail
                refine (Fin.out (-5)).mono ?_
                rintro e w7 ⟨rfl, s7, hres7, hQ7, hb7⟩
                go_wp2_with fail
                refine (put_q hQ7 (by have h1 := HH.out.put; have h2 := hres7.put_le; omega) (fun k hk => Nat.le_trans hb7.size hk) (2001 + 2 * (j : Int)) (-9223372036854775807) (by unfold W64; omega)).mono ?_
                rintro e w8 ⟨s8, hres8, hQ8, hO8⟩
                obtain ⟨-, rfl, hF8⟩ := HH.out.puts (by omega) (by omega) hres7 hres8
                have hb8 := hb7.trans (hO8.toBelow hb7.size fun k hk => hk)
                clear hO8 hres8
                go_wp2_with fail
                go_roundw
                case rel => exact ⟨j + 1, s8, by go_num, by omega, by omega, hQ8, hF8, hb8⟩
                case measure => simp [intOf]; omega
        · exact (hFj.out.never (by omega) (by rw [HM.out]; omega)).elim
theorem queueFair_walk {w : World} {a : Option Addr} {n c : Nat} {l : List Int} (pd el wt : Int) (h : IsSl rpI (fun _ => True) w (.slice a n c) l) :
    Calls Try.prog 3 #[.int .i64 pd, .int .i64 el, .int .i64 wt, .slice a n c] w fun e w' => e = .returned (.bool true) ∧ Below w.heap.size w w' := by
  obtain ⟨-, hc, hm, hI⟩ := intsAt h
  by_cases hn : n ≤ 20
  · exact fair_le pd el wt hc hm hI hn
  · exact fair_gt pd el wt hc hm hI (by omega)
end Go.Proofs.Ytplfbdkljnblmaa

namespace Go.Proofs.Ytplfbdkljnblmaa
open Go.RowKit Go.Maps

def QS.gone (s : QS) (k : Int) : QS := { s with L := MapOf.less s.L k }
def dr (p : QS × Nat) (k : Int) : QS × Nat := (p.1.gone k, p.2 + if (findK p.1.L k).isSome then 1 else 0)
theorem less_none {L : List Ent} {k : Int} (h : findK L k = none) : MapOf.less L k = L := by
  unfold MapOf.less
  rw [List.filter_eq_self]
  intro x hx
  have := findK_none h x hx
  simpa using this
theorem QInv.gone {s : QS} {light old : List Ent} (h : QInv s light old) (k : Int) : QInv (s.gone k) light old :=
  have hs : ∀ e ∈ (s.gone k).L, e ∈ s.L := fun e he => (List.mem_filter.1 he).1
  { per := h.per, tak := h.tak, many := h.many, keys := h.keys.sublist (List.Sublist.map _ List.filter_sublist), ages := h.ages.sublist List.filter_sublist
    inl := fun e he => h.inl e (hs e he), ino := fun e he => h.ino e (hs e he), wkl := h.wkl, wko := h.wko, last := fun e he => h.last e (hs e he), lenl := h.lenl, leno := h.leno }

theorem dr_le (s : QS) (l : List Int) : ∀ n, (l.foldl dr (s, n)).2 ≤ n + l.length := by
  induction l generalizing s with
  | nil => intro n; simp
  | cons k l ih => intro n; simp only [List.foldl_cons, List.length_cons, dr]; have := ih (s.gone k) (n + if (findK s.L k).isSome then 1 else 0); split at this <;> rename_i h <;> simp [h] at * <;> omega

set_option maxRecDepth 100000 in
set_option maxHeartbeats 4000000 in
theorem drop_q {F : Nat → Prop} {w : World} {q : Nat} {s : QS} (h : QueueAt F w q s) {a : Option Addr} {c : Nat} {l : List Int} (hl : l.length ≤ 100000) (hcell : ∀ j (hj : j < l.length), ∃ bl o, a = some ⟨bl, o, none⟩ ∧ w.cell? ⟨bl, o + j, none⟩ = some (.int .i64 l[j]) ∧ ¬ F bl) (hW : ∀ k ∈ l, W64 k) :
    Calls Try.prog 11 #[.pointer (some ⟨q, 0, none⟩), .slice a l.length c] w fun e w' => e = .returned (.int .i64 (l.foldl dr (s, 0)).2) ∧ QueueAt F w' q (l.foldl dr (s, 0)).1 ∧ Off F w w' := by
  obtain ⟨n, hn⟩ : ∃ n, l.length = n := ⟨_, rfl⟩
  rw [hn] at hl ⊢
  have Hn := Lib.hid hn; clear hn
  have Hcell := Lib.hid hcell; clear hcell
  go_enter Try.func11, Try.ntmps11
  go_wp2_with fail
  go_loopw [5, 14] (fun nv jv wr => ∃ j : Nat, jv = .int .i64 j ∧ j ≤ n ∧ nv = .int .i64 ((l.take j).foldl dr (s, 0)).2 ∧ QueueAt F wr q ((l.take j).foldl dr (s, 0)).1 ∧ Off F w wr) (fun _ jv _ => n - (intOf jv).toNat)
  case atStart => exact ⟨0, rfl, by omega, rfl, h, Off.refl _ _⟩
  case round =>
    obtain ⟨j, rfl, hj, rfl, hQ, hO⟩ := hrel
    by_cases hlt : j < n
    · have hltI : (j : Int) < n := by omega
      obtain ⟨bl, o, rfl, hc, hnF⟩ := Hcell.out j (by rw [Hn.out]; exact hlt)
      have hc' : wr.cell? ⟨bl, o + j, none⟩ = some (.int .i64 (l[j]'(by rw [Hn.out]; exact hlt))) := (World.cell?_of_block (hO.block bl (Keep.lt hc) hnF)).trans hc
      have hkW : W64 (l[j]'(by rw [Hn.out]; exact hlt)) := hW _ (List.getElem_mem _)
      have htk : (l.take (j + 1)).foldl dr (s, 0) = dr ((l.take j).foldl dr (s, 0)) (l[j]'(by rw [Hn.out]; exact hlt)) := by
        rw [List.take_succ_eq_append_getElem (by rw [Hn.out]; exact hlt), List.foldl_append]; rfl
      have hle : ((l.take j).foldl dr (s, 0)).2 ≤ 100000 := by have := dr_le s (l.take j) 0; simp at this; omega
      obtain ⟨k, hk⟩ : ∃ k, l[j]'(by rw [Hn.out]; exact hlt) = k := ⟨_, rfl⟩
      obtain ⟨p, hp⟩ : ∃ p, (l.take j).foldl dr (s, 0) = p := ⟨_, rfl⟩
      rw [hk] at hc' hkW htk
      rw [hp] at hQ htk hle ⊢
      have Htk := Lib.hid htk; clear htk hk hp hc
      obtain ⟨s1, n1⟩ := p
      dsimp only at hQ hle Htk ⊢
      obtain ⟨lv, ov, m, nn, light, old, hM⟩ := hQ
      have hlk := hM.mp.look hkW
      have c7 : wr.cell? ⟨q, 7, none⟩ = some (.map (some m)) := hM.blk.cell rfl
      have hql := hM.blk.lt
      obtain ⟨y, hy⟩ : ∃ y, (findK s1.L k).getD Hp.z0 = y := ⟨_, rfl⟩
      obtain ⟨ok, hok⟩ : ∃ ok, (findK s1.L k).isSome = ok := ⟨_, rfl⟩
      rw [hy, hok] at hlk
      have Hok := Lib.hid hok
      clear hy hok
      obtain ⟨yk, yw, yg⟩ := y
      unfold Ent.v at hlk
      dsimp only at hlk
      have hb : Below wr.heap.size wr (wr.alloc (.cells #[.int .i64 yk, .int .i64 yw, .int .i64 yg] 30)) := (Below.refl _ _).alloc (Nat.le_refl _) _
      have hM2 := hM.off (Off.of_below (fun _ => False) hb) fun _ _ h => h
      have hO2 := hO.below hb
      cases ok
      · have hno : findK s1.L k = none := by
          have h := Hok.out
          cases hf : findK s1.L k with
          | none => rfl
          | some e => rw [hf] at h; cases h
        have hs : s1.gone k = s1 := by unfold QS.gone; rw [less_none hno]
        have HE : Hid (dr (s1, n1) k = (s1, n1)) := by show _ = _; unfold dr; dsimp only; rw [hs, Hok.out]; rfl
        clear hno hs
        go_wp2_with fail
        go_roundw
        case rel => exact ⟨j + 1, by go_num, by omega, by rw [Htk.out, HE.out], by rw [Htk.out, HE.out]; exact ⟨_, _, _, _, _, _, hM2⟩, hO2⟩
        case measure => simp [intOf]; omega
      · have HE : Hid (dr (s1, n1) k = (s1.gone k, n1 + 1)) := by show _ = _; unfold dr; dsimp only; rw [Hok.out]; rfl
        obtain ⟨w4, hrun, hmap, hg⟩ := hM2.mp.drop hM2.inv.keys hkW 0
        have hn1 : (n1 : Int) ≤ 100000 := by omega
        have hn0 : (0 : Int) ≤ n1 := by omega
        go_wp2_with fail
        have hO4 : Off (fun k => k = m) (wr.alloc (.cells #[.int .i64 yk, .int .i64 yw, .int .i64 yg] 30)) w4 := (Off.refl _ _).grown hg fun k e => by cases e; rfl
        have hM5 : QMem F w4 q (s1.gone k) lv ov m nn light old :=
          { hM2 with
            inv := hM2.inv.gone k
            blk := hO4.blk hM2.blk (Ne.symm hM2.mq)
            rl := hM2.rl.off hO4 (fun g hg e => hM2.lm (by rw [hg, e]))
            ro := hM2.ro.off hO4 (fun g hg e => hM2.om (by rw [hg, e]))
            mp := hmap }
        have hO5 : Off F w w4 := hO2.grown hg fun k e => by cases e; exact hM2.fm
        clear hrun hg hmap
        go_roundw
        case rel => exact ⟨j + 1, by go_num, by omega, by rw [Htk.out, HE.out]; push_cast; rfl, by rw [Htk.out, HE.out]; exact ⟨_, _, _, _, _, _, hM5⟩, hO5⟩
        case measure => simp [intOf]; omega
    · obtain rfl : j = n := by omega
      have he : l.take j = l := List.take_of_length_le (by rw [Hn.out]; omega)
      rw [he] at hQ ⊢
      go_wp2_with fail
      go_ret
      exact ⟨rfl, hQ, hO⟩
end Go.Proofs.Ytplfbdkljnblmaa

