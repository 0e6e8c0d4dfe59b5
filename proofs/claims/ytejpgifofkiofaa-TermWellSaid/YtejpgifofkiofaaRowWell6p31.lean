/-
  Whether a world may be: the program's RightWorld and the document's.
-/
import Derived.Test.YtejpgifofkiofaaRowWell6p21
import Derived.Test.YtejpgifofkiofaaRowWell6p6
set_option linter.unusedVariables false
set_option linter.unusedSimpArgs false
namespace Go.Proofs.Ytejpgifofkiofaa
open Go.RowKit

def RightTy (bases : Int) (t : Ty) : Prop := t.size ≤ 1000 ∧ t.depth ≤ 60 ∧ Ty.Low bases t

set_option maxRecDepth 100000 in
theorem rightWorld1_k {F : Nat → Prop} {w : World} {s d : Value} {t : Ty} {b : Int} {B : Nat} (ht : IsTy F w s d t) (hz : t.size ≤ 400000) (hB : w.cell? ⟨B, 0, none⟩ = some (.int .i64 b)) :
    Calls Try.prog 111 #[.agg #[s, d], .pointer (some ⟨B, 0, none⟩)] w (RetB (¬ RightTy b t) w) := by
  have Hr := Lib.hid fun (w' : World) (hb : Below w.heap.size w w') => right_k (ht.bel hb) b (by omega)
  obtain ⟨a, c, rfl, rfl⟩ := ht.shape
  clear ht
  obtain ⟨n1, hn1⟩ : ∃ n, t.args.length = n := ⟨_, rfl⟩
  obtain ⟨n2, hn2⟩ : ∃ n, t.base = n := ⟨_, rfl⟩
  rw [hn1, hn2] at Hr ⊢
  clear hn1 hn2
  have hl := Keep.lt hB
  go_enter Try.func111, Try.ntmps111
  go_wp2_with fail
  have hb1 : Below w.heap.size w (w.alloc (.cells #[.slice a n1 c, .int .i64 n2] 40)) := (Below.refl _ _).alloc (Nat.le_refl _) _
  refine (Hr.out _ hb1).mono ?_
  intro e w2 h
  obtain ⟨r, Hq, rfl, hb2⟩ := of_retB' h
  clear h
  go_wp2_with fail
  go_ret
  exact ⟨_, by have := Hq.out; unfold RightTy; cases r <;> simp_all, rfl, hb1.trans (hb2.mono hb1.size)⟩

set_option maxRecDepth 100000 in
theorem indexFunc_k {G F : Nat → Prop} {w : World} {v : Value} {l : List Ty} {b : Int} {B : Nat} (h : IsSl2 rpTy G F w v l) (hz : ∀ t ∈ l, t.size ≤ 400000) (hB : w.cell? ⟨B, 0, none⟩ = some (.int .i64 b)) :
    Calls Try.prog 124 #[v, .func (.func 111) #[] #[.pointer (some ⟨B, 0, none⟩)]] w fun e w' => ∃ i : Int, Hid (0 ≤ i ↔ ∃ t ∈ l, ¬ RightTy b t) ∧ e = .returned (.int .i64 i) ∧ Below w.heap.size w w' := by
  obtain ⟨a, c, rfl⟩ := h.shape
  have Hat := Lib.hid (sl_at h)
  have hl : (l.length : Int) ≤ 9223372036854775807 := by obtain ⟨_, _, _, _, _, _, hm, _⟩ := h; unfold maxLen at hm; omega
  clear h
  have Hz := Lib.hid hz; clear hz
  go_enter Try.func124, Try.ntmps124
  go_wp2_with fail
  go_loopw [5, 8] (fun _ i wr => ∃ k : Nat, i = .int .i64 k ∧ k ≤ l.length ∧ Hid (∀ m (h : m < l.length), m < k → RightTy b l[m]) ∧ Below w.heap.size w wr) (fun _ i _ => l.length - (intOf i).toNat)
  case atStart => exact ⟨0, rfl, by omega, fun m _ h => absurd h (by omega), Below.refl _ _⟩
  case round =>
    obtain ⟨k, rfl, hk, hrel, hb⟩ := hrel
    by_cases hlt : k < l.length
    · obtain ⟨bl, off, A, N, C, Bb, rfl, _, e1, e2, hT⟩ := Hat.out k hlt
      have hkx : Keep (fun _ => True) w wr := (Keep.refl _ _).below hb
      have e1 := hkx _ _ _ trivial e1
      have e2 := hkx _ _ _ trivial e2
      have HT := Lib.hid (hT.bel hb); clear hT
      have i1 : (k : Int) < (l.length : Int) := by omega
      have HB := Lib.hid (hkx _ _ _ trivial hB)
      clear hkx
      go_wp2_with fail
      refine (rightWorld1_k HT.out (Hz.out _ (List.getElem_mem hlt)) HB.out).mono ?_
      intro e w2 h
      obtain ⟨r, Hq, rfl, hb2⟩ := of_retB' h
      clear h e1 e2
      cases r
      · have Hq2 := Lib.hid (no_of Hq.out)
        go_wp2_with fail
        go_roundw
        case rel => exact ⟨k + 1, by go_num, by omega, fun m h hm => by
          by_cases hmk : m < k
          · exact hrel.out m h hmk
          · obtain rfl : m = k := by omega
            exact Classical.not_not.1 Hq2.out, hb.trans (hb2.mono hb.size)⟩
        case measure => simp [intOf]; omega
      · have Hq2 := Lib.hid (yes_of Hq.out)
        go_wp2_with fail
        go_ret
        exact ⟨_, ⟨fun _ => ⟨_, List.getElem_mem hlt, Hq2.out⟩, fun _ => by omega⟩, rfl, hb.trans (hb2.mono hb.size)⟩
    · go_wp2_with fail
      go_ret
      refine ⟨_, ⟨fun h => absurd h (by omega), fun ⟨t, ht, hn⟩ => ?_⟩, rfl, hb⟩
      obtain ⟨m, hm, rfl⟩ := List.getElem_of_mem ht
      exact absurd (hrel.out m hm (by omega)) hn

set_option maxRecDepth 100000 in
theorem containsFunc_k {G F : Nat → Prop} {w : World} {v : Value} {l : List Ty} {b : Int} {B : Nat} (h : IsSl2 rpTy G F w v l) (hz : ∀ t ∈ l, t.size ≤ 400000) (hB : w.cell? ⟨B, 0, none⟩ = some (.int .i64 b)) :
    Calls Try.prog 110 #[v, .func (.func 111) #[] #[.pointer (some ⟨B, 0, none⟩)]] w (RetB (∃ t ∈ l, ¬ RightTy b t) w) := by
  have Hi := Lib.hid (indexFunc_k h hz hB)
  obtain ⟨a, c, rfl⟩ := h.shape
  clear h hz hB
  go_enter Try.func110, Try.ntmps110
  go_wp2_with fail
  refine Hi.out.mono ?_
  rintro e w1 ⟨i, hi, rfl, hb⟩
  go_wp2_with fail
  go_ret
  exact ⟨_, by rw [← hi.out]; simp, rfl, hb⟩

def RightWd (b : Int) (C M : List Ty) : Prop := C.length + M.length ≤ 1000 ∧ ∀ t ∈ C ++ M, RightTy b t

set_option maxRecDepth 100000 in
set_option maxHeartbeats 1000000 in
theorem RightWorld_k {F : Nat → Prop} {w : World} {b : Int} {cv mv : Value} {C M : List Ty} (hc : IsSl rpTy F w cv C) (hm : IsSl rpTy F w mv M) (hz : ∀ t ∈ C ++ M, t.size ≤ 400000) :
    Calls Try.prog 65 #[.agg #[.int .i64 b, cv, mv]] w (RetB (RightWd b C M) w) := by
  obtain ⟨ca, cc, rfl⟩ := hc.shape
  obtain ⟨ma, mc, rfl⟩ := hm.shape
  have hlc : (C.length : Int) ≤ 9223372036854775807 := by obtain ⟨_, _, _, _, _, _, h, _⟩ := hc; unfold maxLen at h; omega
  have hlm : (M.length : Int) ≤ 9223372036854775807 := by obtain ⟨_, _, _, _, _, _, h, _⟩ := hm; unfold maxLen at h; omega
  have Hc := Lib.hid hc; have Hm := Lib.hid hm; have Hz := Lib.hid hz
  clear hc hm hz
  by_cases g1 : (1000 : Int) < (C.length : Int)
  · skip
    go_enter Try.func65, Try.ntmps65
    go_wp2_with fail
    go_ret
    exact ⟨false, by unfold RightWd; simp; omega, rfl, (Below.refl _ _).alloc (Nat.le_refl _) _⟩
  have hq : IntKind.i64.wrap (1000 - (C.length : Int)) = 1000 - (C.length : Int) := IntWalk.i64_in _ (by omega)
  by_cases g2 : 1000 - (C.length : Int) < (M.length : Int)
  · skip
    go_enter Try.func65, Try.ntmps65
    go_wp2_with fail
    go_ret
    exact ⟨false, by unfold RightWd; simp; omega, rfl, (Below.refl _ _).alloc (Nat.le_refl _) _⟩
  go_enter Try.func65, Try.ntmps65
  go_wp2_with fail
  obtain ⟨w2, hw2⟩ : ∃ w2, (w.alloc (.cells #[.int .i64 b, .slice ca C.length cc, .slice ma M.length mc] 90)).alloc (.cells #[.slice ca C.length cc, .slice ma M.length mc] 33) = w2 := ⟨_, rfl⟩
  have B2 : Below w.heap.size w w2 := by rw [← hw2]; exact ((Below.refl _ _).alloc (Nat.le_refl _) _).alloc (by simp) _
  have x0 : Blk w2 w.heap.size #[.int .i64 b, .slice ca C.length cc, .slice ma M.length mc] 90 := by rw [← hw2]; exact (Blk.new _ _ _ rfl).alloc _
  have x1 : Blk w2 (w.heap.size + 1) #[.slice ca C.length cc, .slice ma M.length mc] 33 := by rw [← hw2]; exact Blk.new _ _ _ (by simp)
  rw [hw2]
  clear hw2
  refine (concat_any2 x1 (IsSl2.of (Hc.out.bel B2)) (IsSl2.of (Hm.out.bel B2)) (by omega)).mono ?_
  rintro e w3 ⟨a3, c3, rfl, hT, hb3⟩
  have HT := Lib.hid hT; clear hT
  have x0' := x0.below hb3
  have B3 := B2.trans (hb3.mono B2.size)
  obtain ⟨Y, hY⟩ : ∃ Y, C ++ M = Y := ⟨_, rfl⟩
  have HY := Lib.hid hY
  rw [hY] at HT Hz ⊢
  clear hY
  go_wp2_with fail
  refine (containsFunc_k HT.out Hz.out (x0'.cell rfl)).mono ?_
  intro e w4 h
  obtain ⟨r, Hq, rfl, hb4⟩ := of_retB' h
  clear h
  go_wp2_with fail
  go_ret
  refine ⟨_, ?_, rfl, B3.trans (hb4.mono B3.size)⟩
  have h2 : (r = true ↔ ∃ t ∈ Y, ¬ RightTy b t) := Hq.out
  have h3 : C.length + M.length ≤ 1000 := by omega
  unfold RightWd
  rw [HY.out]
  cases r
  · simp only [Bool.not_false, true_iff]
    refine ⟨h3, fun t ht => Classical.not_not.1 fun hn => ?_⟩
    exact absurd (h2.2 ⟨t, ht, hn⟩) (by simp)
  · simp only [Bool.not_true, Bool.false_eq_true, false_iff]
    rintro ⟨_, h⟩
    obtain ⟨t, ht, hn⟩ := h2.1 rfl
    exact hn (h t ht)
end Go.Proofs.Ytejpgifofkiofaa

