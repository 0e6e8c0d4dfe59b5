/-
  The law KindTexts, stepped through, where every name has at most 1048576 bytes.
-/
import Derived.Test.YtejpgifofkiofaaParts
namespace Go.Proofs.Ytejpgifofkiofaa
open Go.RowKit

theorem IsSl.take {α : Type} {r : Rp α} {F : Nat → Prop} {w : World} {a : Option Addr} {n c : Nat} {l : List α} (h : IsSl r F w (.slice a n c) l) (k : Nat) (hk : k ≤ n) : IsSl r F w (.slice a k c) (l.take k) := by
  obtain ⟨a', c', bl, off, X, hv, hl, ha, h1, h2⟩ := h
  simp only [Value.slice.injEq] at hv
  obtain ⟨rfl, rfl, rfl⟩ := hv
  have hk' : (l.take k).length = k := by simp; omega
  refine ⟨a, c, bl, off, X, by rw [hk'], by omega, fun h => ha (by omega), fun i j u hi hu => h1 i j u (by omega) hu, fun i hi => ?_⟩
  have := h2 i (by omega)
  simpa using this

theorem bytes_eq {s s' : ByteArray} (h : s.data.toList = s'.data.toList) : s = s' := by
  cases s; cases s'; simp at h; simpa using Array.toList_inj.1 (by simpa using h)

set_option maxRecDepth 100000 in
set_option maxHeartbeats 4000000 in
theorem kindTexts_walk {w : World} {s b : Value} {na : Option Addr} {nn nc : Nat} {t : Ty} {names : List ByteArray} (ht : IsTy (fun _ => True) w s b t) (hn : IsSl rpStr (fun _ => True) w (.slice na nn nc) names) (hcap : nn ≤ nc) (hM : ∀ s ∈ names, s.size ≤ 1048576) :
    Calls Try.prog 6 #[.agg #[s, b], .slice na nn nc] w fun e w' => e = .returned (.bool true) ∧ Below w.heap.size w w' := by
  obtain ⟨a, c, rfl, rfl⟩ := ht.shape
  have Ht := Lib.hid ht; clear ht
  have hnn : names.length = nn := by obtain ⟨_, _, h⟩ := isSl_shape hn; simp only [Value.slice.injEq] at h; exact h.2.1.symm
  have Hnm := Lib.hid (show names.length ≤ maxLen by obtain ⟨_, _, _, _, _, _, h, _⟩ := hn; exact h.1)
  rw [hnn] at Hnm
  obtain ⟨k, hk⟩ : ∃ k, min nn 20 = k := ⟨_, rfl⟩
  have Hn := Lib.hid (hn.take k (by omega))
  have Hk := Lib.hid (show (names.take k).length = k by simp; omega)
  have HM := Lib.hid (show ∀ s ∈ names.take k, s.size ≤ 1048576 from fun s hs => hM s (List.mem_of_mem_take hs))
  have Hcap := Lib.hid (show (min (nn : Int) 20).toNat = k by omega)
  clear hM hn hnn hk
  obtain ⟨l2, hl2⟩ : ∃ l2, t.args.length = l2 := ⟨_, rfl⟩
  obtain ⟨b2, hb2⟩ : ∃ b2, t.base = b2 := ⟨_, rfl⟩
  rw [hl2, hb2] at Ht ⊢
  have Hl2 := Lib.hid hl2
  have Hb2 := Lib.hid hb2
  clear hl2 hb2
  go_enter Try.func6, Try.ntmps6
  go_wp2_with fail
  rw [Hcap.out]
  have B1 := (Below.refl w.heap.size w).alloc (Nat.le_refl _) (.cells #[.slice a l2 c, .int .i64 b2] 26)
  have B2 := B1.alloc (by simp) (.cells #[.slice a l2 c, .int .i64 b2] 26)
  have x2 := (Blk.new w #[.slice a l2 c, .int .i64 b2] 26 rfl).alloc (.cells #[.slice a l2 c, .int .i64 b2] 26)
  have H2 := Lib.hid (Ht.out.bel B2)
  refine (few04 (isSl_one (Blk.new _ _ _ (by simp)) H2.out) (by simp)).mono ?_
  rintro e w3 ⟨r, hr, rfl, hb3⟩
  have B3 := B2.trans (hb3.mono (by simp; omega))
  have x3 := x2.below (hb3.mono (by simp))
  have H3 := Lib.hid (H2.out.bel hb3)
  cases r
  · clear hr
    go_wp2_with fail
    refine (known04 w3).mono ?_
    rintro e w4 ⟨rfl, hb4⟩
    go_wp2_with fail
    go_ret
    exact ⟨rfl, B3.trans (hb4.mono B3.size)⟩
  have Hr := Lib.hid (show t.size ≤ 100 ∧ t.depth ≤ 70 by have := yes_of hr; simpa using this)
  clear hr hb3
  have c0 : w3.cell? ⟨w.heap.size, 0, none⟩ = some (.slice a l2 c) := x3.cell rfl
  have c1 : w3.cell? ⟨w.heap.size, 1, none⟩ = some (.int .i64 b2) := x3.cell rfl
  go_wp2_with fail
  refine (to_any H3.out w3 (by have := Hr.out; omega) (Keep.refl _ _)).mono ?_
  intro e w4 h
  obtain ⟨s4, b4, rfl, h4, hb4⟩ := h
  obtain ⟨a4, c4, rfl, rfl⟩ := h4.shape
  rw [Hl2.out, Hb2.out] at h4 ⊢
  have y4 := Lib.hid (h4.weaken (F' := fun _ => True) fun _ _ _ => trivial); clear h4
  have H4 := Lib.hid (H3.out.bel hb4)
  have B4 := B3.trans (hb4.mono B3.size)
  have x4 := x3.below hb4
  have N4 := Lib.hid (Hn.out.keep ((Keep.refl _ _).below B4))
  clear hb4 B3 x3 c0 c1 B1 B2 x2 H3 H2 Ht Hn
  go_wp2_with fail
  refine (Text_k y4.out N4.out HM.out (by have := Hr.out; omega)).mono ?_
  intro e w5 h
  have hb5 : Below w4.heap.size w4 w5 := by rcases h with ⟨_, _, _, _, h⟩ | ⟨_, _, h⟩ <;> exact h
  have B5 := B4.trans (hb5.mono B4.size)
  have x5 := x4.below hb5
  have H5 := Lib.hid (H4.out.bel hb5)
  have N5 := Lib.hid (N4.out.keep ((Keep.refl _ _).below hb5))
  clear x4 H4 B4 N4 y4
  have c0 : w5.cell? ⟨w.heap.size, 0, none⟩ = some (.slice a l2 c) := x5.cell rfl
  have c1 : w5.cell? ⟨w.heap.size, 1, none⟩ = some (.int .i64 b2) := x5.cell rfl
  rcases h with ⟨hr, s5, rfl, hs5, _⟩ | ⟨hr, rfl, _⟩
  · have Hs := Lib.hid hs5; clear hs5
    have Hq := Lib.hid hr; clear hr
    go_wp2_with fail
    refine (right_r H5.out k).mono ?_
    intro e w6 h
    obtain ⟨r, Hq2, rfl, hb6⟩ := of_retB h
    clear h
    obtain rfl : r = true := Hq2.out.2 (by have := Hq.out; rwa [Hk.out] at this)
    have B6 := B5.trans (hb6.mono B5.size)
    have x6 := x5.below hb6
    have H6 := Lib.hid (H5.out.bel hb6)
    have N6 := Lib.hid (N5.out.keep ((Keep.refl _ _).below hb6))
    clear x5 H5 B5 N5 c0 c1 hb6 hb5 Hq2
    go_wp2_with fail
    refine (known04 w6).mono ?_
    rintro e w7 ⟨rfl, hb7⟩
    have B7 := B6.trans (hb7.mono B6.size)
    have x7 := x6.below hb7
    have H7 := Lib.hid (H6.out.bel hb7)
    have N7 := Lib.hid (N6.out.keep ((Keep.refl _ _).below hb7))
    clear x6 H6 B6 N6 hb7
    have c0 : w7.cell? ⟨w.heap.size, 0, none⟩ = some (.slice a l2 c) := x7.cell rfl
    have c1 : w7.cell? ⟨w.heap.size, 1, none⟩ = some (.int .i64 b2) := x7.cell rfl
    go_wp2_with fail
    refine (text_r H7.out N7.out HM.out w7 (by have := Hr.out; omega) Hq.out.2.2 (Keep.refl _ _) (Keep.refl _ _)).mono ?_
    rintro e w8 ⟨s8, rfl, hs8, hb8⟩
    obtain rfl : s5 = s8 := bytes_eq (Hs.out.trans hs8.symm)
    clear hs8
    go_wp2_with fail
    go_ret
    exact ⟨rfl, B7.trans (hb8.mono B7.size)⟩
  · have Hq := Lib.hid hr; clear hr
    go_wp2_with fail
    refine (right_r H5.out k).mono ?_
    intro e w6 h
    obtain ⟨r, Hq2, rfl, hb6⟩ := of_retB h
    clear h
    obtain rfl : r = false := Bool.eq_false_iff.2 fun h => Hq.out (by have := Hq2.out.1 h; rwa [Hk.out])
    have B6 := B5.trans (hb6.mono B5.size)
    clear x5 H5 B5 N5 c0 c1 hb6 hb5 Hq2
    go_wp2_with fail
    refine (known04 w6).mono ?_
    rintro e w7 ⟨rfl, hb7⟩
    have B7 := B6.trans (hb7.mono B6.size)
    go_wp2_with fail
    go_ret
    exact ⟨rfl, B7⟩
end Go.Proofs.Ytejpgifofkiofaa
