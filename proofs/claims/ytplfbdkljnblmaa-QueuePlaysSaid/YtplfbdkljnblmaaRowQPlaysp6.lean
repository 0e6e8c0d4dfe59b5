/-
  The law QueuePlays walked.
-/
import Derived.Test.YtplfbdkljnblmaaRowQPlaysp5
import Derived.Test.YtplfbdkljnblmaaRowQPlaysp3
import Derived.Deep.CutBlock
set_option linter.unusedVariables false
set_option linter.unusedSimpArgs false
namespace Go.Proofs.Ytplfbdkljnblmaa
open Go.RowKit Go.Maps

theorem acts_get {w : World} {a : Option Addr} {n c : Nat} {acts : List Act25} (h : IsSl rpA (fun _ => True) w (.slice a n c) acts) (hok : ∀ x ∈ acts, x.ok) : n = acts.length ∧ ∀ i (hi : i < acts.length), ∃ bl o pa pc, a = some ⟨bl, o, none⟩ ∧
    (w.cell? ⟨bl, o + i * 4, none⟩ = some (.int .i64 acts[i].kind) ∧ w.cell? ⟨bl, o + i * 4 + 1, none⟩ = some (.int .i64 acts[i].key) ∧ w.cell? ⟨bl, o + i * 4 + 2, none⟩ = some (.int .i64 acts[i].weight) ∧ w.cell? ⟨bl, o + i * 4 + 3, none⟩ = some (.slice pa acts[i].keys.length pc)) ∧
    IsSl rpI (fun _ => True) w (.slice pa acts[i].keys.length pc) acts[i].keys ∧ acts[i].ok := by
  obtain ⟨a', c', bl, off, X, hv, hm, ha, h1, h2⟩ := h
  injection hv with q1 q2 q3
  subst q1 q2 q3
  refine ⟨rfl, fun i hi => ?_⟩
  obtain ⟨pa, pc, hx, hs⟩ := h2 i hi
  refine ⟨bl, off, pa, pc, (ha (by omega)).1, ⟨?_, ?_, ?_, ?_⟩, hs, hok _ (List.getElem_mem hi)⟩
  · have := h1 i 0 _ hi (by rw [hx]; rfl); simpa [rpA] using this
  · have := h1 i 1 _ hi (by rw [hx]; rfl); simpa [rpA] using this
  · have := h1 i 2 _ hi (by rw [hx]; rfl); simpa [rpA] using this
  · have := h1 i 3 _ hi (by rw [hx]; rfl); simpa [rpA] using this

theorem intsL {w : World} {a : Option Addr} {n c : Nat} {l : List Int} (h : IsSl rpI (fun _ => True) w (.slice a n c) l) : n = l.length ∧ n ≤ c ∧ n ≤ maxLen ∧ ∀ i (hi : i < l.length), ∃ bl o, a = some ⟨bl, o, none⟩ ∧ w.cell? ⟨bl, o + i, none⟩ = some (.int .i64 l[i]) := by
  obtain ⟨a', c', bl, off, X, hv, hm, ha, h1, h2⟩ := h
  injection hv with q1 q2 q3
  subst q1 q2 q3
  refine ⟨rfl, hm.2, hm.1, fun i hi => ⟨bl, off, (ha (by omega)).1, ?_⟩⟩
  have hx : X i = [.int .i64 l[i]] := h2 i hi
  have := h1 i 0 (.int .i64 l[i]) hi (by rw [hx]; rfl)
  simpa [rpI] using this

set_option maxRecDepth 100000 in
set_option maxHeartbeats 8000000 in
theorem plays_bad {w : World} {a : Option Addr} {n c : Nat} (pd : Int) (hb : pd < 1 ∨ 1000 < pd) :
    Calls Try.prog 5 #[.int .i64 pd, .slice a n c] w fun e w' => e = .returned (.bool true) ∧ Below w.heap.size w w' := by
  have hcon := new_bad w pd hb
  by_cases h1 : pd < 1
  · clear hb
    go_enter Try.func5, Try.ntmps5
    go_wp2_with fail
    refine hcon.mono ?_
    rintro e w1 ⟨rfl, hb1⟩
    go_wp2_with fail
    refine (known25 _).mono ?_
    rintro e w2 ⟨rfl, hb2⟩
    have hb3 := hb1.trans (hb2.mono hb1.size)
    go_wp2_with fail
    go_ret
    exact ⟨rfl, hb3⟩
  · have h2 : pd > 1000 := by omega
    clear hb
    go_enter Try.func5, Try.ntmps5
    go_wp2_with fail
    refine hcon.mono ?_
    rintro e w1 ⟨rfl, hb1⟩
    go_wp2_with fail
    refine (known25 _).mono ?_
    rintro e w2 ⟨rfl, hb2⟩
    have hb3 := hb1.trans (hb2.mono hb1.size)
    go_wp2_with fail
    go_ret
    exact ⟨rfl, hb3⟩

set_option maxRecDepth 100000 in
set_option maxHeartbeats 40000000 in
theorem plays_walk {w : World} {a : Option Addr} {n c : Nat} (pd : Int) {acts : List Act25} (h : IsSl rpA (fun _ => True) w (.slice a n c) acts) (hok : ∀ x ∈ acts, x.ok) (h1 : 1 ≤ pd) (h2 : pd ≤ 1000) :
    Calls Try.prog 5 #[.int .i64 pd, .slice a n c] w fun e w' => e = .returned (.bool true) ∧ Below w.heap.size w w' := by
  obtain ⟨hn, hA⟩ := acts_get h hok
  have HA := Lib.hid hA; have HN := Lib.hid hn
  have hcon := new_q w pd h1 h2
  have n1 : ¬ pd < 1 := by omega
  have n2 : ¬ pd > 1000 := by omega
  clear hA h hn hok
  go_enter Try.func5, Try.ntmps5
  go_wp2_with fail
  refine hcon.mono ?_
  rintro e w1 ⟨q, rfl, hq, hQ, hb1⟩
  obtain ⟨d, hd⟩ : ∃ d, w1.heap.size = d := ⟨_, rfl⟩
  have hQt := hQ.tight
  obtain ⟨w2, hw2⟩ : ∃ w2, w1.alloc (.cells #[.int .i64 pd, .int .i64 0, .int .i64 0, .slice none 0 0] 43) = w2 := ⟨_, rfl⟩
  have hb12 : Below w1.heap.size w1 w2 := by rw [← hw2]; exact (Below.refl _ _).alloc (Nat.le_refl _) _
  have hd2 : Blk w2 d #[.int .i64 pd, .int .i64 0, .int .i64 0, .slice none 0 0] 43 := by rw [← hw2]; exact Blk.new _ _ _ hd.symm
  have HT : Hid (Two (fun k => k < w.heap.size) w2 q d ⟨pd, 0, 0, []⟩ ⟨pd, 0, 0, []⟩) := by
    refine ⟨fun k hk => by have := hb1.size; have := hb12.size; omega, _, fun k => k = d, hQt.below hb12, ⟨.slice none 0 0, { blk := hd2, row := RowR.nil _ _, vd := by simp [Value.ownBlock], fd := rfl, fv := fun g hg => by cases hg }⟩, fun k hk => ⟨by have := hb12.size; have := hk.2; omega, by have := hk.1; omega⟩, fun k hk => ⟨by rw [hk]; exact hd2.lt, by have := hb1.size; omega⟩, fun k hk e => by have := hk.2; omega⟩
  have hb2 := hb1.trans (hb12.mono hb1.size)
  clear hQ hQt hb1 hb12 hd2
  go_wp2_with fail
  try rw [hw2]
  try rw [hd]
  clear hw2 hd
  go_loopw [5, 8] (fun qv iv wr => ∃ (q i : Nat) (s : QS), qv = .pointer (some ⟨q, 0, none⟩) ∧ iv = .int .i64 i ∧ i ≤ 100 ∧ Hid (s.put ≤ i ∧ s.taken ≤ i) ∧ Hid (Two (fun k => k < w.heap.size) wr q d s s) ∧ Below w.heap.size w wr) (fun _ iv _ => 100 - (intOf iv).toNat)
  case atStart => exact ⟨q, 0, _, rfl, rfl, by omega, ⟨Nat.le_refl _, Int.le_refl _⟩, HT, hb2⟩
  case round =>
    clear HT hb2 hq
    obtain ⟨q, i, s, rfl, rfl, hi, hsi, hT, hb⟩ := hrel
    by_cases hlt : i < n ∧ i < 100
    · obtain ⟨hlt1, hlt2⟩ := hlt
      have i1 : (i : Int) < n := by omega
      have i2 : (i : Int) < 100 := by omega
      obtain ⟨bl, o, pa, pc, rfl, ⟨a0, a1, a2, a3⟩, hsl, hok⟩ := HA.out i (by rw [← HN.out]; exact hlt1)
      obtain ⟨x, hx⟩ : ∃ x, acts[i]'(by rw [← HN.out]; exact hlt1) = x := ⟨_, rfl⟩
      rw [hx] at a0 a1 a2 a3 hsl hok
      obtain ⟨kind, key, weight, keys⟩ := x
      dsimp only at a0 a1 a2 a3 hsl
      obtain ⟨-, hkc, hkm, hkeys⟩ := intsL hsl
      obtain ⟨kn, hkn⟩ : ∃ kn, keys.length = kn := ⟨_, rfl⟩
      rw [hkn] at a3 hkc hkm
      have HK := Lib.hid hkeys; have HKn := Lib.hid hkn; have HOK := Lib.hid hok
      have keepB : ∀ {w' : World}, Below w.heap.size w w' → Keep (fun _ => True) w w' := fun hb => (Keep.refl _ _).below hb
      have KB : Hid (∀ w' : World, Below w.heap.size w w' → Keep (fun _ => True) w w') := fun w' hb => keepB hb
      replace a0 := keepB hb _ _ _ trivial a0
      replace a1 := keepB hb _ _ _ trivial a1
      replace a2 := keepB hb _ _ _ trivial a2
      replace a3 := keepB hb _ _ _ trivial a3
      obtain ⟨A, hA⟩ : ∃ A, wr.heap.size = A := ⟨_, rfl⟩
      obtain ⟨w3, hw3⟩ : ∃ w3, wr.alloc (.cells #[.int .i64 kind, .int .i64 key, .int .i64 weight, .slice pa kn pc] 45) = w3 := ⟨_, rfl⟩
      have hb3' : Below wr.heap.size wr w3 := by rw [← hw3]; exact (Below.refl _ _).alloc (Nat.le_refl _) _
      have y3 : Blk w3 A #[.int .i64 kind, .int .i64 key, .int .i64 weight, .slice pa kn pc] 45 := by rw [← hw3]; exact Blk.new _ _ _ hA.symm
      have hT3 : Hid (Two (fun k => k < w.heap.size ∨ k = A) w3 q d s s) := hT.out.grow hb3' fun k hk => by
        have h1 := hb.size; have h2 := hb3'.size; have h3 := y3.lt
        rcases hk with hk | rfl
        · exact ⟨by omega, .inl hk⟩
        · exact ⟨h3, .inr (by omega)⟩
      have hb3 := hb.trans (hb3'.mono hb.size)
      have hAw : w.heap.size ≤ A := by rw [← hA]; exact hb.size
      clear hkeys hkn hok hsl hx keepB hb3' hT
      have c0 : w3.cell? ⟨A, 0, none⟩ = some (.int .i64 kind) := y3.cell rfl
      obtain ⟨r, hr⟩ : ∃ r, (IntKind.u64.wrap kind).tmod 5 = r := ⟨_, rfl⟩
      go_upto_block 2 with fail
      go_cut [5, 10] from 54 to 221 (fun qv kv wc => ∃ (q : Nat) (s : QS), qv = .pointer (some ⟨q, 0, none⟩) ∧ kv = .bool true ∧ Hid (s.put ≤ i + 1 ∧ s.taken ≤ i + 1) ∧ Hid (Two (fun k => k < w.heap.size) wc q d s s) ∧ Below w.heap.size w wc)
      case first =>
        by_cases r0 : r = 0
        · skip
          have c1 : w3.cell? ⟨A, 1, none⟩ = some (.int .i64 key) := y3.cell rfl
          have c2 : w3.cell? ⟨A, 2, none⟩ = some (.int .i64 weight) := y3.cell rfl
          go_wp2_with fail
          refine wp_region_noPanic (wp_region_need (S := fun w' => w'.cell? ⟨A, 1, none⟩ = some (.int .i64 key) ∧ w'.cell? ⟨A, 2, none⟩ = some (.int .i64 weight)) (by kernel_rfl) ?_)
          have hS : (w3.drew).cell? ⟨A, 1, none⟩ = some (.int .i64 key) ∧ (w3.drew).cell? ⟨A, 2, none⟩ = some (.int .i64 weight) := ⟨c1, c2⟩
          refine wpN_take (i := 0) (v := ?v1) rfl (by kernel_rfl) (fun _ _ _ h => h) hS (Or.inl ⟨by rfl, ?hy1⟩) ?hr1
          case hy1 => (intro wS hSw; (try dsimp only at hSw); go_simp; (try with_reducible rfl))
          try simp only [Act.put, List.setIfInBounds_toArray, List.set_cons_zero, List.set_cons_succ, List.getElem_toArray, List.getElem_cons_zero, List.getElem_cons_succ]
          refine wpN_take (i := 1) (v := ?v2) rfl (by kernel_rfl) (fun _ _ _ h => h) hS (Or.inl ⟨by rfl, ?hy2⟩) ?hr2
          case hy2 => (intro wS hSw; (try dsimp only at hSw); go_simp; (try with_reducible rfl))
          try simp only [Act.put, List.setIfInBounds_toArray, List.set_cons_zero, List.set_cons_succ, List.getElem_toArray, List.getElem_cons_zero, List.getElem_cons_succ]
          refine wpN_take (i := 2) (v := ?v3) rfl (by kernel_rfl) (fun _ _ _ h => h) hS (Or.inl ⟨by rfl, ?hy3⟩) ?hr3
          case hy3 => (intro wS hSw; (try dsimp only at hSw); go_simp; (try with_reducible rfl))
          try simp only [Act.put, List.setIfInBounds_toArray, List.set_cons_zero, List.set_cons_succ, List.getElem_toArray, List.getElem_cons_zero, List.getElem_cons_succ]
          refine wpN_take (i := 3) (v := ?v4) rfl (by kernel_rfl) (fun _ _ _ h => h) hS (Or.inl ⟨by rfl, ?hy4⟩) ?hr4
          case hy4 => (intro wS hSw; (try dsimp only at hSw); go_simp; (try with_reducible rfl))
          try simp only [Act.put, List.setIfInBounds_toArray, List.set_cons_zero, List.set_cons_succ, List.getElem_toArray, List.getElem_cons_zero, List.getElem_cons_succ]
          refine wpN_take (i := 4) (v := ?v5) rfl (by kernel_rfl) (fun _ _ _ h => h) hS (Or.inl ⟨by rfl, ?hy5⟩) ?hr5
          case hy5 => (intro wS hSw; (try dsimp only at hSw); go_simp; (try with_reducible rfl))
          try simp only [Act.put, List.setIfInBounds_toArray, List.set_cons_zero, List.set_cons_succ, List.getElem_toArray, List.getElem_cons_zero, List.getElem_cons_succ]
          refine wpN_take (i := 6) (v := ?v6) rfl (by kernel_rfl) (fun _ _ _ h => h) hS (Or.inl ⟨by rfl, ?hy6⟩) ?hr6
          case hy6 => (intro wS hSw; (try dsimp only at hSw); go_simp; (try with_reducible rfl))
          try simp only [Act.put, List.setIfInBounds_toArray, List.set_cons_zero, List.set_cons_succ, List.getElem_toArray, List.getElem_cons_zero, List.getElem_cons_succ]
          refine wpN_take (i := 7) (v := ?v7) rfl (by kernel_rfl) (fun _ _ _ h => h) hS (Or.inl ⟨by rfl, ?hy7⟩) ?hr7
          case hy7 => (intro wS hSw; (try dsimp only at hSw); go_simp; (try with_reducible rfl))
          try simp only [Act.put, List.setIfInBounds_toArray, List.set_cons_zero, List.set_cons_succ, List.getElem_toArray, List.getElem_cons_zero, List.getElem_cons_succ]
          refine wpN_take (i := 8) (v := ?v8) rfl (by kernel_rfl) (fun _ _ _ h => h) hS (Or.inl ⟨by rfl, ?hy8⟩) ?hr8
          case hy8 => (intro wS hSw; (try dsimp only at hSw); go_simp; (try with_reducible rfl))
          try simp only [Act.put, List.setIfInBounds_toArray, List.set_cons_zero, List.set_cons_succ, List.getElem_toArray, List.getElem_cons_zero, List.getElem_cons_succ]
          refine wpN_take (i := 9) (v := ?v9) rfl (by kernel_rfl) (fun _ _ _ h => h) hS (Or.inl ⟨by rfl, ?hy9⟩) ?hr9
          case hy9 => (intro wS hSw; (try dsimp only at hSw); go_simp; (try with_reducible rfl))
          try simp only [Act.put, List.setIfInBounds_toArray, List.set_cons_zero, List.set_cons_succ, List.getElem_toArray, List.getElem_cons_zero, List.getElem_cons_succ]
          refine wpN_take (i := 10) (v := ?v10) rfl (by kernel_rfl) (fun _ _ _ h => h) hS (Or.inl ⟨by rfl, ?hy10⟩) ?hr10
          case hy10 => (intro wS hSw; (try dsimp only at hSw); go_simp; (try with_reducible rfl))
          try simp only [Act.put, List.setIfInBounds_toArray, List.set_cons_zero, List.set_cons_succ, List.getElem_toArray, List.getElem_cons_zero, List.getElem_cons_succ]
          have hd3 : Below w3.heap.size w3 w3.drew := (Below.refl _ _).drew
          have HT4 := Lib.hid (hT3.out.grow hd3 fun k hk => ⟨hT3.out.1 k hk, .inl hk⟩)
          have hb4 := hb3.trans (hd3.mono hb3.size)
          have y4 := y3.below hd3
          obtain ⟨w4, hw4⟩ : ∃ w4, w3.drew = w4 := ⟨_, rfl⟩
          rw [hw4] at HT4 hb4 y4 ⊢
          clear hw4 hT3 hb3 y3 hd3 c0 c1 c2 hS
          refine wpN_step (i := 5) (by kernel_rfl) rfl (fun K hK => ?_)
          go_simp
          refine (two_put HT4.out (by have := hsi.out; omega) key weight HOK.out.1).mono ?_
          rintro e w7 ⟨s7, hres, hT7, hO7⟩
          obtain ⟨⟨code, rfl⟩, hp7, ht7⟩ := put_ret hres
          have y7 := hO7.blk y4 (fun h => h (.inr rfl))
          have hb7 := hb4.trans (hO7.toBelow hb4.size fun k hk => Nat.le_of_not_lt fun h => hk (.inl h))
          have Hres := Lib.hid hres; have HT7 := Lib.hid hT7
          clear hres hT7 hO7
          have hS : (w7).cell? ⟨A, 1, none⟩ = some (.int .i64 key) ∧ (w7).cell? ⟨A, 2, none⟩ = some (.int .i64 weight) := ⟨y7.cell rfl, y7.cell rfl⟩
          refine hK.out _ _ (fun _ => hS) ?_
          clear hK K
          try simp only [Act.put, List.setIfInBounds_toArray, List.set_cons_zero, List.set_cons_succ, List.getElem_toArray, List.getElem_cons_zero, List.getElem_cons_succ]
          refine wpN_step (i := 11) (by kernel_rfl) rfl (fun K hK => ?_)
          go_simp
          refine (two_putR HT7.out HT4.out.sok (by have := hsi.out; omega) key weight).mono ?_
          rintro e w5 ⟨s5, hres, hT5, hO5⟩
          obtain ⟨rfl, rfl⟩ := put_one Hres.out hres
          have y5 := hO5.blk y7 (fun h => h (.inr rfl))
          have hb5 := hb7.trans (hO5.toBelow hb7.size fun k hk => Nat.le_of_not_lt fun h => hk (.inl h))
          have HT5 := Lib.hid (hT5.less (O' := fun k => k < w.heap.size) fun k hk => .inl hk)
          have Hsb : Hid (s7.put ≤ i + 1 ∧ s7.taken ≤ i + 1) := by have := hsi.out; exact ⟨by omega, by omega⟩
          clear hres hT5 hO5 Hres HT7 HT4 y7 y4 hb7 hb4 hp7 ht7
          have hS : (w5).cell? ⟨A, 1, none⟩ = some (.int .i64 key) ∧ (w5).cell? ⟨A, 2, none⟩ = some (.int .i64 weight) := ⟨y5.cell rfl, y5.cell rfl⟩
          refine hK.out _ _ (fun _ => hS) ?_
          clear hK K
          try simp only [Act.put, List.setIfInBounds_toArray, List.set_cons_zero, List.set_cons_succ, List.getElem_toArray, List.getElem_cons_zero, List.getElem_cons_succ]
          refine wpN_pure (i := 12) (v := ?v11) rfl (by kernel_rfl) (fun _ _ _ h => h) (Or.inl ⟨by rfl, ?hy11⟩) ?hr11
          case hy11 => (intro wS hSw; go_simp; (try with_reducible rfl))
          try simp only [Act.put, List.setIfInBounds_toArray, List.set_cons_zero, List.set_cons_succ, List.getElem_toArray, List.getElem_cons_zero, List.getElem_cons_succ]
          refine wpN_pure (i := 13) (v := ?v12) rfl (by kernel_rfl) (fun _ _ _ h => h) (Or.inl ⟨by rfl, ?hy12⟩) ?hr12
          case hy12 => (intro wS hSw; go_simp; (try with_reducible rfl))
          try simp only [Act.put, List.setIfInBounds_toArray, List.set_cons_zero, List.set_cons_succ, List.getElem_toArray, List.getElem_cons_zero, List.getElem_cons_succ]
          refine wpN_done (by kernel_rfl) ?_
          refine NoPanic.normal ?_
          clear hS y5
          go_wp2_with fail
          go_meet
          case rel => exact ⟨q, s7, rfl, rfl, Hsb, HT5, hb5⟩
        · by_cases r1 : r = 1
          · skip
            go_wp2_with fail
            refine (two_next hT3.out (by have := hsi.out; omega)).mono ?_
            rintro e w4 ⟨s4, hres, hT4, hO4⟩
            obtain ⟨⟨x, b, rfl⟩, hp4, ht4⟩ := next_ret hres
            obtain ⟨xk, xw, xg⟩ := x
            unfold Ent.v at hres ⊢
            dsimp only at hres ⊢
            have hb4 := hb3.trans (hO4.toBelow hb3.size fun k hk => Nat.le_of_not_lt fun h => hk (.inl h))
            obtain ⟨X, hX⟩ : ∃ X, w4.heap.size = X := ⟨_, rfl⟩
            obtain ⟨w5, hw5⟩ : ∃ w5, w4.alloc (.cells #[.int .i64 xk, .int .i64 xw, .int .i64 xg] 30) = w5 := ⟨_, rfl⟩
            have hb45 : Below w4.heap.size w4 w5 := by rw [← hw5]; exact (Below.refl _ _).alloc (Nat.le_refl _) _
            have x5 : Blk w5 X #[.int .i64 xk, .int .i64 xw, .int .i64 xg] 30 := by rw [← hw5]; exact Blk.new _ _ _ hX.symm
            have hT5 := hT4.grow (O' := fun k => k < w.heap.size ∨ k = X) hb45 fun k hk => by
              have h1 := hb4.size; have h2 := hb45.size; have h3 := x5.lt
              rcases hk with hk | rfl
              · exact ⟨by omega, .inl (.inl hk)⟩
              · exact ⟨h3, .inr (by omega)⟩
            have hb5 := hb4.trans (hb45.mono hb4.size)
            have Hres := Lib.hid hres; have HT5 := Lib.hid hT5; have HT3 := Lib.hid hT3.out.sok
            have Hsb : Hid (s4.put ≤ i + 1 ∧ s4.taken ≤ i + 1) := by have := hsi.out; exact ⟨by omega, by omega⟩
            clear hres hT4 hO4 hb4 hb45 hT5 hT3 hb3 y3 c0 hp4 ht4
            go_wp2_with fail
            try rw [hw5]
            try rw [hX]
            clear hw5 hX
            refine (two_nextR HT5.out HT3.out (by have := hsi.out; omega)).mono ?_
            rintro e w6 ⟨s6, hres, hT6, hO6⟩
            obtain ⟨he, rfl⟩ := next_one HT3.out.ages Hres.out hres
            subst he
            have x6 := hO6.blk x5 (fun h => h (.inr rfl))
            have hb6 := hb5.trans (hO6.toBelow hb5.size fun k hk => Nat.le_of_not_lt fun h => hk (.inl h))
            obtain ⟨Y, hY⟩ : ∃ Y, w6.heap.size = Y := ⟨_, rfl⟩
            obtain ⟨w7, hw7⟩ : ∃ w7, w6.alloc (.cells #[.int .i64 xk, .int .i64 xw, .int .i64 xg] 47) = w7 := ⟨_, rfl⟩
            have hb67 : Below w6.heap.size w6 w7 := by rw [← hw7]; exact (Below.refl _ _).alloc (Nat.le_refl _) _
            have z7 : Blk w7 Y #[.int .i64 xk, .int .i64 xw, .int .i64 xg] 47 := by rw [← hw7]; exact Blk.new _ _ _ hY.symm
            have x7 := x6.below hb67
            have HT7 := Lib.hid (hT6.grow (O' := fun k => k < w.heap.size) hb67 fun k hk => by
              have h1 := hb6.size; have h2 := hb67.size
              exact ⟨by omega, .inl (.inl hk)⟩)
            have hb7 := hb6.trans (hb67.mono hb6.size)
            clear hres hT6 hO6 x5 x6 hb5 hb6 hb67 Hres HT5
            go_wp2_with fail
            try rw [hw7]
            try rw [hY]
            clear hw7 hY
            refine wp_region_noPanic (wp_region_need (S := fun w' => w'.cell? ⟨X, 0, none⟩ = some (.int .i64 xk) ∧ w'.cell? ⟨X, 1, none⟩ = some (.int .i64 xw) ∧ w'.cell? ⟨X, 2, none⟩ = some (.int .i64 xg) ∧ w'.cell? ⟨Y, 0, none⟩ = some (.int .i64 xk) ∧ w'.cell? ⟨Y, 1, none⟩ = some (.int .i64 xw) ∧ w'.cell? ⟨Y, 2, none⟩ = some (.int .i64 xg)) (by kernel_rfl) ?_)
            have hS : (w7.drew).cell? ⟨X, 0, none⟩ = some (.int .i64 xk) ∧ (w7.drew).cell? ⟨X, 1, none⟩ = some (.int .i64 xw) ∧ (w7.drew).cell? ⟨X, 2, none⟩ = some (.int .i64 xg) ∧ (w7.drew).cell? ⟨Y, 0, none⟩ = some (.int .i64 xk) ∧ (w7.drew).cell? ⟨Y, 1, none⟩ = some (.int .i64 xw) ∧ (w7.drew).cell? ⟨Y, 2, none⟩ = some (.int .i64 xg) := ⟨x7.drew.cell rfl, x7.drew.cell rfl, x7.drew.cell rfl, z7.drew.cell rfl, z7.drew.cell rfl, z7.drew.cell rfl⟩
            refine wpN_take (i := 0) (v := ?v13) rfl (by kernel_rfl) (fun _ _ _ h => h) hS (Or.inl ⟨by rfl, ?hy13⟩) ?hr13
            case hy13 => (intro wS hSw; (try dsimp only at hSw); go_simp; (try with_reducible rfl))
            try simp only [Act.put, List.setIfInBounds_toArray, List.set_cons_zero, List.set_cons_succ, List.getElem_toArray, List.getElem_cons_zero, List.getElem_cons_succ]
            refine wpN_take (i := 1) (v := ?v14) rfl (by kernel_rfl) (fun _ _ _ h => h) hS (Or.inl ⟨by rfl, ?hy14⟩) ?hr14
            case hy14 => (intro wS hSw; (try dsimp only at hSw); go_simp; (try with_reducible rfl))
            try simp only [Act.put, List.setIfInBounds_toArray, List.set_cons_zero, List.set_cons_succ, List.getElem_toArray, List.getElem_cons_zero, List.getElem_cons_succ]
            refine wpN_take (i := 2) (v := ?v15) rfl (by kernel_rfl) (fun _ _ _ h => h) hS (Or.inl ⟨by rfl, ?hy15⟩) ?hr15
            case hy15 => (intro wS hSw; (try dsimp only at hSw); go_simp; (try with_reducible rfl))
            try simp only [Act.put, List.setIfInBounds_toArray, List.set_cons_zero, List.set_cons_succ, List.getElem_toArray, List.getElem_cons_zero, List.getElem_cons_succ]
            refine wpN_take (i := 3) (v := ?v16) rfl (by kernel_rfl) (fun _ _ _ h => h) hS (Or.inl ⟨by rfl, ?hy16⟩) ?hr16
            case hy16 => (intro wS hSw; (try dsimp only at hSw); go_simp; (try with_reducible rfl))
            try simp only [Act.put, List.setIfInBounds_toArray, List.set_cons_zero, List.set_cons_succ, List.getElem_toArray, List.getElem_cons_zero, List.getElem_cons_succ]
            refine wpN_take (i := 4) (v := ?v17) rfl (by kernel_rfl) (fun _ _ _ h => h) hS (Or.inl ⟨by rfl, ?hy17⟩) ?hr17
            case hy17 => (intro wS hSw; (try dsimp only at hSw); go_simp; (try with_reducible rfl))
            try simp only [Act.put, List.setIfInBounds_toArray, List.set_cons_zero, List.set_cons_succ, List.getElem_toArray, List.getElem_cons_zero, List.getElem_cons_succ]
            refine wpN_take (i := 6) (v := ?v18) rfl (by kernel_rfl) (fun _ _ _ h => h) hS (Or.inl ⟨by rfl, ?hy18⟩) ?hr18
            case hy18 => (intro wS hSw; (try dsimp only at hSw); go_simp; (try with_reducible rfl))
            try simp only [Act.put, List.setIfInBounds_toArray, List.set_cons_zero, List.set_cons_succ, List.getElem_toArray, List.getElem_cons_zero, List.getElem_cons_succ]
            have hd7 : Below w7.heap.size w7 w7.drew := (Below.refl _ _).drew
            refine wpN_step (i := 5) (by kernel_rfl) rfl (fun K hK => ?_)
            go_simp
            refine (of_q ⟨xk, xw, xg⟩ _).mono ?_
            rintro e w8 ⟨rfl, hb78⟩
            have hb8 := hd7.trans hb78
            unfold Ent.v
            dsimp only
            have x8 := x7.below hb8
            have z8 := z7.below hb8
            have HT8 := Lib.hid (HT7.out.grow (O' := fun k => k < w.heap.size) hb8 fun k hk => ⟨Nat.lt_of_lt_of_le (HT7.out.1 k hk) hb8.size, .inl hk⟩)
            have hb9 := hb7.trans (hb8.mono hb7.size)
            clear x7 z7 HT7 hb7 hb78 hd7
            have hS : (w8).cell? ⟨X, 0, none⟩ = some (.int .i64 xk) ∧ (w8).cell? ⟨X, 1, none⟩ = some (.int .i64 xw) ∧ (w8).cell? ⟨X, 2, none⟩ = some (.int .i64 xg) ∧ (w8).cell? ⟨Y, 0, none⟩ = some (.int .i64 xk) ∧ (w8).cell? ⟨Y, 1, none⟩ = some (.int .i64 xw) ∧ (w8).cell? ⟨Y, 2, none⟩ = some (.int .i64 xg) := ⟨x8.cell rfl, x8.cell rfl, x8.cell rfl, z8.cell rfl, z8.cell rfl, z8.cell rfl⟩
            refine hK.out _ _ (fun _ => hS) ?_
            clear hK K
            try simp only [Act.put, List.setIfInBounds_toArray, List.set_cons_zero, List.set_cons_succ, List.getElem_toArray, List.getElem_cons_zero, List.getElem_cons_succ]
            refine wpN_pure (i := 7) (v := ?v19) rfl (by kernel_rfl) (fun _ _ _ h => h) (Or.inl ⟨by rfl, ?hy19⟩) ?hr19
            case hy19 => (intro wS hSw; go_simp; (try with_reducible rfl))
            try simp only [Act.put, List.setIfInBounds_toArray, List.set_cons_zero, List.set_cons_succ, List.getElem_toArray, List.getElem_cons_zero, List.getElem_cons_succ]
            refine wpN_pure (i := 8) (v := ?v20) rfl (by kernel_rfl) (fun _ _ _ h => h) (Or.inl ⟨by rfl, ?hy20⟩) ?hr20
            case hy20 => (intro wS hSw; go_simp; (try with_reducible rfl))
            try simp only [Act.put, List.setIfInBounds_toArray, List.set_cons_zero, List.set_cons_succ, List.getElem_toArray, List.getElem_cons_zero, List.getElem_cons_succ]
            refine wpN_pure (i := 9) (v := ?v21) rfl (by kernel_rfl) (fun _ _ _ h => h) (Or.inl ⟨by rfl, ?hy21⟩) ?hr21
            case hy21 => (intro wS hSw; go_simp; (try with_reducible rfl))
            try simp only [Act.put, List.setIfInBounds_toArray, List.set_cons_zero, List.set_cons_succ, List.getElem_toArray, List.getElem_cons_zero, List.getElem_cons_succ]
            refine wpN_done (by kernel_rfl) ?_
            refine NoPanic.normal ?_
            clear hS x8 z8 hb8
            go_wp2_with fail
            go_meet
            case rel => exact ⟨q, s4, rfl, rfl, Hsb, HT8, hb9⟩
          · by_cases r2 : r = 2
            · skip
              go_wp2_with fail
              refine (two_peek hT3.out).mono ?_
              rintro e w4 ⟨hres, hT4, hO4⟩
              obtain ⟨x, b, rfl⟩ := peek_ret hres
              obtain ⟨xk, xw, xg⟩ := x
              unfold Ent.v at hres ⊢
              dsimp only at hres ⊢
              have hb4 := hb3.trans (hO4.toBelow hb3.size fun k hk => Nat.le_of_not_lt fun h => hk (.inl h))
              obtain ⟨X, hX⟩ : ∃ X, w4.heap.size = X := ⟨_, rfl⟩
              obtain ⟨w5, hw5⟩ : ∃ w5, w4.alloc (.cells #[.int .i64 xk, .int .i64 xw, .int .i64 xg] 30) = w5 := ⟨_, rfl⟩
              have hb45 : Below w4.heap.size w4 w5 := by rw [← hw5]; exact (Below.refl _ _).alloc (Nat.le_refl _) _
              have x5 : Blk w5 X #[.int .i64 xk, .int .i64 xw, .int .i64 xg] 30 := by rw [← hw5]; exact Blk.new _ _ _ hX.symm
              have hT5 := hT4.grow (O' := fun k => k < w.heap.size ∨ k = X) hb45 fun k hk => by
                have h1 := hb4.size; have h2 := hb45.size; have h3 := x5.lt
                rcases hk with hk | rfl
                · exact ⟨by omega, .inl (.inl hk)⟩
                · exact ⟨h3, .inr (by omega)⟩
              have hb5 := hb4.trans (hb45.mono hb4.size)
              have Hres := Lib.hid hres; have HT5 := Lib.hid hT5; have HT3 := Lib.hid hT3.out.sok
              have Hsb : Hid (s.put ≤ i + 1 ∧ s.taken ≤ i + 1) := by have := hsi.out; exact ⟨by omega, by omega⟩
              clear hres hT4 hO4 hb4 hb45 hT5 hT3 hb3 y3 c0
              go_wp2_with fail
              try rw [hw5]
              try rw [hX]
              clear hw5 hX
              refine (two_peekR HT5.out HT3.out).mono ?_
              rintro e w6 ⟨hres, hb56⟩
              have he := peek_one HT3.out.ages Hres.out hres
              have hT6 := HT5.out.grow (O' := fun k => k < w.heap.size ∨ k = X) hb56 fun k hk => ⟨Nat.lt_of_lt_of_le (HT5.out.1 k hk) hb56.size, .inl hk⟩
              subst he
              have x6 := x5.below hb56
              have hb6 := hb5.trans (hb56.mono hb5.size)
              obtain ⟨Y, hY⟩ : ∃ Y, w6.heap.size = Y := ⟨_, rfl⟩
              obtain ⟨w7, hw7⟩ : ∃ w7, w6.alloc (.cells #[.int .i64 xk, .int .i64 xw, .int .i64 xg] 47) = w7 := ⟨_, rfl⟩
              have hb67 : Below w6.heap.size w6 w7 := by rw [← hw7]; exact (Below.refl _ _).alloc (Nat.le_refl _) _
              have z7 : Blk w7 Y #[.int .i64 xk, .int .i64 xw, .int .i64 xg] 47 := by rw [← hw7]; exact Blk.new _ _ _ hY.symm
              have x7 := x6.below hb67
              have HT7 := Lib.hid (hT6.grow (O' := fun k => k < w.heap.size) hb67 fun k hk => by
                have h1 := hb6.size; have h2 := hb67.size
                exact ⟨by omega, .inl (.inl hk)⟩)
              have hb7 := hb6.trans (hb67.mono hb6.size)
              clear hres hT6 hb56 x5 x6 hb5 hb6 hb67 Hres HT5
              go_wp2_with fail
              try rw [hw7]
              try rw [hY]
              clear hw7 hY
              refine wp_region_noPanic (wp_region_need (S := fun w' => w'.cell? ⟨X, 0, none⟩ = some (.int .i64 xk) ∧ w'.cell? ⟨X, 1, none⟩ = some (.int .i64 xw) ∧ w'.cell? ⟨X, 2, none⟩ = some (.int .i64 xg) ∧ w'.cell? ⟨Y, 0, none⟩ = some (.int .i64 xk) ∧ w'.cell? ⟨Y, 1, none⟩ = some (.int .i64 xw) ∧ w'.cell? ⟨Y, 2, none⟩ = some (.int .i64 xg)) (by kernel_rfl) ?_)
              have hS : (w7.drew).cell? ⟨X, 0, none⟩ = some (.int .i64 xk) ∧ (w7.drew).cell? ⟨X, 1, none⟩ = some (.int .i64 xw) ∧ (w7.drew).cell? ⟨X, 2, none⟩ = some (.int .i64 xg) ∧ (w7.drew).cell? ⟨Y, 0, none⟩ = some (.int .i64 xk) ∧ (w7.drew).cell? ⟨Y, 1, none⟩ = some (.int .i64 xw) ∧ (w7.drew).cell? ⟨Y, 2, none⟩ = some (.int .i64 xg) := ⟨x7.drew.cell rfl, x7.drew.cell rfl, x7.drew.cell rfl, z7.drew.cell rfl, z7.drew.cell rfl, z7.drew.cell rfl⟩
              refine wpN_take (i := 0) (v := ?v22) rfl (by kernel_rfl) (fun _ _ _ h => h) hS (Or.inl ⟨by rfl, ?hy22⟩) ?hr22
              case hy22 => (intro wS hSw; (try dsimp only at hSw); go_simp; (try with_reducible rfl))
              try simp only [Act.put, List.setIfInBounds_toArray, List.set_cons_zero, List.set_cons_succ, List.getElem_toArray, List.getElem_cons_zero, List.getElem_cons_succ]
              refine wpN_take (i := 1) (v := ?v23) rfl (by kernel_rfl) (fun _ _ _ h => h) hS (Or.inl ⟨by rfl, ?hy23⟩) ?hr23
              case hy23 => (intro wS hSw; (try dsimp only at hSw); go_simp; (try with_reducible rfl))
              try simp only [Act.put, List.setIfInBounds_toArray, List.set_cons_zero, List.set_cons_succ, List.getElem_toArray, List.getElem_cons_zero, List.getElem_cons_succ]
              refine wpN_take (i := 2) (v := ?v24) rfl (by kernel_rfl) (fun _ _ _ h => h) hS (Or.inl ⟨by rfl, ?hy24⟩) ?hr24
              case hy24 => (intro wS hSw; (try dsimp only at hSw); go_simp; (try with_reducible rfl))
              try simp only [Act.put, List.setIfInBounds_toArray, List.set_cons_zero, List.set_cons_succ, List.getElem_toArray, List.getElem_cons_zero, List.getElem_cons_succ]
              refine wpN_take (i := 3) (v := ?v25) rfl (by kernel_rfl) (fun _ _ _ h => h) hS (Or.inl ⟨by rfl, ?hy25⟩) ?hr25
              case hy25 => (intro wS hSw; (try dsimp only at hSw); go_simp; (try with_reducible rfl))
              try simp only [Act.put, List.setIfInBounds_toArray, List.set_cons_zero, List.set_cons_succ, List.getElem_toArray, List.getElem_cons_zero, List.getElem_cons_succ]
              refine wpN_take (i := 4) (v := ?v26) rfl (by kernel_rfl) (fun _ _ _ h => h) hS (Or.inl ⟨by rfl, ?hy26⟩) ?hr26
              case hy26 => (intro wS hSw; (try dsimp only at hSw); go_simp; (try with_reducible rfl))
              try simp only [Act.put, List.setIfInBounds_toArray, List.set_cons_zero, List.set_cons_succ, List.getElem_toArray, List.getElem_cons_zero, List.getElem_cons_succ]
              refine wpN_take (i := 6) (v := ?v27) rfl (by kernel_rfl) (fun _ _ _ h => h) hS (Or.inl ⟨by rfl, ?hy27⟩) ?hr27
              case hy27 => (intro wS hSw; (try dsimp only at hSw); go_simp; (try with_reducible rfl))
              try simp only [Act.put, List.setIfInBounds_toArray, List.set_cons_zero, List.set_cons_succ, List.getElem_toArray, List.getElem_cons_zero, List.getElem_cons_succ]
              have hd7 : Below w7.heap.size w7 w7.drew := (Below.refl _ _).drew
              refine wpN_step (i := 5) (by kernel_rfl) rfl (fun K hK => ?_)
              go_simp
              refine (of_q ⟨xk, xw, xg⟩ _).mono ?_
              rintro e w8 ⟨rfl, hb78⟩
              have hb8 := hd7.trans hb78
              unfold Ent.v
              dsimp only
              have x8 := x7.below hb8
              have z8 := z7.below hb8
              have HT8 := Lib.hid (HT7.out.grow (O' := fun k => k < w.heap.size) hb8 fun k hk => ⟨Nat.lt_of_lt_of_le (HT7.out.1 k hk) hb8.size, .inl hk⟩)
              have hb9 := hb7.trans (hb8.mono hb7.size)
              clear x7 z7 HT7 hb7 hb78 hd7
              have hS : (w8).cell? ⟨X, 0, none⟩ = some (.int .i64 xk) ∧ (w8).cell? ⟨X, 1, none⟩ = some (.int .i64 xw) ∧ (w8).cell? ⟨X, 2, none⟩ = some (.int .i64 xg) ∧ (w8).cell? ⟨Y, 0, none⟩ = some (.int .i64 xk) ∧ (w8).cell? ⟨Y, 1, none⟩ = some (.int .i64 xw) ∧ (w8).cell? ⟨Y, 2, none⟩ = some (.int .i64 xg) := ⟨x8.cell rfl, x8.cell rfl, x8.cell rfl, z8.cell rfl, z8.cell rfl, z8.cell rfl⟩
              refine hK.out _ _ (fun _ => hS) ?_
              clear hK K
              try simp only [Act.put, List.setIfInBounds_toArray, List.set_cons_zero, List.set_cons_succ, List.getElem_toArray, List.getElem_cons_zero, List.getElem_cons_succ]
              refine wpN_pure (i := 7) (v := ?v28) rfl (by kernel_rfl) (fun _ _ _ h => h) (Or.inl ⟨by rfl, ?hy28⟩) ?hr28
              case hy28 => (intro wS hSw; go_simp; (try with_reducible rfl))
              try simp only [Act.put, List.setIfInBounds_toArray, List.set_cons_zero, List.set_cons_succ, List.getElem_toArray, List.getElem_cons_zero, List.getElem_cons_succ]
              refine wpN_pure (i := 8) (v := ?v29) rfl (by kernel_rfl) (fun _ _ _ h => h) (Or.inl ⟨by rfl, ?hy29⟩) ?hr29
              case hy29 => (intro wS hSw; go_simp; (try with_reducible rfl))
              try simp only [Act.put, List.setIfInBounds_toArray, List.set_cons_zero, List.set_cons_succ, List.getElem_toArray, List.getElem_cons_zero, List.getElem_cons_succ]
              refine wpN_pure (i := 9) (v := ?v30) rfl (by kernel_rfl) (fun _ _ _ h => h) (Or.inl ⟨by rfl, ?hy30⟩) ?hr30
              case hy30 => (intro wS hSw; go_simp; (try with_reducible rfl))
              try simp only [Act.put, List.setIfInBounds_toArray, List.set_cons_zero, List.set_cons_succ, List.getElem_toArray, List.getElem_cons_zero, List.getElem_cons_succ]
              refine wpN_done (by kernel_rfl) ?_
              refine NoPanic.normal ?_
              clear hS x8 z8 hb8
              go_wp2_with fail
              go_meet
              case rel => exact ⟨q, s, rfl, rfl, Hsb, HT8, hb9⟩
            · by_cases r3 : r = 3
              · subst r3
                have c3 : w3.cell? ⟨A, 3, none⟩ = some (.slice pa kn pc) := y3.cell rfl
                obtain ⟨M, hM⟩ : ∃ M, (min (kn : Int) 10).toNat = M := ⟨_, rfl⟩
                have hM1 : M ≤ kn := by omega
                have hM2 : M ≤ 10 := by omega
                have m0 : (0 : Int) ≤ min (kn : Int) 10 := by omega
                have m1 : min (kn : Int) 10 ≤ pc := by omega
                obtain ⟨ks, hks⟩ : ∃ ks, keys.take M = ks := ⟨_, rfl⟩
                have hksl : ks.length = M := by rw [← hks, List.length_take, HKn.out]; omega
                have hkget : ∀ j (hj : j < ks.length), ∃ bl o, pa = some ⟨bl, o, none⟩ ∧ w.cell? ⟨bl, o + j, none⟩ = some (.int .i64 ks[j]) := fun j hj => by
                  subst hks
                  obtain ⟨b2, o2, e1, e2⟩ := HK.out j (by rw [List.length_take] at hj; omega)
                  exact ⟨b2, o2, e1, by rw [List.getElem_take]; exact e2⟩
                have hkW : ∀ k ∈ ks, W64 k := fun k hk => HOK.out.2.2 k (List.mem_of_mem_take (by rw [hks]; exact hk))
                have HksL := Lib.hid hksl; have Hkget := Lib.hid hkget; have HkW := Lib.hid hkW
                have HS3 := Lib.hid hT3.out.sok
                have hcn : M ≤ 10 := by omega
                clear hks hksl hkget hkW
                go_wp2_with fail
                clear hM m0 m1
                go_loopw [20, 21] (fun nv jv wx => ∃ j : Nat, jv = .int .i64 j ∧ j ≤ M ∧ nv = .int .i64 ((ks.take j).foldl dr (s, 0)).2 ∧ Hid (Two (fun k => k < w.heap.size) wx q d s ((ks.take j).foldl dr (s, 0)).1) ∧ Below w.heap.size w wx) (fun _ jv _ => M - (intOf jv).toNat)
                case atStart => exact ⟨0, rfl, by omega, rfl, hT3.out.less fun k hk => .inl hk, hb3⟩
                case round =>
                  clear y3 hT3 hb3 c0 c3
                  obtain ⟨j, rfl, hj, rfl, hTj, hbj⟩ := hrel
                  by_cases hjm : j < M
                  · have hjI : (j : Int) < M := by omega
                    have hjk : j < ks.length := by rw [HksL.out]; exact hjm
                    obtain ⟨b2, o2, rfl, hc⟩ := Hkget.out j hjk
                    have hc' := KB.out _ hbj _ _ _ trivial hc
                    have htk : (ks.take (j + 1)).foldl dr (s, 0) = dr ((ks.take j).foldl dr (s, 0)) ks[j] := by
                      rw [List.take_succ_eq_append_getElem hjk, List.foldl_append]; rfl
                    have hle : ((ks.take j).foldl dr (s, 0)).2 ≤ 10 := by have := dr_le s (ks.take j) 0; simp at this; omega
                    have hsok := HS3.out.drs (ks.take j) 0
                    obtain ⟨p, hp⟩ : ∃ p, (ks.take j).foldl dr (s, 0) = p := ⟨_, rfl⟩
                    obtain ⟨k1, hk1⟩ : ∃ k1, ks[j] = k1 := ⟨_, rfl⟩
                    rw [hk1] at hc' htk
                    rw [hp] at htk hle hTj hsok ⊢
                    have Htk := Lib.hid htk
                    clear htk hp hc hk1
                    obtain ⟨s1, n1⟩ := p
                    dsimp only at hle hTj hsok Htk ⊢
                    have hn1 : (n1 : Int) ≤ 10 := by omega
                    have hn0 : (0 : Int) ≤ n1 := by omega
                    obtain ⟨hk, hhk⟩ : ∃ hk, hasN s1.L k1 = hk := ⟨_, rfl⟩
                    have hh1 : hk ≤ 1 := by rw [← hhk]; unfold hasN; split <;> omega
                    have HE : Hid (dr (s1, n1) k1 = (s1.gone k1, n1 + hk)) := by show _ = _; rw [← hhk]; rfl
                    have hcon := two_dropR hTj.out hsok k1
                    rw [hhk] at hcon
                    have hh2 : (hk : Int) ≤ 1 := by omega
                    have hh3 : (0 : Int) ≤ hk := by omega
                    clear hhk hsok
                    go_wp2_with fail
                    refine hcon.mono ?_
                    rintro e w8 ⟨rfl, hT8, hO8⟩
                    have hb8 := hbj.trans (hO8.toBelow hbj.size fun k hk => Nat.le_of_not_lt fun h => hk h)
                    have HT8 := Lib.hid hT8
                    clear hT8 hO8 hcon hbj hTj hc'
                    go_wp2_with fail
                    go_roundw
                    case rel => exact ⟨j + 1, by go_num, by omega, by rw [Htk.out, HE.out]; push_cast; rfl, by rw [Htk.out, HE.out]; exact HT8, hb8⟩
                    case measure => simp [intOf]; omega
                  · have hjI : ¬ (j : Int) < M := by omega
                    have hje : ks.take j = ks := List.take_of_length_le (by rw [HksL.out]; omega)
                    rw [hje] at hTj ⊢
                    have hcon := two_drop hTj.out (a := pa) (c := pc) (l := ks) (by rw [HksL.out]; omega) (fun j hj => by
                      obtain ⟨b2, o2, e1, e2⟩ := Hkget.out j hj
                      exact ⟨b2, o2, e1, KB.out _ hbj _ _ _ trivial e2, Keep.lt e2⟩) HkW.out
                    rw [HksL.out] at hcon
                    obtain ⟨p, hp⟩ : ∃ p, ks.foldl dr (s, 0) = p := ⟨_, rfl⟩
                    have hsame := drs_same s ks 0
                    rw [hp] at hcon hTj hsame ⊢
                    obtain ⟨s1, n1⟩ := p
                    dsimp only at hcon hTj hsame ⊢
                    have Hsb : Hid (s1.put ≤ i + 1 ∧ s1.taken ≤ i + 1) := by have := hsi.out; exact ⟨by omega, by omega⟩
                    clear hp hje hsame
                    go_wp2_with fail
                    refine hcon.mono ?_
                    rintro e w8 ⟨rfl, hT8, hO8⟩
                    have hb8 := hbj.trans (hO8.toBelow hbj.size fun k hk => Nat.le_of_not_lt fun h => hk h)
                    have HT8 := Lib.hid hT8
                    clear hT8 hO8 hcon hbj hTj
                    go_wp2_with fail
                    go_meet
                    case rel => exact ⟨q, s1, rfl, rfl, Hsb, HT8, hb8⟩
              · skip
                go_wp2_with fail
                refine (two_copy hT3.out).mono ?_
                rintro e w4 ⟨c4, rfl, hQ4, hb34⟩
                have y4 := y3.below hb34
                have hb4 := hb3.trans (hb34.mono hb3.size)
                have hA3 := y3.lt
                have hF4 : ∀ k, (w3.heap.size ≤ k ∧ k < w4.heap.size) → (k < w.heap.size ∨ k = A ∨ (w3.heap.size ≤ k ∧ k < w4.heap.size)) ∧ ¬ k < w.heap.size := fun k hk => ⟨.inr (.inr hk), by have := hb3.size; omega⟩
                have hT4 := hT3.out.grow (O' := fun k => k < w.heap.size ∨ k = A ∨ (w3.heap.size ≤ k ∧ k < w4.heap.size)) hb34 fun k hk => by
                  have h1 := hb3.size; have h2 := hb34.size
                  rcases hk with hk | rfl | hk
                  · exact ⟨by omega, .inl (.inl hk)⟩
                  · exact ⟨by omega, .inl (.inr rfl)⟩
                  · exact ⟨hk.2, .inr hk.1⟩
                have HT4 := Lib.hid hT4; have HQ4 := Lib.hid hQ4; have HF4 := Lib.hid hF4
                have c1 : w4.cell? ⟨A, 1, none⟩ = some (.int .i64 key) := y4.cell rfl
                have c2 : w4.cell? ⟨A, 2, none⟩ = some (.int .i64 weight) := y4.cell rfl
                clear hT4 hQ4 hb34 hF4 hT3 hb3 y3 c0
                go_wp2_with fail
                refine (two_put HT4.out (by have := hsi.out; omega) key weight HOK.out.1).mono ?_
                rintro e w5 ⟨s5, hres, hT5, hO5⟩
                obtain ⟨⟨code, rfl⟩, hp5, ht5⟩ := put_ret hres
                have HQ5 := Lib.hid (HQ4.out.off hO5 fun k _ hk h => h (HF4.out k hk).1)
                have hb5 := hb4.trans (hO5.toBelow hb4.size fun k hk => Nat.le_of_not_lt fun h => hk (.inl h))
                have HT5 := Lib.hid hT5
                clear hres hT5 hO5 HQ4 HT4 hb4 y4 c1 c2
                go_wp2_with fail
                refine (two_next HT5.out (by have := hsi.out; omega)).mono ?_
                rintro e w6 ⟨s6, hres, hT6, hO6⟩
                obtain ⟨⟨x, b, rfl⟩, hp6, ht6⟩ := next_ret hres
                have HQ6 := Lib.hid (HQ5.out.off hO6 fun k _ hk h => h (HF4.out k hk).1)
                have hb6 := hb5.trans (hO6.toBelow hb5.size fun k hk => Nat.le_of_not_lt fun h => hk (.inl h))
                have HT6 := Lib.hid (hT6.turn (O := fun k => k < w.heap.size) HQ6.out HF4.out fun k hk => .inl hk)
                have Hsb : Hid (s.put ≤ i + 1 ∧ s.taken ≤ i + 1) := by have := hsi.out; exact ⟨by omega, by omega⟩
                clear hres hT6 hO6 HQ5 HT5 hb5 hp5 ht5 hp6 ht6 HQ6
                go_wp2_with fail
                go_meet
                case rel => exact ⟨c4, s, rfl, rfl, Hsb, HT6, hb6⟩
      case rest =>
        obtain ⟨q, s5, rfl, rfl, Hsb, HT5, hb5⟩ := hcut
        clear y3 hT3 hb3 c0 hr HOK HK
        go_wp2_with fail
        refine (two_all HT5.out).mono ?_
        rintro e w6 ⟨v6, rfl, hrow6, hb56⟩
        obtain ⟨da, dc, hblk, hrowR⟩ := HT5.out.ref
        have HS := HT5.out.sok.len
        obtain ⟨per, tak, put, L⟩ := s5
        replace hrow6 : Row w6 wc.heap.size v6 L := hrow6
        replace hrowR : RowR wc 0 (.slice da L.length dc) L := hrowR
        replace HS : L.length ≤ 800000 := HS
        replace hblk : Blk wc d #[.int .i64 per, .int .i64 tak, .int .i64 put, .slice da L.length dc] 43 := hblk
        obtain ⟨va, vc, rfl⟩ := hrow6.shape
        obtain ⟨N, hN⟩ : ∃ N, L.length = N := ⟨_, rfl⟩
        rw [hN] at hrow6 hrowR hblk HS ⊢
        have HNL := Lib.hid hN
        have hNI : (N : Int) ≤ 800000 := by omega
        have hT6 := Lib.hid (HT5.out.grow hb56 fun k hk => ⟨Nat.lt_of_lt_of_le (HT5.out.1 k hk) hb56.size, .inl hk⟩)
        have hb6 := hb5.trans (hb56.mono hb5.size)
        have hblk6 := hblk.below hb56
        have hrowR6 := Lib.hid (hrowR.below hb56)
        have hrow6' := Lib.hid hrow6
        have c3 : w6.cell? ⟨d, 3, none⟩ = some (.slice da N dc) := hblk6.cell rfl
        have c1 : w6.cell? ⟨d, 1, none⟩ = some (.int .i64 tak) := hblk6.cell rfl
        clear hN hblk hrowR hrow6 hb56 hb5 HT5
        go_wp2_with fail
        refine wp_region_noPanic (wp_region_need (S := fun w' => w'.cell? ⟨d, 3, none⟩ = some (.slice da N dc) ∧ w'.cell? ⟨d, 1, none⟩ = some (.int .i64 tak)) (by kernel_rfl) ?_)
        have hS : (w6.drew).cell? ⟨d, 3, none⟩ = some (.slice da N dc) ∧ (w6.drew).cell? ⟨d, 1, none⟩ = some (.int .i64 tak) := ⟨c3, c1⟩
        refine wpN_pure (i := 0) (v := ?v31) rfl (by kernel_rfl) (fun _ _ _ h => h) (Or.inl ⟨by rfl, ?hy31⟩) ?hr31
        case hy31 => (intro wS hSw; go_simp; (try with_reducible rfl))
        try simp only [Act.put, List.setIfInBounds_toArray, List.set_cons_zero, List.set_cons_succ, List.getElem_toArray, List.getElem_cons_zero, List.getElem_cons_succ]
        refine wpN_pure (i := 1) (v := ?v32) rfl (by kernel_rfl) (fun _ _ _ h => h) (Or.inl ⟨by rfl, ?hy32⟩) ?hr32
        case hy32 => (intro wS hSw; go_simp; (try with_reducible rfl))
        try simp only [Act.put, List.setIfInBounds_toArray, List.set_cons_zero, List.set_cons_succ, List.getElem_toArray, List.getElem_cons_zero, List.getElem_cons_succ]
        refine wpN_pure (i := 2) (v := ?v33) rfl (by kernel_rfl) (fun _ _ _ h => h) (Or.inl ⟨by rfl, ?hy33⟩) ?hr33
        case hy33 => (intro wS hSw; go_simp; (try with_reducible rfl))
        try simp only [Act.put, List.setIfInBounds_toArray, List.set_cons_zero, List.set_cons_succ, List.getElem_toArray, List.getElem_cons_zero, List.getElem_cons_succ]
        refine wpN_pure (i := 3) (v := ?v34) rfl (by kernel_rfl) (fun _ _ _ h => h) (Or.inl ⟨by rfl, ?hy34⟩) ?hr34
        case hy34 => (intro wS hSw; go_simp; (try with_reducible rfl))
        try simp only [Act.put, List.setIfInBounds_toArray, List.set_cons_zero, List.set_cons_succ, List.getElem_toArray, List.getElem_cons_zero, List.getElem_cons_succ]
        refine wpN_take (i := 5) (v := ?v35) rfl (by kernel_rfl) (fun _ _ _ h => h) hS (Or.inl ⟨by rfl, ?hy35⟩) ?hr35
        case hy35 => (intro wS hSw; (try dsimp only at hSw); go_simp; (try with_reducible rfl))
        try simp only [Act.put, List.setIfInBounds_toArray, List.set_cons_zero, List.set_cons_succ, List.getElem_toArray, List.getElem_cons_zero, List.getElem_cons_succ]
        refine wpN_take (i := 6) (v := ?v36) rfl (by kernel_rfl) (fun _ _ _ h => h) hS (Or.inl ⟨by rfl, ?hy36⟩) ?hr36
        case hy36 => (intro wS hSw; (try dsimp only at hSw); go_simp; (try with_reducible rfl))
        try simp only [Act.put, List.setIfInBounds_toArray, List.set_cons_zero, List.set_cons_succ, List.getElem_toArray, List.getElem_cons_zero, List.getElem_cons_succ]
        refine wpN_take (i := 7) (v := ?v37) rfl (by kernel_rfl) (fun _ _ _ h => h) hS (Or.inl ⟨by rfl, ?hy37⟩) ?hr37
        case hy37 => (intro wS hSw; (try dsimp only at hSw); go_simp; (try with_reducible rfl))
        try simp only [Act.put, List.setIfInBounds_toArray, List.set_cons_zero, List.set_cons_succ, List.getElem_toArray, List.getElem_cons_zero, List.getElem_cons_succ]
        refine wpN_take (i := 8) (v := ?v38) rfl (by kernel_rfl) (fun _ _ _ h => h) hS (Or.inl ⟨by rfl, ?hy38⟩) ?hr38
        case hy38 => (intro wS hSw; (try dsimp only at hSw); go_simp; (try with_reducible rfl))
        try simp only [Act.put, List.setIfInBounds_toArray, List.set_cons_zero, List.set_cons_succ, List.getElem_toArray, List.getElem_cons_zero, List.getElem_cons_succ]
        refine wpN_take (i := 9) (v := ?v39) rfl (by kernel_rfl) (fun _ _ _ h => h) hS (Or.inl ⟨by rfl, ?hy39⟩) ?hr39
        case hy39 => (intro wS hSw; (try dsimp only at hSw); go_simp; (try with_reducible rfl))
        try simp only [Act.put, List.setIfInBounds_toArray, List.set_cons_zero, List.set_cons_succ, List.getElem_toArray, List.getElem_cons_zero, List.getElem_cons_succ]
        have hd6 : Below w6.heap.size w6 w6.drew := (Below.refl _ _).drew
        have HT7 := Lib.hid (hT6.out.grow hd6 fun k hk => ⟨hT6.out.1 k hk, .inl hk⟩)
        have hb7 := hb6.trans (hd6.mono hb6.size)
        obtain ⟨w7, hw7⟩ : ∃ w7, w6.drew = w7 := ⟨_, rfl⟩
        have hblk7 := hblk6.below hd6
        have hR7 := Lib.hid (hrowR6.out.below hd6)
        have hr7 := Lib.hid (hrow6'.out.below hd6)
        rw [hw7] at HT7 hb7 hblk7 hR7 hr7 ⊢
        clear hw7 hd6 hT6 hb6 hblk6 hrowR6 hrow6' c1 c3 hS
        refine wpN_step (i := 4) (by kernel_rfl) rfl (fun K hK => ?_)
        go_simp
        refine (two_len HT7.out).mono ?_
        rintro e w8 ⟨rfl, hb78⟩
        have HT8 := Lib.hid (HT7.out.grow hb78 fun k hk => ⟨Nat.lt_of_lt_of_le (HT7.out.1 k hk) hb78.size, .inl hk⟩)
        have hb8 := hb7.trans (hb78.mono hb7.size)
        have hblk8 := hblk7.below hb78
        have hR8 := Lib.hid (hR7.out.below hb78)
        have hr8 := Lib.hid (hr7.out.below hb78)
        have eN : (((⟨per, tak, put, L⟩ : QS).L.length : Nat) : Int) = N := by show ((L.length : Nat) : Int) = N; rw [HNL.out]
        rw [eN]
        clear HT7 hb7 hblk7 hR7 hr7 hb78 eN
        have hS : (w8).cell? ⟨d, 3, none⟩ = some (.slice da N dc) ∧ (w8).cell? ⟨d, 1, none⟩ = some (.int .i64 tak) := ⟨hblk8.cell rfl, hblk8.cell rfl⟩
        refine hK.out _ _ (fun _ => hS) ?_
        clear hK K
        try simp only [Act.put, List.setIfInBounds_toArray, List.set_cons_zero, List.set_cons_succ, List.getElem_toArray, List.getElem_cons_zero, List.getElem_cons_succ]
        refine wpN_pure (i := 10) (v := ?v40) rfl (by kernel_rfl) (fun _ _ _ h => h) (Or.inl ⟨by rfl, ?hy40⟩) ?hr40
        case hy40 => (intro wS hSw; go_simp; (try with_reducible rfl))
        try simp only [Act.put, List.setIfInBounds_toArray, List.set_cons_zero, List.set_cons_succ, List.getElem_toArray, List.getElem_cons_zero, List.getElem_cons_succ]
        refine wpN_pure (i := 11) (v := ?v41) rfl (by kernel_rfl) (fun _ _ _ h => h) (Or.inl ⟨by rfl, ?hy41⟩) ?hr41
        case hy41 => (intro wS hSw; go_simp; (try with_reducible rfl))
        try simp only [Act.put, List.setIfInBounds_toArray, List.set_cons_zero, List.set_cons_succ, List.getElem_toArray, List.getElem_cons_zero, List.getElem_cons_succ]
        refine wpN_pure (i := 12) (v := ?v42) rfl (by kernel_rfl) (fun _ _ _ h => h) (Or.inl ⟨by rfl, ?hy42⟩) ?hr42
        case hy42 => (intro wS hSw; go_simp; (try with_reducible rfl))
        try simp only [Act.put, List.setIfInBounds_toArray, List.set_cons_zero, List.set_cons_succ, List.getElem_toArray, List.getElem_cons_zero, List.getElem_cons_succ]
        refine wpN_pure (i := 13) (v := ?v43) rfl (by kernel_rfl) (fun _ _ _ h => h) (Or.inl ⟨by rfl, ?hy43⟩) ?hr43
        case hy43 => (intro wS hSw; go_simp; (try with_reducible rfl))
        try simp only [Act.put, List.setIfInBounds_toArray, List.set_cons_zero, List.set_cons_succ, List.getElem_toArray, List.getElem_cons_zero, List.getElem_cons_succ]
        refine wpN_take (i := 15) (v := ?v44) rfl (by kernel_rfl) (fun _ _ _ h => h) hS (Or.inl ⟨by rfl, ?hy44⟩) ?hr44
        case hy44 => (intro wS hSw; (try dsimp only at hSw); go_simp; (try with_reducible rfl))
        try simp only [Act.put, List.setIfInBounds_toArray, List.set_cons_zero, List.set_cons_succ, List.getElem_toArray, List.getElem_cons_zero, List.getElem_cons_succ]
        refine wpN_take (i := 16) (v := ?v45) rfl (by kernel_rfl) (fun _ _ _ h => h) hS (Or.inl ⟨by rfl, ?hy45⟩) ?hr45
        case hy45 => (intro wS hSw; (try dsimp only at hSw); go_simp; (try with_reducible rfl))
        try simp only [Act.put, List.setIfInBounds_toArray, List.set_cons_zero, List.set_cons_succ, List.getElem_toArray, List.getElem_cons_zero, List.getElem_cons_succ]
        refine wpN_take (i := 17) (v := ?v46) rfl (by kernel_rfl) (fun _ _ _ h => h) hS (Or.inl ⟨by rfl, ?hy46⟩) ?hr46
        case hy46 => (intro wS hSw; (try dsimp only at hSw); go_simp; (try with_reducible rfl))
        try simp only [Act.put, List.setIfInBounds_toArray, List.set_cons_zero, List.set_cons_succ, List.getElem_toArray, List.getElem_cons_zero, List.getElem_cons_succ]
        refine wpN_take (i := 18) (v := ?v47) rfl (by kernel_rfl) (fun _ _ _ h => h) hS (Or.inl ⟨by rfl, ?hy47⟩) ?hr47
        case hy47 => (intro wS hSw; (try dsimp only at hSw); go_simp; (try with_reducible rfl))
        try simp only [Act.put, List.setIfInBounds_toArray, List.set_cons_zero, List.set_cons_succ, List.getElem_toArray, List.getElem_cons_zero, List.getElem_cons_succ]
        refine wpN_step (i := 14) (by kernel_rfl) rfl (fun K hK => ?_)
        go_simp
        refine (two_taken HT8.out).mono ?_
        rintro e w9 ⟨rfl, hb89⟩
        have HT9 := Lib.hid (HT8.out.grow hb89 fun k hk => ⟨Nat.lt_of_lt_of_le (HT8.out.1 k hk) hb89.size, .inl hk⟩)
        have hb9 := hb8.trans (hb89.mono hb8.size)
        have hblk9 := hblk8.below hb89
        have hR9 := Lib.hid (hR8.out.below hb89)
        have hr9 := Lib.hid (hr8.out.below hb89)
        have eT : (⟨per, tak, put, L⟩ : QS).taken = tak := rfl
        rw [eT]
        clear HT8 hb8 hblk8 hR8 hr8 hb89 eT
        have hS : (w9).cell? ⟨d, 3, none⟩ = some (.slice da N dc) ∧ (w9).cell? ⟨d, 1, none⟩ = some (.int .i64 tak) := ⟨hblk9.cell rfl, hblk9.cell rfl⟩
        refine hK.out _ _ (fun _ => hS) ?_
        clear hK K
        try simp only [Act.put, List.setIfInBounds_toArray, List.set_cons_zero, List.set_cons_succ, List.getElem_toArray, List.getElem_cons_zero, List.getElem_cons_succ]
        refine wpN_pure (i := 19) (v := ?v48) rfl (by kernel_rfl) (fun _ _ _ h => h) (Or.inl ⟨by rfl, ?hy48⟩) ?hr48
        case hy48 => (intro wS hSw; go_simp; (try with_reducible rfl))
        try simp only [Act.put, List.setIfInBounds_toArray, List.set_cons_zero, List.set_cons_succ, List.getElem_toArray, List.getElem_cons_zero, List.getElem_cons_succ]
        refine wpN_pure (i := 20) (v := ?v49) rfl (by kernel_rfl) (fun _ _ _ h => h) (Or.inl ⟨by rfl, ?hy49⟩) ?hr49
        case hy49 => (intro wS hSw; go_simp; (try with_reducible rfl))
        try simp only [Act.put, List.setIfInBounds_toArray, List.set_cons_zero, List.set_cons_succ, List.getElem_toArray, List.getElem_cons_zero, List.getElem_cons_succ]
        refine wpN_pure (i := 21) (v := ?v50) rfl (by kernel_rfl) (fun _ _ _ h => h) (Or.inl ⟨by rfl, ?hy50⟩) ?hr50
        case hy50 => (intro wS hSw; go_simp; (try with_reducible rfl))
        try simp only [Act.put, List.setIfInBounds_toArray, List.set_cons_zero, List.set_cons_succ, List.getElem_toArray, List.getElem_cons_zero, List.getElem_cons_succ]
        refine wpN_pure (i := 22) (v := ?v51) rfl (by kernel_rfl) (fun _ _ _ h => h) (Or.inl ⟨by rfl, ?hy51⟩) ?hr51
        case hy51 => (intro wS hSw; go_simp; (try with_reducible rfl))
        try simp only [Act.put, List.setIfInBounds_toArray, List.set_cons_zero, List.set_cons_succ, List.getElem_toArray, List.getElem_cons_zero, List.getElem_cons_succ]
        refine wpN_pure (i := 23) (v := ?v52) rfl (by kernel_rfl) (fun _ _ _ h => h) (Or.inl ⟨by rfl, ?hy52⟩) ?hr52
        case hy52 => (intro wS hSw; go_simp; (try with_reducible rfl))
        try simp only [Act.put, List.setIfInBounds_toArray, List.set_cons_zero, List.set_cons_succ, List.getElem_toArray, List.getElem_cons_zero, List.getElem_cons_succ]
        refine wpN_take (i := 24) (v := ?v53) rfl (by kernel_rfl) (fun _ _ _ h => h) hS (Or.inl ⟨by rfl, ?hy53⟩) ?hr53
        case hy53 => (intro wS hSw; (try dsimp only at hSw); go_simp; (try with_reducible rfl))
        try simp only [Act.put, List.setIfInBounds_toArray, List.set_cons_zero, List.set_cons_succ, List.getElem_toArray, List.getElem_cons_zero, List.getElem_cons_succ]
        refine wpN_take (i := 25) (v := ?v54) rfl (by kernel_rfl) (fun _ _ _ h => h) hS (Or.inl ⟨by rfl, ?hy54⟩) ?hr54
        case hy54 => (intro wS hSw; (try dsimp only at hSw); go_simp; (try with_reducible rfl))
        try simp only [Act.put, List.setIfInBounds_toArray, List.set_cons_zero, List.set_cons_succ, List.getElem_toArray, List.getElem_cons_zero, List.getElem_cons_succ]
        refine wpN_take (i := 26) (v := ?v55) rfl (by kernel_rfl) (fun _ _ _ h => h) hS (Or.inl ⟨by rfl, ?hy55⟩) ?hr55
        case hy55 => (intro wS hSw; (try dsimp only at hSw); go_simp; (try with_reducible rfl))
        try simp only [Act.put, List.setIfInBounds_toArray, List.set_cons_zero, List.set_cons_succ, List.getElem_toArray, List.getElem_cons_zero, List.getElem_cons_succ]
        refine wpN_take (i := 27) (v := ?v56) rfl (by kernel_rfl) (fun _ _ _ h => h) hS (Or.inl ⟨by rfl, ?hy56⟩) ?hr56
        case hy56 => (intro wS hSw; (try dsimp only at hSw); go_simp; (try with_reducible rfl))
        try simp only [Act.put, List.setIfInBounds_toArray, List.set_cons_zero, List.set_cons_succ, List.getElem_toArray, List.getElem_cons_zero, List.getElem_cons_succ]
        refine wpN_take (i := 28) (v := ?v57) rfl (by kernel_rfl) (fun _ _ _ h => h) hS (Or.inl ⟨by rfl, ?hy57⟩) ?hr57
        case hy57 => (intro wS hSw; (try dsimp only at hSw); go_simp; (try with_reducible rfl))
        try simp only [Act.put, List.setIfInBounds_toArray, List.set_cons_zero, List.set_cons_succ, List.getElem_toArray, List.getElem_cons_zero, List.getElem_cons_succ]
        refine wpN_pure (i := 29) (v := ?v58) rfl (by kernel_rfl) (fun _ _ _ h => h) (Or.inl ⟨by rfl, ?hy58⟩) ?hr58
        case hy58 => (intro wS hSw; go_simp; (try with_reducible rfl))
        try simp only [Act.put, List.setIfInBounds_toArray, List.set_cons_zero, List.set_cons_succ, List.getElem_toArray, List.getElem_cons_zero, List.getElem_cons_succ]
        refine wpN_pure (i := 30) (v := ?v59) rfl (by kernel_rfl) (fun _ _ _ h => h) (Or.inl ⟨by rfl, ?hy59⟩) ?hr59
        case hy59 => (intro wS hSw; go_simp; (try with_reducible rfl))
        try simp only [Act.put, List.setIfInBounds_toArray, List.set_cons_zero, List.set_cons_succ, List.getElem_toArray, List.getElem_cons_zero, List.getElem_cons_succ]
        refine wpN_done (by kernel_rfl) ?_
        refine NoPanic.normal ?_
        go_wp2_with fail
        go_loopw [24] (fun jv wx => ∃ j : Nat, jv = .int .i64 j ∧ j ≤ N ∧ Below w9.heap.size w9 wx) (fun jv _ => N - (intOf jv).toNat)
        case atStart => exact ⟨0, rfl, by omega, Below.refl _ _⟩
        case round =>
          obtain ⟨j, rfl, hj, hbx⟩ := hrel
          by_cases hjN : j < N
          · have hjI : (j : Int) < N := by omega
            have hjL : j < L.length := by rw [HNL.out]; exact hjN
            obtain ⟨g, vc', hv, -, -, -, hcell, -⟩ := hr9.out.open_ (by omega)
            injection hv with v1 v2 v3
            subst v1
            obtain ⟨g2, dc', hv2, -, -, -, hcell2, -⟩ := hR9.out.open_ (by omega)
            injection hv2 with v4 v5 v6
            subst v4
            clear v2 v3 v5 v6
            have keepX : Keep (fun _ => True) w9 wr := (Keep.refl _ _).below hbx
            obtain ⟨a0, a1, a2⟩ := hcell j hjL
            obtain ⟨b0, b1, b2⟩ := hcell2 j hjL
            obtain ⟨x, hx⟩ : ∃ x, L[j] = x := ⟨_, rfl⟩
            rw [hx] at a0 a1 a2 b0 b1 b2
            obtain ⟨xk, xw, xg⟩ := x
            dsimp only at a0 a1 a2 b0 b1 b2
            replace a0 := keepX _ _ _ trivial a0
            replace a1 := keepX _ _ _ trivial a1
            replace a2 := keepX _ _ _ trivial a2
            replace b0 := keepX _ _ _ trivial b0
            replace b1 := keepX _ _ _ trivial b1
            replace b2 := keepX _ _ _ trivial b2
            have c3 : wr.cell? ⟨d, 3, none⟩ = some (.slice (some ⟨g2, 0, none⟩) N dc) := (hblk9.below hbx).cell rfl
            clear hcell hcell2 hx keepX hS
            go_wp2_with fail
            refine wp_region_noPanic (wp_region_need (S := fun w' => w'.cell? ⟨d, 3, none⟩ = some (.slice (some ⟨g2, 0, none⟩) N dc) ∧ w'.cell? ⟨g, j * 3, none⟩ = some (.int .i64 xk) ∧ w'.cell? ⟨g, j * 3 + 1, none⟩ = some (.int .i64 xw) ∧ w'.cell? ⟨g, j * 3 + 2, none⟩ = some (.int .i64 xg) ∧ w'.cell? ⟨g2, j * 3, none⟩ = some (.int .i64 xk) ∧ w'.cell? ⟨g2, j * 3 + 1, none⟩ = some (.int .i64 xw) ∧ w'.cell? ⟨g2, j * 3 + 2, none⟩ = some (.int .i64 xg)) (by kernel_rfl) ?_)
            have hS : (wr.drew).cell? ⟨d, 3, none⟩ = some (.slice (some ⟨g2, 0, none⟩) N dc) ∧ (wr.drew).cell? ⟨g, j * 3, none⟩ = some (.int .i64 xk) ∧ (wr.drew).cell? ⟨g, j * 3 + 1, none⟩ = some (.int .i64 xw) ∧ (wr.drew).cell? ⟨g, j * 3 + 2, none⟩ = some (.int .i64 xg) ∧ (wr.drew).cell? ⟨g2, j * 3, none⟩ = some (.int .i64 xk) ∧ (wr.drew).cell? ⟨g2, j * 3 + 1, none⟩ = some (.int .i64 xw) ∧ (wr.drew).cell? ⟨g2, j * 3 + 2, none⟩ = some (.int .i64 xg) := ⟨c3, a0, a1, a2, b0, b1, b2⟩
            refine wpN_take (i := 0) (v := ?v60) rfl (by kernel_rfl) (fun _ _ _ h => h) hS (Or.inl ⟨by rfl, ?hy60⟩) ?hr60
            case hy60 => (intro wS hSw; (try dsimp only at hSw); go_simp; (try with_reducible rfl))
            try simp only [Act.put, List.setIfInBounds_toArray, List.set_cons_zero, List.set_cons_succ, List.getElem_toArray, List.getElem_cons_zero, List.getElem_cons_succ]
            refine wpN_take (i := 1) (v := ?v61) rfl (by kernel_rfl) (fun _ _ _ h => h) hS (Or.inl ⟨by rfl, ?hy61⟩) ?hr61
            case hy61 => (intro wS hSw; (try dsimp only at hSw); go_simp; (try with_reducible rfl))
            try simp only [Act.put, List.setIfInBounds_toArray, List.set_cons_zero, List.set_cons_succ, List.getElem_toArray, List.getElem_cons_zero, List.getElem_cons_succ]
            refine wpN_take (i := 2) (v := ?v62) rfl (by kernel_rfl) (fun _ _ _ h => h) hS (Or.inl ⟨by rfl, ?hy62⟩) ?hr62
            case hy62 => (intro wS hSw; (try dsimp only at hSw); go_simp; (try with_reducible rfl))
            try simp only [Act.put, List.setIfInBounds_toArray, List.set_cons_zero, List.set_cons_succ, List.getElem_toArray, List.getElem_cons_zero, List.getElem_cons_succ]
            refine wpN_take (i := 3) (v := ?v63) rfl (by kernel_rfl) (fun _ _ _ h => h) hS (Or.inl ⟨by rfl, ?hy63⟩) ?hr63
            case hy63 => (intro wS hSw; (try dsimp only at hSw); go_simp; (try with_reducible rfl))
            try simp only [Act.put, List.setIfInBounds_toArray, List.set_cons_zero, List.set_cons_succ, List.getElem_toArray, List.getElem_cons_zero, List.getElem_cons_succ]
            refine wpN_take (i := 5) (v := ?v64) rfl (by kernel_rfl) (fun _ _ _ h => h) hS (Or.inl ⟨by rfl, ?hy64⟩) ?hr64
            case hy64 => (intro wS hSw; (try dsimp only at hSw); go_simp; (try with_reducible rfl))
            try simp only [Act.put, List.setIfInBounds_toArray, List.set_cons_zero, List.set_cons_succ, List.getElem_toArray, List.getElem_cons_zero, List.getElem_cons_succ]
            refine wpN_take (i := 6) (v := ?v65) rfl (by kernel_rfl) (fun _ _ _ h => h) hS (Or.inl ⟨by rfl, ?hy65⟩) ?hr65
            case hy65 => (intro wS hSw; (try dsimp only at hSw); go_simp; (try with_reducible rfl))
            try simp only [Act.put, List.setIfInBounds_toArray, List.set_cons_zero, List.set_cons_succ, List.getElem_toArray, List.getElem_cons_zero, List.getElem_cons_succ]
            refine wpN_take (i := 7) (v := ?v66) rfl (by kernel_rfl) (fun _ _ _ h => h) hS (Or.inl ⟨by rfl, ?hy66⟩) ?hr66
            case hy66 => (intro wS hSw; (try dsimp only at hSw); go_simp; (try with_reducible rfl))
            try simp only [Act.put, List.setIfInBounds_toArray, List.set_cons_zero, List.set_cons_succ, List.getElem_toArray, List.getElem_cons_zero, List.getElem_cons_succ]
            refine wpN_take (i := 8) (v := ?v67) rfl (by kernel_rfl) (fun _ _ _ h => h) hS (Or.inl ⟨by rfl, ?hy67⟩) ?hr67
            case hy67 => (intro wS hSw; (try dsimp only at hSw); go_simp; (try with_reducible rfl))
            try simp only [Act.put, List.setIfInBounds_toArray, List.set_cons_zero, List.set_cons_succ, List.getElem_toArray, List.getElem_cons_zero, List.getElem_cons_succ]
            refine wpN_take (i := 9) (v := ?v68) rfl (by kernel_rfl) (fun _ _ _ h => h) hS (Or.inl ⟨by rfl, ?hy68⟩) ?hr68
            case hy68 => (intro wS hSw; (try dsimp only at hSw); go_simp; (try with_reducible rfl))
            try simp only [Act.put, List.setIfInBounds_toArray, List.set_cons_zero, List.set_cons_succ, List.getElem_toArray, List.getElem_cons_zero, List.getElem_cons_succ]
            refine wpN_take (i := 10) (v := ?v69) rfl (by kernel_rfl) (fun _ _ _ h => h) hS (Or.inl ⟨by rfl, ?hy69⟩) ?hr69
            case hy69 => (intro wS hSw; (try dsimp only at hSw); go_simp; (try with_reducible rfl))
            try simp only [Act.put, List.setIfInBounds_toArray, List.set_cons_zero, List.set_cons_succ, List.getElem_toArray, List.getElem_cons_zero, List.getElem_cons_succ]
            refine wpN_take (i := 11) (v := ?v70) rfl (by kernel_rfl) (fun _ _ _ h => h) hS (Or.inl ⟨by rfl, ?hy70⟩) ?hr70
            case hy70 => (intro wS hSw; (try dsimp only at hSw); go_simp; (try with_reducible rfl))
            try simp only [Act.put, List.setIfInBounds_toArray, List.set_cons_zero, List.set_cons_succ, List.getElem_toArray, List.getElem_cons_zero, List.getElem_cons_succ]
            have hdx : Below wr.heap.size wr wr.drew := (Below.refl _ _).drew
            refine wpN_step (i := 4) (by kernel_rfl) rfl (fun K hK => ?_)
            go_simp
            refine (of_q ⟨xk, xw, xg⟩ _).mono ?_
            rintro e w8 ⟨rfl, hb78⟩
            have hb8 := hdx.trans hb78
            unfold Ent.v
            dsimp only
            have keepY : Keep (fun _ => True) wr w8 := (Keep.refl _ _).below hb8
            have hbx8 := hbx.trans (hb8.mono hbx.size)
            have hS : (w8).cell? ⟨d, 3, none⟩ = some (.slice (some ⟨g2, 0, none⟩) N dc) ∧ (w8).cell? ⟨g, j * 3, none⟩ = some (.int .i64 xk) ∧ (w8).cell? ⟨g, j * 3 + 1, none⟩ = some (.int .i64 xw) ∧ (w8).cell? ⟨g, j * 3 + 2, none⟩ = some (.int .i64 xg) ∧ (w8).cell? ⟨g2, j * 3, none⟩ = some (.int .i64 xk) ∧ (w8).cell? ⟨g2, j * 3 + 1, none⟩ = some (.int .i64 xw) ∧ (w8).cell? ⟨g2, j * 3 + 2, none⟩ = some (.int .i64 xg) := ⟨keepY _ _ _ trivial c3, keepY _ _ _ trivial a0, keepY _ _ _ trivial a1, keepY _ _ _ trivial a2, keepY _ _ _ trivial b0, keepY _ _ _ trivial b1, keepY _ _ _ trivial b2⟩
            refine hK.out _ _ (fun _ => hS) ?_
            clear hK K
            try simp only [Act.put, List.setIfInBounds_toArray, List.set_cons_zero, List.set_cons_succ, List.getElem_toArray, List.getElem_cons_zero, List.getElem_cons_succ]
            refine wpN_pure (i := 12) (v := ?v71) rfl (by kernel_rfl) (fun _ _ _ h => h) (Or.inl ⟨by rfl, ?hy71⟩) ?hr71
            case hy71 => (intro wS hSw; go_simp; (try with_reducible rfl))
            try simp only [Act.put, List.setIfInBounds_toArray, List.set_cons_zero, List.set_cons_succ, List.getElem_toArray, List.getElem_cons_zero, List.getElem_cons_succ]
            refine wpN_done (by kernel_rfl) ?_
            refine NoPanic.normal ?_
            clear hS keepY hb8 hb78 hdx c3 a0 a1 a2 b0 b1 b2 hbx
            go_wp2_with fail
            go_roundw
            case rel => exact ⟨j + 1, by go_num, by omega, hbx8⟩
            case measure => simp [intOf]; omega
          · have hjI : ¬ (j : Int) < N := by omega
            have HTx := Lib.hid (HT9.out.grow (O' := fun k => k < w.heap.size) hbx fun k hk => ⟨Nat.lt_of_lt_of_le (HT9.out.1 k hk) hbx.size, .inl hk⟩)
            have hbxx := hb9.trans (hbx.mono hb9.size)
            clear hjN hbx hb9 HT9 hblk9 hR9 hr9 hS
            go_wp2_with fail
            go_roundw
            case rel => exact ⟨q, i + 1, _, rfl, by go_num, by omega, ⟨Hsb.out.1, by have := Hsb.out.2; push_cast; exact this⟩, HTx.out, hbxx⟩
            case measure => simp [intOf]; omega
    · have HB := Lib.hid hb
      have hfin : ∀ wr : World, Below w.heap.size w wr → Calls Try.prog 10 #[] wr fun e w' => e = .returned (.bool true) ∧ Below w.heap.size w w' := fun wr hb => (known25 wr).mono fun e w' ⟨he, h⟩ => ⟨he, hb.trans (h.mono hb.size)⟩
      have hcon := hfin wr hb
      clear hfin hT hb
      by_cases i1 : i < n
      · have i1I : (i : Int) < n := by omega
        have i2I : ¬ (i : Int) < 100 := by omega
        clear hlt
        go_wp2_with fail
        refine hcon.mono ?_
        rintro e w2 ⟨rfl, hb2⟩
        go_wp2_with fail
        go_ret
        exact ⟨rfl, hb2⟩
      · have i1I : ¬ (i : Int) < n := by omega
        clear hlt
        go_wp2_with fail
        refine hcon.mono ?_
        rintro e w2 ⟨rfl, hb2⟩
        go_wp2_with fail
        go_ret
        exact ⟨rfl, hb2⟩
end Go.Proofs.Ytplfbdkljnblmaa

