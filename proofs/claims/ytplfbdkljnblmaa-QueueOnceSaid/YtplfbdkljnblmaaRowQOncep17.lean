/-
  The law QueueOnce, stepped through: one of four cases of the slices' lengths.
-/
import Derived.Test.YtplfbdkljnblmaaRowQOncep13
set_option linter.unusedVariables false
set_option linter.unusedSimpArgs false
namespace Go.Proofs.Ytplfbdkljnblmaa
open Go.RowKit

set_option maxRecDepth 100000 in
set_option maxHeartbeats 8000000 in
theorem once4 {w : World} {a a2 : Option Addr} {n c n2 c2 : Nat} (pd : Int) {ws : Nat → Int} {l2 : List Int} (hc : n ≤ c) (hm : n ≤ maxLen) (hI : ∀ i, i < n → ∃ bl o, a = some ⟨bl, o, none⟩ ∧ w.cell? ⟨bl, o + i, none⟩ = some (.int .i64 (ws i)))
    (hc2 : n2 ≤ c2) (hm2 : n2 ≤ maxLen) (hl2 : l2.length = n2) (hI2 : ∀ i (h : i < l2.length), ∃ bl o, a2 = some ⟨bl, o, none⟩ ∧ w.cell? ⟨bl, o + i, none⟩ = some (.int .i64 l2[i])) (hW2 : ∀ k ∈ l2, W64 k) (h1 : 60 < n) (h2 : 20 < n2) :
    Calls Try.prog 4 #[.int .i64 pd, .slice a n c, .slice a2 n2 c2] w fun e w' => e = .returned (.bool true) ∧ Below w.heap.size w w' := by
  obtain ⟨per0, hper0, e1⟩ : ∃ k : Nat, k < 10 ∧ wrap64 ((IntKind.u64.wrap pd).tmod 10) = k := u64_mod pd 10 (by decide) (by decide)
  have HI : Hid (∀ i, i < 60 → ∃ bl o, a = some ⟨bl, o, none⟩ ∧ w.cell? ⟨bl, o + i, none⟩ = some (.int .i64 (ws i))) := fun i hi => hI i (by omega)
  have HI2 : Hid (∀ i, i < 20 → ∃ bl o x, a2 = some ⟨bl, o, none⟩ ∧ w.cell? ⟨bl, o + i, none⟩ = some (.int .i64 x) ∧ l2[i]? = some x) := fun i hi => by
    obtain ⟨bl, o, e1, e2⟩ := hI2 i (by omega)
    exact ⟨bl, o, _, e1, e2, List.getElem?_eq_getElem (by omega)⟩
  have HL2 := Lib.hid hl2; have HW2 := Lib.hid hW2
  have hcI : (n : Int) ≤ c := by omega
  have hcI2 : (n2 : Int) ≤ c2 := by omega
  have hm3 : (n : Int) ≤ 9223372036854775807 := by simp only [maxLen] at hm; omega
  have hm4 : (n2 : Int) ≤ 9223372036854775807 := by simp only [maxLen] at hm2; omega
  have g1 : (60 : Int) < n := by omega
  have g2 : (20 : Int) < n2 := by omega
  have hK60 : 60 ≤ 60 := by omega
  have hD20 : 20 ≤ 20 := by omega
  have hKI : ((60 : Nat) : Int) ≤ 60 := by omega
  have hKc : (60 : Int) ≤ c := by omega
  have hDc : (20 : Int) ≤ c2 := by omega
  have hmk := run_make_row' (P := Try.prog) 35 4 (.bool false) 1 Try.underlying35 infoB rfl .i64 .i64 60 (by omega) (by omega)
  try push_cast at hmk
  clear hI hI2 hl2 hW2
  go_enter Try.func4, Try.ntmps4
  go_wp2_with fail
  refine wp_region_noPanic (wp_region_need (S := fun w' => True) (by kernel_rfl) ?_)
  have hS : True := trivial
  refine wpN_pure (i := 0) (v := ?v1) rfl (by kernel_rfl) (fun _ _ _ h => h) (Or.inl ⟨by rfl, ?hy1⟩) ?hr1
  case hy1 => (intro wS hSw; go_simp; (try with_reducible rfl))
  try simp only [Act.put, List.setIfInBounds_toArray, List.set_cons_zero, List.set_cons_succ, List.getElem_toArray, List.getElem_cons_zero, List.getElem_cons_succ]
  refine wpN_pure (i := 1) (v := ?v2) rfl (by kernel_rfl) (fun _ _ _ h => h) (Or.inl ⟨by rfl, ?hy2⟩) ?hr2
  case hy2 => (intro wS hSw; go_simp; (try with_reducible rfl))
  try simp only [Act.put, List.setIfInBounds_toArray, List.set_cons_zero, List.set_cons_succ, List.getElem_toArray, List.getElem_cons_zero, List.getElem_cons_succ]
  refine wpN_pure (i := 2) (v := ?v3) rfl (by kernel_rfl) (fun _ _ _ h => h) (Or.inl ⟨by rfl, ?hy3⟩) ?hr3
  case hy3 => (intro wS hSw; go_simp; (try with_reducible rfl))
  try simp only [Act.put, List.setIfInBounds_toArray, List.set_cons_zero, List.set_cons_succ, List.getElem_toArray, List.getElem_cons_zero, List.getElem_cons_succ]
  refine wpN_pure (i := 3) (v := ?v4) rfl (by kernel_rfl) (fun _ _ _ h => h) (Or.inl ⟨by rfl, ?hy4⟩) ?hr4
  case hy4 => (intro wS hSw; go_simp; (try with_reducible rfl))
  try simp only [Act.put, List.setIfInBounds_toArray, List.set_cons_zero, List.set_cons_succ, List.getElem_toArray, List.getElem_cons_zero, List.getElem_cons_succ]
  try rw [if_pos (show (60 : Int) < n by omega)]
  refine wpN_pure (i := 4) (v := ?v5) rfl (by kernel_rfl) (fun _ _ _ h => h) (Or.inl ⟨by rfl, ?hy5⟩) ?hr5
  case hy5 => (intro wS hSw; go_simp; (try with_reducible rfl))
  try simp only [Act.put, List.setIfInBounds_toArray, List.set_cons_zero, List.set_cons_succ, List.getElem_toArray, List.getElem_cons_zero, List.getElem_cons_succ]
  refine wpN_pure (i := 5) (v := ?v6) rfl (by kernel_rfl) (fun _ _ _ h => h) (Or.inl ⟨by rfl, ?hy6⟩) ?hr6
  case hy6 => (intro wS hSw; go_simp; (try with_reducible rfl))
  try simp only [Act.put, List.setIfInBounds_toArray, List.set_cons_zero, List.set_cons_succ, List.getElem_toArray, List.getElem_cons_zero, List.getElem_cons_succ]
  refine wpN_pure (i := 6) (v := ?v7) rfl (by kernel_rfl) (fun _ _ _ h => h) (Or.inl ⟨by rfl, ?hy7⟩) ?hr7
  case hy7 => (intro wS hSw; go_simp; (try with_reducible rfl))
  try simp only [Act.put, List.setIfInBounds_toArray, List.set_cons_zero, List.set_cons_succ, List.getElem_toArray, List.getElem_cons_zero, List.getElem_cons_succ]
  refine wpN_pure (i := 7) (v := ?v8) rfl (by kernel_rfl) (fun _ _ _ h => h) (Or.inl ⟨by rfl, ?hy8⟩) ?hr8
  case hy8 => (intro wS hSw; go_simp; (try with_reducible rfl))
  try simp only [Act.put, List.setIfInBounds_toArray, List.set_cons_zero, List.set_cons_succ, List.getElem_toArray, List.getElem_cons_zero, List.getElem_cons_succ]
  refine wpN_pure (i := 8) (v := ?v9) rfl (by kernel_rfl) (fun _ _ _ h => h) (Or.inl ⟨by rfl, ?hy9⟩) ?hr9
  case hy9 => (intro wS hSw; go_simp; (try with_reducible rfl))
  try simp only [Act.put, List.setIfInBounds_toArray, List.set_cons_zero, List.set_cons_succ, List.getElem_toArray, List.getElem_cons_zero, List.getElem_cons_succ]
  try rw [if_pos (show (20 : Int) < n2 by omega)]
  refine wpN_pure (i := 9) (v := ?v10) rfl (by kernel_rfl) (fun _ _ _ h => h) (Or.inl ⟨by rfl, ?hy10⟩) ?hr10
  case hy10 => (intro wS hSw; go_simp; (try with_reducible rfl))
  try simp only [Act.put, List.setIfInBounds_toArray, List.set_cons_zero, List.set_cons_succ, List.getElem_toArray, List.getElem_cons_zero, List.getElem_cons_succ]
  refine wpN_pure (i := 10) (v := ?v11) rfl (by kernel_rfl) (fun _ _ _ h => h) (Or.inl ⟨by rfl, ?hy11⟩) ?hr11
  case hy11 => (intro wS hSw; go_simp; (try with_reducible rfl))
  try simp only [Act.put, List.setIfInBounds_toArray, List.set_cons_zero, List.set_cons_succ, List.getElem_toArray, List.getElem_cons_zero, List.getElem_cons_succ]
  refine wpN_pure (i := 11) (v := ?v12) rfl (by kernel_rfl) (fun _ _ _ h => h) (Or.inl ⟨by rfl, ?hy12⟩) ?hr12
  case hy12 => (intro wS hSw; go_simp; (try with_reducible rfl))
  try simp only [Act.put, List.setIfInBounds_toArray, List.set_cons_zero, List.set_cons_succ, List.getElem_toArray, List.getElem_cons_zero, List.getElem_cons_succ]
  refine wpN_done (by kernel_rfl) ?_
  refine NoPanic.normal ?_
  have hd : Below w.heap.size w w.drew := (Below.refl _ _).drew
  obtain ⟨w0, hw0⟩ : ∃ w0, w.drew = w0 := ⟨_, rfl⟩
  rw [hw0] at hd
  try rw [hw0]
  clear hw0 hS
  go_wp2_with fail
  try simp only [e1]
  refine (new_q w0 (1 + per0) (by omega) (by omega)).mono ?_
  rintro e w1 ⟨q, rfl, hq, hQ, hb⟩
  have hb1 : Below w.heap.size w w1 := hd.trans (hb.mono hd.size)
  have hQ1 := hQ.tight
  have hq0 := hd.size
  go_wp2_with fail
  rw [made_bools]
  obtain ⟨B, hB⟩ : ∃ B, w1.heap.size = B := ⟨_, rfl⟩
  rw [hB] at hQ1
  have hb12 : Below w1.heap.size w1 (w1.alloc (.cells (bools (fun _ => false) 60) 4)) := (Below.refl _ _).alloc (Nat.le_refl _) _
  have hB2 : Blk (w1.alloc (.cells (bools (fun _ => false) 60) 4)) B (bools (fun _ => false) 60) 4 := Blk.new _ _ _ hB.symm
  have hQ2 : QueueAt (fun k => w.heap.size ≤ k ∧ k ≠ B) (w1.alloc (.cells (bools (fun _ => false) 60) 4)) q ⟨1 + (per0 : Int), 0, 0, []⟩ := (hQ1.weaken fun k hk => ⟨by omega, by omega⟩).below hb12
  have hb2 := hb1.trans (hb12.mono hb1.size)
  have hwB : w.heap.size ≤ B := by rw [← hB]; exact hb1.size
  rw [hB]
  clear hQ hb hd hQ1 hb12 hb1 hB hq0
  go_loopw [10] (fun iv wr => ∃ (i : Nat) (s : QS), iv = .int .i64 i ∧ i ≤ 60 ∧ QueueAt (fun k => w.heap.size ≤ k ∧ k ≠ B) wr q s ∧ Hid (Puts (1 + (per0 : Int)) ws i s) ∧ Blk wr B (bools (fun j => decide (j < i)) 60) 4 ∧ Below w.heap.size w wr) (fun iv _ => 60 - (intOf iv).toNat)
  case atStart => exact ⟨0, _, rfl, by omega, hQ2, ⟨rfl, rfl, rfl, rfl⟩, by rw [bools_congr (g := fun _ => false) (fun j _ => by simp)]; exact hB2, hb2⟩
  case round =>
    obtain ⟨i, s, rfl, hi, hQi, hPi, hBi, hbi⟩ := hrel
    have hFnew : ∀ {W : World}, Below w.heap.size w W → B < W.heap.size → ∀ k, W.heap.size ≤ k → w.heap.size ≤ k ∧ k ≠ B := fun hW hBW k hk => ⟨Nat.le_trans hW.size hk, by omega⟩
    by_cases hlt : i < 60
    · have hltI : (i : Int) < 60 := by omega
      obtain ⟨bl, o, rfl, hx⟩ := HI.out i hlt
      have hx' := (keepB' hbi) _ _ _ trivial hx
      go_wp2_with fail
      refine (put_q hQi (by have := hPi.out.put; omega) (hFnew hbi hBi.lt) i (ws i) (by unfold W64; omega)).mono ?_
      rintro e w3 ⟨s3, hres, hQ3, hO3⟩
      obtain ⟨rfl, hP3⟩ := hPi.out.step (by omega) hres
      have HP3 := Lib.hid hP3; clear hP3 hres
      have hB3 := hO3.blk hBi (fun h => h.2 rfl)
      have hb3 := hbi.trans (hO3.toBelow hbi.size fun k hk => hk.1)
      clear hO3
      go_wp2_with fail
      refine (put_q hQ3 (by have := HP3.out.put; omega) (hFnew hb3 hB3.lt) i 0 (by unfold W64; omega)).mono ?_
      rintro e w4 ⟨s4, hres, hQ4, hO4⟩
      obtain ⟨rfl, rfl⟩ := HP3.out.again hres
      have hB4 := hO4.blk hB3 (fun h => h.2 rfl)
      have hb4 := hb3.trans (hO4.toBelow hb3.size fun k hk => hk.1)
      clear hO4 hres
      have cB := hB4.cell (bools_get (f := fun j => decide (j < i)) hlt)
      have fB := hB4.free i
      go_wp2_with fail
      have hB5 := hB4.set i (.bool true)
      rw [bools_set, bools_congr (g := fun j => decide (j < i + 1)) (fun j _ => by by_cases h1 : j = i <;> by_cases h2 : j < i <;> simp [h1, h2] <;> omega)] at hB5
      have hQ5 := hQ4.off ((Off.refl (fun k => k = B) w4).set ⟨B, i, none⟩ (.bool true) (.inl rfl)) (fun k _ hk => hk.2)
      have hb5 := hb4.setCell (p := ⟨B, i, none⟩) hwB (.bool true)
      go_roundw
      case rel => exact ⟨i + 1, _, by go_num, by omega, hQ5, HP3, hB5, hb5⟩
      case measure => simp [intOf]; omega
    · have hiK : i = 60 := by omega
      rw [hiK] at hPi hBi ⊢
      clear hlt hi hiK i
      go_wp2_with fail
      obtain ⟨ds, hds⟩ : ∃ ds, l2.take 20 = ds := ⟨_, rfl⟩
      have hdl : ds.length = 20 := by rw [← hds, List.length_take, HL2.out]; omega
      have hdget : ∀ j (hj : j < ds.length), l2[j]? = some ds[j] := fun j hj => by
        subst hds
        rw [List.getElem_take, List.getElem?_eq_getElem]
      have hdrop := drop_q hQi (a := a2) (c := c2) (l := ds) (by omega) (fun j hj => by
        obtain ⟨bl, o, x, e1, e2, e3⟩ := HI2.out j (by omega)
        rw [hdget j hj] at e3
        cases e3
        exact ⟨bl, o, e1, (keepB' hbi) _ _ _ trivial e2, fun hf => by have := Keep.lt e2; have := hf.1; omega⟩) (fun k hk => HW2.out k (by rw [← hds] at hk; exact List.mem_of_mem_take hk))
      rw [hdl] at hdrop
      refine hdrop.mono ?_
      rintro e w3 ⟨rfl, hQ3, hO3⟩
      have HLe := Lib.hid (Left.start hPi.out (by omega) ds 0)
      have hB3 := hO3.blk hBi (fun h => h.2 rfl)
      have hb3 := hbi.trans (hO3.toBelow hbi.size fun k hk => hk.1)
      have Hdl := Lib.hid hdl; have Hdget := Lib.hid hdget
      obtain ⟨s3, hs3⟩ : ∃ s3, (ds.foldl dr (s, 0)).1 = s3 := ⟨_, rfl⟩
      rw [hs3] at hQ3 HLe
      clear hO3 hdrop hQi hPi hBi hbi hQ2 hB2 hb2 hdl hdget hds hs3
      go_wp2_with fail
      go_loopw [11] (fun iv wr => ∃ i : Nat, iv = .int .i64 i ∧ i ≤ 20 ∧ QueueAt (fun k => w.heap.size ≤ k ∧ k ≠ B) wr q s3 ∧ Blk wr B (bools (fun j => !((ds.take i).contains (j : Int))) 60) 4 ∧ Below w.heap.size w wr) (fun iv _ => 20 - (intOf iv).toNat)
      case atStart => exact ⟨0, rfl, by omega, hQ3, by rw [bools_congr (g := fun j => decide (j < 60)) (fun j hj => by simp [hj])]; exact hB3, hb3⟩
      case round =>
        obtain ⟨i, rfl, hi, hQi, hBi, hbi⟩ := hrel
        by_cases hlt : i < 20
        · have hltI : (i : Int) < 20 := by omega
          obtain ⟨bl, o, x, rfl, hx, hxe⟩ := HI2.out i hlt
          have hids : i < ds.length := by rw [Hdl.out]; exact hlt
          have hdx : ds[i] = x := by have := Hdget.out i hids; rw [hxe] at this; cases this; rfl
          have htk : ds.take (i + 1) = ds.take i ++ [x] := by rw [List.take_succ_eq_append_getElem hids, hdx]
          have Htk := Lib.hid htk; clear htk hdx hxe
          have hx' := (keepB' hbi) _ _ _ trivial hx
          by_cases hr : 0 ≤ x ∧ x < 60
          · obtain ⟨hr1, hr2⟩ := hr
            obtain ⟨jx, rfl⟩ := Int.eq_ofNat_of_zero_le hr1
            have hjx : jx < 60 := by omega
            have cB := hBi.cell (bools_get (f := fun j => !((ds.take i).contains (j : Int))) hjx)
            have fB := hBi.free jx
            have hge : (jx : Int) ≥ 0 := hr1
            go_wp2_with fail
            have hB5 := hBi.set jx (.bool false)
            rw [bools_set, bools_congr (g := fun j => !((ds.take (i + 1)).contains (j : Int))) (fun j _ => by
              rw [Htk.out]
              by_cases h1 : j = jx
              · subst h1; simp
              · have h2 : ¬ (j : Int) = jx := by omega
                simp [h1, h2])] at hB5
            have hQ5 := hQi.off ((Off.refl (fun k => k = B) wr).set ⟨B, jx, none⟩ (.bool false) (.inl rfl)) (fun k _ hk => hk.2)
            have hb5 := hbi.setCell (p := ⟨B, jx, none⟩) hwB (.bool false)
            go_roundw
            case rel => exact ⟨i + 1, by go_num, by omega, hQ5, hB5, hb5⟩
            case measure => simp [intOf]; omega
          · rw [bools_congr (g := fun j => !((ds.take (i + 1)).contains (j : Int))) (fun j hj => by
              rw [Htk.out]
              have h2 : ¬ (j : Int) = x := by omega
              simp [h2])] at hBi
            by_cases hr1 : x ≥ 0
            · have hr2 : ¬ x < 60 := by omega
              clear hr
              go_wp2_with fail
              go_roundw
              case rel => exact ⟨i + 1, by go_num, by omega, hQi, hBi, hbi⟩
              case measure => simp [intOf]; omega
            · clear hr
              go_wp2_with fail
              go_roundw
              case rel => exact ⟨i + 1, by go_num, by omega, hQi, hBi, hbi⟩
              case measure => simp [intOf]; omega
        · have hiD : i = 20 := by omega
          have hte : ds.take i = ds := List.take_of_length_le (by rw [Hdl.out]; omega)
          rw [hte] at hBi
          clear hiD hte
          go_wp2_with fail
          go_loopw [] (fun wr => ∃ (s : QS) (f : Nat → Bool), QueueAt (fun k => w.heap.size ≤ k ∧ k ≠ B) wr q s ∧ Hid (Left ws 60 f s) ∧ Blk wr B (bools f 60) 4 ∧ Below w.heap.size w wr) (fun wr => (100 - takenAt wr q).toNat)
          case atStart => exact ⟨s3, _, hQi, HLe.out, hBi, hbi⟩
          case round =>
            obtain ⟨s, f, hQs, hLs, hBs, hbs⟩ := hrel
            have htk0 := hQs.taken
            go_wp2_with fail
            refine (next_q hQs (by have := hLs.out.tak; omega)).mono ?_
            rintro e w5 ⟨s5, hres, hQ5, hO5⟩
            obtain ⟨hfk, -, -, -⟩ := hQs.facts
            have hB5 := hO5.blk hBs (fun h => h.2 rfl)
            have hb5 := hbs.trans (hO5.toBelow hbs.size fun k hk => hk.1)
            clear hO5
            rcases hres with ⟨hL, rfl, rfl⟩ | ⟨x, hx, -, rfl, rfl⟩
            · have HLn := Lib.hid (hLs.out.none hL); have HL0 := Lib.hid hL
              unfold Ent.v Hp.z0
              dsimp only
              clear hL
              go_wp2_with fail
              have hbz : Below w5.heap.size w5 (w5.alloc (.cells #[.int .i64 0, .int .i64 0, .int .i64 0] 30)) := (Below.refl _ _).alloc (Nat.le_refl _) _
              have hB6 := hB5.below hbz
              have hQ6 := hQ5.below hbz
              have hb6 := hb5.trans (hbz.mono hb5.size)
              go_loopw [14] (fun iv wr => ∃ i : Nat, iv = .int .i64 i ∧ i ≤ 60 ∧ QueueAt (fun k => w.heap.size ≤ k ∧ k ≠ B) wr q s5 ∧ Blk wr B (bools f 60) 4 ∧ Below w.heap.size w wr) (fun iv _ => 60 - (intOf iv).toNat)
              case atStart => exact ⟨0, rfl, by omega, hQ6, hB6, hb6⟩
              case round =>
                obtain ⟨i, rfl, hi, hQi, hBi, hbi⟩ := hrel
                by_cases hlt : i < 60
                · have hltI : (i : Int) < 60 := by omega
                  have cB := hBi.cell (bools_get (f := f) hlt)
                  rw [HLn.out i hlt] at cB
                  go_wp2_with fail
                  go_roundw
                  case rel => exact ⟨i + 1, by go_num, by omega, hQi, hBi, hbi⟩
                  case measure => simp [intOf]; omega
                · have hlK : ¬ (i : Int) < 60 := by omega
                  go_wp2_with fail
                  refine (known25 _).mono ?_
                  rintro e w7 ⟨rfl, hb7⟩
                  have hQ7 := hQi.below hb7
                  have hbb := hbi.trans (hb7.mono hbi.size)
                  go_wp2_with fail
                  refine (len_q hQ7).mono ?_
                  rintro e w8 ⟨rfl, hb8⟩
                  have hbb8 := hbb.trans (hb8.mono hbb.size)
                  have e0 : ((s5.L.length : Nat) : Int) = 0 := by rw [HL0.out]; rfl
                  rw [e0]
                  go_wp2_with fail
                  go_ret
                  exact ⟨rfl, hbb8⟩
            · obtain ⟨j, hj, rfl⟩ := hLs.out.el x hx
              obtain ⟨hfj, hL5⟩ := hLs.out.take hfk hj hx
              have HL5 := Lib.hid hL5
              have hlen5 := hLs.out.tak
              have hpos : 0 < s.L.length := List.length_pos_of_mem hx
              clear hL5 hx hfk
              have hev : (ent ws j).v = .agg #[.int .i64 j, .int .i64 (ws j), .int .i64 j] := rfl
              rw [hev]
              have hjI : (j : Int) < 60 := by omega
              have hj0 : ¬ (j : Int) < 0 := by omega
              have hjK : ¬ (j : Int) ≥ 60 := by omega
              obtain ⟨bl, o, rfl, hx⟩ := HI.out j hj
              have hx' := (keepB' hb5) _ _ _ trivial hx
              go_wp2_with fail
              obtain ⟨w6, hw6⟩ : ∃ w6, w5.alloc (.cells #[.int .i64 j, .int .i64 (ws j), .int .i64 j] 30) = w6 := ⟨_, rfl⟩
              obtain ⟨X, hX⟩ : ∃ X, w5.heap.size = X := ⟨_, rfl⟩
              have hb56 : Below w5.heap.size w5 w6 := by rw [← hw6]; exact (Below.refl _ _).alloc (Nat.le_refl _) _
              have x6 : Blk w6 X #[.int .i64 j, .int .i64 (ws j), .int .i64 j] 30 := by rw [← hw6]; exact Blk.new _ _ _ hX.symm
              have hB6 := hB5.below hb56
              have hQ6 := hQ5.below hb56
              have hb6 := hb5.trans (hb56.mono hb5.size)
              have hx6 := (keepB' hb6) _ _ _ trivial hx
              have cB := hB6.cell (bools_get (f := f) hj)
              rw [hfj] at cB
              rw [hw6]
              rw [hX]
              clear hw6 hX hb56 hB5 hQ5 hb5 hx'
              refine wp_region_noPanic (wp_region_need (S := fun w' => w'.cell? ⟨X, 0, none⟩ = some (.int .i64 j) ∧ w'.cell? ⟨X, 1, none⟩ = some (.int .i64 (ws j)) ∧ w'.cell? ⟨X, 2, none⟩ = some (.int .i64 j) ∧ w'.cell? ⟨B, j, none⟩ = some (.bool true) ∧ w'.cell? ⟨bl, o + j, none⟩ = some (.int .i64 (ws j))) (by kernel_rfl) ?_)
              have hS : (w6.drew).cell? ⟨X, 0, none⟩ = some (.int .i64 j) ∧ (w6.drew).cell? ⟨X, 1, none⟩ = some (.int .i64 (ws j)) ∧ (w6.drew).cell? ⟨X, 2, none⟩ = some (.int .i64 j) ∧ (w6.drew).cell? ⟨B, j, none⟩ = some (.bool true) ∧ (w6.drew).cell? ⟨bl, o + j, none⟩ = some (.int .i64 (ws j)) := ⟨x6.drew.cell rfl, x6.drew.cell rfl, x6.drew.cell rfl, cB, hx6⟩
              refine wpN_take (i := 0) (v := ?v13) rfl (by kernel_rfl) (fun _ _ _ h => h) hS (Or.inl ⟨by rfl, ?hy13⟩) ?hr13
              case hy13 => (intro wS hSw; (try dsimp only at hSw); go_simp; (try with_reducible rfl))
              try simp only [Act.put, List.setIfInBounds_toArray, List.set_cons_zero, List.set_cons_succ, List.getElem_toArray, List.getElem_cons_zero, List.getElem_cons_succ]
              refine wpN_take (i := 1) (v := ?v14) rfl (by kernel_rfl) (fun _ _ _ h => h) hS (Or.inl ⟨by rfl, ?hy14⟩) ?hr14
              case hy14 => (intro wS hSw; (try dsimp only at hSw); go_simp; (try with_reducible rfl))
              try simp only [Act.put, List.setIfInBounds_toArray, List.set_cons_zero, List.set_cons_succ, List.getElem_toArray, List.getElem_cons_zero, List.getElem_cons_succ]
              refine wpN_take (i := 2) (v := ?v15) rfl (by kernel_rfl) (fun _ _ _ h => h) hS (Or.inl ⟨by rfl, ?hy15⟩) ?hr15
              case hy15 => (intro wS hSw; (try dsimp only at hSw); go_simp; (try with_reducible rfl))
              try simp only [Act.put, List.setIfInBounds_toArray, List.set_cons_zero, List.set_cons_succ, List.getElem_toArray, List.getElem_cons_zero, List.getElem_cons_succ]
              rw [show decide ((j : Int) < 0) = false from decide_eq_false (by omega)]
              refine wpN_take (i := 3) (v := ?v16) rfl (by kernel_rfl) (fun _ _ _ h => h) hS (Or.inl ⟨by rfl, ?hy16⟩) ?hr16
              case hy16 => (intro wS hSw; (try dsimp only at hSw); go_simp; (try with_reducible rfl))
              try simp only [Act.put, List.setIfInBounds_toArray, List.set_cons_zero, List.set_cons_succ, List.getElem_toArray, List.getElem_cons_zero, List.getElem_cons_succ]
              refine wpN_take (i := 4) (v := ?v17) rfl (by kernel_rfl) (fun _ _ _ h => h) hS (Or.inl ⟨by rfl, ?hy17⟩) ?hr17
              case hy17 => (intro wS hSw; (try dsimp only at hSw); go_simp; (try with_reducible rfl))
              try simp only [Act.put, List.setIfInBounds_toArray, List.set_cons_zero, List.set_cons_succ, List.getElem_toArray, List.getElem_cons_zero, List.getElem_cons_succ]
              refine wpN_take (i := 5) (v := ?v18) rfl (by kernel_rfl) (fun _ _ _ h => h) hS (Or.inl ⟨by rfl, ?hy18⟩) ?hr18
              case hy18 => (intro wS hSw; (try dsimp only at hSw); go_simp; (try with_reducible rfl))
              try simp only [Act.put, List.setIfInBounds_toArray, List.set_cons_zero, List.set_cons_succ, List.getElem_toArray, List.getElem_cons_zero, List.getElem_cons_succ]
              refine wpN_take (i := 6) (v := ?v19) rfl (by kernel_rfl) (fun _ _ _ h => h) hS (Or.inl ⟨by rfl, ?hy19⟩) ?hr19
              case hy19 => (intro wS hSw; (try dsimp only at hSw); go_simp; (try with_reducible rfl))
              try simp only [Act.put, List.setIfInBounds_toArray, List.set_cons_zero, List.set_cons_succ, List.getElem_toArray, List.getElem_cons_zero, List.getElem_cons_succ]
              refine wpN_take (i := 7) (v := ?v20) rfl (by kernel_rfl) (fun _ _ _ h => h) hS (Or.inl ⟨by rfl, ?hy20⟩) ?hr20
              case hy20 => (intro wS hSw; (try dsimp only at hSw); go_simp; (try with_reducible rfl))
              try simp only [Act.put, List.setIfInBounds_toArray, List.set_cons_zero, List.set_cons_succ, List.getElem_toArray, List.getElem_cons_zero, List.getElem_cons_succ]
              refine wpN_take (i := 8) (v := ?v21) rfl (by kernel_rfl) (fun _ _ _ h => h) hS (Or.inl ⟨by rfl, ?hy21⟩) ?hr21
              case hy21 => (intro wS hSw; (try dsimp only at hSw); go_simp; (try with_reducible rfl))
              try simp only [Act.put, List.setIfInBounds_toArray, List.set_cons_zero, List.set_cons_succ, List.getElem_toArray, List.getElem_cons_zero, List.getElem_cons_succ]
              first
              | rw [show decide (60 ≤ j) = false from decide_eq_false (by omega)]
              | rw [show decide ((j : Int) ≥ 60) = false from decide_eq_false (by omega)]
              | rw [show decide ((60 : Int) ≤ (j : Int)) = false from decide_eq_false (by omega)]
              refine wpN_take (i := 9) (v := ?v22) rfl (by kernel_rfl) (fun _ _ _ h => h) hS (Or.inl ⟨by rfl, ?hy22⟩) ?hr22
              case hy22 => (intro wS hSw; (try dsimp only at hSw); go_simp; (try with_reducible rfl))
              try simp only [Act.put, List.setIfInBounds_toArray, List.set_cons_zero, List.set_cons_succ, List.getElem_toArray, List.getElem_cons_zero, List.getElem_cons_succ]
              refine wpN_take (i := 10) (v := ?v23) rfl (by kernel_rfl) (fun _ _ _ h => h) hS (Or.inl ⟨by rfl, ?hy23⟩) ?hr23
              case hy23 => (intro wS hSw; (try dsimp only at hSw); go_simp; (try with_reducible rfl))
              try simp only [Act.put, List.setIfInBounds_toArray, List.set_cons_zero, List.set_cons_succ, List.getElem_toArray, List.getElem_cons_zero, List.getElem_cons_succ]
              refine wpN_take (i := 11) (v := ?v24) rfl (by kernel_rfl) (fun _ _ _ h => h) hS (Or.inl ⟨by rfl, ?hy24⟩) ?hr24
              case hy24 => (intro wS hSw; (try dsimp only at hSw); go_simp; (try with_reducible rfl))
              try simp only [Act.put, List.setIfInBounds_toArray, List.set_cons_zero, List.set_cons_succ, List.getElem_toArray, List.getElem_cons_zero, List.getElem_cons_succ]
              refine wpN_take (i := 12) (v := ?v25) rfl (by kernel_rfl) (fun _ _ _ h => h) hS (Or.inl ⟨by rfl, ?hy25⟩) ?hr25
              case hy25 => (intro wS hSw; (try dsimp only at hSw); go_simp; (try with_reducible rfl))
              try simp only [Act.put, List.setIfInBounds_toArray, List.set_cons_zero, List.set_cons_succ, List.getElem_toArray, List.getElem_cons_zero, List.getElem_cons_succ]
              refine wpN_take (i := 13) (v := ?v26) rfl (by kernel_rfl) (fun _ _ _ h => h) hS (Or.inl ⟨by rfl, ?hy26⟩) ?hr26
              case hy26 => (intro wS hSw; (try dsimp only at hSw); go_simp; (try with_reducible rfl))
              try simp only [Act.put, List.setIfInBounds_toArray, List.set_cons_zero, List.set_cons_succ, List.getElem_toArray, List.getElem_cons_zero, List.getElem_cons_succ]
              refine wpN_take (i := 14) (v := ?v27) rfl (by kernel_rfl) (fun _ _ _ h => h) hS (Or.inl ⟨by rfl, ?hy27⟩) ?hr27
              case hy27 => (intro wS hSw; (try dsimp only at hSw); go_simp; (try with_reducible rfl))
              try simp only [Act.put, List.setIfInBounds_toArray, List.set_cons_zero, List.set_cons_succ, List.getElem_toArray, List.getElem_cons_zero, List.getElem_cons_succ]
              refine wpN_take (i := 15) (v := ?v28) rfl (by kernel_rfl) (fun _ _ _ h => h) hS (Or.inl ⟨by rfl, ?hy28⟩) ?hr28
              case hy28 => (intro wS hSw; (try dsimp only at hSw); go_simp; (try with_reducible rfl))
              try simp only [Act.put, List.setIfInBounds_toArray, List.set_cons_zero, List.set_cons_succ, List.getElem_toArray, List.getElem_cons_zero, List.getElem_cons_succ]
              refine wpN_take (i := 16) (v := ?v29) rfl (by kernel_rfl) (fun _ _ _ h => h) hS (Or.inl ⟨by rfl, ?hy29⟩) ?hr29
              case hy29 => (intro wS hSw; (try dsimp only at hSw); go_simp; (try with_reducible rfl))
              try simp only [Act.put, List.setIfInBounds_toArray, List.set_cons_zero, List.set_cons_succ, List.getElem_toArray, List.getElem_cons_zero, List.getElem_cons_succ]
              refine wpN_take (i := 17) (v := ?v30) rfl (by kernel_rfl) (fun _ _ _ h => h) hS (Or.inl ⟨by rfl, ?hy30⟩) ?hr30
              case hy30 => (intro wS hSw; (try dsimp only at hSw); go_simp; (try with_reducible rfl))
              try simp only [Act.put, List.setIfInBounds_toArray, List.set_cons_zero, List.set_cons_succ, List.getElem_toArray, List.getElem_cons_zero, List.getElem_cons_succ]
              refine wpN_take (i := 18) (v := ?v31) rfl (by kernel_rfl) (fun _ _ _ h => h) hS (Or.inl ⟨by rfl, ?hy31⟩) ?hr31
              case hy31 => (intro wS hSw; (try dsimp only at hSw); go_simp; (try with_reducible rfl))
              try simp only [Act.put, List.setIfInBounds_toArray, List.set_cons_zero, List.set_cons_succ, List.getElem_toArray, List.getElem_cons_zero, List.getElem_cons_succ]
              refine wpN_take (i := 19) (v := ?v32) rfl (by kernel_rfl) (fun _ _ _ h => h) hS (Or.inl ⟨by rfl, ?hy32⟩) ?hr32
              case hy32 => (intro wS hSw; (try dsimp only at hSw); go_simp; (try with_reducible rfl))
              try simp only [Act.put, List.setIfInBounds_toArray, List.set_cons_zero, List.set_cons_succ, List.getElem_toArray, List.getElem_cons_zero, List.getElem_cons_succ]
              refine wpN_take (i := 20) (v := ?v33) rfl (by kernel_rfl) (fun _ _ _ h => h) hS (Or.inl ⟨by rfl, ?hy33⟩) ?hr33
              case hy33 => (intro wS hSw; (try dsimp only at hSw); go_simp; (try with_reducible rfl))
              try simp only [Act.put, List.setIfInBounds_toArray, List.set_cons_zero, List.set_cons_succ, List.getElem_toArray, List.getElem_cons_zero, List.getElem_cons_succ]
              refine wpN_take (i := 21) (v := ?v34) rfl (by kernel_rfl) (fun _ _ _ h => h) hS (Or.inl ⟨by rfl, ?hy34⟩) ?hr34
              case hy34 => (intro wS hSw; (try dsimp only at hSw); go_simp; (try with_reducible rfl))
              try simp only [Act.put, List.setIfInBounds_toArray, List.set_cons_zero, List.set_cons_succ, List.getElem_toArray, List.getElem_cons_zero, List.getElem_cons_succ]
              refine wpN_take (i := 22) (v := ?v35) rfl (by kernel_rfl) (fun _ _ _ h => h) hS (Or.inl ⟨by rfl, ?hy35⟩) ?hr35
              case hy35 => (intro wS hSw; (try dsimp only at hSw); go_simp; (try with_reducible rfl))
              try simp only [Act.put, List.setIfInBounds_toArray, List.set_cons_zero, List.set_cons_succ, List.getElem_toArray, List.getElem_cons_zero, List.getElem_cons_succ]
              refine wpN_take (i := 23) (v := ?v36) rfl (by kernel_rfl) (fun _ _ _ h => h) hS (Or.inl ⟨by rfl, ?hy36⟩) ?hr36
              case hy36 => (intro wS hSw; (try dsimp only at hSw); go_simp; (try with_reducible rfl))
              try simp only [Act.put, List.setIfInBounds_toArray, List.set_cons_zero, List.set_cons_succ, List.getElem_toArray, List.getElem_cons_zero, List.getElem_cons_succ]
              refine wpN_take (i := 24) (v := ?v37) rfl (by kernel_rfl) (fun _ _ _ h => h) hS (Or.inl ⟨by rfl, ?hy37⟩) ?hr37
              case hy37 => (intro wS hSw; (try dsimp only at hSw); go_simp; (try with_reducible rfl))
              try simp only [Act.put, List.setIfInBounds_toArray, List.set_cons_zero, List.set_cons_succ, List.getElem_toArray, List.getElem_cons_zero, List.getElem_cons_succ]
              refine wpN_take (i := 25) (v := ?v38) rfl (by kernel_rfl) (fun _ _ _ h => h) hS (Or.inl ⟨by rfl, ?hy38⟩) ?hr38
              case hy38 => (intro wS hSw; (try dsimp only at hSw); go_simp; (try with_reducible rfl))
              try simp only [Act.put, List.setIfInBounds_toArray, List.set_cons_zero, List.set_cons_succ, List.getElem_toArray, List.getElem_cons_zero, List.getElem_cons_succ]
              refine wpN_take (i := 26) (v := ?v39) rfl (by kernel_rfl) (fun _ _ _ h => h) hS (Or.inl ⟨by rfl, ?hy39⟩) ?hr39
              case hy39 => (intro wS hSw; (try dsimp only at hSw); go_simp; (try with_reducible rfl))
              try simp only [Act.put, List.setIfInBounds_toArray, List.set_cons_zero, List.set_cons_succ, List.getElem_toArray, List.getElem_cons_zero, List.getElem_cons_succ]
              refine wpN_take (i := 27) (v := ?v40) rfl (by kernel_rfl) (fun _ _ _ h => h) hS (Or.inl ⟨by rfl, ?hy40⟩) ?hr40
              case hy40 => (intro wS hSw; (try dsimp only at hSw); go_simp; (try with_reducible rfl))
              try simp only [Act.put, List.setIfInBounds_toArray, List.set_cons_zero, List.set_cons_succ, List.getElem_toArray, List.getElem_cons_zero, List.getElem_cons_succ]
              refine wpN_take (i := 28) (v := ?v41) rfl (by kernel_rfl) (fun _ _ _ h => h) hS (Or.inl ⟨by rfl, ?hy41⟩) ?hr41
              case hy41 => (intro wS hSw; (try dsimp only at hSw); go_simp; (try with_reducible rfl))
              try simp only [Act.put, List.setIfInBounds_toArray, List.set_cons_zero, List.set_cons_succ, List.getElem_toArray, List.getElem_cons_zero, List.getElem_cons_succ]
              refine wpN_take (i := 29) (v := ?v42) rfl (by kernel_rfl) (fun _ _ _ h => h) hS (Or.inl ⟨by rfl, ?hy42⟩) ?hr42
              case hy42 => (intro wS hSw; (try dsimp only at hSw); go_simp; (try with_reducible rfl))
              try simp only [Act.put, List.setIfInBounds_toArray, List.set_cons_zero, List.set_cons_succ, List.getElem_toArray, List.getElem_cons_zero, List.getElem_cons_succ]
              refine wpN_take (i := 30) (v := ?v43) rfl (by kernel_rfl) (fun _ _ _ h => h) hS (Or.inl ⟨by rfl, ?hy43⟩) ?hr43
              case hy43 => (intro wS hSw; (try dsimp only at hSw); go_simp; (try with_reducible rfl))
              try simp only [Act.put, List.setIfInBounds_toArray, List.set_cons_zero, List.set_cons_succ, List.getElem_toArray, List.getElem_cons_zero, List.getElem_cons_succ]
              refine wpN_take (i := 31) (v := ?v44) rfl (by kernel_rfl) (fun _ _ _ h => h) hS (Or.inl ⟨by rfl, ?hy44⟩) ?hr44
              case hy44 => (intro wS hSw; (try dsimp only at hSw); go_simp; (try with_reducible rfl))
              try simp only [Act.put, List.setIfInBounds_toArray, List.set_cons_zero, List.set_cons_succ, List.getElem_toArray, List.getElem_cons_zero, List.getElem_cons_succ]
              refine wpN_take (i := 32) (v := ?v45) rfl (by kernel_rfl) (fun _ _ _ h => h) hS (Or.inl ⟨by rfl, ?hy45⟩) ?hr45
              case hy45 => (intro wS hSw; (try dsimp only at hSw); go_simp; (try with_reducible rfl))
              try simp only [Act.put, List.setIfInBounds_toArray, List.set_cons_zero, List.set_cons_succ, List.getElem_toArray, List.getElem_cons_zero, List.getElem_cons_succ]
              refine wpN_take (i := 33) (v := ?v46) rfl (by kernel_rfl) (fun _ _ _ h => h) hS (Or.inl ⟨by rfl, ?hy46⟩) ?hr46
              case hy46 => (intro wS hSw; (try dsimp only at hSw); go_simp; (try with_reducible rfl))
              try simp only [Act.put, List.setIfInBounds_toArray, List.set_cons_zero, List.set_cons_succ, List.getElem_toArray, List.getElem_cons_zero, List.getElem_cons_succ]
              refine wpN_take (i := 34) (v := ?v47) rfl (by kernel_rfl) (fun _ _ _ h => h) hS (Or.inl ⟨by rfl, ?hy47⟩) ?hr47
              case hy47 => (intro wS hSw; (try dsimp only at hSw); go_simp; (try with_reducible rfl))
              try simp only [Act.put, List.setIfInBounds_toArray, List.set_cons_zero, List.set_cons_succ, List.getElem_toArray, List.getElem_cons_zero, List.getElem_cons_succ]
              refine wpN_done (by kernel_rfl) ?_
              refine NoPanic.normal ?_
              have hd6 : Below w6.heap.size w6 w6.drew := (Below.refl _ _).drew
              have hB7 := hB6.below hd6
              have hQ7 := hQ6.below hd6
              have hb7 := hb6.trans (hd6.mono hb6.size)
              have x7 := x6.below hd6
              obtain ⟨w7, hw7⟩ : ∃ w7, w6.drew = w7 := ⟨_, rfl⟩
              rw [hw7] at hB7 hQ7 hb7 x7 ⊢
              clear hw7 hB6 hQ6 hb6 x6 hx6 cB hS hd6
              have cB := hB7.cell (bools_get (f := f) hj)
              have fB := hB7.free j
              have cx : w7.cell? ⟨X, 0, none⟩ = some (.int .i64 j) := x7.cell rfl
              go_wp2_with fail
              have hB8 := hB7.set j (.bool false)
              rw [bools_set] at hB8
              have hQ8 := hQ7.off ((Off.refl (fun k => k = B) w7).set ⟨B, j, none⟩ (.bool false) (.inl rfl)) (fun k _ hk => hk.2)
              have hb8 := hb7.setCell (p := ⟨B, j, none⟩) hwB (.bool false)
              go_roundw
              case rel => exact ⟨_, _, hQ8, HL5.out, hB8, hb8⟩
              case measure =>
                rw [htk0, hQ8.taken]
                show (100 - (s.taken + 1)).toNat < (100 - s.taken).toNat
                omega
end Go.Proofs.Ytplfbdkljnblmaa

