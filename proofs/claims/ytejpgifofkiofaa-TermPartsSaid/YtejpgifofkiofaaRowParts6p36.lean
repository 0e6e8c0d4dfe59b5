/-
  term.Var.
-/
import Derived.Test.YtejpgifofkiofaaRowParts6p14
import Derived.Test.YtejpgifofkiofaaRowParts6p4
set_option linter.unusedVariables false
set_option linter.unusedSimpArgs false
namespace Go.Proofs.Ytejpgifofkiofaa
open Go.RowKit

def VarKind (t : Tm) : Prop := ∀ (F : Nat → Prop) (w0 : World) (b k i a : Value), IsTm F w0 b k i a t → ∀ w : World, Keep F w0 w → t.full ≤ 100000 → t.Fit →
    Calls Try.prog 22 #[.agg #[b, k, i, a]] w (VarPost t w)

theorem eta_iff {t : Tm} {u : Ty} {m : Int} (hm : 0 ≤ m) : t = Ty.eta u 0 m ↔ t.Long ∧ t.kind = 0 ∧ t.headIx = m ∧ t.binds = u.args := by
  obtain ⟨l, b⟩ := u
  obtain ⟨bs, k, i, ar⟩ := t
  rw [Ty.eta_eq, if_pos rfl, tm_eq]
  unfold Tm.Long Tm.headIx
  simp only [Tm.binds, Tm.kind, Tm.index, Tm.args, Ty.args]
  constructor
  · rintro ⟨rfl, rfl, rfl, rfl⟩
    refine ⟨⟨rfl, fun _ => by omega⟩, rfl, by simp, rfl⟩
  · rintro ⟨⟨rfl, _⟩, rfl, h, rfl⟩
    refine ⟨rfl, rfl, ?_, rfl⟩
    simp at h; omega

set_option maxRecDepth 100000 in
set_option maxHeartbeats 1600000 in
theorem var_k : ∀ t : Tm, VarKind t := Tm.ind fun binds k i args ih => by
  intro F w0 b0 k0 i0 a0 ht w hw hsz hfit
  obtain ⟨rfl, rfl, hb, hs⟩ := ht.inv
  obtain ⟨pa, pc, rfl⟩ := hb.shape
  obtain ⟨a, c, rfl⟩ := hs.shape
  simp only [Tm.binds, Tm.kind, Tm.index, Tm.args] at *
  obtain ⟨_, hmb, bl1, off1, A1, N1, C1, B1, hb1, hb2, hb3, hb4⟩ := sl_cells' hb
  obtain ⟨_, hm, bl, off, PA, A, PN, PC, N, C, Kd, Ix, ha, h1, h2, h3, h4, h5⟩ := sl_cells6 hs
  clear hb hs ht
  rw [Tm.full_eq] at hsz
  obtain ⟨hi0, hi1, hfa⟩ := Tm.fit_iff.1 hfit
  have hnl : binds.length ≤ 100000 := by have := Ty.le_sizes binds; omega
  have hal : args.length ≤ 100000 := by have := Tm.len_fulls args; omega
  have HL : Hid ((Tm.mk binds k i args).Long ↔ args = Ty.etas binds ∧ (k = 0 → (binds.length : Int) ≤ i)) := Iff.rfl
  have HH : Hid ((Tm.mk binds k i args).headIx = if k = 0 then i - (binds.length : Nat) else i) := rfl
  have H5 : Hid (∀ j (h : j < args.length) (w : World), Keep F w0 w → Calls Try.prog 22 #[.agg #[.slice (PA j) (PN j) (PC j), .int .i64 (Kd j), .int .i64 (Ix j), .slice (A j) (N j) (C j)]] w (VarPost args[j] w)) :=
    fun j h w hw => ih _ (List.getElem_mem h) _ _ _ _ _ _ (h5 j h) w hw (by have := Tm.full_mem (List.getElem_mem h); omega) (hfa _ (List.getElem_mem h))
  have HB : Hid (∀ j (h : j < args.length), IsSl rpTy F w0 (.slice (PA j) (PN j) (PC j)) args[j].binds) := fun j h => (h5 j h).inv.2.2.1
  have HT := Lib.hid hb4
  clear hb4 h5 ih hfit hfa
  unfold maxLen at hm hmb
  obtain ⟨lg, hlg⟩ : ∃ lg : Prop, (Tm.mk binds k i args).Long = lg := ⟨_, rfl⟩
  by_cases hlen : args.length = binds.length
  rotate_left
  · have HN : Hid (¬ lg) := by show ¬ _; rw [← hlg, HL.out]; rintro ⟨h, _⟩; exact hlen (by rw [h, Ty.etas_len])
    have hli : ¬ (args.length : Int) = (binds.length : Int) := by omega
    have hg : ((args.length : Int) == (binds.length : Int)) = false := by simpa using hli
    have hg' : ((args.length : Int) != (binds.length : Int)) = true := by simpa using hli
    go_enter Try.func22, Try.ntmps22
    go_wp2_with fail
    refine bodyPost_ret (v := .tuple #[.agg #[.int .i64 0, .int .i64 0], .bool false]) (by simp [results, Try.results22, go_sem]) rfl ?_
    exact ⟨false, ⟨fun h => absurd h (by decide), fun h => absurd h (by rw [hlg]; exact HN.out)⟩, rfl, (((Below.refl _ _).alloc (Nat.le_refl _) _).alloc (by simp) _).alloc (by simp; omega) _⟩
  by_cases hk : k = 0
  · subst hk
    have hk0 : ((0 : Int) == 0) = true := rfl
    by_cases hlt : i < (binds.length : Int)
    · have HN : Hid (¬ lg) := by show ¬ _; rw [← hlg, HL.out]; rintro ⟨_, h⟩; have := h rfl; omega
      have hli : (args.length : Int) = (binds.length : Int) := by omega
      have hg : ((args.length : Int) == (binds.length : Int)) = true := by simpa using hli
      have hg' : ((args.length : Int) != (binds.length : Int)) = false := by simpa using hli
      go_enter Try.func22, Try.ntmps22
      go_wp2_with fail
      refine bodyPost_ret (v := .tuple #[.agg #[.int .i64 0, .int .i64 0], .bool false]) (by simp [results, Try.results22, go_sem]) rfl ?_
      exact ⟨false, ⟨fun h => absurd h (by decide), fun h => absurd h (by rw [hlg]; exact HN.out)⟩, rfl, (((Below.refl _ _).alloc (Nat.le_refl _) _).alloc (by simp) _).alloc (by simp; omega) _⟩
    · have HG : Hid ((0 : Int) = 0 → (binds.length : Int) ≤ i) := fun _ => by omega
      have HI : Hid ((Tm.mk binds 0 i args).headIx = i - (binds.length : Int)) := by show _ = _; rw [HH.out, if_pos rfl]
      have hwr : IntKind.i64.wrap (i - (binds.length : Int)) = i - (binds.length : Int) := IntWalk.i64_in _ (by omega)
      have hli : (args.length : Int) = (binds.length : Int) := by omega
      have hg : ((args.length : Int) == (binds.length : Int)) = true := by simpa using hli
      have hg' : ((args.length : Int) != (binds.length : Int)) = false := by simpa using hli
      have Hlen := Lib.hid hlen
      clear hlen
      go_enter Try.func22, Try.ntmps22
      go_wp2_with fail
      obtain ⟨w3, hw3⟩ : ∃ w3, ((w.alloc (.cells #[.slice pa binds.length pc, .int .i64 0, .int .i64 i, .slice a args.length c] 37)).alloc (.cells #[.int .i64 0, .int .i64 0] 34)).alloc (.cells #[.int .i64 0, .int .i64 i] 34) = w3 := ⟨_, rfl⟩
      have B3 : Below w.heap.size w w3 := by rw [← hw3]; exact (((Below.refl _ _).alloc (Nat.le_refl _) _).alloc (by simp) _).alloc (by simp; omega) _
      have x0 : Blk w3 w.heap.size #[.slice pa binds.length pc, .int .i64 0, .int .i64 i, .slice a args.length c] 37 := by rw [← hw3]; exact ((Blk.new _ _ _ rfl).alloc _).alloc _
      have x1 : Blk w3 (w.heap.size + 1) #[.int .i64 0, .int .i64 0] 34 := by rw [← hw3]; exact (Blk.new _ _ _ (by simp)).alloc _
      have x2 : Blk w3 (w.heap.size + 1 + 1) #[.int .i64 0, .int .i64 i] 34 := by rw [← hw3]; exact Blk.new _ _ _ (by simp)
      try rw [hw3]
      clear hw3
      go_loopw [35] (fun ii wr => ∃ j : Nat, ii = .int .i64 j ∧ j ≤ binds.length ∧ Hid (args.take j = (Ty.etas binds).take j) ∧ Below w.heap.size w wr ∧ Blk wr w.heap.size #[.slice pa binds.length pc, .int .i64 0, .int .i64 i, .slice a args.length c] 37 ∧ Blk wr (w.heap.size + 1) #[.int .i64 0, .int .i64 0] 34 ∧ Blk wr (w.heap.size + 1 + 1) #[.int .i64 0, .int .i64 i] 34) (fun ii _ => binds.length - (intOf ii).toNat)
      case atStart => exact ⟨0, rfl, by omega, rfl, B3, x0, x1, x2⟩
      case round =>
        clear B3 x0 x1 x2
        obtain ⟨j, rfl, hj, hall, hb, hbox, hres, hh⟩ := hrel
        have hlt0 := hbox.lt
        have hlt1 := hres.lt
        have hlt2 := hh.lt
        have c10 : wr.cell? ⟨w.heap.size + 1, 0, none⟩ = some (.int .i64 0) := hres.cell rfl
        have c11 : wr.cell? ⟨w.heap.size + 1, 1, none⟩ = some (.int .i64 0) := hres.cell rfl
        have c20 : wr.cell? ⟨w.heap.size + 1 + 1, 0, none⟩ = some (.int .i64 0) := hh.cell rfl
        have c21 : wr.cell? ⟨w.heap.size + 1 + 1, 1, none⟩ = some (.int .i64 i) := hh.cell rfl
        by_cases hlt : j < binds.length
        · have hlt' : j < args.length := by have := Hlen.out; omega
          obtain ⟨rfl, hF⟩ := ha (by omega)
          obtain ⟨rfl, hF1⟩ := hb1 (by omega)
          have hkp : Keep F w0 wr := hw.below hb
          have e1 := hkp _ _ _ hF (h1 j hlt')
          have e2 := hkp _ _ _ hF (h2 j hlt')
          have e3 := hkp _ _ _ hF (h3 j hlt')
          have e4 := hkp _ _ _ hF (h4 j hlt')
          have hj0 : (0 : Int) ≤ (j : Int) := Int.natCast_nonneg _
          have hj1 : (j : Int) < (binds.length : Int) := by omega
          have hn2 : (binds.length : Int) ≤ 100000 := by omega
          have hblw : bl < wr.heap.size := Keep.lt e1
          have Hiff := Lib.hid (eta_iff (t := args[j]) (u := binds[j]) (m := (binds.length : Int) - 1 - j) (by omega))
          have HLj : Hid (¬ args[j] = Ty.eta binds[j] 0 ((binds.length : Int) - 1 - j) → ¬ lg) := fun h hl => by
            rw [← hlg, HL.out] at hl
            have h2 := Ty.etas_get binds j hlt
            apply h
            rw [← h2]
            simp only [hl.1]
          have hq1 : IntKind.i64.wrap ((binds.length : Int) - 1) = (binds.length : Int) - 1 := IntWalk.i64_in _ (by omega)
          have hq2 : IntKind.i64.wrap ((binds.length : Int) - 1 - (j : Int)) = (binds.length : Int) - 1 - (j : Int) := IntWalk.i64_in _ (by omega)
          go_wp2_with fail
          obtain ⟨wa, hwa⟩ : ∃ wa, wr.alloc (.cells #[.slice (PA j) (PN j) (PC j), .int .i64 (Kd j), .int .i64 (Ix j), .slice (A j) (N j) (C j)] 37) = wa := ⟨_, rfl⟩
          obtain ⟨qn, hqn⟩ : ∃ qn, wr.heap.size = qn := ⟨_, rfl⟩
          have ba : Below wr.heap.size wr wa := by rw [← hwa]; exact (Below.refl _ _).alloc (Nat.le_refl _) _
          have xa : Blk wa qn #[.slice (PA j) (PN j) (PC j), .int .i64 (Kd j), .int .i64 (Ix j), .slice (A j) (N j) (C j)] 37 := by rw [← hwa]; exact Blk.new _ _ _ hqn.symm
          have hqw : w.heap.size + 1 + 1 < qn := by omega
          try rw [hwa]
          try rw [hqn]
          clear hwa hqn
          have hba := hb.trans (ba.mono hb.size)
          have hboxa := hbox.below ba
          have hresa := hres.below ba
          have hha := hh.below ba
          clear hb hbox hres hh ba c10 c11 c20 c21 e1 e2 e3 e4 hblw hkp hlt0 hlt1 hlt2
          refine (H5.out j hlt' wa (hw.below hba)).mono ?_
          intro e w5 h
          obtain ⟨r, Hr, rfl, hb5⟩ := h
          have hB5 := hba.trans (hb5.mono hba.size)
          have hbox5 := hboxa.below hb5
          have hres5 := hresa.below hb5
          have hh5 := hha.below hb5
          have xa5 := xa.below hb5
          clear hba hboxa hresa hha xa hb5
          have hlt0 := hbox5.lt
          have hlt1 := hres5.lt
          have hlt2 := hh5.lt
          have hlta := xa5.lt
          have c10 : w5.cell? ⟨w.heap.size + 1, 0, none⟩ = some (.int .i64 0) := hres5.cell rfl
          have c11 : w5.cell? ⟨w.heap.size + 1, 1, none⟩ = some (.int .i64 0) := hres5.cell rfl
          have f10 := hres5.free 0
          have f11 := hres5.free 1
          cases r
          · have HN : Hid (¬ lg) := HLj.out fun h => absurd (Hr.out.2 (Hiff.out.1 h).1) (by decide)
            simp only [Bool.false_eq_true, if_false]
            have z := ((hres5.set 0 (.int .i64 0)).set 1 (.int .i64 0)).alloc (.cells #[.int .i64 0, .int .i64 0] 34)
            have z0 := z.cell (i := 0) (v := .int .i64 0) rfl
            have z1 := z.cell (i := 1) (v := .int .i64 0) rfl
            go_wp2_with fail
            refine bodyPost_ret (v := .tuple #[.agg #[.int .i64 0, .int .i64 0], .bool false]) (by simp [results, Try.results22, go_sem, z0, z1]) rfl ?_
            exact ⟨false, ⟨fun h => absurd h (by decide), fun h => absurd h (by rw [hlg]; exact HN.out)⟩, rfl, ((hB5.setCell (by simp <;> omega) _).setCell (by simp <;> omega) _).alloc (by have := hB5.size; simpa using this) _⟩
          · have Hlong := Lib.hid (Hr.out.1 rfl); clear Hr
            simp only [if_true]
            obtain ⟨kk, hkk⟩ : ∃ kk, args[j].kind = kk := ⟨_, rfl⟩
            obtain ⟨ix, hix⟩ : ∃ ix, args[j].headIx = ix := ⟨_, rfl⟩
            rw [hkk, hix] at Hiff
            rw [hkk, hix]
            clear hkk hix
            by_cases hk1 : kk = 0
            rotate_left
            · have HN : Hid (¬ lg) := HLj.out fun h => hk1 (Hiff.out.1 h).2.1
              have g1 : (kk == 0) = false := by simpa using hk1
              have g2 : (kk != 0) = true := by simpa using hk1
              have z := ((hres5.set 0 (.int .i64 0)).set 1 (.int .i64 0)).alloc (.cells #[.int .i64 kk, .int .i64 ix] 34)
              have z0 := z.cell (i := 0) (v := .int .i64 0) rfl
              have z1 := z.cell (i := 1) (v := .int .i64 0) rfl
              go_wp2_with fail
              refine bodyPost_ret (v := .tuple #[.agg #[.int .i64 0, .int .i64 0], .bool false]) (by simp [results, Try.results22, go_sem, z0, z1]) rfl ?_
              exact ⟨false, ⟨fun h => absurd h (by decide), fun h => absurd h (by rw [hlg]; exact HN.out)⟩, rfl, ((hB5.setCell (by simp <;> omega) _).setCell (by simp <;> omega) _).alloc (by have := hB5.size; simpa using this) _⟩
            subst hk1
            by_cases hi1' : ix = (binds.length : Int) - 1 - (j : Int)
            rotate_left
            · have HN : Hid (¬ lg) := HLj.out fun h => hi1' (Hiff.out.1 h).2.2.1
              have g1 : (ix == (binds.length : Int) - 1 - (j : Int)) = false := by simpa using hi1'
              have g2 : (ix != (binds.length : Int) - 1 - (j : Int)) = true := by simpa using hi1'
              have z := ((hres5.set 0 (.int .i64 0)).set 1 (.int .i64 0)).alloc (.cells #[.int .i64 0, .int .i64 ix] 34)
              have z0 := z.cell (i := 0) (v := .int .i64 0) rfl
              have z1 := z.cell (i := 1) (v := .int .i64 0) rfl
              go_wp2_with fail
              refine bodyPost_ret (v := .tuple #[.agg #[.int .i64 0, .int .i64 0], .bool false]) (by simp [results, Try.results22, go_sem, z0, z1]) rfl ?_
              exact ⟨false, ⟨fun h => absurd h (by decide), fun h => absurd h (by rw [hlg]; exact HN.out)⟩, rfl, ((hB5.setCell (by simp <;> omega) _).setCell (by simp <;> omega) _).alloc (by have := hB5.size; simpa using this) _⟩
            subst hi1'
            have g1 : (((binds.length : Int) - 1 - (j : Int)) == (binds.length : Int) - 1 - (j : Int)) = true := by simp
            have g2 : (((binds.length : Int) - 1 - (j : Int)) != (binds.length : Int) - 1 - (j : Int)) = false := by simp
            go_wp2_with fail
            obtain ⟨w6, hw6⟩ : ∃ w6, w5.alloc (.cells #[.int .i64 0, .int .i64 ((binds.length : Int) - 1 - (j : Int))] 34) = w6 := ⟨_, rfl⟩
            have b6 : Below w5.heap.size w5 w6 := by rw [← hw6]; exact (Below.refl _ _).alloc (Nat.le_refl _) _
            try rw [hw6]
            clear hw6
            have hB6 := hB5.trans (b6.mono hB5.size)
            have hbox6 := hbox5.below b6
            have hres6 := hres5.below b6
            have hh6 := hh5.below b6
            have xa6 := xa5.below b6
            clear hB5 hbox5 hres5 hh5 xa5 b6 c10 c11 f10 f11 hlt0 hlt1 hlt2 hlta
            have k1 := (hw.below hB6) _ _ _ hF1 (hb2 j hlt)
            refine wp_region_noPanic (wp_region_need (S := fun w' => w'.cell? ⟨qn, 0, none⟩ = some (.slice (PA j) (PN j) (PC j)) ∧ w'.cell? ⟨w.heap.size, 0, none⟩ = some (.slice (some ⟨bl1, off1, none⟩) binds.length pc) ∧ w'.cell? ⟨bl1, off1 + j * 2, none⟩ = some (.slice (A1 j) (N1 j) (C1 j))) (by kernel_rfl) ?_)
            have hS : (w6.drew).cell? ⟨qn, 0, none⟩ = some (.slice (PA j) (PN j) (PC j)) ∧ (w6.drew).cell? ⟨w.heap.size, 0, none⟩ = some (.slice (some ⟨bl1, off1, none⟩) binds.length pc) ∧ (w6.drew).cell? ⟨bl1, off1 + j * 2, none⟩ = some (.slice (A1 j) (N1 j) (C1 j)) := ⟨xa6.drew.cell rfl, hbox6.drew.cell rfl, k1⟩
            refine wpN_take (i := 0) (v := ?v1) rfl (by kernel_rfl) (fun _ _ _ h => h) hS (Or.inl ⟨by rfl, ?hy1⟩) ?hr1
            case hy1 => (intro wS hSw; (try dsimp only at hSw); go_simp; (try with_reducible rfl))
            try simp only [Act.put, List.setIfInBounds_toArray, List.set_cons_zero, List.set_cons_succ, List.getElem_toArray, List.getElem_cons_zero, List.getElem_cons_succ]
            refine wpN_take (i := 1) (v := ?v2) rfl (by kernel_rfl) (fun _ _ _ h => h) hS (Or.inl ⟨by rfl, ?hy2⟩) ?hr2
            case hy2 => (intro wS hSw; (try dsimp only at hSw); go_simp; (try with_reducible rfl))
            try simp only [Act.put, List.setIfInBounds_toArray, List.set_cons_zero, List.set_cons_succ, List.getElem_toArray, List.getElem_cons_zero, List.getElem_cons_succ]
            refine wpN_take (i := 2) (v := ?v3) rfl (by kernel_rfl) (fun _ _ _ h => h) hS (Or.inl ⟨by rfl, ?hy3⟩) ?hr3
            case hy3 => (intro wS hSw; (try dsimp only at hSw); go_simp; (try with_reducible rfl))
            try simp only [Act.put, List.setIfInBounds_toArray, List.set_cons_zero, List.set_cons_succ, List.getElem_toArray, List.getElem_cons_zero, List.getElem_cons_succ]
            refine wpN_take (i := 3) (v := ?v4) rfl (by kernel_rfl) (fun _ _ _ h => h) hS (Or.inl ⟨by rfl, ?hy4⟩) ?hr4
            case hy4 => (intro wS hSw; (try dsimp only at hSw); go_simp; (try with_reducible rfl))
            try simp only [Act.put, List.setIfInBounds_toArray, List.set_cons_zero, List.set_cons_succ, List.getElem_toArray, List.getElem_cons_zero, List.getElem_cons_succ]
            refine wpN_take (i := 4) (v := ?v5) rfl (by kernel_rfl) (fun _ _ _ h => h) hS (Or.inl ⟨by rfl, ?hy5⟩) ?hr5
            case hy5 => (intro wS hSw; (try dsimp only at hSw); go_simp; (try with_reducible rfl))
            try simp only [Act.put, List.setIfInBounds_toArray, List.set_cons_zero, List.set_cons_succ, List.getElem_toArray, List.getElem_cons_zero, List.getElem_cons_succ]
            refine wpN_take (i := 5) (v := ?v6) rfl (by kernel_rfl) (fun _ _ _ h => h) hS (Or.inl ⟨by rfl, ?hy6⟩) ?hr6
            case hy6 => (intro wS hSw; (try dsimp only at hSw); go_simp; (try with_reducible rfl))
            try simp only [Act.put, List.setIfInBounds_toArray, List.set_cons_zero, List.set_cons_succ, List.getElem_toArray, List.getElem_cons_zero, List.getElem_cons_succ]
            refine wpN_take (i := 6) (v := ?v7) rfl (by kernel_rfl) (fun _ _ _ h => h) hS (Or.inl ⟨by rfl, ?hy7⟩) ?hr7
            case hy7 => (intro wS hSw; (try dsimp only at hSw); go_simp; (try with_reducible rfl))
            try simp only [Act.put, List.setIfInBounds_toArray, List.set_cons_zero, List.set_cons_succ, List.getElem_toArray, List.getElem_cons_zero, List.getElem_cons_succ]
            refine wpN_take (i := 7) (v := ?v8) rfl (by kernel_rfl) (fun _ _ _ h => h) hS (Or.inl ⟨by rfl, ?hy8⟩) ?hr8
            case hy8 => (intro wS hSw; (try dsimp only at hSw); go_simp; (try with_reducible rfl))
            try simp only [Act.put, List.setIfInBounds_toArray, List.set_cons_zero, List.set_cons_succ, List.getElem_toArray, List.getElem_cons_zero, List.getElem_cons_succ]
            refine wpN_step (i := 8) (by kernel_rfl) rfl (fun K hK => ?_)
            go_simp
            refine (equalFunc_k (HB.out j hlt') (HT.out j hlt).inv.2 (fun t _ => equal_k t) _ (hw.below hB6).drew (hw.below hB6).drew).mono ?_
            intro e w7 h
            obtain ⟨r2, Hr2, rfl, hb7⟩ := of_retB' h
            clear h
            have b7 : Below w6.heap.size w6 w7 := (Below.refl _ _).drew.trans hb7
            have hB7 := hB6.trans (b7.mono hB6.size)
            have hbox7 := hbox6.below b7
            have hres7 := hres6.below b7
            have hh7 := hh6.below b7
            have xa7 := xa6.below b7
            clear hB6 hbox6 hres6 hh6 xa6 hb7 b7 k1
            have hS : (w7).cell? ⟨qn, 0, none⟩ = some (.slice (PA j) (PN j) (PC j)) ∧ (w7).cell? ⟨w.heap.size, 0, none⟩ = some (.slice (some ⟨bl1, off1, none⟩) binds.length pc) ∧ (w7).cell? ⟨bl1, off1 + j * 2, none⟩ = some (.slice (A1 j) (N1 j) (C1 j)) := ⟨xa7.cell rfl, hbox7.cell rfl, (hw.below hB7) _ _ _ hF1 (hb2 j hlt)⟩
            refine hK.out _ _ (fun _ => hS) ?_
            clear hK K
            try simp only [Act.put, List.setIfInBounds_toArray, List.set_cons_zero, List.set_cons_succ, List.getElem_toArray, List.getElem_cons_zero, List.getElem_cons_succ]
            refine wpN_take (i := 9) (v := ?v9) rfl (by kernel_rfl) (fun _ _ _ h => h) hS (Or.inl ⟨by rfl, ?hy9⟩) ?hr9
            case hy9 => (intro wS hSw; (try dsimp only at hSw); go_simp; (try with_reducible rfl))
            try simp only [Act.put, List.setIfInBounds_toArray, List.set_cons_zero, List.set_cons_succ, List.getElem_toArray, List.getElem_cons_zero, List.getElem_cons_succ]
            refine wpN_done (by kernel_rfl) ?_
            refine NoPanic.normal ?_
            clear hS
            cases r2
            · have HN : Hid (¬ lg) := HLj.out fun h => absurd (Hr2.out.2 (Hiff.out.1 h).2.2.2) (by decide)
              have c10 : w7.cell? ⟨w.heap.size + 1, 0, none⟩ = some (.int .i64 0) := hres7.cell rfl
              have c11 : w7.cell? ⟨w.heap.size + 1, 1, none⟩ = some (.int .i64 0) := hres7.cell rfl
              have f10 := hres7.free 0
              have f11 := hres7.free 1
              go_wp2_with fail
              refine bodyPost_ret (v := .tuple #[.agg #[.int .i64 0, .int .i64 0], .bool false]) (by simp [results, Try.results22, go_sem, c10, c11]) rfl ?_
              exact ⟨false, ⟨fun h => absurd h (by decide), fun h => absurd h (by rw [hlg]; exact HN.out)⟩, rfl, (hB7.setCell (by simp <;> omega) _).setCell (by simp <;> omega) _⟩
            · have Heq : Hid (args[j] = Ty.eta binds[j] 0 ((binds.length : Int) - 1 - (j : Int))) := Hiff.out.2 ⟨Hlong.out, by trivial, by trivial, Hr2.out.1 rfl⟩
              go_wp2_with fail
              go_roundw
              case rel => exact ⟨j + 1, by go_num, by omega, by show _ = _; rw [List.take_succ_eq_append_getElem hlt', Ty.etas_take binds j hlt, hall.out, Heq.out], hB7, hbox7, hres7, hh7⟩
              case measure => simp [intOf]; omega
        · have HLt : Hid lg := by
            show lg
            rw [← hlg, HL.out]
            have h := hall.out
            rw [List.take_of_length_le (by have := Hlen.out; omega), List.take_of_length_le (by rw [Ty.etas_len]; omega)] at h
            exact ⟨h, HG.out⟩
          have f10 := hres.free 0
          have f11 := hres.free 1
          have f20 := hh.free 0
          have f21 := hh.free 1
          go_wp2_with fail
          refine bodyPost_ret (v := .tuple #[.agg #[.int .i64 0, .int .i64 (i - (binds.length : Int))], .bool true]) (by simp [results, Try.results22, go_sem, c10, c11]) rfl ?_
          exact ⟨true, ⟨fun _ => by rw [hlg]; exact HLt.out, fun _ => rfl⟩, by simp [HI.out, Tm.kind], ((hb.setCell (by simp <;> omega) _).setCell (by simp <;> omega) _).setCell (by simp <;> omega) _⟩
  · have hk0 : (k == 0) = false := by simpa using hk
    have HG : Hid (k = 0 → (binds.length : Int) ≤ i) := fun h => absurd h hk
    have HI : Hid ((Tm.mk binds k i args).headIx = i) := by show _ = _; rw [HH.out, if_neg hk]
    have hli : (args.length : Int) = (binds.length : Int) := by omega
    have hg : ((args.length : Int) == (binds.length : Int)) = true := by simpa using hli
    have hg' : ((args.length : Int) != (binds.length : Int)) = false := by simpa using hli
    have Hlen := Lib.hid hlen
    clear hlen
    go_enter Try.func22, Try.ntmps22
    go_wp2_with fail
    obtain ⟨w3, hw3⟩ : ∃ w3, ((w.alloc (.cells #[.slice pa binds.length pc, .int .i64 k, .int .i64 i, .slice a args.length c] 37)).alloc (.cells #[.int .i64 0, .int .i64 0] 34)).alloc (.cells #[.int .i64 k, .int .i64 i] 34) = w3 := ⟨_, rfl⟩
    have B3 : Below w.heap.size w w3 := by rw [← hw3]; exact (((Below.refl _ _).alloc (Nat.le_refl _) _).alloc (by simp) _).alloc (by simp; omega) _
    have x0 : Blk w3 w.heap.size #[.slice pa binds.length pc, .int .i64 k, .int .i64 i, .slice a args.length c] 37 := by rw [← hw3]; exact ((Blk.new _ _ _ rfl).alloc _).alloc _
    have x1 : Blk w3 (w.heap.size + 1) #[.int .i64 0, .int .i64 0] 34 := by rw [← hw3]; exact (Blk.new _ _ _ (by simp)).alloc _
    have x2 : Blk w3 (w.heap.size + 1 + 1) #[.int .i64 k, .int .i64 i] 34 := by rw [← hw3]; exact Blk.new _ _ _ (by simp)
    try rw [hw3]
    clear hw3
    go_loopw [35] (fun ii wr => ∃ j : Nat, ii = .int .i64 j ∧ j ≤ binds.length ∧ Hid (args.take j = (Ty.etas binds).take j) ∧ Below w.heap.size w wr ∧ Blk wr w.heap.size #[.slice pa binds.length pc, .int .i64 k, .int .i64 i, .slice a args.length c] 37 ∧ Blk wr (w.heap.size + 1) #[.int .i64 0, .int .i64 0] 34 ∧ Blk wr (w.heap.size + 1 + 1) #[.int .i64 k, .int .i64 i] 34) (fun ii _ => binds.length - (intOf ii).toNat)
    case atStart => exact ⟨0, rfl, by omega, rfl, B3, x0, x1, x2⟩
    case round =>
      clear B3 x0 x1 x2
      obtain ⟨j, rfl, hj, hall, hb, hbox, hres, hh⟩ := hrel
      have hlt0 := hbox.lt
      have hlt1 := hres.lt
      have hlt2 := hh.lt
      have c10 : wr.cell? ⟨w.heap.size + 1, 0, none⟩ = some (.int .i64 0) := hres.cell rfl
      have c11 : wr.cell? ⟨w.heap.size + 1, 1, none⟩ = some (.int .i64 0) := hres.cell rfl
      have c20 : wr.cell? ⟨w.heap.size + 1 + 1, 0, none⟩ = some (.int .i64 k) := hh.cell rfl
      have c21 : wr.cell? ⟨w.heap.size + 1 + 1, 1, none⟩ = some (.int .i64 i) := hh.cell rfl
      by_cases hlt : j < binds.length
      · have hlt' : j < args.length := by have := Hlen.out; omega
        obtain ⟨rfl, hF⟩ := ha (by omega)
        obtain ⟨rfl, hF1⟩ := hb1 (by omega)
        have hkp : Keep F w0 wr := hw.below hb
        have e1 := hkp _ _ _ hF (h1 j hlt')
        have e2 := hkp _ _ _ hF (h2 j hlt')
        have e3 := hkp _ _ _ hF (h3 j hlt')
        have e4 := hkp _ _ _ hF (h4 j hlt')
        have hj0 : (0 : Int) ≤ (j : Int) := Int.natCast_nonneg _
        have hj1 : (j : Int) < (binds.length : Int) := by omega
        have hn2 : (binds.length : Int) ≤ 100000 := by omega
        have hblw : bl < wr.heap.size := Keep.lt e1
        have Hiff := Lib.hid (eta_iff (t := args[j]) (u := binds[j]) (m := (binds.length : Int) - 1 - j) (by omega))
        have HLj : Hid (¬ args[j] = Ty.eta binds[j] 0 ((binds.length : Int) - 1 - j) → ¬ lg) := fun h hl => by
          rw [← hlg, HL.out] at hl
          have h2 := Ty.etas_get binds j hlt
          apply h
          rw [← h2]
          simp only [hl.1]
        have hq1 : IntKind.i64.wrap ((binds.length : Int) - 1) = (binds.length : Int) - 1 := IntWalk.i64_in _ (by omega)
        have hq2 : IntKind.i64.wrap ((binds.length : Int) - 1 - (j : Int)) = (binds.length : Int) - 1 - (j : Int) := IntWalk.i64_in _ (by omega)
        go_wp2_with fail
        obtain ⟨wa, hwa⟩ : ∃ wa, wr.alloc (.cells #[.slice (PA j) (PN j) (PC j), .int .i64 (Kd j), .int .i64 (Ix j), .slice (A j) (N j) (C j)] 37) = wa := ⟨_, rfl⟩
        obtain ⟨qn, hqn⟩ : ∃ qn, wr.heap.size = qn := ⟨_, rfl⟩
        have ba : Below wr.heap.size wr wa := by rw [← hwa]; exact (Below.refl _ _).alloc (Nat.le_refl _) _
        have xa : Blk wa qn #[.slice (PA j) (PN j) (PC j), .int .i64 (Kd j), .int .i64 (Ix j), .slice (A j) (N j) (C j)] 37 := by rw [← hwa]; exact Blk.new _ _ _ hqn.symm
        have hqw : w.heap.size + 1 + 1 < qn := by omega
        try rw [hwa]
        try rw [hqn]
        clear hwa hqn
        have hba := hb.trans (ba.mono hb.size)
        have hboxa := hbox.below ba
        have hresa := hres.below ba
        have hha := hh.below ba
        clear hb hbox hres hh ba c10 c11 c20 c21 e1 e2 e3 e4 hblw hkp hlt0 hlt1 hlt2
        refine (H5.out j hlt' wa (hw.below hba)).mono ?_
        intro e w5 h
        obtain ⟨r, Hr, rfl, hb5⟩ := h
        have hB5 := hba.trans (hb5.mono hba.size)
        have hbox5 := hboxa.below hb5
        have hres5 := hresa.below hb5
        have hh5 := hha.below hb5
        have xa5 := xa.below hb5
        clear hba hboxa hresa hha xa hb5
        have hlt0 := hbox5.lt
        have hlt1 := hres5.lt
        have hlt2 := hh5.lt
        have hlta := xa5.lt
        have c10 : w5.cell? ⟨w.heap.size + 1, 0, none⟩ = some (.int .i64 0) := hres5.cell rfl
        have c11 : w5.cell? ⟨w.heap.size + 1, 1, none⟩ = some (.int .i64 0) := hres5.cell rfl
        have f10 := hres5.free 0
        have f11 := hres5.free 1
        cases r
        · have HN : Hid (¬ lg) := HLj.out fun h => absurd (Hr.out.2 (Hiff.out.1 h).1) (by decide)
          simp only [Bool.false_eq_true, if_false]
          have z := ((hres5.set 0 (.int .i64 0)).set 1 (.int .i64 0)).alloc (.cells #[.int .i64 0, .int .i64 0] 34)
          have z0 := z.cell (i := 0) (v := .int .i64 0) rfl
          have z1 := z.cell (i := 1) (v := .int .i64 0) rfl
          go_wp2_with fail
          refine bodyPost_ret (v := .tuple #[.agg #[.int .i64 0, .int .i64 0], .bool false]) (by simp [results, Try.results22, go_sem, z0, z1]) rfl ?_
          exact ⟨false, ⟨fun h => absurd h (by decide), fun h => absurd h (by rw [hlg]; exact HN.out)⟩, rfl, ((hB5.setCell (by simp <;> omega) _).setCell (by simp <;> omega) _).alloc (by have := hB5.size; simpa using this) _⟩
        · have Hlong := Lib.hid (Hr.out.1 rfl); clear Hr
          simp only [if_true]
          obtain ⟨kk, hkk⟩ : ∃ kk, args[j].kind = kk := ⟨_, rfl⟩
          obtain ⟨ix, hix⟩ : ∃ ix, args[j].headIx = ix := ⟨_, rfl⟩
          rw [hkk, hix] at Hiff
          rw [hkk, hix]
          clear hkk hix
          by_cases hk1 : kk = 0
          rotate_left
          · have HN : Hid (¬ lg) := HLj.out fun h => hk1 (Hiff.out.1 h).2.1
            have g1 : (kk == 0) = false := by simpa using hk1
            have g2 : (kk != 0) = true := by simpa using hk1
            have z := ((hres5.set 0 (.int .i64 0)).set 1 (.int .i64 0)).alloc (.cells #[.int .i64 kk, .int .i64 ix] 34)
            have z0 := z.cell (i := 0) (v := .int .i64 0) rfl
            have z1 := z.cell (i := 1) (v := .int .i64 0) rfl
            go_wp2_with fail
            refine bodyPost_ret (v := .tuple #[.agg #[.int .i64 0, .int .i64 0], .bool false]) (by simp [results, Try.results22, go_sem, z0, z1]) rfl ?_
            exact ⟨false, ⟨fun h => absurd h (by decide), fun h => absurd h (by rw [hlg]; exact HN.out)⟩, rfl, ((hB5.setCell (by simp <;> omega) _).setCell (by simp <;> omega) _).alloc (by have := hB5.size; simpa using this) _⟩
          subst hk1
          by_cases hi1' : ix = (binds.length : Int) - 1 - (j : Int)
          rotate_left
          · have HN : Hid (¬ lg) := HLj.out fun h => hi1' (Hiff.out.1 h).2.2.1
            have g1 : (ix == (binds.length : Int) - 1 - (j : Int)) = false := by simpa using hi1'
            have g2 : (ix != (binds.length : Int) - 1 - (j : Int)) = true := by simpa using hi1'
            have z := ((hres5.set 0 (.int .i64 0)).set 1 (.int .i64 0)).alloc (.cells #[.int .i64 0, .int .i64 ix] 34)
            have z0 := z.cell (i := 0) (v := .int .i64 0) rfl
            have z1 := z.cell (i := 1) (v := .int .i64 0) rfl
            go_wp2_with fail
            refine bodyPost_ret (v := .tuple #[.agg #[.int .i64 0, .int .i64 0], .bool false]) (by simp [results, Try.results22, go_sem, z0, z1]) rfl ?_
            exact ⟨false, ⟨fun h => absurd h (by decide), fun h => absurd h (by rw [hlg]; exact HN.out)⟩, rfl, ((hB5.setCell (by simp <;> omega) _).setCell (by simp <;> omega) _).alloc (by have := hB5.size; simpa using this) _⟩
          subst hi1'
          have g1 : (((binds.length : Int) - 1 - (j : Int)) == (binds.length : Int) - 1 - (j : Int)) = true := by simp
          have g2 : (((binds.length : Int) - 1 - (j : Int)) != (binds.length : Int) - 1 - (j : Int)) = false := by simp
          go_wp2_with fail
          obtain ⟨w6, hw6⟩ : ∃ w6, w5.alloc (.cells #[.int .i64 0, .int .i64 ((binds.length : Int) - 1 - (j : Int))] 34) = w6 := ⟨_, rfl⟩
          have b6 : Below w5.heap.size w5 w6 := by rw [← hw6]; exact (Below.refl _ _).alloc (Nat.le_refl _) _
          try rw [hw6]
          clear hw6
          have hB6 := hB5.trans (b6.mono hB5.size)
          have hbox6 := hbox5.below b6
          have hres6 := hres5.below b6
          have hh6 := hh5.below b6
          have xa6 := xa5.below b6
          clear hB5 hbox5 hres5 hh5 xa5 b6 c10 c11 f10 f11 hlt0 hlt1 hlt2 hlta
          have k1 := (hw.below hB6) _ _ _ hF1 (hb2 j hlt)
          refine wp_region_noPanic (wp_region_need (S := fun w' => w'.cell? ⟨qn, 0, none⟩ = some (.slice (PA j) (PN j) (PC j)) ∧ w'.cell? ⟨w.heap.size, 0, none⟩ = some (.slice (some ⟨bl1, off1, none⟩) binds.length pc) ∧ w'.cell? ⟨bl1, off1 + j * 2, none⟩ = some (.slice (A1 j) (N1 j) (C1 j))) (by kernel_rfl) ?_)
          have hS : (w6.drew).cell? ⟨qn, 0, none⟩ = some (.slice (PA j) (PN j) (PC j)) ∧ (w6.drew).cell? ⟨w.heap.size, 0, none⟩ = some (.slice (some ⟨bl1, off1, none⟩) binds.length pc) ∧ (w6.drew).cell? ⟨bl1, off1 + j * 2, none⟩ = some (.slice (A1 j) (N1 j) (C1 j)) := ⟨xa6.drew.cell rfl, hbox6.drew.cell rfl, k1⟩
          refine wpN_take (i := 0) (v := ?v10) rfl (by kernel_rfl) (fun _ _ _ h => h) hS (Or.inl ⟨by rfl, ?hy10⟩) ?hr10
          case hy10 => (intro wS hSw; (try dsimp only at hSw); go_simp; (try with_reducible rfl))
          try simp only [Act.put, List.setIfInBounds_toArray, List.set_cons_zero, List.set_cons_succ, List.getElem_toArray, List.getElem_cons_zero, List.getElem_cons_succ]
          refine wpN_take (i := 1) (v := ?v11) rfl (by kernel_rfl) (fun _ _ _ h => h) hS (Or.inl ⟨by rfl, ?hy11⟩) ?hr11
          case hy11 => (intro wS hSw; (try dsimp only at hSw); go_simp; (try with_reducible rfl))
          try simp only [Act.put, List.setIfInBounds_toArray, List.set_cons_zero, List.set_cons_succ, List.getElem_toArray, List.getElem_cons_zero, List.getElem_cons_succ]
          refine wpN_take (i := 2) (v := ?v12) rfl (by kernel_rfl) (fun _ _ _ h => h) hS (Or.inl ⟨by rfl, ?hy12⟩) ?hr12
          case hy12 => (intro wS hSw; (try dsimp only at hSw); go_simp; (try with_reducible rfl))
          try simp only [Act.put, List.setIfInBounds_toArray, List.set_cons_zero, List.set_cons_succ, List.getElem_toArray, List.getElem_cons_zero, List.getElem_cons_succ]
          refine wpN_take (i := 3) (v := ?v13) rfl (by kernel_rfl) (fun _ _ _ h => h) hS (Or.inl ⟨by rfl, ?hy13⟩) ?hr13
          case hy13 => (intro wS hSw; (try dsimp only at hSw); go_simp; (try with_reducible rfl))
          try simp only [Act.put, List.setIfInBounds_toArray, List.set_cons_zero, List.set_cons_succ, List.getElem_toArray, List.getElem_cons_zero, List.getElem_cons_succ]
          refine wpN_take (i := 4) (v := ?v14) rfl (by kernel_rfl) (fun _ _ _ h => h) hS (Or.inl ⟨by rfl, ?hy14⟩) ?hr14
          case hy14 => (intro wS hSw; (try dsimp only at hSw); go_simp; (try with_reducible rfl))
          try simp only [Act.put, List.setIfInBounds_toArray, List.set_cons_zero, List.set_cons_succ, List.getElem_toArray, List.getElem_cons_zero, List.getElem_cons_succ]
          refine wpN_take (i := 5) (v := ?v15) rfl (by kernel_rfl) (fun _ _ _ h => h) hS (Or.inl ⟨by rfl, ?hy15⟩) ?hr15
          case hy15 => (intro wS hSw; (try dsimp only at hSw); go_simp; (try with_reducible rfl))
          try simp only [Act.put, List.setIfInBounds_toArray, List.set_cons_zero, List.set_cons_succ, List.getElem_toArray, List.getElem_cons_zero, List.getElem_cons_succ]
          refine wpN_take (i := 6) (v := ?v16) rfl (by kernel_rfl) (fun _ _ _ h => h) hS (Or.inl ⟨by rfl, ?hy16⟩) ?hr16
          case hy16 => (intro wS hSw; (try dsimp only at hSw); go_simp; (try with_reducible rfl))
          try simp only [Act.put, List.setIfInBounds_toArray, List.set_cons_zero, List.set_cons_succ, List.getElem_toArray, List.getElem_cons_zero, List.getElem_cons_succ]
          refine wpN_take (i := 7) (v := ?v17) rfl (by kernel_rfl) (fun _ _ _ h => h) hS (Or.inl ⟨by rfl, ?hy17⟩) ?hr17
          case hy17 => (intro wS hSw; (try dsimp only at hSw); go_simp; (try with_reducible rfl))
          try simp only [Act.put, List.setIfInBounds_toArray, List.set_cons_zero, List.set_cons_succ, List.getElem_toArray, List.getElem_cons_zero, List.getElem_cons_succ]
          refine wpN_step (i := 8) (by kernel_rfl) rfl (fun K hK => ?_)
          go_simp
          refine (equalFunc_k (HB.out j hlt') (HT.out j hlt).inv.2 (fun t _ => equal_k t) _ (hw.below hB6).drew (hw.below hB6).drew).mono ?_
          intro e w7 h
          obtain ⟨r2, Hr2, rfl, hb7⟩ := of_retB' h
          clear h
          have b7 : Below w6.heap.size w6 w7 := (Below.refl _ _).drew.trans hb7
          have hB7 := hB6.trans (b7.mono hB6.size)
          have hbox7 := hbox6.below b7
          have hres7 := hres6.below b7
          have hh7 := hh6.below b7
          have xa7 := xa6.below b7
          clear hB6 hbox6 hres6 hh6 xa6 hb7 b7 k1
          have hS : (w7).cell? ⟨qn, 0, none⟩ = some (.slice (PA j) (PN j) (PC j)) ∧ (w7).cell? ⟨w.heap.size, 0, none⟩ = some (.slice (some ⟨bl1, off1, none⟩) binds.length pc) ∧ (w7).cell? ⟨bl1, off1 + j * 2, none⟩ = some (.slice (A1 j) (N1 j) (C1 j)) := ⟨xa7.cell rfl, hbox7.cell rfl, (hw.below hB7) _ _ _ hF1 (hb2 j hlt)⟩
          refine hK.out _ _ (fun _ => hS) ?_
          clear hK K
          try simp only [Act.put, List.setIfInBounds_toArray, List.set_cons_zero, List.set_cons_succ, List.getElem_toArray, List.getElem_cons_zero, List.getElem_cons_succ]
          refine wpN_take (i := 9) (v := ?v18) rfl (by kernel_rfl) (fun _ _ _ h => h) hS (Or.inl ⟨by rfl, ?hy18⟩) ?hr18
          case hy18 => (intro wS hSw; (try dsimp only at hSw); go_simp; (try with_reducible rfl))
          try simp only [Act.put, List.setIfInBounds_toArray, List.set_cons_zero, List.set_cons_succ, List.getElem_toArray, List.getElem_cons_zero, List.getElem_cons_succ]
          refine wpN_done (by kernel_rfl) ?_
          refine NoPanic.normal ?_
          clear hS
          cases r2
          · have HN : Hid (¬ lg) := HLj.out fun h => absurd (Hr2.out.2 (Hiff.out.1 h).2.2.2) (by decide)
            have c10 : w7.cell? ⟨w.heap.size + 1, 0, none⟩ = some (.int .i64 0) := hres7.cell rfl
            have c11 : w7.cell? ⟨w.heap.size + 1, 1, none⟩ = some (.int .i64 0) := hres7.cell rfl
            have f10 := hres7.free 0
            have f11 := hres7.free 1
            go_wp2_with fail
            refine bodyPost_ret (v := .tuple #[.agg #[.int .i64 0, .int .i64 0], .bool false]) (by simp [results, Try.results22, go_sem, c10, c11]) rfl ?_
            exact ⟨false, ⟨fun h => absurd h (by decide), fun h => absurd h (by rw [hlg]; exact HN.out)⟩, rfl, (hB7.setCell (by simp <;> omega) _).setCell (by simp <;> omega) _⟩
          · have Heq : Hid (args[j] = Ty.eta binds[j] 0 ((binds.length : Int) - 1 - (j : Int))) := Hiff.out.2 ⟨Hlong.out, by trivial, by trivial, Hr2.out.1 rfl⟩
            go_wp2_with fail
            go_roundw
            case rel => exact ⟨j + 1, by go_num, by omega, by show _ = _; rw [List.take_succ_eq_append_getElem hlt', Ty.etas_take binds j hlt, hall.out, Heq.out], hB7, hbox7, hres7, hh7⟩
            case measure => simp [intOf]; omega
      · have HLt : Hid lg := by
          show lg
          rw [← hlg, HL.out]
          have h := hall.out
          rw [List.take_of_length_le (by have := Hlen.out; omega), List.take_of_length_le (by rw [Ty.etas_len]; omega)] at h
          exact ⟨h, HG.out⟩
        have f10 := hres.free 0
        have f11 := hres.free 1
        have f20 := hh.free 0
        have f21 := hh.free 1
        go_wp2_with fail
        refine bodyPost_ret (v := .tuple #[.agg #[.int .i64 k, .int .i64 i], .bool true]) (by simp [results, Try.results22, go_sem, c10, c11]) rfl ?_
        exact ⟨true, ⟨fun _ => by rw [hlg]; exact HLt.out, fun _ => rfl⟩, by simp [HI.out, Tm.kind], (hb.setCell (by simp <;> omega) _).setCell (by simp <;> omega) _⟩
end Go.Proofs.Ytejpgifofkiofaa

