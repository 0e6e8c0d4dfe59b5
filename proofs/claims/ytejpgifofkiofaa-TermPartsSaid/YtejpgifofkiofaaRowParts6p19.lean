/-
  The reference's loose indexes, and terms that grow. The document's heads of a term.
-/
import Derived.Test.YtejpgifofkiofaaRowParts6p18
set_option linter.unusedVariables false
set_option linter.unusedSimpArgs false
namespace Go.Proofs.Ytejpgifofkiofaa
open Go.RowKit

def rpInt : Rp Int where
  n := 1
  R _ _ x v := x = [.int .i64 v]
  len := by rintro F w x a rfl; rfl
  one := by rintro F w x a rfl u hu; simp at hu; subst hu; rfl
  keep := fun h _ => h
  weaken := fun h _ => h

theorem infoI : (Try.prog.info? 3).map (fun i => (i.zero, i.size, i.bytes)) = some (some (.int .i64 0), 1, 8) := by kernel_rfl

theorem Tm.loosess_len_of {l : List Tm} (h : ∀ t ∈ l, ∀ n, (t.looses n).length ≤ t.full) : ∀ n, (Tm.loosess l n).length ≤ Tm.fulls l := by
  induction l with
  | nil => intro n; simp [loosess]
  | cons t l ih =>
    intro n
    have h1 := h t (by simp) n
    have h2 := ih (fun u hu => h u (by simp [hu])) n
    simp [loosess, fulls]; omega
theorem Tm.looses_len (t : Tm) : ∀ n, (t.looses n).length ≤ t.full := by
  induction t using Tm.ind with
  | h b k i a ih =>
    intro n
    have h := Tm.loosess_len_of ih (n + (b.length : Int))
    rw [Tm.looses_eq b k i a n _ rfl, Tm.full_eq, List.length_append]
    split <;> simp <;> omega
theorem Tm.loosess_len (l : List Tm) (n : Int) : (Tm.loosess l n).length ≤ Tm.fulls l := Tm.loosess_len_of (fun t _ n => Tm.looses_len t n) n

theorem Tm.mem_loosess {l : List Tm} {t : Tm} {n x : Int} (h : t ∈ l) (hx : x ∈ t.looses n) : x ∈ Tm.loosess l n := by
  induction l with
  | nil => cases h
  | cons u l ih =>
    simp only [loosess, List.mem_append]
    rcases List.mem_cons.1 h with rfl | h
    · exact .inl hx
    · exact .inr (ih h)

def FreshInts (l : List Int) (w : World) (e : Ending) (w' : World) : Prop := ∃ a c, e = .returned (.slice a l.length c) ∧ IsSl rpInt (fun q => w.heap.size ≤ q) w' (.slice a l.length c) l ∧ Below w.heap.size w w'

def LoosesR (t : Tm) : Prop := ∀ (F : Nat → Prop) (w0 : World) (b0 k0 i0 a0 : Value), IsTm F w0 b0 k0 i0 a0 t → ∀ (n : Int) (w : World), Keep F w0 w → 0 ≤ n → n + t.full ≤ 90000 → t.Fit →
    Calls Try.prog 119 #[.agg #[b0, k0, i0, a0], .int .i64 n] w (FreshInts (t.looses n) w)

set_option maxRecDepth 100000 in
set_option maxHeartbeats 1000000 in
theorem looses_r : ∀ t : Tm, LoosesR t := Tm.ind fun binds k i args ih => by
  intro F w0 b0 k0 i0 a0 ht n w hw hn0 hn1 hfit
  obtain ⟨rfl, rfl, hb, hs⟩ := ht.inv
  obtain ⟨pa, pc, rfl⟩ := hb.shape
  obtain ⟨a, c, rfl⟩ := hs.shape
  simp only [Tm.binds, Tm.kind, Tm.index, Tm.args] at *
  obtain ⟨_, hm, bl, off, PA, A, PN, PC, N, C, Kd, Ix, ha, h1, h2, h3, h4, h5⟩ := sl_cells6 hs
  clear hs ht hb
  rw [Tm.full_eq] at hn1
  obtain ⟨hi0, hi1, hfa⟩ := Tm.fit_iff.1 hfit
  have hbl := Ty.le_sizes binds
  obtain ⟨m, hmm⟩ : ∃ m : Int, n + (binds.length : Int) = m := ⟨_, rfl⟩
  have hm0 : 0 ≤ m := by omega
  have hm1 : m ≤ 90000 := by omega
  have hs1 : IntKind.i64.wrap m = m := IntWalk.i64_in _ (by omega)
  have hal : args.length ≤ 90000 := by have := Tm.len_fulls args; omega
  obtain ⟨L, hL⟩ : ∃ L, Tm.looses (.mk binds k i args) n = L := ⟨_, rfl⟩
  rw [hL]
  have Hih : Hid (∀ j (h : j < args.length) (w' : World), Keep F w0 w' → Calls Try.prog 119 #[.agg #[.slice (PA j) (PN j) (PC j), .int .i64 (Kd j), .int .i64 (Ix j), .slice (A j) (N j) (C j)], .int .i64 m] w' (FreshInts (args[j].looses m) w')) :=
    fun j h w' hw => ih _ (List.getElem_mem h) _ _ _ _ _ _ (h5 j h) m w' hw hm0 (by have := Tm.full_mem (List.getElem_mem h); omega) (hfa _ (List.getElem_mem h))
  clear ih h5 hfit hfa
  obtain ⟨i2, hi2, hz0, hz1, hz2⟩ := info_parts infoI
  by_cases hk : k = 0
  · subst hk
    have hk0 : ((0 : Int) == 0) = true := rfl
    by_cases hge : i ≥ m
    · skip
      have HL : Hid ([i - m] ++ Tm.loosess args m = L) := by show _ = _; rw [← hL, Tm.looses_eq binds 0 i args n m hmm, if_pos ⟨rfl, hge⟩]
      have hq1 : IntKind.i64.wrap (i - m) = i - m := IntWalk.i64_in _ (by omega)
      clear hL
      go_enter Try.func119, Try.ntmps119
      go_wp2_with (at_builtin; refine wpList_push rpInt (by decide) rfl _ _ _ rfl (w.heap.size + 1) 3 i2 _ 8 Try.underlying105 hi2 hz0 hz1 hz2 rfl (by decide) (fun q => w.heap.size ≤ q) (.slice none 0 0) [] rfl (Acc.nil _ _ _ _ _) (by simp) (w.heap.size + 1) _ [.int .i64 (i - m)] (i - m) rfl (Blk.new _ #[.int .i64 (i - m)] _ (by simp)) rfl (by simp) ?_; intro g cap w3 hacc3 hgrow hat hlt2)
      have B3 : Below w.heap.size w w3 := (((Below.refl _ _).alloc (Nat.le_refl _) _).alloc (by simp) _).grown hgrow (by simp; omega) (fun k hk => by cases hk)
      have x3 : Blk w3 w.heap.size #[.slice pa binds.length pc, .int .i64 0, .int .i64 i, .slice a args.length c] 29 := ((Blk.new _ _ _ rfl).alloc _).grown hgrow (by simp [Value.ownBlock])
      have A3 : Hid (Acc rpInt 3 (w.heap.size + 1) (fun q => w.heap.size ≤ q) w3 (.slice (some ⟨g, 0, none⟩) 1 cap) [i - m]) := hacc3
      clear hacc3 hgrow hat hlt2
      go_loopw [5, 7] (fun x ii wr => ∃ (j : Nat) (v : Value), ii = .int .i64 j ∧ x = v ∧ j ≤ args.length ∧ Below w.heap.size w wr ∧ Blk wr w.heap.size #[.slice pa binds.length pc, .int .i64 0, .int .i64 i, .slice a args.length c] 29 ∧
          Acc rpInt 3 (w.heap.size + 1) (fun q => w.heap.size ≤ q) wr v ([i - m] ++ Tm.loosess (args.take j) m)) (fun _ ii _ => args.length - (intOf ii).toNat)
      case atStart => exact ⟨0, _, rfl, rfl, by omega, B3, x3, by simpa [Tm.loosess] using A3.out⟩
      case round =>
        clear B3 x3 A3
        obtain ⟨j, v, rfl, hv0, hj, hb, hbox, hacc⟩ := hrel
        have hv0 := hv0.symm
        subst hv0
        have c0 : wr.cell? ⟨w.heap.size, 3, none⟩ = some (.slice a args.length c) := hbox.cell rfl
        have hlt0 := hbox.lt
        have Hacc := Lib.hid hacc; clear hacc
        by_cases hlt : j < args.length
        · obtain ⟨rfl, hF⟩ := ha (by omega)
          have hkp : Keep F w0 wr := hw.below hb
          have e1 := hkp _ _ _ hF (h1 j hlt)
          have e2 := hkp _ _ _ hF (h2 j hlt)
          have e3 := hkp _ _ _ hF (h3 j hlt)
          have e4 := hkp _ _ _ hF (h4 j hlt)
          have hj0 : (0 : Int) ≤ (j : Int) := Int.natCast_nonneg _
          have hj1 : (j : Int) < (args.length : Int) := by omega
          have Hlen : Hid (([i - m] ++ Tm.loosess (args.take j) m).length + (args[j].looses m).length ≤ 1000000) := by
            show _ ≤ _
            have q1 := Tm.loosess_len (args.take j) m; have q2 := Tm.looses_len args[j] m; have q3 := Tm.fulls_take_le args j; have q4 := Tm.full_mem (List.getElem_mem hlt)
            simp; omega
          have Htk := Lib.hid (Tm.loosess_take args m j hlt)
          go_wp2_with fail
          refine (Hih.out j hlt wr hkp).mono ?_
          rintro e w1 ⟨ra, rc, rfl, hr1, hb1⟩
          have A1 := Lib.hid (Hacc.out.below hb1)
          have hB1 := hb.trans (hb1.mono hb.size)
          have hbox1 := hbox.below hb1
          have hsz1 := hB1.size
          have hlt1 := hbox1.lt
          have HR := Lib.hid (hr1.weaken (F' := fun q => w.heap.size ≤ q ∧ v.ownBlock ≠ some q) (by decide) fun q _ hq => ⟨Nat.le_trans hb.size hq, fun e => by have := (Hacc.out.base_le q e).2; omega⟩)
          clear hr1
          go_wp2_with (at_builtin; refine wpList_push_sl rpInt (by decide) rfl _ _ _ rfl (w.heap.size + 1) 3 i2 _ 8 Try.underlying105 hi2 hz0 hz1 hz2 rfl (by decide) (fun q => w.heap.size ≤ q) v ([i - m] ++ Tm.loosess (args.take j) m) rfl A1.out _ (args[j].looses m) rfl HR.out Hlen.out (by omega) ?_; intro v' w2 hacc2 hgrow hat)
          go_roundw
          case rel =>
            refine ⟨j + 1, _, by go_num, rfl, by omega, hB1.grown hgrow hsz1 (fun q hq => by have := (A1.out.base_le q hq).1; omega), hbox1.grown hgrow (fun e => by have := (A1.out.base_le _ e).1; omega), ?_⟩
            rw [Htk.out, ← List.append_assoc]
            exact hacc2
          case measure => simp [intOf]; omega
        · go_wp2_with fail
          go_ret
          have h := Hacc.out
          rw [List.take_of_length_le (by omega)] at h
          obtain ⟨va, vc, hv⟩ := h.len_shape
          rw [show [i - m] ++ Tm.loosess args m = L from HL.out] at h hv
          refine ⟨va, vc, ?_, ?_, hb⟩
          · rw [← hv]; rfl
          · rw [← hv]; exact h.sl (fun q _ hq => hq) (fun q hq => by omega)
    · skip
      have HL : Hid ([] ++ Tm.loosess args m = L) := by show _ = _; rw [← hL, Tm.looses_eq binds 0 i args n m hmm, if_neg (fun h => hge h.2)]
      clear hL
      go_enter Try.func119, Try.ntmps119
      go_wp2_with fail
      have B3 : Below w.heap.size w (w.alloc (.cells #[.slice pa binds.length pc, .int .i64 0, .int .i64 i, .slice a args.length c] 29)) := (Below.refl _ _).alloc (Nat.le_refl _) _
      have x3 := Blk.new w #[.slice pa binds.length pc, .int .i64 0, .int .i64 i, .slice a args.length c] 29 rfl
      have A3 : Hid (Acc rpInt 3 (w.heap.size + 1) (fun q => w.heap.size ≤ q) (w.alloc (.cells #[.slice pa binds.length pc, .int .i64 0, .int .i64 i, .slice a args.length c] 29)) (.slice none 0 0) []) := Acc.nil _ _ _ _ _
      go_loopw [5, 7] (fun x ii wr => ∃ (j : Nat) (v : Value), ii = .int .i64 j ∧ x = v ∧ j ≤ args.length ∧ Below w.heap.size w wr ∧ Blk wr w.heap.size #[.slice pa binds.length pc, .int .i64 0, .int .i64 i, .slice a args.length c] 29 ∧
          Acc rpInt 3 (w.heap.size + 1) (fun q => w.heap.size ≤ q) wr v ([] ++ Tm.loosess (args.take j) m)) (fun _ ii _ => args.length - (intOf ii).toNat)
      case atStart => exact ⟨0, _, rfl, rfl, by omega, B3, x3, by simpa [Tm.loosess] using A3.out⟩
      case round =>
        clear B3 x3 A3
        obtain ⟨j, v, rfl, hv0, hj, hb, hbox, hacc⟩ := hrel
        have hv0 := hv0.symm
        subst hv0
        have c0 : wr.cell? ⟨w.heap.size, 3, none⟩ = some (.slice a args.length c) := hbox.cell rfl
        have hlt0 := hbox.lt
        have Hacc := Lib.hid hacc; clear hacc
        by_cases hlt : j < args.length
        · obtain ⟨rfl, hF⟩ := ha (by omega)
          have hkp : Keep F w0 wr := hw.below hb
          have e1 := hkp _ _ _ hF (h1 j hlt)
          have e2 := hkp _ _ _ hF (h2 j hlt)
          have e3 := hkp _ _ _ hF (h3 j hlt)
          have e4 := hkp _ _ _ hF (h4 j hlt)
          have hj0 : (0 : Int) ≤ (j : Int) := Int.natCast_nonneg _
          have hj1 : (j : Int) < (args.length : Int) := by omega
          have Hlen : Hid (([] ++ Tm.loosess (args.take j) m).length + (args[j].looses m).length ≤ 1000000) := by
            show _ ≤ _
            have q1 := Tm.loosess_len (args.take j) m; have q2 := Tm.looses_len args[j] m; have q3 := Tm.fulls_take_le args j; have q4 := Tm.full_mem (List.getElem_mem hlt)
            simp; omega
          have Htk := Lib.hid (Tm.loosess_take args m j hlt)
          go_wp2_with fail
          refine (Hih.out j hlt wr hkp).mono ?_
          rintro e w1 ⟨ra, rc, rfl, hr1, hb1⟩
          have A1 := Lib.hid (Hacc.out.below hb1)
          have hB1 := hb.trans (hb1.mono hb.size)
          have hbox1 := hbox.below hb1
          have hsz1 := hB1.size
          have hlt1 := hbox1.lt
          have HR := Lib.hid (hr1.weaken (F' := fun q => w.heap.size ≤ q ∧ v.ownBlock ≠ some q) (by decide) fun q _ hq => ⟨Nat.le_trans hb.size hq, fun e => by have := (Hacc.out.base_le q e).2; omega⟩)
          clear hr1
          go_wp2_with (at_builtin; refine wpList_push_sl rpInt (by decide) rfl _ _ _ rfl (w.heap.size + 1) 3 i2 _ 8 Try.underlying105 hi2 hz0 hz1 hz2 rfl (by decide) (fun q => w.heap.size ≤ q) v ([] ++ Tm.loosess (args.take j) m) rfl A1.out _ (args[j].looses m) rfl HR.out Hlen.out (by omega) ?_; intro v' w2 hacc2 hgrow hat)
          go_roundw
          case rel =>
            refine ⟨j + 1, _, by go_num, rfl, by omega, hB1.grown hgrow hsz1 (fun q hq => by have := (A1.out.base_le q hq).1; omega), hbox1.grown hgrow (fun e => by have := (A1.out.base_le _ e).1; omega), ?_⟩
            rw [Htk.out, ← List.append_assoc]
            exact hacc2
          case measure => simp [intOf]; omega
        · go_wp2_with fail
          go_ret
          have h := Hacc.out
          rw [List.take_of_length_le (by omega)] at h
          obtain ⟨va, vc, hv⟩ := h.len_shape
          rw [show [] ++ Tm.loosess args m = L from HL.out] at h hv
          refine ⟨va, vc, ?_, ?_, hb⟩
          · rw [← hv]; rfl
          · rw [← hv]; exact h.sl (fun q _ hq => hq) (fun q hq => by omega)
  · have hk0 : (k == 0) = false := by simpa using hk
    have HL : Hid ([] ++ Tm.loosess args m = L) := by show _ = _; rw [← hL, Tm.looses_eq binds k i args n m hmm, if_neg (fun h => hk h.1)]
    clear hL
    go_enter Try.func119, Try.ntmps119
    go_wp2_with fail
    have B3 : Below w.heap.size w (w.alloc (.cells #[.slice pa binds.length pc, .int .i64 k, .int .i64 i, .slice a args.length c] 29)) := (Below.refl _ _).alloc (Nat.le_refl _) _
    have x3 := Blk.new w #[.slice pa binds.length pc, .int .i64 k, .int .i64 i, .slice a args.length c] 29 rfl
    have A3 : Hid (Acc rpInt 3 (w.heap.size + 1) (fun q => w.heap.size ≤ q) (w.alloc (.cells #[.slice pa binds.length pc, .int .i64 k, .int .i64 i, .slice a args.length c] 29)) (.slice none 0 0) []) := Acc.nil _ _ _ _ _
    go_loopw [5, 7] (fun x ii wr => ∃ (j : Nat) (v : Value), ii = .int .i64 j ∧ x = v ∧ j ≤ args.length ∧ Below w.heap.size w wr ∧ Blk wr w.heap.size #[.slice pa binds.length pc, .int .i64 k, .int .i64 i, .slice a args.length c] 29 ∧
        Acc rpInt 3 (w.heap.size + 1) (fun q => w.heap.size ≤ q) wr v ([] ++ Tm.loosess (args.take j) m)) (fun _ ii _ => args.length - (intOf ii).toNat)
    case atStart => exact ⟨0, _, rfl, rfl, by omega, B3, x3, by simpa [Tm.loosess] using A3.out⟩
    case round =>
      clear B3 x3 A3
      obtain ⟨j, v, rfl, hv0, hj, hb, hbox, hacc⟩ := hrel
      have hv0 := hv0.symm
      subst hv0
      have c0 : wr.cell? ⟨w.heap.size, 3, none⟩ = some (.slice a args.length c) := hbox.cell rfl
      have hlt0 := hbox.lt
      have Hacc := Lib.hid hacc; clear hacc
      by_cases hlt : j < args.length
      · obtain ⟨rfl, hF⟩ := ha (by omega)
        have hkp : Keep F w0 wr := hw.below hb
        have e1 := hkp _ _ _ hF (h1 j hlt)
        have e2 := hkp _ _ _ hF (h2 j hlt)
        have e3 := hkp _ _ _ hF (h3 j hlt)
        have e4 := hkp _ _ _ hF (h4 j hlt)
        have hj0 : (0 : Int) ≤ (j : Int) := Int.natCast_nonneg _
        have hj1 : (j : Int) < (args.length : Int) := by omega
        have Hlen : Hid (([] ++ Tm.loosess (args.take j) m).length + (args[j].looses m).length ≤ 1000000) := by
          show _ ≤ _
          have q1 := Tm.loosess_len (args.take j) m; have q2 := Tm.looses_len args[j] m; have q3 := Tm.fulls_take_le args j; have q4 := Tm.full_mem (List.getElem_mem hlt)
          simp; omega
        have Htk := Lib.hid (Tm.loosess_take args m j hlt)
        go_wp2_with fail
        refine (Hih.out j hlt wr hkp).mono ?_
        rintro e w1 ⟨ra, rc, rfl, hr1, hb1⟩
        have A1 := Lib.hid (Hacc.out.below hb1)
        have hB1 := hb.trans (hb1.mono hb.size)
        have hbox1 := hbox.below hb1
        have hsz1 := hB1.size
        have hlt1 := hbox1.lt
        have HR := Lib.hid (hr1.weaken (F' := fun q => w.heap.size ≤ q ∧ v.ownBlock ≠ some q) (by decide) fun q _ hq => ⟨Nat.le_trans hb.size hq, fun e => by have := (Hacc.out.base_le q e).2; omega⟩)
        clear hr1
        go_wp2_with (at_builtin; refine wpList_push_sl rpInt (by decide) rfl _ _ _ rfl (w.heap.size + 1) 3 i2 _ 8 Try.underlying105 hi2 hz0 hz1 hz2 rfl (by decide) (fun q => w.heap.size ≤ q) v ([] ++ Tm.loosess (args.take j) m) rfl A1.out _ (args[j].looses m) rfl HR.out Hlen.out (by omega) ?_; intro v' w2 hacc2 hgrow hat)
        go_roundw
        case rel =>
          refine ⟨j + 1, _, by go_num, rfl, by omega, hB1.grown hgrow hsz1 (fun q hq => by have := (A1.out.base_le q hq).1; omega), hbox1.grown hgrow (fun e => by have := (A1.out.base_le _ e).1; omega), ?_⟩
          rw [Htk.out, ← List.append_assoc]
          exact hacc2
        case measure => simp [intOf]; omega
      · go_wp2_with fail
        go_ret
        have h := Hacc.out
        rw [List.take_of_length_le (by omega)] at h
        obtain ⟨va, vc, hv⟩ := h.len_shape
        rw [show [] ++ Tm.loosess args m = L from HL.out] at h hv
        refine ⟨va, vc, ?_, ?_, hb⟩
        · rw [← hv]; rfl
        · rw [← hv]; exact h.sl (fun q _ hq => hq) (fun q hq => by omega)
end Go.Proofs.Ytejpgifofkiofaa

namespace Go.Proofs.Ytejpgifofkiofaa
open Go.RowKit

def rpHd : Rp (Int × Int) where
  n := 2
  R _ _ x v := x = [.int .i64 v.1, .int .i64 v.2]
  len := by rintro F w x a rfl; rfl
  one := by rintro F w x a rfl u hu; simp at hu; rcases hu with rfl | rfl <;> rfl
  keep := fun h _ => h
  weaken := fun h _ => h
theorem infoH : (Try.prog.info? 23).map (fun i => (i.zero, i.size, i.bytes)) = some (some (.agg #[.int .i64 0, .int .i64 0]), 2, 16) := by kernel_rfl

namespace Tm
mutual
def heads : Tm → Int → List (Int × Int)
  | .mk b k i a, n => (if k ≠ 0 then [(k, i)] else if n + (b.length : Int) ≤ i then [(0, i - (n + (b.length : Int)))] else []) ++ headss a (n + (b.length : Int))
def headss : List Tm → Int → List (Int × Int)
  | [], _ => []
  | t :: l, n => heads t n ++ headss l n
end
theorem heads_eq (b : List Ty) (k i : Int) (a : List Tm) (n m : Int) (hm : n + (b.length : Int) = m) : heads (.mk b k i a) n = (if k ≠ 0 then [(k, i)] else if m ≤ i then [(0, i - m)] else []) ++ headss a m := by subst hm; rw [heads]
theorem headss_append (l l' : List Tm) (n : Int) : headss (l ++ l') n = headss l n ++ headss l' n := by
  induction l with
  | nil => simp [headss]
  | cons t l ih => simp [headss, ih]
theorem headss_take (l : List Tm) (n : Int) (j : Nat) (h : j < l.length) : headss (l.take (j + 1)) n = headss (l.take j) n ++ heads l[j] n := by
  rw [List.take_succ_eq_append_getElem h, headss_append]; simp [headss]
theorem headss_len_of {l : List Tm} (h : ∀ t ∈ l, ∀ n, (t.heads n).length ≤ t.full) : ∀ n, (headss l n).length ≤ fulls l := by
  intro n
  induction l with
  | nil => simp [headss, fulls]
  | cons t l ih =>
    have h1 := h t (by simp) n
    have h2 := ih fun u hu => h u (by simp [hu])
    simp only [headss, fulls, List.length_append]; omega
theorem heads_len (t : Tm) : ∀ n, (t.heads n).length ≤ t.full := by
  induction t using Tm.ind with
  | h b k i a ih =>
    intro n
    have h := headss_len_of ih (n + b.length)
    rw [heads_eq _ _ _ _ _ _ rfl, full_eq, List.length_append]
    have : (if k ≠ 0 then [(k, i)] else if n + (b.length : Int) ≤ i then [(0, i - (n + (b.length : Int)))] else []).length ≤ 1 := by
      split
      · simp
      · split <;> simp
    omega
theorem headss_len (l : List Tm) (n : Int) : (headss l n).length ≤ fulls l := headss_len_of (fun t _ n => heads_len t n) n
end Tm

def FreshHds (l : List (Int × Int)) (w : World) (e : Ending) (w' : World) : Prop := ∃ a c, e = .returned (.slice a l.length c) ∧ IsSl rpHd (fun q => w.heap.size ≤ q) w' (.slice a l.length c) l ∧ Below w.heap.size w w'

def HeadsR (t : Tm) : Prop := ∀ (F : Nat → Prop) (w0 : World) (b0 k0 i0 a0 : Value), IsTm F w0 b0 k0 i0 a0 t → ∀ (n : Int) (w : World), Keep F w0 w → 0 ≤ n → n + t.full ≤ 90000 → t.Fit →
    Calls Try.prog 129 #[.agg #[b0, k0, i0, a0], .int .i64 n] w (FreshHds (t.heads n) w)

set_option maxRecDepth 100000 in
set_option maxHeartbeats 1000000 in
theorem heads_r : ∀ t : Tm, HeadsR t := Tm.ind fun binds k i args ih => by
  intro F w0 b0 k0 i0 a0 ht n w hw hn0 hn1 hfit
  obtain ⟨rfl, rfl, hb, hs⟩ := ht.inv
  obtain ⟨pa, pc, rfl⟩ := hb.shape
  obtain ⟨a, c, rfl⟩ := hs.shape
  simp only [Tm.binds, Tm.kind, Tm.index, Tm.args] at *
  obtain ⟨_, hm, bl, off, PA, A, PN, PC, N, C, Kd, Ix, ha, h1, h2, h3, h4, h5⟩ := sl_cells6 hs
  clear hs ht hb
  rw [Tm.full_eq] at hn1
  obtain ⟨hi0, hi1, hfa⟩ := Tm.fit_iff.1 hfit
  have hbl := Ty.le_sizes binds
  obtain ⟨m, hmm⟩ : ∃ m : Int, n + (binds.length : Int) = m := ⟨_, rfl⟩
  have hm0 : 0 ≤ m := by omega
  have hm1 : m ≤ 90000 := by omega
  have hs1 : IntKind.i64.wrap m = m := IntWalk.i64_in _ (by omega)
  have hal : args.length ≤ 90000 := by have := Tm.len_fulls args; omega
  obtain ⟨L, hL⟩ : ∃ L, Tm.heads (.mk binds k i args) n = L := ⟨_, rfl⟩
  rw [hL]
  have Hih : Hid (∀ j (h : j < args.length) (w' : World), Keep F w0 w' → Calls Try.prog 129 #[.agg #[.slice (PA j) (PN j) (PC j), .int .i64 (Kd j), .int .i64 (Ix j), .slice (A j) (N j) (C j)], .int .i64 m] w' (FreshHds (args[j].heads m) w')) :=
    fun j h w' hw => ih _ (List.getElem_mem h) _ _ _ _ _ _ (h5 j h) m w' hw hm0 (by have := Tm.full_mem (List.getElem_mem h); omega) (hfa _ (List.getElem_mem h))
  clear ih h5 hfit hfa
  obtain ⟨i2, hi2, hz0, hz1, hz2⟩ := info_parts infoH
  by_cases hk : k = 0
  · subst hk
    have hk0 : ((0 : Int) == 0) = true := rfl
    by_cases hge : i ≥ m
    · skip
      have HL : Hid ([((0 : Int), i - m)] ++ Tm.headss args m = L) := by show _ = _; rw [← hL, Tm.heads_eq binds 0 i args n m hmm, if_neg (by simp), if_pos hge]
      have hq1 : IntKind.i64.wrap (i - m) = i - m := IntWalk.i64_in _ (by omega)
      clear hL
      go_enter Try.func129, Try.ntmps129
      go_wp2_with (at_builtin; refine wpList_push rpHd (by decide) rfl _ _ _ rfl (w.heap.size + 1) 23 i2 _ 16 Try.underlying153 hi2 hz0 hz1 hz2 rfl (by decide) (fun q => w.heap.size ≤ q) (.slice none 0 0) [] rfl (Acc.nil _ _ _ _ _) (by simp) (w.heap.size + 1) _ [.int .i64 0, .int .i64 (i - m)] ((0 : Int), i - m) rfl (Blk.new _ #[.int .i64 0, .int .i64 (i - m)] _ (by simp)) rfl (by simp) ?_; intro g cap w3 hacc3 hgrow hat hlt2)
      have B3 : Below w.heap.size w w3 := (((Below.refl _ _).alloc (Nat.le_refl _) _).alloc (by simp) _).grown hgrow (by simp; omega) (fun k hk => by cases hk)
      have x3 : Blk w3 w.heap.size #[.slice pa binds.length pc, .int .i64 0, .int .i64 i, .slice a args.length c] 29 := ((Blk.new _ _ _ rfl).alloc _).grown hgrow (by simp [Value.ownBlock])
      have A3 : Hid (Acc rpHd 23 (w.heap.size + 1) (fun q => w.heap.size ≤ q) w3 (.slice (some ⟨g, 0, none⟩) 1 cap) [((0 : Int), i - m)]) := hacc3
      clear hacc3 hgrow hat hlt2
      go_loopw [5, 7] (fun x ii wr => ∃ (j : Nat) (v : Value), ii = .int .i64 j ∧ x = v ∧ j ≤ args.length ∧ Below w.heap.size w wr ∧ Blk wr w.heap.size #[.slice pa binds.length pc, .int .i64 0, .int .i64 i, .slice a args.length c] 29 ∧
          Acc rpHd 23 (w.heap.size + 1) (fun q => w.heap.size ≤ q) wr v ([((0 : Int), i - m)] ++ Tm.headss (args.take j) m)) (fun _ ii _ => args.length - (intOf ii).toNat)
      case atStart => exact ⟨0, _, rfl, rfl, by omega, B3, x3, by simpa [Tm.headss] using A3.out⟩
      case round =>
        clear B3 x3 A3
        obtain ⟨j, v, rfl, hv0, hj, hb, hbox, hacc⟩ := hrel
        have hv0 := hv0.symm
        subst hv0
        have c0 : wr.cell? ⟨w.heap.size, 3, none⟩ = some (.slice a args.length c) := hbox.cell rfl
        have hlt0 := hbox.lt
        have Hacc := Lib.hid hacc; clear hacc
        by_cases hlt : j < args.length
        · obtain ⟨rfl, hF⟩ := ha (by omega)
          have hkp : Keep F w0 wr := hw.below hb
          have e1 := hkp _ _ _ hF (h1 j hlt)
          have e2 := hkp _ _ _ hF (h2 j hlt)
          have e3 := hkp _ _ _ hF (h3 j hlt)
          have e4 := hkp _ _ _ hF (h4 j hlt)
          have hj0 : (0 : Int) ≤ (j : Int) := Int.natCast_nonneg _
          have hj1 : (j : Int) < (args.length : Int) := by omega
          have Hlen : Hid (([((0 : Int), i - m)] ++ Tm.headss (args.take j) m).length + (args[j].heads m).length ≤ 1000000) := by
            show _ ≤ _
            have q1 := Tm.headss_len (args.take j) m; have q2 := Tm.heads_len args[j] m; have q3 := Tm.fulls_take_le args j; have q4 := Tm.full_mem (List.getElem_mem hlt)
            simp; omega
          have Htk := Lib.hid (Tm.headss_take args m j hlt)
          go_wp2_with fail
          refine (Hih.out j hlt wr hkp).mono ?_
          rintro e w1 ⟨ra, rc, rfl, hr1, hb1⟩
          have A1 := Lib.hid (Hacc.out.below hb1)
          have hB1 := hb.trans (hb1.mono hb.size)
          have hbox1 := hbox.below hb1
          have hsz1 := hB1.size
          have hlt1 := hbox1.lt
          have HR := Lib.hid (hr1.weaken (F' := fun q => w.heap.size ≤ q ∧ v.ownBlock ≠ some q) (by decide) fun q _ hq => ⟨Nat.le_trans hb.size hq, fun e => by have := (Hacc.out.base_le q e).2; omega⟩)
          clear hr1
          go_wp2_with (at_builtin; refine wpList_push_sl rpHd (by decide) rfl _ _ _ rfl (w.heap.size + 1) 23 i2 _ 16 Try.underlying153 hi2 hz0 hz1 hz2 rfl (by decide) (fun q => w.heap.size ≤ q) v ([((0 : Int), i - m)] ++ Tm.headss (args.take j) m) rfl A1.out _ (args[j].heads m) rfl HR.out Hlen.out (by omega) ?_; intro v' w2 hacc2 hgrow hat)
          go_roundw
          case rel =>
            refine ⟨j + 1, _, by go_num, rfl, by omega, hB1.grown hgrow hsz1 (fun q hq => by have := (A1.out.base_le q hq).1; omega), hbox1.grown hgrow (fun e => by have := (A1.out.base_le _ e).1; omega), ?_⟩
            rw [Htk.out, ← List.append_assoc]
            exact hacc2
          case measure => simp [intOf]; omega
        · go_wp2_with fail
          go_ret
          have h := Hacc.out
          rw [List.take_of_length_le (by omega)] at h
          obtain ⟨va, vc, hv⟩ := h.len_shape
          rw [show [((0 : Int), i - m)] ++ Tm.headss args m = L from HL.out] at h hv
          refine ⟨va, vc, ?_, ?_, hb⟩
          · rw [← hv]; rfl
          · rw [← hv]; exact h.sl (fun q _ hq => hq) (fun q hq => by omega)
    · skip
      have HL : Hid ([] ++ Tm.headss args m = L) := by show _ = _; rw [← hL, Tm.heads_eq binds 0 i args n m hmm, if_neg (by simp), if_neg hge]
      clear hL
      go_enter Try.func129, Try.ntmps129
      go_wp2_with fail
      have B3 : Below w.heap.size w (w.alloc (.cells #[.slice pa binds.length pc, .int .i64 0, .int .i64 i, .slice a args.length c] 29)) := (Below.refl _ _).alloc (Nat.le_refl _) _
      have x3 := Blk.new w #[.slice pa binds.length pc, .int .i64 0, .int .i64 i, .slice a args.length c] 29 rfl
      have A3 : Hid (Acc rpHd 23 (w.heap.size + 1) (fun q => w.heap.size ≤ q) (w.alloc (.cells #[.slice pa binds.length pc, .int .i64 0, .int .i64 i, .slice a args.length c] 29)) (.slice none 0 0) []) := Acc.nil _ _ _ _ _
      go_loopw [5, 7] (fun x ii wr => ∃ (j : Nat) (v : Value), ii = .int .i64 j ∧ x = v ∧ j ≤ args.length ∧ Below w.heap.size w wr ∧ Blk wr w.heap.size #[.slice pa binds.length pc, .int .i64 0, .int .i64 i, .slice a args.length c] 29 ∧
          Acc rpHd 23 (w.heap.size + 1) (fun q => w.heap.size ≤ q) wr v ([] ++ Tm.headss (args.take j) m)) (fun _ ii _ => args.length - (intOf ii).toNat)
      case atStart => exact ⟨0, _, rfl, rfl, by omega, B3, x3, by simpa [Tm.headss] using A3.out⟩
      case round =>
        clear B3 x3 A3
        obtain ⟨j, v, rfl, hv0, hj, hb, hbox, hacc⟩ := hrel
        have hv0 := hv0.symm
        subst hv0
        have c0 : wr.cell? ⟨w.heap.size, 3, none⟩ = some (.slice a args.length c) := hbox.cell rfl
        have hlt0 := hbox.lt
        have Hacc := Lib.hid hacc; clear hacc
        by_cases hlt : j < args.length
        · obtain ⟨rfl, hF⟩ := ha (by omega)
          have hkp : Keep F w0 wr := hw.below hb
          have e1 := hkp _ _ _ hF (h1 j hlt)
          have e2 := hkp _ _ _ hF (h2 j hlt)
          have e3 := hkp _ _ _ hF (h3 j hlt)
          have e4 := hkp _ _ _ hF (h4 j hlt)
          have hj0 : (0 : Int) ≤ (j : Int) := Int.natCast_nonneg _
          have hj1 : (j : Int) < (args.length : Int) := by omega
          have Hlen : Hid (([] ++ Tm.headss (args.take j) m).length + (args[j].heads m).length ≤ 1000000) := by
            show _ ≤ _
            have q1 := Tm.headss_len (args.take j) m; have q2 := Tm.heads_len args[j] m; have q3 := Tm.fulls_take_le args j; have q4 := Tm.full_mem (List.getElem_mem hlt)
            simp; omega
          have Htk := Lib.hid (Tm.headss_take args m j hlt)
          go_wp2_with fail
          refine (Hih.out j hlt wr hkp).mono ?_
          rintro e w1 ⟨ra, rc, rfl, hr1, hb1⟩
          have A1 := Lib.hid (Hacc.out.below hb1)
          have hB1 := hb.trans (hb1.mono hb.size)
          have hbox1 := hbox.below hb1
          have hsz1 := hB1.size
          have hlt1 := hbox1.lt
          have HR := Lib.hid (hr1.weaken (F' := fun q => w.heap.size ≤ q ∧ v.ownBlock ≠ some q) (by decide) fun q _ hq => ⟨Nat.le_trans hb.size hq, fun e => by have := (Hacc.out.base_le q e).2; omega⟩)
          clear hr1
          go_wp2_with (at_builtin; refine wpList_push_sl rpHd (by decide) rfl _ _ _ rfl (w.heap.size + 1) 23 i2 _ 16 Try.underlying153 hi2 hz0 hz1 hz2 rfl (by decide) (fun q => w.heap.size ≤ q) v ([] ++ Tm.headss (args.take j) m) rfl A1.out _ (args[j].heads m) rfl HR.out Hlen.out (by omega) ?_; intro v' w2 hacc2 hgrow hat)
          go_roundw
          case rel =>
            refine ⟨j + 1, _, by go_num, rfl, by omega, hB1.grown hgrow hsz1 (fun q hq => by have := (A1.out.base_le q hq).1; omega), hbox1.grown hgrow (fun e => by have := (A1.out.base_le _ e).1; omega), ?_⟩
            rw [Htk.out, ← List.append_assoc]
            exact hacc2
          case measure => simp [intOf]; omega
        · go_wp2_with fail
          go_ret
          have h := Hacc.out
          rw [List.take_of_length_le (by omega)] at h
          obtain ⟨va, vc, hv⟩ := h.len_shape
          rw [show [] ++ Tm.headss args m = L from HL.out] at h hv
          refine ⟨va, vc, ?_, ?_, hb⟩
          · rw [← hv]; rfl
          · rw [← hv]; exact h.sl (fun q _ hq => hq) (fun q hq => by omega)
  · have hk0 : (k == 0) = false := by simpa using hk
    have hk1 : (k != 0) = true := by simpa using hk
    have HL : Hid ([(k, i)] ++ Tm.headss args m = L) := by show _ = _; rw [← hL, Tm.heads_eq binds k i args n m hmm, if_pos hk]
    clear hL
    go_enter Try.func129, Try.ntmps129
    go_wp2_with (at_builtin; refine wpList_push rpHd (by decide) rfl _ _ _ rfl (w.heap.size + 1) 23 i2 _ 16 Try.underlying153 hi2 hz0 hz1 hz2 rfl (by decide) (fun q => w.heap.size ≤ q) (.slice none 0 0) [] rfl (Acc.nil _ _ _ _ _) (by simp) (w.heap.size + 1) _ [.int .i64 k, .int .i64 i] (k, i) rfl (Blk.new _ #[.int .i64 k, .int .i64 i] _ (by simp)) rfl (by simp) ?_; intro g cap w3 hacc3 hgrow hat hlt2)
    have B3 : Below w.heap.size w w3 := (((Below.refl _ _).alloc (Nat.le_refl _) _).alloc (by simp) _).grown hgrow (by simp; omega) (fun k hk => by cases hk)
    have x3 : Blk w3 w.heap.size #[.slice pa binds.length pc, .int .i64 k, .int .i64 i, .slice a args.length c] 29 := ((Blk.new _ _ _ rfl).alloc _).grown hgrow (by simp [Value.ownBlock])
    have A3 : Hid (Acc rpHd 23 (w.heap.size + 1) (fun q => w.heap.size ≤ q) w3 (.slice (some ⟨g, 0, none⟩) 1 cap) [(k, i)]) := hacc3
    clear hacc3 hgrow hat hlt2
    go_loopw [5, 7] (fun x ii wr => ∃ (j : Nat) (v : Value), ii = .int .i64 j ∧ x = v ∧ j ≤ args.length ∧ Below w.heap.size w wr ∧ Blk wr w.heap.size #[.slice pa binds.length pc, .int .i64 k, .int .i64 i, .slice a args.length c] 29 ∧
        Acc rpHd 23 (w.heap.size + 1) (fun q => w.heap.size ≤ q) wr v ([(k, i)] ++ Tm.headss (args.take j) m)) (fun _ ii _ => args.length - (intOf ii).toNat)
    case atStart => exact ⟨0, _, rfl, rfl, by omega, B3, x3, by simpa [Tm.headss] using A3.out⟩
    case round =>
      clear B3 x3 A3
      obtain ⟨j, v, rfl, hv0, hj, hb, hbox, hacc⟩ := hrel
      have hv0 := hv0.symm
      subst hv0
      have c0 : wr.cell? ⟨w.heap.size, 3, none⟩ = some (.slice a args.length c) := hbox.cell rfl
      have hlt0 := hbox.lt
      have Hacc := Lib.hid hacc; clear hacc
      by_cases hlt : j < args.length
      · obtain ⟨rfl, hF⟩ := ha (by omega)
        have hkp : Keep F w0 wr := hw.below hb
        have e1 := hkp _ _ _ hF (h1 j hlt)
        have e2 := hkp _ _ _ hF (h2 j hlt)
        have e3 := hkp _ _ _ hF (h3 j hlt)
        have e4 := hkp _ _ _ hF (h4 j hlt)
        have hj0 : (0 : Int) ≤ (j : Int) := Int.natCast_nonneg _
        have hj1 : (j : Int) < (args.length : Int) := by omega
        have Hlen : Hid (([(k, i)] ++ Tm.headss (args.take j) m).length + (args[j].heads m).length ≤ 1000000) := by
          show _ ≤ _
          have q1 := Tm.headss_len (args.take j) m; have q2 := Tm.heads_len args[j] m; have q3 := Tm.fulls_take_le args j; have q4 := Tm.full_mem (List.getElem_mem hlt)
          simp; omega
        have Htk := Lib.hid (Tm.headss_take args m j hlt)
        go_wp2_with fail
        refine (Hih.out j hlt wr hkp).mono ?_
        rintro e w1 ⟨ra, rc, rfl, hr1, hb1⟩
        have A1 := Lib.hid (Hacc.out.below hb1)
        have hB1 := hb.trans (hb1.mono hb.size)
        have hbox1 := hbox.below hb1
        have hsz1 := hB1.size
        have hlt1 := hbox1.lt
        have HR := Lib.hid (hr1.weaken (F' := fun q => w.heap.size ≤ q ∧ v.ownBlock ≠ some q) (by decide) fun q _ hq => ⟨Nat.le_trans hb.size hq, fun e => by have := (Hacc.out.base_le q e).2; omega⟩)
        clear hr1
        go_wp2_with (at_builtin; refine wpList_push_sl rpHd (by decide) rfl _ _ _ rfl (w.heap.size + 1) 23 i2 _ 16 Try.underlying153 hi2 hz0 hz1 hz2 rfl (by decide) (fun q => w.heap.size ≤ q) v ([(k, i)] ++ Tm.headss (args.take j) m) rfl A1.out _ (args[j].heads m) rfl HR.out Hlen.out (by omega) ?_; intro v' w2 hacc2 hgrow hat)
        go_roundw
        case rel =>
          refine ⟨j + 1, _, by go_num, rfl, by omega, hB1.grown hgrow hsz1 (fun q hq => by have := (A1.out.base_le q hq).1; omega), hbox1.grown hgrow (fun e => by have := (A1.out.base_le _ e).1; omega), ?_⟩
          rw [Htk.out, ← List.append_assoc]
          exact hacc2
        case measure => simp [intOf]; omega
      · go_wp2_with fail
        go_ret
        have h := Hacc.out
        rw [List.take_of_length_le (by omega)] at h
        obtain ⟨va, vc, hv⟩ := h.len_shape
        rw [show [(k, i)] ++ Tm.headss args m = L from HL.out] at h hv
        refine ⟨va, vc, ?_, ?_, hb⟩
        · rw [← hv]; rfl
        · rw [← hv]; exact h.sl (fun q _ hq => hq) (fun q hq => by omega)
end Go.Proofs.Ytejpgifofkiofaa

