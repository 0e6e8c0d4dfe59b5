/-
  Terms: whether they are few; copied cell by cell, there and back.
-/
import Derived.Test.YtejpgifofkiofaaFew6
import Derived.Test.YtejpgifofkiofaaTo
import Derived.Test.YtejpgifofkiofaaKnown04
namespace Go.Proofs.Ytejpgifofkiofaa
open Go.RowKit

theorem infoT : (Try.prog.info? 37).map (fun i => (i.zero, i.size, i.bytes)) = some (some (.agg #[.slice none 0 0, .int .i64 0, .int .i64 0, .slice none 0 0]), 4, 64) := by kernel_rfl
theorem infoM : (Try.prog.info? 29).map (fun i => (i.zero, i.size, i.bytes)) = some (some (.agg #[.slice none 0 0, .int .i64 0, .int .i64 0, .slice none 0 0]), 4, 64) := by kernel_rfl

theorem sl_cells6 {F : Nat → Prop} {w : World} {a : Option Addr} {n c : Nat} {l : List Tm} (h : IsSl rpTm F w (.slice a n c) l) : n = l.length ∧ (l.length ≤ maxLen ∧ l.length ≤ c) ∧ ∃ (bl off : Nat) (PA A : Nat → Option Addr) (PN PC N C : Nat → Nat) (K I : Nat → Int),
    (0 < l.length → a = some ⟨bl, off, none⟩ ∧ F bl) ∧ (∀ i, i < l.length → w.cell? ⟨bl, off + i * 4, none⟩ = some (.slice (PA i) (PN i) (PC i))) ∧ (∀ i, i < l.length → w.cell? ⟨bl, off + i * 4 + 1, none⟩ = some (.int .i64 (K i))) ∧
    (∀ i, i < l.length → w.cell? ⟨bl, off + i * 4 + 2, none⟩ = some (.int .i64 (I i))) ∧ (∀ i, i < l.length → w.cell? ⟨bl, off + i * 4 + 3, none⟩ = some (.slice (A i) (N i) (C i))) ∧
    ∀ i (h : i < l.length), IsTm F w (.slice (PA i) (PN i) (PC i)) (.int .i64 (K i)) (.int .i64 (I i)) (.slice (A i) (N i) (C i)) l[i] := by
  have ht := isTm_mk (isSl_nil rpTy F w) h 0 0
  cases ht with
  | mk bv k i a n c binds args bl off PA A PN PC N C K I hb hn hm ha h1 h2 h3 h4 h5 =>
  subst hn
  exact ⟨rfl, hm, bl, off, PA, A, PN, PC, N, C, K, I, ha, h1, h2, h3, h4, h5⟩

/-- true only where p holds -/
def RetY (p : Prop) (w : World) (e : Ending) (w' : World) : Prop := ∃ r : Bool, Hid (r = true → p) ∧ e = .returned (.bool r) ∧ Below w.heap.size w w'

set_option maxHeartbeats 400000 in
theorem Few6_any {F : Nat → Prop} {w : World} {b k i a : Value} {t : Tm} (ht : IsTm F w b k i a t) (most depth : Int) (hm0 : 1 ≤ most) (hm1 : most ≤ 1000) (hd1 : depth ≤ 1000) (hd0 : -1000 ≤ depth) :
    Calls Try.prog 83 #[.agg #[b, k, i, a], .int .i64 most, .int .i64 depth] w (RetY ((t.full : Int) ≤ most ∧ (t.depth : Int) ≤ depth) w) := by
  obtain ⟨pa, pc, qa, qc, rfl, rfl, rfl, rfl⟩ := ht.shape
  have Ht := Lib.hid ht; clear ht
  obtain ⟨x1, hx1⟩ : ∃ x, t.binds.length = x := ⟨_, rfl⟩
  obtain ⟨x2, hx2⟩ : ∃ x, t.args.length = x := ⟨_, rfl⟩
  obtain ⟨x3, hx3⟩ : ∃ x, t.kind = x := ⟨_, rfl⟩
  obtain ⟨x4, hx4⟩ : ∃ x, t.index = x := ⟨_, rfl⟩
  rw [hx1, hx2, hx3, hx4] at Ht ⊢
  clear hx1 hx2 hx3 hx4
  go_enter Try.func83, Try.ntmps83
  go_wp2_with fail
  refine (few6_any Ht.out most depth _ hm0 hm1 hd1 hd0 ((Keep.refl _ _).alloc _)).mono ?_
  rintro e w1 ⟨r, hf, rfl, hb1⟩
  go_wp2_with fail
  go_ret
  refine ⟨decide (r ≤ most), fun h => ?_, rfl, ((Below.refl _ _).alloc (Nat.le_refl _) _).trans (hb1.mono (by simp))⟩
  have h := of_decide_eq_true h
  have := hf.2.2 h
  omega

theorem Tm.forall_take_succ {p : Tm → Prop} {l : List Tm} {k : Nat} (hk : k < l.length) (h : ∀ t ∈ l.take k, p t) (h' : p l[k]) : ∀ t ∈ l.take (k + 1), p t := by
  intro t ht
  rw [List.take_succ_eq_append_getElem hk] at ht
  rcases List.mem_append.1 ht with ht | ht
  · exact h t ht
  · simp at ht; subst ht; exact h'

theorem IsTm.bel {F : Nat → Prop} {w w' : World} {b k i a : Value} {t : Tm} (h : IsTm F w b k i a t) (hb : Below w.heap.size w w') : IsTm F w' b k i a t := h.keep ((Keep.refl _ _).below hb)

set_option maxHeartbeats 1000000 in
theorem few06 {F : Nat → Prop} {w : World} {v : Value} {l : List Tm} (h : IsSl rpTm F w v l) (hl : l.length ≤ 1000000) :
    Calls Try.prog 14 #[v] w (RetY (∀ t ∈ l, t.full ≤ 150 ∧ t.depth ≤ 70) w) := by
  obtain ⟨a, c, rfl⟩ := h.shape
  obtain ⟨_, hm, bl, off, PA, A, PN, PC, N, C, K, I, ha, h1, h2, h3, h4, h5⟩ := sl_cells6 h
  clear h hm
  have H5 := Lib.hid h5; clear h5
  go_enter Try.func14, Try.ntmps14
  go_wp2_with fail
  go_loopw [3] (fun i wr => ∃ k : Nat, i = .int .i64 k ∧ k ≤ l.length ∧ Hid (∀ t ∈ l.take k, t.full ≤ 150 ∧ t.depth ≤ 70) ∧ Below w.heap.size w wr) (fun i _ => l.length - (intOf i).toNat)
  case atStart => exact ⟨0, rfl, by omega, by simp [Hid], Below.refl _ _⟩
  case round =>
    obtain ⟨k, rfl, hk, hall, hb⟩ := hrel
    by_cases hlt : k < l.length
    · obtain ⟨rfl, hF⟩ := ha (by omega)
      have hkp : Keep F w wr := (Keep.refl F w).below hb
      have e1 := hkp _ _ _ hF (h1 k hlt)
      have e2 := hkp _ _ _ hF (h2 k hlt)
      have e3 := hkp _ _ _ hF (h3 k hlt)
      have e4 := hkp _ _ _ hF (h4 k hlt)
      go_wp2_with fail
      refine (Few6_any ((H5.out k hlt).bel hb) 150 70 (by omega) (by omega) (by omega) (by omega)).mono ?_
      rintro e w1 ⟨r, hr, rfl, hb1⟩
      cases r
      · clear hr
        go_wp2_with fail
        go_ret
        exact ⟨false, fun h => absurd h (by decide), rfl, hb.trans (hb1.mono hb.size)⟩
      · have Hr := Lib.hid (hr.out rfl); clear hr
        go_wp2_with fail
        go_roundw
        case rel => exact ⟨k + 1, by go_num, by omega, Tm.forall_take_succ hlt hall.out (by have := Hr.out; omega), hb.trans (hb1.mono hb.size)⟩
        case measure => simp [intOf]; omega
    · go_wp2_with fail
      go_ret
      refine ⟨true, fun _ => ?_, rfl, hb⟩
      have h := hall.out
      rw [List.take_of_length_le (by omega)] at h
      exact h

/-- a fresh slice of types -/
def FreshTys (l : List Ty) (w : World) (e : Ending) (w' : World) : Prop := ∃ a c, e = .returned (.slice a l.length c) ∧ IsSl rpTy (fun q => w.heap.size ≤ q) w' (.slice a l.length c) l ∧ Below w.heap.size w w'

set_option maxRecDepth 100000 in
set_option maxHeartbeats 1600000 in
theorem types_any {F : Nat → Prop} {w0 : World} {v : Value} {l : List Ty} (h : IsSl rpTy F w0 v l) (w : World) (hw : Keep F w0 w) (hsz : Ty.sizes l ≤ 1000000) :
    Calls Try.prog 58 #[v] w (FreshTys l w) := by
  obtain ⟨a, c, rfl⟩ := h.shape
  obtain ⟨_, hm, bl, off, A, N, C, B, ha, h1, h2, h3⟩ := sl_cells' h
  clear h hm
  have H3 := Lib.hid h3; clear h3
  have hl : l.length ≤ 1000000 := by have := Ty.le_sizes l; omega
  have Hsz : Hid (∀ i (h : i < l.length), l[i].size ≤ 1000000) := fun i h => by have := Ty.size_mem (List.getElem_mem h); omega
  clear hsz
  obtain ⟨i0, hi0, hz0, hz1, hz2⟩ := info_parts infoK
  go_enter Try.func58, Try.ntmps58
  go_wp2_with fail
  go_loopw [3, 4] (fun v i wr => ∃ (k : Nat) (a' : Option Addr) (c' : Nat), i = .int .i64 k ∧ v = .slice a' k c' ∧ k ≤ l.length ∧ Below w.heap.size w wr ∧
      Acc rpTy 40 w.heap.size (fun q => w.heap.size ≤ q) wr v (l.take k)) (fun _ i _ => l.length - (intOf i).toNat)
  case atStart => exact ⟨0, none, 0, rfl, rfl, by omega, Below.refl _ _, Acc.nil _ _ _ _ _⟩
  case round =>
    obtain ⟨k, a', c', rfl, rfl, hk, hb, hacc⟩ := hrel
    have Hacc := Lib.hid hacc; clear hacc
    by_cases hlt : k < l.length
    · obtain ⟨rfl, hF⟩ := ha (by omega)
      have hkp : Keep F w0 wr := hw.below hb
      have e1 := hkp _ _ _ hF (h1 k hlt)
      have e2 := hkp _ _ _ hF (h2 k hlt)
      have hltl : (k : Int) < (l.length : Int) := by omega
      have hk0 : (0 : Int) ≤ (k : Int) := by omega
      have Hl : Hid ((l.take k).length = k) := by show _ = _; simp; omega
      go_wp2_with fail
      refine (to_any (H3.out k hlt) wr (Hsz.out k hlt) hkp).mono ?_
      rintro e w1 ⟨s', b', rfl, hr1, hb1⟩
      obtain ⟨a1, c1, rfl, rfl⟩ := hr1.shape
      have A1 := Lib.hid (Hacc.out.below hb1)
      have hB1 := hb.trans (hb1.mono hb.size)
      have Hr1 := Lib.hid hr1; clear hr1
      have Hb1 := Lib.hid hb1; clear hb1
      have hsz1 := hB1.size
      go_wp2_with (at_builtin; refine wpList_push rpTy (by decide) rfl _ _ _ rfl w.heap.size 40 i0 _ 32 Try.underlying33 hi0 hz0 hz1 hz2 rfl (by decide) (fun q => w.heap.size ≤ q) (.slice a' k c') (l.take k) rfl (A1.out.alloc _) (by rw [Hl.out]; omega) w1.heap.size _ [.slice a1 l[k].args.length c1, .int .i64 l[k].base] l[k] rfl (heap_alloc_new _ _) ⟨_, _, rfl, (Hr1.out.weaken (fun q _ hq => ⟨Nat.le_trans hb.size hq, fun e => by have := (Hacc.out.base_le q e).2; exact absurd this (Nat.not_lt.2 hq)⟩)).keep ((Keep.refl _ _).alloc _)⟩ (by simp; omega) ?_; intro g cap w2 hacc2 hgrow hat hlt2)
      go_roundw
      case rel =>
        refine ⟨k + 1, _, _, by go_num, rfl, by omega, (hB1.alloc hsz1 _).grown hgrow (by simp; omega) (fun q hq => (A1.out.base_le q hq).1), ?_⟩
        rw [Hl.out, ← List.take_succ_eq_append_getElem hlt] at hacc2
        exact hacc2
      case measure => simp [intOf]; omega
    · have hk' : k = l.length := by omega
      subst hk'
      go_wp2_with fail
      go_ret
      have h := Hacc.out
      rw [List.take_of_length_le (by omega)] at h
      exact ⟨_, _, rfl, h.sl (fun _ _ h => h) (fun _ h => h), hb⟩
set_option maxRecDepth 100000 in
set_option maxHeartbeats 1600000 in
theorem ofTypes_any {F : Nat → Prop} {w0 : World} {v : Value} {l : List Ty} (h : IsSl rpTy F w0 v l) (w : World) (hw : Keep F w0 w) (hsz : Ty.sizes l ≤ 1000000) :
    Calls Try.prog 86 #[v] w (FreshTys l w) := by
  obtain ⟨a, c, rfl⟩ := h.shape
  obtain ⟨_, hm, bl, off, A, N, C, B, ha, h1, h2, h3⟩ := sl_cells' h
  clear h hm
  have H3 := Lib.hid h3; clear h3
  have hl : l.length ≤ 1000000 := by have := Ty.le_sizes l; omega
  have Hsz : Hid (∀ i (h : i < l.length), l[i].size ≤ 1000000) := fun i h => by have := Ty.size_mem (List.getElem_mem h); omega
  clear hsz
  obtain ⟨i0, hi0, hz0, hz1, hz2⟩ := info_parts infoR
  go_enter Try.func86, Try.ntmps86
  go_wp2_with fail
  go_loopw [3, 4] (fun v i wr => ∃ (k : Nat) (a' : Option Addr) (c' : Nat), i = .int .i64 k ∧ v = .slice a' k c' ∧ k ≤ l.length ∧ Below w.heap.size w wr ∧
      Acc rpTy 26 w.heap.size (fun q => w.heap.size ≤ q) wr v (l.take k)) (fun _ i _ => l.length - (intOf i).toNat)
  case atStart => exact ⟨0, none, 0, rfl, rfl, by omega, Below.refl _ _, Acc.nil _ _ _ _ _⟩
  case round =>
    obtain ⟨k, a', c', rfl, rfl, hk, hb, hacc⟩ := hrel
    have Hacc := Lib.hid hacc; clear hacc
    by_cases hlt : k < l.length
    · obtain ⟨rfl, hF⟩ := ha (by omega)
      have hkp : Keep F w0 wr := hw.below hb
      have e1 := hkp _ _ _ hF (h1 k hlt)
      have e2 := hkp _ _ _ hF (h2 k hlt)
      have hltl : (k : Int) < (l.length : Int) := by omega
      have hk0 : (0 : Int) ≤ (k : Int) := by omega
      have Hl : Hid ((l.take k).length = k) := by show _ = _; simp; omega
      go_wp2_with fail
      refine (of_any (H3.out k hlt) wr (Hsz.out k hlt) hkp).mono ?_
      rintro e w1 ⟨s', b', rfl, hr1, hb1⟩
      obtain ⟨a1, c1, rfl, rfl⟩ := hr1.shape
      have A1 := Lib.hid (Hacc.out.below hb1)
      have hB1 := hb.trans (hb1.mono hb.size)
      have Hr1 := Lib.hid hr1; clear hr1
      have Hb1 := Lib.hid hb1; clear hb1
      have hsz1 := hB1.size
      go_wp2_with (at_builtin; refine wpList_push rpTy (by decide) rfl _ _ _ rfl w.heap.size 26 i0 _ 32 Try.underlying24 hi0 hz0 hz1 hz2 rfl (by decide) (fun q => w.heap.size ≤ q) (.slice a' k c') (l.take k) rfl (A1.out.alloc _) (by rw [Hl.out]; omega) w1.heap.size _ [.slice a1 l[k].args.length c1, .int .i64 l[k].base] l[k] rfl (heap_alloc_new _ _) ⟨_, _, rfl, (Hr1.out.weaken (fun q _ hq => ⟨Nat.le_trans hb.size hq, fun e => by have := (Hacc.out.base_le q e).2; exact absurd this (Nat.not_lt.2 hq)⟩)).keep ((Keep.refl _ _).alloc _)⟩ (by simp; omega) ?_; intro g cap w2 hacc2 hgrow hat hlt2)
      go_roundw
      case rel =>
        refine ⟨k + 1, _, _, by go_num, rfl, by omega, (hB1.alloc hsz1 _).grown hgrow (by simp; omega) (fun q hq => (A1.out.base_le q hq).1), ?_⟩
        rw [Hl.out, ← List.take_succ_eq_append_getElem hlt] at hacc2
        exact hacc2
      case measure => simp [intOf]; omega
    · have hk' : k = l.length := by omega
      subst hk'
      go_wp2_with fail
      go_ret
      have h := Hacc.out
      rw [List.take_of_length_le (by omega)] at h
      exact ⟨_, _, rfl, h.sl (fun _ _ h => h) (fun _ h => h), hb⟩
end Go.Proofs.Ytejpgifofkiofaa
