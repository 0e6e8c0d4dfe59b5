/-
  Long forms of heads, as the reference makes them.
-/
import Derived.Test.YtejpgifofkiofaaRowEachp6
import Derived.Test.YtejpgifofkiofaaRowEachp7
import Derived.Test.YtejpgifofkiofaaRowEachp4
set_option linter.unusedVariables false
set_option linter.unusedSimpArgs false
namespace Go.Proofs.Ytejpgifofkiofaa
open Go.RowKit

namespace Ty
mutual
def eta : Ty → Int → Int → Tm
  | .mk l _, k, i => .mk l k (if k = 0 then i + (l.length : Nat) else i) (etas l)
def etas : List Ty → List Tm
  | [] => []
  | t :: l => eta t 0 (l.length : Nat) :: etas l
end
theorem eta_eq (l : List Ty) (b k i : Int) : eta (.mk l b) k i = .mk l k (if k = 0 then i + (l.length : Nat) else i) (etas l) := by rw [eta]
theorem etas_len (l : List Ty) : (etas l).length = l.length := by
  induction l with
  | nil => simp [etas]
  | cons t l ih => simp [etas, ih]
theorem etas_get (l : List Ty) (j : Nat) (h : j < l.length) : (etas l)[j]'(by rw [etas_len]; exact h) = eta l[j] 0 ((l.length : Int) - 1 - j) := by
  induction l generalizing j with
  | nil => simp at h
  | cons t l ih =>
    cases j with
    | zero => simp [etas]
    | succ j =>
      simp only [etas, List.getElem_cons_succ, List.length_cons]
      rw [ih j (by simpa using h)]
      congr 1
      simp; omega
theorem etas_take (l : List Ty) (j : Nat) (h : j < l.length) : (etas l).take (j + 1) = (etas l).take j ++ [eta l[j] 0 ((l.length : Int) - 1 - j)] := by
  rw [List.take_succ_eq_append_getElem (by rw [etas_len]; exact h), etas_get l j h]
end Ty

def AnyTm (F : Nat → Prop) (t : Tm) (w : World) (e : Ending) (w' : World) : Prop := ∃ b k i a, e = .returned (.agg #[b, k, i, a]) ∧ IsTm (fun q => F q ∨ w.heap.size ≤ q) w' b k i a t ∧ Below w.heap.size w w'

def EtaRef (t : Ty) : Prop := ∀ (F : Nat → Prop) (w0 : World) (s b : Value), IsTy F w0 s b t → ∀ (k i : Int) (w : World), t.size ≤ 1000000 → Keep F w0 w → (k = 0 → -1000000 ≤ i ∧ i + t.args.length ≤ 9223372036854775807) →
    Calls Try.prog 87 #[.agg #[.int .i64 k, .int .i64 i], .agg #[s, b]] w (AnyTm F (Ty.eta t k i) w)

set_option maxRecDepth 100000 in
set_option maxHeartbeats 1600000 in
theorem eta_r : ∀ t : Ty, EtaRef t := Ty.ind fun args b ih => by
  intro F w0 s b0 ht k i w hsize hw hr
  obtain ⟨rfl, hs0⟩ := ht.inv
  have hs := (hs0.keep hw).weaken (F' := fun q => F q ∧ q < w.heap.size) (by decide) fun q h1 h2 => ⟨h2, h1⟩
  clear hs0 ht hw
  rw [args_mk'] at hs hr
  rw [base_mk']
  obtain ⟨a, c, rfl⟩ := sl_shape' hs
  obtain ⟨_, hm, bl, off, A, N, C, B, ha, h1, h2, h3⟩ := sl_cells' hs
  have Hself := Lib.hid hs; clear hs
  unfold maxLen at hm
  have hlen : args.length ≤ 1000000 := by have := Ty.length_lt (l := args) (b := b); omega
  have Hsl : Hid (∀ j (h : j < args.length), args[j].args.length ≤ 1000000) := fun j h => by
    have := Ty.size_get (b := b) j h
    have h2 := Ty.length_lt (l := args[j].args) (b := args[j].base)
    have h3 : Ty.mk args[j].args args[j].base = args[j] := by cases args[j]; rfl
    rw [h3] at h2; omega
  have Hih : Hid (∀ j (h : j < args.length) (k i : Int) (w' : World), Keep (fun q => F q ∧ q < w.heap.size) w w' → (k = 0 → -1000000 ≤ i ∧ i + args[j].args.length ≤ 9223372036854775807) →
      Calls Try.prog 87 #[.agg #[.int .i64 k, .int .i64 i], .agg #[.slice (A j) (N j) (C j), .int .i64 (B j)]] w' (AnyTm (fun q => F q ∧ q < w.heap.size) (Ty.eta args[j] k i) w')) :=
    fun j h k i w' hw hr => ih _ (List.getElem_mem h) _ _ _ _ (h3 j h) k i w' (by have := Ty.size_get (b := b) j h; omega) hw hr
  clear ih hsize h3
  rw [Ty.eta_eq]
  obtain ⟨i2, hi0, hz0, hz1, hz2⟩ := info_parts infoM
  by_cases hk : k = 0
  · obtain ⟨g1, g2⟩ := hr hk
    subst hk
    simp only [if_true]
    obtain ⟨j0, hj0⟩ : ∃ j0 : Int, i + (args.length : Int) = j0 := ⟨_, rfl⟩
    rw [hj0]
    go_enter Try.func87, Try.ntmps87
    go_wp2_with fail
    obtain ⟨w4, hw4⟩ : ∃ w4, (((w.alloc (.cells #[.int .i64 0, .int .i64 i] 23)).alloc (.cells #[.slice a args.length c, .int .i64 b] 26)).alloc (.cells #[.slice none 0 0, .int .i64 0, .int .i64 0, .slice none 0 0] 29)).alloc (.cells #[.slice a args.length c, .int .i64 0, .int .i64 j0, .slice none 0 0] 29) = w4 := ⟨_, rfl⟩
    have B4 : Below w.heap.size w w4 := by rw [← hw4]; exact ((((Below.refl _ _).alloc (Nat.le_refl _) _).alloc (by simp) _).alloc (by simp <;> omega) _).alloc (by simp <;> omega) _
    have x1 : Blk w4 (w.heap.size + 1) #[.slice a args.length c, .int .i64 b] 26 := by rw [← hw4]; exact ((Blk.new _ _ _ (by simp)).alloc _).alloc _
    have x2 : Blk w4 (w.heap.size + 1 + 1) #[.slice none 0 0, .int .i64 0, .int .i64 0, .slice none 0 0] 29 := by rw [← hw4]; exact (Blk.new _ _ _ (by simp)).alloc _
    have x3 : Blk w4 (w.heap.size + 1 + 1 + 1) #[.slice a args.length c, .int .i64 0, .int .i64 j0, .slice none 0 0] 29 := by rw [← hw4]; exact Blk.new _ _ _ (by simp)
    try rw [hj0]
    try rw [hw4]
    clear hw4 hj0
    go_loopw [7] (fun ii wr => ∃ (j : Nat) (v : Value), ii = .int .i64 j ∧ j ≤ args.length ∧
        Below w.heap.size w wr ∧ Blk wr (w.heap.size + 1) #[.slice a args.length c, .int .i64 b] 26 ∧ Blk wr (w.heap.size + 1 + 1) #[.slice none 0 0, .int .i64 0, .int .i64 0, .slice none 0 0] 29 ∧ Blk wr (w.heap.size + 1 + 1 + 1) #[.slice a args.length c, .int .i64 0, .int .i64 j0, v] 29 ∧
        Acc rpTm 29 (w.heap.size + 4) (fun q => (F q ∧ q < w.heap.size) ∨ w.heap.size + 4 ≤ q) wr v ((Ty.etas args).take j)) (fun ii _ => args.length - (intOf ii).toNat)
    case atStart => exact ⟨0, _, rfl, by omega, B4, x1, x2, x3, Acc.nil _ _ _ _ _⟩
    case round =>
      clear B4 x1 x2 x3
      obtain ⟨j, v, rfl, hj, hb, hbox, hres, hout, hacc⟩ := hrel
      have c0 : wr.cell? ⟨w.heap.size + 1, 0, none⟩ = some (.slice a args.length c) := hbox.cell rfl
      have d0 : wr.cell? ⟨w.heap.size + 1 + 1 + 1, 3, none⟩ = some v := hout.cell rfl
      have hszp := hout.lt
      have Hacc := Lib.hid hacc; clear hacc
      by_cases hlt : j < args.length
      · obtain ⟨rfl, hF⟩ := ha (by omega)
        clear ha
        have hkp : Keep (fun q => F q ∧ q < w.heap.size) w wr := (Keep.refl _ _).below hb
        have e1 := hkp _ _ _ hF (h1 j hlt)
        have e2 := hkp _ _ _ hF (h2 j hlt)
        have hlt0 : (0 : Int) ≤ (j : Int) := Int.natCast_nonneg _
        have hlt1 : (j : Int) < (args.length : Int) := by omega
        have hlen2 : (args.length : Int) ≤ 1000000 := by omega
        have Hbl : Hid (v.ownBlock ≠ some bl) := fun e => by have := (Hacc.out.base_le bl e).1; have := hF.2; omega
        have Hl : Hid (((Ty.etas args).take j).length = j) := by show _ = _; rw [List.length_take, Ty.etas_len]; omega
        have Hne : Hid (∀ q, q < w.heap.size + 4 → v.ownBlock ≠ some q) := fun q hq e => by have := (Hacc.out.base_le q e).1; omega
        have Htk := Lib.hid (Ty.etas_take args j hlt)
        have hq1 : IntKind.i64.wrap ((args.length : Int) - 1) = (args.length : Int) - 1 := IntWalk.i64_in _ (by omega)
        have hq2 : IntKind.i64.wrap ((args.length : Int) - 1 - (j : Int)) = (args.length : Int) - 1 - (j : Int) := IntWalk.i64_in _ (by omega)
        go_wp2_with fail
        refine wp_region_noPanic (wp_region_need (S := fun w' => w'.cell? ⟨w.heap.size + 1, 0, none⟩ = some (.slice (some ⟨bl, off, none⟩) args.length c) ∧ w'.cell? ⟨w.heap.size + 1 + 1 + 1, 3, none⟩ = some v ∧ w'.cell? ⟨bl, off + j * 2, none⟩ = some (.slice (A j) (N j) (C j)) ∧ w'.cell? ⟨bl, off + j * 2 + 1, none⟩ = some (.int .i64 (B j))) (by kernel_rfl) ?_)
        have hS : (wr.drew).cell? ⟨w.heap.size + 1, 0, none⟩ = some (.slice (some ⟨bl, off, none⟩) args.length c) ∧ (wr.drew).cell? ⟨w.heap.size + 1 + 1 + 1, 3, none⟩ = some v ∧ (wr.drew).cell? ⟨bl, off + j * 2, none⟩ = some (.slice (A j) (N j) (C j)) ∧ (wr.drew).cell? ⟨bl, off + j * 2 + 1, none⟩ = some (.int .i64 (B j)) := ⟨c0, d0, e1, e2⟩
        refine wpN_take (i := 0) (v := ?v1) rfl (by kernel_rfl) (fun _ _ _ h => h) hS (Or.inl ⟨by rfl, ?hy1⟩) ?hr1
        case hy1 => (intro wS hSw; (try dsimp only at hSw); go_simp; (try with_reducible rfl))
        try simp only [Act.put, List.setIfInBounds_toArray, List.set_cons_zero, List.set_cons_succ, List.getElem_toArray, List.getElem_cons_zero, List.getElem_cons_succ]
        refine wpN_take (i := 1) (v := ?v2) rfl (by kernel_rfl) (fun _ _ _ h => h) hS (Or.inl ⟨by rfl, ?hy2⟩) ?hr2
        case hy2 => (intro wS hSw; (try dsimp only at hSw); go_simp; (try with_reducible rfl))
        try simp only [Act.put, List.setIfInBounds_toArray, List.set_cons_zero, List.set_cons_succ, List.getElem_toArray, List.getElem_cons_zero, List.getElem_cons_succ]
        refine wpN_take (i := 2) (v := ?v3) rfl (by kernel_rfl) (fun _ _ _ h => h) hS (Or.inl ⟨by rfl, ?hy3⟩) ?hr3
        case hy3 => (intro wS hSw; (try dsimp only at hSw); go_simp; (try with_reducible rfl))
        try simp only [Act.put, List.setIfInBounds_toArray, List.set_cons_zero, List.set_cons_succ, List.getElem_toArray, List.getElem_cons_zero, List.getElem_cons_succ]
        refine wpN_take (i := 3) (v := ?v4) rfl (by kernel_rfl) (fun _ _ _ h => h) hS (Or.inl ⟨by rfl, ?hy4⟩) ?hr4
        case hy4 => (intro wS hSw; (try dsimp only at hSw); go_simp; (try with_reducible rfl))
        try simp only [Act.put, List.setIfInBounds_toArray, List.set_cons_zero, List.set_cons_succ, List.getElem_toArray, List.getElem_cons_zero, List.getElem_cons_succ]
        refine wpN_take (i := 4) (v := ?v5) rfl (by kernel_rfl) (fun _ _ _ h => h) hS (Or.inl ⟨by rfl, ?hy5⟩) ?hr5
        case hy5 => (intro wS hSw; (try dsimp only at hSw); go_simp; (try with_reducible rfl))
        try simp only [Act.put, List.setIfInBounds_toArray, List.set_cons_zero, List.set_cons_succ, List.getElem_toArray, List.getElem_cons_zero, List.getElem_cons_succ]
        refine wpN_take (i := 5) (v := ?v6) rfl (by kernel_rfl) (fun _ _ _ h => h) hS (Or.inl ⟨by rfl, ?hy6⟩) ?hr6
        case hy6 => (intro wS hSw; (try dsimp only at hSw); go_simp; (try with_reducible rfl))
        try simp only [Act.put, List.setIfInBounds_toArray, List.set_cons_zero, List.set_cons_succ, List.getElem_toArray, List.getElem_cons_zero, List.getElem_cons_succ]
        refine wpN_take (i := 6) (v := ?v7) rfl (by kernel_rfl) (fun _ _ _ h => h) hS (Or.inl ⟨by rfl, ?hy7⟩) ?hr7
        case hy7 => (intro wS hSw; (try dsimp only at hSw); go_simp; (try with_reducible rfl))
        try simp only [Act.put, List.setIfInBounds_toArray, List.set_cons_zero, List.set_cons_succ, List.getElem_toArray, List.getElem_cons_zero, List.getElem_cons_succ]
        refine wpN_take (i := 7) (v := ?v8) rfl (by kernel_rfl) (fun _ _ _ h => h) hS (Or.inl ⟨by rfl, ?hy8⟩) ?hr8
        case hy8 => (intro wS hSw; (try dsimp only at hSw); go_simp; (try with_reducible rfl))
        try simp only [Act.put, List.setIfInBounds_toArray, List.set_cons_zero, List.set_cons_succ, List.getElem_toArray, List.getElem_cons_zero, List.getElem_cons_succ]
        refine wpN_take (i := 8) (v := ?v9) rfl (by kernel_rfl) (fun _ _ _ h => h) hS (Or.inl ⟨by rfl, ?hy9⟩) ?hr9
        case hy9 => (intro wS hSw; (try dsimp only at hSw); go_simp; (try with_reducible rfl))
        try simp only [Act.put, List.setIfInBounds_toArray, List.set_cons_zero, List.set_cons_succ, List.getElem_toArray, List.getElem_cons_zero, List.getElem_cons_succ]
        refine wpN_take (i := 9) (v := ?v10) rfl (by kernel_rfl) (fun _ _ _ h => h) hS (Or.inl ⟨by rfl, ?hy10⟩) ?hr10
        case hy10 => (intro wS hSw; (try dsimp only at hSw); go_simp; (try with_reducible rfl))
        try simp only [Act.put, List.setIfInBounds_toArray, List.set_cons_zero, List.set_cons_succ, List.getElem_toArray, List.getElem_cons_zero, List.getElem_cons_succ]
        refine wpN_take (i := 10) (v := ?v11) rfl (by kernel_rfl) (fun _ _ _ h => h) hS (Or.inl ⟨by rfl, ?hy11⟩) ?hr11
        case hy11 => (intro wS hSw; (try dsimp only at hSw); go_simp; (try with_reducible rfl))
        try simp only [Act.put, List.setIfInBounds_toArray, List.set_cons_zero, List.set_cons_succ, List.getElem_toArray, List.getElem_cons_zero, List.getElem_cons_succ]
        refine wpN_take (i := 11) (v := ?v12) rfl (by kernel_rfl) (fun _ _ _ h => h) hS (Or.inl ⟨by rfl, ?hy12⟩) ?hr12
        case hy12 => (intro wS hSw; (try dsimp only at hSw); go_simp; (try with_reducible rfl))
        try simp only [Act.put, List.setIfInBounds_toArray, List.set_cons_zero, List.set_cons_succ, List.getElem_toArray, List.getElem_cons_zero, List.getElem_cons_succ]
        refine wpN_step (i := 12) (by kernel_rfl) rfl (fun K hK => ?_)
        go_simp
        try rw [hq1]
        try rw [hq2]
        refine (Hih.out j hlt 0 ((args.length : Int) - 1 - j) _ (hkp.drew) (fun _ => ⟨by omega, by have := Hsl.out j hlt; omega⟩)).mono ?_
        rintro e w5 ⟨b', k', i', a', rfl, hr1, hb1⟩
        have hK1 : Keep (fun q => v.ownBlock ≠ some q) wr w5 := ((Keep.refl _ _).drew).below hb1
        have hS : (w5).cell? ⟨w.heap.size + 1, 0, none⟩ = some (.slice (some ⟨bl, off, none⟩) args.length c) ∧ (w5).cell? ⟨w.heap.size + 1 + 1 + 1, 3, none⟩ = some v ∧ (w5).cell? ⟨bl, off + j * 2, none⟩ = some (.slice (A j) (N j) (C j)) ∧ (w5).cell? ⟨bl, off + j * 2 + 1, none⟩ = some (.int .i64 (B j)) := ⟨(Blk.below (w := wr.drew) hbox hb1).cell rfl, (Blk.below (w := wr.drew) hout hb1).cell rfl, hK1 _ _ _ Hbl.out e1, hK1 _ _ _ Hbl.out e2⟩
        refine hK.out _ _ (fun _ => hS) ?_
        clear hK K
        try simp only [Act.put, List.setIfInBounds_toArray, List.set_cons_zero, List.set_cons_succ, List.getElem_toArray, List.getElem_cons_zero, List.getElem_cons_succ]
        refine wpN_step (i := 13) (by kernel_rfl) rfl (fun K hK => ?_)
        go_simp
        have hS : (w5.alloc (.cells #[b', k', i', a'] 29)).cell? ⟨w.heap.size + 1, 0, none⟩ = some (.slice (some ⟨bl, off, none⟩) args.length c) ∧ (w5.alloc (.cells #[b', k', i', a'] 29)).cell? ⟨w.heap.size + 1 + 1 + 1, 3, none⟩ = some v ∧ (w5.alloc (.cells #[b', k', i', a'] 29)).cell? ⟨bl, off + j * 2, none⟩ = some (.slice (A j) (N j) (C j)) ∧ (w5.alloc (.cells #[b', k', i', a'] 29)).cell? ⟨bl, off + j * 2 + 1, none⟩ = some (.int .i64 (B j)) := ⟨((Blk.below (w := wr.drew) hbox hb1).alloc _).cell rfl, ((Blk.below (w := wr.drew) hout hb1).alloc _).cell rfl, (hK1.alloc _) _ _ _ Hbl.out e1, (hK1.alloc _) _ _ _ Hbl.out e2⟩
        refine hK.out _ _ (fun _ => hS) ?_
        clear hK K
        try simp only [Act.put, List.setIfInBounds_toArray, List.set_cons_zero, List.set_cons_succ, List.getElem_toArray, List.getElem_cons_zero, List.getElem_cons_succ]
        refine wpN_step (i := 14) (by kernel_rfl) rfl (fun K hK => ?_)
        refine step_push rpTm (by decide) (by rfl) _ _ _ (by rfl) (w.heap.size + 4) 29 i2 _ 64 Try.underlying27 hi0 hz0 hz1 hz2 rfl (by decide)
               (fun q => (F q ∧ q < w.heap.size) ∨ w.heap.size + 4 ≤ q) v ((Ty.etas args).take j) (by rfl) (((Hacc.out.drew).below hb1).alloc _) (by rw [Hl.out]; omega)
               w5.heap.size _ [b', k', i', a'] (Ty.eta args[j] 0 ((args.length : Int) - 1 - j)) (by rfl) (heap_alloc_new _ _) ⟨_, _, _, _, rfl, (hr1.weaken (fun q _ hq => hq.elim (fun h => ⟨.inl h, Hne.out q (by have := h.2; omega)⟩) (fun h => ⟨.inr (Nat.le_trans (show w.heap.size + 4 ≤ wr.drew.heap.size from hszp) h), fun e => by have := (Hacc.out.base_le q e).2; exact absurd this (Nat.not_lt.2 h)⟩))).keep ((Keep.refl _ _).alloc _)⟩ (by have := hb1.size; simp at this ⊢; omega) ?_
        intro gg cap w6 hacc2 hgrow hat hlt2
        have hK2 : Keep (fun q => v.ownBlock ≠ some q) wr w6 := (hK1.alloc _).grown hgrow (fun _ hr hf => hf hr)
        have o2 := hout.push hb1 hgrow (Hne.out _ (by omega))
        have o1 := hres.push hb1 hgrow (Hne.out _ (by omega))
        have o0 := hbox.push hb1 hgrow (Hne.out _ (by omega))
        have B6 := below_push hb (by omega) hb1 hgrow (fun q hq => by have := (Hacc.out.base_le q hq).1; omega)
        have hS : (w6).cell? ⟨w.heap.size + 1, 0, none⟩ = some (.slice (some ⟨bl, off, none⟩) args.length c) ∧ (w6).cell? ⟨w.heap.size + 1 + 1 + 1, 3, none⟩ = some v ∧ (w6).cell? ⟨bl, off + j * 2, none⟩ = some (.slice (A j) (N j) (C j)) ∧ (w6).cell? ⟨bl, off + j * 2 + 1, none⟩ = some (.int .i64 (B j)) := ⟨o0.cell (i := 0) rfl, o2.cell (i := 3) rfl, hK2 _ _ _ Hbl.out e1, hK2 _ _ _ Hbl.out e2⟩
        have p2 := o2.free 3
        have Hacc2 := Lib.hid hacc2; clear hacc2
        refine hK.out _ _ (fun _ => hS) ?_
        clear hK K
        try simp only [Act.put, List.setIfInBounds_toArray, List.set_cons_zero, List.set_cons_succ, List.getElem_toArray, List.getElem_cons_zero, List.getElem_cons_succ]
        refine wpN_take (i := 15) (v := ?v13) rfl (by kernel_rfl) (fun _ _ _ h => h) hS (Or.inl ⟨by rfl, ?hy13⟩) ?hr13
        case hy13 => (intro wS hSw; (try dsimp only at hSw); go_simp; (try with_reducible rfl))
        try simp only [Act.put, List.setIfInBounds_toArray, List.set_cons_zero, List.set_cons_succ, List.getElem_toArray, List.getElem_cons_zero, List.getElem_cons_succ]
        refine wpN_step (i := 16) (by kernel_rfl) rfl (fun K hK => ?_)
        go_simp
        refine hK.out _ _ (fun h => absurd h (by decide)) ?_
        clear hK K
        try simp only [Act.put, List.setIfInBounds_toArray, List.set_cons_zero, List.set_cons_succ, List.getElem_toArray, List.getElem_cons_zero, List.getElem_cons_succ]
        refine wpN_done (by kernel_rfl) ?_
        refine NoPanic.normal ?_
        go_wp2_with fail
        refine ⟨⟨j + 1, _, by go_num, by omega, B6.setCell (by simp <;> omega) _, o0.far _ _ (by simp <;> omega), o1.far _ _ (by simp), o2.set 3 _, ?_⟩, by simp [intOf]; omega⟩
        have h := Hacc2.out
        rw [Hl.out, ← Htk.out] at h
        rw [show min j (Ty.etas args).length = j from by rw [Ty.etas_len]; omega]
        exact h.setCell ⟨w.heap.size + 1 + 1 + 1, 3, none⟩ _ (by simp <;> omega) (by simp <;> omega)
      · obtain ⟨va, vc, hv⟩ := Hacc.out.len_shape
        rw [List.length_take, Ty.etas_len, Nat.min_eq_left hj] at hv
        subst hv
        have d1 : wr.cell? ⟨w.heap.size + 1 + 1 + 1, 0, none⟩ = some (.slice a args.length c) := hout.cell rfl
        have d2 : wr.cell? ⟨w.heap.size + 1 + 1 + 1, 1, none⟩ = some (.int .i64 0) := hout.cell rfl
        have d3 : wr.cell? ⟨w.heap.size + 1 + 1 + 1, 2, none⟩ = some (.int .i64 j0) := hout.cell rfl
        have r0 : wr.cell? ⟨w.heap.size + 1 + 1, 0, none⟩ = some (.slice none 0 0) := hres.cell rfl
        have r1 : wr.cell? ⟨w.heap.size + 1 + 1, 1, none⟩ = some (.int .i64 0) := hres.cell rfl
        have r2 : wr.cell? ⟨w.heap.size + 1 + 1, 2, none⟩ = some (.int .i64 0) := hres.cell rfl
        have r3 : wr.cell? ⟨w.heap.size + 1 + 1, 3, none⟩ = some (.slice none 0 0) := hres.cell rfl
        have f0 := hres.free 0
        have f1 := hres.free 1
        have f2 := hres.free 2
        have f3 := hres.free 3
        go_wp2_with fail
        refine bodyPost_ret (v := .agg #[.slice a args.length c, .int .i64 0, .int .i64 j0, .slice va j vc]) (by simp [results, Try.results87, go_sem, r0, r1, r2, r3]) rfl ?_
        refine ⟨_, _, _, _, rfl, ?_, (((hb.setCell (by simp <;> omega) _).setCell (by simp <;> omega) _).setCell (by simp <;> omega) _).setCell (by simp <;> omega) _⟩
        have h := Hacc.out
        rw [List.take_of_length_le (by rw [Ty.etas_len]; omega)] at h
        have hA := (((h.setCell ⟨w.heap.size + 1 + 1, 0, none⟩ (.slice a args.length c) (by simp <;> omega) (by simp <;> omega)).setCell ⟨w.heap.size + 1 + 1, 1, none⟩ (.int .i64 0) (by simp <;> omega) (by simp <;> omega)).setCell ⟨w.heap.size + 1 + 1, 2, none⟩ (.int .i64 j0) (by simp <;> omega) (by simp <;> omega)).setCell ⟨w.heap.size + 1 + 1, 3, none⟩ (.slice va j vc) (by simp <;> omega) (by simp <;> omega)
        have KR := ((((((Keep.refl (fun q => F q ∧ q < w.heap.size) w).below hb).setCell ⟨w.heap.size + 1 + 1, 0, none⟩ (.slice a args.length c) (by simp <;> omega)).setCell ⟨w.heap.size + 1 + 1, 1, none⟩ (.int .i64 0) (by simp <;> omega)).setCell ⟨w.heap.size + 1 + 1, 2, none⟩ (.int .i64 j0) (by simp <;> omega)).setCell ⟨w.heap.size + 1 + 1, 3, none⟩ (.slice va j vc) (by simp <;> omega))
        exact isTm_mk ((Hself.out.keep KR).weaken (by decide) fun q _ h => .inl h.1) (hA.sl (F' := fun q => F q ∨ w.heap.size ≤ q) (fun q _ hq => hq.elim (fun h => .inl h.1) (fun h => .inr (by omega))) (fun q hq => .inr (by omega))) 0 j0
  · simp only [if_neg hk]
    have hk0 : (k == 0) = false := by simpa using hk
    go_enter Try.func87, Try.ntmps87
    go_wp2_with fail
    obtain ⟨w4, hw4⟩ : ∃ w4, (((w.alloc (.cells #[.int .i64 k, .int .i64 i] 23)).alloc (.cells #[.slice a args.length c, .int .i64 b] 26)).alloc (.cells #[.slice none 0 0, .int .i64 0, .int .i64 0, .slice none 0 0] 29)).alloc (.cells #[.slice a args.length c, .int .i64 k, .int .i64 i, .slice none 0 0] 29) = w4 := ⟨_, rfl⟩
    have B4 : Below w.heap.size w w4 := by rw [← hw4]; exact ((((Below.refl _ _).alloc (Nat.le_refl _) _).alloc (by simp) _).alloc (by simp <;> omega) _).alloc (by simp <;> omega) _
    have x1 : Blk w4 (w.heap.size + 1) #[.slice a args.length c, .int .i64 b] 26 := by rw [← hw4]; exact ((Blk.new _ _ _ (by simp)).alloc _).alloc _
    have x2 : Blk w4 (w.heap.size + 1 + 1) #[.slice none 0 0, .int .i64 0, .int .i64 0, .slice none 0 0] 29 := by rw [← hw4]; exact (Blk.new _ _ _ (by simp)).alloc _
    have x3 : Blk w4 (w.heap.size + 1 + 1 + 1) #[.slice a args.length c, .int .i64 k, .int .i64 i, .slice none 0 0] 29 := by rw [← hw4]; exact Blk.new _ _ _ (by simp)
    try rw [hw4]
    clear hw4
    go_loopw [7] (fun ii wr => ∃ (j : Nat) (v : Value), ii = .int .i64 j ∧ j ≤ args.length ∧
        Below w.heap.size w wr ∧ Blk wr (w.heap.size + 1) #[.slice a args.length c, .int .i64 b] 26 ∧ Blk wr (w.heap.size + 1 + 1) #[.slice none 0 0, .int .i64 0, .int .i64 0, .slice none 0 0] 29 ∧ Blk wr (w.heap.size + 1 + 1 + 1) #[.slice a args.length c, .int .i64 k, .int .i64 i, v] 29 ∧
        Acc rpTm 29 (w.heap.size + 4) (fun q => (F q ∧ q < w.heap.size) ∨ w.heap.size + 4 ≤ q) wr v ((Ty.etas args).take j)) (fun ii _ => args.length - (intOf ii).toNat)
    case atStart => exact ⟨0, _, rfl, by omega, B4, x1, x2, x3, Acc.nil _ _ _ _ _⟩
    case round =>
      clear B4 x1 x2 x3
      obtain ⟨j, v, rfl, hj, hb, hbox, hres, hout, hacc⟩ := hrel
      have c0 : wr.cell? ⟨w.heap.size + 1, 0, none⟩ = some (.slice a args.length c) := hbox.cell rfl
      have d0 : wr.cell? ⟨w.heap.size + 1 + 1 + 1, 3, none⟩ = some v := hout.cell rfl
      have hszp := hout.lt
      have Hacc := Lib.hid hacc; clear hacc
      by_cases hlt : j < args.length
      · obtain ⟨rfl, hF⟩ := ha (by omega)
        clear ha
        have hkp : Keep (fun q => F q ∧ q < w.heap.size) w wr := (Keep.refl _ _).below hb
        have e1 := hkp _ _ _ hF (h1 j hlt)
        have e2 := hkp _ _ _ hF (h2 j hlt)
        have hlt0 : (0 : Int) ≤ (j : Int) := Int.natCast_nonneg _
        have hlt1 : (j : Int) < (args.length : Int) := by omega
        have hlen2 : (args.length : Int) ≤ 1000000 := by omega
        have Hbl : Hid (v.ownBlock ≠ some bl) := fun e => by have := (Hacc.out.base_le bl e).1; have := hF.2; omega
        have Hl : Hid (((Ty.etas args).take j).length = j) := by show _ = _; rw [List.length_take, Ty.etas_len]; omega
        have Hne : Hid (∀ q, q < w.heap.size + 4 → v.ownBlock ≠ some q) := fun q hq e => by have := (Hacc.out.base_le q e).1; omega
        have Htk := Lib.hid (Ty.etas_take args j hlt)
        have hq1 : IntKind.i64.wrap ((args.length : Int) - 1) = (args.length : Int) - 1 := IntWalk.i64_in _ (by omega)
        have hq2 : IntKind.i64.wrap ((args.length : Int) - 1 - (j : Int)) = (args.length : Int) - 1 - (j : Int) := IntWalk.i64_in _ (by omega)
        go_wp2_with fail
        refine wp_region_noPanic (wp_region_need (S := fun w' => w'.cell? ⟨w.heap.size + 1, 0, none⟩ = some (.slice (some ⟨bl, off, none⟩) args.length c) ∧ w'.cell? ⟨w.heap.size + 1 + 1 + 1, 3, none⟩ = some v ∧ w'.cell? ⟨bl, off + j * 2, none⟩ = some (.slice (A j) (N j) (C j)) ∧ w'.cell? ⟨bl, off + j * 2 + 1, none⟩ = some (.int .i64 (B j))) (by kernel_rfl) ?_)
        have hS : (wr.drew).cell? ⟨w.heap.size + 1, 0, none⟩ = some (.slice (some ⟨bl, off, none⟩) args.length c) ∧ (wr.drew).cell? ⟨w.heap.size + 1 + 1 + 1, 3, none⟩ = some v ∧ (wr.drew).cell? ⟨bl, off + j * 2, none⟩ = some (.slice (A j) (N j) (C j)) ∧ (wr.drew).cell? ⟨bl, off + j * 2 + 1, none⟩ = some (.int .i64 (B j)) := ⟨c0, d0, e1, e2⟩
        refine wpN_take (i := 0) (v := ?v14) rfl (by kernel_rfl) (fun _ _ _ h => h) hS (Or.inl ⟨by rfl, ?hy14⟩) ?hr14
        case hy14 => (intro wS hSw; (try dsimp only at hSw); go_simp; (try with_reducible rfl))
        try simp only [Act.put, List.setIfInBounds_toArray, List.set_cons_zero, List.set_cons_succ, List.getElem_toArray, List.getElem_cons_zero, List.getElem_cons_succ]
        refine wpN_take (i := 1) (v := ?v15) rfl (by kernel_rfl) (fun _ _ _ h => h) hS (Or.inl ⟨by rfl, ?hy15⟩) ?hr15
        case hy15 => (intro wS hSw; (try dsimp only at hSw); go_simp; (try with_reducible rfl))
        try simp only [Act.put, List.setIfInBounds_toArray, List.set_cons_zero, List.set_cons_succ, List.getElem_toArray, List.getElem_cons_zero, List.getElem_cons_succ]
        refine wpN_take (i := 2) (v := ?v16) rfl (by kernel_rfl) (fun _ _ _ h => h) hS (Or.inl ⟨by rfl, ?hy16⟩) ?hr16
        case hy16 => (intro wS hSw; (try dsimp only at hSw); go_simp; (try with_reducible rfl))
        try simp only [Act.put, List.setIfInBounds_toArray, List.set_cons_zero, List.set_cons_succ, List.getElem_toArray, List.getElem_cons_zero, List.getElem_cons_succ]
        refine wpN_take (i := 3) (v := ?v17) rfl (by kernel_rfl) (fun _ _ _ h => h) hS (Or.inl ⟨by rfl, ?hy17⟩) ?hr17
        case hy17 => (intro wS hSw; (try dsimp only at hSw); go_simp; (try with_reducible rfl))
        try simp only [Act.put, List.setIfInBounds_toArray, List.set_cons_zero, List.set_cons_succ, List.getElem_toArray, List.getElem_cons_zero, List.getElem_cons_succ]
        refine wpN_take (i := 4) (v := ?v18) rfl (by kernel_rfl) (fun _ _ _ h => h) hS (Or.inl ⟨by rfl, ?hy18⟩) ?hr18
        case hy18 => (intro wS hSw; (try dsimp only at hSw); go_simp; (try with_reducible rfl))
        try simp only [Act.put, List.setIfInBounds_toArray, List.set_cons_zero, List.set_cons_succ, List.getElem_toArray, List.getElem_cons_zero, List.getElem_cons_succ]
        refine wpN_take (i := 5) (v := ?v19) rfl (by kernel_rfl) (fun _ _ _ h => h) hS (Or.inl ⟨by rfl, ?hy19⟩) ?hr19
        case hy19 => (intro wS hSw; (try dsimp only at hSw); go_simp; (try with_reducible rfl))
        try simp only [Act.put, List.setIfInBounds_toArray, List.set_cons_zero, List.set_cons_succ, List.getElem_toArray, List.getElem_cons_zero, List.getElem_cons_succ]
        refine wpN_take (i := 6) (v := ?v20) rfl (by kernel_rfl) (fun _ _ _ h => h) hS (Or.inl ⟨by rfl, ?hy20⟩) ?hr20
        case hy20 => (intro wS hSw; (try dsimp only at hSw); go_simp; (try with_reducible rfl))
        try simp only [Act.put, List.setIfInBounds_toArray, List.set_cons_zero, List.set_cons_succ, List.getElem_toArray, List.getElem_cons_zero, List.getElem_cons_succ]
        refine wpN_take (i := 7) (v := ?v21) rfl (by kernel_rfl) (fun _ _ _ h => h) hS (Or.inl ⟨by rfl, ?hy21⟩) ?hr21
        case hy21 => (intro wS hSw; (try dsimp only at hSw); go_simp; (try with_reducible rfl))
        try simp only [Act.put, List.setIfInBounds_toArray, List.set_cons_zero, List.set_cons_succ, List.getElem_toArray, List.getElem_cons_zero, List.getElem_cons_succ]
        refine wpN_take (i := 8) (v := ?v22) rfl (by kernel_rfl) (fun _ _ _ h => h) hS (Or.inl ⟨by rfl, ?hy22⟩) ?hr22
        case hy22 => (intro wS hSw; (try dsimp only at hSw); go_simp; (try with_reducible rfl))
        try simp only [Act.put, List.setIfInBounds_toArray, List.set_cons_zero, List.set_cons_succ, List.getElem_toArray, List.getElem_cons_zero, List.getElem_cons_succ]
        refine wpN_take (i := 9) (v := ?v23) rfl (by kernel_rfl) (fun _ _ _ h => h) hS (Or.inl ⟨by rfl, ?hy23⟩) ?hr23
        case hy23 => (intro wS hSw; (try dsimp only at hSw); go_simp; (try with_reducible rfl))
        try simp only [Act.put, List.setIfInBounds_toArray, List.set_cons_zero, List.set_cons_succ, List.getElem_toArray, List.getElem_cons_zero, List.getElem_cons_succ]
        refine wpN_take (i := 10) (v := ?v24) rfl (by kernel_rfl) (fun _ _ _ h => h) hS (Or.inl ⟨by rfl, ?hy24⟩) ?hr24
        case hy24 => (intro wS hSw; (try dsimp only at hSw); go_simp; (try with_reducible rfl))
        try simp only [Act.put, List.setIfInBounds_toArray, List.set_cons_zero, List.set_cons_succ, List.getElem_toArray, List.getElem_cons_zero, List.getElem_cons_succ]
        refine wpN_take (i := 11) (v := ?v25) rfl (by kernel_rfl) (fun _ _ _ h => h) hS (Or.inl ⟨by rfl, ?hy25⟩) ?hr25
        case hy25 => (intro wS hSw; (try dsimp only at hSw); go_simp; (try with_reducible rfl))
        try simp only [Act.put, List.setIfInBounds_toArray, List.set_cons_zero, List.set_cons_succ, List.getElem_toArray, List.getElem_cons_zero, List.getElem_cons_succ]
        refine wpN_step (i := 12) (by kernel_rfl) rfl (fun K hK => ?_)
        go_simp
        try rw [hq1]
        try rw [hq2]
        refine (Hih.out j hlt 0 ((args.length : Int) - 1 - j) _ (hkp.drew) (fun _ => ⟨by omega, by have := Hsl.out j hlt; omega⟩)).mono ?_
        rintro e w5 ⟨b', k', i', a', rfl, hr1, hb1⟩
        have hK1 : Keep (fun q => v.ownBlock ≠ some q) wr w5 := ((Keep.refl _ _).drew).below hb1
        have hS : (w5).cell? ⟨w.heap.size + 1, 0, none⟩ = some (.slice (some ⟨bl, off, none⟩) args.length c) ∧ (w5).cell? ⟨w.heap.size + 1 + 1 + 1, 3, none⟩ = some v ∧ (w5).cell? ⟨bl, off + j * 2, none⟩ = some (.slice (A j) (N j) (C j)) ∧ (w5).cell? ⟨bl, off + j * 2 + 1, none⟩ = some (.int .i64 (B j)) := ⟨(Blk.below (w := wr.drew) hbox hb1).cell rfl, (Blk.below (w := wr.drew) hout hb1).cell rfl, hK1 _ _ _ Hbl.out e1, hK1 _ _ _ Hbl.out e2⟩
        refine hK.out _ _ (fun _ => hS) ?_
        clear hK K
        try simp only [Act.put, List.setIfInBounds_toArray, List.set_cons_zero, List.set_cons_succ, List.getElem_toArray, List.getElem_cons_zero, List.getElem_cons_succ]
        refine wpN_step (i := 13) (by kernel_rfl) rfl (fun K hK => ?_)
        go_simp
        have hS : (w5.alloc (.cells #[b', k', i', a'] 29)).cell? ⟨w.heap.size + 1, 0, none⟩ = some (.slice (some ⟨bl, off, none⟩) args.length c) ∧ (w5.alloc (.cells #[b', k', i', a'] 29)).cell? ⟨w.heap.size + 1 + 1 + 1, 3, none⟩ = some v ∧ (w5.alloc (.cells #[b', k', i', a'] 29)).cell? ⟨bl, off + j * 2, none⟩ = some (.slice (A j) (N j) (C j)) ∧ (w5.alloc (.cells #[b', k', i', a'] 29)).cell? ⟨bl, off + j * 2 + 1, none⟩ = some (.int .i64 (B j)) := ⟨((Blk.below (w := wr.drew) hbox hb1).alloc _).cell rfl, ((Blk.below (w := wr.drew) hout hb1).alloc _).cell rfl, (hK1.alloc _) _ _ _ Hbl.out e1, (hK1.alloc _) _ _ _ Hbl.out e2⟩
        refine hK.out _ _ (fun _ => hS) ?_
        clear hK K
        try simp only [Act.put, List.setIfInBounds_toArray, List.set_cons_zero, List.set_cons_succ, List.getElem_toArray, List.getElem_cons_zero, List.getElem_cons_succ]
        refine wpN_step (i := 14) (by kernel_rfl) rfl (fun K hK => ?_)
        refine step_push rpTm (by decide) (by rfl) _ _ _ (by rfl) (w.heap.size + 4) 29 i2 _ 64 Try.underlying27 hi0 hz0 hz1 hz2 rfl (by decide)
               (fun q => (F q ∧ q < w.heap.size) ∨ w.heap.size + 4 ≤ q) v ((Ty.etas args).take j) (by rfl) (((Hacc.out.drew).below hb1).alloc _) (by rw [Hl.out]; omega)
               w5.heap.size _ [b', k', i', a'] (Ty.eta args[j] 0 ((args.length : Int) - 1 - j)) (by rfl) (heap_alloc_new _ _) ⟨_, _, _, _, rfl, (hr1.weaken (fun q _ hq => hq.elim (fun h => ⟨.inl h, Hne.out q (by have := h.2; omega)⟩) (fun h => ⟨.inr (Nat.le_trans (show w.heap.size + 4 ≤ wr.drew.heap.size from hszp) h), fun e => by have := (Hacc.out.base_le q e).2; exact absurd this (Nat.not_lt.2 h)⟩))).keep ((Keep.refl _ _).alloc _)⟩ (by have := hb1.size; simp at this ⊢; omega) ?_
        intro gg cap w6 hacc2 hgrow hat hlt2
        have hK2 : Keep (fun q => v.ownBlock ≠ some q) wr w6 := (hK1.alloc _).grown hgrow (fun _ hr hf => hf hr)
        have o2 := hout.push hb1 hgrow (Hne.out _ (by omega))
        have o1 := hres.push hb1 hgrow (Hne.out _ (by omega))
        have o0 := hbox.push hb1 hgrow (Hne.out _ (by omega))
        have B6 := below_push hb (by omega) hb1 hgrow (fun q hq => by have := (Hacc.out.base_le q hq).1; omega)
        have hS : (w6).cell? ⟨w.heap.size + 1, 0, none⟩ = some (.slice (some ⟨bl, off, none⟩) args.length c) ∧ (w6).cell? ⟨w.heap.size + 1 + 1 + 1, 3, none⟩ = some v ∧ (w6).cell? ⟨bl, off + j * 2, none⟩ = some (.slice (A j) (N j) (C j)) ∧ (w6).cell? ⟨bl, off + j * 2 + 1, none⟩ = some (.int .i64 (B j)) := ⟨o0.cell (i := 0) rfl, o2.cell (i := 3) rfl, hK2 _ _ _ Hbl.out e1, hK2 _ _ _ Hbl.out e2⟩
        have p2 := o2.free 3
        have Hacc2 := Lib.hid hacc2; clear hacc2
        refine hK.out _ _ (fun _ => hS) ?_
        clear hK K
        try simp only [Act.put, List.setIfInBounds_toArray, List.set_cons_zero, List.set_cons_succ, List.getElem_toArray, List.getElem_cons_zero, List.getElem_cons_succ]
        refine wpN_take (i := 15) (v := ?v26) rfl (by kernel_rfl) (fun _ _ _ h => h) hS (Or.inl ⟨by rfl, ?hy26⟩) ?hr26
        case hy26 => (intro wS hSw; (try dsimp only at hSw); go_simp; (try with_reducible rfl))
        try simp only [Act.put, List.setIfInBounds_toArray, List.set_cons_zero, List.set_cons_succ, List.getElem_toArray, List.getElem_cons_zero, List.getElem_cons_succ]
        refine wpN_step (i := 16) (by kernel_rfl) rfl (fun K hK => ?_)
        go_simp
        refine hK.out _ _ (fun h => absurd h (by decide)) ?_
        clear hK K
        try simp only [Act.put, List.setIfInBounds_toArray, List.set_cons_zero, List.set_cons_succ, List.getElem_toArray, List.getElem_cons_zero, List.getElem_cons_succ]
        refine wpN_done (by kernel_rfl) ?_
        refine NoPanic.normal ?_
        go_wp2_with fail
        refine ⟨⟨j + 1, _, by go_num, by omega, B6.setCell (by simp <;> omega) _, o0.far _ _ (by simp <;> omega), o1.far _ _ (by simp), o2.set 3 _, ?_⟩, by simp [intOf]; omega⟩
        have h := Hacc2.out
        rw [Hl.out, ← Htk.out] at h
        rw [show min j (Ty.etas args).length = j from by rw [Ty.etas_len]; omega]
        exact h.setCell ⟨w.heap.size + 1 + 1 + 1, 3, none⟩ _ (by simp <;> omega) (by simp <;> omega)
      · obtain ⟨va, vc, hv⟩ := Hacc.out.len_shape
        rw [List.length_take, Ty.etas_len, Nat.min_eq_left hj] at hv
        subst hv
        have d1 : wr.cell? ⟨w.heap.size + 1 + 1 + 1, 0, none⟩ = some (.slice a args.length c) := hout.cell rfl
        have d2 : wr.cell? ⟨w.heap.size + 1 + 1 + 1, 1, none⟩ = some (.int .i64 k) := hout.cell rfl
        have d3 : wr.cell? ⟨w.heap.size + 1 + 1 + 1, 2, none⟩ = some (.int .i64 (i)) := hout.cell rfl
        have r0 : wr.cell? ⟨w.heap.size + 1 + 1, 0, none⟩ = some (.slice none 0 0) := hres.cell rfl
        have r1 : wr.cell? ⟨w.heap.size + 1 + 1, 1, none⟩ = some (.int .i64 0) := hres.cell rfl
        have r2 : wr.cell? ⟨w.heap.size + 1 + 1, 2, none⟩ = some (.int .i64 0) := hres.cell rfl
        have r3 : wr.cell? ⟨w.heap.size + 1 + 1, 3, none⟩ = some (.slice none 0 0) := hres.cell rfl
        have f0 := hres.free 0
        have f1 := hres.free 1
        have f2 := hres.free 2
        have f3 := hres.free 3
        go_wp2_with fail
        refine bodyPost_ret (v := .agg #[.slice a args.length c, .int .i64 k, .int .i64 (i), .slice va j vc]) (by simp [results, Try.results87, go_sem, r0, r1, r2, r3]) rfl ?_
        refine ⟨_, _, _, _, rfl, ?_, (((hb.setCell (by simp <;> omega) _).setCell (by simp <;> omega) _).setCell (by simp <;> omega) _).setCell (by simp <;> omega) _⟩
        have h := Hacc.out
        rw [List.take_of_length_le (by rw [Ty.etas_len]; omega)] at h
        have hA := (((h.setCell ⟨w.heap.size + 1 + 1, 0, none⟩ (.slice a args.length c) (by simp <;> omega) (by simp <;> omega)).setCell ⟨w.heap.size + 1 + 1, 1, none⟩ (.int .i64 k) (by simp <;> omega) (by simp <;> omega)).setCell ⟨w.heap.size + 1 + 1, 2, none⟩ (.int .i64 (i)) (by simp <;> omega) (by simp <;> omega)).setCell ⟨w.heap.size + 1 + 1, 3, none⟩ (.slice va j vc) (by simp <;> omega) (by simp <;> omega)
        have KR := ((((((Keep.refl (fun q => F q ∧ q < w.heap.size) w).below hb).setCell ⟨w.heap.size + 1 + 1, 0, none⟩ (.slice a args.length c) (by simp <;> omega)).setCell ⟨w.heap.size + 1 + 1, 1, none⟩ (.int .i64 k) (by simp <;> omega)).setCell ⟨w.heap.size + 1 + 1, 2, none⟩ (.int .i64 (i)) (by simp <;> omega)).setCell ⟨w.heap.size + 1 + 1, 3, none⟩ (.slice va j vc) (by simp <;> omega))
        exact isTm_mk ((Hself.out.keep KR).weaken (by decide) fun q _ h => .inl h.1) (hA.sl (F' := fun q => F q ∨ w.heap.size ≤ q) (fun q _ hq => hq.elim (fun h => .inl h.1) (fun h => .inr (by omega))) (fun q hq => .inr (by omega))) k (i)
end Go.Proofs.Ytejpgifofkiofaa

