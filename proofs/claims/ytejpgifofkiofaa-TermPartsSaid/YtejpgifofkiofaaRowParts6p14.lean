/-
  Long forms and their heads, as the reference tells them.
-/
import Derived.Test.YtejpgifofkiofaaRowParts6p12
import Derived.Test.YtejpgifofkiofaaRowParts6p13
set_option linter.unusedVariables false
set_option linter.unusedSimpArgs false
namespace Go.Proofs.Ytejpgifofkiofaa
open Go.RowKit

namespace Tm
inductive Fit : Tm → Prop where
  | mk (b : List Ty) (k i : Int) (a : List Tm) (h0 : -9223372036854775808 ≤ i) (h1 : i ≤ 9223372036854775807) (h : ∀ t ∈ a, Fit t) : Fit (.mk b k i a)
theorem fit_iff {b : List Ty} {k i : Int} {a : List Tm} : Fit (.mk b k i a) ↔ -9223372036854775808 ≤ i ∧ i ≤ 9223372036854775807 ∧ ∀ t ∈ a, Fit t :=
  ⟨fun h => by cases h with | mk _ _ _ _ h0 h1 h => exact ⟨h0, h1, h⟩, fun ⟨h0, h1, h⟩ => .mk _ _ _ _ h0 h1 h⟩
def zero : Tm := .mk [] 0 0 []
def Long (t : Tm) : Prop := t.args = Ty.etas t.binds ∧ (t.kind = 0 → (t.binds.length : Int) ≤ t.index)
def headIx (t : Tm) : Int := if t.kind = 0 then t.index - (t.binds.length : Nat) else t.index
end Tm

def Ty.Eta (t : Ty) (k i : Int) : Tm := if k = 0 ∧ (i < 0 ∨ 1000 < i) then Tm.zero else Ty.eta t k i

theorem isTm_zero (F : Nat → Prop) (w : World) : IsTm F w (.slice none 0 0) (.int .i64 0) (.int .i64 0) (.slice none 0 0) Tm.zero := isTm_mk (isSl_nil _ _ _) (isSl_nil _ _ _) 0 0

def VarPost (t : Tm) (w : World) (e : Ending) (w' : World) : Prop := ∃ r : Bool, Hid (r = true ↔ t.Long) ∧ e = .returned (.tuple #[.agg #[.int .i64 (if r then t.kind else 0), .int .i64 (if r then t.headIx else 0)], .bool r]) ∧ Below w.heap.size w w'

set_option maxRecDepth 100000 in
set_option maxHeartbeats 1600000 in
theorem Eta_r {F : Nat → Prop} {w : World} {s b : Value} {t : Ty} (ht : IsTy F w s b t) (k i : Int) (hsz : t.size ≤ 1000000) :
    Calls Try.prog 21 #[.agg #[.int .i64 k, .int .i64 i], .agg #[s, b]] w (AnyTm F (Ty.Eta t k i) w) := by
  have ht' := ht.weaken (F' := fun q => F q ∧ q < w.heap.size) fun q h1 h2 => ⟨h2, h1⟩
  have he := fun (hr : k = 0 → -1000000 ≤ i ∧ i + t.args.length ≤ 9223372036854775807) (w' : World) (hw : Keep (fun q => F q ∧ q < w.heap.size) w w') => eta_r t _ w s b ht' k i w' hsz hw hr
  have hlen : t.args.length < t.size := by have := Ty.le_sizes t.args; cases t; simp [Ty.size, Ty.args] at *; omega
  obtain ⟨a, c, rfl, rfl⟩ := ht.shape
  clear ht ht'
  obtain ⟨tm, htm⟩ : ∃ tm, Ty.Eta t k i = tm := ⟨_, rfl⟩
  rw [htm]
  by_cases hk : k = 0
  · subst hk
    by_cases h0 : i < 0
    · have Htm := Lib.hid (show tm = Tm.zero by rw [← htm]; simp [Ty.Eta, h0])
      clear htm he hlen
      generalize t.args.length = n at *
      generalize t.base = tb at *
      go_enter Try.func21, Try.ntmps21
      go_wp2_with fail
      refine bodyPost_ret (v := .agg #[.slice none 0 0, .int .i64 0, .int .i64 0, .slice none 0 0]) (by simp [results, Try.results21, go_sem]) rfl ?_
      refine ⟨_, _, _, _, rfl, ?_, (((Below.refl _ _).alloc (Nat.le_refl _) _).alloc (by simp) _).alloc (by simp; omega) _⟩
      rw [Htm.out]
      exact isTm_zero _ _
    by_cases h1 : i > 1000
    · have Htm := Lib.hid (show tm = Tm.zero by rw [← htm]; have : 1000 < i := h1; simp [Ty.Eta, this])
      clear htm he hlen
      generalize t.args.length = n at *
      generalize t.base = tb at *
      go_enter Try.func21, Try.ntmps21
      go_wp2_with fail
      refine bodyPost_ret (v := .agg #[.slice none 0 0, .int .i64 0, .int .i64 0, .slice none 0 0]) (by simp [results, Try.results21, go_sem]) rfl ?_
      refine ⟨_, _, _, _, rfl, ?_, (((Below.refl _ _).alloc (Nat.le_refl _) _).alloc (by simp) _).alloc (by simp; omega) _⟩
      rw [Htm.out]
      exact isTm_zero _ _
    · have Htm : Hid (Ty.eta t 0 i = tm) := by show _ = _; rw [← htm]; simp [Ty.Eta, show ¬ 1000 < i from h1, h0]
      have He := Lib.hid (he fun _ => ⟨by omega, by omega⟩)
      rw [Htm.out] at He
      clear he Htm
      clear htm hlen
      generalize t.args.length = n at *
      generalize t.base = tb at *
      go_enter Try.func21, Try.ntmps21
      go_wp2_with fail
      obtain ⟨w3, hw3⟩ : ∃ w3, ((w.alloc (.cells #[.int .i64 0, .int .i64 i] 23)).alloc (.cells #[.slice a n c, .int .i64 tb] 26)).alloc (.cells #[.slice none 0 0, .int .i64 0, .int .i64 0, .slice none 0 0] 29) = w3 := ⟨_, rfl⟩
      have B3 : Below w.heap.size w w3 := by rw [← hw3]; exact (((Below.refl _ _).alloc (Nat.le_refl _) _).alloc (by simp) _).alloc (by simp; omega) _
      have x2 : Blk w3 (w.heap.size + 1 + 1) #[.slice none 0 0, .int .i64 0, .int .i64 0, .slice none 0 0] 29 := by rw [← hw3]; exact Blk.new _ _ _ (by simp)
      try rw [hw3]
      clear hw3
      refine (He.out w3 ((Keep.refl _ _).below B3)).mono ?_
      rintro e w4 ⟨b', k', i', a', rfl, hT, hb4⟩
      have y2 := x2.below hb4
      have B4 := B3.trans (hb4.mono B3.size)
      have hlt := x2.lt
      have r0 : w4.cell? ⟨w.heap.size + 1 + 1, 0, none⟩ = some (.slice none 0 0) := y2.cell rfl
      have r1 : w4.cell? ⟨w.heap.size + 1 + 1, 1, none⟩ = some (.int .i64 0) := y2.cell rfl
      have r2 : w4.cell? ⟨w.heap.size + 1 + 1, 2, none⟩ = some (.int .i64 0) := y2.cell rfl
      have r3 : w4.cell? ⟨w.heap.size + 1 + 1, 3, none⟩ = some (.slice none 0 0) := y2.cell rfl
      have f0 := y2.free 0
      have f1 := y2.free 1
      have f2 := y2.free 2
      have f3 := y2.free 3
      obtain ⟨pa, pc, qa, qc, rfl, rfl, rfl, rfl⟩ := hT.shape
      have HT := Lib.hid (hT.weaken (F' := fun q => (F q ∧ q < w.heap.size) ∨ w.heap.size + 3 ≤ q) fun q _ h => h.elim .inl (fun h => .inr (by omega)))
      clear hT
      generalize tm.binds.length = n1 at *
      generalize tm.args.length = n2 at *
      generalize tm.kind = n3 at *
      generalize tm.index = n4 at *
      go_wp2_with fail
      refine bodyPost_ret (v := .agg #[.slice pa n1 pc, .int .i64 n3, .int .i64 n4, .slice qa n2 qc]) (by simp [results, Try.results21, go_sem, r0, r1, r2, r3]) rfl ?_
      refine ⟨_, _, _, _, rfl, ?_, (((B4.setCell (by simp <;> omega) _).setCell (by simp <;> omega) _).setCell (by simp <;> omega) _).setCell (by simp <;> omega) _⟩
      exact ((((HT.out.keep ((Keep.refl _ _).setCell ⟨w.heap.size + 1 + 1, 0, none⟩ _ (by simp <;> omega))).keep ((Keep.refl _ _).setCell ⟨w.heap.size + 1 + 1, 1, none⟩ _ (by simp <;> omega))).keep ((Keep.refl _ _).setCell ⟨w.heap.size + 1 + 1, 2, none⟩ _ (by simp <;> omega))).keep ((Keep.refl _ _).setCell ⟨w.heap.size + 1 + 1, 3, none⟩ _ (by simp <;> omega))).weaken fun q _ h => h.elim (fun h => .inl h.1) (fun h => .inr (by omega))
  · have hk0 : (k == 0) = false := by simpa using hk
    have Htm : Hid (Ty.eta t k i = tm) := by show _ = _; rw [← htm]; simp [Ty.Eta, hk]
    have He := Lib.hid (he fun h => absurd h hk)
    rw [Htm.out] at He
    clear he Htm
    clear htm hlen
    generalize t.args.length = n at *
    generalize t.base = tb at *
    go_enter Try.func21, Try.ntmps21
    go_wp2_with fail
    obtain ⟨w3, hw3⟩ : ∃ w3, ((w.alloc (.cells #[.int .i64 k, .int .i64 i] 23)).alloc (.cells #[.slice a n c, .int .i64 tb] 26)).alloc (.cells #[.slice none 0 0, .int .i64 0, .int .i64 0, .slice none 0 0] 29) = w3 := ⟨_, rfl⟩
    have B3 : Below w.heap.size w w3 := by rw [← hw3]; exact (((Below.refl _ _).alloc (Nat.le_refl _) _).alloc (by simp) _).alloc (by simp; omega) _
    have x2 : Blk w3 (w.heap.size + 1 + 1) #[.slice none 0 0, .int .i64 0, .int .i64 0, .slice none 0 0] 29 := by rw [← hw3]; exact Blk.new _ _ _ (by simp)
    try rw [hw3]
    clear hw3
    refine (He.out w3 ((Keep.refl _ _).below B3)).mono ?_
    rintro e w4 ⟨b', k', i', a', rfl, hT, hb4⟩
    have y2 := x2.below hb4
    have B4 := B3.trans (hb4.mono B3.size)
    have hlt := x2.lt
    have r0 : w4.cell? ⟨w.heap.size + 1 + 1, 0, none⟩ = some (.slice none 0 0) := y2.cell rfl
    have r1 : w4.cell? ⟨w.heap.size + 1 + 1, 1, none⟩ = some (.int .i64 0) := y2.cell rfl
    have r2 : w4.cell? ⟨w.heap.size + 1 + 1, 2, none⟩ = some (.int .i64 0) := y2.cell rfl
    have r3 : w4.cell? ⟨w.heap.size + 1 + 1, 3, none⟩ = some (.slice none 0 0) := y2.cell rfl
    have f0 := y2.free 0
    have f1 := y2.free 1
    have f2 := y2.free 2
    have f3 := y2.free 3
    obtain ⟨pa, pc, qa, qc, rfl, rfl, rfl, rfl⟩ := hT.shape
    have HT := Lib.hid (hT.weaken (F' := fun q => (F q ∧ q < w.heap.size) ∨ w.heap.size + 3 ≤ q) fun q _ h => h.elim .inl (fun h => .inr (by omega)))
    clear hT
    generalize tm.binds.length = n1 at *
    generalize tm.args.length = n2 at *
    generalize tm.kind = n3 at *
    generalize tm.index = n4 at *
    go_wp2_with fail
    refine bodyPost_ret (v := .agg #[.slice pa n1 pc, .int .i64 n3, .int .i64 n4, .slice qa n2 qc]) (by simp [results, Try.results21, go_sem, r0, r1, r2, r3]) rfl ?_
    refine ⟨_, _, _, _, rfl, ?_, (((B4.setCell (by simp <;> omega) _).setCell (by simp <;> omega) _).setCell (by simp <;> omega) _).setCell (by simp <;> omega) _⟩
    exact ((((HT.out.keep ((Keep.refl _ _).setCell ⟨w.heap.size + 1 + 1, 0, none⟩ _ (by simp <;> omega))).keep ((Keep.refl _ _).setCell ⟨w.heap.size + 1 + 1, 1, none⟩ _ (by simp <;> omega))).keep ((Keep.refl _ _).setCell ⟨w.heap.size + 1 + 1, 2, none⟩ _ (by simp <;> omega))).keep ((Keep.refl _ _).setCell ⟨w.heap.size + 1 + 1, 3, none⟩ _ (by simp <;> omega))).weaken fun q _ h => h.elim (fun h => .inl h.1) (fun h => .inr (by omega))

set_option maxRecDepth 100000 in
set_option maxHeartbeats 1600000 in
theorem var_r {F : Nat → Prop} {w : World} {b k i a : Value} {t : Tm} (ht : IsTm F w b k i a t) (hsz : t.full ≤ 100000) (hfit : t.Fit) :
    Calls Try.prog 24 #[.agg #[b, k, i, a]] w (VarPost t w) := by
  obtain ⟨_, _, hb, _⟩ := ht.inv
  obtain ⟨pa, pc, qa, qc, rfl, rfl, rfl, rfl⟩ := ht.shape
  have Ht := Lib.hid ht; clear ht
  obtain ⟨binds, k, i, args⟩ := t
  simp only [Tm.binds, Tm.kind, Tm.index, Tm.args] at *
  rw [Tm.full_eq] at hsz
  obtain ⟨hi0, hi1, _⟩ := Tm.fit_iff.1 hfit
  have hnl : binds.length ≤ 100000 := by have := Ty.le_sizes binds; omega
  have HL : Hid ((Tm.mk binds k i args).Long ↔ args = Ty.etas binds ∧ (k = 0 → (binds.length : Int) ≤ i)) := Iff.rfl
  have HH : Hid ((Tm.mk binds k i args).headIx = if k = 0 then i - (binds.length : Nat) else i) := rfl
  have Hb := Lib.hid hb; clear hb hfit
  by_cases hk : k = 0
  · subst hk
    have hk0 : ((0 : Int) == 0) = true := rfl
    by_cases hlt : i < (binds.length : Int)
    · have HL2 : Hid (¬ (Tm.mk binds 0 i args).Long) := by show ¬ _; rw [HL.out]; intro h; have := h.2 rfl; omega
      go_enter Try.func24, Try.ntmps24
      go_wp2_with fail
      refine bodyPost_ret (v := .tuple #[.agg #[.int .i64 0, .int .i64 0], .bool false]) (by simp [results, Try.results24, go_sem]) rfl ?_
      exact ⟨false, ⟨fun h => absurd h (by decide), fun h => absurd h HL2.out⟩, rfl, (((Below.refl _ _).alloc (Nat.le_refl _) _).alloc (by simp) _).alloc (by simp; omega) _⟩
    · have hwr : IntKind.i64.wrap (i - (binds.length : Int)) = i - (binds.length : Int) := IntWalk.i64_in _ (by omega)
      obtain ⟨jx, hjx⟩ : ∃ jx : Int, i - (binds.length : Int) = jx := ⟨_, rfl⟩
      have HR : Hid (-1000000 ≤ jx ∧ jx + (binds.length : Nat) ≤ 9223372036854775807) := by show _ ∧ _; omega
      have HE : Hid (Ty.eta (.mk binds 0) 0 jx = .mk binds 0 i (Ty.etas binds)) := by show _ = _; rw [Ty.eta_eq, if_pos rfl, show jx + (binds.length : Int) = i by omega]
      have HI : Hid ((Tm.mk binds 0 i args).headIx = jx) := by show _ = _; rw [HH.out]; simp; omega
      rw [hjx] at hwr
      have HG : Hid ((0 : Int) = 0 → (binds.length : Int) ≤ i) := fun _ => by omega
      by_cases hbig : jx > 1000
      · rw [← hjx] at hwr
        try rw [hjx] at hwr
        go_enter Try.func24, Try.ntmps24
        go_wp2_with fail
        obtain ⟨w3, hw3⟩ : ∃ w3, ((w.alloc (.cells #[.slice pa binds.length pc, .int .i64 0, .int .i64 i, .slice qa args.length qc] 29)).alloc (.cells #[.int .i64 0, .int .i64 0] 23)).alloc (.cells #[.int .i64 0, .int .i64 jx] 23) = w3 := ⟨_, rfl⟩
        have B3 : Below w.heap.size w w3 := by rw [← hw3]; exact ((((Below.refl _ _).alloc (Nat.le_refl _) _).alloc (by simp) _).alloc (by simp; omega) _)
        have x0 : Blk w3 w.heap.size #[.slice pa binds.length pc, .int .i64 0, .int .i64 i, .slice qa args.length qc] 29 := by rw [← hw3]; exact ((Blk.new _ _ _ rfl).alloc _).alloc _
        have x1 : Blk w3 (w.heap.size + 1) #[.int .i64 0, .int .i64 0] 23 := by rw [← hw3]; exact (Blk.new _ _ _ (by simp)).alloc _
        have x2 : Blk w3 (w.heap.size + 1 + 1) #[.int .i64 0, .int .i64 jx] 23 := by rw [← hw3]; exact Blk.new _ _ _ (by simp)
        try rw [hw3]
        clear hw3
        have hlt3 := x2.lt
        have hbb := Lib.hid (isTy_mk ((Hb.out.weaken (F' := fun q => F q ∧ q < w.heap.size) (by decide) fun q h1 h2 => ⟨h2, h1⟩).keep ((Keep.refl _ _).below B3)) 0)
        refine (eta_r (.mk binds 0) _ _ _ _ hbb.out 0 jx w3 (by rw [Ty.size_eq]; omega) (Keep.refl _ _) (fun _ => HR.out)).mono ?_
        rintro e w4 ⟨b', k', i', a', rfl, hT, hb4⟩
        rw [HE.out] at hT
        have HTi := Lib.hid hT; clear hT
        obtain ⟨pa', pc', qa', qc', hq1, hq2, hq3, hq4⟩ := HTi.out.shape
        simp only [Tm.binds, Tm.kind, Tm.index, Tm.args] at hq1 hq2 hq3 hq4
        subst hq1 hq2 hq3 hq4
        obtain ⟨n3, hn3⟩ : ∃ n, (Ty.etas binds).length = n := ⟨_, rfl⟩
        rw [hn3] at HTi
        rw [hn3]
        clear hn3
        have y0 := x0.below hb4
        have y1 := x1.below hb4
        have y2 := x2.below hb4
        have B4 := B3.trans (hb4.mono B3.size)
        clear x0 x1 x2
        have hlt4 := y2.lt
        have hlt40 := y0.lt
        have hlt41 := y1.lt
        have c00 : w4.cell? ⟨w.heap.size, 0, none⟩ = some (.slice pa binds.length pc) := y0.cell rfl
        have c01 : w4.cell? ⟨w.heap.size, 1, none⟩ = some (.int .i64 0) := y0.cell rfl
        have c02 : w4.cell? ⟨w.heap.size, 2, none⟩ = some (.int .i64 i) := y0.cell rfl
        have c03 : w4.cell? ⟨w.heap.size, 3, none⟩ = some (.slice qa args.length qc) := y0.cell rfl
        have c10 : w4.cell? ⟨w.heap.size + 1, 0, none⟩ = some (.int .i64 0) := y1.cell rfl
        have c11 : w4.cell? ⟨w.heap.size + 1, 1, none⟩ = some (.int .i64 0) := y1.cell rfl
        have c20 : w4.cell? ⟨w.heap.size + 1 + 1, 0, none⟩ = some (.int .i64 0) := y2.cell rfl
        have c21 : w4.cell? ⟨w.heap.size + 1 + 1, 1, none⟩ = some (.int .i64 jx) := y2.cell rfl
        have f0 := y1.free 0
        have f1 := y1.free 1
        go_wp2_with fail
        obtain ⟨w5, hw5⟩ : ∃ w5, w4.alloc (.cells #[.slice pa' binds.length pc', .int .i64 0, .int .i64 i, .slice qa' n3 qc'] 29) = w5 := ⟨_, rfl⟩
        have b5 : Below w4.heap.size w4 w5 := by rw [← hw5]; exact (Below.refl _ _).alloc (Nat.le_refl _) _
        rw [hw5]
        clear hw5
        have B5 := B4.trans (b5.mono B4.size)
        refine (same6_r _ _ _ _ _ _ _ HTi.out _ _ _ _ _ _ _ Ht.out w5 ((Keep.refl _ _).below b5) ((Keep.refl _ _).below B5)).mono ?_
        rintro e w6 ⟨r, hr, rfl, hb6⟩
        have B6 := B5.trans (hb6.mono B5.size)
        have z1 := (y1.below b5).below hb6
        have z2 := (y2.below b5).below hb6
        clear y0 y1 y2 c00 c01 c02 c03 c10 c11 c20 c21 f0 f1 hlt4 hlt40 hlt41
        have c10 : w6.cell? ⟨w.heap.size + 1, 0, none⟩ = some (.int .i64 0) := z1.cell rfl
        have c11 : w6.cell? ⟨w.heap.size + 1, 1, none⟩ = some (.int .i64 0) := z1.cell rfl
        have c20 : w6.cell? ⟨w.heap.size + 1 + 1, 0, none⟩ = some (.int .i64 0) := z2.cell rfl
        have c21 : w6.cell? ⟨w.heap.size + 1 + 1, 1, none⟩ = some (.int .i64 jx) := z2.cell rfl
        have f0 := z1.free 0
        have f1 := z1.free 1
        have Hr := Lib.hid hr; clear hr
        cases r
        · have HLn : Hid (¬ (Tm.mk binds 0 i args).Long) := by show ¬ _; rw [HL.out]; intro h; exact absurd (Hr.out.2 (by rw [h.1])) (by decide)
          go_wp2_with fail
          refine bodyPost_ret (v := .tuple #[.agg #[.int .i64 0, .int .i64 0], .bool false]) (by simp [results, Try.results24, go_sem, c10, c11]) rfl ?_
          exact ⟨false, ⟨fun h => absurd h (by decide), fun h => absurd h HLn.out⟩, rfl, (B6.setCell (by simp <;> omega) _).setCell (by simp <;> omega) _⟩
        · have HLy : Hid ((Tm.mk binds 0 i args).Long) := by show Tm.Long _; rw [HL.out]; exact ⟨(tm_eq.1 (Hr.out.1 rfl)).2.2.2.symm, HG.out⟩
          go_wp2_with fail
          refine bodyPost_ret (v := .tuple #[.agg #[.int .i64 0, .int .i64 jx], .bool true]) (by simp [results, Try.results24, go_sem, c10, c11]) rfl ?_
          exact ⟨true, ⟨fun _ => HLy.out, fun _ => rfl⟩, by simp [HI.out, Tm.kind], (B6.setCell (by simp <;> omega) _).setCell (by simp <;> omega) _⟩
      · rw [← hjx] at hwr
        try rw [hjx] at hwr
        go_enter Try.func24, Try.ntmps24
        go_wp2_with fail
        obtain ⟨w3, hw3⟩ : ∃ w3, ((w.alloc (.cells #[.slice pa binds.length pc, .int .i64 0, .int .i64 i, .slice qa args.length qc] 29)).alloc (.cells #[.int .i64 0, .int .i64 0] 23)).alloc (.cells #[.int .i64 0, .int .i64 jx] 23) = w3 := ⟨_, rfl⟩
        have B3 : Below w.heap.size w w3 := by rw [← hw3]; exact ((((Below.refl _ _).alloc (Nat.le_refl _) _).alloc (by simp) _).alloc (by simp; omega) _)
        have x0 : Blk w3 w.heap.size #[.slice pa binds.length pc, .int .i64 0, .int .i64 i, .slice qa args.length qc] 29 := by rw [← hw3]; exact ((Blk.new _ _ _ rfl).alloc _).alloc _
        have x1 : Blk w3 (w.heap.size + 1) #[.int .i64 0, .int .i64 0] 23 := by rw [← hw3]; exact (Blk.new _ _ _ (by simp)).alloc _
        have x2 : Blk w3 (w.heap.size + 1 + 1) #[.int .i64 0, .int .i64 jx] 23 := by rw [← hw3]; exact Blk.new _ _ _ (by simp)
        try rw [hw3]
        clear hw3
        have hlt3 := x2.lt
        have hbb := Lib.hid (isTy_mk ((Hb.out.weaken (F' := fun q => F q ∧ q < w.heap.size) (by decide) fun q h1 h2 => ⟨h2, h1⟩).keep ((Keep.refl _ _).below B3)) 0)
        refine (eta_r (.mk binds 0) _ _ _ _ hbb.out 0 jx w3 (by rw [Ty.size_eq]; omega) (Keep.refl _ _) (fun _ => HR.out)).mono ?_
        rintro e w4 ⟨b', k', i', a', rfl, hT, hb4⟩
        rw [HE.out] at hT
        have HTi := Lib.hid hT; clear hT
        obtain ⟨pa', pc', qa', qc', hq1, hq2, hq3, hq4⟩ := HTi.out.shape
        simp only [Tm.binds, Tm.kind, Tm.index, Tm.args] at hq1 hq2 hq3 hq4
        subst hq1 hq2 hq3 hq4
        obtain ⟨n3, hn3⟩ : ∃ n, (Ty.etas binds).length = n := ⟨_, rfl⟩
        rw [hn3] at HTi
        rw [hn3]
        clear hn3
        have y0 := x0.below hb4
        have y1 := x1.below hb4
        have y2 := x2.below hb4
        have B4 := B3.trans (hb4.mono B3.size)
        clear x0 x1 x2
        have hlt4 := y2.lt
        have hlt40 := y0.lt
        have hlt41 := y1.lt
        have c00 : w4.cell? ⟨w.heap.size, 0, none⟩ = some (.slice pa binds.length pc) := y0.cell rfl
        have c01 : w4.cell? ⟨w.heap.size, 1, none⟩ = some (.int .i64 0) := y0.cell rfl
        have c02 : w4.cell? ⟨w.heap.size, 2, none⟩ = some (.int .i64 i) := y0.cell rfl
        have c03 : w4.cell? ⟨w.heap.size, 3, none⟩ = some (.slice qa args.length qc) := y0.cell rfl
        have c10 : w4.cell? ⟨w.heap.size + 1, 0, none⟩ = some (.int .i64 0) := y1.cell rfl
        have c11 : w4.cell? ⟨w.heap.size + 1, 1, none⟩ = some (.int .i64 0) := y1.cell rfl
        have c20 : w4.cell? ⟨w.heap.size + 1 + 1, 0, none⟩ = some (.int .i64 0) := y2.cell rfl
        have c21 : w4.cell? ⟨w.heap.size + 1 + 1, 1, none⟩ = some (.int .i64 jx) := y2.cell rfl
        have f0 := y1.free 0
        have f1 := y1.free 1
        go_wp2_with fail
        obtain ⟨w5, hw5⟩ : ∃ w5, w4.alloc (.cells #[.slice pa' binds.length pc', .int .i64 0, .int .i64 i, .slice qa' n3 qc'] 29) = w5 := ⟨_, rfl⟩
        have b5 : Below w4.heap.size w4 w5 := by rw [← hw5]; exact (Below.refl _ _).alloc (Nat.le_refl _) _
        rw [hw5]
        clear hw5
        have B5 := B4.trans (b5.mono B4.size)
        refine (same6_r _ _ _ _ _ _ _ HTi.out _ _ _ _ _ _ _ Ht.out w5 ((Keep.refl _ _).below b5) ((Keep.refl _ _).below B5)).mono ?_
        rintro e w6 ⟨r, hr, rfl, hb6⟩
        have B6 := B5.trans (hb6.mono B5.size)
        have z1 := (y1.below b5).below hb6
        have z2 := (y2.below b5).below hb6
        clear y0 y1 y2 c00 c01 c02 c03 c10 c11 c20 c21 f0 f1 hlt4 hlt40 hlt41
        have c10 : w6.cell? ⟨w.heap.size + 1, 0, none⟩ = some (.int .i64 0) := z1.cell rfl
        have c11 : w6.cell? ⟨w.heap.size + 1, 1, none⟩ = some (.int .i64 0) := z1.cell rfl
        have c20 : w6.cell? ⟨w.heap.size + 1 + 1, 0, none⟩ = some (.int .i64 0) := z2.cell rfl
        have c21 : w6.cell? ⟨w.heap.size + 1 + 1, 1, none⟩ = some (.int .i64 jx) := z2.cell rfl
        have f0 := z1.free 0
        have f1 := z1.free 1
        have Hr := Lib.hid hr; clear hr
        cases r
        · have HLn : Hid (¬ (Tm.mk binds 0 i args).Long) := by show ¬ _; rw [HL.out]; intro h; exact absurd (Hr.out.2 (by rw [h.1])) (by decide)
          go_wp2_with fail
          refine bodyPost_ret (v := .tuple #[.agg #[.int .i64 0, .int .i64 0], .bool false]) (by simp [results, Try.results24, go_sem, c10, c11]) rfl ?_
          exact ⟨false, ⟨fun h => absurd h (by decide), fun h => absurd h HLn.out⟩, rfl, (B6.setCell (by simp <;> omega) _).setCell (by simp <;> omega) _⟩
        · have HLy : Hid ((Tm.mk binds 0 i args).Long) := by show Tm.Long _; rw [HL.out]; exact ⟨(tm_eq.1 (Hr.out.1 rfl)).2.2.2.symm, HG.out⟩
          go_wp2_with fail
          refine bodyPost_ret (v := .tuple #[.agg #[.int .i64 0, .int .i64 jx], .bool true]) (by simp [results, Try.results24, go_sem, c10, c11]) rfl ?_
          exact ⟨true, ⟨fun _ => HLy.out, fun _ => rfl⟩, by simp [HI.out, Tm.kind], (B6.setCell (by simp <;> omega) _).setCell (by simp <;> omega) _⟩
  · have hk0 : (k == 0) = false := by simpa using hk
    have HE : Hid (Ty.eta (.mk binds 0) k i = .mk binds k i (Ty.etas binds)) := by show _ = _; rw [Ty.eta_eq, if_neg hk]
    have HI : Hid ((Tm.mk binds k i args).headIx = i) := by show _ = _; rw [HH.out, if_neg hk]
    have HG : Hid (k = 0 → (binds.length : Int) ≤ i) := fun h => absurd h hk
    go_enter Try.func24, Try.ntmps24
    go_wp2_with fail
    obtain ⟨w3, hw3⟩ : ∃ w3, ((w.alloc (.cells #[.slice pa binds.length pc, .int .i64 k, .int .i64 i, .slice qa args.length qc] 29)).alloc (.cells #[.int .i64 0, .int .i64 0] 23)).alloc (.cells #[.int .i64 k, .int .i64 i] 23) = w3 := ⟨_, rfl⟩
    have B3 : Below w.heap.size w w3 := by rw [← hw3]; exact ((((Below.refl _ _).alloc (Nat.le_refl _) _).alloc (by simp) _).alloc (by simp; omega) _)
    have x0 : Blk w3 w.heap.size #[.slice pa binds.length pc, .int .i64 k, .int .i64 i, .slice qa args.length qc] 29 := by rw [← hw3]; exact ((Blk.new _ _ _ rfl).alloc _).alloc _
    have x1 : Blk w3 (w.heap.size + 1) #[.int .i64 0, .int .i64 0] 23 := by rw [← hw3]; exact (Blk.new _ _ _ (by simp)).alloc _
    have x2 : Blk w3 (w.heap.size + 1 + 1) #[.int .i64 k, .int .i64 i] 23 := by rw [← hw3]; exact Blk.new _ _ _ (by simp)
    try rw [hw3]
    clear hw3
    have hlt3 := x2.lt
    have hbb := Lib.hid (isTy_mk ((Hb.out.weaken (F' := fun q => F q ∧ q < w.heap.size) (by decide) fun q h1 h2 => ⟨h2, h1⟩).keep ((Keep.refl _ _).below B3)) 0)
    refine (eta_r (.mk binds 0) _ _ _ _ hbb.out k i w3 (by rw [Ty.size_eq]; omega) (Keep.refl _ _) (fun h => absurd h hk)).mono ?_
    rintro e w4 ⟨b', k', i', a', rfl, hT, hb4⟩
    rw [HE.out] at hT
    have HTi := Lib.hid hT; clear hT
    obtain ⟨pa', pc', qa', qc', hq1, hq2, hq3, hq4⟩ := HTi.out.shape
    simp only [Tm.binds, Tm.kind, Tm.index, Tm.args] at hq1 hq2 hq3 hq4
    subst hq1 hq2 hq3 hq4
    obtain ⟨n3, hn3⟩ : ∃ n, (Ty.etas binds).length = n := ⟨_, rfl⟩
    rw [hn3] at HTi
    rw [hn3]
    clear hn3
    have y0 := x0.below hb4
    have y1 := x1.below hb4
    have y2 := x2.below hb4
    have B4 := B3.trans (hb4.mono B3.size)
    clear x0 x1 x2
    have hlt4 := y2.lt
    have hlt40 := y0.lt
    have hlt41 := y1.lt
    have c00 : w4.cell? ⟨w.heap.size, 0, none⟩ = some (.slice pa binds.length pc) := y0.cell rfl
    have c01 : w4.cell? ⟨w.heap.size, 1, none⟩ = some (.int .i64 k) := y0.cell rfl
    have c02 : w4.cell? ⟨w.heap.size, 2, none⟩ = some (.int .i64 i) := y0.cell rfl
    have c03 : w4.cell? ⟨w.heap.size, 3, none⟩ = some (.slice qa args.length qc) := y0.cell rfl
    have c10 : w4.cell? ⟨w.heap.size + 1, 0, none⟩ = some (.int .i64 0) := y1.cell rfl
    have c11 : w4.cell? ⟨w.heap.size + 1, 1, none⟩ = some (.int .i64 0) := y1.cell rfl
    have c20 : w4.cell? ⟨w.heap.size + 1 + 1, 0, none⟩ = some (.int .i64 k) := y2.cell rfl
    have c21 : w4.cell? ⟨w.heap.size + 1 + 1, 1, none⟩ = some (.int .i64 i) := y2.cell rfl
    have f0 := y1.free 0
    have f1 := y1.free 1
    go_wp2_with fail
    obtain ⟨w5, hw5⟩ : ∃ w5, w4.alloc (.cells #[.slice pa' binds.length pc', .int .i64 k, .int .i64 i, .slice qa' n3 qc'] 29) = w5 := ⟨_, rfl⟩
    have b5 : Below w4.heap.size w4 w5 := by rw [← hw5]; exact (Below.refl _ _).alloc (Nat.le_refl _) _
    rw [hw5]
    clear hw5
    have B5 := B4.trans (b5.mono B4.size)
    refine (same6_r _ _ _ _ _ _ _ HTi.out _ _ _ _ _ _ _ Ht.out w5 ((Keep.refl _ _).below b5) ((Keep.refl _ _).below B5)).mono ?_
    rintro e w6 ⟨r, hr, rfl, hb6⟩
    have B6 := B5.trans (hb6.mono B5.size)
    have z1 := (y1.below b5).below hb6
    have z2 := (y2.below b5).below hb6
    clear y0 y1 y2 c00 c01 c02 c03 c10 c11 c20 c21 f0 f1 hlt4 hlt40 hlt41
    have c10 : w6.cell? ⟨w.heap.size + 1, 0, none⟩ = some (.int .i64 0) := z1.cell rfl
    have c11 : w6.cell? ⟨w.heap.size + 1, 1, none⟩ = some (.int .i64 0) := z1.cell rfl
    have c20 : w6.cell? ⟨w.heap.size + 1 + 1, 0, none⟩ = some (.int .i64 k) := z2.cell rfl
    have c21 : w6.cell? ⟨w.heap.size + 1 + 1, 1, none⟩ = some (.int .i64 i) := z2.cell rfl
    have f0 := z1.free 0
    have f1 := z1.free 1
    have Hr := Lib.hid hr; clear hr
    cases r
    · have HLn : Hid (¬ (Tm.mk binds k i args).Long) := by show ¬ _; rw [HL.out]; intro h; exact absurd (Hr.out.2 (by rw [h.1])) (by decide)
      go_wp2_with fail
      refine bodyPost_ret (v := .tuple #[.agg #[.int .i64 0, .int .i64 0], .bool false]) (by simp [results, Try.results24, go_sem, c10, c11]) rfl ?_
      exact ⟨false, ⟨fun h => absurd h (by decide), fun h => absurd h HLn.out⟩, rfl, (B6.setCell (by simp <;> omega) _).setCell (by simp <;> omega) _⟩
    · have HLy : Hid ((Tm.mk binds k i args).Long) := by show Tm.Long _; rw [HL.out]; exact ⟨(tm_eq.1 (Hr.out.1 rfl)).2.2.2.symm, HG.out⟩
      go_wp2_with fail
      refine bodyPost_ret (v := .tuple #[.agg #[.int .i64 k, .int .i64 i], .bool true]) (by simp [results, Try.results24, go_sem, c10, c11]) rfl ?_
      exact ⟨true, ⟨fun _ => HLy.out, fun _ => rfl⟩, by simp [HI.out, Tm.kind], (B6.setCell (by simp <;> omega) _).setCell (by simp <;> omega) _⟩
end Go.Proofs.Ytejpgifofkiofaa

