/-
  The law TermEtas, stepped through.
-/
import Derived.Test.YtejpgifofkiofaaKnown06
import Derived.Test.YtejpgifofkiofaaFloat
namespace Go.Proofs.Ytejpgifofkiofaa
open Go.RowKit

theorem isSl_one6 {w : World} {B : Nat} {E : TypeId} {b k i a : Value} {t : Tm} (hB : Blk w B #[b, k, i, a] E) (ht : IsTm (fun _ => True) w b k i a t) : IsSl rpTm (fun _ => True) w (.slice (some ⟨B, 0, none⟩) 1 1) [t] :=
  isSl_blk (r := rpTm) (l := [t]) [[b, k, i, a]] hB rfl rfl (by simp [maxLen]) (fun i hi => by
    match i, hi with
    | 0, _ => exact ⟨_, rfl, _, _, _, _, rfl, ht⟩)

theorem full_etas {l : List Ty} (h : ∀ t ∈ l, ∀ k i, (Ty.eta t k i).full ≤ t.size * t.size) : Tm.fulls (Ty.etas l) ≤ Ty.sizes l * Ty.sizes l := by
  induction l with
  | nil => simp [Ty.etas, Tm.fulls]
  | cons t l ih =>
    have h1 := h t (by simp) 0 (l.length : Nat)
    have h2 := ih fun u hu => h u (by simp [hu])
    simp only [Ty.etas, Tm.fulls, Ty.sizes]
    have e : (t.size + Ty.sizes l) * (t.size + Ty.sizes l) = t.size * t.size + Ty.sizes l * Ty.sizes l + 2 * (t.size * Ty.sizes l) := by
      rw [Nat.add_mul, Nat.mul_add, Nat.mul_add, Nat.mul_comm (Ty.sizes l) t.size]; omega
    rw [e]; omega
theorem full_eta (t : Ty) : ∀ k i, (Ty.eta t k i).full ≤ t.size * t.size := by
  induction t using Ty.ind with
  | h l b ih =>
    intro k i
    have h := full_etas ih
    rw [Ty.eta_eq, Tm.full_eq, Ty.size_eq]
    have e : (Ty.sizes l + 1) * (Ty.sizes l + 1) = Ty.sizes l * Ty.sizes l + 2 * Ty.sizes l + 1 := by
      rw [Nat.add_mul, Nat.mul_add]; omega
    rw [e]; omega
theorem fit_etas {l : List Ty} (h : ∀ t ∈ l, ∀ k i, (k = 0 → 0 ≤ i ∧ i ≤ 1000000) → (k ≠ 0 → -9223372036854775808 ≤ i ∧ i ≤ 9223372036854775807) → (Ty.eta t k i).Fit) (hl : l.length ≤ 1000000) : ∀ t ∈ Ty.etas l, t.Fit := by
  induction l with
  | nil => simp [Ty.etas]
  | cons t l ih =>
    intro u hu
    simp only [Ty.etas, List.mem_cons] at hu
    simp only [List.length_cons] at hl
    rcases hu with rfl | hu
    · exact h t (by simp) 0 _ (fun _ => by omega) (fun h => absurd rfl h)
    · exact ih (fun u hu => h u (by simp [hu])) (by omega) u hu
theorem fit_eta (t : Ty) (hs : t.size ≤ 1000000) : ∀ k i, (k = 0 → 0 ≤ i ∧ i ≤ 1000000) → (k ≠ 0 → -9223372036854775808 ≤ i ∧ i ≤ 9223372036854775807) → (Ty.eta t k i).Fit := by
  induction t using Ty.ind with
  | h l b ih =>
    intro k i h1 h2
    have hl := Ty.le_sizes l
    rw [Ty.size_eq] at hs
    rw [Ty.eta_eq, Tm.fit_iff]
    refine ⟨?_, ?_, fit_etas (fun t ht k i => ih t ht (by have := Ty.size_mem ht; omega) k i) (by omega)⟩
    · by_cases hk : k = 0
      · rw [if_pos hk]; have := h1 hk; omega
      · rw [if_neg hk]; exact (h2 hk).1
    · by_cases hk : k = 0
      · rw [if_pos hk]; have := h1 hk; omega
      · rw [if_neg hk]; exact (h2 hk).2
theorem fit_Eta (t : Ty) (hs : t.size ≤ 60) (k i : Int) (hi : -9223372036854775808 ≤ i ∧ i ≤ 9223372036854775807) : (Ty.Eta t k i).Fit := by
  unfold Ty.Eta
  by_cases hc : k = 0 ∧ (i < 0 ∨ 1000 < i)
  · rw [if_pos hc]; simp [Tm.zero, Tm.fit_iff]
  · rw [if_neg hc]; exact fit_eta t (by omega) k i (fun hk => by omega) (fun _ => hi)
theorem full_Eta (t : Ty) (hs : t.size ≤ 60) (k i : Int) : (Ty.Eta t k i).full ≤ 3600 := by
  unfold Ty.Eta
  split
  · simp [Tm.zero, Tm.full, Tm.fulls, Ty.sizes]
  · have h := full_eta t k i
    have : t.size * t.size ≤ 60 * 60 := Nat.mul_le_mul hs hs
    omega
theorem long_Eta (t : Ty) (k i : Int) (h : k ≠ 0 ∨ (0 ≤ i ∧ i ≤ 1000)) : (Ty.Eta t k i).Long ∧ (Ty.Eta t k i).kind = k ∧ (Ty.Eta t k i).headIx = i := by
  have hc : ¬ (k = 0 ∧ (i < 0 ∨ 1000 < i)) := by omega
  unfold Ty.Eta
  rw [if_neg hc]
  obtain ⟨l, b⟩ := t
  rw [Ty.eta_eq]
  obtain ⟨ix, hix⟩ : ∃ ix : Int, (if k = 0 then i + (l.length : Nat) else i) = ix := ⟨_, rfl⟩
  rw [hix]
  have hL : (Tm.mk l k ix (Ty.etas l)).Long ↔ Ty.etas l = Ty.etas l ∧ (k = 0 → (l.length : Int) ≤ ix) := Iff.rfl
  have hH : (Tm.mk l k ix (Ty.etas l)).headIx = if k = 0 then ix - (l.length : Nat) else ix := rfl
  have hK : (Tm.mk l k ix (Ty.etas l)).kind = k := rfl
  rw [hL, hH, hK]
  by_cases hk : k = 0
  · rw [if_pos hk] at hix ⊢
    exact ⟨⟨rfl, fun _ => by omega⟩, rfl, by omega⟩
  · rw [if_neg hk] at hix ⊢
    exact ⟨⟨rfl, fun h => absurd h hk⟩, rfl, hix.symm⟩

set_option maxRecDepth 100000 in
set_option maxHeartbeats 4000000 in
theorem termEtas_walk {w : World} {s b tb tk ti ta : Value} {u : Ty} {t : Tm} (k i : Int) (hu : IsTy (fun _ => True) w s b u) (ht : IsTm (fun _ => True) w tb tk ti ta t) (hfit : t.Fit) (hi : -9223372036854775808 ≤ i ∧ i ≤ 9223372036854775807) :
    Calls Try.prog 3 #[.agg #[.int .i64 k, .int .i64 i], .agg #[s, b], .agg #[tb, tk, ti, ta]] w fun e w' => e = .returned (.bool true) ∧ Below w.heap.size w w' := by
  obtain ⟨a1, c1, rfl, rfl⟩ := hu.shape
  obtain ⟨pa, pc, qa, qc, rfl, rfl, rfl, rfl⟩ := ht.shape
  obtain ⟨l1, hl1⟩ : ∃ l1, u.args.length = l1 := ⟨_, rfl⟩
  obtain ⟨d1, hd1⟩ : ∃ d1, u.base = d1 := ⟨_, rfl⟩
  obtain ⟨x1, hx1⟩ : ∃ x, t.binds.length = x := ⟨_, rfl⟩
  obtain ⟨x2, hx2⟩ : ∃ x, t.args.length = x := ⟨_, rfl⟩
  obtain ⟨x3, hx3⟩ : ∃ x, t.kind = x := ⟨_, rfl⟩
  obtain ⟨x4, hx4⟩ : ∃ x, t.index = x := ⟨_, rfl⟩
  rw [hl1, hd1] at hu ⊢
  rw [hx1, hx2, hx3, hx4] at ht ⊢
  have Hl1 := Lib.hid hl1; have Hd1 := Lib.hid hd1
  have Hx1 := Lib.hid hx1; have Hx2 := Lib.hid hx2; have Hx3 := Lib.hid hx3; have Hx4 := Lib.hid hx4
  clear hl1 hd1 hx1 hx2 hx3 hx4
  have Hu := Lib.hid hu; have Ht := Lib.hid ht; have Hfit := Lib.hid hfit
  clear hu ht hfit
  go_enter Try.func3, Try.ntmps3
  go_wp2_with fail
  obtain ⟨w4, hw4⟩ : ∃ w4, (((w.alloc (.cells #[.int .i64 k, .int .i64 i] 23)).alloc (.cells #[.slice a1 l1 c1, .int .i64 d1] 26)).alloc (.cells #[.slice pa x1 pc, .int .i64 x3, .int .i64 x4, .slice qa x2 qc] 29)).alloc (.cells #[.slice pa x1 pc, .int .i64 x3, .int .i64 x4, .slice qa x2 qc] 29) = w4 := ⟨_, rfl⟩
  have B_w4 : Below w.heap.size w w4 := by rw [← hw4]; exact ((((Below.refl _ _).alloc (Nat.le_refl _) _).alloc (by simp) _).alloc (by simp; omega) _).alloc (by simp; omega) _
  have xh_w4 : Blk w4 w.heap.size #[.int .i64 k, .int .i64 i] 23 := by rw [← hw4]; exact (((Blk.new _ _ _ rfl).alloc _).alloc _).alloc _
  have xo_w4 : Blk w4 (w.heap.size + 1) #[.slice a1 l1 c1, .int .i64 d1] 26 := by rw [← hw4]; exact ((Blk.new _ _ _ (by simp)).alloc _).alloc _
  have xt_w4 : Blk w4 (w.heap.size + 1 + 1) #[.slice pa x1 pc, .int .i64 x3, .int .i64 x4, .slice qa x2 qc] 29 := by rw [← hw4]; exact (Blk.new _ _ _ (by simp)).alloc _
  have xv : Blk w4 (w.heap.size + 1 + 1 + 1) #[.slice pa x1 pc, .int .i64 x3, .int .i64 x4, .slice qa x2 qc] 29 := by rw [← hw4]; exact Blk.new _ _ _ (by simp)
  try rw [hw4]
  clear hw4
  have U_w4 := Lib.hid (Hu.out.bel B_w4)
  have T_w4 := Lib.hid (Ht.out.bel B_w4)
  clear Hu Ht
  refine (few06 (isSl_one6 xv T_w4.out) (by simp)).mono ?_
  intro e w5 h
  obtain ⟨r, Hr, rfl, hbx⟩ := h
  clear xv
  have xh_w5 := xh_w4.below hbx
  have xo_w5 := xo_w4.below hbx
  have xt_w5 := xt_w4.below hbx
  have U_w5 := Lib.hid (U_w4.out.bel hbx)
  have T_w5 := Lib.hid (T_w4.out.bel hbx)
  have B_w5 := B_w4.trans (hbx.mono B_w4.size)
  clear xh_w4 xo_w4 xt_w4 U_w4 T_w4 B_w4
  clear hbx
  cases r
  · clear Hr
    go_wp2_with fail
    refine (known06 w5).mono ?_
    rintro e wk ⟨rfl, hbk⟩
    go_wp2_with fail
    go_ret
    exact ⟨rfl, B_w5.trans (hbk.mono B_w5.size)⟩
  have Hf := Lib.hid ((Hr.out rfl) t (by simp))
  clear Hr
  have o0 : w5.cell? ⟨w.heap.size + 1, 0, none⟩ = some (.slice a1 l1 c1) := xo_w5.cell rfl
  have o1 : w5.cell? ⟨w.heap.size + 1, 1, none⟩ = some (.int .i64 d1) := xo_w5.cell rfl
  go_wp2_with fail
  refine (Few_any U_w5.out 60 60 (by omega) (by omega) (by omega) (by omega)).mono ?_
  intro e w6 h
  obtain ⟨r, Hr, rfl, hbx⟩ := of_retB' h
  clear h o0 o1
  have xh_w6 := xh_w5.below hbx
  have xo_w6 := xo_w5.below hbx
  have xt_w6 := xt_w5.below hbx
  have U_w6 := Lib.hid (U_w5.out.bel hbx)
  have T_w6 := Lib.hid (T_w5.out.bel hbx)
  have B_w6 := B_w5.trans (hbx.mono B_w5.size)
  clear xh_w5 xo_w5 xt_w5 U_w5 T_w5 B_w5
  clear hbx
  cases r
  · clear Hr
    go_wp2_with fail
    refine (known06 w6).mono ?_
    rintro e wk ⟨rfl, hbk⟩
    go_wp2_with fail
    go_ret
    exact ⟨rfl, B_w6.trans (hbk.mono B_w6.size)⟩
  have Hg : Hid (u.size ≤ 60) := by have h := yes_of Hr.out; show _ ≤ _; omega
  clear Hr
  go_wp2_with fail
  refine wp_region_noPanic (wp_region_need (S := fun w' => w'.cell? ⟨w.heap.size, 0, none⟩ = some (.int .i64 k) ∧ w'.cell? ⟨w.heap.size, 1, none⟩ = some (.int .i64 i) ∧ w'.cell? ⟨w.heap.size + 1, 0, none⟩ = some (.slice a1 l1 c1) ∧ w'.cell? ⟨w.heap.size + 1, 1, none⟩ = some (.int .i64 d1)) (by kernel_rfl) ?_)
  have hS : (w6.drew).cell? ⟨w.heap.size, 0, none⟩ = some (.int .i64 k) ∧ (w6.drew).cell? ⟨w.heap.size, 1, none⟩ = some (.int .i64 i) ∧ (w6.drew).cell? ⟨w.heap.size + 1, 0, none⟩ = some (.slice a1 l1 c1) ∧ (w6.drew).cell? ⟨w.heap.size + 1, 1, none⟩ = some (.int .i64 d1) := ⟨xh_w6.drew.cell rfl, xh_w6.drew.cell rfl, xo_w6.drew.cell rfl, xo_w6.drew.cell rfl⟩
  refine wpN_take (i := 0) (v := ?v1) rfl (by kernel_rfl) (fun _ _ _ h => h) hS (Or.inl ⟨by rfl, ?hy1⟩) ?hr1
  case hy1 => (intro wS hSw; (try dsimp only at hSw); go_simp; (try with_reducible rfl))
  try simp only [Act.put, List.setIfInBounds_toArray, List.set_cons_zero, List.set_cons_succ, List.getElem_toArray, List.getElem_cons_zero, List.getElem_cons_succ]
  refine wpN_take (i := 1) (v := ?v2) rfl (by kernel_rfl) (fun _ _ _ h => h) hS (Or.inl ⟨by rfl, ?hy2⟩) ?hr2
  case hy2 => (intro wS hSw; (try dsimp only at hSw); go_simp; (try with_reducible rfl))
  try simp only [Act.put, List.setIfInBounds_toArray, List.set_cons_zero, List.set_cons_succ, List.getElem_toArray, List.getElem_cons_zero, List.getElem_cons_succ]
  refine wpN_take (i := 2) (v := ?v3) rfl (by kernel_rfl) (fun _ _ _ h => h) hS (Or.inl ⟨by rfl, ?hy3⟩) ?hr3
  case hy3 => (intro wS hSw; (try dsimp only at hSw); go_simp; (try with_reducible rfl))
  try simp only [Act.put, List.setIfInBounds_toArray, List.set_cons_zero, List.set_cons_succ, List.getElem_toArray, List.getElem_cons_zero, List.getElem_cons_succ]
  refine wpN_take (i := 3) (v := ?v4) rfl (by kernel_rfl) (fun _ _ _ h => h) hS (Or.inl ⟨by rfl, ?hy4⟩) ?hr4
  case hy4 => (intro wS hSw; (try dsimp only at hSw); go_simp; (try with_reducible rfl))
  try simp only [Act.put, List.setIfInBounds_toArray, List.set_cons_zero, List.set_cons_succ, List.getElem_toArray, List.getElem_cons_zero, List.getElem_cons_succ]
  refine wpN_take (i := 4) (v := ?v5) rfl (by kernel_rfl) (fun _ _ _ h => h) hS (Or.inl ⟨by rfl, ?hy5⟩) ?hr5
  case hy5 => (intro wS hSw; (try dsimp only at hSw); go_simp; (try with_reducible rfl))
  try simp only [Act.put, List.setIfInBounds_toArray, List.set_cons_zero, List.set_cons_succ, List.getElem_toArray, List.getElem_cons_zero, List.getElem_cons_succ]
  refine wpN_take (i := 5) (v := ?v6) rfl (by kernel_rfl) (fun _ _ _ h => h) hS (Or.inl ⟨by rfl, ?hy6⟩) ?hr6
  case hy6 => (intro wS hSw; (try dsimp only at hSw); go_simp; (try with_reducible rfl))
  try simp only [Act.put, List.setIfInBounds_toArray, List.set_cons_zero, List.set_cons_succ, List.getElem_toArray, List.getElem_cons_zero, List.getElem_cons_succ]
  obtain ⟨X, hX⟩ : ∃ X, Ty.Eta u k i = X := ⟨_, rfl⟩
  have HX := Lib.hid hX
  clear hX
  refine wpN_gathersP [(6, 31), (7, 32), (8, 7)] 1 (fun j v x y w' => match j with
    | 6 => ∃ qa qc, v = .agg #[.slice qa l1 qc, .int .i64 d1] ∧ IsTy (fun q => x ≤ q ∧ q < y) w' (.slice qa l1 qc) (.int .i64 d1) u
    | 7 => ∃ b' k' i' a', v = .agg #[b', k', i', a'] ∧ IsTm (fun q => x ≤ q ∧ q < y) w' b' k' i' a' X
    | _ => v = .pointer (some ⟨x, 0, none⟩) ∧ x < y ∧ Blk w' x #[.slice none 0 0, .int .i64 0, .int .i64 0, .slice none 0 0] 37) (fun _ _ => True) rfl rfl (by kernel_rfl) ?gst (fun _ _ _ _ _ _ => trivial) hS ?gop ?gend
  case gst =>
    intro j v x y wa wb h hb
    split at h
    · obtain ⟨a, c, e, ht⟩ := h
      exact ⟨a, c, e, ht.bel hb⟩
    · obtain ⟨b', k', i', a', e, ht⟩ := h
      exact ⟨b', k', i', a', e, ht.bel hb⟩
    · exact ⟨h.1, h.2.1, h.2.2.below hb⟩
  case gop =>
    intro x hx u' w' hdep hB' hS'
    obtain ⟨q1, q2, q3, q4⟩ := hS'
    have hbw : Below w6.heap.size w6 w' := (Below.refl _ _).drew.trans hB'
    simp only [List.mem_cons, List.not_mem_nil, or_false] at hx
    rcases hx with rfl | rfl | rfl
    · refine wpOp_step (i := 6) rfl (fun K hK => ?_)
      have hK := Lib.hid hK
      simp only [fills, List.foldl, Act.put, List.setIfInBounds_toArray, List.set_cons_zero, List.set_cons_succ, List.getElem_toArray, List.getElem_cons_zero, List.getElem_cons_succ]
      go_simp
      refine (to_any (U_w6.out.bel hbw) w' (by have := Hg.out; omega) (Keep.refl _ _)).mono ?_
      intro e w8 h
      obtain ⟨_, _, rfl, hT, hb6⟩ := h
      obtain ⟨qa', qc', rfl, rfl⟩ := hT.shape
      rw [Hl1.out, Hd1.out] at hT ⊢
      have hKp : Keep (fun _ => True) w' w8 := (Keep.refl _ _).below hb6
      exact hK.out _ _ ⟨_, rfl, ⟨_, _, rfl, hT.weaken fun q h1 h2 => ⟨h2, h1⟩⟩, trivial, hb6, hKp _ _ _ trivial q1, hKp _ _ _ trivial q2, hKp _ _ _ trivial q3, hKp _ _ _ trivial q4⟩
    · obtain ⟨_, x, y, qa', qc', e1, hT⟩ := hdep 6 (by simp) (by kernel_rfl)
      refine wpOp_step (i := 7) rfl (fun K hK => ?_)
      have hK := Lib.hid hK
      have Hx := Lib.hid hT; clear hT
      simp only [fills, List.foldl, Act.put, List.setIfInBounds_toArray, List.set_cons_zero, List.set_cons_succ, List.getElem_toArray, List.getElem_cons_zero, List.getElem_cons_succ]
      rw [e1]
      go_simp
      have hek := eta_k u _ _ _ _ Hx.out k i w' (by have := Hg.out; omega) (Keep.refl _ _)
      rw [HX.out] at hek
      refine hek.mono ?_
      clear hek
      intro e w8 h
      obtain ⟨b', k', i', a', rfl, hT, hb6⟩ := h
      have hKp : Keep (fun _ => True) w' w8 := (Keep.refl _ _).below hb6
      exact hK.out _ _ ⟨.agg #[b', k', i', a'], by simp only [fills, List.foldl, Act.put, List.setIfInBounds_toArray, List.set_cons_zero, List.set_cons_succ, List.getElem_toArray, List.getElem_cons_zero, List.getElem_cons_succ]; simp [upd, e1], ⟨_, _, _, _, rfl, hT.weaken fun q h1 h2 => ⟨h2, h1⟩⟩, trivial, hb6, hKp _ _ _ trivial q1, hKp _ _ _ trivial q2, hKp _ _ _ trivial q3, hKp _ _ _ trivial q4⟩
    · refine wpOp_step (i := 8) rfl (fun K hK => ?_)
      have hK := Lib.hid hK
      simp only [fills, List.foldl, Act.put, List.setIfInBounds_toArray, List.set_cons_zero, List.set_cons_succ, List.getElem_toArray, List.getElem_cons_zero, List.getElem_cons_succ]
      go_simp
      have hb6 : Below w'.heap.size w' (w'.alloc (.cells #[.slice none 0 0, .int .i64 0, .int .i64 0, .slice none 0 0] 37)) := (Below.refl _ _).alloc (Nat.le_refl _) _
      have hKp : Keep (fun _ => True) w' (w'.alloc (.cells #[.slice none 0 0, .int .i64 0, .int .i64 0, .slice none 0 0] 37)) := (Keep.refl _ _).below hb6
      exact hK.out _ _ ⟨_, rfl, ⟨rfl, by simp, Blk.new _ _ _ rfl⟩, trivial, hb6, hKp _ _ _ trivial q1, hKp _ _ _ trivial q2, hKp _ _ _ trivial q3, hKp _ _ _ trivial q4⟩
  case gend =>
    intro u' lo hi' w' hΦ hΨ hB' hS'
    have hbw : Below w6.heap.size w6 w' := (Below.refl _ _).drew.trans hB'
    obtain ⟨⟨_, _, e0, _⟩, _⟩ := hΦ.1 6 (by simp) rfl
    obtain ⟨⟨b', k', i', a', e1, V1⟩, n1, m1, o1⟩ := hΦ.1 7 (by simp) rfl
    obtain ⟨⟨e2, r2, Z2⟩, n2, m2, o2⟩ := hΦ.1 8 (by simp) rfl
    have k12 := hΦ.2 7 (by simp) 8 (by simp) rfl rfl (by decide)
    clear hΦ hΨ
    simp only [fills, List.foldl, Act.put, List.setIfInBounds_toArray, List.set_cons_zero, List.set_cons_succ, List.getElem_toArray, List.getElem_cons_zero, List.getElem_cons_succ]
    rw [e0, e1, e2]
    clear e0 e1 e2
    have hsz : w6.drew.heap.size = w6.heap.size := rfl
    rw [hsz] at n1 n2
    generalize lo 8 = p at *
    have U1 := Lib.hid (V1.weaken (F' := fun q => q ≠ p) fun q _ h => by omega)
    clear V1 k12 n1 m1 o1 m2 r2 o2 hsz
    have hwp : w.heap.size + 1 + 1 < p := by have := xt_w6.lt; omega
    have UF := Lib.hid ((U_w6.out.weaken (F' := fun q => q < p) fun q hq _ => by omega).keep ((Keep.refl _ _).below hbw))
    have TF := Lib.hid ((T_w6.out.weaken (F' := fun q => q < p) fun q hq _ => by omega).keep ((Keep.refl _ _).below hbw))
    have xh_v0 := xh_w6.below hbw
    have xo_v0 := xo_w6.below hbw
    have xt_v0 := xt_w6.below hbw
    have U_v0 := Lib.hid (U_w6.out.bel hbw)
    have T_v0 := Lib.hid (T_w6.out.bel hbw)
    have B_v0 := B_w6.trans (hbw.mono B_w6.size)
    clear xh_w6 xo_w6 xt_w6 U_w6 T_w6 B_w6
    have r0 : w'.cell? ⟨p, 0, none⟩ = some (.slice none 0 0) := Z2.cell rfl
    have r1 : w'.cell? ⟨p, 1, none⟩ = some (.int .i64 0) := Z2.cell rfl
    have r2 : w'.cell? ⟨p, 2, none⟩ = some (.int .i64 0) := Z2.cell rfl
    have r3 : w'.cell? ⟨p, 3, none⟩ = some (.slice none 0 0) := Z2.cell rfl
    have f0 := Z2.free 0
    have f1 := Z2.free 1
    have f2 := Z2.free 2
    have f3 := Z2.free 3
    obtain ⟨ya, yc, za, zc, rfl, rfl, rfl, rfl⟩ := U1.out.shape
    obtain ⟨y1, hy1⟩ : ∃ y, X.binds.length = y := ⟨_, rfl⟩
    obtain ⟨y2, hy2⟩ : ∃ y, X.args.length = y := ⟨_, rfl⟩
    obtain ⟨y3, hy3⟩ : ∃ y, X.kind = y := ⟨_, rfl⟩
    obtain ⟨y4, hy4⟩ : ∃ y, X.index = y := ⟨_, rfl⟩
    rw [hy1, hy2, hy3, hy4] at U1 ⊢
    clear hy1 hy2 hy3 hy4
    refine wpN_step (i := 9) (by kernel_rfl) rfl (fun K hK => ?_)
    go_simp
    refine hK.out _ _ (fun h => absurd h (by decide)) ?_
    clear hK K
    try simp only [Act.put, List.setIfInBounds_toArray, List.set_cons_zero, List.set_cons_succ, List.getElem_toArray, List.getElem_cons_zero, List.getElem_cons_succ]
    refine wpN_done (by kernel_rfl) ?_
    refine NoPanic.normal ?_
    obtain ⟨w7, hw7⟩ : ∃ w7, ((((w'.setCell ⟨p, 0, none⟩ (.slice ya y1 yc)).setCell ⟨p, 1, none⟩ (.int .i64 y3)).setCell ⟨p, 2, none⟩ (.int .i64 y4)).setCell ⟨p, 3, none⟩ (.slice za y2 zc)) = w7 := ⟨_, rfl⟩
    have xh_w7 : Blk w7 (w.heap.size) #[.int .i64 k, .int .i64 i] 23 := by rw [← hw7]; exact (((xh_v0.far _ _ (by simp <;> omega)).far _ _ (by simp <;> omega)).far _ _ (by simp <;> omega)).far _ _ (by simp <;> omega)
    have xo_w7 : Blk w7 (w.heap.size + 1) #[.slice a1 l1 c1, .int .i64 d1] 26 := by rw [← hw7]; exact (((xo_v0.far _ _ (by simp <;> omega)).far _ _ (by simp <;> omega)).far _ _ (by simp <;> omega)).far _ _ (by simp <;> omega)
    have xt_w7 : Blk w7 (w.heap.size + 1 + 1) #[.slice pa x1 pc, .int .i64 x3, .int .i64 x4, .slice qa x2 qc] 29 := by rw [← hw7]; exact (((xt_v0.far _ _ (by simp <;> omega)).far _ _ (by simp <;> omega)).far _ _ (by simp <;> omega)).far _ _ (by simp <;> omega)
    have xp_w7 : Blk w7 p #[.slice ya y1 yc, .int .i64 y3, .int .i64 y4, .slice za y2 zc] 37 := by rw [← hw7]; exact ((((Z2.set 0 _).set 1 _).set 2 _).set 3 _)
    have KX : Keep (fun q => q ≠ p) w' w7 := by rw [← hw7]; exact ((((Keep.refl _ _).setCell _ _ (by simp)).setCell _ _ (by simp)).setCell _ _ (by simp)).setCell _ _ (by simp)
    have X_w7 := Lib.hid ((U1.out.keep KX).weaken (F' := fun _ => True) fun _ _ _ => trivial)
    have hlp := Z2.lt
    have KT : Keep (fun q => q < p) w' w7 := KX.weaken fun q h => by omega
    have B_w7 : Below w.heap.size w w7 := by rw [← hw7]; exact (((B_v0.setCell (by simp <;> omega) _).setCell (by simp <;> omega) _).setCell (by simp <;> omega) _).setCell (by simp <;> omega) _
    have U_w7 := Lib.hid ((UF.out.keep KT).weaken (F' := fun _ => True) fun _ _ _ => trivial)
    have T_w7 := Lib.hid ((TF.out.keep KT).weaken (F' := fun _ => True) fun _ _ _ => trivial)
    clear UF TF
    rw [hw7]
    clear hw7 KX KT U1 Z2 hlp r0 r1 r2 r3 f0 f1 f2 f3 U_v0 T_v0 xh_v0 xo_v0 xt_v0 B_v0 hB' hS' hS hbw
    have Hfx : Hid (X.full ≤ 3600) := by show _ ≤ _; rw [← HX.out]; exact full_Eta u Hg.out k i
    have Hfitx : Hid X.Fit := by show Tm.Fit _; rw [← HX.out]; exact fit_Eta u Hg.out k i hi
    go_wp2_with fail
    refine wp_region_noPanic (wp_region_need (S := fun w' => w'.cell? ⟨w.heap.size, 0, none⟩ = some (.int .i64 k) ∧ w'.cell? ⟨w.heap.size, 1, none⟩ = some (.int .i64 i) ∧ w'.cell? ⟨w.heap.size + 1, 0, none⟩ = some (.slice a1 l1 c1) ∧ w'.cell? ⟨w.heap.size + 1, 1, none⟩ = some (.int .i64 d1) ∧ w'.cell? ⟨p, 0, none⟩ = some (.slice ya y1 yc) ∧ w'.cell? ⟨p, 1, none⟩ = some (.int .i64 y3) ∧ w'.cell? ⟨p, 2, none⟩ = some (.int .i64 y4) ∧ w'.cell? ⟨p, 3, none⟩ = some (.slice za y2 zc)) (by kernel_rfl) ?_)
    have hS : (w7.drew).cell? ⟨w.heap.size, 0, none⟩ = some (.int .i64 k) ∧ (w7.drew).cell? ⟨w.heap.size, 1, none⟩ = some (.int .i64 i) ∧ (w7.drew).cell? ⟨w.heap.size + 1, 0, none⟩ = some (.slice a1 l1 c1) ∧ (w7.drew).cell? ⟨w.heap.size + 1, 1, none⟩ = some (.int .i64 d1) ∧ (w7.drew).cell? ⟨p, 0, none⟩ = some (.slice ya y1 yc) ∧ (w7.drew).cell? ⟨p, 1, none⟩ = some (.int .i64 y3) ∧ (w7.drew).cell? ⟨p, 2, none⟩ = some (.int .i64 y4) ∧ (w7.drew).cell? ⟨p, 3, none⟩ = some (.slice za y2 zc) := ⟨xh_w7.drew.cell rfl, xh_w7.drew.cell rfl, xo_w7.drew.cell rfl, xo_w7.drew.cell rfl, xp_w7.drew.cell rfl, xp_w7.drew.cell rfl, xp_w7.drew.cell rfl, xp_w7.drew.cell rfl⟩
    refine wpN_take (i := 0) (v := ?v7) rfl (by kernel_rfl) (fun _ _ _ h => h) hS (Or.inl ⟨by rfl, ?hy7⟩) ?hr7
    case hy7 => (intro wS hSw; (try dsimp only at hSw); go_simp; (try with_reducible rfl))
    try simp only [Act.put, List.setIfInBounds_toArray, List.set_cons_zero, List.set_cons_succ, List.getElem_toArray, List.getElem_cons_zero, List.getElem_cons_succ]
    refine wpN_take (i := 2) (v := ?v8) rfl (by kernel_rfl) (fun _ _ _ h => h) hS (Or.inl ⟨by rfl, ?hy8⟩) ?hr8
    case hy8 => (intro wS hSw; (try dsimp only at hSw); go_simp; (try with_reducible rfl))
    try simp only [Act.put, List.setIfInBounds_toArray, List.set_cons_zero, List.set_cons_succ, List.getElem_toArray, List.getElem_cons_zero, List.getElem_cons_succ]
    refine wpN_take (i := 3) (v := ?v9) rfl (by kernel_rfl) (fun _ _ _ h => h) hS (Or.inl ⟨by rfl, ?hy9⟩) ?hr9
    case hy9 => (intro wS hSw; (try dsimp only at hSw); go_simp; (try with_reducible rfl))
    try simp only [Act.put, List.setIfInBounds_toArray, List.set_cons_zero, List.set_cons_succ, List.getElem_toArray, List.getElem_cons_zero, List.getElem_cons_succ]
    refine wpN_step (i := 1) (by kernel_rfl) rfl (fun K hK => ?_)
    go_simp
    refine (of6_any X_w7.out w7.drew (by have := Hfx.out; omega) (Keep.refl _ _).drew).mono ?_
    intro e v1 h
    obtain ⟨b2, k2, i2, a2, rfl, hT, hbd⟩ := h
    have hbx : Below w7.heap.size w7 v1 := (Below.refl _ _).drew.trans hbd
    clear hbd
    have O_v1 := Lib.hid (hT.weaken (F' := fun _ => True) fun _ _ _ => trivial)
    clear hT
    have xh_v1 := xh_w7.below hbx
    have xo_v1 := xo_w7.below hbx
    have xt_v1 := xt_w7.below hbx
    have xp_v1 := xp_w7.below hbx
    have U_v1 := Lib.hid (U_w7.out.bel hbx)
    have T_v1 := Lib.hid (T_w7.out.bel hbx)
    have X_v1 := Lib.hid (X_w7.out.bel hbx)
    have B_v1 := B_w7.trans (hbx.mono B_w7.size)
    clear xh_w7 xo_w7 xt_w7 xp_w7 U_w7 T_w7 X_w7 B_w7
    clear hbx
    have hS : (v1).cell? ⟨w.heap.size, 0, none⟩ = some (.int .i64 k) ∧ (v1).cell? ⟨w.heap.size, 1, none⟩ = some (.int .i64 i) ∧ (v1).cell? ⟨w.heap.size + 1, 0, none⟩ = some (.slice a1 l1 c1) ∧ (v1).cell? ⟨w.heap.size + 1, 1, none⟩ = some (.int .i64 d1) ∧ (v1).cell? ⟨p, 0, none⟩ = some (.slice ya y1 yc) ∧ (v1).cell? ⟨p, 1, none⟩ = some (.int .i64 y3) ∧ (v1).cell? ⟨p, 2, none⟩ = some (.int .i64 y4) ∧ (v1).cell? ⟨p, 3, none⟩ = some (.slice za y2 zc) := ⟨xh_v1.cell rfl, xh_v1.cell rfl, xo_v1.cell rfl, xo_v1.cell rfl, xp_v1.cell rfl, xp_v1.cell rfl, xp_v1.cell rfl, xp_v1.cell rfl⟩
    refine hK.out _ _ (fun _ => hS) ?_
    clear hK K
    try simp only [Act.put, List.setIfInBounds_toArray, List.set_cons_zero, List.set_cons_succ, List.getElem_toArray, List.getElem_cons_zero, List.getElem_cons_succ]
    refine wpN_step (i := 4) (by kernel_rfl) rfl (fun K hK => ?_)
    go_simp
    have hek := Eta_r U_v1.out k i (by have := Hg.out; omega)
    rw [HX.out] at hek
    refine hek.mono ?_
    clear hek
    intro e v2 h
    obtain ⟨b3, k3, i3, a3, rfl, hT, hbx⟩ := h
    have Q_v2 := Lib.hid (hT.weaken (F' := fun _ => True) fun _ _ _ => trivial)
    clear hT
    have O_v2 := Lib.hid (O_v1.out.bel hbx)
    clear O_v1
    have xh_v2 := xh_v1.below hbx
    have xo_v2 := xo_v1.below hbx
    have xt_v2 := xt_v1.below hbx
    have xp_v2 := xp_v1.below hbx
    have U_v2 := Lib.hid (U_v1.out.bel hbx)
    have T_v2 := Lib.hid (T_v1.out.bel hbx)
    have X_v2 := Lib.hid (X_v1.out.bel hbx)
    have B_v2 := B_v1.trans (hbx.mono B_v1.size)
    clear xh_v1 xo_v1 xt_v1 xp_v1 U_v1 T_v1 X_v1 B_v1
    clear hbx
    have hS : (v2).cell? ⟨w.heap.size, 0, none⟩ = some (.int .i64 k) ∧ (v2).cell? ⟨w.heap.size, 1, none⟩ = some (.int .i64 i) ∧ (v2).cell? ⟨w.heap.size + 1, 0, none⟩ = some (.slice a1 l1 c1) ∧ (v2).cell? ⟨w.heap.size + 1, 1, none⟩ = some (.int .i64 d1) ∧ (v2).cell? ⟨p, 0, none⟩ = some (.slice ya y1 yc) ∧ (v2).cell? ⟨p, 1, none⟩ = some (.int .i64 y3) ∧ (v2).cell? ⟨p, 2, none⟩ = some (.int .i64 y4) ∧ (v2).cell? ⟨p, 3, none⟩ = some (.slice za y2 zc) := ⟨xh_v2.cell rfl, xh_v2.cell rfl, xo_v2.cell rfl, xo_v2.cell rfl, xp_v2.cell rfl, xp_v2.cell rfl, xp_v2.cell rfl, xp_v2.cell rfl⟩
    refine hK.out _ _ (fun _ => hS) ?_
    clear hK K
    try simp only [Act.put, List.setIfInBounds_toArray, List.set_cons_zero, List.set_cons_succ, List.getElem_toArray, List.getElem_cons_zero, List.getElem_cons_succ]
    refine wpN_step (i := 5) (by kernel_rfl) rfl (fun K hK => ?_)
    go_simp
    refine (same6_r X _ _ _ _ _ _ O_v2.out _ _ _ _ _ _ X Q_v2.out v2 (Keep.refl _ _) (Keep.refl _ _)).mono ?_
    intro e v3 h
    obtain ⟨r, Hq, rfl, hbx⟩ := of_retB' h
    clear h O_v2 Q_v2
    obtain rfl : r = true := Hq.out.2 rfl
    clear Hq
    have xh_v3 := xh_v2.below hbx
    have xo_v3 := xo_v2.below hbx
    have xt_v3 := xt_v2.below hbx
    have xp_v3 := xp_v2.below hbx
    have U_v3 := Lib.hid (U_v2.out.bel hbx)
    have T_v3 := Lib.hid (T_v2.out.bel hbx)
    have X_v3 := Lib.hid (X_v2.out.bel hbx)
    have B_v3 := B_v2.trans (hbx.mono B_v2.size)
    clear xh_v2 xo_v2 xt_v2 xp_v2 U_v2 T_v2 X_v2 B_v2
    clear hbx
    have hS : (v3).cell? ⟨w.heap.size, 0, none⟩ = some (.int .i64 k) ∧ (v3).cell? ⟨w.heap.size, 1, none⟩ = some (.int .i64 i) ∧ (v3).cell? ⟨w.heap.size + 1, 0, none⟩ = some (.slice a1 l1 c1) ∧ (v3).cell? ⟨w.heap.size + 1, 1, none⟩ = some (.int .i64 d1) ∧ (v3).cell? ⟨p, 0, none⟩ = some (.slice ya y1 yc) ∧ (v3).cell? ⟨p, 1, none⟩ = some (.int .i64 y3) ∧ (v3).cell? ⟨p, 2, none⟩ = some (.int .i64 y4) ∧ (v3).cell? ⟨p, 3, none⟩ = some (.slice za y2 zc) := ⟨xh_v3.cell rfl, xh_v3.cell rfl, xo_v3.cell rfl, xo_v3.cell rfl, xp_v3.cell rfl, xp_v3.cell rfl, xp_v3.cell rfl, xp_v3.cell rfl⟩
    refine hK.out _ _ (fun _ => hS) ?_
    clear hK K
    try simp only [Act.put, List.setIfInBounds_toArray, List.set_cons_zero, List.set_cons_succ, List.getElem_toArray, List.getElem_cons_zero, List.getElem_cons_succ]
    refine wpN_take (i := 6) (v := ?v10) rfl (by kernel_rfl) (fun _ _ _ h => h) hS (Or.inl ⟨by rfl, ?hy10⟩) ?hr10
    case hy10 => (intro wS hSw; (try dsimp only at hSw); go_simp; (try with_reducible rfl))
    try simp only [Act.put, List.setIfInBounds_toArray, List.set_cons_zero, List.set_cons_succ, List.getElem_toArray, List.getElem_cons_zero, List.getElem_cons_succ]
    refine wpN_done (by kernel_rfl) ?_
    refine NoPanic.normal ?_
    clear hS
    have c0 : v3.cell? ⟨w.heap.size + 1 + 1, 0, none⟩ = some (.slice pa x1 pc) := xt_v3.cell rfl
    have c1 : v3.cell? ⟨w.heap.size + 1 + 1, 1, none⟩ = some (.int .i64 x3) := xt_v3.cell rfl
    have c2 : v3.cell? ⟨w.heap.size + 1 + 1, 2, none⟩ = some (.int .i64 x4) := xt_v3.cell rfl
    have c3 : v3.cell? ⟨w.heap.size + 1 + 1, 3, none⟩ = some (.slice qa x2 qc) := xt_v3.cell rfl
    go_wp2_with fail
    refine (to6_any T_v3.out v3 (by have := Hf.out; omega) (Keep.refl _ _)).mono ?_
    intro e v4 h
    obtain ⟨b4, k4, i4, a4, rfl, hT, hbx⟩ := h
    have O_v4 := Lib.hid (hT.weaken (F' := fun _ => True) fun _ _ _ => trivial)
    obtain ⟨ga, gc, ha, hc, rfl, rfl, rfl, rfl⟩ := hT.shape
    rw [Hx1.out, Hx2.out, Hx3.out, Hx4.out] at O_v4 ⊢
    clear hT c0 c1 c2 c3
    have xh_v4 := xh_v3.below hbx
    have xo_v4 := xo_v3.below hbx
    have xt_v4 := xt_v3.below hbx
    have xp_v4 := xp_v3.below hbx
    have U_v4 := Lib.hid (U_v3.out.bel hbx)
    have T_v4 := Lib.hid (T_v3.out.bel hbx)
    have X_v4 := Lib.hid (X_v3.out.bel hbx)
    have B_v4 := B_v3.trans (hbx.mono B_v3.size)
    clear xh_v3 xo_v3 xt_v3 xp_v3 U_v3 T_v3 X_v3 B_v3
    clear hbx
    go_wp2_with fail
    refine (var_k t _ _ _ _ _ _ O_v4.out v4 (Keep.refl _ _) (by have := Hf.out; omega) Hfit.out).mono ?_
    intro e v5 h
    obtain ⟨r1, Hr1, rfl, hbx⟩ := h
    clear O_v4
    have xh_v5 := xh_v4.below hbx
    have xo_v5 := xo_v4.below hbx
    have xt_v5 := xt_v4.below hbx
    have xp_v5 := xp_v4.below hbx
    have U_v5 := Lib.hid (U_v4.out.bel hbx)
    have T_v5 := Lib.hid (T_v4.out.bel hbx)
    have X_v5 := Lib.hid (X_v4.out.bel hbx)
    have B_v5 := B_v4.trans (hbx.mono B_v4.size)
    clear xh_v4 xo_v4 xt_v4 xp_v4 U_v4 T_v4 X_v4 B_v4
    clear hbx
    obtain ⟨e1, he1⟩ : ∃ e, (if r1 = true then t.kind else 0) = e := ⟨_, rfl⟩
    obtain ⟨e2, he2⟩ : ∃ e, (if r1 = true then t.headIx else 0) = e := ⟨_, rfl⟩
    rw [he1, he2]
    have He1 := Lib.hid he1; have He2 := Lib.hid he2; clear he1 he2
    have c0 : v5.cell? ⟨w.heap.size + 1 + 1, 0, none⟩ = some (.slice pa x1 pc) := xt_v5.cell rfl
    have c1 : v5.cell? ⟨w.heap.size + 1 + 1, 1, none⟩ = some (.int .i64 x3) := xt_v5.cell rfl
    have c2 : v5.cell? ⟨w.heap.size + 1 + 1, 2, none⟩ = some (.int .i64 x4) := xt_v5.cell rfl
    have c3 : v5.cell? ⟨w.heap.size + 1 + 1, 3, none⟩ = some (.slice qa x2 qc) := xt_v5.cell rfl
    have hlt5 := xt_v5.lt
    go_wp2_with fail
    obtain ⟨v6, hv6⟩ : ∃ v6, v5.alloc (.cells #[.int .i64 e1, .int .i64 e2] 34) = v6 := ⟨_, rfl⟩
    obtain ⟨p8, hp8⟩ : ∃ p8, v5.heap.size = p8 := ⟨_, rfl⟩
    have hbx : Below v5.heap.size v5 v6 := by rw [← hv6]; exact (Below.refl _ _).alloc (Nat.le_refl _) _
    have x8_v6 : Blk v6 p8 #[.int .i64 e1, .int .i64 e2] 34 := by rw [← hv6]; exact Blk.new _ _ _ hp8.symm
    try rw [hv6]
    try rw [hp8]
    clear hv6 c0 c1 c2 c3 hlt5 hp8
    have xh_v6 := xh_v5.below hbx
    have xo_v6 := xo_v5.below hbx
    have xt_v6 := xt_v5.below hbx
    have xp_v6 := xp_v5.below hbx
    have U_v6 := Lib.hid (U_v5.out.bel hbx)
    have T_v6 := Lib.hid (T_v5.out.bel hbx)
    have X_v6 := Lib.hid (X_v5.out.bel hbx)
    have B_v6 := B_v5.trans (hbx.mono B_v5.size)
    clear xh_v5 xo_v5 xt_v5 xp_v5 U_v5 T_v5 X_v5 B_v5
    clear hbx
    refine (var_r T_v6.out (by have := Hf.out; omega) Hfit.out).mono ?_
    intro e v7 h
    obtain ⟨r2, Hr2, rfl, hbx⟩ := h
    obtain rfl : r2 = r1 := Bool.eq_iff_iff.2 (Hr2.out.trans Hr1.out.symm)
    rw [He1.out, He2.out]
    clear Hr1 Hr2 He1 He2
    have x8_v7 := x8_v6.below hbx
    clear x8_v6
    have xh_v7 := xh_v6.below hbx
    have xo_v7 := xo_v6.below hbx
    have xt_v7 := xt_v6.below hbx
    have xp_v7 := xp_v6.below hbx
    have U_v7 := Lib.hid (U_v6.out.bel hbx)
    have T_v7 := Lib.hid (T_v6.out.bel hbx)
    have X_v7 := Lib.hid (X_v6.out.bel hbx)
    have B_v7 := B_v6.trans (hbx.mono B_v6.size)
    clear xh_v6 xo_v6 xt_v6 xp_v6 U_v6 T_v6 X_v6 B_v6
    clear hbx
    have g0 : v7.cell? ⟨p8, 0, none⟩ = some (.int .i64 e1) := x8_v7.cell rfl
    have g1 : v7.cell? ⟨p8, 1, none⟩ = some (.int .i64 e2) := x8_v7.cell rfl
    have c0 : v7.cell? ⟨p, 0, none⟩ = some (.slice ya y1 yc) := xp_v7.cell rfl
    have c1 : v7.cell? ⟨p, 1, none⟩ = some (.int .i64 y3) := xp_v7.cell rfl
    have c2 : v7.cell? ⟨p, 2, none⟩ = some (.int .i64 y4) := xp_v7.cell rfl
    have c3 : v7.cell? ⟨p, 3, none⟩ = some (.slice za y2 zc) := xp_v7.cell rfl
    have hl8 := x8_v7.lt
    have hlp := xp_v7.lt
    go_wp2_with fail
    obtain ⟨v8, hv8⟩ : ∃ v8, v7.alloc (.cells #[.int .i64 e1, .int .i64 e2] 23) = v8 := ⟨_, rfl⟩
    have hbx : Below v7.heap.size v7 v8 := by rw [← hv8]; exact (Below.refl _ _).alloc (Nat.le_refl _) _
    try rw [hv8]
    clear hv8 c0 c1 c2 c3 g0 g1 hl8 hlp x8_v7
    have xh_v8 := xh_v7.below hbx
    have xo_v8 := xo_v7.below hbx
    have xt_v8 := xt_v7.below hbx
    have xp_v8 := xp_v7.below hbx
    have U_v8 := Lib.hid (U_v7.out.bel hbx)
    have T_v8 := Lib.hid (T_v7.out.bel hbx)
    have X_v8 := Lib.hid (X_v7.out.bel hbx)
    have B_v8 := B_v7.trans (hbx.mono B_v7.size)
    clear xh_v7 xo_v7 xt_v7 xp_v7 U_v7 T_v7 X_v7 B_v7
    clear hbx
    refine (var_k X _ _ _ _ _ _ X_v8.out v8 (Keep.refl _ _) (by have := Hfx.out; omega) Hfitx.out).mono ?_
    intro e v9 h
    obtain ⟨r, Hr, rfl, hbx⟩ := h
    have xh_v9 := xh_v8.below hbx
    have xo_v9 := xo_v8.below hbx
    have xt_v9 := xt_v8.below hbx
    have xp_v9 := xp_v8.below hbx
    have U_v9 := Lib.hid (U_v8.out.bel hbx)
    have T_v9 := Lib.hid (T_v8.out.bel hbx)
    have X_v9 := Lib.hid (X_v8.out.bel hbx)
    have B_v9 := B_v8.trans (hbx.mono B_v8.size)
    clear xh_v8 xo_v8 xt_v8 xp_v8 U_v8 T_v8 X_v8 B_v8
    clear hbx
    have h0 : v9.cell? ⟨w.heap.size, 0, none⟩ = some (.int .i64 k) := xh_v9.cell rfl
    have h1 : v9.cell? ⟨w.heap.size, 1, none⟩ = some (.int .i64 i) := xh_v9.cell rfl
    have c0 : v9.cell? ⟨w.heap.size + 1 + 1, 0, none⟩ = some (.slice pa x1 pc) := xt_v9.cell rfl
    have c1 : v9.cell? ⟨w.heap.size + 1 + 1, 1, none⟩ = some (.int .i64 x3) := xt_v9.cell rfl
    have c2 : v9.cell? ⟨w.heap.size + 1 + 1, 2, none⟩ = some (.int .i64 x4) := xt_v9.cell rfl
    have c3 : v9.cell? ⟨w.heap.size + 1 + 1, 3, none⟩ = some (.slice qa x2 qc) := xt_v9.cell rfl
    have hl0 := xh_v9.lt
    have hl1 := xt_v9.lt
    by_cases hk : k = 0
    · subst hk
      by_cases h2 : i ≥ 0
      · by_cases h3 : i ≤ 1000
        · have hgood : (0 : Int) ≠ 0 ∨ (0 ≤ i ∧ i ≤ 1000) := .inr ⟨h2, h3⟩
          obtain rfl : r = true := Hr.out.2 (by rw [← HX.out]; exact (long_Eta u 0 i hgood).1)
          simp only [if_true]
          rw [show X.kind = 0 by rw [← HX.out]; exact (long_Eta u 0 i hgood).2.1, show X.headIx = i by rw [← HX.out]; exact (long_Eta u 0 i hgood).2.2]
          clear Hr
          go_wp2_with fail
          obtain ⟨z0, hz0⟩ : ∃ z0, (v9.alloc (.cells #[.int .i64 0, .int .i64 i] 34)).alloc (.cells #[.slice none 0 0, .int .i64 x3, .int .i64 x4, .slice qa x2 qc] 29) = z0 := ⟨_, rfl⟩
          obtain ⟨q, hq⟩ : ∃ q, v9.heap.size + 1 = q := ⟨_, rfl⟩
          have hbx : Below v9.heap.size v9 z0 := by rw [← hz0]; exact ((Below.refl _ _).alloc (Nat.le_refl _) _).alloc (by simp) _
          have xq_z0 : Blk z0 q #[.slice none 0 0, .int .i64 x3, .int .i64 x4, .slice qa x2 qc] 29 := by rw [← hz0]; exact Blk.new _ _ _ (by rw [← hq]; simp)
          try rw [hz0]
          try rw [hq]
          clear hz0 hq c0 c1 c2 c3 h0 h1 hl0 hl1
          have xt_z0 := xt_v9.below hbx
          have T_z0 := Lib.hid (T_v9.out.bel hbx)
          have B_z0 := B_v9.trans (hbx.mono B_v9.size)
          have Y_z0 := Lib.hid (isTm_mk (isSl_nil rpTy (fun _ => True) z0) (T_z0.out.inv.2.2.2) x3 x4)
          clear hbx xh_v9 xo_v9 xt_v9 xp_v9 U_v9 T_v9 X_v9 B_v9
          have HfB : Hid ((Tm.mk [] x3 x4 t.args).full ≤ 150) := by show _ ≤ _; have h := Hf.out.1; cases t; simp [Tm.full, Tm.args, Ty.sizes] at *; omega
          refine wp_region_noPanic (wp_region_need (S := fun w' => w'.cell? ⟨w.heap.size + 1 + 1, 0, none⟩ = some (.slice pa x1 pc) ∧ w'.cell? ⟨w.heap.size + 1 + 1, 1, none⟩ = some (.int .i64 x3) ∧ w'.cell? ⟨w.heap.size + 1 + 1, 2, none⟩ = some (.int .i64 x4) ∧ w'.cell? ⟨w.heap.size + 1 + 1, 3, none⟩ = some (.slice qa x2 qc) ∧ w'.cell? ⟨q, 0, none⟩ = some (.slice none 0 0) ∧ w'.cell? ⟨q, 1, none⟩ = some (.int .i64 x3) ∧ w'.cell? ⟨q, 2, none⟩ = some (.int .i64 x4) ∧ w'.cell? ⟨q, 3, none⟩ = some (.slice qa x2 qc)) (by kernel_rfl) ?_)
          have hS : (z0.drew).cell? ⟨w.heap.size + 1 + 1, 0, none⟩ = some (.slice pa x1 pc) ∧ (z0.drew).cell? ⟨w.heap.size + 1 + 1, 1, none⟩ = some (.int .i64 x3) ∧ (z0.drew).cell? ⟨w.heap.size + 1 + 1, 2, none⟩ = some (.int .i64 x4) ∧ (z0.drew).cell? ⟨w.heap.size + 1 + 1, 3, none⟩ = some (.slice qa x2 qc) ∧ (z0.drew).cell? ⟨q, 0, none⟩ = some (.slice none 0 0) ∧ (z0.drew).cell? ⟨q, 1, none⟩ = some (.int .i64 x3) ∧ (z0.drew).cell? ⟨q, 2, none⟩ = some (.int .i64 x4) ∧ (z0.drew).cell? ⟨q, 3, none⟩ = some (.slice qa x2 qc) := ⟨xt_z0.drew.cell rfl, xt_z0.drew.cell rfl, xt_z0.drew.cell rfl, xt_z0.drew.cell rfl, xq_z0.drew.cell rfl, xq_z0.drew.cell rfl, xq_z0.drew.cell rfl, xq_z0.drew.cell rfl⟩
          refine wpN_step (i := 0) (by kernel_rfl) rfl (fun K hK => ?_)
          go_simp
          refine (known06 z0.drew).mono ?_
          rintro e z1 ⟨rfl, hbd⟩
          have hbx : Below z0.heap.size z0 z1 := (Below.refl _ _).drew.trans hbd
          clear hbd
          have xt_z1 := xt_z0.below hbx
          have xq_z1 := xq_z0.below hbx
          have T_z1 := Lib.hid (T_z0.out.bel hbx)
          have Y_z1 := Lib.hid (Y_z0.out.bel hbx)
          have B_z1 := B_z0.trans (hbx.mono B_z0.size)
          clear xt_z0 xq_z0 T_z0 Y_z0 B_z0
          clear hbx
          have hS : (z1).cell? ⟨w.heap.size + 1 + 1, 0, none⟩ = some (.slice pa x1 pc) ∧ (z1).cell? ⟨w.heap.size + 1 + 1, 1, none⟩ = some (.int .i64 x3) ∧ (z1).cell? ⟨w.heap.size + 1 + 1, 2, none⟩ = some (.int .i64 x4) ∧ (z1).cell? ⟨w.heap.size + 1 + 1, 3, none⟩ = some (.slice qa x2 qc) ∧ (z1).cell? ⟨q, 0, none⟩ = some (.slice none 0 0) ∧ (z1).cell? ⟨q, 1, none⟩ = some (.int .i64 x3) ∧ (z1).cell? ⟨q, 2, none⟩ = some (.int .i64 x4) ∧ (z1).cell? ⟨q, 3, none⟩ = some (.slice qa x2 qc) := ⟨xt_z1.cell rfl, xt_z1.cell rfl, xt_z1.cell rfl, xt_z1.cell rfl, xq_z1.cell rfl, xq_z1.cell rfl, xq_z1.cell rfl, xq_z1.cell rfl⟩
          refine hK.out _ _ (fun _ => hS) ?_
          clear hK K
          try simp only [Act.put, List.setIfInBounds_toArray, List.set_cons_zero, List.set_cons_succ, List.getElem_toArray, List.getElem_cons_zero, List.getElem_cons_succ]
          refine wpN_take (i := 1) (v := ?v11) rfl (by kernel_rfl) (fun _ _ _ h => h) hS (Or.inl ⟨by rfl, ?hy11⟩) ?hr11
          case hy11 => (intro wS hSw; (try dsimp only at hSw); go_simp; (try with_reducible rfl))
          try simp only [Act.put, List.setIfInBounds_toArray, List.set_cons_zero, List.set_cons_succ, List.getElem_toArray, List.getElem_cons_zero, List.getElem_cons_succ]
          refine wpN_take (i := 2) (v := ?v12) rfl (by kernel_rfl) (fun _ _ _ h => h) hS (Or.inl ⟨by rfl, ?hy12⟩) ?hr12
          case hy12 => (intro wS hSw; (try dsimp only at hSw); go_simp; (try with_reducible rfl))
          try simp only [Act.put, List.setIfInBounds_toArray, List.set_cons_zero, List.set_cons_succ, List.getElem_toArray, List.getElem_cons_zero, List.getElem_cons_succ]
          refine wpN_take (i := 6) (v := ?v13) rfl (by kernel_rfl) (fun _ _ _ h => h) hS (Or.inl ⟨by rfl, ?hy13⟩) ?hr13
          case hy13 => (intro wS hSw; (try dsimp only at hSw); go_simp; (try with_reducible rfl))
          try simp only [Act.put, List.setIfInBounds_toArray, List.set_cons_zero, List.set_cons_succ, List.getElem_toArray, List.getElem_cons_zero, List.getElem_cons_succ]
          refine wpN_step (i := 3) (by kernel_rfl) rfl (fun K hK => ?_)
          go_simp
          refine (to6_any T_z1.out z1 (by have := Hf.out; omega) (Keep.refl _ _)).mono ?_
          intro e z2 h
          obtain ⟨b9, k9, i9, a9, rfl, hT, hbx⟩ := h
          have O_z2 := Lib.hid (hT.weaken (F' := fun _ => True) fun _ _ _ => trivial)
          clear hT
          have xt_z2 := xt_z1.below hbx
          have xq_z2 := xq_z1.below hbx
          have T_z2 := Lib.hid (T_z1.out.bel hbx)
          have Y_z2 := Lib.hid (Y_z1.out.bel hbx)
          have B_z2 := B_z1.trans (hbx.mono B_z1.size)
          clear xt_z1 xq_z1 T_z1 Y_z1 B_z1
          clear hbx
          have hS : (z2).cell? ⟨w.heap.size + 1 + 1, 0, none⟩ = some (.slice pa x1 pc) ∧ (z2).cell? ⟨w.heap.size + 1 + 1, 1, none⟩ = some (.int .i64 x3) ∧ (z2).cell? ⟨w.heap.size + 1 + 1, 2, none⟩ = some (.int .i64 x4) ∧ (z2).cell? ⟨w.heap.size + 1 + 1, 3, none⟩ = some (.slice qa x2 qc) ∧ (z2).cell? ⟨q, 0, none⟩ = some (.slice none 0 0) ∧ (z2).cell? ⟨q, 1, none⟩ = some (.int .i64 x3) ∧ (z2).cell? ⟨q, 2, none⟩ = some (.int .i64 x4) ∧ (z2).cell? ⟨q, 3, none⟩ = some (.slice qa x2 qc) := ⟨xt_z2.cell rfl, xt_z2.cell rfl, xt_z2.cell rfl, xt_z2.cell rfl, xq_z2.cell rfl, xq_z2.cell rfl, xq_z2.cell rfl, xq_z2.cell rfl⟩
          refine hK.out _ _ (fun _ => hS) ?_
          clear hK K
          try simp only [Act.put, List.setIfInBounds_toArray, List.set_cons_zero, List.set_cons_succ, List.getElem_toArray, List.getElem_cons_zero, List.getElem_cons_succ]
          refine wpN_step (i := 4) (by kernel_rfl) rfl (fun K hK => ?_)
          go_simp
          refine (body_k O_z2.out (by have := Hf.out; omega) Hfit.out).mono ?_
          intro e z3 h
          obtain ⟨b9, k9, i9, a9, rfl, hT, hbx⟩ := h
          rw [Hx3.out, Hx4.out] at hT
          clear O_z2
          have O_z3 := Lib.hid (hT.weaken (F' := fun _ => True) fun _ _ _ => trivial)
          clear hT
          have xt_z3 := xt_z2.below hbx
          have xq_z3 := xq_z2.below hbx
          have T_z3 := Lib.hid (T_z2.out.bel hbx)
          have Y_z3 := Lib.hid (Y_z2.out.bel hbx)
          have B_z3 := B_z2.trans (hbx.mono B_z2.size)
          clear xt_z2 xq_z2 T_z2 Y_z2 B_z2
          clear hbx
          have hS : (z3).cell? ⟨w.heap.size + 1 + 1, 0, none⟩ = some (.slice pa x1 pc) ∧ (z3).cell? ⟨w.heap.size + 1 + 1, 1, none⟩ = some (.int .i64 x3) ∧ (z3).cell? ⟨w.heap.size + 1 + 1, 2, none⟩ = some (.int .i64 x4) ∧ (z3).cell? ⟨w.heap.size + 1 + 1, 3, none⟩ = some (.slice qa x2 qc) ∧ (z3).cell? ⟨q, 0, none⟩ = some (.slice none 0 0) ∧ (z3).cell? ⟨q, 1, none⟩ = some (.int .i64 x3) ∧ (z3).cell? ⟨q, 2, none⟩ = some (.int .i64 x4) ∧ (z3).cell? ⟨q, 3, none⟩ = some (.slice qa x2 qc) := ⟨xt_z3.cell rfl, xt_z3.cell rfl, xt_z3.cell rfl, xt_z3.cell rfl, xq_z3.cell rfl, xq_z3.cell rfl, xq_z3.cell rfl, xq_z3.cell rfl⟩
          refine hK.out _ _ (fun _ => hS) ?_
          clear hK K
          try simp only [Act.put, List.setIfInBounds_toArray, List.set_cons_zero, List.set_cons_succ, List.getElem_toArray, List.getElem_cons_zero, List.getElem_cons_succ]
          refine wpN_step (i := 5) (by kernel_rfl) rfl (fun K hK => ?_)
          go_simp
          refine (of6_any O_z3.out z3 (by have := HfB.out; omega) (Keep.refl _ _)).mono ?_
          intro e z4 h
          obtain ⟨b9, k9, i9, a9, rfl, hT, hbx⟩ := h
          clear O_z3
          have O_z4 := Lib.hid (hT.weaken (F' := fun _ => True) fun _ _ _ => trivial)
          clear hT
          have xt_z4 := xt_z3.below hbx
          have xq_z4 := xq_z3.below hbx
          have T_z4 := Lib.hid (T_z3.out.bel hbx)
          have Y_z4 := Lib.hid (Y_z3.out.bel hbx)
          have B_z4 := B_z3.trans (hbx.mono B_z3.size)
          clear xt_z3 xq_z3 T_z3 Y_z3 B_z3
          clear hbx
          have hS : (z4).cell? ⟨w.heap.size + 1 + 1, 0, none⟩ = some (.slice pa x1 pc) ∧ (z4).cell? ⟨w.heap.size + 1 + 1, 1, none⟩ = some (.int .i64 x3) ∧ (z4).cell? ⟨w.heap.size + 1 + 1, 2, none⟩ = some (.int .i64 x4) ∧ (z4).cell? ⟨w.heap.size + 1 + 1, 3, none⟩ = some (.slice qa x2 qc) ∧ (z4).cell? ⟨q, 0, none⟩ = some (.slice none 0 0) ∧ (z4).cell? ⟨q, 1, none⟩ = some (.int .i64 x3) ∧ (z4).cell? ⟨q, 2, none⟩ = some (.int .i64 x4) ∧ (z4).cell? ⟨q, 3, none⟩ = some (.slice qa x2 qc) := ⟨xt_z4.cell rfl, xt_z4.cell rfl, xt_z4.cell rfl, xt_z4.cell rfl, xq_z4.cell rfl, xq_z4.cell rfl, xq_z4.cell rfl, xq_z4.cell rfl⟩
          refine hK.out _ _ (fun _ => hS) ?_
          clear hK K
          try simp only [Act.put, List.setIfInBounds_toArray, List.set_cons_zero, List.set_cons_succ, List.getElem_toArray, List.getElem_cons_zero, List.getElem_cons_succ]
          refine wpN_step (i := 7) (by kernel_rfl) rfl (fun K hK => ?_)
          go_simp
          refine (same6_r _ _ _ _ _ _ _ O_z4.out _ _ _ _ _ _ _ Y_z4.out z4 (Keep.refl _ _) (Keep.refl _ _)).mono ?_
          intro e z5 h
          obtain ⟨r9, Hq, rfl, hbx⟩ := of_retB' h
          clear h O_z4
          obtain rfl : r9 = true := Hq.out.2 rfl
          clear Hq
          have xt_z5 := xt_z4.below hbx
          have xq_z5 := xq_z4.below hbx
          have T_z5 := Lib.hid (T_z4.out.bel hbx)
          have Y_z5 := Lib.hid (Y_z4.out.bel hbx)
          have B_z5 := B_z4.trans (hbx.mono B_z4.size)
          clear xt_z4 xq_z4 T_z4 Y_z4 B_z4
          clear hbx
          have hS : (z5).cell? ⟨w.heap.size + 1 + 1, 0, none⟩ = some (.slice pa x1 pc) ∧ (z5).cell? ⟨w.heap.size + 1 + 1, 1, none⟩ = some (.int .i64 x3) ∧ (z5).cell? ⟨w.heap.size + 1 + 1, 2, none⟩ = some (.int .i64 x4) ∧ (z5).cell? ⟨w.heap.size + 1 + 1, 3, none⟩ = some (.slice qa x2 qc) ∧ (z5).cell? ⟨q, 0, none⟩ = some (.slice none 0 0) ∧ (z5).cell? ⟨q, 1, none⟩ = some (.int .i64 x3) ∧ (z5).cell? ⟨q, 2, none⟩ = some (.int .i64 x4) ∧ (z5).cell? ⟨q, 3, none⟩ = some (.slice qa x2 qc) := ⟨xt_z5.cell rfl, xt_z5.cell rfl, xt_z5.cell rfl, xt_z5.cell rfl, xq_z5.cell rfl, xq_z5.cell rfl, xq_z5.cell rfl, xq_z5.cell rfl⟩
          refine hK.out _ _ (fun _ => hS) ?_
          clear hK K
          try simp only [Act.put, List.setIfInBounds_toArray, List.set_cons_zero, List.set_cons_succ, List.getElem_toArray, List.getElem_cons_zero, List.getElem_cons_succ]
          refine wpN_take (i := 8) (v := ?v14) rfl (by kernel_rfl) (fun _ _ _ h => h) hS (Or.inl ⟨by rfl, ?hy14⟩) ?hr14
          case hy14 => (intro wS hSw; (try dsimp only at hSw); go_simp; (try with_reducible rfl))
          try simp only [Act.put, List.setIfInBounds_toArray, List.set_cons_zero, List.set_cons_succ, List.getElem_toArray, List.getElem_cons_zero, List.getElem_cons_succ]
          refine wpN_take (i := 9) (v := ?v15) rfl (by kernel_rfl) (fun _ _ _ h => h) hS (Or.inl ⟨by rfl, ?hy15⟩) ?hr15
          case hy15 => (intro wS hSw; (try dsimp only at hSw); go_simp; (try with_reducible rfl))
          try simp only [Act.put, List.setIfInBounds_toArray, List.set_cons_zero, List.set_cons_succ, List.getElem_toArray, List.getElem_cons_zero, List.getElem_cons_succ]
          refine wpN_take (i := 10) (v := ?v16) rfl (by kernel_rfl) (fun _ _ _ h => h) hS (Or.inl ⟨by rfl, ?hy16⟩) ?hr16
          case hy16 => (intro wS hSw; (try dsimp only at hSw); go_simp; (try with_reducible rfl))
          try simp only [Act.put, List.setIfInBounds_toArray, List.set_cons_zero, List.set_cons_succ, List.getElem_toArray, List.getElem_cons_zero, List.getElem_cons_succ]
          refine wpN_take (i := 14) (v := ?v17) rfl (by kernel_rfl) (fun _ _ _ h => h) hS (Or.inl ⟨by rfl, ?hy17⟩) ?hr17
          case hy17 => (intro wS hSw; (try dsimp only at hSw); go_simp; (try with_reducible rfl))
          try simp only [Act.put, List.setIfInBounds_toArray, List.set_cons_zero, List.set_cons_succ, List.getElem_toArray, List.getElem_cons_zero, List.getElem_cons_succ]
          refine wpN_step (i := 11) (by kernel_rfl) rfl (fun K hK => ?_)
          go_simp
          refine (to6_any T_z5.out z5 (by have := Hf.out; omega) (Keep.refl _ _)).mono ?_
          intro e z6 h
          obtain ⟨b9, k9, i9, a9, rfl, hT, hbx⟩ := h
          have O_z6 := Lib.hid (hT.weaken (F' := fun _ => True) fun _ _ _ => trivial)
          clear hT
          have xt_z6 := xt_z5.below hbx
          have xq_z6 := xq_z5.below hbx
          have T_z6 := Lib.hid (T_z5.out.bel hbx)
          have Y_z6 := Lib.hid (Y_z5.out.bel hbx)
          have B_z6 := B_z5.trans (hbx.mono B_z5.size)
          clear xt_z5 xq_z5 T_z5 Y_z5 B_z5
          clear hbx
          have hS : (z6).cell? ⟨w.heap.size + 1 + 1, 0, none⟩ = some (.slice pa x1 pc) ∧ (z6).cell? ⟨w.heap.size + 1 + 1, 1, none⟩ = some (.int .i64 x3) ∧ (z6).cell? ⟨w.heap.size + 1 + 1, 2, none⟩ = some (.int .i64 x4) ∧ (z6).cell? ⟨w.heap.size + 1 + 1, 3, none⟩ = some (.slice qa x2 qc) ∧ (z6).cell? ⟨q, 0, none⟩ = some (.slice none 0 0) ∧ (z6).cell? ⟨q, 1, none⟩ = some (.int .i64 x3) ∧ (z6).cell? ⟨q, 2, none⟩ = some (.int .i64 x4) ∧ (z6).cell? ⟨q, 3, none⟩ = some (.slice qa x2 qc) := ⟨xt_z6.cell rfl, xt_z6.cell rfl, xt_z6.cell rfl, xt_z6.cell rfl, xq_z6.cell rfl, xq_z6.cell rfl, xq_z6.cell rfl, xq_z6.cell rfl⟩
          refine hK.out _ _ (fun _ => hS) ?_
          clear hK K
          try simp only [Act.put, List.setIfInBounds_toArray, List.set_cons_zero, List.set_cons_succ, List.getElem_toArray, List.getElem_cons_zero, List.getElem_cons_succ]
          refine wpN_step (i := 12) (by kernel_rfl) rfl (fun K hK => ?_)
          go_simp
          refine (copy_k O_z6.out (by have := Hf.out; omega) Hfit.out).mono ?_
          intro e z7 h
          obtain ⟨b9, k9, i9, a9, rfl, hT, hbx⟩ := h
          clear O_z6
          have O_z7 := Lib.hid (hT.weaken (F' := fun _ => True) fun _ _ _ => trivial)
          clear hT
          have xt_z7 := xt_z6.below hbx
          have xq_z7 := xq_z6.below hbx
          have T_z7 := Lib.hid (T_z6.out.bel hbx)
          have Y_z7 := Lib.hid (Y_z6.out.bel hbx)
          have B_z7 := B_z6.trans (hbx.mono B_z6.size)
          clear xt_z6 xq_z6 T_z6 Y_z6 B_z6
          clear hbx
          have hS : (z7).cell? ⟨w.heap.size + 1 + 1, 0, none⟩ = some (.slice pa x1 pc) ∧ (z7).cell? ⟨w.heap.size + 1 + 1, 1, none⟩ = some (.int .i64 x3) ∧ (z7).cell? ⟨w.heap.size + 1 + 1, 2, none⟩ = some (.int .i64 x4) ∧ (z7).cell? ⟨w.heap.size + 1 + 1, 3, none⟩ = some (.slice qa x2 qc) ∧ (z7).cell? ⟨q, 0, none⟩ = some (.slice none 0 0) ∧ (z7).cell? ⟨q, 1, none⟩ = some (.int .i64 x3) ∧ (z7).cell? ⟨q, 2, none⟩ = some (.int .i64 x4) ∧ (z7).cell? ⟨q, 3, none⟩ = some (.slice qa x2 qc) := ⟨xt_z7.cell rfl, xt_z7.cell rfl, xt_z7.cell rfl, xt_z7.cell rfl, xq_z7.cell rfl, xq_z7.cell rfl, xq_z7.cell rfl, xq_z7.cell rfl⟩
          refine hK.out _ _ (fun _ => hS) ?_
          clear hK K
          try simp only [Act.put, List.setIfInBounds_toArray, List.set_cons_zero, List.set_cons_succ, List.getElem_toArray, List.getElem_cons_zero, List.getElem_cons_succ]
          refine wpN_step (i := 13) (by kernel_rfl) rfl (fun K hK => ?_)
          go_simp
          refine (of6_any O_z7.out z7 (by have := Hf.out; omega) (Keep.refl _ _)).mono ?_
          intro e z8 h
          obtain ⟨b9, k9, i9, a9, rfl, hT, hbx⟩ := h
          clear O_z7
          have O_z8 := Lib.hid (hT.weaken (F' := fun _ => True) fun _ _ _ => trivial)
          clear hT
          have xt_z8 := xt_z7.below hbx
          have xq_z8 := xq_z7.below hbx
          have T_z8 := Lib.hid (T_z7.out.bel hbx)
          have Y_z8 := Lib.hid (Y_z7.out.bel hbx)
          have B_z8 := B_z7.trans (hbx.mono B_z7.size)
          clear xt_z7 xq_z7 T_z7 Y_z7 B_z7
          clear hbx
          have hS : (z8).cell? ⟨w.heap.size + 1 + 1, 0, none⟩ = some (.slice pa x1 pc) ∧ (z8).cell? ⟨w.heap.size + 1 + 1, 1, none⟩ = some (.int .i64 x3) ∧ (z8).cell? ⟨w.heap.size + 1 + 1, 2, none⟩ = some (.int .i64 x4) ∧ (z8).cell? ⟨w.heap.size + 1 + 1, 3, none⟩ = some (.slice qa x2 qc) ∧ (z8).cell? ⟨q, 0, none⟩ = some (.slice none 0 0) ∧ (z8).cell? ⟨q, 1, none⟩ = some (.int .i64 x3) ∧ (z8).cell? ⟨q, 2, none⟩ = some (.int .i64 x4) ∧ (z8).cell? ⟨q, 3, none⟩ = some (.slice qa x2 qc) := ⟨xt_z8.cell rfl, xt_z8.cell rfl, xt_z8.cell rfl, xt_z8.cell rfl, xq_z8.cell rfl, xq_z8.cell rfl, xq_z8.cell rfl, xq_z8.cell rfl⟩
          refine hK.out _ _ (fun _ => hS) ?_
          clear hK K
          try simp only [Act.put, List.setIfInBounds_toArray, List.set_cons_zero, List.set_cons_succ, List.getElem_toArray, List.getElem_cons_zero, List.getElem_cons_succ]
          refine wpN_step (i := 15) (by kernel_rfl) rfl (fun K hK => ?_)
          go_simp
          refine (same6_r _ _ _ _ _ _ _ O_z8.out _ _ _ _ _ _ _ T_z8.out z8 (Keep.refl _ _) (Keep.refl _ _)).mono ?_
          intro e z9 h
          obtain ⟨r9, Hq, rfl, hbx⟩ := of_retB' h
          clear h O_z8
          obtain rfl : r9 = true := Hq.out.2 rfl
          clear Hq
          have xt_z9 := xt_z8.below hbx
          have xq_z9 := xq_z8.below hbx
          have T_z9 := Lib.hid (T_z8.out.bel hbx)
          have Y_z9 := Lib.hid (Y_z8.out.bel hbx)
          have B_z9 := B_z8.trans (hbx.mono B_z8.size)
          clear xt_z8 xq_z8 T_z8 Y_z8 B_z8
          clear hbx
          have hS : (z9).cell? ⟨w.heap.size + 1 + 1, 0, none⟩ = some (.slice pa x1 pc) ∧ (z9).cell? ⟨w.heap.size + 1 + 1, 1, none⟩ = some (.int .i64 x3) ∧ (z9).cell? ⟨w.heap.size + 1 + 1, 2, none⟩ = some (.int .i64 x4) ∧ (z9).cell? ⟨w.heap.size + 1 + 1, 3, none⟩ = some (.slice qa x2 qc) ∧ (z9).cell? ⟨q, 0, none⟩ = some (.slice none 0 0) ∧ (z9).cell? ⟨q, 1, none⟩ = some (.int .i64 x3) ∧ (z9).cell? ⟨q, 2, none⟩ = some (.int .i64 x4) ∧ (z9).cell? ⟨q, 3, none⟩ = some (.slice qa x2 qc) := ⟨xt_z9.cell rfl, xt_z9.cell rfl, xt_z9.cell rfl, xt_z9.cell rfl, xq_z9.cell rfl, xq_z9.cell rfl, xq_z9.cell rfl, xq_z9.cell rfl⟩
          refine hK.out _ _ (fun _ => hS) ?_
          clear hK K
          try simp only [Act.put, List.setIfInBounds_toArray, List.set_cons_zero, List.set_cons_succ, List.getElem_toArray, List.getElem_cons_zero, List.getElem_cons_succ]
          refine wpN_take (i := 16) (v := ?v18) rfl (by kernel_rfl) (fun _ _ _ h => h) hS (Or.inl ⟨by rfl, ?hy18⟩) ?hr18
          case hy18 => (intro wS hSw; (try dsimp only at hSw); go_simp; (try with_reducible rfl))
          try simp only [Act.put, List.setIfInBounds_toArray, List.set_cons_zero, List.set_cons_succ, List.getElem_toArray, List.getElem_cons_zero, List.getElem_cons_succ]
          refine wpN_step (i := 17) (by kernel_rfl) rfl (fun K hK => ?_)
          go_simp
          refine hK.out _ _ (fun h => absurd h (by decide)) ?_
          clear hK K
          try simp only [Act.put, List.setIfInBounds_toArray, List.set_cons_zero, List.set_cons_succ, List.getElem_toArray, List.getElem_cons_zero, List.getElem_cons_succ]
          refine wpN_done (by kernel_rfl) ?_
          refine NoPanic.normal ?_
          go_wp2_with fail
          go_ret
          exact ⟨rfl, B_z9⟩
        · skip
          obtain ⟨e3, he3⟩ : ∃ e, (if r = true then X.kind else 0) = e := ⟨_, rfl⟩
          obtain ⟨e4, he4⟩ : ∃ e, (if r = true then X.headIx else 0) = e := ⟨_, rfl⟩
          rw [he3, he4]
          clear he3 he4 Hr
          go_wp2_with fail
          obtain ⟨z0, hz0⟩ : ∃ z0, (v9.alloc (.cells #[.int .i64 e3, .int .i64 e4] 34)).alloc (.cells #[.slice none 0 0, .int .i64 x3, .int .i64 x4, .slice qa x2 qc] 29) = z0 := ⟨_, rfl⟩
          obtain ⟨q, hq⟩ : ∃ q, v9.heap.size + 1 = q := ⟨_, rfl⟩
          have hbx : Below v9.heap.size v9 z0 := by rw [← hz0]; exact ((Below.refl _ _).alloc (Nat.le_refl _) _).alloc (by simp) _
          have xq_z0 : Blk z0 q #[.slice none 0 0, .int .i64 x3, .int .i64 x4, .slice qa x2 qc] 29 := by rw [← hz0]; exact Blk.new _ _ _ (by rw [← hq]; simp)
          try rw [hz0]
          try rw [hq]
          clear hz0 hq c0 c1 c2 c3 h0 h1 hl0 hl1
          have xt_z0 := xt_v9.below hbx
          have T_z0 := Lib.hid (T_v9.out.bel hbx)
          have B_z0 := B_v9.trans (hbx.mono B_v9.size)
          have Y_z0 := Lib.hid (isTm_mk (isSl_nil rpTy (fun _ => True) z0) (T_z0.out.inv.2.2.2) x3 x4)
          clear hbx xh_v9 xo_v9 xt_v9 xp_v9 U_v9 T_v9 X_v9 B_v9
          have HfB : Hid ((Tm.mk [] x3 x4 t.args).full ≤ 150) := by show _ ≤ _; have h := Hf.out.1; cases t; simp [Tm.full, Tm.args, Ty.sizes] at *; omega
          refine wp_region_noPanic (wp_region_need (S := fun w' => w'.cell? ⟨w.heap.size + 1 + 1, 0, none⟩ = some (.slice pa x1 pc) ∧ w'.cell? ⟨w.heap.size + 1 + 1, 1, none⟩ = some (.int .i64 x3) ∧ w'.cell? ⟨w.heap.size + 1 + 1, 2, none⟩ = some (.int .i64 x4) ∧ w'.cell? ⟨w.heap.size + 1 + 1, 3, none⟩ = some (.slice qa x2 qc) ∧ w'.cell? ⟨q, 0, none⟩ = some (.slice none 0 0) ∧ w'.cell? ⟨q, 1, none⟩ = some (.int .i64 x3) ∧ w'.cell? ⟨q, 2, none⟩ = some (.int .i64 x4) ∧ w'.cell? ⟨q, 3, none⟩ = some (.slice qa x2 qc)) (by kernel_rfl) ?_)
          have hS : (z0.drew).cell? ⟨w.heap.size + 1 + 1, 0, none⟩ = some (.slice pa x1 pc) ∧ (z0.drew).cell? ⟨w.heap.size + 1 + 1, 1, none⟩ = some (.int .i64 x3) ∧ (z0.drew).cell? ⟨w.heap.size + 1 + 1, 2, none⟩ = some (.int .i64 x4) ∧ (z0.drew).cell? ⟨w.heap.size + 1 + 1, 3, none⟩ = some (.slice qa x2 qc) ∧ (z0.drew).cell? ⟨q, 0, none⟩ = some (.slice none 0 0) ∧ (z0.drew).cell? ⟨q, 1, none⟩ = some (.int .i64 x3) ∧ (z0.drew).cell? ⟨q, 2, none⟩ = some (.int .i64 x4) ∧ (z0.drew).cell? ⟨q, 3, none⟩ = some (.slice qa x2 qc) := ⟨xt_z0.drew.cell rfl, xt_z0.drew.cell rfl, xt_z0.drew.cell rfl, xt_z0.drew.cell rfl, xq_z0.drew.cell rfl, xq_z0.drew.cell rfl, xq_z0.drew.cell rfl, xq_z0.drew.cell rfl⟩
          refine wpN_step (i := 0) (by kernel_rfl) rfl (fun K hK => ?_)
          go_simp
          refine (known06 z0.drew).mono ?_
          rintro e z1 ⟨rfl, hbd⟩
          have hbx : Below z0.heap.size z0 z1 := (Below.refl _ _).drew.trans hbd
          clear hbd
          have xt_z1 := xt_z0.below hbx
          have xq_z1 := xq_z0.below hbx
          have T_z1 := Lib.hid (T_z0.out.bel hbx)
          have Y_z1 := Lib.hid (Y_z0.out.bel hbx)
          have B_z1 := B_z0.trans (hbx.mono B_z0.size)
          clear xt_z0 xq_z0 T_z0 Y_z0 B_z0
          clear hbx
          have hS : (z1).cell? ⟨w.heap.size + 1 + 1, 0, none⟩ = some (.slice pa x1 pc) ∧ (z1).cell? ⟨w.heap.size + 1 + 1, 1, none⟩ = some (.int .i64 x3) ∧ (z1).cell? ⟨w.heap.size + 1 + 1, 2, none⟩ = some (.int .i64 x4) ∧ (z1).cell? ⟨w.heap.size + 1 + 1, 3, none⟩ = some (.slice qa x2 qc) ∧ (z1).cell? ⟨q, 0, none⟩ = some (.slice none 0 0) ∧ (z1).cell? ⟨q, 1, none⟩ = some (.int .i64 x3) ∧ (z1).cell? ⟨q, 2, none⟩ = some (.int .i64 x4) ∧ (z1).cell? ⟨q, 3, none⟩ = some (.slice qa x2 qc) := ⟨xt_z1.cell rfl, xt_z1.cell rfl, xt_z1.cell rfl, xt_z1.cell rfl, xq_z1.cell rfl, xq_z1.cell rfl, xq_z1.cell rfl, xq_z1.cell rfl⟩
          refine hK.out _ _ (fun _ => hS) ?_
          clear hK K
          try simp only [Act.put, List.setIfInBounds_toArray, List.set_cons_zero, List.set_cons_succ, List.getElem_toArray, List.getElem_cons_zero, List.getElem_cons_succ]
          refine wpN_take (i := 1) (v := ?v19) rfl (by kernel_rfl) (fun _ _ _ h => h) hS (Or.inl ⟨by rfl, ?hy19⟩) ?hr19
          case hy19 => (intro wS hSw; (try dsimp only at hSw); go_simp; (try with_reducible rfl))
          try simp only [Act.put, List.setIfInBounds_toArray, List.set_cons_zero, List.set_cons_succ, List.getElem_toArray, List.getElem_cons_zero, List.getElem_cons_succ]
          refine wpN_take (i := 2) (v := ?v20) rfl (by kernel_rfl) (fun _ _ _ h => h) hS (Or.inl ⟨by rfl, ?hy20⟩) ?hr20
          case hy20 => (intro wS hSw; (try dsimp only at hSw); go_simp; (try with_reducible rfl))
          try simp only [Act.put, List.setIfInBounds_toArray, List.set_cons_zero, List.set_cons_succ, List.getElem_toArray, List.getElem_cons_zero, List.getElem_cons_succ]
          refine wpN_take (i := 6) (v := ?v21) rfl (by kernel_rfl) (fun _ _ _ h => h) hS (Or.inl ⟨by rfl, ?hy21⟩) ?hr21
          case hy21 => (intro wS hSw; (try dsimp only at hSw); go_simp; (try with_reducible rfl))
          try simp only [Act.put, List.setIfInBounds_toArray, List.set_cons_zero, List.set_cons_succ, List.getElem_toArray, List.getElem_cons_zero, List.getElem_cons_succ]
          refine wpN_step (i := 3) (by kernel_rfl) rfl (fun K hK => ?_)
          go_simp
          refine (to6_any T_z1.out z1 (by have := Hf.out; omega) (Keep.refl _ _)).mono ?_
          intro e z2 h
          obtain ⟨b9, k9, i9, a9, rfl, hT, hbx⟩ := h
          have O_z2 := Lib.hid (hT.weaken (F' := fun _ => True) fun _ _ _ => trivial)
          clear hT
          have xt_z2 := xt_z1.below hbx
          have xq_z2 := xq_z1.below hbx
          have T_z2 := Lib.hid (T_z1.out.bel hbx)
          have Y_z2 := Lib.hid (Y_z1.out.bel hbx)
          have B_z2 := B_z1.trans (hbx.mono B_z1.size)
          clear xt_z1 xq_z1 T_z1 Y_z1 B_z1
          clear hbx
          have hS : (z2).cell? ⟨w.heap.size + 1 + 1, 0, none⟩ = some (.slice pa x1 pc) ∧ (z2).cell? ⟨w.heap.size + 1 + 1, 1, none⟩ = some (.int .i64 x3) ∧ (z2).cell? ⟨w.heap.size + 1 + 1, 2, none⟩ = some (.int .i64 x4) ∧ (z2).cell? ⟨w.heap.size + 1 + 1, 3, none⟩ = some (.slice qa x2 qc) ∧ (z2).cell? ⟨q, 0, none⟩ = some (.slice none 0 0) ∧ (z2).cell? ⟨q, 1, none⟩ = some (.int .i64 x3) ∧ (z2).cell? ⟨q, 2, none⟩ = some (.int .i64 x4) ∧ (z2).cell? ⟨q, 3, none⟩ = some (.slice qa x2 qc) := ⟨xt_z2.cell rfl, xt_z2.cell rfl, xt_z2.cell rfl, xt_z2.cell rfl, xq_z2.cell rfl, xq_z2.cell rfl, xq_z2.cell rfl, xq_z2.cell rfl⟩
          refine hK.out _ _ (fun _ => hS) ?_
          clear hK K
          try simp only [Act.put, List.setIfInBounds_toArray, List.set_cons_zero, List.set_cons_succ, List.getElem_toArray, List.getElem_cons_zero, List.getElem_cons_succ]
          refine wpN_step (i := 4) (by kernel_rfl) rfl (fun K hK => ?_)
          go_simp
          refine (body_k O_z2.out (by have := Hf.out; omega) Hfit.out).mono ?_
          intro e z3 h
          obtain ⟨b9, k9, i9, a9, rfl, hT, hbx⟩ := h
          rw [Hx3.out, Hx4.out] at hT
          clear O_z2
          have O_z3 := Lib.hid (hT.weaken (F' := fun _ => True) fun _ _ _ => trivial)
          clear hT
          have xt_z3 := xt_z2.below hbx
          have xq_z3 := xq_z2.below hbx
          have T_z3 := Lib.hid (T_z2.out.bel hbx)
          have Y_z3 := Lib.hid (Y_z2.out.bel hbx)
          have B_z3 := B_z2.trans (hbx.mono B_z2.size)
          clear xt_z2 xq_z2 T_z2 Y_z2 B_z2
          clear hbx
          have hS : (z3).cell? ⟨w.heap.size + 1 + 1, 0, none⟩ = some (.slice pa x1 pc) ∧ (z3).cell? ⟨w.heap.size + 1 + 1, 1, none⟩ = some (.int .i64 x3) ∧ (z3).cell? ⟨w.heap.size + 1 + 1, 2, none⟩ = some (.int .i64 x4) ∧ (z3).cell? ⟨w.heap.size + 1 + 1, 3, none⟩ = some (.slice qa x2 qc) ∧ (z3).cell? ⟨q, 0, none⟩ = some (.slice none 0 0) ∧ (z3).cell? ⟨q, 1, none⟩ = some (.int .i64 x3) ∧ (z3).cell? ⟨q, 2, none⟩ = some (.int .i64 x4) ∧ (z3).cell? ⟨q, 3, none⟩ = some (.slice qa x2 qc) := ⟨xt_z3.cell rfl, xt_z3.cell rfl, xt_z3.cell rfl, xt_z3.cell rfl, xq_z3.cell rfl, xq_z3.cell rfl, xq_z3.cell rfl, xq_z3.cell rfl⟩
          refine hK.out _ _ (fun _ => hS) ?_
          clear hK K
          try simp only [Act.put, List.setIfInBounds_toArray, List.set_cons_zero, List.set_cons_succ, List.getElem_toArray, List.getElem_cons_zero, List.getElem_cons_succ]
          refine wpN_step (i := 5) (by kernel_rfl) rfl (fun K hK => ?_)
          go_simp
          refine (of6_any O_z3.out z3 (by have := HfB.out; omega) (Keep.refl _ _)).mono ?_
          intro e z4 h
          obtain ⟨b9, k9, i9, a9, rfl, hT, hbx⟩ := h
          clear O_z3
          have O_z4 := Lib.hid (hT.weaken (F' := fun _ => True) fun _ _ _ => trivial)
          clear hT
          have xt_z4 := xt_z3.below hbx
          have xq_z4 := xq_z3.below hbx
          have T_z4 := Lib.hid (T_z3.out.bel hbx)
          have Y_z4 := Lib.hid (Y_z3.out.bel hbx)
          have B_z4 := B_z3.trans (hbx.mono B_z3.size)
          clear xt_z3 xq_z3 T_z3 Y_z3 B_z3
          clear hbx
          have hS : (z4).cell? ⟨w.heap.size + 1 + 1, 0, none⟩ = some (.slice pa x1 pc) ∧ (z4).cell? ⟨w.heap.size + 1 + 1, 1, none⟩ = some (.int .i64 x3) ∧ (z4).cell? ⟨w.heap.size + 1 + 1, 2, none⟩ = some (.int .i64 x4) ∧ (z4).cell? ⟨w.heap.size + 1 + 1, 3, none⟩ = some (.slice qa x2 qc) ∧ (z4).cell? ⟨q, 0, none⟩ = some (.slice none 0 0) ∧ (z4).cell? ⟨q, 1, none⟩ = some (.int .i64 x3) ∧ (z4).cell? ⟨q, 2, none⟩ = some (.int .i64 x4) ∧ (z4).cell? ⟨q, 3, none⟩ = some (.slice qa x2 qc) := ⟨xt_z4.cell rfl, xt_z4.cell rfl, xt_z4.cell rfl, xt_z4.cell rfl, xq_z4.cell rfl, xq_z4.cell rfl, xq_z4.cell rfl, xq_z4.cell rfl⟩
          refine hK.out _ _ (fun _ => hS) ?_
          clear hK K
          try simp only [Act.put, List.setIfInBounds_toArray, List.set_cons_zero, List.set_cons_succ, List.getElem_toArray, List.getElem_cons_zero, List.getElem_cons_succ]
          refine wpN_step (i := 7) (by kernel_rfl) rfl (fun K hK => ?_)
          go_simp
          refine (same6_r _ _ _ _ _ _ _ O_z4.out _ _ _ _ _ _ _ Y_z4.out z4 (Keep.refl _ _) (Keep.refl _ _)).mono ?_
          intro e z5 h
          obtain ⟨r9, Hq, rfl, hbx⟩ := of_retB' h
          clear h O_z4
          obtain rfl : r9 = true := Hq.out.2 rfl
          clear Hq
          have xt_z5 := xt_z4.below hbx
          have xq_z5 := xq_z4.below hbx
          have T_z5 := Lib.hid (T_z4.out.bel hbx)
          have Y_z5 := Lib.hid (Y_z4.out.bel hbx)
          have B_z5 := B_z4.trans (hbx.mono B_z4.size)
          clear xt_z4 xq_z4 T_z4 Y_z4 B_z4
          clear hbx
          have hS : (z5).cell? ⟨w.heap.size + 1 + 1, 0, none⟩ = some (.slice pa x1 pc) ∧ (z5).cell? ⟨w.heap.size + 1 + 1, 1, none⟩ = some (.int .i64 x3) ∧ (z5).cell? ⟨w.heap.size + 1 + 1, 2, none⟩ = some (.int .i64 x4) ∧ (z5).cell? ⟨w.heap.size + 1 + 1, 3, none⟩ = some (.slice qa x2 qc) ∧ (z5).cell? ⟨q, 0, none⟩ = some (.slice none 0 0) ∧ (z5).cell? ⟨q, 1, none⟩ = some (.int .i64 x3) ∧ (z5).cell? ⟨q, 2, none⟩ = some (.int .i64 x4) ∧ (z5).cell? ⟨q, 3, none⟩ = some (.slice qa x2 qc) := ⟨xt_z5.cell rfl, xt_z5.cell rfl, xt_z5.cell rfl, xt_z5.cell rfl, xq_z5.cell rfl, xq_z5.cell rfl, xq_z5.cell rfl, xq_z5.cell rfl⟩
          refine hK.out _ _ (fun _ => hS) ?_
          clear hK K
          try simp only [Act.put, List.setIfInBounds_toArray, List.set_cons_zero, List.set_cons_succ, List.getElem_toArray, List.getElem_cons_zero, List.getElem_cons_succ]
          refine wpN_take (i := 8) (v := ?v22) rfl (by kernel_rfl) (fun _ _ _ h => h) hS (Or.inl ⟨by rfl, ?hy22⟩) ?hr22
          case hy22 => (intro wS hSw; (try dsimp only at hSw); go_simp; (try with_reducible rfl))
          try simp only [Act.put, List.setIfInBounds_toArray, List.set_cons_zero, List.set_cons_succ, List.getElem_toArray, List.getElem_cons_zero, List.getElem_cons_succ]
          refine wpN_take (i := 9) (v := ?v23) rfl (by kernel_rfl) (fun _ _ _ h => h) hS (Or.inl ⟨by rfl, ?hy23⟩) ?hr23
          case hy23 => (intro wS hSw; (try dsimp only at hSw); go_simp; (try with_reducible rfl))
          try simp only [Act.put, List.setIfInBounds_toArray, List.set_cons_zero, List.set_cons_succ, List.getElem_toArray, List.getElem_cons_zero, List.getElem_cons_succ]
          refine wpN_take (i := 10) (v := ?v24) rfl (by kernel_rfl) (fun _ _ _ h => h) hS (Or.inl ⟨by rfl, ?hy24⟩) ?hr24
          case hy24 => (intro wS hSw; (try dsimp only at hSw); go_simp; (try with_reducible rfl))
          try simp only [Act.put, List.setIfInBounds_toArray, List.set_cons_zero, List.set_cons_succ, List.getElem_toArray, List.getElem_cons_zero, List.getElem_cons_succ]
          refine wpN_take (i := 14) (v := ?v25) rfl (by kernel_rfl) (fun _ _ _ h => h) hS (Or.inl ⟨by rfl, ?hy25⟩) ?hr25
          case hy25 => (intro wS hSw; (try dsimp only at hSw); go_simp; (try with_reducible rfl))
          try simp only [Act.put, List.setIfInBounds_toArray, List.set_cons_zero, List.set_cons_succ, List.getElem_toArray, List.getElem_cons_zero, List.getElem_cons_succ]
          refine wpN_step (i := 11) (by kernel_rfl) rfl (fun K hK => ?_)
          go_simp
          refine (to6_any T_z5.out z5 (by have := Hf.out; omega) (Keep.refl _ _)).mono ?_
          intro e z6 h
          obtain ⟨b9, k9, i9, a9, rfl, hT, hbx⟩ := h
          have O_z6 := Lib.hid (hT.weaken (F' := fun _ => True) fun _ _ _ => trivial)
          clear hT
          have xt_z6 := xt_z5.below hbx
          have xq_z6 := xq_z5.below hbx
          have T_z6 := Lib.hid (T_z5.out.bel hbx)
          have Y_z6 := Lib.hid (Y_z5.out.bel hbx)
          have B_z6 := B_z5.trans (hbx.mono B_z5.size)
          clear xt_z5 xq_z5 T_z5 Y_z5 B_z5
          clear hbx
          have hS : (z6).cell? ⟨w.heap.size + 1 + 1, 0, none⟩ = some (.slice pa x1 pc) ∧ (z6).cell? ⟨w.heap.size + 1 + 1, 1, none⟩ = some (.int .i64 x3) ∧ (z6).cell? ⟨w.heap.size + 1 + 1, 2, none⟩ = some (.int .i64 x4) ∧ (z6).cell? ⟨w.heap.size + 1 + 1, 3, none⟩ = some (.slice qa x2 qc) ∧ (z6).cell? ⟨q, 0, none⟩ = some (.slice none 0 0) ∧ (z6).cell? ⟨q, 1, none⟩ = some (.int .i64 x3) ∧ (z6).cell? ⟨q, 2, none⟩ = some (.int .i64 x4) ∧ (z6).cell? ⟨q, 3, none⟩ = some (.slice qa x2 qc) := ⟨xt_z6.cell rfl, xt_z6.cell rfl, xt_z6.cell rfl, xt_z6.cell rfl, xq_z6.cell rfl, xq_z6.cell rfl, xq_z6.cell rfl, xq_z6.cell rfl⟩
          refine hK.out _ _ (fun _ => hS) ?_
          clear hK K
          try simp only [Act.put, List.setIfInBounds_toArray, List.set_cons_zero, List.set_cons_succ, List.getElem_toArray, List.getElem_cons_zero, List.getElem_cons_succ]
          refine wpN_step (i := 12) (by kernel_rfl) rfl (fun K hK => ?_)
          go_simp
          refine (copy_k O_z6.out (by have := Hf.out; omega) Hfit.out).mono ?_
          intro e z7 h
          obtain ⟨b9, k9, i9, a9, rfl, hT, hbx⟩ := h
          clear O_z6
          have O_z7 := Lib.hid (hT.weaken (F' := fun _ => True) fun _ _ _ => trivial)
          clear hT
          have xt_z7 := xt_z6.below hbx
          have xq_z7 := xq_z6.below hbx
          have T_z7 := Lib.hid (T_z6.out.bel hbx)
          have Y_z7 := Lib.hid (Y_z6.out.bel hbx)
          have B_z7 := B_z6.trans (hbx.mono B_z6.size)
          clear xt_z6 xq_z6 T_z6 Y_z6 B_z6
          clear hbx
          have hS : (z7).cell? ⟨w.heap.size + 1 + 1, 0, none⟩ = some (.slice pa x1 pc) ∧ (z7).cell? ⟨w.heap.size + 1 + 1, 1, none⟩ = some (.int .i64 x3) ∧ (z7).cell? ⟨w.heap.size + 1 + 1, 2, none⟩ = some (.int .i64 x4) ∧ (z7).cell? ⟨w.heap.size + 1 + 1, 3, none⟩ = some (.slice qa x2 qc) ∧ (z7).cell? ⟨q, 0, none⟩ = some (.slice none 0 0) ∧ (z7).cell? ⟨q, 1, none⟩ = some (.int .i64 x3) ∧ (z7).cell? ⟨q, 2, none⟩ = some (.int .i64 x4) ∧ (z7).cell? ⟨q, 3, none⟩ = some (.slice qa x2 qc) := ⟨xt_z7.cell rfl, xt_z7.cell rfl, xt_z7.cell rfl, xt_z7.cell rfl, xq_z7.cell rfl, xq_z7.cell rfl, xq_z7.cell rfl, xq_z7.cell rfl⟩
          refine hK.out _ _ (fun _ => hS) ?_
          clear hK K
          try simp only [Act.put, List.setIfInBounds_toArray, List.set_cons_zero, List.set_cons_succ, List.getElem_toArray, List.getElem_cons_zero, List.getElem_cons_succ]
          refine wpN_step (i := 13) (by kernel_rfl) rfl (fun K hK => ?_)
          go_simp
          refine (of6_any O_z7.out z7 (by have := Hf.out; omega) (Keep.refl _ _)).mono ?_
          intro e z8 h
          obtain ⟨b9, k9, i9, a9, rfl, hT, hbx⟩ := h
          clear O_z7
          have O_z8 := Lib.hid (hT.weaken (F' := fun _ => True) fun _ _ _ => trivial)
          clear hT
          have xt_z8 := xt_z7.below hbx
          have xq_z8 := xq_z7.below hbx
          have T_z8 := Lib.hid (T_z7.out.bel hbx)
          have Y_z8 := Lib.hid (Y_z7.out.bel hbx)
          have B_z8 := B_z7.trans (hbx.mono B_z7.size)
          clear xt_z7 xq_z7 T_z7 Y_z7 B_z7
          clear hbx
          have hS : (z8).cell? ⟨w.heap.size + 1 + 1, 0, none⟩ = some (.slice pa x1 pc) ∧ (z8).cell? ⟨w.heap.size + 1 + 1, 1, none⟩ = some (.int .i64 x3) ∧ (z8).cell? ⟨w.heap.size + 1 + 1, 2, none⟩ = some (.int .i64 x4) ∧ (z8).cell? ⟨w.heap.size + 1 + 1, 3, none⟩ = some (.slice qa x2 qc) ∧ (z8).cell? ⟨q, 0, none⟩ = some (.slice none 0 0) ∧ (z8).cell? ⟨q, 1, none⟩ = some (.int .i64 x3) ∧ (z8).cell? ⟨q, 2, none⟩ = some (.int .i64 x4) ∧ (z8).cell? ⟨q, 3, none⟩ = some (.slice qa x2 qc) := ⟨xt_z8.cell rfl, xt_z8.cell rfl, xt_z8.cell rfl, xt_z8.cell rfl, xq_z8.cell rfl, xq_z8.cell rfl, xq_z8.cell rfl, xq_z8.cell rfl⟩
          refine hK.out _ _ (fun _ => hS) ?_
          clear hK K
          try simp only [Act.put, List.setIfInBounds_toArray, List.set_cons_zero, List.set_cons_succ, List.getElem_toArray, List.getElem_cons_zero, List.getElem_cons_succ]
          refine wpN_step (i := 15) (by kernel_rfl) rfl (fun K hK => ?_)
          go_simp
          refine (same6_r _ _ _ _ _ _ _ O_z8.out _ _ _ _ _ _ _ T_z8.out z8 (Keep.refl _ _) (Keep.refl _ _)).mono ?_
          intro e z9 h
          obtain ⟨r9, Hq, rfl, hbx⟩ := of_retB' h
          clear h O_z8
          obtain rfl : r9 = true := Hq.out.2 rfl
          clear Hq
          have xt_z9 := xt_z8.below hbx
          have xq_z9 := xq_z8.below hbx
          have T_z9 := Lib.hid (T_z8.out.bel hbx)
          have Y_z9 := Lib.hid (Y_z8.out.bel hbx)
          have B_z9 := B_z8.trans (hbx.mono B_z8.size)
          clear xt_z8 xq_z8 T_z8 Y_z8 B_z8
          clear hbx
          have hS : (z9).cell? ⟨w.heap.size + 1 + 1, 0, none⟩ = some (.slice pa x1 pc) ∧ (z9).cell? ⟨w.heap.size + 1 + 1, 1, none⟩ = some (.int .i64 x3) ∧ (z9).cell? ⟨w.heap.size + 1 + 1, 2, none⟩ = some (.int .i64 x4) ∧ (z9).cell? ⟨w.heap.size + 1 + 1, 3, none⟩ = some (.slice qa x2 qc) ∧ (z9).cell? ⟨q, 0, none⟩ = some (.slice none 0 0) ∧ (z9).cell? ⟨q, 1, none⟩ = some (.int .i64 x3) ∧ (z9).cell? ⟨q, 2, none⟩ = some (.int .i64 x4) ∧ (z9).cell? ⟨q, 3, none⟩ = some (.slice qa x2 qc) := ⟨xt_z9.cell rfl, xt_z9.cell rfl, xt_z9.cell rfl, xt_z9.cell rfl, xq_z9.cell rfl, xq_z9.cell rfl, xq_z9.cell rfl, xq_z9.cell rfl⟩
          refine hK.out _ _ (fun _ => hS) ?_
          clear hK K
          try simp only [Act.put, List.setIfInBounds_toArray, List.set_cons_zero, List.set_cons_succ, List.getElem_toArray, List.getElem_cons_zero, List.getElem_cons_succ]
          refine wpN_take (i := 16) (v := ?v26) rfl (by kernel_rfl) (fun _ _ _ h => h) hS (Or.inl ⟨by rfl, ?hy26⟩) ?hr26
          case hy26 => (intro wS hSw; (try dsimp only at hSw); go_simp; (try with_reducible rfl))
          try simp only [Act.put, List.setIfInBounds_toArray, List.set_cons_zero, List.set_cons_succ, List.getElem_toArray, List.getElem_cons_zero, List.getElem_cons_succ]
          refine wpN_step (i := 17) (by kernel_rfl) rfl (fun K hK => ?_)
          go_simp
          refine hK.out _ _ (fun h => absurd h (by decide)) ?_
          clear hK K
          try simp only [Act.put, List.setIfInBounds_toArray, List.set_cons_zero, List.set_cons_succ, List.getElem_toArray, List.getElem_cons_zero, List.getElem_cons_succ]
          refine wpN_done (by kernel_rfl) ?_
          refine NoPanic.normal ?_
          go_wp2_with fail
          go_ret
          exact ⟨rfl, B_z9⟩
      · skip
        obtain ⟨e3, he3⟩ : ∃ e, (if r = true then X.kind else 0) = e := ⟨_, rfl⟩
        obtain ⟨e4, he4⟩ : ∃ e, (if r = true then X.headIx else 0) = e := ⟨_, rfl⟩
        rw [he3, he4]
        clear he3 he4 Hr
        go_wp2_with fail
        obtain ⟨z0, hz0⟩ : ∃ z0, (v9.alloc (.cells #[.int .i64 e3, .int .i64 e4] 34)).alloc (.cells #[.slice none 0 0, .int .i64 x3, .int .i64 x4, .slice qa x2 qc] 29) = z0 := ⟨_, rfl⟩
        obtain ⟨q, hq⟩ : ∃ q, v9.heap.size + 1 = q := ⟨_, rfl⟩
        have hbx : Below v9.heap.size v9 z0 := by rw [← hz0]; exact ((Below.refl _ _).alloc (Nat.le_refl _) _).alloc (by simp) _
        have xq_z0 : Blk z0 q #[.slice none 0 0, .int .i64 x3, .int .i64 x4, .slice qa x2 qc] 29 := by rw [← hz0]; exact Blk.new _ _ _ (by rw [← hq]; simp)
        try rw [hz0]
        try rw [hq]
        clear hz0 hq c0 c1 c2 c3 h0 h1 hl0 hl1
        have xt_z0 := xt_v9.below hbx
        have T_z0 := Lib.hid (T_v9.out.bel hbx)
        have B_z0 := B_v9.trans (hbx.mono B_v9.size)
        have Y_z0 := Lib.hid (isTm_mk (isSl_nil rpTy (fun _ => True) z0) (T_z0.out.inv.2.2.2) x3 x4)
        clear hbx xh_v9 xo_v9 xt_v9 xp_v9 U_v9 T_v9 X_v9 B_v9
        have HfB : Hid ((Tm.mk [] x3 x4 t.args).full ≤ 150) := by show _ ≤ _; have h := Hf.out.1; cases t; simp [Tm.full, Tm.args, Ty.sizes] at *; omega
        refine wp_region_noPanic (wp_region_need (S := fun w' => w'.cell? ⟨w.heap.size + 1 + 1, 0, none⟩ = some (.slice pa x1 pc) ∧ w'.cell? ⟨w.heap.size + 1 + 1, 1, none⟩ = some (.int .i64 x3) ∧ w'.cell? ⟨w.heap.size + 1 + 1, 2, none⟩ = some (.int .i64 x4) ∧ w'.cell? ⟨w.heap.size + 1 + 1, 3, none⟩ = some (.slice qa x2 qc) ∧ w'.cell? ⟨q, 0, none⟩ = some (.slice none 0 0) ∧ w'.cell? ⟨q, 1, none⟩ = some (.int .i64 x3) ∧ w'.cell? ⟨q, 2, none⟩ = some (.int .i64 x4) ∧ w'.cell? ⟨q, 3, none⟩ = some (.slice qa x2 qc)) (by kernel_rfl) ?_)
        have hS : (z0.drew).cell? ⟨w.heap.size + 1 + 1, 0, none⟩ = some (.slice pa x1 pc) ∧ (z0.drew).cell? ⟨w.heap.size + 1 + 1, 1, none⟩ = some (.int .i64 x3) ∧ (z0.drew).cell? ⟨w.heap.size + 1 + 1, 2, none⟩ = some (.int .i64 x4) ∧ (z0.drew).cell? ⟨w.heap.size + 1 + 1, 3, none⟩ = some (.slice qa x2 qc) ∧ (z0.drew).cell? ⟨q, 0, none⟩ = some (.slice none 0 0) ∧ (z0.drew).cell? ⟨q, 1, none⟩ = some (.int .i64 x3) ∧ (z0.drew).cell? ⟨q, 2, none⟩ = some (.int .i64 x4) ∧ (z0.drew).cell? ⟨q, 3, none⟩ = some (.slice qa x2 qc) := ⟨xt_z0.drew.cell rfl, xt_z0.drew.cell rfl, xt_z0.drew.cell rfl, xt_z0.drew.cell rfl, xq_z0.drew.cell rfl, xq_z0.drew.cell rfl, xq_z0.drew.cell rfl, xq_z0.drew.cell rfl⟩
        refine wpN_step (i := 0) (by kernel_rfl) rfl (fun K hK => ?_)
        go_simp
        refine (known06 z0.drew).mono ?_
        rintro e z1 ⟨rfl, hbd⟩
        have hbx : Below z0.heap.size z0 z1 := (Below.refl _ _).drew.trans hbd
        clear hbd
        have xt_z1 := xt_z0.below hbx
        have xq_z1 := xq_z0.below hbx
        have T_z1 := Lib.hid (T_z0.out.bel hbx)
        have Y_z1 := Lib.hid (Y_z0.out.bel hbx)
        have B_z1 := B_z0.trans (hbx.mono B_z0.size)
        clear xt_z0 xq_z0 T_z0 Y_z0 B_z0
        clear hbx
        have hS : (z1).cell? ⟨w.heap.size + 1 + 1, 0, none⟩ = some (.slice pa x1 pc) ∧ (z1).cell? ⟨w.heap.size + 1 + 1, 1, none⟩ = some (.int .i64 x3) ∧ (z1).cell? ⟨w.heap.size + 1 + 1, 2, none⟩ = some (.int .i64 x4) ∧ (z1).cell? ⟨w.heap.size + 1 + 1, 3, none⟩ = some (.slice qa x2 qc) ∧ (z1).cell? ⟨q, 0, none⟩ = some (.slice none 0 0) ∧ (z1).cell? ⟨q, 1, none⟩ = some (.int .i64 x3) ∧ (z1).cell? ⟨q, 2, none⟩ = some (.int .i64 x4) ∧ (z1).cell? ⟨q, 3, none⟩ = some (.slice qa x2 qc) := ⟨xt_z1.cell rfl, xt_z1.cell rfl, xt_z1.cell rfl, xt_z1.cell rfl, xq_z1.cell rfl, xq_z1.cell rfl, xq_z1.cell rfl, xq_z1.cell rfl⟩
        refine hK.out _ _ (fun _ => hS) ?_
        clear hK K
        try simp only [Act.put, List.setIfInBounds_toArray, List.set_cons_zero, List.set_cons_succ, List.getElem_toArray, List.getElem_cons_zero, List.getElem_cons_succ]
        refine wpN_take (i := 1) (v := ?v27) rfl (by kernel_rfl) (fun _ _ _ h => h) hS (Or.inl ⟨by rfl, ?hy27⟩) ?hr27
        case hy27 => (intro wS hSw; (try dsimp only at hSw); go_simp; (try with_reducible rfl))
        try simp only [Act.put, List.setIfInBounds_toArray, List.set_cons_zero, List.set_cons_succ, List.getElem_toArray, List.getElem_cons_zero, List.getElem_cons_succ]
        refine wpN_take (i := 2) (v := ?v28) rfl (by kernel_rfl) (fun _ _ _ h => h) hS (Or.inl ⟨by rfl, ?hy28⟩) ?hr28
        case hy28 => (intro wS hSw; (try dsimp only at hSw); go_simp; (try with_reducible rfl))
        try simp only [Act.put, List.setIfInBounds_toArray, List.set_cons_zero, List.set_cons_succ, List.getElem_toArray, List.getElem_cons_zero, List.getElem_cons_succ]
        refine wpN_take (i := 6) (v := ?v29) rfl (by kernel_rfl) (fun _ _ _ h => h) hS (Or.inl ⟨by rfl, ?hy29⟩) ?hr29
        case hy29 => (intro wS hSw; (try dsimp only at hSw); go_simp; (try with_reducible rfl))
        try simp only [Act.put, List.setIfInBounds_toArray, List.set_cons_zero, List.set_cons_succ, List.getElem_toArray, List.getElem_cons_zero, List.getElem_cons_succ]
        refine wpN_step (i := 3) (by kernel_rfl) rfl (fun K hK => ?_)
        go_simp
        refine (to6_any T_z1.out z1 (by have := Hf.out; omega) (Keep.refl _ _)).mono ?_
        intro e z2 h
        obtain ⟨b9, k9, i9, a9, rfl, hT, hbx⟩ := h
        have O_z2 := Lib.hid (hT.weaken (F' := fun _ => True) fun _ _ _ => trivial)
        clear hT
        have xt_z2 := xt_z1.below hbx
        have xq_z2 := xq_z1.below hbx
        have T_z2 := Lib.hid (T_z1.out.bel hbx)
        have Y_z2 := Lib.hid (Y_z1.out.bel hbx)
        have B_z2 := B_z1.trans (hbx.mono B_z1.size)
        clear xt_z1 xq_z1 T_z1 Y_z1 B_z1
        clear hbx
        have hS : (z2).cell? ⟨w.heap.size + 1 + 1, 0, none⟩ = some (.slice pa x1 pc) ∧ (z2).cell? ⟨w.heap.size + 1 + 1, 1, none⟩ = some (.int .i64 x3) ∧ (z2).cell? ⟨w.heap.size + 1 + 1, 2, none⟩ = some (.int .i64 x4) ∧ (z2).cell? ⟨w.heap.size + 1 + 1, 3, none⟩ = some (.slice qa x2 qc) ∧ (z2).cell? ⟨q, 0, none⟩ = some (.slice none 0 0) ∧ (z2).cell? ⟨q, 1, none⟩ = some (.int .i64 x3) ∧ (z2).cell? ⟨q, 2, none⟩ = some (.int .i64 x4) ∧ (z2).cell? ⟨q, 3, none⟩ = some (.slice qa x2 qc) := ⟨xt_z2.cell rfl, xt_z2.cell rfl, xt_z2.cell rfl, xt_z2.cell rfl, xq_z2.cell rfl, xq_z2.cell rfl, xq_z2.cell rfl, xq_z2.cell rfl⟩
        refine hK.out _ _ (fun _ => hS) ?_
        clear hK K
        try simp only [Act.put, List.setIfInBounds_toArray, List.set_cons_zero, List.set_cons_succ, List.getElem_toArray, List.getElem_cons_zero, List.getElem_cons_succ]
        refine wpN_step (i := 4) (by kernel_rfl) rfl (fun K hK => ?_)
        go_simp
        refine (body_k O_z2.out (by have := Hf.out; omega) Hfit.out).mono ?_
        intro e z3 h
        obtain ⟨b9, k9, i9, a9, rfl, hT, hbx⟩ := h
        rw [Hx3.out, Hx4.out] at hT
        clear O_z2
        have O_z3 := Lib.hid (hT.weaken (F' := fun _ => True) fun _ _ _ => trivial)
        clear hT
        have xt_z3 := xt_z2.below hbx
        have xq_z3 := xq_z2.below hbx
        have T_z3 := Lib.hid (T_z2.out.bel hbx)
        have Y_z3 := Lib.hid (Y_z2.out.bel hbx)
        have B_z3 := B_z2.trans (hbx.mono B_z2.size)
        clear xt_z2 xq_z2 T_z2 Y_z2 B_z2
        clear hbx
        have hS : (z3).cell? ⟨w.heap.size + 1 + 1, 0, none⟩ = some (.slice pa x1 pc) ∧ (z3).cell? ⟨w.heap.size + 1 + 1, 1, none⟩ = some (.int .i64 x3) ∧ (z3).cell? ⟨w.heap.size + 1 + 1, 2, none⟩ = some (.int .i64 x4) ∧ (z3).cell? ⟨w.heap.size + 1 + 1, 3, none⟩ = some (.slice qa x2 qc) ∧ (z3).cell? ⟨q, 0, none⟩ = some (.slice none 0 0) ∧ (z3).cell? ⟨q, 1, none⟩ = some (.int .i64 x3) ∧ (z3).cell? ⟨q, 2, none⟩ = some (.int .i64 x4) ∧ (z3).cell? ⟨q, 3, none⟩ = some (.slice qa x2 qc) := ⟨xt_z3.cell rfl, xt_z3.cell rfl, xt_z3.cell rfl, xt_z3.cell rfl, xq_z3.cell rfl, xq_z3.cell rfl, xq_z3.cell rfl, xq_z3.cell rfl⟩
        refine hK.out _ _ (fun _ => hS) ?_
        clear hK K
        try simp only [Act.put, List.setIfInBounds_toArray, List.set_cons_zero, List.set_cons_succ, List.getElem_toArray, List.getElem_cons_zero, List.getElem_cons_succ]
        refine wpN_step (i := 5) (by kernel_rfl) rfl (fun K hK => ?_)
        go_simp
        refine (of6_any O_z3.out z3 (by have := HfB.out; omega) (Keep.refl _ _)).mono ?_
        intro e z4 h
        obtain ⟨b9, k9, i9, a9, rfl, hT, hbx⟩ := h
        clear O_z3
        have O_z4 := Lib.hid (hT.weaken (F' := fun _ => True) fun _ _ _ => trivial)
        clear hT
        have xt_z4 := xt_z3.below hbx
        have xq_z4 := xq_z3.below hbx
        have T_z4 := Lib.hid (T_z3.out.bel hbx)
        have Y_z4 := Lib.hid (Y_z3.out.bel hbx)
        have B_z4 := B_z3.trans (hbx.mono B_z3.size)
        clear xt_z3 xq_z3 T_z3 Y_z3 B_z3
        clear hbx
        have hS : (z4).cell? ⟨w.heap.size + 1 + 1, 0, none⟩ = some (.slice pa x1 pc) ∧ (z4).cell? ⟨w.heap.size + 1 + 1, 1, none⟩ = some (.int .i64 x3) ∧ (z4).cell? ⟨w.heap.size + 1 + 1, 2, none⟩ = some (.int .i64 x4) ∧ (z4).cell? ⟨w.heap.size + 1 + 1, 3, none⟩ = some (.slice qa x2 qc) ∧ (z4).cell? ⟨q, 0, none⟩ = some (.slice none 0 0) ∧ (z4).cell? ⟨q, 1, none⟩ = some (.int .i64 x3) ∧ (z4).cell? ⟨q, 2, none⟩ = some (.int .i64 x4) ∧ (z4).cell? ⟨q, 3, none⟩ = some (.slice qa x2 qc) := ⟨xt_z4.cell rfl, xt_z4.cell rfl, xt_z4.cell rfl, xt_z4.cell rfl, xq_z4.cell rfl, xq_z4.cell rfl, xq_z4.cell rfl, xq_z4.cell rfl⟩
        refine hK.out _ _ (fun _ => hS) ?_
        clear hK K
        try simp only [Act.put, List.setIfInBounds_toArray, List.set_cons_zero, List.set_cons_succ, List.getElem_toArray, List.getElem_cons_zero, List.getElem_cons_succ]
        refine wpN_step (i := 7) (by kernel_rfl) rfl (fun K hK => ?_)
        go_simp
        refine (same6_r _ _ _ _ _ _ _ O_z4.out _ _ _ _ _ _ _ Y_z4.out z4 (Keep.refl _ _) (Keep.refl _ _)).mono ?_
        intro e z5 h
        obtain ⟨r9, Hq, rfl, hbx⟩ := of_retB' h
        clear h O_z4
        obtain rfl : r9 = true := Hq.out.2 rfl
        clear Hq
        have xt_z5 := xt_z4.below hbx
        have xq_z5 := xq_z4.below hbx
        have T_z5 := Lib.hid (T_z4.out.bel hbx)
        have Y_z5 := Lib.hid (Y_z4.out.bel hbx)
        have B_z5 := B_z4.trans (hbx.mono B_z4.size)
        clear xt_z4 xq_z4 T_z4 Y_z4 B_z4
        clear hbx
        have hS : (z5).cell? ⟨w.heap.size + 1 + 1, 0, none⟩ = some (.slice pa x1 pc) ∧ (z5).cell? ⟨w.heap.size + 1 + 1, 1, none⟩ = some (.int .i64 x3) ∧ (z5).cell? ⟨w.heap.size + 1 + 1, 2, none⟩ = some (.int .i64 x4) ∧ (z5).cell? ⟨w.heap.size + 1 + 1, 3, none⟩ = some (.slice qa x2 qc) ∧ (z5).cell? ⟨q, 0, none⟩ = some (.slice none 0 0) ∧ (z5).cell? ⟨q, 1, none⟩ = some (.int .i64 x3) ∧ (z5).cell? ⟨q, 2, none⟩ = some (.int .i64 x4) ∧ (z5).cell? ⟨q, 3, none⟩ = some (.slice qa x2 qc) := ⟨xt_z5.cell rfl, xt_z5.cell rfl, xt_z5.cell rfl, xt_z5.cell rfl, xq_z5.cell rfl, xq_z5.cell rfl, xq_z5.cell rfl, xq_z5.cell rfl⟩
        refine hK.out _ _ (fun _ => hS) ?_
        clear hK K
        try simp only [Act.put, List.setIfInBounds_toArray, List.set_cons_zero, List.set_cons_succ, List.getElem_toArray, List.getElem_cons_zero, List.getElem_cons_succ]
        refine wpN_take (i := 8) (v := ?v30) rfl (by kernel_rfl) (fun _ _ _ h => h) hS (Or.inl ⟨by rfl, ?hy30⟩) ?hr30
        case hy30 => (intro wS hSw; (try dsimp only at hSw); go_simp; (try with_reducible rfl))
        try simp only [Act.put, List.setIfInBounds_toArray, List.set_cons_zero, List.set_cons_succ, List.getElem_toArray, List.getElem_cons_zero, List.getElem_cons_succ]
        refine wpN_take (i := 9) (v := ?v31) rfl (by kernel_rfl) (fun _ _ _ h => h) hS (Or.inl ⟨by rfl, ?hy31⟩) ?hr31
        case hy31 => (intro wS hSw; (try dsimp only at hSw); go_simp; (try with_reducible rfl))
        try simp only [Act.put, List.setIfInBounds_toArray, List.set_cons_zero, List.set_cons_succ, List.getElem_toArray, List.getElem_cons_zero, List.getElem_cons_succ]
        refine wpN_take (i := 10) (v := ?v32) rfl (by kernel_rfl) (fun _ _ _ h => h) hS (Or.inl ⟨by rfl, ?hy32⟩) ?hr32
        case hy32 => (intro wS hSw; (try dsimp only at hSw); go_simp; (try with_reducible rfl))
        try simp only [Act.put, List.setIfInBounds_toArray, List.set_cons_zero, List.set_cons_succ, List.getElem_toArray, List.getElem_cons_zero, List.getElem_cons_succ]
        refine wpN_take (i := 14) (v := ?v33) rfl (by kernel_rfl) (fun _ _ _ h => h) hS (Or.inl ⟨by rfl, ?hy33⟩) ?hr33
        case hy33 => (intro wS hSw; (try dsimp only at hSw); go_simp; (try with_reducible rfl))
        try simp only [Act.put, List.setIfInBounds_toArray, List.set_cons_zero, List.set_cons_succ, List.getElem_toArray, List.getElem_cons_zero, List.getElem_cons_succ]
        refine wpN_step (i := 11) (by kernel_rfl) rfl (fun K hK => ?_)
        go_simp
        refine (to6_any T_z5.out z5 (by have := Hf.out; omega) (Keep.refl _ _)).mono ?_
        intro e z6 h
        obtain ⟨b9, k9, i9, a9, rfl, hT, hbx⟩ := h
        have O_z6 := Lib.hid (hT.weaken (F' := fun _ => True) fun _ _ _ => trivial)
        clear hT
        have xt_z6 := xt_z5.below hbx
        have xq_z6 := xq_z5.below hbx
        have T_z6 := Lib.hid (T_z5.out.bel hbx)
        have Y_z6 := Lib.hid (Y_z5.out.bel hbx)
        have B_z6 := B_z5.trans (hbx.mono B_z5.size)
        clear xt_z5 xq_z5 T_z5 Y_z5 B_z5
        clear hbx
        have hS : (z6).cell? ⟨w.heap.size + 1 + 1, 0, none⟩ = some (.slice pa x1 pc) ∧ (z6).cell? ⟨w.heap.size + 1 + 1, 1, none⟩ = some (.int .i64 x3) ∧ (z6).cell? ⟨w.heap.size + 1 + 1, 2, none⟩ = some (.int .i64 x4) ∧ (z6).cell? ⟨w.heap.size + 1 + 1, 3, none⟩ = some (.slice qa x2 qc) ∧ (z6).cell? ⟨q, 0, none⟩ = some (.slice none 0 0) ∧ (z6).cell? ⟨q, 1, none⟩ = some (.int .i64 x3) ∧ (z6).cell? ⟨q, 2, none⟩ = some (.int .i64 x4) ∧ (z6).cell? ⟨q, 3, none⟩ = some (.slice qa x2 qc) := ⟨xt_z6.cell rfl, xt_z6.cell rfl, xt_z6.cell rfl, xt_z6.cell rfl, xq_z6.cell rfl, xq_z6.cell rfl, xq_z6.cell rfl, xq_z6.cell rfl⟩
        refine hK.out _ _ (fun _ => hS) ?_
        clear hK K
        try simp only [Act.put, List.setIfInBounds_toArray, List.set_cons_zero, List.set_cons_succ, List.getElem_toArray, List.getElem_cons_zero, List.getElem_cons_succ]
        refine wpN_step (i := 12) (by kernel_rfl) rfl (fun K hK => ?_)
        go_simp
        refine (copy_k O_z6.out (by have := Hf.out; omega) Hfit.out).mono ?_
        intro e z7 h
        obtain ⟨b9, k9, i9, a9, rfl, hT, hbx⟩ := h
        clear O_z6
        have O_z7 := Lib.hid (hT.weaken (F' := fun _ => True) fun _ _ _ => trivial)
        clear hT
        have xt_z7 := xt_z6.below hbx
        have xq_z7 := xq_z6.below hbx
        have T_z7 := Lib.hid (T_z6.out.bel hbx)
        have Y_z7 := Lib.hid (Y_z6.out.bel hbx)
        have B_z7 := B_z6.trans (hbx.mono B_z6.size)
        clear xt_z6 xq_z6 T_z6 Y_z6 B_z6
        clear hbx
        have hS : (z7).cell? ⟨w.heap.size + 1 + 1, 0, none⟩ = some (.slice pa x1 pc) ∧ (z7).cell? ⟨w.heap.size + 1 + 1, 1, none⟩ = some (.int .i64 x3) ∧ (z7).cell? ⟨w.heap.size + 1 + 1, 2, none⟩ = some (.int .i64 x4) ∧ (z7).cell? ⟨w.heap.size + 1 + 1, 3, none⟩ = some (.slice qa x2 qc) ∧ (z7).cell? ⟨q, 0, none⟩ = some (.slice none 0 0) ∧ (z7).cell? ⟨q, 1, none⟩ = some (.int .i64 x3) ∧ (z7).cell? ⟨q, 2, none⟩ = some (.int .i64 x4) ∧ (z7).cell? ⟨q, 3, none⟩ = some (.slice qa x2 qc) := ⟨xt_z7.cell rfl, xt_z7.cell rfl, xt_z7.cell rfl, xt_z7.cell rfl, xq_z7.cell rfl, xq_z7.cell rfl, xq_z7.cell rfl, xq_z7.cell rfl⟩
        refine hK.out _ _ (fun _ => hS) ?_
        clear hK K
        try simp only [Act.put, List.setIfInBounds_toArray, List.set_cons_zero, List.set_cons_succ, List.getElem_toArray, List.getElem_cons_zero, List.getElem_cons_succ]
        refine wpN_step (i := 13) (by kernel_rfl) rfl (fun K hK => ?_)
        go_simp
        refine (of6_any O_z7.out z7 (by have := Hf.out; omega) (Keep.refl _ _)).mono ?_
        intro e z8 h
        obtain ⟨b9, k9, i9, a9, rfl, hT, hbx⟩ := h
        clear O_z7
        have O_z8 := Lib.hid (hT.weaken (F' := fun _ => True) fun _ _ _ => trivial)
        clear hT
        have xt_z8 := xt_z7.below hbx
        have xq_z8 := xq_z7.below hbx
        have T_z8 := Lib.hid (T_z7.out.bel hbx)
        have Y_z8 := Lib.hid (Y_z7.out.bel hbx)
        have B_z8 := B_z7.trans (hbx.mono B_z7.size)
        clear xt_z7 xq_z7 T_z7 Y_z7 B_z7
        clear hbx
        have hS : (z8).cell? ⟨w.heap.size + 1 + 1, 0, none⟩ = some (.slice pa x1 pc) ∧ (z8).cell? ⟨w.heap.size + 1 + 1, 1, none⟩ = some (.int .i64 x3) ∧ (z8).cell? ⟨w.heap.size + 1 + 1, 2, none⟩ = some (.int .i64 x4) ∧ (z8).cell? ⟨w.heap.size + 1 + 1, 3, none⟩ = some (.slice qa x2 qc) ∧ (z8).cell? ⟨q, 0, none⟩ = some (.slice none 0 0) ∧ (z8).cell? ⟨q, 1, none⟩ = some (.int .i64 x3) ∧ (z8).cell? ⟨q, 2, none⟩ = some (.int .i64 x4) ∧ (z8).cell? ⟨q, 3, none⟩ = some (.slice qa x2 qc) := ⟨xt_z8.cell rfl, xt_z8.cell rfl, xt_z8.cell rfl, xt_z8.cell rfl, xq_z8.cell rfl, xq_z8.cell rfl, xq_z8.cell rfl, xq_z8.cell rfl⟩
        refine hK.out _ _ (fun _ => hS) ?_
        clear hK K
        try simp only [Act.put, List.setIfInBounds_toArray, List.set_cons_zero, List.set_cons_succ, List.getElem_toArray, List.getElem_cons_zero, List.getElem_cons_succ]
        refine wpN_step (i := 15) (by kernel_rfl) rfl (fun K hK => ?_)
        go_simp
        refine (same6_r _ _ _ _ _ _ _ O_z8.out _ _ _ _ _ _ _ T_z8.out z8 (Keep.refl _ _) (Keep.refl _ _)).mono ?_
        intro e z9 h
        obtain ⟨r9, Hq, rfl, hbx⟩ := of_retB' h
        clear h O_z8
        obtain rfl : r9 = true := Hq.out.2 rfl
        clear Hq
        have xt_z9 := xt_z8.below hbx
        have xq_z9 := xq_z8.below hbx
        have T_z9 := Lib.hid (T_z8.out.bel hbx)
        have Y_z9 := Lib.hid (Y_z8.out.bel hbx)
        have B_z9 := B_z8.trans (hbx.mono B_z8.size)
        clear xt_z8 xq_z8 T_z8 Y_z8 B_z8
        clear hbx
        have hS : (z9).cell? ⟨w.heap.size + 1 + 1, 0, none⟩ = some (.slice pa x1 pc) ∧ (z9).cell? ⟨w.heap.size + 1 + 1, 1, none⟩ = some (.int .i64 x3) ∧ (z9).cell? ⟨w.heap.size + 1 + 1, 2, none⟩ = some (.int .i64 x4) ∧ (z9).cell? ⟨w.heap.size + 1 + 1, 3, none⟩ = some (.slice qa x2 qc) ∧ (z9).cell? ⟨q, 0, none⟩ = some (.slice none 0 0) ∧ (z9).cell? ⟨q, 1, none⟩ = some (.int .i64 x3) ∧ (z9).cell? ⟨q, 2, none⟩ = some (.int .i64 x4) ∧ (z9).cell? ⟨q, 3, none⟩ = some (.slice qa x2 qc) := ⟨xt_z9.cell rfl, xt_z9.cell rfl, xt_z9.cell rfl, xt_z9.cell rfl, xq_z9.cell rfl, xq_z9.cell rfl, xq_z9.cell rfl, xq_z9.cell rfl⟩
        refine hK.out _ _ (fun _ => hS) ?_
        clear hK K
        try simp only [Act.put, List.setIfInBounds_toArray, List.set_cons_zero, List.set_cons_succ, List.getElem_toArray, List.getElem_cons_zero, List.getElem_cons_succ]
        refine wpN_take (i := 16) (v := ?v34) rfl (by kernel_rfl) (fun _ _ _ h => h) hS (Or.inl ⟨by rfl, ?hy34⟩) ?hr34
        case hy34 => (intro wS hSw; (try dsimp only at hSw); go_simp; (try with_reducible rfl))
        try simp only [Act.put, List.setIfInBounds_toArray, List.set_cons_zero, List.set_cons_succ, List.getElem_toArray, List.getElem_cons_zero, List.getElem_cons_succ]
        refine wpN_step (i := 17) (by kernel_rfl) rfl (fun K hK => ?_)
        go_simp
        refine hK.out _ _ (fun h => absurd h (by decide)) ?_
        clear hK K
        try simp only [Act.put, List.setIfInBounds_toArray, List.set_cons_zero, List.set_cons_succ, List.getElem_toArray, List.getElem_cons_zero, List.getElem_cons_succ]
        refine wpN_done (by kernel_rfl) ?_
        refine NoPanic.normal ?_
        go_wp2_with fail
        go_ret
        exact ⟨rfl, B_z9⟩
    · have hgood : k ≠ 0 ∨ (0 ≤ i ∧ i ≤ 1000) := .inl hk
      have hk0 : (k == 0) = false := by simpa using hk
      have hk0' : (k != 0) = true := by simpa using hk
      obtain rfl : r = true := Hr.out.2 (by rw [← HX.out]; exact (long_Eta u k i hgood).1)
      simp only [if_true]
      rw [show X.kind = k by rw [← HX.out]; exact (long_Eta u k i hgood).2.1, show X.headIx = i by rw [← HX.out]; exact (long_Eta u k i hgood).2.2]
      clear Hr
      go_wp2_with fail
      obtain ⟨z0, hz0⟩ : ∃ z0, (v9.alloc (.cells #[.int .i64 k, .int .i64 i] 34)).alloc (.cells #[.slice none 0 0, .int .i64 x3, .int .i64 x4, .slice qa x2 qc] 29) = z0 := ⟨_, rfl⟩
      obtain ⟨q, hq⟩ : ∃ q, v9.heap.size + 1 = q := ⟨_, rfl⟩
      have hbx : Below v9.heap.size v9 z0 := by rw [← hz0]; exact ((Below.refl _ _).alloc (Nat.le_refl _) _).alloc (by simp) _
      have xq_z0 : Blk z0 q #[.slice none 0 0, .int .i64 x3, .int .i64 x4, .slice qa x2 qc] 29 := by rw [← hz0]; exact Blk.new _ _ _ (by rw [← hq]; simp)
      try rw [hz0]
      try rw [hq]
      clear hz0 hq c0 c1 c2 c3 h0 h1 hl0 hl1
      have xt_z0 := xt_v9.below hbx
      have T_z0 := Lib.hid (T_v9.out.bel hbx)
      have B_z0 := B_v9.trans (hbx.mono B_v9.size)
      have Y_z0 := Lib.hid (isTm_mk (isSl_nil rpTy (fun _ => True) z0) (T_z0.out.inv.2.2.2) x3 x4)
      clear hbx xh_v9 xo_v9 xt_v9 xp_v9 U_v9 T_v9 X_v9 B_v9
      have HfB : Hid ((Tm.mk [] x3 x4 t.args).full ≤ 150) := by show _ ≤ _; have h := Hf.out.1; cases t; simp [Tm.full, Tm.args, Ty.sizes] at *; omega
      refine wp_region_noPanic (wp_region_need (S := fun w' => w'.cell? ⟨w.heap.size + 1 + 1, 0, none⟩ = some (.slice pa x1 pc) ∧ w'.cell? ⟨w.heap.size + 1 + 1, 1, none⟩ = some (.int .i64 x3) ∧ w'.cell? ⟨w.heap.size + 1 + 1, 2, none⟩ = some (.int .i64 x4) ∧ w'.cell? ⟨w.heap.size + 1 + 1, 3, none⟩ = some (.slice qa x2 qc) ∧ w'.cell? ⟨q, 0, none⟩ = some (.slice none 0 0) ∧ w'.cell? ⟨q, 1, none⟩ = some (.int .i64 x3) ∧ w'.cell? ⟨q, 2, none⟩ = some (.int .i64 x4) ∧ w'.cell? ⟨q, 3, none⟩ = some (.slice qa x2 qc)) (by kernel_rfl) ?_)
      have hS : (z0.drew).cell? ⟨w.heap.size + 1 + 1, 0, none⟩ = some (.slice pa x1 pc) ∧ (z0.drew).cell? ⟨w.heap.size + 1 + 1, 1, none⟩ = some (.int .i64 x3) ∧ (z0.drew).cell? ⟨w.heap.size + 1 + 1, 2, none⟩ = some (.int .i64 x4) ∧ (z0.drew).cell? ⟨w.heap.size + 1 + 1, 3, none⟩ = some (.slice qa x2 qc) ∧ (z0.drew).cell? ⟨q, 0, none⟩ = some (.slice none 0 0) ∧ (z0.drew).cell? ⟨q, 1, none⟩ = some (.int .i64 x3) ∧ (z0.drew).cell? ⟨q, 2, none⟩ = some (.int .i64 x4) ∧ (z0.drew).cell? ⟨q, 3, none⟩ = some (.slice qa x2 qc) := ⟨xt_z0.drew.cell rfl, xt_z0.drew.cell rfl, xt_z0.drew.cell rfl, xt_z0.drew.cell rfl, xq_z0.drew.cell rfl, xq_z0.drew.cell rfl, xq_z0.drew.cell rfl, xq_z0.drew.cell rfl⟩
      refine wpN_step (i := 0) (by kernel_rfl) rfl (fun K hK => ?_)
      go_simp
      refine (known06 z0.drew).mono ?_
      rintro e z1 ⟨rfl, hbd⟩
      have hbx : Below z0.heap.size z0 z1 := (Below.refl _ _).drew.trans hbd
      clear hbd
      have xt_z1 := xt_z0.below hbx
      have xq_z1 := xq_z0.below hbx
      have T_z1 := Lib.hid (T_z0.out.bel hbx)
      have Y_z1 := Lib.hid (Y_z0.out.bel hbx)
      have B_z1 := B_z0.trans (hbx.mono B_z0.size)
      clear xt_z0 xq_z0 T_z0 Y_z0 B_z0
      clear hbx
      have hS : (z1).cell? ⟨w.heap.size + 1 + 1, 0, none⟩ = some (.slice pa x1 pc) ∧ (z1).cell? ⟨w.heap.size + 1 + 1, 1, none⟩ = some (.int .i64 x3) ∧ (z1).cell? ⟨w.heap.size + 1 + 1, 2, none⟩ = some (.int .i64 x4) ∧ (z1).cell? ⟨w.heap.size + 1 + 1, 3, none⟩ = some (.slice qa x2 qc) ∧ (z1).cell? ⟨q, 0, none⟩ = some (.slice none 0 0) ∧ (z1).cell? ⟨q, 1, none⟩ = some (.int .i64 x3) ∧ (z1).cell? ⟨q, 2, none⟩ = some (.int .i64 x4) ∧ (z1).cell? ⟨q, 3, none⟩ = some (.slice qa x2 qc) := ⟨xt_z1.cell rfl, xt_z1.cell rfl, xt_z1.cell rfl, xt_z1.cell rfl, xq_z1.cell rfl, xq_z1.cell rfl, xq_z1.cell rfl, xq_z1.cell rfl⟩
      refine hK.out _ _ (fun _ => hS) ?_
      clear hK K
      try simp only [Act.put, List.setIfInBounds_toArray, List.set_cons_zero, List.set_cons_succ, List.getElem_toArray, List.getElem_cons_zero, List.getElem_cons_succ]
      refine wpN_take (i := 1) (v := ?v35) rfl (by kernel_rfl) (fun _ _ _ h => h) hS (Or.inl ⟨by rfl, ?hy35⟩) ?hr35
      case hy35 => (intro wS hSw; (try dsimp only at hSw); go_simp; (try with_reducible rfl))
      try simp only [Act.put, List.setIfInBounds_toArray, List.set_cons_zero, List.set_cons_succ, List.getElem_toArray, List.getElem_cons_zero, List.getElem_cons_succ]
      refine wpN_take (i := 2) (v := ?v36) rfl (by kernel_rfl) (fun _ _ _ h => h) hS (Or.inl ⟨by rfl, ?hy36⟩) ?hr36
      case hy36 => (intro wS hSw; (try dsimp only at hSw); go_simp; (try with_reducible rfl))
      try simp only [Act.put, List.setIfInBounds_toArray, List.set_cons_zero, List.set_cons_succ, List.getElem_toArray, List.getElem_cons_zero, List.getElem_cons_succ]
      refine wpN_take (i := 6) (v := ?v37) rfl (by kernel_rfl) (fun _ _ _ h => h) hS (Or.inl ⟨by rfl, ?hy37⟩) ?hr37
      case hy37 => (intro wS hSw; (try dsimp only at hSw); go_simp; (try with_reducible rfl))
      try simp only [Act.put, List.setIfInBounds_toArray, List.set_cons_zero, List.set_cons_succ, List.getElem_toArray, List.getElem_cons_zero, List.getElem_cons_succ]
      refine wpN_step (i := 3) (by kernel_rfl) rfl (fun K hK => ?_)
      go_simp
      refine (to6_any T_z1.out z1 (by have := Hf.out; omega) (Keep.refl _ _)).mono ?_
      intro e z2 h
      obtain ⟨b9, k9, i9, a9, rfl, hT, hbx⟩ := h
      have O_z2 := Lib.hid (hT.weaken (F' := fun _ => True) fun _ _ _ => trivial)
      clear hT
      have xt_z2 := xt_z1.below hbx
      have xq_z2 := xq_z1.below hbx
      have T_z2 := Lib.hid (T_z1.out.bel hbx)
      have Y_z2 := Lib.hid (Y_z1.out.bel hbx)
      have B_z2 := B_z1.trans (hbx.mono B_z1.size)
      clear xt_z1 xq_z1 T_z1 Y_z1 B_z1
      clear hbx
      have hS : (z2).cell? ⟨w.heap.size + 1 + 1, 0, none⟩ = some (.slice pa x1 pc) ∧ (z2).cell? ⟨w.heap.size + 1 + 1, 1, none⟩ = some (.int .i64 x3) ∧ (z2).cell? ⟨w.heap.size + 1 + 1, 2, none⟩ = some (.int .i64 x4) ∧ (z2).cell? ⟨w.heap.size + 1 + 1, 3, none⟩ = some (.slice qa x2 qc) ∧ (z2).cell? ⟨q, 0, none⟩ = some (.slice none 0 0) ∧ (z2).cell? ⟨q, 1, none⟩ = some (.int .i64 x3) ∧ (z2).cell? ⟨q, 2, none⟩ = some (.int .i64 x4) ∧ (z2).cell? ⟨q, 3, none⟩ = some (.slice qa x2 qc) := ⟨xt_z2.cell rfl, xt_z2.cell rfl, xt_z2.cell rfl, xt_z2.cell rfl, xq_z2.cell rfl, xq_z2.cell rfl, xq_z2.cell rfl, xq_z2.cell rfl⟩
      refine hK.out _ _ (fun _ => hS) ?_
      clear hK K
      try simp only [Act.put, List.setIfInBounds_toArray, List.set_cons_zero, List.set_cons_succ, List.getElem_toArray, List.getElem_cons_zero, List.getElem_cons_succ]
      refine wpN_step (i := 4) (by kernel_rfl) rfl (fun K hK => ?_)
      go_simp
      refine (body_k O_z2.out (by have := Hf.out; omega) Hfit.out).mono ?_
      intro e z3 h
      obtain ⟨b9, k9, i9, a9, rfl, hT, hbx⟩ := h
      rw [Hx3.out, Hx4.out] at hT
      clear O_z2
      have O_z3 := Lib.hid (hT.weaken (F' := fun _ => True) fun _ _ _ => trivial)
      clear hT
      have xt_z3 := xt_z2.below hbx
      have xq_z3 := xq_z2.below hbx
      have T_z3 := Lib.hid (T_z2.out.bel hbx)
      have Y_z3 := Lib.hid (Y_z2.out.bel hbx)
      have B_z3 := B_z2.trans (hbx.mono B_z2.size)
      clear xt_z2 xq_z2 T_z2 Y_z2 B_z2
      clear hbx
      have hS : (z3).cell? ⟨w.heap.size + 1 + 1, 0, none⟩ = some (.slice pa x1 pc) ∧ (z3).cell? ⟨w.heap.size + 1 + 1, 1, none⟩ = some (.int .i64 x3) ∧ (z3).cell? ⟨w.heap.size + 1 + 1, 2, none⟩ = some (.int .i64 x4) ∧ (z3).cell? ⟨w.heap.size + 1 + 1, 3, none⟩ = some (.slice qa x2 qc) ∧ (z3).cell? ⟨q, 0, none⟩ = some (.slice none 0 0) ∧ (z3).cell? ⟨q, 1, none⟩ = some (.int .i64 x3) ∧ (z3).cell? ⟨q, 2, none⟩ = some (.int .i64 x4) ∧ (z3).cell? ⟨q, 3, none⟩ = some (.slice qa x2 qc) := ⟨xt_z3.cell rfl, xt_z3.cell rfl, xt_z3.cell rfl, xt_z3.cell rfl, xq_z3.cell rfl, xq_z3.cell rfl, xq_z3.cell rfl, xq_z3.cell rfl⟩
      refine hK.out _ _ (fun _ => hS) ?_
      clear hK K
      try simp only [Act.put, List.setIfInBounds_toArray, List.set_cons_zero, List.set_cons_succ, List.getElem_toArray, List.getElem_cons_zero, List.getElem_cons_succ]
      refine wpN_step (i := 5) (by kernel_rfl) rfl (fun K hK => ?_)
      go_simp
      refine (of6_any O_z3.out z3 (by have := HfB.out; omega) (Keep.refl _ _)).mono ?_
      intro e z4 h
      obtain ⟨b9, k9, i9, a9, rfl, hT, hbx⟩ := h
      clear O_z3
      have O_z4 := Lib.hid (hT.weaken (F' := fun _ => True) fun _ _ _ => trivial)
      clear hT
      have xt_z4 := xt_z3.below hbx
      have xq_z4 := xq_z3.below hbx
      have T_z4 := Lib.hid (T_z3.out.bel hbx)
      have Y_z4 := Lib.hid (Y_z3.out.bel hbx)
      have B_z4 := B_z3.trans (hbx.mono B_z3.size)
      clear xt_z3 xq_z3 T_z3 Y_z3 B_z3
      clear hbx
      have hS : (z4).cell? ⟨w.heap.size + 1 + 1, 0, none⟩ = some (.slice pa x1 pc) ∧ (z4).cell? ⟨w.heap.size + 1 + 1, 1, none⟩ = some (.int .i64 x3) ∧ (z4).cell? ⟨w.heap.size + 1 + 1, 2, none⟩ = some (.int .i64 x4) ∧ (z4).cell? ⟨w.heap.size + 1 + 1, 3, none⟩ = some (.slice qa x2 qc) ∧ (z4).cell? ⟨q, 0, none⟩ = some (.slice none 0 0) ∧ (z4).cell? ⟨q, 1, none⟩ = some (.int .i64 x3) ∧ (z4).cell? ⟨q, 2, none⟩ = some (.int .i64 x4) ∧ (z4).cell? ⟨q, 3, none⟩ = some (.slice qa x2 qc) := ⟨xt_z4.cell rfl, xt_z4.cell rfl, xt_z4.cell rfl, xt_z4.cell rfl, xq_z4.cell rfl, xq_z4.cell rfl, xq_z4.cell rfl, xq_z4.cell rfl⟩
      refine hK.out _ _ (fun _ => hS) ?_
      clear hK K
      try simp only [Act.put, List.setIfInBounds_toArray, List.set_cons_zero, List.set_cons_succ, List.getElem_toArray, List.getElem_cons_zero, List.getElem_cons_succ]
      refine wpN_step (i := 7) (by kernel_rfl) rfl (fun K hK => ?_)
      go_simp
      refine (same6_r _ _ _ _ _ _ _ O_z4.out _ _ _ _ _ _ _ Y_z4.out z4 (Keep.refl _ _) (Keep.refl _ _)).mono ?_
      intro e z5 h
      obtain ⟨r9, Hq, rfl, hbx⟩ := of_retB' h
      clear h O_z4
      obtain rfl : r9 = true := Hq.out.2 rfl
      clear Hq
      have xt_z5 := xt_z4.below hbx
      have xq_z5 := xq_z4.below hbx
      have T_z5 := Lib.hid (T_z4.out.bel hbx)
      have Y_z5 := Lib.hid (Y_z4.out.bel hbx)
      have B_z5 := B_z4.trans (hbx.mono B_z4.size)
      clear xt_z4 xq_z4 T_z4 Y_z4 B_z4
      clear hbx
      have hS : (z5).cell? ⟨w.heap.size + 1 + 1, 0, none⟩ = some (.slice pa x1 pc) ∧ (z5).cell? ⟨w.heap.size + 1 + 1, 1, none⟩ = some (.int .i64 x3) ∧ (z5).cell? ⟨w.heap.size + 1 + 1, 2, none⟩ = some (.int .i64 x4) ∧ (z5).cell? ⟨w.heap.size + 1 + 1, 3, none⟩ = some (.slice qa x2 qc) ∧ (z5).cell? ⟨q, 0, none⟩ = some (.slice none 0 0) ∧ (z5).cell? ⟨q, 1, none⟩ = some (.int .i64 x3) ∧ (z5).cell? ⟨q, 2, none⟩ = some (.int .i64 x4) ∧ (z5).cell? ⟨q, 3, none⟩ = some (.slice qa x2 qc) := ⟨xt_z5.cell rfl, xt_z5.cell rfl, xt_z5.cell rfl, xt_z5.cell rfl, xq_z5.cell rfl, xq_z5.cell rfl, xq_z5.cell rfl, xq_z5.cell rfl⟩
      refine hK.out _ _ (fun _ => hS) ?_
      clear hK K
      try simp only [Act.put, List.setIfInBounds_toArray, List.set_cons_zero, List.set_cons_succ, List.getElem_toArray, List.getElem_cons_zero, List.getElem_cons_succ]
      refine wpN_take (i := 8) (v := ?v38) rfl (by kernel_rfl) (fun _ _ _ h => h) hS (Or.inl ⟨by rfl, ?hy38⟩) ?hr38
      case hy38 => (intro wS hSw; (try dsimp only at hSw); go_simp; (try with_reducible rfl))
      try simp only [Act.put, List.setIfInBounds_toArray, List.set_cons_zero, List.set_cons_succ, List.getElem_toArray, List.getElem_cons_zero, List.getElem_cons_succ]
      refine wpN_take (i := 9) (v := ?v39) rfl (by kernel_rfl) (fun _ _ _ h => h) hS (Or.inl ⟨by rfl, ?hy39⟩) ?hr39
      case hy39 => (intro wS hSw; (try dsimp only at hSw); go_simp; (try with_reducible rfl))
      try simp only [Act.put, List.setIfInBounds_toArray, List.set_cons_zero, List.set_cons_succ, List.getElem_toArray, List.getElem_cons_zero, List.getElem_cons_succ]
      refine wpN_take (i := 10) (v := ?v40) rfl (by kernel_rfl) (fun _ _ _ h => h) hS (Or.inl ⟨by rfl, ?hy40⟩) ?hr40
      case hy40 => (intro wS hSw; (try dsimp only at hSw); go_simp; (try with_reducible rfl))
      try simp only [Act.put, List.setIfInBounds_toArray, List.set_cons_zero, List.set_cons_succ, List.getElem_toArray, List.getElem_cons_zero, List.getElem_cons_succ]
      refine wpN_take (i := 14) (v := ?v41) rfl (by kernel_rfl) (fun _ _ _ h => h) hS (Or.inl ⟨by rfl, ?hy41⟩) ?hr41
      case hy41 => (intro wS hSw; (try dsimp only at hSw); go_simp; (try with_reducible rfl))
      try simp only [Act.put, List.setIfInBounds_toArray, List.set_cons_zero, List.set_cons_succ, List.getElem_toArray, List.getElem_cons_zero, List.getElem_cons_succ]
      refine wpN_step (i := 11) (by kernel_rfl) rfl (fun K hK => ?_)
      go_simp
      refine (to6_any T_z5.out z5 (by have := Hf.out; omega) (Keep.refl _ _)).mono ?_
      intro e z6 h
      obtain ⟨b9, k9, i9, a9, rfl, hT, hbx⟩ := h
      have O_z6 := Lib.hid (hT.weaken (F' := fun _ => True) fun _ _ _ => trivial)
      clear hT
      have xt_z6 := xt_z5.below hbx
      have xq_z6 := xq_z5.below hbx
      have T_z6 := Lib.hid (T_z5.out.bel hbx)
      have Y_z6 := Lib.hid (Y_z5.out.bel hbx)
      have B_z6 := B_z5.trans (hbx.mono B_z5.size)
      clear xt_z5 xq_z5 T_z5 Y_z5 B_z5
      clear hbx
      have hS : (z6).cell? ⟨w.heap.size + 1 + 1, 0, none⟩ = some (.slice pa x1 pc) ∧ (z6).cell? ⟨w.heap.size + 1 + 1, 1, none⟩ = some (.int .i64 x3) ∧ (z6).cell? ⟨w.heap.size + 1 + 1, 2, none⟩ = some (.int .i64 x4) ∧ (z6).cell? ⟨w.heap.size + 1 + 1, 3, none⟩ = some (.slice qa x2 qc) ∧ (z6).cell? ⟨q, 0, none⟩ = some (.slice none 0 0) ∧ (z6).cell? ⟨q, 1, none⟩ = some (.int .i64 x3) ∧ (z6).cell? ⟨q, 2, none⟩ = some (.int .i64 x4) ∧ (z6).cell? ⟨q, 3, none⟩ = some (.slice qa x2 qc) := ⟨xt_z6.cell rfl, xt_z6.cell rfl, xt_z6.cell rfl, xt_z6.cell rfl, xq_z6.cell rfl, xq_z6.cell rfl, xq_z6.cell rfl, xq_z6.cell rfl⟩
      refine hK.out _ _ (fun _ => hS) ?_
      clear hK K
      try simp only [Act.put, List.setIfInBounds_toArray, List.set_cons_zero, List.set_cons_succ, List.getElem_toArray, List.getElem_cons_zero, List.getElem_cons_succ]
      refine wpN_step (i := 12) (by kernel_rfl) rfl (fun K hK => ?_)
      go_simp
      refine (copy_k O_z6.out (by have := Hf.out; omega) Hfit.out).mono ?_
      intro e z7 h
      obtain ⟨b9, k9, i9, a9, rfl, hT, hbx⟩ := h
      clear O_z6
      have O_z7 := Lib.hid (hT.weaken (F' := fun _ => True) fun _ _ _ => trivial)
      clear hT
      have xt_z7 := xt_z6.below hbx
      have xq_z7 := xq_z6.below hbx
      have T_z7 := Lib.hid (T_z6.out.bel hbx)
      have Y_z7 := Lib.hid (Y_z6.out.bel hbx)
      have B_z7 := B_z6.trans (hbx.mono B_z6.size)
      clear xt_z6 xq_z6 T_z6 Y_z6 B_z6
      clear hbx
      have hS : (z7).cell? ⟨w.heap.size + 1 + 1, 0, none⟩ = some (.slice pa x1 pc) ∧ (z7).cell? ⟨w.heap.size + 1 + 1, 1, none⟩ = some (.int .i64 x3) ∧ (z7).cell? ⟨w.heap.size + 1 + 1, 2, none⟩ = some (.int .i64 x4) ∧ (z7).cell? ⟨w.heap.size + 1 + 1, 3, none⟩ = some (.slice qa x2 qc) ∧ (z7).cell? ⟨q, 0, none⟩ = some (.slice none 0 0) ∧ (z7).cell? ⟨q, 1, none⟩ = some (.int .i64 x3) ∧ (z7).cell? ⟨q, 2, none⟩ = some (.int .i64 x4) ∧ (z7).cell? ⟨q, 3, none⟩ = some (.slice qa x2 qc) := ⟨xt_z7.cell rfl, xt_z7.cell rfl, xt_z7.cell rfl, xt_z7.cell rfl, xq_z7.cell rfl, xq_z7.cell rfl, xq_z7.cell rfl, xq_z7.cell rfl⟩
      refine hK.out _ _ (fun _ => hS) ?_
      clear hK K
      try simp only [Act.put, List.setIfInBounds_toArray, List.set_cons_zero, List.set_cons_succ, List.getElem_toArray, List.getElem_cons_zero, List.getElem_cons_succ]
      refine wpN_step (i := 13) (by kernel_rfl) rfl (fun K hK => ?_)
      go_simp
      refine (of6_any O_z7.out z7 (by have := Hf.out; omega) (Keep.refl _ _)).mono ?_
      intro e z8 h
      obtain ⟨b9, k9, i9, a9, rfl, hT, hbx⟩ := h
      clear O_z7
      have O_z8 := Lib.hid (hT.weaken (F' := fun _ => True) fun _ _ _ => trivial)
      clear hT
      have xt_z8 := xt_z7.below hbx
      have xq_z8 := xq_z7.below hbx
      have T_z8 := Lib.hid (T_z7.out.bel hbx)
      have Y_z8 := Lib.hid (Y_z7.out.bel hbx)
      have B_z8 := B_z7.trans (hbx.mono B_z7.size)
      clear xt_z7 xq_z7 T_z7 Y_z7 B_z7
      clear hbx
      have hS : (z8).cell? ⟨w.heap.size + 1 + 1, 0, none⟩ = some (.slice pa x1 pc) ∧ (z8).cell? ⟨w.heap.size + 1 + 1, 1, none⟩ = some (.int .i64 x3) ∧ (z8).cell? ⟨w.heap.size + 1 + 1, 2, none⟩ = some (.int .i64 x4) ∧ (z8).cell? ⟨w.heap.size + 1 + 1, 3, none⟩ = some (.slice qa x2 qc) ∧ (z8).cell? ⟨q, 0, none⟩ = some (.slice none 0 0) ∧ (z8).cell? ⟨q, 1, none⟩ = some (.int .i64 x3) ∧ (z8).cell? ⟨q, 2, none⟩ = some (.int .i64 x4) ∧ (z8).cell? ⟨q, 3, none⟩ = some (.slice qa x2 qc) := ⟨xt_z8.cell rfl, xt_z8.cell rfl, xt_z8.cell rfl, xt_z8.cell rfl, xq_z8.cell rfl, xq_z8.cell rfl, xq_z8.cell rfl, xq_z8.cell rfl⟩
      refine hK.out _ _ (fun _ => hS) ?_
      clear hK K
      try simp only [Act.put, List.setIfInBounds_toArray, List.set_cons_zero, List.set_cons_succ, List.getElem_toArray, List.getElem_cons_zero, List.getElem_cons_succ]
      refine wpN_step (i := 15) (by kernel_rfl) rfl (fun K hK => ?_)
      go_simp
      refine (same6_r _ _ _ _ _ _ _ O_z8.out _ _ _ _ _ _ _ T_z8.out z8 (Keep.refl _ _) (Keep.refl _ _)).mono ?_
      intro e z9 h
      obtain ⟨r9, Hq, rfl, hbx⟩ := of_retB' h
      clear h O_z8
      obtain rfl : r9 = true := Hq.out.2 rfl
      clear Hq
      have xt_z9 := xt_z8.below hbx
      have xq_z9 := xq_z8.below hbx
      have T_z9 := Lib.hid (T_z8.out.bel hbx)
      have Y_z9 := Lib.hid (Y_z8.out.bel hbx)
      have B_z9 := B_z8.trans (hbx.mono B_z8.size)
      clear xt_z8 xq_z8 T_z8 Y_z8 B_z8
      clear hbx
      have hS : (z9).cell? ⟨w.heap.size + 1 + 1, 0, none⟩ = some (.slice pa x1 pc) ∧ (z9).cell? ⟨w.heap.size + 1 + 1, 1, none⟩ = some (.int .i64 x3) ∧ (z9).cell? ⟨w.heap.size + 1 + 1, 2, none⟩ = some (.int .i64 x4) ∧ (z9).cell? ⟨w.heap.size + 1 + 1, 3, none⟩ = some (.slice qa x2 qc) ∧ (z9).cell? ⟨q, 0, none⟩ = some (.slice none 0 0) ∧ (z9).cell? ⟨q, 1, none⟩ = some (.int .i64 x3) ∧ (z9).cell? ⟨q, 2, none⟩ = some (.int .i64 x4) ∧ (z9).cell? ⟨q, 3, none⟩ = some (.slice qa x2 qc) := ⟨xt_z9.cell rfl, xt_z9.cell rfl, xt_z9.cell rfl, xt_z9.cell rfl, xq_z9.cell rfl, xq_z9.cell rfl, xq_z9.cell rfl, xq_z9.cell rfl⟩
      refine hK.out _ _ (fun _ => hS) ?_
      clear hK K
      try simp only [Act.put, List.setIfInBounds_toArray, List.set_cons_zero, List.set_cons_succ, List.getElem_toArray, List.getElem_cons_zero, List.getElem_cons_succ]
      refine wpN_take (i := 16) (v := ?v42) rfl (by kernel_rfl) (fun _ _ _ h => h) hS (Or.inl ⟨by rfl, ?hy42⟩) ?hr42
      case hy42 => (intro wS hSw; (try dsimp only at hSw); go_simp; (try with_reducible rfl))
      try simp only [Act.put, List.setIfInBounds_toArray, List.set_cons_zero, List.set_cons_succ, List.getElem_toArray, List.getElem_cons_zero, List.getElem_cons_succ]
      refine wpN_step (i := 17) (by kernel_rfl) rfl (fun K hK => ?_)
      go_simp
      refine hK.out _ _ (fun h => absurd h (by decide)) ?_
      clear hK K
      try simp only [Act.put, List.setIfInBounds_toArray, List.set_cons_zero, List.set_cons_succ, List.getElem_toArray, List.getElem_cons_zero, List.getElem_cons_succ]
      refine wpN_done (by kernel_rfl) ?_
      refine NoPanic.normal ?_
      go_wp2_with fail
      go_ret
      exact ⟨rfl, B_z9⟩
end Go.Proofs.Ytejpgifofkiofaa
