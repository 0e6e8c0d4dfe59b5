/-
  The law KindOrders, stepped through.
-/
import Derived.Test.YtejpgifofkiofaaCmpK
import Derived.Test.YtejpgifofkiofaaParts
import Derived.Test.YtejpgifofkiofaaGather
import Derived.Test.YtejpgifofkiofaaFloat
namespace Go.Proofs.Ytejpgifofkiofaa
open Go.RowKit

theorem isSl_three {w : World} {B : Nat} {E : TypeId} {s1 b1 s2 b2 s3 b3 : Value} {t1 t2 t3 : Ty} (hB : Blk w B #[s1, b1, s2, b2, s3, b3] E) (h1 : IsTy (fun _ => True) w s1 b1 t1) (h2 : IsTy (fun _ => True) w s2 b2 t2) (h3 : IsTy (fun _ => True) w s3 b3 t3) : IsSl rpTy (fun _ => True) w (.slice (some ⟨B, 0, none⟩) 3 3) [t1, t2, t3] :=
  isSl_blk (r := rpTy) (l := [t1, t2, t3]) [[s1, b1], [s2, b2], [s3, b3]] hB rfl rfl (by simp [maxLen]) (fun i hi => by
    match i, hi with
    | 0, _ => exact ⟨_, rfl, _, _, rfl, h1⟩
    | 1, _ => exact ⟨_, rfl, _, _, rfl, h2⟩
    | 2, _ => exact ⟨_, rfl, _, _, rfl, h3⟩)

set_option maxRecDepth 100000 in
set_option maxHeartbeats 4000000 in
theorem kindOrders_walk {w : World} {s1 b1 s2 b2 s3 b3 : Value} {t1 t2 t3 : Ty} (ht1 : IsTy (fun _ => True) w s1 b1 t1) (ht2 : IsTy (fun _ => True) w s2 b2 t2) (ht3 : IsTy (fun _ => True) w s3 b3 t3) :
    Calls Try.prog 9 #[.agg #[s1, b1], .agg #[s2, b2], .agg #[s3, b3]] w fun e w' => e = .returned (.bool true) ∧ Below w.heap.size w w' := by
  obtain ⟨a1, c1, rfl, rfl⟩ := ht1.shape
  obtain ⟨a2, c2, rfl, rfl⟩ := ht2.shape
  obtain ⟨a3, c3, rfl, rfl⟩ := ht3.shape
  obtain ⟨l1, hl1⟩ : ∃ l1, t1.args.length = l1 := ⟨_, rfl⟩
  obtain ⟨d1, hd1⟩ : ∃ d1, t1.base = d1 := ⟨_, rfl⟩
  obtain ⟨l2, hl2⟩ : ∃ l2, t2.args.length = l2 := ⟨_, rfl⟩
  obtain ⟨d2, hd2⟩ : ∃ d2, t2.base = d2 := ⟨_, rfl⟩
  obtain ⟨l3, hl3⟩ : ∃ l3, t3.args.length = l3 := ⟨_, rfl⟩
  obtain ⟨d3, hd3⟩ : ∃ d3, t3.base = d3 := ⟨_, rfl⟩
  rw [hl1, hd1] at ht1 ⊢
  rw [hl2, hd2] at ht2 ⊢
  rw [hl3, hd3] at ht3 ⊢
  have Hl1 := Lib.hid hl1; have Hd1 := Lib.hid hd1
  have Hl2 := Lib.hid hl2; have Hd2 := Lib.hid hd2
  have Hl3 := Lib.hid hl3; have Hd3 := Lib.hid hd3
  clear hl1 hd1 hl2 hd2 hl3 hd3
  have Ht1 := Lib.hid ht1; have Ht2 := Lib.hid ht2; have Ht3 := Lib.hid ht3
  clear ht1 ht2 ht3
  go_enter Try.func9, Try.ntmps9
  go_wp2_with fail
  obtain ⟨w4, hw4⟩ : ∃ w4, (((w.alloc (.cells #[.slice a1 l1 c1, .int .i64 d1] 26)).alloc (.cells #[.slice a2 l2 c2, .int .i64 d2] 26)).alloc (.cells #[.slice a3 l3 c3, .int .i64 d3] 26)).alloc (.cells #[.slice a1 l1 c1, .int .i64 d1, .slice a2 l2 c2, .int .i64 d2, .slice a3 l3 c3, .int .i64 d3] 26) = w4 := ⟨_, rfl⟩
  have B4 : Below w.heap.size w w4 := by rw [← hw4]; exact ((((Below.refl _ _).alloc (Nat.le_refl _) _).alloc (by simp) _).alloc (by simp; omega) _).alloc (by simp; omega) _
  have x1 : Blk w4 w.heap.size #[.slice a1 l1 c1, .int .i64 d1] 26 := by rw [← hw4]; exact (((Blk.new _ _ _ rfl).alloc _).alloc _).alloc _
  have x2 : Blk w4 (w.heap.size + 1) #[.slice a2 l2 c2, .int .i64 d2] 26 := by rw [← hw4]; exact ((Blk.new _ _ _ (by simp)).alloc _).alloc _
  have x3 : Blk w4 (w.heap.size + 1 + 1) #[.slice a3 l3 c3, .int .i64 d3] 26 := by rw [← hw4]; exact (Blk.new _ _ _ (by simp)).alloc _
  have x4 : Blk w4 (w.heap.size + 1 + 1 + 1) #[.slice a1 l1 c1, .int .i64 d1, .slice a2 l2 c2, .int .i64 d2, .slice a3 l3 c3, .int .i64 d3] 26 := by rw [← hw4]; exact Blk.new _ _ _ (by simp)
  rw [hw4]
  clear hw4
  have T1 := Lib.hid (Ht1.out.bel B4)
  have T2 := Lib.hid (Ht2.out.bel B4)
  have T3 := Lib.hid (Ht3.out.bel B4)
  clear Ht1 Ht2 Ht3
  refine (few04 (isSl_three x4 T1.out T2.out T3.out) (by simp)).mono ?_
  rintro e w5 ⟨r, hr, rfl, hb5⟩
  have B5 := B4.trans (hb5.mono B4.size)
  cases r
  · clear hr
    go_wp2_with fail
    refine (known04 w5).mono ?_
    rintro e w6 ⟨rfl, hb6⟩
    go_wp2_with fail
    go_ret
    exact ⟨rfl, B5.trans (hb6.mono B5.size)⟩
  have Hr := Lib.hid (show t1.size ≤ 100 ∧ t2.size ≤ 100 ∧ t3.size ≤ 100 by
    have h := yes_of hr
    exact ⟨(h t1 (by simp)).1, (h t2 (by simp)).1, (h t3 (by simp)).1⟩)
  clear hr
  have X1 := x1.below hb5
  have X2 := x2.below hb5
  have X3 := x3.below hb5
  have T1' := Lib.hid (T1.out.bel hb5)
  have T2' := Lib.hid (T2.out.bel hb5)
  have T3' := Lib.hid (T3.out.bel hb5)
  clear hb5 x1 x2 x3 x4 T1 T2 T3 B4
  have e10 : w5.cell? ⟨w.heap.size, 0, none⟩ = some (.slice a1 l1 c1) := X1.cell rfl
  have e11 : w5.cell? ⟨w.heap.size, 1, none⟩ = some (.int .i64 d1) := X1.cell rfl
  have e20 : w5.cell? ⟨w.heap.size + 1, 0, none⟩ = some (.slice a2 l2 c2) := X2.cell rfl
  have e21 : w5.cell? ⟨w.heap.size + 1, 1, none⟩ = some (.int .i64 d2) := X2.cell rfl
  have e30 : w5.cell? ⟨w.heap.size + 1 + 1, 0, none⟩ = some (.slice a3 l3 c3) := X3.cell rfl
  have e31 : w5.cell? ⟨w.heap.size + 1 + 1, 1, none⟩ = some (.int .i64 d3) := X3.cell rfl
  go_wp2_with fail
  clear e10 e11 e20 e21 e30 e31
  refine wp_region_noPanic (wp_region_need (S := fun w' => w'.cell? ⟨w.heap.size, 0, none⟩ = some (.slice a1 l1 c1) ∧ w'.cell? ⟨w.heap.size, 1, none⟩ = some (.int .i64 d1) ∧ w'.cell? ⟨w.heap.size + 1, 0, none⟩ = some (.slice a2 l2 c2) ∧ w'.cell? ⟨w.heap.size + 1, 1, none⟩ = some (.int .i64 d2) ∧ w'.cell? ⟨w.heap.size + 1 + 1, 0, none⟩ = some (.slice a3 l3 c3) ∧ w'.cell? ⟨w.heap.size + 1 + 1, 1, none⟩ = some (.int .i64 d3)) (by kernel_rfl) ?_)
  have hS : (w5.drew).cell? ⟨w.heap.size, 0, none⟩ = some (.slice a1 l1 c1) ∧ (w5.drew).cell? ⟨w.heap.size, 1, none⟩ = some (.int .i64 d1) ∧ (w5.drew).cell? ⟨w.heap.size + 1, 0, none⟩ = some (.slice a2 l2 c2) ∧ (w5.drew).cell? ⟨w.heap.size + 1, 1, none⟩ = some (.int .i64 d2) ∧ (w5.drew).cell? ⟨w.heap.size + 1 + 1, 0, none⟩ = some (.slice a3 l3 c3) ∧ (w5.drew).cell? ⟨w.heap.size + 1 + 1, 1, none⟩ = some (.int .i64 d3) := ⟨X1.drew.cell rfl, X1.drew.cell rfl, X2.drew.cell rfl, X2.drew.cell rfl, X3.drew.cell rfl, X3.drew.cell rfl⟩
  refine wpN_take (i := 0) (v := ?v1) rfl (by kernel_rfl) (fun _ _ _ h => h) hS (Or.inl ⟨by rfl, ?hy1⟩) ?hr1
  case hy1 => (intro wS hSw; (try dsimp only at hSw); go_simp; (try with_reducible rfl))
  try simp only [Act.put, List.setIfInBounds_toArray, List.set_cons_zero, List.set_cons_succ, List.getElem_toArray, List.getElem_cons_zero, List.getElem_cons_succ]
  refine wpN_takeD [3, 5, 9, 10, 11] (i := 2) (v := ?v2) rfl (by kernel_rfl) (fun _ _ _ h => h) hS (Or.inl ⟨by rfl, ?hy2⟩) ?hr2
  case hy2 => (intro wS hSw; (try dsimp only at hSw); go_simp; (try with_reducible rfl))
  try simp only [Act.put, List.setIfInBounds_toArray, List.set_cons_zero, List.set_cons_succ, List.getElem_toArray, List.getElem_cons_zero, List.getElem_cons_succ]
  refine wpN_takeD [5, 9, 10, 11] (i := 4) (v := ?v3) rfl (by kernel_rfl) (fun _ _ _ h => h) hS (Or.inl ⟨by rfl, ?hy3⟩) ?hr3
  case hy3 => (intro wS hSw; (try dsimp only at hSw); go_simp; (try with_reducible rfl))
  try simp only [Act.put, List.setIfInBounds_toArray, List.set_cons_zero, List.set_cons_succ, List.getElem_toArray, List.getElem_cons_zero, List.getElem_cons_succ]
  refine wpN_gathers [(1, 21), (3, 23), (5, 25), (6, 7), (7, 8), (8, 9)] 3 (fun j v x y w' => match j with
    | 1 => ∃ a c, v = .agg #[.slice a l1 c, .int .i64 d1] ∧ IsTy (fun q => x ≤ q ∧ q < y) w' (.slice a l1 c) (.int .i64 d1) t1
    | 3 => ∃ a c, v = .agg #[.slice a l2 c, .int .i64 d2] ∧ IsTy (fun q => x ≤ q ∧ q < y) w' (.slice a l2 c) (.int .i64 d2) t2
    | 5 => ∃ a c, v = .agg #[.slice a l3 c, .int .i64 d3] ∧ IsTy (fun q => x ≤ q ∧ q < y) w' (.slice a l3 c) (.int .i64 d3) t3
    | _ => v = .pointer (some ⟨x, 0, none⟩) ∧ x < y ∧ Blk w' x #[.slice none 0 0, .int .i64 0] 40) rfl rfl (by kernel_rfl) ?gst hS ?gop ?gend
  case gst =>
    exact fun j v x y wa wb h hb => match j, h with
      | 1, ⟨a, c, e, ht⟩ => ⟨a, c, e, ht.bel hb⟩
      | 3, ⟨a, c, e, ht⟩ => ⟨a, c, e, ht.bel hb⟩
      | 5, ⟨a, c, e, ht⟩ => ⟨a, c, e, ht.bel hb⟩
      | 0, ⟨e, hp, hk⟩ => ⟨e, hp, hk.below hb⟩
      | 2, ⟨e, hp, hk⟩ => ⟨e, hp, hk.below hb⟩
      | 4, ⟨e, hp, hk⟩ => ⟨e, hp, hk.below hb⟩
      | _ + 6, ⟨e, hp, hk⟩ => ⟨e, hp, hk.below hb⟩
  case gop =>
    intro x hx u w' hB' hS'
    obtain ⟨q1, q2, q3, q4, q5, q6⟩ := hS'
    have hbw : Below w5.heap.size w5 w' := (Below.refl _ _).drew.trans hB'
    simp only [List.mem_cons, List.not_mem_nil, or_false] at hx
    rcases hx with rfl | rfl | rfl | rfl | rfl | rfl
    · refine wpOp_step (i := 1) rfl (fun K hK => ?_)
      have hK := Lib.hid hK
      simp only [fills, List.foldl, Act.put, List.setIfInBounds_toArray, List.set_cons_zero, List.set_cons_succ, List.getElem_toArray, List.getElem_cons_zero, List.getElem_cons_succ]
      go_simp
      refine (to_any (T1'.out.bel hbw) w' (by have := Hr.out; omega) (Keep.refl _ _)).mono ?_
      intro e w6 h
      obtain ⟨_, _, rfl, hT, hb6⟩ := h
      obtain ⟨qa, qc, rfl, rfl⟩ := hT.shape
      rw [Hl1.out, Hd1.out] at hT ⊢
      have hKp : Keep (fun _ => True) w' w6 := (Keep.refl _ _).below hb6
      exact hK.out _ _ ⟨_, rfl, ⟨_, _, rfl, hT.weaken fun q h1 h2 => ⟨h2, h1⟩⟩, hb6, hKp _ _ _ trivial q1, hKp _ _ _ trivial q2, hKp _ _ _ trivial q3, hKp _ _ _ trivial q4, hKp _ _ _ trivial q5, hKp _ _ _ trivial q6⟩
    · refine wpOp_step (i := 3) rfl (fun K hK => ?_)
      have hK := Lib.hid hK
      simp only [fills, List.foldl, Act.put, List.setIfInBounds_toArray, List.set_cons_zero, List.set_cons_succ, List.getElem_toArray, List.getElem_cons_zero, List.getElem_cons_succ]
      go_simp
      refine (to_any (T2'.out.bel hbw) w' (by have := Hr.out; omega) (Keep.refl _ _)).mono ?_
      intro e w6 h
      obtain ⟨_, _, rfl, hT, hb6⟩ := h
      obtain ⟨qa, qc, rfl, rfl⟩ := hT.shape
      rw [Hl2.out, Hd2.out] at hT ⊢
      have hKp : Keep (fun _ => True) w' w6 := (Keep.refl _ _).below hb6
      exact hK.out _ _ ⟨_, rfl, ⟨_, _, rfl, hT.weaken fun q h1 h2 => ⟨h2, h1⟩⟩, hb6, hKp _ _ _ trivial q1, hKp _ _ _ trivial q2, hKp _ _ _ trivial q3, hKp _ _ _ trivial q4, hKp _ _ _ trivial q5, hKp _ _ _ trivial q6⟩
    · refine wpOp_step (i := 5) rfl (fun K hK => ?_)
      have hK := Lib.hid hK
      simp only [fills, List.foldl, Act.put, List.setIfInBounds_toArray, List.set_cons_zero, List.set_cons_succ, List.getElem_toArray, List.getElem_cons_zero, List.getElem_cons_succ]
      go_simp
      refine (to_any (T3'.out.bel hbw) w' (by have := Hr.out; omega) (Keep.refl _ _)).mono ?_
      intro e w6 h
      obtain ⟨_, _, rfl, hT, hb6⟩ := h
      obtain ⟨qa, qc, rfl, rfl⟩ := hT.shape
      rw [Hl3.out, Hd3.out] at hT ⊢
      have hKp : Keep (fun _ => True) w' w6 := (Keep.refl _ _).below hb6
      exact hK.out _ _ ⟨_, rfl, ⟨_, _, rfl, hT.weaken fun q h1 h2 => ⟨h2, h1⟩⟩, hb6, hKp _ _ _ trivial q1, hKp _ _ _ trivial q2, hKp _ _ _ trivial q3, hKp _ _ _ trivial q4, hKp _ _ _ trivial q5, hKp _ _ _ trivial q6⟩
    · refine wpOp_step (i := 6) rfl (fun K hK => ?_)
      have hK := Lib.hid hK
      simp only [fills, List.foldl, Act.put, List.setIfInBounds_toArray, List.set_cons_zero, List.set_cons_succ, List.getElem_toArray, List.getElem_cons_zero, List.getElem_cons_succ]
      go_simp
      have hb6 : Below w'.heap.size w' (w'.alloc (.cells #[.slice none 0 0, .int .i64 0] 40)) := (Below.refl _ _).alloc (Nat.le_refl _) _
      have hKp : Keep (fun _ => True) w' (w'.alloc (.cells #[.slice none 0 0, .int .i64 0] 40)) := (Keep.refl _ _).below hb6
      exact hK.out _ _ ⟨_, rfl, ⟨rfl, by simp, Blk.new _ _ _ rfl⟩, hb6, hKp _ _ _ trivial q1, hKp _ _ _ trivial q2, hKp _ _ _ trivial q3, hKp _ _ _ trivial q4, hKp _ _ _ trivial q5, hKp _ _ _ trivial q6⟩
    · refine wpOp_step (i := 7) rfl (fun K hK => ?_)
      have hK := Lib.hid hK
      simp only [fills, List.foldl, Act.put, List.setIfInBounds_toArray, List.set_cons_zero, List.set_cons_succ, List.getElem_toArray, List.getElem_cons_zero, List.getElem_cons_succ]
      go_simp
      have hb6 : Below w'.heap.size w' (w'.alloc (.cells #[.slice none 0 0, .int .i64 0] 40)) := (Below.refl _ _).alloc (Nat.le_refl _) _
      have hKp : Keep (fun _ => True) w' (w'.alloc (.cells #[.slice none 0 0, .int .i64 0] 40)) := (Keep.refl _ _).below hb6
      exact hK.out _ _ ⟨_, rfl, ⟨rfl, by simp, Blk.new _ _ _ rfl⟩, hb6, hKp _ _ _ trivial q1, hKp _ _ _ trivial q2, hKp _ _ _ trivial q3, hKp _ _ _ trivial q4, hKp _ _ _ trivial q5, hKp _ _ _ trivial q6⟩
    · refine wpOp_step (i := 8) rfl (fun K hK => ?_)
      have hK := Lib.hid hK
      simp only [fills, List.foldl, Act.put, List.setIfInBounds_toArray, List.set_cons_zero, List.set_cons_succ, List.getElem_toArray, List.getElem_cons_zero, List.getElem_cons_succ]
      go_simp
      have hb6 : Below w'.heap.size w' (w'.alloc (.cells #[.slice none 0 0, .int .i64 0] 40)) := (Below.refl _ _).alloc (Nat.le_refl _) _
      have hKp : Keep (fun _ => True) w' (w'.alloc (.cells #[.slice none 0 0, .int .i64 0] 40)) := (Keep.refl _ _).below hb6
      exact hK.out _ _ ⟨_, rfl, ⟨rfl, by simp, Blk.new _ _ _ rfl⟩, hb6, hKp _ _ _ trivial q1, hKp _ _ _ trivial q2, hKp _ _ _ trivial q3, hKp _ _ _ trivial q4, hKp _ _ _ trivial q5, hKp _ _ _ trivial q6⟩
  case gend =>
    intro u lo hi w' hΦ hB' hS'
    have hbw : Below w5.heap.size w5 w' := (Below.refl _ _).drew.trans hB'
    obtain ⟨⟨A1, C1, e1, V1⟩, n1, m1, o1⟩ := hΦ.1 1 (by simp) rfl
    obtain ⟨⟨A2, C2, e2, V2⟩, n2, m2, o2⟩ := hΦ.1 3 (by simp) rfl
    obtain ⟨⟨A3, C3, e3, V3⟩, n3, m3, o3⟩ := hΦ.1 5 (by simp) rfl
    obtain ⟨⟨e6, r6, Z6⟩, n6, m6, o6⟩ := hΦ.1 6 (by simp) rfl
    obtain ⟨⟨e7, r7, Z7⟩, n7, m7, o7⟩ := hΦ.1 7 (by simp) rfl
    obtain ⟨⟨e8, r8, Z8⟩, n8, m8, o8⟩ := hΦ.1 8 (by simp) rfl
    have k16 := hΦ.2 1 (by simp) 6 (by simp) rfl rfl (by decide)
    have k17 := hΦ.2 1 (by simp) 7 (by simp) rfl rfl (by decide)
    have k18 := hΦ.2 1 (by simp) 8 (by simp) rfl rfl (by decide)
    have k26 := hΦ.2 3 (by simp) 6 (by simp) rfl rfl (by decide)
    have k27 := hΦ.2 3 (by simp) 7 (by simp) rfl rfl (by decide)
    have k28 := hΦ.2 3 (by simp) 8 (by simp) rfl rfl (by decide)
    have k36 := hΦ.2 5 (by simp) 6 (by simp) rfl rfl (by decide)
    have k37 := hΦ.2 5 (by simp) 7 (by simp) rfl rfl (by decide)
    have k38 := hΦ.2 5 (by simp) 8 (by simp) rfl rfl (by decide)
    have k67 := hΦ.2 6 (by simp) 7 (by simp) rfl rfl (by decide)
    have k68 := hΦ.2 6 (by simp) 8 (by simp) rfl rfl (by decide)
    have k78 := hΦ.2 7 (by simp) 8 (by simp) rfl rfl (by decide)
    clear hΦ
    simp only [fills, List.foldl, Act.put, List.setIfInBounds_toArray, List.set_cons_zero, List.set_cons_succ, List.getElem_toArray, List.getElem_cons_zero, List.getElem_cons_succ]
    rw [e1, e2, e3, e6, e7, e8]
    clear e1 e2 e3 e6 e7 e8
    have hsz : w5.drew.heap.size = w5.heap.size := rfl
    rw [hsz] at n1 n2 n3 n6 n7 n8
    generalize lo 6 = p6 at *
    generalize lo 7 = p7 at *
    generalize lo 8 = p8 at *
    have D67 : p6 ≠ p7 := by omega
    have D68 : p6 ≠ p8 := by omega
    have D78 : p7 ≠ p8 := by omega
    have U1 := Lib.hid (V1.weaken (F' := fun q => q ≠ p6 ∧ q ≠ p7 ∧ q ≠ p8) fun q _ h => ⟨by omega, by omega, by omega⟩)
    have U2 := Lib.hid (V2.weaken (F' := fun q => q ≠ p6 ∧ q ≠ p7 ∧ q ≠ p8) fun q _ h => ⟨by omega, by omega, by omega⟩)
    have U3 := Lib.hid (V3.weaken (F' := fun q => q ≠ p6 ∧ q ≠ p7 ∧ q ≠ p8) fun q _ h => ⟨by omega, by omega, by omega⟩)
    clear V1 V2 V3 k16 k17 k18 k26 k27 k28 k36 k37 k38 k67 k68 k78 n1 n2 n3 m1 m2 m3 o1 o2 o3 m6 m7 m8 r6 r7 r8 o6 o7 o8
    have D67' := Ne.symm D67
    have D68' := Ne.symm D68
    have D78' := Ne.symm D78
    have r60 : w'.cell? ⟨p6, 0, none⟩ = some (.slice none 0 0) := Z6.cell rfl
    have r61 : w'.cell? ⟨p6, 1, none⟩ = some (.int .i64 0) := Z6.cell rfl
    have f60 := Z6.free 0
    have f61 := Z6.free 1
    have r70 : w'.cell? ⟨p7, 0, none⟩ = some (.slice none 0 0) := Z7.cell rfl
    have r71 : w'.cell? ⟨p7, 1, none⟩ = some (.int .i64 0) := Z7.cell rfl
    have f70 := Z7.free 0
    have f71 := Z7.free 1
    have r80 : w'.cell? ⟨p8, 0, none⟩ = some (.slice none 0 0) := Z8.cell rfl
    have r81 : w'.cell? ⟨p8, 1, none⟩ = some (.int .i64 0) := Z8.cell rfl
    have f80 := Z8.free 0
    have f81 := Z8.free 1
    refine wpN_step (i := 9) (by kernel_rfl) rfl (fun K hK => ?_)
    have hK := Lib.hid hK
    simp only [Act.put, List.setIfInBounds_toArray, List.set_cons_zero, List.set_cons_succ, List.getElem_toArray, List.getElem_cons_zero, List.getElem_cons_succ]
    go_simp
    refine hK.out.out _ _ (fun h => absurd h (by decide)) ?_
    refine wpN_step (i := 10) (by kernel_rfl) rfl (fun K hK => ?_)
    have hK := Lib.hid hK
    simp only [Act.put, List.setIfInBounds_toArray, List.set_cons_zero, List.set_cons_succ, List.getElem_toArray, List.getElem_cons_zero, List.getElem_cons_succ]
    go_simp
    refine hK.out.out _ _ (fun h => absurd h (by decide)) ?_
    refine wpN_step (i := 11) (by kernel_rfl) rfl (fun K hK => ?_)
    have hK := Lib.hid hK
    simp only [Act.put, List.setIfInBounds_toArray, List.set_cons_zero, List.set_cons_succ, List.getElem_toArray, List.getElem_cons_zero, List.getElem_cons_succ]
    go_simp
    refine hK.out.out _ _ (fun h => absurd h (by decide)) ?_
    refine wpN_done (by kernel_rfl) ?_
    refine NoPanic.normal ?_
    obtain ⟨w8, hw8⟩ : ∃ w8, ((((((w'.setCell ⟨p6, 0, none⟩ (.slice A1 l1 C1)).setCell ⟨p6, 1, none⟩ (.int .i64 d1)).setCell ⟨p7, 0, none⟩ (.slice A2 l2 C2)).setCell ⟨p7, 1, none⟩ (.int .i64 d2)).setCell ⟨p8, 0, none⟩ (.slice A3 l3 C3)).setCell ⟨p8, 1, none⟩ (.int .i64 d3)) = w8 := ⟨_, rfl⟩
    rw [hw8]
    have B6 := B5.trans (hbw.mono B5.size)
    have L1 := X1.lt; have L2 := X2.lt; have L3 := X3.lt
    have x1 : Blk w8 w.heap.size #[.slice a1 l1 c1, .int .i64 d1] 26 := by rw [← hw8]; exact ((((((X1.below hbw).far _ _ (by simp; omega)).far _ _ (by simp; omega)).far _ _ (by simp; omega)).far _ _ (by simp; omega)).far _ _ (by simp; omega)).far _ _ (by simp; omega)
    have x2 : Blk w8 (w.heap.size + 1) #[.slice a2 l2 c2, .int .i64 d2] 26 := by rw [← hw8]; exact ((((((X2.below hbw).far _ _ (by simp; omega)).far _ _ (by simp; omega)).far _ _ (by simp; omega)).far _ _ (by simp; omega)).far _ _ (by simp; omega)).far _ _ (by simp; omega)
    have x3 : Blk w8 (w.heap.size + 1 + 1) #[.slice a3 l3 c3, .int .i64 d3] 26 := by rw [← hw8]; exact ((((((X3.below hbw).far _ _ (by simp; omega)).far _ _ (by simp; omega)).far _ _ (by simp; omega)).far _ _ (by simp; omega)).far _ _ (by simp; omega)).far _ _ (by simp; omega)
    have y1 : Blk w8 p6 #[.slice A1 l1 C1, .int .i64 d1] 40 := by rw [← hw8]; exact ((((((Z6.set 0 _).set 1 _).far _ _ (by simpa using D67)).far _ _ (by simpa using D67)).far _ _ (by simpa using D68)).far _ _ (by simpa using D68))
    have y2 : Blk w8 p7 #[.slice A2 l2 C2, .int .i64 d2] 40 := by rw [← hw8]; exact ((((((Z7.far _ _ (by simpa using D67')).far _ _ (by simpa using D67')).set 0 _).set 1 _).far _ _ (by simpa using D78)).far _ _ (by simpa using D78))
    have y3 : Blk w8 p8 #[.slice A3 l3 C3, .int .i64 d3] 40 := by rw [← hw8]; exact ((((((Z8.far _ _ (by simpa using D68')).far _ _ (by simpa using D68')).far _ _ (by simpa using D78')).far _ _ (by simpa using D78')).set 0 _).set 1 _)
    have KU : Keep (fun q => q ≠ p6 ∧ q ≠ p7 ∧ q ≠ p8) w' w8 := by
      rw [← hw8]; exact ((((((Keep.refl _ _).setCell _ _ (by simp)).setCell _ _ (by simp)).setCell _ _ (by simp)).setCell _ _ (by simp)).setCell _ _ (by simp)).setCell _ _ (by simp)
    have KT : Keep (fun q => q < w5.heap.size) w5 w8 := by
      rw [← hw8]; exact (((((((Keep.refl _ _).below hbw).setCell _ _ (by simp; omega)).setCell _ _ (by simp; omega)).setCell _ _ (by simp; omega)).setCell _ _ (by simp; omega)).setCell _ _ (by simp; omega)).setCell _ _ (by simp; omega)
    have B8 : Below w.heap.size w w8 := by
      rw [← hw8]; exact (((((B6.setCell (by simp; omega) _).setCell (by simp; omega) _).setCell (by simp; omega) _).setCell (by simp; omega) _).setCell (by simp; omega) _).setCell (by simp; omega) _
    have G1 := Lib.hid ((U1.out.keep KU).weaken (F' := fun _ => True) fun _ _ _ => trivial)
    have G2 := Lib.hid ((U2.out.keep KU).weaken (F' := fun _ => True) fun _ _ _ => trivial)
    have G3 := Lib.hid ((U3.out.keep KU).weaken (F' := fun _ => True) fun _ _ _ => trivial)
    have R1 := Lib.hid (((T1'.out.weaken (F' := fun q => q < w5.heap.size) fun q hq _ => hq).keep KT).weaken (F' := fun _ => True) fun _ _ _ => trivial)
    have R2 := Lib.hid (((T2'.out.weaken (F' := fun q => q < w5.heap.size) fun q hq _ => hq).keep KT).weaken (F' := fun _ => True) fun _ _ _ => trivial)
    have R3 := Lib.hid (((T3'.out.weaken (F' := fun q => q < w5.heap.size) fun q hq _ => hq).keep KT).weaken (F' := fun _ => True) fun _ _ _ => trivial)
    clear hw8 KU KT U1 U2 U3 T1' T2' T3' X1 X2 X3 Z6 Z7 Z8 r60 r61 r70 r71 r80 r81 f60 f61 f70 f71 f80 f81 hbw hB' B6 B5 L1 L2 L3 hS hS' hsz D67 D68 D78 D67' D68' D78' n6 n7 n8
    have e10 : w8.cell? ⟨p6, 0, none⟩ = some (.slice A1 l1 C1) := y1.cell rfl
    have e11 : w8.cell? ⟨p6, 1, none⟩ = some (.int .i64 d1) := y1.cell rfl
    have e20 : w8.cell? ⟨p7, 0, none⟩ = some (.slice A2 l2 C2) := y2.cell rfl
    have e21 : w8.cell? ⟨p7, 1, none⟩ = some (.int .i64 d2) := y2.cell rfl
    have e30 : w8.cell? ⟨p8, 0, none⟩ = some (.slice A3 l3 C3) := y3.cell rfl
    have e31 : w8.cell? ⟨p8, 1, none⟩ = some (.int .i64 d3) := y3.cell rfl
    go_wp2_with fail
    clear e10 e11 e20 e21 e30 e31 x3 R3
    have x1_w8 := x1
    have x2_w8 := x2
    have y1_w8 := y1
    have y2_w8 := y2
    have y3_w8 := y3
    have G1_w8 := G1
    have G2_w8 := G2
    have G3_w8 := G3
    have R1_w8 := R1
    have R2_w8 := R2
    have B_w8 := B8
    clear x1 x2 y1 y2 y3 G1 G2 G3 R1 R2 B8
    refine wp_region_noPanic (wp_region_need (S := fun w' => w'.cell? ⟨w.heap.size, 0, none⟩ = some (.slice a1 l1 c1) ∧ w'.cell? ⟨w.heap.size, 1, none⟩ = some (.int .i64 d1) ∧ w'.cell? ⟨w.heap.size + 1, 0, none⟩ = some (.slice a2 l2 c2) ∧ w'.cell? ⟨w.heap.size + 1, 1, none⟩ = some (.int .i64 d2) ∧ w'.cell? ⟨p6, 0, none⟩ = some (.slice A1 l1 C1) ∧ w'.cell? ⟨p6, 1, none⟩ = some (.int .i64 d1) ∧ w'.cell? ⟨p7, 0, none⟩ = some (.slice A2 l2 C2) ∧ w'.cell? ⟨p7, 1, none⟩ = some (.int .i64 d2) ∧ w'.cell? ⟨p8, 0, none⟩ = some (.slice A3 l3 C3) ∧ w'.cell? ⟨p8, 1, none⟩ = some (.int .i64 d3)) (by kernel_rfl) ?_)
    have hS : (w8.drew).cell? ⟨w.heap.size, 0, none⟩ = some (.slice a1 l1 c1) ∧ (w8.drew).cell? ⟨w.heap.size, 1, none⟩ = some (.int .i64 d1) ∧ (w8.drew).cell? ⟨w.heap.size + 1, 0, none⟩ = some (.slice a2 l2 c2) ∧ (w8.drew).cell? ⟨w.heap.size + 1, 1, none⟩ = some (.int .i64 d2) ∧ (w8.drew).cell? ⟨p6, 0, none⟩ = some (.slice A1 l1 C1) ∧ (w8.drew).cell? ⟨p6, 1, none⟩ = some (.int .i64 d1) ∧ (w8.drew).cell? ⟨p7, 0, none⟩ = some (.slice A2 l2 C2) ∧ (w8.drew).cell? ⟨p7, 1, none⟩ = some (.int .i64 d2) ∧ (w8.drew).cell? ⟨p8, 0, none⟩ = some (.slice A3 l3 C3) ∧ (w8.drew).cell? ⟨p8, 1, none⟩ = some (.int .i64 d3) := ⟨x1_w8.drew.cell rfl, x1_w8.drew.cell rfl, x2_w8.drew.cell rfl, x2_w8.drew.cell rfl, y1_w8.drew.cell rfl, y1_w8.drew.cell rfl, y2_w8.drew.cell rfl, y2_w8.drew.cell rfl, y3_w8.drew.cell rfl, y3_w8.drew.cell rfl⟩
    refine wpN_take (i := 0) (v := ?v4) rfl (by kernel_rfl) (fun _ _ _ h => h) hS (Or.inl ⟨by rfl, ?hy4⟩) ?hr4
    case hy4 => (intro wS hSw; (try dsimp only at hSw); go_simp; (try with_reducible rfl))
    try simp only [Act.put, List.setIfInBounds_toArray, List.set_cons_zero, List.set_cons_succ, List.getElem_toArray, List.getElem_cons_zero, List.getElem_cons_succ]
    refine wpN_take (i := 1) (v := ?v5) rfl (by kernel_rfl) (fun _ _ _ h => h) hS (Or.inl ⟨by rfl, ?hy5⟩) ?hr5
    case hy5 => (intro wS hSw; (try dsimp only at hSw); go_simp; (try with_reducible rfl))
    try simp only [Act.put, List.setIfInBounds_toArray, List.set_cons_zero, List.set_cons_succ, List.getElem_toArray, List.getElem_cons_zero, List.getElem_cons_succ]
    refine wpN_takeD [5, 8, 9, 10, 11] (i := 3) (v := ?v6) rfl (by kernel_rfl) (fun _ _ _ h => h) hS (Or.inl ⟨by rfl, ?hy6⟩) ?hr6
    case hy6 => (intro wS hSw; (try dsimp only at hSw); go_simp; (try with_reducible rfl))
    try simp only [Act.put, List.setIfInBounds_toArray, List.set_cons_zero, List.set_cons_succ, List.getElem_toArray, List.getElem_cons_zero, List.getElem_cons_succ]
    refine wpN_takeD [5, 8, 9, 10, 11] (i := 4) (v := ?v7) rfl (by kernel_rfl) (fun _ _ _ h => h) hS (Or.inl ⟨by rfl, ?hy7⟩) ?hr7
    case hy7 => (intro wS hSw; (try dsimp only at hSw); go_simp; (try with_reducible rfl))
    try simp only [Act.put, List.setIfInBounds_toArray, List.set_cons_zero, List.set_cons_succ, List.getElem_toArray, List.getElem_cons_zero, List.getElem_cons_succ]
    refine wpN_takeD [8, 9, 10, 11] (i := 6) (v := ?v8) rfl (by kernel_rfl) (fun _ _ _ h => h) hS (Or.inl ⟨by rfl, ?hy8⟩) ?hr8
    case hy8 => (intro wS hSw; (try dsimp only at hSw); go_simp; (try with_reducible rfl))
    try simp only [Act.put, List.setIfInBounds_toArray, List.set_cons_zero, List.set_cons_succ, List.getElem_toArray, List.getElem_cons_zero, List.getElem_cons_succ]
    refine wpN_takeD [8, 9, 10, 11] (i := 7) (v := ?v9) rfl (by kernel_rfl) (fun _ _ _ h => h) hS (Or.inl ⟨by rfl, ?hy9⟩) ?hr9
    case hy9 => (intro wS hSw; (try dsimp only at hSw); go_simp; (try with_reducible rfl))
    try simp only [Act.put, List.setIfInBounds_toArray, List.set_cons_zero, List.set_cons_succ, List.getElem_toArray, List.getElem_cons_zero, List.getElem_cons_succ]
    refine wpN_step (i := 2) (by kernel_rfl) rfl (fun K hK => ?_)
    go_simp
    refine (compare_k _ _ _ _ _ G1_w8.out _ _ _ _ _ G2_w8.out w8.drew (Keep.refl _ _).drew (Keep.refl _ _).drew (by have := Hr.out; omega) (by have := Hr.out; omega)).mono ?_
    rintro e v1 ⟨rfl, hbd⟩
    have hbx : Below w8.heap.size w8 v1 := (Below.refl _ _).drew.trans hbd
    clear hbd
    have x1_v1 := x1_w8.below hbx
    have x2_v1 := x2_w8.below hbx
    have y1_v1 := y1_w8.below hbx
    have y2_v1 := y2_w8.below hbx
    have y3_v1 := y3_w8.below hbx
    have G1_v1 := Lib.hid (G1_w8.out.bel hbx)
    have G2_v1 := Lib.hid (G2_w8.out.bel hbx)
    have G3_v1 := Lib.hid (G3_w8.out.bel hbx)
    have R1_v1 := Lib.hid (R1_w8.out.bel hbx)
    have R2_v1 := Lib.hid (R2_w8.out.bel hbx)
    have B_v1 := B_w8.trans (hbx.mono B_w8.size)
    clear x1_w8 x2_w8 y1_w8 y2_w8 y3_w8 G1_w8 G2_w8 G3_w8 R1_w8 R2_w8 B_w8
    clear hbx
    have hS : (v1).cell? ⟨w.heap.size, 0, none⟩ = some (.slice a1 l1 c1) ∧ (v1).cell? ⟨w.heap.size, 1, none⟩ = some (.int .i64 d1) ∧ (v1).cell? ⟨w.heap.size + 1, 0, none⟩ = some (.slice a2 l2 c2) ∧ (v1).cell? ⟨w.heap.size + 1, 1, none⟩ = some (.int .i64 d2) ∧ (v1).cell? ⟨p6, 0, none⟩ = some (.slice A1 l1 C1) ∧ (v1).cell? ⟨p6, 1, none⟩ = some (.int .i64 d1) ∧ (v1).cell? ⟨p7, 0, none⟩ = some (.slice A2 l2 C2) ∧ (v1).cell? ⟨p7, 1, none⟩ = some (.int .i64 d2) ∧ (v1).cell? ⟨p8, 0, none⟩ = some (.slice A3 l3 C3) ∧ (v1).cell? ⟨p8, 1, none⟩ = some (.int .i64 d3) := ⟨x1_v1.cell rfl, x1_v1.cell rfl, x2_v1.cell rfl, x2_v1.cell rfl, y1_v1.cell rfl, y1_v1.cell rfl, y2_v1.cell rfl, y2_v1.cell rfl, y3_v1.cell rfl, y3_v1.cell rfl⟩
    refine hK.out _ _ (fun _ => hS) ?_
    clear hK K
    try simp only [Act.put, List.setIfInBounds_toArray, List.set_cons_zero, List.set_cons_succ, List.getElem_toArray, List.getElem_cons_zero, List.getElem_cons_succ]
    refine wpN_step (i := 5) (by kernel_rfl) rfl (fun K hK => ?_)
    go_simp
    refine (compare_k _ _ _ _ _ G2_v1.out _ _ _ _ _ G3_v1.out v1 (Keep.refl _ _) (Keep.refl _ _) (by have := Hr.out; omega) (by have := Hr.out; omega)).mono ?_
    rintro e v2 ⟨rfl, hbd⟩
    have hbx : Below v1.heap.size v1 v2 := hbd
    clear hbd
    have x1_v2 := x1_v1.below hbx
    have x2_v2 := x2_v1.below hbx
    have y1_v2 := y1_v1.below hbx
    have y2_v2 := y2_v1.below hbx
    have y3_v2 := y3_v1.below hbx
    have G1_v2 := Lib.hid (G1_v1.out.bel hbx)
    have G2_v2 := Lib.hid (G2_v1.out.bel hbx)
    have G3_v2 := Lib.hid (G3_v1.out.bel hbx)
    have R1_v2 := Lib.hid (R1_v1.out.bel hbx)
    have R2_v2 := Lib.hid (R2_v1.out.bel hbx)
    have B_v2 := B_v1.trans (hbx.mono B_v1.size)
    clear x1_v1 x2_v1 y1_v1 y2_v1 y3_v1 G1_v1 G2_v1 G3_v1 R1_v1 R2_v1 B_v1
    clear hbx
    have hS : (v2).cell? ⟨w.heap.size, 0, none⟩ = some (.slice a1 l1 c1) ∧ (v2).cell? ⟨w.heap.size, 1, none⟩ = some (.int .i64 d1) ∧ (v2).cell? ⟨w.heap.size + 1, 0, none⟩ = some (.slice a2 l2 c2) ∧ (v2).cell? ⟨w.heap.size + 1, 1, none⟩ = some (.int .i64 d2) ∧ (v2).cell? ⟨p6, 0, none⟩ = some (.slice A1 l1 C1) ∧ (v2).cell? ⟨p6, 1, none⟩ = some (.int .i64 d1) ∧ (v2).cell? ⟨p7, 0, none⟩ = some (.slice A2 l2 C2) ∧ (v2).cell? ⟨p7, 1, none⟩ = some (.int .i64 d2) ∧ (v2).cell? ⟨p8, 0, none⟩ = some (.slice A3 l3 C3) ∧ (v2).cell? ⟨p8, 1, none⟩ = some (.int .i64 d3) := ⟨x1_v2.cell rfl, x1_v2.cell rfl, x2_v2.cell rfl, x2_v2.cell rfl, y1_v2.cell rfl, y1_v2.cell rfl, y2_v2.cell rfl, y2_v2.cell rfl, y3_v2.cell rfl, y3_v2.cell rfl⟩
    refine hK.out _ _ (fun _ => hS) ?_
    clear hK K
    try simp only [Act.put, List.setIfInBounds_toArray, List.set_cons_zero, List.set_cons_succ, List.getElem_toArray, List.getElem_cons_zero, List.getElem_cons_succ]
    refine wpN_step (i := 8) (by kernel_rfl) rfl (fun K hK => ?_)
    go_simp
    refine (compare_k _ _ _ _ _ G1_v2.out _ _ _ _ _ G3_v2.out v2 (Keep.refl _ _) (Keep.refl _ _) (by have := Hr.out; omega) (by have := Hr.out; omega)).mono ?_
    rintro e v3 ⟨rfl, hbd⟩
    have hbx : Below v2.heap.size v2 v3 := hbd
    clear hbd
    have x1_v3 := x1_v2.below hbx
    have x2_v3 := x2_v2.below hbx
    have y1_v3 := y1_v2.below hbx
    have y2_v3 := y2_v2.below hbx
    have y3_v3 := y3_v2.below hbx
    have G1_v3 := Lib.hid (G1_v2.out.bel hbx)
    have G2_v3 := Lib.hid (G2_v2.out.bel hbx)
    have G3_v3 := Lib.hid (G3_v2.out.bel hbx)
    have R1_v3 := Lib.hid (R1_v2.out.bel hbx)
    have R2_v3 := Lib.hid (R2_v2.out.bel hbx)
    have B_v3 := B_v2.trans (hbx.mono B_v2.size)
    clear x1_v2 x2_v2 y1_v2 y2_v2 y3_v2 G1_v2 G2_v2 G3_v2 R1_v2 R2_v2 B_v2
    clear hbx
    have hS : (v3).cell? ⟨w.heap.size, 0, none⟩ = some (.slice a1 l1 c1) ∧ (v3).cell? ⟨w.heap.size, 1, none⟩ = some (.int .i64 d1) ∧ (v3).cell? ⟨w.heap.size + 1, 0, none⟩ = some (.slice a2 l2 c2) ∧ (v3).cell? ⟨w.heap.size + 1, 1, none⟩ = some (.int .i64 d2) ∧ (v3).cell? ⟨p6, 0, none⟩ = some (.slice A1 l1 C1) ∧ (v3).cell? ⟨p6, 1, none⟩ = some (.int .i64 d1) ∧ (v3).cell? ⟨p7, 0, none⟩ = some (.slice A2 l2 C2) ∧ (v3).cell? ⟨p7, 1, none⟩ = some (.int .i64 d2) ∧ (v3).cell? ⟨p8, 0, none⟩ = some (.slice A3 l3 C3) ∧ (v3).cell? ⟨p8, 1, none⟩ = some (.int .i64 d3) := ⟨x1_v3.cell rfl, x1_v3.cell rfl, x2_v3.cell rfl, x2_v3.cell rfl, y1_v3.cell rfl, y1_v3.cell rfl, y2_v3.cell rfl, y2_v3.cell rfl, y3_v3.cell rfl, y3_v3.cell rfl⟩
    refine hK.out _ _ (fun _ => hS) ?_
    clear hK K
    try simp only [Act.put, List.setIfInBounds_toArray, List.set_cons_zero, List.set_cons_succ, List.getElem_toArray, List.getElem_cons_zero, List.getElem_cons_succ]
    refine wpN_step (i := 9) (by kernel_rfl) rfl (fun K hK => ?_)
    go_simp
    refine hK.out _ _ (fun h => absurd h (by decide)) ?_
    clear hK K
    try simp only [Act.put, List.setIfInBounds_toArray, List.set_cons_zero, List.set_cons_succ, List.getElem_toArray, List.getElem_cons_zero, List.getElem_cons_succ]
    refine wpN_step (i := 10) (by kernel_rfl) rfl (fun K hK => ?_)
    go_simp
    refine hK.out _ _ (fun h => absurd h (by decide)) ?_
    clear hK K
    try simp only [Act.put, List.setIfInBounds_toArray, List.set_cons_zero, List.set_cons_succ, List.getElem_toArray, List.getElem_cons_zero, List.getElem_cons_succ]
    refine wpN_step (i := 11) (by kernel_rfl) rfl (fun K hK => ?_)
    go_simp
    refine hK.out _ _ (fun h => absurd h (by decide)) ?_
    clear hK K
    try simp only [Act.put, List.setIfInBounds_toArray, List.set_cons_zero, List.set_cons_succ, List.getElem_toArray, List.getElem_cons_zero, List.getElem_cons_succ]
    refine wpN_done (by kernel_rfl) ?_
    refine NoPanic.normal ?_
    obtain ⟨n, hn⟩ : ∃ n, Ty.cmp t1 t2 = n := ⟨_, rfl⟩
    obtain ⟨m, hm⟩ : ∃ m, Ty.cmp t2 t3 = m := ⟨_, rfl⟩
    obtain ⟨k, hk⟩ : ∃ k, Ty.cmp t1 t3 = k := ⟨_, rfl⟩
    have Htri := (Ty.tri_cmp t1 t2 t3).1
    have Hnm := Lib.hid (Ty.cmp_neg t1 t2)
    have Hn0 := Lib.hid (Ty.cmp_zero t1 t2)
    have Hrg := Ty.cmp_range t1 t2
    rw [hn, hm, hk] at Htri
    rw [hn] at Hnm Hn0 Hrg
    have Htri := Lib.hid Htri
    obtain ⟨hrg1, hrg2⟩ := Hrg
    have hwrap : IntKind.i64.wrap (-n) = -n := by
      have : n = -1 ∨ n = 0 ∨ n = 1 := by omega
      rcases this with h | h | h <;> rw [h] <;> rfl
    rw [hn, hm, hk]
    have Hn := Lib.hid hn
    clear hn hm hk hS
    go_wp2_with fail
    refine wp_region_noPanic (wp_region_need (S := fun w' => w'.cell? ⟨w.heap.size, 0, none⟩ = some (.slice a1 l1 c1) ∧ w'.cell? ⟨w.heap.size, 1, none⟩ = some (.int .i64 d1) ∧ w'.cell? ⟨w.heap.size + 1, 0, none⟩ = some (.slice a2 l2 c2) ∧ w'.cell? ⟨w.heap.size + 1, 1, none⟩ = some (.int .i64 d2) ∧ w'.cell? ⟨p6, 0, none⟩ = some (.slice A1 l1 C1) ∧ w'.cell? ⟨p6, 1, none⟩ = some (.int .i64 d1) ∧ w'.cell? ⟨p7, 0, none⟩ = some (.slice A2 l2 C2) ∧ w'.cell? ⟨p7, 1, none⟩ = some (.int .i64 d2) ∧ w'.cell? ⟨p8, 0, none⟩ = some (.slice A3 l3 C3) ∧ w'.cell? ⟨p8, 1, none⟩ = some (.int .i64 d3)) (by kernel_rfl) ?_)
    have hS : (v3.drew).cell? ⟨w.heap.size, 0, none⟩ = some (.slice a1 l1 c1) ∧ (v3.drew).cell? ⟨w.heap.size, 1, none⟩ = some (.int .i64 d1) ∧ (v3.drew).cell? ⟨w.heap.size + 1, 0, none⟩ = some (.slice a2 l2 c2) ∧ (v3.drew).cell? ⟨w.heap.size + 1, 1, none⟩ = some (.int .i64 d2) ∧ (v3.drew).cell? ⟨p6, 0, none⟩ = some (.slice A1 l1 C1) ∧ (v3.drew).cell? ⟨p6, 1, none⟩ = some (.int .i64 d1) ∧ (v3.drew).cell? ⟨p7, 0, none⟩ = some (.slice A2 l2 C2) ∧ (v3.drew).cell? ⟨p7, 1, none⟩ = some (.int .i64 d2) ∧ (v3.drew).cell? ⟨p8, 0, none⟩ = some (.slice A3 l3 C3) ∧ (v3.drew).cell? ⟨p8, 1, none⟩ = some (.int .i64 d3) := ⟨x1_v3.drew.cell rfl, x1_v3.drew.cell rfl, x2_v3.drew.cell rfl, x2_v3.drew.cell rfl, y1_v3.drew.cell rfl, y1_v3.drew.cell rfl, y2_v3.drew.cell rfl, y2_v3.drew.cell rfl, y3_v3.drew.cell rfl, y3_v3.drew.cell rfl⟩
    refine wpN_step (i := 0) (by kernel_rfl) rfl (fun K hK => ?_)
    go_simp
    refine (known04 v3.drew).mono ?_
    rintro e v4 ⟨rfl, hbd⟩
    have hbx : Below v3.heap.size v3 v4 := (Below.refl _ _).drew.trans hbd
    clear hbd
    have x1_v4 := x1_v3.below hbx
    have x2_v4 := x2_v3.below hbx
    have y1_v4 := y1_v3.below hbx
    have y2_v4 := y2_v3.below hbx
    have y3_v4 := y3_v3.below hbx
    have G1_v4 := Lib.hid (G1_v3.out.bel hbx)
    have G2_v4 := Lib.hid (G2_v3.out.bel hbx)
    have G3_v4 := Lib.hid (G3_v3.out.bel hbx)
    have R1_v4 := Lib.hid (R1_v3.out.bel hbx)
    have R2_v4 := Lib.hid (R2_v3.out.bel hbx)
    have B_v4 := B_v3.trans (hbx.mono B_v3.size)
    clear x1_v3 x2_v3 y1_v3 y2_v3 y3_v3 G1_v3 G2_v3 G3_v3 R1_v3 R2_v3 B_v3
    clear hbx
    have hS : (v4).cell? ⟨w.heap.size, 0, none⟩ = some (.slice a1 l1 c1) ∧ (v4).cell? ⟨w.heap.size, 1, none⟩ = some (.int .i64 d1) ∧ (v4).cell? ⟨w.heap.size + 1, 0, none⟩ = some (.slice a2 l2 c2) ∧ (v4).cell? ⟨w.heap.size + 1, 1, none⟩ = some (.int .i64 d2) ∧ (v4).cell? ⟨p6, 0, none⟩ = some (.slice A1 l1 C1) ∧ (v4).cell? ⟨p6, 1, none⟩ = some (.int .i64 d1) ∧ (v4).cell? ⟨p7, 0, none⟩ = some (.slice A2 l2 C2) ∧ (v4).cell? ⟨p7, 1, none⟩ = some (.int .i64 d2) ∧ (v4).cell? ⟨p8, 0, none⟩ = some (.slice A3 l3 C3) ∧ (v4).cell? ⟨p8, 1, none⟩ = some (.int .i64 d3) := ⟨x1_v4.cell rfl, x1_v4.cell rfl, x2_v4.cell rfl, x2_v4.cell rfl, y1_v4.cell rfl, y1_v4.cell rfl, y2_v4.cell rfl, y2_v4.cell rfl, y3_v4.cell rfl, y3_v4.cell rfl⟩
    refine hK.out _ _ (fun _ => hS) ?_
    clear hK K
    try simp only [Act.put, List.setIfInBounds_toArray, List.set_cons_zero, List.set_cons_succ, List.getElem_toArray, List.getElem_cons_zero, List.getElem_cons_succ]
    refine wpN_take (i := 1) (v := ?v10) rfl (by kernel_rfl) (fun _ _ _ h => h) hS (Or.inl ⟨by rfl, ?hy10⟩) ?hr10
    case hy10 => (intro wS hSw; (try dsimp only at hSw); go_simp; (try with_reducible rfl))
    try simp only [Act.put, List.setIfInBounds_toArray, List.set_cons_zero, List.set_cons_succ, List.getElem_toArray, List.getElem_cons_zero, List.getElem_cons_succ]
    refine wpN_take (i := 2) (v := ?v11) rfl (by kernel_rfl) (fun _ _ _ h => h) hS (Or.inl ⟨by rfl, ?hy11⟩) ?hr11
    case hy11 => (intro wS hSw; (try dsimp only at hSw); go_simp; (try with_reducible rfl))
    try simp only [Act.put, List.setIfInBounds_toArray, List.set_cons_zero, List.set_cons_succ, List.getElem_toArray, List.getElem_cons_zero, List.getElem_cons_succ]
    refine wpN_take (i := 3) (v := ?v12) rfl (by kernel_rfl) (fun _ _ _ h => h) hS (Or.inl ⟨by rfl, ?hy12⟩) ?hr12
    case hy12 => (intro wS hSw; (try dsimp only at hSw); go_simp; (try with_reducible rfl))
    try simp only [Act.put, List.setIfInBounds_toArray, List.set_cons_zero, List.set_cons_succ, List.getElem_toArray, List.getElem_cons_zero, List.getElem_cons_succ]
    refine wpN_take (i := 5) (v := ?v13) rfl (by kernel_rfl) (fun _ _ _ h => h) hS (Or.inl ⟨by rfl, ?hy13⟩) ?hr13
    case hy13 => (intro wS hSw; (try dsimp only at hSw); go_simp; (try with_reducible rfl))
    try simp only [Act.put, List.setIfInBounds_toArray, List.set_cons_zero, List.set_cons_succ, List.getElem_toArray, List.getElem_cons_zero, List.getElem_cons_succ]
    refine wpN_take (i := 6) (v := ?v14) rfl (by kernel_rfl) (fun _ _ _ h => h) hS (Or.inl ⟨by rfl, ?hy14⟩) ?hr14
    case hy14 => (intro wS hSw; (try dsimp only at hSw); go_simp; (try with_reducible rfl))
    try simp only [Act.put, List.setIfInBounds_toArray, List.set_cons_zero, List.set_cons_succ, List.getElem_toArray, List.getElem_cons_zero, List.getElem_cons_succ]
    refine wpN_step (i := 4) (by kernel_rfl) rfl (fun K hK => ?_)
    go_simp
    refine (equal_k _ _ _ _ _ G1_v4.out _ _ _ _ _ G2_v4.out v4 (Keep.refl _ _) (Keep.refl _ _)).mono ?_
    intro e v5 h
    obtain ⟨r1, Hr1, rfl, hbx⟩ := of_retB h
    clear h
    have x1_v5 := x1_v4.below hbx
    have x2_v5 := x2_v4.below hbx
    have y1_v5 := y1_v4.below hbx
    have y2_v5 := y2_v4.below hbx
    have y3_v5 := y3_v4.below hbx
    have G1_v5 := Lib.hid (G1_v4.out.bel hbx)
    have G2_v5 := Lib.hid (G2_v4.out.bel hbx)
    have G3_v5 := Lib.hid (G3_v4.out.bel hbx)
    have R1_v5 := Lib.hid (R1_v4.out.bel hbx)
    have R2_v5 := Lib.hid (R2_v4.out.bel hbx)
    have B_v5 := B_v4.trans (hbx.mono B_v4.size)
    clear x1_v4 x2_v4 y1_v4 y2_v4 y3_v4 G1_v4 G2_v4 G3_v4 R1_v4 R2_v4 B_v4
    clear hbx
    have hS : (v5).cell? ⟨w.heap.size, 0, none⟩ = some (.slice a1 l1 c1) ∧ (v5).cell? ⟨w.heap.size, 1, none⟩ = some (.int .i64 d1) ∧ (v5).cell? ⟨w.heap.size + 1, 0, none⟩ = some (.slice a2 l2 c2) ∧ (v5).cell? ⟨w.heap.size + 1, 1, none⟩ = some (.int .i64 d2) ∧ (v5).cell? ⟨p6, 0, none⟩ = some (.slice A1 l1 C1) ∧ (v5).cell? ⟨p6, 1, none⟩ = some (.int .i64 d1) ∧ (v5).cell? ⟨p7, 0, none⟩ = some (.slice A2 l2 C2) ∧ (v5).cell? ⟨p7, 1, none⟩ = some (.int .i64 d2) ∧ (v5).cell? ⟨p8, 0, none⟩ = some (.slice A3 l3 C3) ∧ (v5).cell? ⟨p8, 1, none⟩ = some (.int .i64 d3) := ⟨x1_v5.cell rfl, x1_v5.cell rfl, x2_v5.cell rfl, x2_v5.cell rfl, y1_v5.cell rfl, y1_v5.cell rfl, y2_v5.cell rfl, y2_v5.cell rfl, y3_v5.cell rfl, y3_v5.cell rfl⟩
    refine hK.out _ _ (fun _ => hS) ?_
    clear hK K
    try simp only [Act.put, List.setIfInBounds_toArray, List.set_cons_zero, List.set_cons_succ, List.getElem_toArray, List.getElem_cons_zero, List.getElem_cons_succ]
    refine wpN_step (i := 7) (by kernel_rfl) rfl (fun K hK => ?_)
    go_simp
    refine (same_r R1_v5.out R2_v5.out v5 (Keep.refl _ _) (Keep.refl _ _)).mono ?_
    intro e v6 h
    obtain ⟨r2, Hr2, rfl, hbx⟩ := of_retB h
    clear h
    have hrr : r2 = r1 := Bool.eq_iff_iff.2 (Hr2.out.trans Hr1.out.symm)
    rw [hrr]
    clear Hr2 hrr
    have x1_v6 := x1_v5.below hbx
    have x2_v6 := x2_v5.below hbx
    have y1_v6 := y1_v5.below hbx
    have y2_v6 := y2_v5.below hbx
    have y3_v6 := y3_v5.below hbx
    have G1_v6 := Lib.hid (G1_v5.out.bel hbx)
    have G2_v6 := Lib.hid (G2_v5.out.bel hbx)
    have G3_v6 := Lib.hid (G3_v5.out.bel hbx)
    have R1_v6 := Lib.hid (R1_v5.out.bel hbx)
    have R2_v6 := Lib.hid (R2_v5.out.bel hbx)
    have B_v6 := B_v5.trans (hbx.mono B_v5.size)
    clear x1_v5 x2_v5 y1_v5 y2_v5 y3_v5 G1_v5 G2_v5 G3_v5 R1_v5 R2_v5 B_v5
    clear hbx
    have hS : (v6).cell? ⟨w.heap.size, 0, none⟩ = some (.slice a1 l1 c1) ∧ (v6).cell? ⟨w.heap.size, 1, none⟩ = some (.int .i64 d1) ∧ (v6).cell? ⟨w.heap.size + 1, 0, none⟩ = some (.slice a2 l2 c2) ∧ (v6).cell? ⟨w.heap.size + 1, 1, none⟩ = some (.int .i64 d2) ∧ (v6).cell? ⟨p6, 0, none⟩ = some (.slice A1 l1 C1) ∧ (v6).cell? ⟨p6, 1, none⟩ = some (.int .i64 d1) ∧ (v6).cell? ⟨p7, 0, none⟩ = some (.slice A2 l2 C2) ∧ (v6).cell? ⟨p7, 1, none⟩ = some (.int .i64 d2) ∧ (v6).cell? ⟨p8, 0, none⟩ = some (.slice A3 l3 C3) ∧ (v6).cell? ⟨p8, 1, none⟩ = some (.int .i64 d3) := ⟨x1_v6.cell rfl, x1_v6.cell rfl, x2_v6.cell rfl, x2_v6.cell rfl, y1_v6.cell rfl, y1_v6.cell rfl, y2_v6.cell rfl, y2_v6.cell rfl, y3_v6.cell rfl, y3_v6.cell rfl⟩
    refine hK.out _ _ (fun _ => hS) ?_
    clear hK K
    try simp only [Act.put, List.setIfInBounds_toArray, List.set_cons_zero, List.set_cons_succ, List.getElem_toArray, List.getElem_cons_zero, List.getElem_cons_succ]
    refine wpN_take (i := 8) (v := ?v15) rfl (by kernel_rfl) (fun _ _ _ h => h) hS (Or.inl ⟨by rfl, ?hy15⟩) ?hr15
    case hy15 => (intro wS hSw; (try dsimp only at hSw); go_simp; (try with_reducible rfl))
    try simp only [Act.put, List.setIfInBounds_toArray, List.set_cons_zero, List.set_cons_succ, List.getElem_toArray, List.getElem_cons_zero, List.getElem_cons_succ]
    refine wpN_take (i := 9) (v := ?v16) rfl (by kernel_rfl) (fun _ _ _ h => h) hS (Or.inl ⟨by rfl, ?hy16⟩) ?hr16
    case hy16 => (intro wS hSw; (try dsimp only at hSw); go_simp; (try with_reducible rfl))
    try simp only [Act.put, List.setIfInBounds_toArray, List.set_cons_zero, List.set_cons_succ, List.getElem_toArray, List.getElem_cons_zero, List.getElem_cons_succ]
    refine wpN_take (i := 10) (v := ?v17) rfl (by kernel_rfl) (fun _ _ _ h => h) hS (Or.inl ⟨by rfl, ?hy17⟩) ?hr17
    case hy17 => (intro wS hSw; (try dsimp only at hSw); go_simp; (try with_reducible rfl))
    try simp only [Act.put, List.setIfInBounds_toArray, List.set_cons_zero, List.set_cons_succ, List.getElem_toArray, List.getElem_cons_zero, List.getElem_cons_succ]
    refine wpN_take (i := 11) (v := ?v18) rfl (by kernel_rfl) (fun _ _ _ h => h) hS (Or.inl ⟨by rfl, ?hy18⟩) ?hr18
    case hy18 => (intro wS hSw; (try dsimp only at hSw); go_simp; (try with_reducible rfl))
    try simp only [Act.put, List.setIfInBounds_toArray, List.set_cons_zero, List.set_cons_succ, List.getElem_toArray, List.getElem_cons_zero, List.getElem_cons_succ]
    refine wpN_take (i := 12) (v := ?v19) rfl (by kernel_rfl) (fun _ _ _ h => h) hS (Or.inl ⟨by rfl, ?hy19⟩) ?hr19
    case hy19 => (intro wS hSw; (try dsimp only at hSw); go_simp; (try with_reducible rfl))
    try simp only [Act.put, List.setIfInBounds_toArray, List.set_cons_zero, List.set_cons_succ, List.getElem_toArray, List.getElem_cons_zero, List.getElem_cons_succ]
    refine wpN_take (i := 13) (v := ?v20) rfl (by kernel_rfl) (fun _ _ _ h => h) hS (Or.inl ⟨by rfl, ?hy20⟩) ?hr20
    case hy20 => (intro wS hSw; (try dsimp only at hSw); go_simp; (try with_reducible rfl))
    try simp only [Act.put, List.setIfInBounds_toArray, List.set_cons_zero, List.set_cons_succ, List.getElem_toArray, List.getElem_cons_zero, List.getElem_cons_succ]
    refine wpN_step (i := 14) (by kernel_rfl) rfl (fun K hK => ?_)
    go_simp
    have Cr := compare_r _ _ _ _ _ R1_v6.out _ _ _ _ _ R2_v6.out v6 (Keep.refl _ _) (Keep.refl _ _) (by have := Hr.out; omega) (by have := Hr.out; omega)
    rw [Hn.out] at Cr
    refine Cr.mono ?_
    clear Cr
    rintro e v7 ⟨rfl, hbx⟩
    have x1_v7 := x1_v6.below hbx
    have x2_v7 := x2_v6.below hbx
    have y1_v7 := y1_v6.below hbx
    have y2_v7 := y2_v6.below hbx
    have y3_v7 := y3_v6.below hbx
    have G1_v7 := Lib.hid (G1_v6.out.bel hbx)
    have G2_v7 := Lib.hid (G2_v6.out.bel hbx)
    have G3_v7 := Lib.hid (G3_v6.out.bel hbx)
    have R1_v7 := Lib.hid (R1_v6.out.bel hbx)
    have R2_v7 := Lib.hid (R2_v6.out.bel hbx)
    have B_v7 := B_v6.trans (hbx.mono B_v6.size)
    clear x1_v6 x2_v6 y1_v6 y2_v6 y3_v6 G1_v6 G2_v6 G3_v6 R1_v6 R2_v6 B_v6
    clear hbx
    have hS : (v7).cell? ⟨w.heap.size, 0, none⟩ = some (.slice a1 l1 c1) ∧ (v7).cell? ⟨w.heap.size, 1, none⟩ = some (.int .i64 d1) ∧ (v7).cell? ⟨w.heap.size + 1, 0, none⟩ = some (.slice a2 l2 c2) ∧ (v7).cell? ⟨w.heap.size + 1, 1, none⟩ = some (.int .i64 d2) ∧ (v7).cell? ⟨p6, 0, none⟩ = some (.slice A1 l1 C1) ∧ (v7).cell? ⟨p6, 1, none⟩ = some (.int .i64 d1) ∧ (v7).cell? ⟨p7, 0, none⟩ = some (.slice A2 l2 C2) ∧ (v7).cell? ⟨p7, 1, none⟩ = some (.int .i64 d2) ∧ (v7).cell? ⟨p8, 0, none⟩ = some (.slice A3 l3 C3) ∧ (v7).cell? ⟨p8, 1, none⟩ = some (.int .i64 d3) := ⟨x1_v7.cell rfl, x1_v7.cell rfl, x2_v7.cell rfl, x2_v7.cell rfl, y1_v7.cell rfl, y1_v7.cell rfl, y2_v7.cell rfl, y2_v7.cell rfl, y3_v7.cell rfl, y3_v7.cell rfl⟩
    refine hK.out _ _ (fun _ => hS) ?_
    clear hK K
    try simp only [Act.put, List.setIfInBounds_toArray, List.set_cons_zero, List.set_cons_succ, List.getElem_toArray, List.getElem_cons_zero, List.getElem_cons_succ]
    refine wpN_take (i := 15) (v := ?v21) rfl (by kernel_rfl) (fun _ _ _ h => h) hS (Or.inl ⟨by rfl, ?hy21⟩) ?hr21
    case hy21 => (intro wS hSw; (try dsimp only at hSw); go_simp; (try with_reducible rfl))
    try simp only [Act.put, List.setIfInBounds_toArray, List.set_cons_zero, List.set_cons_succ, List.getElem_toArray, List.getElem_cons_zero, List.getElem_cons_succ]
    refine wpN_take (i := 16) (v := ?v22) rfl (by kernel_rfl) (fun _ _ _ h => h) hS (Or.inl ⟨by rfl, ?hy22⟩) ?hr22
    case hy22 => (intro wS hSw; (try dsimp only at hSw); go_simp; (try with_reducible rfl))
    try simp only [Act.put, List.setIfInBounds_toArray, List.set_cons_zero, List.set_cons_succ, List.getElem_toArray, List.getElem_cons_zero, List.getElem_cons_succ]
    refine wpN_take (i := 17) (v := ?v23) rfl (by kernel_rfl) (fun _ _ _ h => h) hS (Or.inl ⟨by rfl, ?hy23⟩) ?hr23
    case hy23 => (intro wS hSw; (try dsimp only at hSw); go_simp; (try with_reducible rfl))
    try simp only [Act.put, List.setIfInBounds_toArray, List.set_cons_zero, List.set_cons_succ, List.getElem_toArray, List.getElem_cons_zero, List.getElem_cons_succ]
    refine wpN_take (i := 18) (v := ?v24) rfl (by kernel_rfl) (fun _ _ _ h => h) hS (Or.inl ⟨by rfl, ?hy24⟩) ?hr24
    case hy24 => (intro wS hSw; (try dsimp only at hSw); go_simp; (try with_reducible rfl))
    try simp only [Act.put, List.setIfInBounds_toArray, List.set_cons_zero, List.set_cons_succ, List.getElem_toArray, List.getElem_cons_zero, List.getElem_cons_succ]
    refine wpN_take (i := 19) (v := ?v25) rfl (by kernel_rfl) (fun _ _ _ h => h) hS (Or.inl ⟨by rfl, ?hy25⟩) ?hr25
    case hy25 => (intro wS hSw; (try dsimp only at hSw); go_simp; (try with_reducible rfl))
    try simp only [Act.put, List.setIfInBounds_toArray, List.set_cons_zero, List.set_cons_succ, List.getElem_toArray, List.getElem_cons_zero, List.getElem_cons_succ]
    refine wpN_take (i := 21) (v := ?v26) rfl (by kernel_rfl) (fun _ _ _ h => h) hS (Or.inl ⟨by rfl, ?hy26⟩) ?hr26
    case hy26 => (intro wS hSw; (try dsimp only at hSw); go_simp; (try with_reducible rfl))
    try simp only [Act.put, List.setIfInBounds_toArray, List.set_cons_zero, List.set_cons_succ, List.getElem_toArray, List.getElem_cons_zero, List.getElem_cons_succ]
    refine wpN_take (i := 22) (v := ?v27) rfl (by kernel_rfl) (fun _ _ _ h => h) hS (Or.inl ⟨by rfl, ?hy27⟩) ?hr27
    case hy27 => (intro wS hSw; (try dsimp only at hSw); go_simp; (try with_reducible rfl))
    try simp only [Act.put, List.setIfInBounds_toArray, List.set_cons_zero, List.set_cons_succ, List.getElem_toArray, List.getElem_cons_zero, List.getElem_cons_succ]
    try rw [hwrap]
    refine wpN_step (i := 20) (by kernel_rfl) rfl (fun K hK => ?_)
    go_simp
    have Cr := compare_k _ _ _ _ _ G2_v7.out _ _ _ _ _ G1_v7.out v7 (Keep.refl _ _) (Keep.refl _ _) (by have := Hr.out; omega) (by have := Hr.out; omega)
    rw [Hnm.out] at Cr
    refine Cr.mono ?_
    clear Cr
    rintro e v8 ⟨rfl, hbx⟩
    have x1_v8 := x1_v7.below hbx
    have x2_v8 := x2_v7.below hbx
    have y1_v8 := y1_v7.below hbx
    have y2_v8 := y2_v7.below hbx
    have y3_v8 := y3_v7.below hbx
    have G1_v8 := Lib.hid (G1_v7.out.bel hbx)
    have G2_v8 := Lib.hid (G2_v7.out.bel hbx)
    have G3_v8 := Lib.hid (G3_v7.out.bel hbx)
    have R1_v8 := Lib.hid (R1_v7.out.bel hbx)
    have R2_v8 := Lib.hid (R2_v7.out.bel hbx)
    have B_v8 := B_v7.trans (hbx.mono B_v7.size)
    clear x1_v7 x2_v7 y1_v7 y2_v7 y3_v7 G1_v7 G2_v7 G3_v7 R1_v7 R2_v7 B_v7
    clear hbx
    have hS : (v8).cell? ⟨w.heap.size, 0, none⟩ = some (.slice a1 l1 c1) ∧ (v8).cell? ⟨w.heap.size, 1, none⟩ = some (.int .i64 d1) ∧ (v8).cell? ⟨w.heap.size + 1, 0, none⟩ = some (.slice a2 l2 c2) ∧ (v8).cell? ⟨w.heap.size + 1, 1, none⟩ = some (.int .i64 d2) ∧ (v8).cell? ⟨p6, 0, none⟩ = some (.slice A1 l1 C1) ∧ (v8).cell? ⟨p6, 1, none⟩ = some (.int .i64 d1) ∧ (v8).cell? ⟨p7, 0, none⟩ = some (.slice A2 l2 C2) ∧ (v8).cell? ⟨p7, 1, none⟩ = some (.int .i64 d2) ∧ (v8).cell? ⟨p8, 0, none⟩ = some (.slice A3 l3 C3) ∧ (v8).cell? ⟨p8, 1, none⟩ = some (.int .i64 d3) := ⟨x1_v8.cell rfl, x1_v8.cell rfl, x2_v8.cell rfl, x2_v8.cell rfl, y1_v8.cell rfl, y1_v8.cell rfl, y2_v8.cell rfl, y2_v8.cell rfl, y3_v8.cell rfl, y3_v8.cell rfl⟩
    refine hK.out _ _ (fun _ => hS) ?_
    clear hK K
    try simp only [Act.put, List.setIfInBounds_toArray, List.set_cons_zero, List.set_cons_succ, List.getElem_toArray, List.getElem_cons_zero, List.getElem_cons_succ]
    refine wpN_take (i := 23) (v := ?v28) rfl (by kernel_rfl) (fun _ _ _ h => h) hS (Or.inl ⟨by rfl, ?hy28⟩) ?hr28
    case hy28 => (intro wS hSw; (try dsimp only at hSw); go_simp; (try with_reducible rfl))
    try simp only [Act.put, List.setIfInBounds_toArray, List.set_cons_zero, List.set_cons_succ, List.getElem_toArray, List.getElem_cons_zero, List.getElem_cons_succ]
    refine wpN_take (i := 24) (v := ?v29) rfl (by kernel_rfl) (fun _ _ _ h => h) hS (Or.inl ⟨by rfl, ?hy29⟩) ?hr29
    case hy29 => (intro wS hSw; (try dsimp only at hSw); go_simp; (try with_reducible rfl))
    try simp only [Act.put, List.setIfInBounds_toArray, List.set_cons_zero, List.set_cons_succ, List.getElem_toArray, List.getElem_cons_zero, List.getElem_cons_succ]
    refine wpN_take (i := 25) (v := ?v30) rfl (by kernel_rfl) (fun _ _ _ h => h) hS (Or.inl ⟨by rfl, ?hy30⟩) ?hr30
    case hy30 => (intro wS hSw; (try dsimp only at hSw); go_simp; (try with_reducible rfl))
    try simp only [Act.put, List.setIfInBounds_toArray, List.set_cons_zero, List.set_cons_succ, List.getElem_toArray, List.getElem_cons_zero, List.getElem_cons_succ]
    refine wpN_take (i := 26) (v := ?v31) rfl (by kernel_rfl) (fun _ _ _ h => h) hS (Or.inl ⟨by rfl, ?hy31⟩) ?hr31
    case hy31 => (intro wS hSw; (try dsimp only at hSw); go_simp; (try with_reducible rfl))
    try simp only [Act.put, List.setIfInBounds_toArray, List.set_cons_zero, List.set_cons_succ, List.getElem_toArray, List.getElem_cons_zero, List.getElem_cons_succ]
    refine wpN_take (i := 27) (v := ?v32) rfl (by kernel_rfl) (fun _ _ _ h => h) hS (Or.inl ⟨by rfl, ?hy32⟩) ?hr32
    case hy32 => (intro wS hSw; (try dsimp only at hSw); go_simp; (try with_reducible rfl))
    try simp only [Act.put, List.setIfInBounds_toArray, List.set_cons_zero, List.set_cons_succ, List.getElem_toArray, List.getElem_cons_zero, List.getElem_cons_succ]
    refine wpN_take (i := 28) (v := ?v33) rfl (by kernel_rfl) (fun _ _ _ h => h) hS (Or.inl ⟨by rfl, ?hy33⟩) ?hr33
    case hy33 => (intro wS hSw; (try dsimp only at hSw); go_simp; (try with_reducible rfl))
    try simp only [Act.put, List.setIfInBounds_toArray, List.set_cons_zero, List.set_cons_succ, List.getElem_toArray, List.getElem_cons_zero, List.getElem_cons_succ]
    refine wpN_take (i := 29) (v := ?v34) rfl (by kernel_rfl) (fun _ _ _ h => h) hS (Or.inl ⟨by rfl, ?hy34⟩) ?hr34
    case hy34 => (intro wS hSw; (try dsimp only at hSw); go_simp; (try with_reducible rfl))
    try simp only [Act.put, List.setIfInBounds_toArray, List.set_cons_zero, List.set_cons_succ, List.getElem_toArray, List.getElem_cons_zero, List.getElem_cons_succ]
    refine wpN_step (i := 30) (by kernel_rfl) rfl (fun K hK => ?_)
    go_simp
    refine (same_r R1_v8.out R2_v8.out v8 (Keep.refl _ _) (Keep.refl _ _)).mono ?_
    intro e v9 h
    obtain ⟨r3, Hr3, rfl, hbx⟩ := of_retB h
    clear h
    obtain rfl : r3 = (n == 0) := by
      rw [Bool.eq_iff_iff, Hr3.out, ← Hn0.out]; simp
    clear Hr3
    have x1_v9 := x1_v8.below hbx
    have x2_v9 := x2_v8.below hbx
    have y1_v9 := y1_v8.below hbx
    have y2_v9 := y2_v8.below hbx
    have y3_v9 := y3_v8.below hbx
    have G1_v9 := Lib.hid (G1_v8.out.bel hbx)
    have G2_v9 := Lib.hid (G2_v8.out.bel hbx)
    have G3_v9 := Lib.hid (G3_v8.out.bel hbx)
    have R1_v9 := Lib.hid (R1_v8.out.bel hbx)
    have R2_v9 := Lib.hid (R2_v8.out.bel hbx)
    have B_v9 := B_v8.trans (hbx.mono B_v8.size)
    clear x1_v8 x2_v8 y1_v8 y2_v8 y3_v8 G1_v8 G2_v8 G3_v8 R1_v8 R2_v8 B_v8
    clear hbx
    have hS : (v9).cell? ⟨w.heap.size, 0, none⟩ = some (.slice a1 l1 c1) ∧ (v9).cell? ⟨w.heap.size, 1, none⟩ = some (.int .i64 d1) ∧ (v9).cell? ⟨w.heap.size + 1, 0, none⟩ = some (.slice a2 l2 c2) ∧ (v9).cell? ⟨w.heap.size + 1, 1, none⟩ = some (.int .i64 d2) ∧ (v9).cell? ⟨p6, 0, none⟩ = some (.slice A1 l1 C1) ∧ (v9).cell? ⟨p6, 1, none⟩ = some (.int .i64 d1) ∧ (v9).cell? ⟨p7, 0, none⟩ = some (.slice A2 l2 C2) ∧ (v9).cell? ⟨p7, 1, none⟩ = some (.int .i64 d2) ∧ (v9).cell? ⟨p8, 0, none⟩ = some (.slice A3 l3 C3) ∧ (v9).cell? ⟨p8, 1, none⟩ = some (.int .i64 d3) := ⟨x1_v9.cell rfl, x1_v9.cell rfl, x2_v9.cell rfl, x2_v9.cell rfl, y1_v9.cell rfl, y1_v9.cell rfl, y2_v9.cell rfl, y2_v9.cell rfl, y3_v9.cell rfl, y3_v9.cell rfl⟩
    refine hK.out _ _ (fun _ => hS) ?_
    clear hK K
    try simp only [Act.put, List.setIfInBounds_toArray, List.set_cons_zero, List.set_cons_succ, List.getElem_toArray, List.getElem_cons_zero, List.getElem_cons_succ]
    refine wpN_take (i := 31) (v := ?v35) rfl (by kernel_rfl) (fun _ _ _ h => h) hS (Or.inl ⟨by rfl, ?hy35⟩) ?hr35
    case hy35 => (intro wS hSw; (try dsimp only at hSw); go_simp; (try with_reducible rfl))
    try simp only [Act.put, List.setIfInBounds_toArray, List.set_cons_zero, List.set_cons_succ, List.getElem_toArray, List.getElem_cons_zero, List.getElem_cons_succ]
    refine wpN_take (i := 32) (v := ?v36) rfl (by kernel_rfl) (fun _ _ _ h => h) hS (Or.inl ⟨by rfl, ?hy36⟩) ?hr36
    case hy36 => (intro wS hSw; (try dsimp only at hSw); go_simp; (try with_reducible rfl))
    try simp only [Act.put, List.setIfInBounds_toArray, List.set_cons_zero, List.set_cons_succ, List.getElem_toArray, List.getElem_cons_zero, List.getElem_cons_succ]
    refine wpN_take (i := 33) (v := ?v37) rfl (by kernel_rfl) (fun _ _ _ h => h) hS (Or.inl ⟨by rfl, ?hy37⟩) ?hr37
    case hy37 => (intro wS hSw; (try dsimp only at hSw); go_simp; (try with_reducible rfl))
    try simp only [Act.put, List.setIfInBounds_toArray, List.set_cons_zero, List.set_cons_succ, List.getElem_toArray, List.getElem_cons_zero, List.getElem_cons_succ]
    by_cases g1 : n > 0
    · have g1' : 0 < n := g1
      refine wpN_step (i := 34) (by kernel_rfl) rfl (fun K hK => ?_)
      go_simp
      refine hK.out _ _ (fun _ => hS) ?_
      clear hK K
      try simp only [Act.put, List.setIfInBounds_toArray, List.set_cons_zero, List.set_cons_succ, List.getElem_toArray, List.getElem_cons_zero, List.getElem_cons_succ]
      refine wpN_step (i := 35) (by kernel_rfl) rfl (fun K hK => ?_)
      go_simp
      refine hK.out _ _ (fun _ => hS) ?_
      clear hK K
      try simp only [Act.put, List.setIfInBounds_toArray, List.set_cons_zero, List.set_cons_succ, List.getElem_toArray, List.getElem_cons_zero, List.getElem_cons_succ]
      refine wpN_step (i := 36) (by kernel_rfl) rfl (fun K hK => ?_)
      go_simp
      refine hK.out _ _ (fun _ => hS) ?_
      clear hK K
      try simp only [Act.put, List.setIfInBounds_toArray, List.set_cons_zero, List.set_cons_succ, List.getElem_toArray, List.getElem_cons_zero, List.getElem_cons_succ]
      refine wpN_step (i := 37) (by kernel_rfl) rfl (fun K hK => ?_)
      go_simp
      refine hK.out _ _ (fun _ => hS) ?_
      clear hK K
      try simp only [Act.put, List.setIfInBounds_toArray, List.set_cons_zero, List.set_cons_succ, List.getElem_toArray, List.getElem_cons_zero, List.getElem_cons_succ]
      refine wpN_step (i := 38) (by kernel_rfl) rfl (fun K hK => ?_)
      go_simp
      refine hK.out _ _ (fun _ => hS) ?_
      clear hK K
      try simp only [Act.put, List.setIfInBounds_toArray, List.set_cons_zero, List.set_cons_succ, List.getElem_toArray, List.getElem_cons_zero, List.getElem_cons_succ]
      refine wpN_step (i := 39) (by kernel_rfl) rfl (fun K hK => ?_)
      go_simp
      refine hK.out _ _ (fun _ => hS) ?_
      clear hK K
      try simp only [Act.put, List.setIfInBounds_toArray, List.set_cons_zero, List.set_cons_succ, List.getElem_toArray, List.getElem_cons_zero, List.getElem_cons_succ]
      refine wpN_step (i := 40) (by kernel_rfl) rfl (fun K hK => ?_)
      go_simp
      refine hK.out _ _ (fun _ => hS) ?_
      clear hK K
      try simp only [Act.put, List.setIfInBounds_toArray, List.set_cons_zero, List.set_cons_succ, List.getElem_toArray, List.getElem_cons_zero, List.getElem_cons_succ]
      refine wpN_step (i := 41) (by kernel_rfl) rfl (fun K hK => ?_)
      go_simp
      refine hK.out _ _ (fun _ => hS) ?_
      clear hK K
      try simp only [Act.put, List.setIfInBounds_toArray, List.set_cons_zero, List.set_cons_succ, List.getElem_toArray, List.getElem_cons_zero, List.getElem_cons_succ]
      refine wpN_step (i := 42) (by kernel_rfl) rfl (fun K hK => ?_)
      go_simp
      refine hK.out _ _ (fun _ => hS) ?_
      clear hK K
      try simp only [Act.put, List.setIfInBounds_toArray, List.set_cons_zero, List.set_cons_succ, List.getElem_toArray, List.getElem_cons_zero, List.getElem_cons_succ]
      refine wpN_step (i := 43) (by kernel_rfl) rfl (fun K hK => ?_)
      go_simp
      refine hK.out _ _ (fun _ => hS) ?_
      clear hK K
      try simp only [Act.put, List.setIfInBounds_toArray, List.set_cons_zero, List.set_cons_succ, List.getElem_toArray, List.getElem_cons_zero, List.getElem_cons_succ]
      refine wpN_step (i := 44) (by kernel_rfl) rfl (fun K hK => ?_)
      go_simp
      refine hK.out _ _ (fun _ => hS) ?_
      clear hK K
      try simp only [Act.put, List.setIfInBounds_toArray, List.set_cons_zero, List.set_cons_succ, List.getElem_toArray, List.getElem_cons_zero, List.getElem_cons_succ]
      refine wpN_step (i := 45) (by kernel_rfl) rfl (fun K hK => ?_)
      go_simp
      refine hK.out _ _ (fun _ => hS) ?_
      clear hK K
      try simp only [Act.put, List.setIfInBounds_toArray, List.set_cons_zero, List.set_cons_succ, List.getElem_toArray, List.getElem_cons_zero, List.getElem_cons_succ]
      refine wpN_take (i := 46) (v := ?v38) rfl (by kernel_rfl) (fun _ _ _ h => h) hS (Or.inl ⟨by rfl, ?hy38⟩) ?hr38
      case hy38 => (intro wS hSw; (try dsimp only at hSw); go_simp; (try with_reducible rfl))
      try simp only [Act.put, List.setIfInBounds_toArray, List.set_cons_zero, List.set_cons_succ, List.getElem_toArray, List.getElem_cons_zero, List.getElem_cons_succ]
      refine wpN_take (i := 47) (v := ?v39) rfl (by kernel_rfl) (fun _ _ _ h => h) hS (Or.inl ⟨by rfl, ?hy39⟩) ?hr39
      case hy39 => (intro wS hSw; (try dsimp only at hSw); go_simp; (try with_reducible rfl))
      try simp only [Act.put, List.setIfInBounds_toArray, List.set_cons_zero, List.set_cons_succ, List.getElem_toArray, List.getElem_cons_zero, List.getElem_cons_succ]
      refine wpN_step (i := 48) (by kernel_rfl) rfl (fun K hK => ?_)
      go_simp
      have Cr := compare_k _ _ _ _ _ G1_v9.out _ _ _ _ _ G1_v9.out v9 (Keep.refl _ _) (Keep.refl _ _) (by have := Hr.out; omega) (by have := Hr.out; omega)
      rw [Ty.cmp_self] at Cr
      refine Cr.mono ?_
      clear Cr
      rintro e v10 ⟨rfl, hbx⟩
      have x1_v10 := x1_v9.below hbx
      have x2_v10 := x2_v9.below hbx
      have y1_v10 := y1_v9.below hbx
      have y2_v10 := y2_v9.below hbx
      have y3_v10 := y3_v9.below hbx
      have G1_v10 := Lib.hid (G1_v9.out.bel hbx)
      have G2_v10 := Lib.hid (G2_v9.out.bel hbx)
      have G3_v10 := Lib.hid (G3_v9.out.bel hbx)
      have R1_v10 := Lib.hid (R1_v9.out.bel hbx)
      have R2_v10 := Lib.hid (R2_v9.out.bel hbx)
      have B_v10 := B_v9.trans (hbx.mono B_v9.size)
      clear x1_v9 x2_v9 y1_v9 y2_v9 y3_v9 G1_v9 G2_v9 G3_v9 R1_v9 R2_v9 B_v9
      clear hbx
      have hS : (v10).cell? ⟨w.heap.size, 0, none⟩ = some (.slice a1 l1 c1) ∧ (v10).cell? ⟨w.heap.size, 1, none⟩ = some (.int .i64 d1) ∧ (v10).cell? ⟨w.heap.size + 1, 0, none⟩ = some (.slice a2 l2 c2) ∧ (v10).cell? ⟨w.heap.size + 1, 1, none⟩ = some (.int .i64 d2) ∧ (v10).cell? ⟨p6, 0, none⟩ = some (.slice A1 l1 C1) ∧ (v10).cell? ⟨p6, 1, none⟩ = some (.int .i64 d1) ∧ (v10).cell? ⟨p7, 0, none⟩ = some (.slice A2 l2 C2) ∧ (v10).cell? ⟨p7, 1, none⟩ = some (.int .i64 d2) ∧ (v10).cell? ⟨p8, 0, none⟩ = some (.slice A3 l3 C3) ∧ (v10).cell? ⟨p8, 1, none⟩ = some (.int .i64 d3) := ⟨x1_v10.cell rfl, x1_v10.cell rfl, x2_v10.cell rfl, x2_v10.cell rfl, y1_v10.cell rfl, y1_v10.cell rfl, y2_v10.cell rfl, y2_v10.cell rfl, y3_v10.cell rfl, y3_v10.cell rfl⟩
      refine hK.out _ _ (fun _ => hS) ?_
      clear hK K
      try simp only [Act.put, List.setIfInBounds_toArray, List.set_cons_zero, List.set_cons_succ, List.getElem_toArray, List.getElem_cons_zero, List.getElem_cons_succ]
      refine wpN_take (i := 49) (v := ?v40) rfl (by kernel_rfl) (fun _ _ _ h => h) hS (Or.inl ⟨by rfl, ?hy40⟩) ?hr40
      case hy40 => (intro wS hSw; (try dsimp only at hSw); go_simp; (try with_reducible rfl))
      try simp only [Act.put, List.setIfInBounds_toArray, List.set_cons_zero, List.set_cons_succ, List.getElem_toArray, List.getElem_cons_zero, List.getElem_cons_succ]
      refine wpN_take (i := 50) (v := ?v41) rfl (by kernel_rfl) (fun _ _ _ h => h) hS (Or.inl ⟨by rfl, ?hy41⟩) ?hr41
      case hy41 => (intro wS hSw; (try dsimp only at hSw); go_simp; (try with_reducible rfl))
      try simp only [Act.put, List.setIfInBounds_toArray, List.set_cons_zero, List.set_cons_succ, List.getElem_toArray, List.getElem_cons_zero, List.getElem_cons_succ]
      refine wpN_step (i := 51) (by kernel_rfl) rfl (fun K hK => ?_)
      go_simp
      refine hK.out _ _ (fun h => absurd h (by decide)) ?_
      clear hK K
      try simp only [Act.put, List.setIfInBounds_toArray, List.set_cons_zero, List.set_cons_succ, List.getElem_toArray, List.getElem_cons_zero, List.getElem_cons_succ]
      refine wpN_done (by kernel_rfl) ?_
      refine NoPanic.normal ?_
      go_wp2_with fail
      go_ret
      exact ⟨rfl, B_v10⟩
    · by_cases g2 : m > 0
      · have g2' : 0 < m := g2
        refine wpN_step (i := 34) (by kernel_rfl) rfl (fun K hK => ?_)
        go_simp
        refine hK.out _ _ (fun _ => hS) ?_
        clear hK K
        try simp only [Act.put, List.setIfInBounds_toArray, List.set_cons_zero, List.set_cons_succ, List.getElem_toArray, List.getElem_cons_zero, List.getElem_cons_succ]
        refine wpN_step (i := 35) (by kernel_rfl) rfl (fun K hK => ?_)
        go_simp
        refine hK.out _ _ (fun _ => hS) ?_
        clear hK K
        try simp only [Act.put, List.setIfInBounds_toArray, List.set_cons_zero, List.set_cons_succ, List.getElem_toArray, List.getElem_cons_zero, List.getElem_cons_succ]
        refine wpN_step (i := 36) (by kernel_rfl) rfl (fun K hK => ?_)
        go_simp
        refine hK.out _ _ (fun _ => hS) ?_
        clear hK K
        try simp only [Act.put, List.setIfInBounds_toArray, List.set_cons_zero, List.set_cons_succ, List.getElem_toArray, List.getElem_cons_zero, List.getElem_cons_succ]
        refine wpN_step (i := 37) (by kernel_rfl) rfl (fun K hK => ?_)
        go_simp
        refine hK.out _ _ (fun _ => hS) ?_
        clear hK K
        try simp only [Act.put, List.setIfInBounds_toArray, List.set_cons_zero, List.set_cons_succ, List.getElem_toArray, List.getElem_cons_zero, List.getElem_cons_succ]
        refine wpN_step (i := 38) (by kernel_rfl) rfl (fun K hK => ?_)
        go_simp
        refine hK.out _ _ (fun _ => hS) ?_
        clear hK K
        try simp only [Act.put, List.setIfInBounds_toArray, List.set_cons_zero, List.set_cons_succ, List.getElem_toArray, List.getElem_cons_zero, List.getElem_cons_succ]
        refine wpN_step (i := 39) (by kernel_rfl) rfl (fun K hK => ?_)
        go_simp
        refine hK.out _ _ (fun _ => hS) ?_
        clear hK K
        try simp only [Act.put, List.setIfInBounds_toArray, List.set_cons_zero, List.set_cons_succ, List.getElem_toArray, List.getElem_cons_zero, List.getElem_cons_succ]
        refine wpN_step (i := 40) (by kernel_rfl) rfl (fun K hK => ?_)
        go_simp
        refine hK.out _ _ (fun _ => hS) ?_
        clear hK K
        try simp only [Act.put, List.setIfInBounds_toArray, List.set_cons_zero, List.set_cons_succ, List.getElem_toArray, List.getElem_cons_zero, List.getElem_cons_succ]
        refine wpN_step (i := 41) (by kernel_rfl) rfl (fun K hK => ?_)
        go_simp
        refine hK.out _ _ (fun _ => hS) ?_
        clear hK K
        try simp only [Act.put, List.setIfInBounds_toArray, List.set_cons_zero, List.set_cons_succ, List.getElem_toArray, List.getElem_cons_zero, List.getElem_cons_succ]
        refine wpN_step (i := 42) (by kernel_rfl) rfl (fun K hK => ?_)
        go_simp
        refine hK.out _ _ (fun _ => hS) ?_
        clear hK K
        try simp only [Act.put, List.setIfInBounds_toArray, List.set_cons_zero, List.set_cons_succ, List.getElem_toArray, List.getElem_cons_zero, List.getElem_cons_succ]
        refine wpN_step (i := 43) (by kernel_rfl) rfl (fun K hK => ?_)
        go_simp
        refine hK.out _ _ (fun _ => hS) ?_
        clear hK K
        try simp only [Act.put, List.setIfInBounds_toArray, List.set_cons_zero, List.set_cons_succ, List.getElem_toArray, List.getElem_cons_zero, List.getElem_cons_succ]
        refine wpN_step (i := 44) (by kernel_rfl) rfl (fun K hK => ?_)
        go_simp
        refine hK.out _ _ (fun _ => hS) ?_
        clear hK K
        try simp only [Act.put, List.setIfInBounds_toArray, List.set_cons_zero, List.set_cons_succ, List.getElem_toArray, List.getElem_cons_zero, List.getElem_cons_succ]
        refine wpN_step (i := 45) (by kernel_rfl) rfl (fun K hK => ?_)
        go_simp
        refine hK.out _ _ (fun _ => hS) ?_
        clear hK K
        try simp only [Act.put, List.setIfInBounds_toArray, List.set_cons_zero, List.set_cons_succ, List.getElem_toArray, List.getElem_cons_zero, List.getElem_cons_succ]
        refine wpN_take (i := 46) (v := ?v42) rfl (by kernel_rfl) (fun _ _ _ h => h) hS (Or.inl ⟨by rfl, ?hy42⟩) ?hr42
        case hy42 => (intro wS hSw; (try dsimp only at hSw); go_simp; (try with_reducible rfl))
        try simp only [Act.put, List.setIfInBounds_toArray, List.set_cons_zero, List.set_cons_succ, List.getElem_toArray, List.getElem_cons_zero, List.getElem_cons_succ]
        refine wpN_take (i := 47) (v := ?v43) rfl (by kernel_rfl) (fun _ _ _ h => h) hS (Or.inl ⟨by rfl, ?hy43⟩) ?hr43
        case hy43 => (intro wS hSw; (try dsimp only at hSw); go_simp; (try with_reducible rfl))
        try simp only [Act.put, List.setIfInBounds_toArray, List.set_cons_zero, List.set_cons_succ, List.getElem_toArray, List.getElem_cons_zero, List.getElem_cons_succ]
        refine wpN_step (i := 48) (by kernel_rfl) rfl (fun K hK => ?_)
        go_simp
        have Cr := compare_k _ _ _ _ _ G1_v9.out _ _ _ _ _ G1_v9.out v9 (Keep.refl _ _) (Keep.refl _ _) (by have := Hr.out; omega) (by have := Hr.out; omega)
        rw [Ty.cmp_self] at Cr
        refine Cr.mono ?_
        clear Cr
        rintro e v10 ⟨rfl, hbx⟩
        have x1_v10 := x1_v9.below hbx
        have x2_v10 := x2_v9.below hbx
        have y1_v10 := y1_v9.below hbx
        have y2_v10 := y2_v9.below hbx
        have y3_v10 := y3_v9.below hbx
        have G1_v10 := Lib.hid (G1_v9.out.bel hbx)
        have G2_v10 := Lib.hid (G2_v9.out.bel hbx)
        have G3_v10 := Lib.hid (G3_v9.out.bel hbx)
        have R1_v10 := Lib.hid (R1_v9.out.bel hbx)
        have R2_v10 := Lib.hid (R2_v9.out.bel hbx)
        have B_v10 := B_v9.trans (hbx.mono B_v9.size)
        clear x1_v9 x2_v9 y1_v9 y2_v9 y3_v9 G1_v9 G2_v9 G3_v9 R1_v9 R2_v9 B_v9
        clear hbx
        have hS : (v10).cell? ⟨w.heap.size, 0, none⟩ = some (.slice a1 l1 c1) ∧ (v10).cell? ⟨w.heap.size, 1, none⟩ = some (.int .i64 d1) ∧ (v10).cell? ⟨w.heap.size + 1, 0, none⟩ = some (.slice a2 l2 c2) ∧ (v10).cell? ⟨w.heap.size + 1, 1, none⟩ = some (.int .i64 d2) ∧ (v10).cell? ⟨p6, 0, none⟩ = some (.slice A1 l1 C1) ∧ (v10).cell? ⟨p6, 1, none⟩ = some (.int .i64 d1) ∧ (v10).cell? ⟨p7, 0, none⟩ = some (.slice A2 l2 C2) ∧ (v10).cell? ⟨p7, 1, none⟩ = some (.int .i64 d2) ∧ (v10).cell? ⟨p8, 0, none⟩ = some (.slice A3 l3 C3) ∧ (v10).cell? ⟨p8, 1, none⟩ = some (.int .i64 d3) := ⟨x1_v10.cell rfl, x1_v10.cell rfl, x2_v10.cell rfl, x2_v10.cell rfl, y1_v10.cell rfl, y1_v10.cell rfl, y2_v10.cell rfl, y2_v10.cell rfl, y3_v10.cell rfl, y3_v10.cell rfl⟩
        refine hK.out _ _ (fun _ => hS) ?_
        clear hK K
        try simp only [Act.put, List.setIfInBounds_toArray, List.set_cons_zero, List.set_cons_succ, List.getElem_toArray, List.getElem_cons_zero, List.getElem_cons_succ]
        refine wpN_take (i := 49) (v := ?v44) rfl (by kernel_rfl) (fun _ _ _ h => h) hS (Or.inl ⟨by rfl, ?hy44⟩) ?hr44
        case hy44 => (intro wS hSw; (try dsimp only at hSw); go_simp; (try with_reducible rfl))
        try simp only [Act.put, List.setIfInBounds_toArray, List.set_cons_zero, List.set_cons_succ, List.getElem_toArray, List.getElem_cons_zero, List.getElem_cons_succ]
        refine wpN_take (i := 50) (v := ?v45) rfl (by kernel_rfl) (fun _ _ _ h => h) hS (Or.inl ⟨by rfl, ?hy45⟩) ?hr45
        case hy45 => (intro wS hSw; (try dsimp only at hSw); go_simp; (try with_reducible rfl))
        try simp only [Act.put, List.setIfInBounds_toArray, List.set_cons_zero, List.set_cons_succ, List.getElem_toArray, List.getElem_cons_zero, List.getElem_cons_succ]
        refine wpN_step (i := 51) (by kernel_rfl) rfl (fun K hK => ?_)
        go_simp
        refine hK.out _ _ (fun h => absurd h (by decide)) ?_
        clear hK K
        try simp only [Act.put, List.setIfInBounds_toArray, List.set_cons_zero, List.set_cons_succ, List.getElem_toArray, List.getElem_cons_zero, List.getElem_cons_succ]
        refine wpN_done (by kernel_rfl) ?_
        refine NoPanic.normal ?_
        go_wp2_with fail
        go_ret
        exact ⟨rfl, B_v10⟩
      · have g3 : k ≤ 0 := Htri.out (by omega) (by omega)
        refine wpN_step (i := 34) (by kernel_rfl) rfl (fun K hK => ?_)
        go_simp
        refine hK.out _ _ (fun _ => hS) ?_
        clear hK K
        try simp only [Act.put, List.setIfInBounds_toArray, List.set_cons_zero, List.set_cons_succ, List.getElem_toArray, List.getElem_cons_zero, List.getElem_cons_succ]
        refine wpN_step (i := 35) (by kernel_rfl) rfl (fun K hK => ?_)
        go_simp
        refine hK.out _ _ (fun _ => hS) ?_
        clear hK K
        try simp only [Act.put, List.setIfInBounds_toArray, List.set_cons_zero, List.set_cons_succ, List.getElem_toArray, List.getElem_cons_zero, List.getElem_cons_succ]
        refine wpN_step (i := 36) (by kernel_rfl) rfl (fun K hK => ?_)
        go_simp
        refine hK.out _ _ (fun _ => hS) ?_
        clear hK K
        try simp only [Act.put, List.setIfInBounds_toArray, List.set_cons_zero, List.set_cons_succ, List.getElem_toArray, List.getElem_cons_zero, List.getElem_cons_succ]
        refine wpN_step (i := 37) (by kernel_rfl) rfl (fun K hK => ?_)
        go_simp
        refine hK.out _ _ (fun _ => hS) ?_
        clear hK K
        try simp only [Act.put, List.setIfInBounds_toArray, List.set_cons_zero, List.set_cons_succ, List.getElem_toArray, List.getElem_cons_zero, List.getElem_cons_succ]
        refine wpN_step (i := 38) (by kernel_rfl) rfl (fun K hK => ?_)
        go_simp
        refine hK.out _ _ (fun _ => hS) ?_
        clear hK K
        try simp only [Act.put, List.setIfInBounds_toArray, List.set_cons_zero, List.set_cons_succ, List.getElem_toArray, List.getElem_cons_zero, List.getElem_cons_succ]
        refine wpN_step (i := 39) (by kernel_rfl) rfl (fun K hK => ?_)
        go_simp
        refine hK.out _ _ (fun _ => hS) ?_
        clear hK K
        try simp only [Act.put, List.setIfInBounds_toArray, List.set_cons_zero, List.set_cons_succ, List.getElem_toArray, List.getElem_cons_zero, List.getElem_cons_succ]
        refine wpN_step (i := 40) (by kernel_rfl) rfl (fun K hK => ?_)
        go_simp
        refine hK.out _ _ (fun _ => hS) ?_
        clear hK K
        try simp only [Act.put, List.setIfInBounds_toArray, List.set_cons_zero, List.set_cons_succ, List.getElem_toArray, List.getElem_cons_zero, List.getElem_cons_succ]
        refine wpN_step (i := 41) (by kernel_rfl) rfl (fun K hK => ?_)
        go_simp
        refine hK.out _ _ (fun _ => hS) ?_
        clear hK K
        try simp only [Act.put, List.setIfInBounds_toArray, List.set_cons_zero, List.set_cons_succ, List.getElem_toArray, List.getElem_cons_zero, List.getElem_cons_succ]
        refine wpN_step (i := 42) (by kernel_rfl) rfl (fun K hK => ?_)
        go_simp
        refine hK.out _ _ (fun _ => hS) ?_
        clear hK K
        try simp only [Act.put, List.setIfInBounds_toArray, List.set_cons_zero, List.set_cons_succ, List.getElem_toArray, List.getElem_cons_zero, List.getElem_cons_succ]
        refine wpN_step (i := 43) (by kernel_rfl) rfl (fun K hK => ?_)
        go_simp
        refine hK.out _ _ (fun _ => hS) ?_
        clear hK K
        try simp only [Act.put, List.setIfInBounds_toArray, List.set_cons_zero, List.set_cons_succ, List.getElem_toArray, List.getElem_cons_zero, List.getElem_cons_succ]
        refine wpN_step (i := 44) (by kernel_rfl) rfl (fun K hK => ?_)
        go_simp
        refine hK.out _ _ (fun _ => hS) ?_
        clear hK K
        try simp only [Act.put, List.setIfInBounds_toArray, List.set_cons_zero, List.set_cons_succ, List.getElem_toArray, List.getElem_cons_zero, List.getElem_cons_succ]
        refine wpN_step (i := 45) (by kernel_rfl) rfl (fun K hK => ?_)
        go_simp
        refine hK.out _ _ (fun _ => hS) ?_
        clear hK K
        try simp only [Act.put, List.setIfInBounds_toArray, List.set_cons_zero, List.set_cons_succ, List.getElem_toArray, List.getElem_cons_zero, List.getElem_cons_succ]
        refine wpN_take (i := 46) (v := ?v46) rfl (by kernel_rfl) (fun _ _ _ h => h) hS (Or.inl ⟨by rfl, ?hy46⟩) ?hr46
        case hy46 => (intro wS hSw; (try dsimp only at hSw); go_simp; (try with_reducible rfl))
        try simp only [Act.put, List.setIfInBounds_toArray, List.set_cons_zero, List.set_cons_succ, List.getElem_toArray, List.getElem_cons_zero, List.getElem_cons_succ]
        refine wpN_take (i := 47) (v := ?v47) rfl (by kernel_rfl) (fun _ _ _ h => h) hS (Or.inl ⟨by rfl, ?hy47⟩) ?hr47
        case hy47 => (intro wS hSw; (try dsimp only at hSw); go_simp; (try with_reducible rfl))
        try simp only [Act.put, List.setIfInBounds_toArray, List.set_cons_zero, List.set_cons_succ, List.getElem_toArray, List.getElem_cons_zero, List.getElem_cons_succ]
        refine wpN_step (i := 48) (by kernel_rfl) rfl (fun K hK => ?_)
        go_simp
        have Cr := compare_k _ _ _ _ _ G1_v9.out _ _ _ _ _ G1_v9.out v9 (Keep.refl _ _) (Keep.refl _ _) (by have := Hr.out; omega) (by have := Hr.out; omega)
        rw [Ty.cmp_self] at Cr
        refine Cr.mono ?_
        clear Cr
        rintro e v10 ⟨rfl, hbx⟩
        have x1_v10 := x1_v9.below hbx
        have x2_v10 := x2_v9.below hbx
        have y1_v10 := y1_v9.below hbx
        have y2_v10 := y2_v9.below hbx
        have y3_v10 := y3_v9.below hbx
        have G1_v10 := Lib.hid (G1_v9.out.bel hbx)
        have G2_v10 := Lib.hid (G2_v9.out.bel hbx)
        have G3_v10 := Lib.hid (G3_v9.out.bel hbx)
        have R1_v10 := Lib.hid (R1_v9.out.bel hbx)
        have R2_v10 := Lib.hid (R2_v9.out.bel hbx)
        have B_v10 := B_v9.trans (hbx.mono B_v9.size)
        clear x1_v9 x2_v9 y1_v9 y2_v9 y3_v9 G1_v9 G2_v9 G3_v9 R1_v9 R2_v9 B_v9
        clear hbx
        have hS : (v10).cell? ⟨w.heap.size, 0, none⟩ = some (.slice a1 l1 c1) ∧ (v10).cell? ⟨w.heap.size, 1, none⟩ = some (.int .i64 d1) ∧ (v10).cell? ⟨w.heap.size + 1, 0, none⟩ = some (.slice a2 l2 c2) ∧ (v10).cell? ⟨w.heap.size + 1, 1, none⟩ = some (.int .i64 d2) ∧ (v10).cell? ⟨p6, 0, none⟩ = some (.slice A1 l1 C1) ∧ (v10).cell? ⟨p6, 1, none⟩ = some (.int .i64 d1) ∧ (v10).cell? ⟨p7, 0, none⟩ = some (.slice A2 l2 C2) ∧ (v10).cell? ⟨p7, 1, none⟩ = some (.int .i64 d2) ∧ (v10).cell? ⟨p8, 0, none⟩ = some (.slice A3 l3 C3) ∧ (v10).cell? ⟨p8, 1, none⟩ = some (.int .i64 d3) := ⟨x1_v10.cell rfl, x1_v10.cell rfl, x2_v10.cell rfl, x2_v10.cell rfl, y1_v10.cell rfl, y1_v10.cell rfl, y2_v10.cell rfl, y2_v10.cell rfl, y3_v10.cell rfl, y3_v10.cell rfl⟩
        refine hK.out _ _ (fun _ => hS) ?_
        clear hK K
        try simp only [Act.put, List.setIfInBounds_toArray, List.set_cons_zero, List.set_cons_succ, List.getElem_toArray, List.getElem_cons_zero, List.getElem_cons_succ]
        refine wpN_take (i := 49) (v := ?v48) rfl (by kernel_rfl) (fun _ _ _ h => h) hS (Or.inl ⟨by rfl, ?hy48⟩) ?hr48
        case hy48 => (intro wS hSw; (try dsimp only at hSw); go_simp; (try with_reducible rfl))
        try simp only [Act.put, List.setIfInBounds_toArray, List.set_cons_zero, List.set_cons_succ, List.getElem_toArray, List.getElem_cons_zero, List.getElem_cons_succ]
        refine wpN_take (i := 50) (v := ?v49) rfl (by kernel_rfl) (fun _ _ _ h => h) hS (Or.inl ⟨by rfl, ?hy49⟩) ?hr49
        case hy49 => (intro wS hSw; (try dsimp only at hSw); go_simp; (try with_reducible rfl))
        try simp only [Act.put, List.setIfInBounds_toArray, List.set_cons_zero, List.set_cons_succ, List.getElem_toArray, List.getElem_cons_zero, List.getElem_cons_succ]
        refine wpN_step (i := 51) (by kernel_rfl) rfl (fun K hK => ?_)
        go_simp
        refine hK.out _ _ (fun h => absurd h (by decide)) ?_
        clear hK K
        try simp only [Act.put, List.setIfInBounds_toArray, List.set_cons_zero, List.set_cons_succ, List.getElem_toArray, List.getElem_cons_zero, List.getElem_cons_succ]
        refine wpN_done (by kernel_rfl) ?_
        refine NoPanic.normal ?_
        go_wp2_with fail
        go_ret
        exact ⟨rfl, B_v10⟩
end Go.Proofs.Ytejpgifofkiofaa
