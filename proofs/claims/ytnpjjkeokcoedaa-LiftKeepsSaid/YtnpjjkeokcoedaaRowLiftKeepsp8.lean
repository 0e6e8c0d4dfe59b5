/-
  LiftKeeps: what the law asks, in plain words; the pair's types by the program alone. LiftKeeps, walked in the deep way.
-/
import Derived.Test.YtnpjjkeokcoedaaRowLiftKeepsp7
import Derived.Test.YtnpjjkeokcoedaaRowLiftKeepsp1
set_option maxRecDepth 100000
set_option maxHeartbeats 1000000
set_option linter.unusedVariables false
set_option linter.unusedSimpArgs false
namespace Go.Proofs.Ytnpjjkeokcoedaa
open Go.RowKit
def TLM_43 : TI := ⟨4, true, [Value.slice none 0 0, Value.int IntKind.i64 0, Value.int IntKind.i64 0, Value.slice none 0 0], [(0, 1, false), (1, 2, true), (3, 1, false)], none, 64, 6, none, false⟩
theorem TLM_43_ok : TypOk Try.prog 43 TLM_43 := ⟨by kernel_rfl, by kernel_rfl, by kernel_rfl, by kernel_rfl, by kernel_rfl⟩
def TLM_38 : TI := ⟨3, true, [Value.int IntKind.i64 0, Value.slice none 0 0, Value.slice none 0 0], [(0, 1, false), (1, 1, false), (2, 1, false)], none, 56, 6, none, false⟩
theorem TLM_38_ok : TypOk Try.prog 38 TLM_38 := ⟨by kernel_rfl, by kernel_rfl, by kernel_rfl, by kernel_rfl, by kernel_rfl⟩
def TLM_45 : TI := ⟨9, true, [Value.slice none 0 0, Value.int IntKind.i64 0, Value.int IntKind.i64 0, Value.slice none 0 0, Value.slice none 0 0, Value.int IntKind.i64 0, Value.int IntKind.i64 0, Value.slice none 0 0, Value.slice none 0 0], [(0, 4, true), (4, 4, true), (8, 1, false)], none, 152, 6, none, false⟩
theorem TLM_45_ok : TypOk Try.prog 45 TLM_45 := ⟨by kernel_rfl, by kernel_rfl, by kernel_rfl, by kernel_rfl, by kernel_rfl⟩
def TLM_36 : TI := ⟨1, false, [Value.slice none 0 0], [], some 52, 24, 5, none, false⟩
theorem TLM_36_ok : TypOk Try.prog 36 TLM_36 := ⟨by kernel_rfl, by kernel_rfl, by kernel_rfl, by kernel_rfl, by kernel_rfl⟩
def TLM_52 : TI := ⟨2, true, [Value.slice none 0 0, Value.int IntKind.i64 0], [(0, 1, false), (1, 1, false)], none, 32, 6, none, false⟩
theorem TLM_52_ok : TypOk Try.prog 52 TLM_52 := ⟨by kernel_rfl, by kernel_rfl, by kernel_rfl, by kernel_rfl, by kernel_rfl⟩
def TLM_3 : TI := ⟨1, false, [Value.int IntKind.i64 0], [], none, 8, 2, none, false⟩
theorem TLM_3_ok : TypOk Try.prog 3 TLM_3 := ⟨by kernel_rfl, by kernel_rfl, by kernel_rfl, by kernel_rfl, by kernel_rfl⟩
def TLM_48 : TI := ⟨1, false, [Value.int IntKind.i64 0], [], none, 8, 2, none, false⟩
theorem TLM_48_ok : TypOk Try.prog 48 TLM_48 := ⟨by kernel_rfl, by kernel_rfl, by kernel_rfl, by kernel_rfl, by kernel_rfl⟩
def TLM : List (Nat × TI) := [(43, TLM_43), (38, TLM_38), (45, TLM_45), (36, TLM_36), (52, TLM_52), (3, TLM_3), (48, TLM_48)]
theorem TLM_ok : TabOk Try.prog TLM := ((((((((TabOk.nil _).cons TLM_48_ok).cons TLM_3_ok).cons TLM_52_ok).cons TLM_36_ok).cons TLM_45_ok).cons TLM_38_ok).cons TLM_43_ok)
namespace Li
theorem looses_none {l : List Int} (h : ∀ x ∈ l, x < 0) : l.foldl looseL 0 = 0 := by
  induction l with
  | nil => rfl
  | cons x l ih =>
    have hx := h x (by simp)
    have : looseL 0 x = 0 := by
      unfold looseL
      rw [if_neg (show ¬ x > 1000 by omega), if_neg (by omega)]
    rw [List.foldl_cons, this]
    exact ih fun y hy => h y (by simp [hy])
theorem isOf_lo {C M : List Ty} {t : Tm} {u : Ty} (h : IsOf C M t [] u) : (t.looses 0).foldl looseL 0 = 0 :=
  looses_none fun x hx => by
    have := isOf_loose (X := []) t [] u (by simpa using h) x hx
    simpa using this
theorem isOf_tyOf {C M : List Ty} {t : Tm} {v : Ty} (h : IsOf C M t [] v) : tyOf C M t = some v := by
  obtain ⟨b, k, i, a⟩ := t
  obtain ⟨vs, vb⟩ := v
  obtain ⟨h1, x, h2, h3, _⟩ := isOf_mk.1 h
  simp only [args_mk', base_mk'] at h1 h3
  subst h1
  unfold tyOf
  simp only [bindsT, kindT, indexT]
  rw [h2, Option.map_some, h3]
theorem may_good {b : Int} {C : List Ty} {p : Pr} (B : List Ty) (h : Ru.Good b C p) : may p.l p.r p.m B = 0 ∨ may p.l p.r p.m B = 2 := by
  obtain ⟨_, _, _, u, _, _, h1, h2⟩ := h
  have l1 : lo p.l = false := by unfold lo; rw [isOf_lo h1]; rfl
  have l2 : lo p.r = false := by unfold lo; rw [isOf_lo h2]; rfl
  have hm : ((sortU (metasL [p.l, p.r])).any fun x => decide (x < 0 ∨ (p.m.length : Int) ≤ x)) = false := by
    rw [List.any_eq_false]
    intro x hx
    rw [(sortU_spec _).2] at hx
    unfold metasL at hx
    simp only [List.flatMap_cons, List.flatMap_nil, List.append_nil, List.mem_append] at hx
    rw [decide_eq_true_eq]
    rcases hx with hx | hx
    · have := metas_in _ _ _ h1 0 1 x hx; omega
    · have := metas_in _ _ _ h2 0 1 x hx; omega
  unfold may
  rw [l1, l2, if_neg (by simp), if_neg (by rw [hm]; simp)]
  split
  · exact .inr rfl
  · exact .inl rfl
structure Kept (C B : List Ty) (p q : Pr) : Prop where
  e : q = ⟨cl (lif B p.l 0) B, cl (lif B p.r 0) B, p.m.map (arr B)⟩
  m : q.m = p.m.map (arr B)
  l : rt q.l = true
  r : rt q.r = true
  u : ∃ v : Ty, v.args = B ∧ IsOf C q.m q.l [] v ∧ IsOf C q.m q.r [] v
  pl : (Pn.uses q.l [] []).2 = (Pn.uses p.l [] []).2
  pr : (Pn.uses q.r [] []).2 = (Pn.uses p.r [] []).2
theorem closed_good {b : Int} {C B : List Ty} {p : Pr} (h : Ru.Good b C p) (hl : (p.l.full : Int) + B.length ≤ 1000) (hr : (p.r.full : Int) + B.length ≤ 1000) :
    ((closed p B).2 = 0 ∧ Kept C B p (closed p B).1) ∨ (closed p B).2 = 2 := by
  unfold closed
  by_cases ho : (over p B).2 = 0
  · rw [if_neg (fun h => h ho)]
    obtain ⟨_, h2, _⟩ := over_at ho
    rw [h2]
    obtain ⟨q, hq⟩ : ∃ q, clP (up p B) B = q := ⟨_, rfl⟩
    rw [hq]
    unfold done
    by_cases hd : (rt q.l && rt q.r) = true
    · rw [if_pos hd]
      refine .inl ⟨rfl, ?_⟩
      rw [Bool.and_eq_true] at hd
      subst hq
      obtain ⟨_, _, _, u, _, hu, h1, h2⟩ := h
      have g1 := lif_isOf (B := B) p.l [] u (by simpa using hl) h1
      have g2 := lif_isOf (B := B) p.r [] u (by simpa using hr) h2
      rw [List.append_nil] at g1 g2
      refine ⟨rfl, rfl, hd.1, hd.2, ⟨arr B u, ?_, cl_isOf g1, cl_isOf g2⟩, uses_closed hl h1, uses_closed hr h2⟩
      show B ++ u.args = B
      rw [hu, List.append_nil]
    · rw [if_neg hd]; exact .inr rfl
  · rw [if_pos ho]
    right
    show (over p B).2 = 2
    unfold over at ho ⊢
    rcases may_good B h with h0 | h2
    · rw [if_neg (fun h => h h0)] at ho ⊢
      unfold done at ho ⊢
      split at ho
      · exact absurd rfl ho
      · rw [if_neg (by assumption)]
    · rw [if_pos (by omega)]; exact h2
end Li
theorem kright_d (t : Ty) (n : Int) (c : Bool) (hc : c = true ↔ t.size ≤ 1000 ∧ t.depth ≤ 60 ∧ Ty.Low n t) (hz : t.size ≤ 500000) : PureC Try.prog 12 [.ag (eTy t), .v (.int .i64 n)] (.v (.bool c)) := by
  refine pure_below (by kernel_rfl) fun m Im w vs hv => ?_
  match vs, hv with
  | [x1, x2], hv =>
    obtain ⟨s, b, rfl, h1⟩ := agTy hv.1
    cases hv.2.1
    refine (right_k h1 n hz).mono ?_
    rintro e w' ⟨c', hc', rfl, hb⟩
    have : c' = c := by rw [Bool.eq_iff_iff, hc', hc]
    subst this
    exact ⟨_, rfl, hb, fun _ _ _ => .v _⟩
set_option maxHeartbeats 4000000 in
theorem rutypedC_d (b : Int) (C Mw : List Ty) (p : Li.Pr) (hl : p.l.full ≤ 20000 ∧ p.l.Fit) (hr : p.r.full ≤ 20000 ∧ p.r.Fit) (hC : C.length ≤ 900000) (hM : p.m.length ≤ 900000) (hs : ∀ t ∈ C ++ p.m, t.size ≤ 400000) :
  ∃ c : Int, (c = 0 ↔ Ru.Good b C p) ∧ PureC Try.prog 11 [.ag [.v (.int .i64 b), .sl 2 (eTys C) none, .sl 2 (eTys Mw) none], .ag (ePr p)] (.v (.int .i64 c)) := by
 obtain ⟨w, hw⟩ : ∃ w : Bool, w = true ↔ RightWd b C p.m := by
  by_cases h : RightWd b C p.m
  ·exact ⟨true, by simp [h]⟩
  ·exact ⟨false, by simp [h]⟩
 have hW1 := tworld_d b C p.m w hw hs
 have r1 := right_d p.l (by omega)
 have r2 := right_d p.r (by omega)
 rw [show decide (p.l.size ≤ 5000 ∧ p.l.depth ≤ 60) = Li.rt p.l from rfl] at r1
 rw [show decide (p.r.size ≤ 5000 ∧ p.r.depth ≤ 60) = Li.rt p.r from rfl] at r2
 have t1 := ttype_d b C p.m p.l (by have := hl.2; generalize p.l = t at this; cases t; exact (Tm.fit_iff.1 this).2.1) (by omega) (by omega) (by omega)
 rw [ePr_at]
 rw [eTm_eq] at r1 r2 t1
 cases w with
 | false =>
  refine ⟨1, ⟨fun h => absurd h (by decide), fun h => absurd (hw.2 h.w) (by simp)⟩, ?_⟩
  ·skip
   refine calldw 0 59 [ResultVar.tmp 4] TLM_ok Try.func11 rfl Try.ntmps11 rfl fun cx hnt hn0 => ?_
   ·skip
    refine dw_seq ?_; refine dwk [] TLM_ok hnt fun K hK => ?_; refine hK _ _ ?_; clear hK K; refine dw_seq ?_; refine dwk [] TLM_ok hnt fun K hK => ?_; refine hK _ _ ?_; clear hK K; refine dw_seq ?_; refine dw_block ?_; refine dw_seq ?_; refine dwk [] TLM_ok hnt fun K hK => ?_; refine dcl (hW1) ?_; refine hK _ _ ?_; clear hK K; refine dw_cond (t := true) rfl ?_; rw [if_pos rfl]; refine dw_seq ?_; refine dwk [] TLM_ok hnt fun K hK => ?_
    refine hK _ _ ?_; clear hK K; refine dw_ret ?_
    exact reta rfl
 | true =>
 cases hL : Li.rt p.l with
 | false =>
  rw [hL] at r1
  refine ⟨2, ⟨fun h => absurd h (by decide), fun h => absurd h.l (by rw [hL]; simp)⟩, ?_⟩
  ·skip
   refine calldw 0 59 [ResultVar.tmp 4] TLM_ok Try.func11 rfl Try.ntmps11 rfl fun cx hnt hn0 => ?_
   ·skip
    refine dw_seq ?_; refine dwk [] TLM_ok hnt fun K hK => ?_; refine hK _ _ ?_; clear hK K; refine dw_seq ?_; refine dwk [] TLM_ok hnt fun K hK => ?_; refine hK _ _ ?_; clear hK K; refine dw_seq ?_; refine dw_block ?_; refine dw_seq ?_; refine dwk [] TLM_ok hnt fun K hK => ?_; refine dcl (hW1) ?_; refine hK _ _ ?_; clear hK K; refine dw_cond (t := false) rfl ?_; rw [if_neg (by simp)]; refine dw_seq ?_
    refine dwk [] TLM_ok hnt fun K hK => ?_; refine dcl (r1) ?_; refine hK _ _ ?_; clear hK K; refine dw_cond (t := true) rfl ?_; rw [if_pos rfl]; refine dw_seq ?_; refine dwk [] TLM_ok hnt fun K hK => ?_; refine hK _ _ ?_; clear hK K; refine dw_ret ?_
    exact reta rfl
 | true =>
 rw [hL] at r1
 cases hR : Li.rt p.r with
 | false =>
  rw [hR] at r2
  refine ⟨2, ⟨fun h => absurd h (by decide), fun h => absurd h.r (by rw [hR]; simp)⟩, ?_⟩
  ·skip
   refine calldw 0 59 [ResultVar.tmp 4] TLM_ok Try.func11 rfl Try.ntmps11 rfl fun cx hnt hn0 => ?_
   ·skip
    refine dw_seq ?_; refine dwk [] TLM_ok hnt fun K hK => ?_; refine hK _ _ ?_; clear hK K; refine dw_seq ?_; refine dwk [] TLM_ok hnt fun K hK => ?_; refine hK _ _ ?_; clear hK K; refine dw_seq ?_; refine dw_block ?_; refine dw_seq ?_; refine dwk [] TLM_ok hnt fun K hK => ?_; refine dcl (hW1) ?_; refine hK _ _ ?_; clear hK K; refine dw_cond (t := false) rfl ?_; rw [if_neg (by simp)]; refine dw_seq ?_
    refine dwk [] TLM_ok hnt fun K hK => ?_; refine dcl (r1) ?_; refine dcl (r2) ?_; refine hK _ _ ?_; clear hK K; refine dw_cond (t := true) rfl ?_; rw [if_pos rfl]; refine dw_seq ?_; refine dwk [] TLM_ok hnt fun K hK => ?_; refine hK _ _ ?_; clear hK K; refine dw_ret ?_
    exact reta rfl
 | true =>
 rw [hR] at r2
 obtain ⟨o, ho⟩ : ∃ o, tyOf C p.m p.l = o := ⟨_, rfl⟩
 rw [ho] at t1
 cases o with
 | none =>
  simp only [Option.getD_none, Option.isSome_none, Bool.false_eq_true, if_false] at t1
  rw [tyZ_eq] at t1
  refine ⟨5, ⟨fun h => absurd h (by decide), fun h => (by obtain ⟨u, h, _⟩ := h.u; rw [ho] at h; cases h)⟩, ?_⟩
  ·skip
   refine calldw 0 59 [ResultVar.tmp 4] TLM_ok Try.func11 rfl Try.ntmps11 rfl fun cx hnt hn0 => ?_
   ·skip
    refine dw_seq ?_; refine dwk [] TLM_ok hnt fun K hK => ?_; refine hK _ _ ?_; clear hK K; refine dw_seq ?_; refine dwk [] TLM_ok hnt fun K hK => ?_; refine hK _ _ ?_; clear hK K; refine dw_seq ?_; refine dw_block ?_; refine dw_seq ?_; refine dwk [] TLM_ok hnt fun K hK => ?_; refine dcl (hW1) ?_; refine hK _ _ ?_; clear hK K; refine dw_cond (t := false) rfl ?_; rw [if_neg (by simp)]; refine dw_seq ?_
    refine dwk [] TLM_ok hnt fun K hK => ?_; refine dcl (r1) ?_; refine dcl (r2) ?_; refine hK _ _ ?_; clear hK K; refine dw_cond (t := false) rfl ?_; rw [if_neg (by simp)]; refine dw_skip ?_; refine dw_seq ?_; refine dwk [] TLM_ok hnt fun K hK => ?_; refine dcl (t1) ?_; refine hK _ _ ?_; clear hK K; refine dw_seq ?_; refine dw_seq ?_; refine dwk [(39, .v (.bool true))] TLM_ok hnt fun K hK => ?_; refine And.intro (bneT (by decide)) ?_
    refine hK _ _ ?_; clear hK K; refine dw_cond (t := true) rfl ?_; rw [if_pos rfl]; refine dw_seq ?_; refine dwk [] TLM_ok hnt fun K hK => ?_; refine hK _ _ ?_; clear hK K; refine dw_ret ?_
    exact reta rfl
 | some u =>
 simp only [Option.getD_some, Option.isSome_some, if_true] at t1
 rw [eTy_eq] at t1
 by_cases hu : u.args = []
 ·have hu0 : u.args.length = 0 := by rw [hu]; rfl
  by_cases hi1 : IsOf C p.m p.l [] u
  ·have k1 := ruclos_d b C p.m u p.l 0 (by omega) (by omega) (checkYes hL hi1) (by omega) hl.2
   rw [decide_eq_true rfl] at k1
   rw [eTm_eq] at k1
   by_cases hi2 : IsOf C p.m p.r [] u
   ·have k2 := ruclos_d b C p.m u p.r 0 (by omega) (by omega) (checkYes hR hi2) (by omega) hr.2
    rw [decide_eq_true rfl] at k2
    rw [eTm_eq] at k2
    refine ⟨0, ⟨fun _ => ⟨hw.1 rfl, hL, hR, u, ho, hu, hi1, hi2⟩, fun _ => rfl⟩, ?_⟩
    ·skip
     refine calldw 0 59 [ResultVar.tmp 4] TLM_ok Try.func11 rfl Try.ntmps11 rfl fun cx hnt hn0 => ?_
     ·skip
      refine dw_seq ?_; refine dwk [] TLM_ok hnt fun K hK => ?_; refine hK _ _ ?_; clear hK K; refine dw_seq ?_; refine dwk [] TLM_ok hnt fun K hK => ?_; refine hK _ _ ?_; clear hK K; refine dw_seq ?_; refine dw_block ?_; refine dw_seq ?_; refine dwk [] TLM_ok hnt fun K hK => ?_; refine dcl (hW1) ?_; refine hK _ _ ?_; clear hK K; refine dw_cond (t := false) rfl ?_; rw [if_neg (by simp)]; refine dw_seq ?_
      refine dwk [] TLM_ok hnt fun K hK => ?_; refine dcl (r1) ?_; refine dcl (r2) ?_; refine hK _ _ ?_; clear hK K; refine dw_cond (t := false) rfl ?_; rw [if_neg (by simp)]; refine dw_skip ?_; refine dw_seq ?_; refine dwk [] TLM_ok hnt fun K hK => ?_; refine dcl (t1) ?_; refine hK _ _ ?_; clear hK K; refine dw_seq ?_; refine dw_seq ?_; refine dwk [(39, .v (.bool false)), (43, .v (.int .i64 (↑u.args.length))), (44, .v (.bool false))] TLM_ok hnt fun K hK => ?_
      refine And.intro (bneF rfl) ?_; refine And.intro (dintE (by rw [eTys_len])) ?_; refine And.intro auF ?_; refine hK _ _ ?_; clear hK K; refine dw_cond (t := false) rfl ?_; rw [if_neg (by simp)]; refine dw_skip ?_; refine dw_seq ?_; refine dwk [] TLM_ok hnt fun K hK => ?_; refine hK _ _ ?_; clear hK K; refine dw_seq ?_; refine dw_seq ?_; refine dwk [] TLM_ok hnt fun K hK => ?_; refine dcl (k1) ?_; refine dcl (k2) ?_
      refine hK _ _ ?_; clear hK K; refine dw_cond (t := false) rfl ?_; rw [if_neg (by simp)]; refine dw_skip ?_; refine dw_seq ?_; refine dwk [] TLM_ok hnt fun K hK => ?_; refine hK _ _ ?_; clear hK K; refine dw_ret ?_
      exact reta rfl
   ·have k2 := ruclos_d b C p.m u p.r 5 (by omega) (by omega) (checkNo hR hi2) (by omega) hr.2
    rw [decide_eq_false (by decide)] at k2
    rw [eTm_eq] at k2
    refine ⟨5, ⟨fun h => absurd h (by decide), fun h => (by obtain ⟨u', h, _, _, h4⟩ := h.u; rw [ho] at h; cases h; exact absurd h4 hi2)⟩, ?_⟩
    ·skip
     refine calldw 0 59 [ResultVar.tmp 4] TLM_ok Try.func11 rfl Try.ntmps11 rfl fun cx hnt hn0 => ?_
     ·skip
      refine dw_seq ?_; refine dwk [] TLM_ok hnt fun K hK => ?_; refine hK _ _ ?_; clear hK K; refine dw_seq ?_; refine dwk [] TLM_ok hnt fun K hK => ?_; refine hK _ _ ?_; clear hK K; refine dw_seq ?_; refine dw_block ?_; refine dw_seq ?_; refine dwk [] TLM_ok hnt fun K hK => ?_; refine dcl (hW1) ?_; refine hK _ _ ?_; clear hK K; refine dw_cond (t := false) rfl ?_; rw [if_neg (by simp)]; refine dw_seq ?_
      refine dwk [] TLM_ok hnt fun K hK => ?_; refine dcl (r1) ?_; refine dcl (r2) ?_; refine hK _ _ ?_; clear hK K; refine dw_cond (t := false) rfl ?_; rw [if_neg (by simp)]; refine dw_skip ?_; refine dw_seq ?_; refine dwk [] TLM_ok hnt fun K hK => ?_; refine dcl (t1) ?_; refine hK _ _ ?_; clear hK K; refine dw_seq ?_; refine dw_seq ?_; refine dwk [(39, .v (.bool false)), (43, .v (.int .i64 (↑u.args.length))), (44, .v (.bool false))] TLM_ok hnt fun K hK => ?_
      refine And.intro (bneF rfl) ?_; refine And.intro (dintE (by rw [eTys_len])) ?_; refine And.intro auF ?_; refine hK _ _ ?_; clear hK K; refine dw_cond (t := false) rfl ?_; rw [if_neg (by simp)]; refine dw_skip ?_; refine dw_seq ?_; refine dwk [] TLM_ok hnt fun K hK => ?_; refine hK _ _ ?_; clear hK K; refine dw_seq ?_; refine dw_seq ?_; refine dwk [] TLM_ok hnt fun K hK => ?_; refine dcl (k1) ?_; refine dcl (k2) ?_
      refine hK _ _ ?_; clear hK K; refine dw_cond (t := true) rfl ?_; rw [if_pos rfl]; refine dw_seq ?_; refine dwk [] TLM_ok hnt fun K hK => ?_; refine hK _ _ ?_; clear hK K; refine dw_ret ?_
      exact reta rfl
  ·have k1 := ruclos_d b C p.m u p.l 5 (by omega) (by omega) (checkNo hL hi1) (by omega) hl.2
   rw [decide_eq_false (by decide)] at k1
   rw [eTm_eq] at k1
   refine ⟨5, ⟨fun h => absurd h (by decide), fun h => (by obtain ⟨u', h, _, h3, _⟩ := h.u; rw [ho] at h; cases h; exact absurd h3 hi1)⟩, ?_⟩
   ·skip
    refine calldw 0 59 [ResultVar.tmp 4] TLM_ok Try.func11 rfl Try.ntmps11 rfl fun cx hnt hn0 => ?_
    ·skip
     refine dw_seq ?_; refine dwk [] TLM_ok hnt fun K hK => ?_; refine hK _ _ ?_; clear hK K; refine dw_seq ?_; refine dwk [] TLM_ok hnt fun K hK => ?_; refine hK _ _ ?_; clear hK K; refine dw_seq ?_; refine dw_block ?_; refine dw_seq ?_; refine dwk [] TLM_ok hnt fun K hK => ?_; refine dcl (hW1) ?_; refine hK _ _ ?_; clear hK K; refine dw_cond (t := false) rfl ?_; rw [if_neg (by simp)]; refine dw_seq ?_
     refine dwk [] TLM_ok hnt fun K hK => ?_; refine dcl (r1) ?_; refine dcl (r2) ?_; refine hK _ _ ?_; clear hK K; refine dw_cond (t := false) rfl ?_; rw [if_neg (by simp)]; refine dw_skip ?_; refine dw_seq ?_; refine dwk [] TLM_ok hnt fun K hK => ?_; refine dcl (t1) ?_; refine hK _ _ ?_; clear hK K; refine dw_seq ?_; refine dw_seq ?_; refine dwk [(39, .v (.bool false)), (43, .v (.int .i64 (↑u.args.length))), (44, .v (.bool false))] TLM_ok hnt fun K hK => ?_
     refine And.intro (bneF rfl) ?_; refine And.intro (dintE (by rw [eTys_len])) ?_; refine And.intro auF ?_; refine hK _ _ ?_; clear hK K; refine dw_cond (t := false) rfl ?_; rw [if_neg (by simp)]; refine dw_skip ?_; refine dw_seq ?_; refine dwk [] TLM_ok hnt fun K hK => ?_; refine hK _ _ ?_; clear hK K; refine dw_seq ?_; refine dw_seq ?_; refine dwk [] TLM_ok hnt fun K hK => ?_; refine dcl (k1) ?_; refine hK _ _ ?_; clear hK K
     refine dw_cond (t := true) rfl ?_; rw [if_pos rfl]; refine dw_seq ?_; refine dwk [] TLM_ok hnt fun K hK => ?_; refine hK _ _ ?_; clear hK K; refine dw_ret ?_
     exact reta rfl
 ·have hu0 : 0 < u.args.length := List.length_pos_iff.2 hu
  refine ⟨5, ⟨fun h => absurd h (by decide), fun h => (by obtain ⟨u', h, h2, _⟩ := h.u; rw [ho] at h; cases h; exact absurd h2 hu)⟩, ?_⟩
  ·skip
   refine calldw 0 59 [ResultVar.tmp 4] TLM_ok Try.func11 rfl Try.ntmps11 rfl fun cx hnt hn0 => ?_
   ·skip
    refine dw_seq ?_; refine dwk [] TLM_ok hnt fun K hK => ?_; refine hK _ _ ?_; clear hK K; refine dw_seq ?_; refine dwk [] TLM_ok hnt fun K hK => ?_; refine hK _ _ ?_; clear hK K; refine dw_seq ?_; refine dw_block ?_; refine dw_seq ?_; refine dwk [] TLM_ok hnt fun K hK => ?_; refine dcl (hW1) ?_; refine hK _ _ ?_; clear hK K; refine dw_cond (t := false) rfl ?_; rw [if_neg (by simp)]; refine dw_seq ?_
    refine dwk [] TLM_ok hnt fun K hK => ?_; refine dcl (r1) ?_; refine dcl (r2) ?_; refine hK _ _ ?_; clear hK K; refine dw_cond (t := false) rfl ?_; rw [if_neg (by simp)]; refine dw_skip ?_; refine dw_seq ?_; refine dwk [] TLM_ok hnt fun K hK => ?_; refine dcl (t1) ?_; refine hK _ _ ?_; clear hK K; refine dw_seq ?_; refine dw_seq ?_; refine dwk [(39, .v (.bool false)), (43, .v (.int .i64 (↑u.args.length))), (44, .v (.bool true))] TLM_ok hnt fun K hK => ?_
    refine And.intro (bneF rfl) ?_; refine And.intro (dintE (by rw [eTys_len])) ?_; refine And.intro auT ?_; refine hK _ _ ?_; clear hK K; refine dw_cond (t := true) rfl ?_; rw [if_pos rfl]; refine dw_seq ?_; refine dwk [] TLM_ok hnt fun K hK => ?_; refine hK _ _ ?_; clear hK K; refine dw_ret ?_
    exact reta rfl
end Go.Proofs.Ytnpjjkeokcoedaa

namespace Go.Proofs.Ytnpjjkeokcoedaa
open Go.RowKit
def TLN_45 : TI := ⟨9, true, [Value.slice none 0 0, Value.int IntKind.i64 0, Value.int IntKind.i64 0, Value.slice none 0 0, Value.slice none 0 0, Value.int IntKind.i64 0, Value.int IntKind.i64 0, Value.slice none 0 0, Value.slice none 0 0], [(0, 4, true), (4, 4, true), (8, 1, false)], none, 152, 6, none, false⟩
theorem TLN_45_ok : TypOk Try.prog 45 TLN_45 := ⟨by kernel_rfl, by kernel_rfl, by kernel_rfl, by kernel_rfl, by kernel_rfl⟩
def TLN_43 : TI := ⟨4, true, [Value.slice none 0 0, Value.int IntKind.i64 0, Value.int IntKind.i64 0, Value.slice none 0 0], [(0, 1, false), (1, 2, true), (3, 1, false)], none, 64, 6, none, false⟩
theorem TLN_43_ok : TypOk Try.prog 43 TLN_43 := ⟨by kernel_rfl, by kernel_rfl, by kernel_rfl, by kernel_rfl, by kernel_rfl⟩
def TLN_38 : TI := ⟨3, true, [Value.int IntKind.i64 0, Value.slice none 0 0, Value.slice none 0 0], [(0, 1, false), (1, 1, false), (2, 1, false)], none, 56, 6, none, false⟩
theorem TLN_38_ok : TypOk Try.prog 38 TLN_38 := ⟨by kernel_rfl, by kernel_rfl, by kernel_rfl, by kernel_rfl, by kernel_rfl⟩
def TLN_52 : TI := ⟨2, true, [Value.slice none 0 0, Value.int IntKind.i64 0], [(0, 1, false), (1, 1, false)], none, 32, 6, none, false⟩
theorem TLN_52_ok : TypOk Try.prog 52 TLN_52 := ⟨by kernel_rfl, by kernel_rfl, by kernel_rfl, by kernel_rfl, by kernel_rfl⟩
def TLN_36 : TI := ⟨1, false, [Value.slice none 0 0], [], some 52, 24, 5, none, false⟩
theorem TLN_36_ok : TypOk Try.prog 36 TLN_36 := ⟨by kernel_rfl, by kernel_rfl, by kernel_rfl, by kernel_rfl, by kernel_rfl⟩
def TLN_3 : TI := ⟨1, false, [Value.int IntKind.i64 0], [], none, 8, 2, none, false⟩
theorem TLN_3_ok : TypOk Try.prog 3 TLN_3 := ⟨by kernel_rfl, by kernel_rfl, by kernel_rfl, by kernel_rfl, by kernel_rfl⟩
def TLN_31 : TI := ⟨9, true, [Value.slice none 0 0, Value.int IntKind.i64 0, Value.int IntKind.i64 0, Value.slice none 0 0, Value.slice none 0 0, Value.int IntKind.i64 0, Value.int IntKind.i64 0, Value.slice none 0 0, Value.slice none 0 0], [(0, 4, true), (4, 4, true), (8, 1, false)], none, 152, 6, none, false⟩
theorem TLN_31_ok : TypOk Try.prog 31 TLN_31 := ⟨by kernel_rfl, by kernel_rfl, by kernel_rfl, by kernel_rfl, by kernel_rfl⟩
def TLN_48 : TI := ⟨1, false, [Value.int IntKind.i64 0], [], none, 8, 2, none, false⟩
theorem TLN_48_ok : TypOk Try.prog 48 TLN_48 := ⟨by kernel_rfl, by kernel_rfl, by kernel_rfl, by kernel_rfl, by kernel_rfl⟩
def TLN_24 : TI := ⟨3, true, [Value.int IntKind.i64 0, Value.slice none 0 0, Value.slice none 0 0], [(0, 1, false), (1, 1, false), (2, 1, false)], none, 56, 6, none, false⟩
theorem TLN_24_ok : TypOk Try.prog 24 TLN_24 := ⟨by kernel_rfl, by kernel_rfl, by kernel_rfl, by kernel_rfl, by kernel_rfl⟩
def TLN_22 : TI := ⟨1, false, [Value.slice none 0 0], [], some 69, 24, 5, none, false⟩
theorem TLN_22_ok : TypOk Try.prog 22 TLN_22 := ⟨by kernel_rfl, by kernel_rfl, by kernel_rfl, by kernel_rfl, by kernel_rfl⟩
def TLN_63 : TI := ⟨1, false, [Value.slice none 0 0], [], some 31, 24, 5, none, false⟩
theorem TLN_63_ok : TypOk Try.prog 63 TLN_63 := ⟨by kernel_rfl, by kernel_rfl, by kernel_rfl, by kernel_rfl, by kernel_rfl⟩
def TLN_4 : TI := ⟨1, false, [Value.bool false], [], none, 1, 1, none, false⟩
theorem TLN_4_ok : TypOk Try.prog 4 TLN_4 := ⟨by kernel_rfl, by kernel_rfl, by kernel_rfl, by kernel_rfl, by kernel_rfl⟩
def TLN_69 : TI := ⟨2, true, [Value.slice none 0 0, Value.int IntKind.i64 0], [(0, 1, false), (1, 1, false)], none, 32, 6, none, false⟩
theorem TLN_69_ok : TypOk Try.prog 69 TLN_69 := ⟨by kernel_rfl, by kernel_rfl, by kernel_rfl, by kernel_rfl, by kernel_rfl⟩
def TLN : List (Nat × TI) := [(45, TLN_45), (43, TLN_43), (38, TLN_38), (52, TLN_52), (36, TLN_36), (3, TLN_3), (31, TLN_31), (48, TLN_48), (24, TLN_24), (22, TLN_22), (63, TLN_63), (4, TLN_4), (69, TLN_69)]
theorem TLN_ok : TabOk Try.prog TLN := ((((((((((((((TabOk.nil _).cons TLN_69_ok).cons TLN_4_ok).cons TLN_63_ok).cons TLN_22_ok).cons TLN_24_ok).cons TLN_48_ok).cons TLN_31_ok).cons TLN_3_ok).cons TLN_36_ok).cons TLN_52_ok).cons TLN_38_ok).cons TLN_43_ok).cons TLN_45_ok)
theorem smallX_d (b : Int) (C M X : List Ty) (hX : X.length ≤ 20) : ∃ s : Bool, PureC Try.prog 6 [.ag [.v (.int .i64 b), .sl 2 (eTys C) none, .sl 2 (eTys M) none], .sl 2 (eTys X) none] (.v (.bool s)) ∧ (s = true → C.length ≤ 20 ∧ M.length ≤ 20 ∧ ∀ t ∈ (C ++ M) ++ X, t.size ≤ 60) := by
  by_cases h : C.length ≤ 20 ∧ M.length ≤ 20
  · exact ⟨_, small_d b C M X h.1 h.2 hX, fun hs => ⟨h.1, h.2, fun t ht => fewT60 (List.all_eq_true.1 hs t ht)⟩⟩
  · exact ⟨false, small_no b C M X (fun h2 => h ⟨h2.1, h2.2.1⟩), fun h => by cases h⟩
set_option maxHeartbeats 8000000 in
theorem liftKeeps_d (b : Int) (C Mw : List Ty) (p : Li.Pr) (B0 : List Ty) (hp : p.l.Fit ∧ p.r.Fit) (hB0 : B0.length ≤ 9223372036854775807) : PureC Try.prog 3 [.ag [.v (.int .i64 b), .sl 2 (eTys C) none, .sl 2 (eTys Mw) none], .ag (ePr p), .sl 2 (eTys B0) none] (.v (.bool true)) := by
 have hk := known22_d
 have hF := few17_d [p] (by simp)
 rw [show [p].all fewP = fewP p by simp] at hF
 have eP : ePrs [p] = [[.sl 2 (eTys p.l.binds) none, .v (.int .i64 p.l.kind), .v (.int .i64 p.l.index), .sl 4 (eTms p.l.args) none, .sl 2 (eTys p.r.binds) none, .v (.int .i64 p.r.kind), .v (.int .i64 p.r.index), .sl 4 (eTms p.r.args) none, .sl 2 (eTys p.m) none]] := rfl
 obtain ⟨B, hBe⟩ : ∃ B, B0.take (min B0.length 6) = B := ⟨_, rfl⟩
 have hBl : B.length ≤ 6 := by rw [← hBe, List.length_take]; omega
 have e15 : (eTys B0).take (min B0.length 6) = eTys B := by rw [← hBe, eTys_map, eTys_map, List.map_take]
 obtain ⟨s, hSm, hs⟩ := smallX_d b C Mw B (by omega)
 cases hf : fewP p with
 | false =>
  rw [hf] at hF
  rw [ePr_at]
  refine calldw 0 161 [ResultVar.tmp 6] TLN_ok Try.func3 rfl Try.ntmps3 rfl fun cx hnt hn0 => ?_
  ·skip
   refine dw_seq ?_; refine dwk [] TLN_ok hnt fun K hK => ?_; refine hK _ _ ?_; clear hK K; refine dw_seq ?_; refine dwk [(19, .v (.int .i64 (↑B0.length))), (20, .v (.int .i64 (↑(min B0.length 6)))), (21, .sl 2 (eTys B) none)] TLN_ok hnt fun K hK => ?_; refine And.intro (dintE (by rw [eTys_len])) ?_; refine And.intro (dintE (by omega)) ?_; refine And.intro (⟨by omega, by rw [eTys_len]; omega⟩) ?_; refine And.intro (VLe.of_eq (congrArg (D.sl 2 · none) e15)) ?_
   refine hK _ _ ?_; clear hK K; refine dw_seq ?_; refine dw_seq ?_; refine dwk [(23, .sl 9 (ePrs [p]) none)] TLN_ok hnt fun K hK => ?_; refine And.intro ((by rw [eP]; exact VLe.untag _ _ _)) ?_; refine dcl (hF) ?_; refine hK _ _ ?_; clear hK K; refine dw_cond (t := true) rfl ?_; rw [if_pos rfl]; refine dw_seq ?_; refine dwk [] TLN_ok hnt fun K hK => ?_; refine dcl (hk) ?_; refine hK _ _ ?_; clear hK K
   refine dw_ret ?_
   exact reta rfl
 | true =>
 rw [hf] at hF
 obtain ⟨⟨f1, f2⟩, f3, f4⟩ := fewP_ok hf
 have hW := rwt_d p (by omega) (by omega)
 by_cases hw : Ru.wt p > 60
 ·rw [ePr_at] at hW ⊢
  refine calldw 0 161 [ResultVar.tmp 6] TLN_ok Try.func3 rfl Try.ntmps3 rfl fun cx hnt hn0 => ?_
  ·skip
   refine dw_seq ?_; refine dwk [] TLN_ok hnt fun K hK => ?_; refine hK _ _ ?_; clear hK K; refine dw_seq ?_; refine dwk [(19, .v (.int .i64 (↑B0.length))), (20, .v (.int .i64 (↑(min B0.length 6)))), (21, .sl 2 (eTys B) none)] TLN_ok hnt fun K hK => ?_; refine And.intro (dintE (by rw [eTys_len])) ?_; refine And.intro (dintE (by omega)) ?_; refine And.intro (⟨by omega, by rw [eTys_len]; omega⟩) ?_; refine And.intro (VLe.of_eq (congrArg (D.sl 2 · none) e15)) ?_
   refine hK _ _ ?_; clear hK K; refine dw_seq ?_; refine dw_seq ?_; refine dwk [(23, .sl 9 (ePrs [p]) none), (29, .v (.bool true))] TLN_ok hnt fun K hK => ?_; refine And.intro ((by rw [eP]; exact VLe.untag _ _ _)) ?_; refine dcl (hF) ?_; refine dcl (hW) ?_; refine And.intro auT ?_; refine hK _ _ ?_; clear hK K; refine dw_cond (t := true) rfl ?_; rw [if_pos rfl]; refine dw_seq ?_; refine dwk [] TLN_ok hnt fun K hK => ?_
   refine dcl (hk) ?_; refine hK _ _ ?_; clear hK K; refine dw_ret ?_
   exact reta rfl
 cases hse : s with
 | false =>
  rw [hse] at hSm
  rw [ePr_at] at hW ⊢
  refine calldw 0 161 [ResultVar.tmp 6] TLN_ok Try.func3 rfl Try.ntmps3 rfl fun cx hnt hn0 => ?_
  ·skip
   refine dw_seq ?_; refine dwk [] TLN_ok hnt fun K hK => ?_; refine hK _ _ ?_; clear hK K; refine dw_seq ?_; refine dwk [(19, .v (.int .i64 (↑B0.length))), (20, .v (.int .i64 (↑(min B0.length 6)))), (21, .sl 2 (eTys B) none)] TLN_ok hnt fun K hK => ?_; refine And.intro (dintE (by rw [eTys_len])) ?_; refine And.intro (dintE (by omega)) ?_; refine And.intro (⟨by omega, by rw [eTys_len]; omega⟩) ?_; refine And.intro (VLe.of_eq (congrArg (D.sl 2 · none) e15)) ?_
   refine hK _ _ ?_; clear hK K; refine dw_seq ?_; refine dw_seq ?_; refine dwk [(23, .sl 9 (ePrs [p]) none), (29, .v (.bool false))] TLN_ok hnt fun K hK => ?_; refine And.intro ((by rw [eP]; exact VLe.untag _ _ _)) ?_; refine dcl (hF) ?_; refine dcl (hW) ?_; refine And.intro auF ?_; refine dcl (hSm) ?_; refine hK _ _ ?_; clear hK K; refine dw_cond (t := true) rfl ?_; rw [if_pos rfl]; refine dw_seq ?_
   refine dwk [] TLN_ok hnt fun K hK => ?_; refine dcl (hk) ?_; refine hK _ _ ?_; clear hK K; refine dw_ret ?_
   exact reta rfl
 | true =>
 rw [hse] at hSm
 obtain ⟨hC20, hM20, hs60⟩ := hs hse
 have hC60 : ∀ t ∈ C, t.size ≤ 60 := fun t h => hs60 t (by simp [h])
 have hM60 : ∀ t ∈ Mw, t.size ≤ 60 := fun t h => hs60 t (by simp [h])
 have hB60 : ∀ t ∈ B, t.size ≤ 60 := fun t h => hs60 t (by simp [h])
 have zC : Ty.sizes C ≤ 1200 := by have := sizes_le22 hC60; omega
 have zM : Ty.sizes Mw ≤ 1200 := by have := sizes_le22 hM60; omega
 have hms : Ty.sizes p.m ≤ 1200 := by have := sizes_le22 f4; omega
 have hi : Li.In p B := ⟨⟨f1, hp.1⟩, ⟨f2, hp.2⟩, f3, f4, by omega, hB60⟩
 have hbs := hi.bs
 have hWd := twd_d b C Mw (by omega) (by omega)
 have hTy := toTys_d B (by omega)
 have hTo := to17_d p (by omega) (by omega) (by omega)
 obtain ⟨ep, ge, T1⟩ := rutypedC_d b C Mw p ⟨by omega, hp.1⟩ ⟨by omega, hp.2⟩ (by omega) (by omega) (fun t ht => by
  rcases List.mem_append.1 ht with h | h
  ·have := hC60 t h; omega
  ·have := f4 t h; omega)
 have i1 := is_d p.l (by omega) hp.1
 have i2 := is_d p.r (by omega) hp.2
 have a1 : p.l.full ≤ 90000 ∧ p.l.Fit := ⟨by omega, hp.1⟩
 have a2 : p.r.full ≤ 90000 ∧ p.r.Fit := ⟨by omega, hp.2⟩
 have a3 : ∀ m ∈ p.m, Ty.sizes B + m.size ≤ 900000 := fun m hm => by have := f4 m hm; omega
 have a4 : p.m.length ≤ 900000 := by omega
 have a5 : ∀ b ∈ B, b.size ≤ 1000 := fun b hb => by have := hB60 b hb; omega
 have hC := lclosed_d p.l p.r p.m B a1 a2 a3 a4 a5 (fun _ => ⟨⟨hi.fullL, hi.fitL, fun h => by have := hi.rtL h; omega⟩, ⟨hi.fullR, hi.fitR, fun h => by have := hi.rtR h; omega⟩, hi.ms⟩) fun h q hq => by
  obtain ⟨_, h2, h3⟩ := Li.over_at h
  rw [h2] at hq
  rw [Bool.and_eq_true] at h3
  subst hq
  exact ⟨⟨by have := hi.rtL h3.1; show _ + (Li.lif B p.l 0).full ≤ _; omega, Li.cl_fit hi.fitL B⟩, ⟨by have := hi.rtR h3.2; show _ + (Li.lif B p.r 0).full ≤ _; omega, Li.cl_fit hi.fitR B⟩, hi.ms⟩
 rw [show (⟨p.l, p.r, p.m⟩ : Li.Pr) = p from rfl] at hC
 have s2 := hi.closed_sm
 have hg : ep = 0 → _ := fun h => Li.closed_good (B := B) (ge.1 h) (by omega) (by omega)
 have hfL := Li.cl_fit hi.fitL B
 have hfR := Li.cl_fit hi.fitR B
 have hms2 := hi.ms
 generalize Li.closed p B = q at hC s2 hg
 obtain ⟨⟨ql, qr, qm⟩, qe⟩ := q
 dsimp only at hC s2 hg
 rw [ePr_at] at hW T1 hTo hC ⊢
 rw [ePr_eq] at hC
 by_cases he : ep = 0
 case neg =>
  refine calldw 0 161 [ResultVar.tmp 6] TLN_ok Try.func3 rfl Try.ntmps3 rfl fun cx hnt hn0 => ?_
  ·skip
   refine dw_seq ?_; refine dwk [] TLN_ok hnt fun K hK => ?_; refine hK _ _ ?_; clear hK K; refine dw_seq ?_; refine dwk [(19, .v (.int .i64 (↑B0.length))), (20, .v (.int .i64 (↑(min B0.length 6)))), (21, .sl 2 (eTys B) none)] TLN_ok hnt fun K hK => ?_; refine And.intro (dintE (by rw [eTys_len])) ?_; refine And.intro (dintE (by omega)) ?_; refine And.intro (⟨by omega, by rw [eTys_len]; omega⟩) ?_; refine And.intro (VLe.of_eq (congrArg (D.sl 2 · none) e15)) ?_
   refine hK _ _ ?_; clear hK K; refine dw_seq ?_; refine dw_seq ?_; refine dwk [(23, .sl 9 (ePrs [p]) none), (29, .v (.bool false))] TLN_ok hnt fun K hK => ?_; refine And.intro ((by rw [eP]; exact VLe.untag _ _ _)) ?_; refine dcl (hF) ?_; refine dcl (hW) ?_; refine And.intro auF ?_; refine dcl (hSm) ?_; refine hK _ _ ?_; clear hK K; refine dw_cond (t := false) rfl ?_; rw [if_neg (by simp)]; refine dw_skip ?_
   refine dw_seq ?_; refine dwkD [] TLN_ok hnt fun K hK => ?_; refine dcl (hWd) ?_; refine dcl (hTo) ?_; refine dcl (hTy) ?_; refine hK _ _ (by kernel_rfl) ?_; clear hK K; refine dw_seq ?_; refine dw_seq ?_; refine dwk [(47, .v (.bool true))] TLN_ok hnt fun K hK => ?_; refine dcl (T1) ?_; refine And.intro (bneT he) ?_; refine hK _ _ ?_; clear hK K; refine dw_cond (t := true) rfl ?_; rw [if_pos rfl]; refine dw_seq ?_
   refine dwk [] TLN_ok hnt fun K hK => ?_; refine dcl (hk) ?_; refine hK _ _ ?_; clear hK K; refine dw_ret ?_
   exact reta rfl
 case pos =>
 have hg2 := hg he
 clear hg
 subst he
 refine calldw 0 161 [ResultVar.tmp 6] TLN_ok Try.func3 rfl Try.ntmps3 rfl fun cx hnt hn0 => ?_
 ·skip
  refine dw_seq ?_; refine dwk [] TLN_ok hnt fun K hK => ?_; refine hK _ _ ?_; clear hK K; refine dw_seq ?_; refine dwk [(19, .v (.int .i64 (↑B0.length))), (20, .v (.int .i64 (↑(min B0.length 6)))), (21, .sl 2 (eTys B) none)] TLN_ok hnt fun K hK => ?_; refine And.intro (dintE (by rw [eTys_len])) ?_; refine And.intro (dintE (by omega)) ?_; refine And.intro (⟨by omega, by rw [eTys_len]; omega⟩) ?_; refine And.intro (VLe.of_eq (congrArg (D.sl 2 · none) e15)) ?_
  refine hK _ _ ?_; clear hK K; refine dw_seq ?_; refine dw_seq ?_; refine dwk [(23, .sl 9 (ePrs [p]) none), (29, .v (.bool false))] TLN_ok hnt fun K hK => ?_; refine And.intro ((by rw [eP]; exact VLe.untag _ _ _)) ?_; refine dcl (hF) ?_; refine dcl (hW) ?_; refine And.intro auF ?_; refine dcl (hSm) ?_; refine hK _ _ ?_; clear hK K; refine dw_cond (t := false) rfl ?_; rw [if_neg (by simp)]; refine dw_skip ?_
  refine dw_seq ?_; refine dwkD [] TLN_ok hnt fun K hK => ?_; refine dcl (hWd) ?_; refine dcl (hTo) ?_; refine dcl (hTy) ?_; refine hK _ _ (by kernel_rfl) ?_; clear hK K; refine dw_seq ?_; refine dw_seq ?_; refine dwk [(47, .v (.bool false))] TLN_ok hnt fun K hK => ?_; refine dcl (T1) ?_; refine And.intro (bneF rfl) ?_; refine hK _ _ ?_; clear hK K; refine dw_cond (t := false) rfl ?_; rw [if_neg (by simp)]
  refine dw_skip ?_; refine dw_seq ?_; refine dw_seq ?_; refine dwk [] TLN_ok hnt fun K hK => ?_; refine hK _ _ ?_; clear hK K; refine dw_block ?_
  refine dw_loop (ι := { j : Nat // j ≤ B.length }) (fun j => [(.t 7, .p 30 0), (.t 8, .p 31 0), (.t 9, .sl 2 (eTys B) none), (.t 10, .v (.int .i64 ↑j.1)), (.c 30 0, .v (.int .i64 b)), (.c 30 1, .sl 2 (eTys C) none), (.c 30 2, .sl 2 (eTys Mw) none), (.c 31 0, .sl 2 (eTys p.l.binds) none), (.c 31 1, .v (.int .i64 p.l.kind)), (.c 31 2, .v (.int .i64 p.l.index)), (.c 31 3, .sl 4 (eTms p.l.args) none), (.c 31 4, .sl 2 (eTys p.r.binds) none), (.c 31 5, .v (.int .i64 p.r.kind)), (.c 31 6, .v (.int .i64 p.r.index)), (.c 31 7, .sl 4 (eTms p.r.args) none), (.c 31 8, .sl 2 (eTys p.m) none)]) 32 (fun j => B.length - j.1) (⟨0, Nat.zero_le _⟩) (VS.toA) fun j => ?_
  obtain ⟨j, hj⟩ := j
  dsimp only
  by_cases hlt : j < B.length
  ·obtain ⟨c, hc⟩ : ∃ c : Bool, c = true ↔ B[j].size ≤ 1000 ∧ B[j].depth ≤ 60 ∧ Ty.Low b B[j] := by
    by_cases h : B[j].size ≤ 1000 ∧ B[j].depth ≤ 60 ∧ Ty.Low b B[j]
    ·exact ⟨true, by simp [h]⟩
    ·exact ⟨false, by simp [h]⟩
   have hr := kright_d B[j] b c hc (by have := hB60 B[j] (List.getElem_mem hlt); omega)
   rw [eTy_eq] at hr
   cases c with
   | false =>
    refine dw_seq ?_; refine dw_seq ?_; refine dwk [(51, .v (.int .i64 (↑B.length))), (52, .v (.bool true))] TLN_ok hnt fun K hK => ?_; refine And.intro (dintE (by rw [eTys_len])) ?_; refine And.intro auT ?_; refine hK _ _ ?_; clear hK K; refine dw_cond (t := true) rfl ?_; rw [if_pos rfl]; refine dw_skip ?_; refine dw_seq ?_; refine dw_block ?_; refine dw_seq ?_; refine dwkD [(57, .q [.sl 2 (eTys B[j].args) none, .v (.int .i64 B[j].base)])] TLN_ok hnt fun K hK => ?_
    refine And.intro (elo (eTys_len B)) ?_; refine And.intro (elv (eTys_getD B j) (eTy_eq _)) ?_; refine dcl (hr) ?_; refine hK _ _ (by kernel_rfl) ?_; clear hK K; refine dw_cond (t := true) rfl ?_; rw [if_pos rfl]; refine dw_seq ?_; refine dwk [] TLN_ok hnt fun K hK => ?_; refine dcl (hk) ?_; refine hK _ _ ?_; clear hK K; refine dw_ret ?_
    exact reta rfl
   | true =>
    refine dw_seq ?_; refine dw_seq ?_; refine dwk [(51, .v (.int .i64 (↑B.length))), (52, .v (.bool true))] TLN_ok hnt fun K hK => ?_; refine And.intro (dintE (by rw [eTys_len])) ?_; refine And.intro auT ?_; refine hK _ _ ?_; clear hK K; refine dw_cond (t := true) rfl ?_; rw [if_pos rfl]; refine dw_skip ?_; refine dw_seq ?_; refine dw_block ?_; refine dw_seq ?_; refine dwkD [(57, .q [.sl 2 (eTys B[j].args) none, .v (.int .i64 B[j].base)])] TLN_ok hnt fun K hK => ?_
    refine And.intro (elo (eTys_len B)) ?_; refine And.intro (elv (eTys_getD B j) (eTy_eq _)) ?_; refine dcl (hr) ?_; refine hK _ _ (by kernel_rfl) ?_; clear hK K; refine dw_cond (t := false) rfl ?_; rw [if_neg (by simp)]; refine dw_skip ?_; refine dwk [(54, .v (.int .i64 (↑(j + 1))))] TLN_ok hnt fun K hK => ?_; refine And.intro auI ?_; refine hK _ _ ?_; clear hK K
    refine ⟨⟨j + 1, hlt⟩, by first | omega | (dsimp only; omega), VS.toA⟩
  ·by_cases hq : qe = 0
   case neg =>
    have h2 : qe = 2 := by
     rcases hg2 with h | h
     ·exact absurd h.1 hq
     ·exact h
    refine dw_seq ?_; refine dw_seq ?_; refine dwk [(51, .v (.int .i64 (↑B.length))), (52, .v (.bool false))] TLN_ok hnt fun K hK => ?_; refine And.intro (dintE (by rw [eTys_len])) ?_; refine And.intro auF ?_; refine hK _ _ ?_; clear hK K; refine dw_cond (t := false) rfl ?_; rw [if_neg (by simp)]; refine dw_exit ?_; refine dw_seq ?_; refine dwk [] TLN_ok hnt fun K hK => ?_; refine dcl (hC) ?_; refine hK _ _ ?_; clear hK K
    refine dw_seq ?_; refine dw_seq ?_; refine dwk [(71, .v (.bool true))] TLN_ok hnt fun K hK => ?_; refine And.intro (bneT hq) ?_; refine hK _ _ ?_; clear hK K; refine dw_cond (t := true) rfl ?_; rw [if_pos rfl]; refine dw_seq ?_; refine dwk [(75, .v (.bool true))] TLN_ok hnt fun K hK => ?_; refine dcl (hk) ?_; refine And.intro (VLe.of_eq (by rw [h2]; rfl)) ?_; refine hK _ _ ?_; clear hK K; refine dw_ret ?_
    exact reta rfl
   case pos =>
   rcases hg2 with ⟨_, kp⟩ | h
   case inr => rw [hq] at h; cases h
   subst hq
   obtain ⟨e, m, kl, kr, ⟨v, hv, g1, g2⟩, pl, pr⟩ := kp
   injection e with e1 e2 e3
   dsimp only at m kl kr g1 g2 pl pr
   obtain ⟨s21, s22, s23⟩ := s2
   dsimp only at s21 s22 s23
   have fl : ql.Fit := by rw [e1]; exact hfL
   have fr : qr.Fit := by rw [e2]; exact hfR
   have hqm : qm.length ≤ 20 := by rw [e3, List.length_map]; exact f3
   have hrw := ruworld_d b C Mw ⟨ql, qr, qm⟩ (by omega) (by dsimp only; omega)
   have t1 := ttype_d b C qm ql (by cases ql; exact (Tm.fit_iff.1 fl).2.1) (by omega) (by omega) (by omega)
   rw [Li.isOf_tyOf g1] at t1
   simp only [Option.getD_some, Option.isSome_some, if_true] at t1
   have o1 := loose_d ql (by omega) fl
   have o2 := loose_d qr (by omega) fr
   rw [Li.isOf_lo g1] at o1
   rw [Li.isOf_lo g2] at o2
   have c1 := tcheck_d b C qm ql v 0 (by omega) (by omega) (checkYes kl g1) (by omega) fl
   have c2 := tcheck_d b C qm qr v 0 (by omega) (by omega) (checkYes kr g2) (by omega) fr
   have j1 := is_d ql (by omega) fl
   have j2 := is_d qr (by omega) fr
   rw [pl] at j1
   rw [pr] at j2
   clear e1 e2 e3 g1 g2 pl pr m kl kr
   obtain ⟨x1, hx1⟩ : ∃ x, (Pn.uses p.l [] []).2 = x := ⟨_, rfl⟩
   obtain ⟨x2, hx2⟩ : ∃ x, (Pn.uses p.r [] []).2 = x := ⟨_, rfl⟩
   rw [hx1] at i1 j1
   rw [hx2] at i2 j2
   obtain ⟨vs, vb⟩ := v
   simp only [args_mk'] at hv
   subst hv
   rw [ePr_eq] at hrw
   rw [eTm_eq] at t1 o1 o2 c1 c2 i1 i2 j1 j2
   rw [eTy_eq] at t1 c1 c2
   simp only [args_mk', base_mk'] at t1 c1 c2
   refine dw_seq ?_; refine dw_seq ?_; refine dwk [(51, .v (.int .i64 (↑vs.length))), (52, .v (.bool false))] TLN_ok hnt fun K hK => ?_; refine And.intro (dintE (by rw [eTys_len])) ?_; refine And.intro auF ?_; refine hK _ _ ?_; clear hK K; refine dw_cond (t := false) rfl ?_; rw [if_neg (by simp)]; refine dw_exit ?_; refine dw_seq ?_; refine dwk [] TLN_ok hnt fun K hK => ?_; refine dcl (hC) ?_; refine hK _ _ ?_; clear hK K
   refine dw_seq ?_; refine dw_seq ?_; refine dwk [(71, .v (.bool false))] TLN_ok hnt fun K hK => ?_; refine And.intro (bneF rfl) ?_; refine hK _ _ ?_; clear hK K; refine dw_cond (t := false) rfl ?_; rw [if_neg (by simp)]; refine dw_skip ?_; refine dw_seq ?_; refine dwk [] TLN_ok hnt fun K hK => ?_; refine dcl (hrw) ?_; refine hK _ _ ?_; clear hK K; refine dw_seq ?_; refine dwk [] TLN_ok hnt fun K hK => ?_
   refine dcl (t1) ?_; refine hK _ _ ?_; clear hK K; refine dw_seq ?_; refine dw_seq ?_; refine dwk [(88, .v (.bool false)), (92, .v (.int .i64 (↑vs.length))), (94, .v (.int .i64 (↑vs.length))), (95, .v (.bool false)), (101, .v (.bool false)), (107, .v (.bool false))] TLN_ok hnt fun K hK => ?_; refine And.intro (bneF rfl) ?_; refine And.intro (dintE (by rw [eTys_len])) ?_; refine And.intro (dintE (by rw [eTys_len])) ?_
   refine And.intro auF ?_; refine dcl (o1) ?_; refine And.intro auF ?_; refine dcl (o2) ?_; refine And.intro auF ?_; refine hK _ _ ?_; clear hK K; refine dw_cond (t := false) rfl ?_; rw [if_neg (by simp)]; refine dw_skip ?_; refine dw_seq ?_; refine dw_seq ?_; refine dwk [] TLN_ok hnt fun K hK => ?_; refine hK _ _ ?_; clear hK K; refine dw_block ?_
   refine dw_loop (ι := { j : Nat // j ≤ vs.length }) (fun j => [(.t 8, .p 31 0), (.t 9, .sl 2 (eTys vs) none), (.t 11, .p 42 0), (.t 13, .p 50 0), (.t 14, .p 59 0), (.t 16, .v (.int .i64 ↑j.1)), (.c 31 0, .sl 2 (eTys p.l.binds) none), (.c 31 1, .v (.int .i64 p.l.kind)), (.c 31 2, .v (.int .i64 p.l.index)), (.c 31 3, .sl 4 (eTms p.l.args) none), (.c 31 4, .sl 2 (eTys p.r.binds) none), (.c 31 5, .v (.int .i64 p.r.kind)), (.c 31 6, .v (.int .i64 p.r.index)), (.c 31 7, .sl 4 (eTms p.r.args) none), (.c 31 8, .sl 2 (eTys p.m) none), (.c 42 0, .sl 2 (eTys ql.binds) none), (.c 42 1, .v (.int .i64 ql.kind)), (.c 42 2, .v (.int .i64 ql.index)), (.c 42 3, .sl 4 (eTms ql.args) none), (.c 42 4, .sl 2 (eTys qr.binds) none), (.c 42 5, .v (.int .i64 qr.kind)), (.c 42 6, .v (.int .i64 qr.index)), (.c 42 7, .sl 4 (eTms qr.args) none), (.c 42 8, .sl 2 (eTys qm) none), (.c 50 0, .v (.int .i64 b)), (.c 50 1, .sl 2 (eTys C) none), (.c 50 2, .sl 2 (eTys qm) none), (.c 59 0, .sl 2 (eTys vs) none), (.c 59 1, .v (.int .i64 vb))]) 60 (fun j => vs.length - j.1) (⟨0, Nat.zero_le _⟩) (VS.toA) fun j => ?_
   obtain ⟨n, hn⟩ := j
   dsimp only
   by_cases hlt : n < vs.length
   ·have hE := keq_d vs[n] vs[n]
    rw [decide_eq_true rfl, eTy_eq] at hE
    refine dw_seq ?_; refine dw_seq ?_; refine dwk [(111, .v (.int .i64 (↑vs.length))), (112, .v (.bool true))] TLN_ok hnt fun K hK => ?_; refine And.intro (dintE (by rw [eTys_len])) ?_; refine And.intro auT ?_; refine hK _ _ ?_; clear hK K; refine dw_cond (t := true) rfl ?_; rw [if_pos rfl]; refine dw_skip ?_; refine dw_seq ?_; refine dw_block ?_; refine dw_seq ?_; refine dwkD [(118, .q [.sl 2 (eTys vs[n].args) none, .v (.int .i64 vs[n].base)]), (122, .q [.sl 2 (eTys vs[n].args) none, .v (.int .i64 vs[n].base)])] TLN_ok hnt fun K hK => ?_
    refine And.intro (elo (eTys_len vs)) ?_; refine And.intro (elv (eTys_getD vs n) (eTy_eq _)) ?_; refine And.intro (elo (eTys_len vs)) ?_; refine And.intro (elv (eTys_getD vs n) (eTy_eq _)) ?_; refine dcl (hE) ?_; refine hK _ _ (by kernel_rfl) ?_; clear hK K; refine dw_cond (t := false) rfl ?_; rw [if_neg (by simp)]; refine dw_skip ?_; refine dwk [(114, .v (.int .i64 (↑(n + 1))))] TLN_ok hnt fun K hK => ?_
    refine And.intro auI ?_; refine hK _ _ ?_; clear hK K
    refine ⟨⟨n + 1, hlt⟩, by first | omega | (dsimp only; omega), VS.toA⟩
   ·skip
    refine dw_seq ?_; refine dw_seq ?_; refine dwk [(111, .v (.int .i64 (↑vs.length))), (112, .v (.bool false))] TLN_ok hnt fun K hK => ?_; refine And.intro (dintE (by rw [eTys_len])) ?_; refine And.intro auF ?_; refine hK _ _ ?_; clear hK K; refine dw_cond (t := false) rfl ?_; rw [if_neg (by simp)]; refine dw_exit ?_; refine dw_seq ?_; refine dwkD [(133, .v (.bool true)), (141, .v (.bool true)), (150, .v (.bool true)), (159, .v (.bool true))] TLN_ok hnt fun K hK => ?_
    refine dcl (hk) ?_; refine dcl (c1) ?_; refine And.intro (beqT rfl) ?_; refine dcl (c2) ?_; refine And.intro (beqT rfl) ?_; refine dcl (j1) ?_; refine dcl (i1) ?_; refine And.intro (VLe.of_eq (by simp)) ?_; refine dcl (j2) ?_; refine dcl (i2) ?_; refine And.intro (VLe.of_eq (by simp)) ?_; refine hK _ _ (by kernel_rfl) ?_; clear hK K; refine dw_ret ?_
    exact reta rfl
end Go.Proofs.Ytnpjjkeokcoedaa

