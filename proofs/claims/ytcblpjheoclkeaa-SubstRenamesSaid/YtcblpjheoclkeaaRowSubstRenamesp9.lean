/-
  subst.Apply, walked in the deep way. The known answer of the laws of layer 9. SubstRenames, walked in the deep way.
-/
import Derived.Test.YtcblpjheoclkeaaRowSubstRenamesp8
import Derived.Test.YtcblpjheoclkeaaRowSubstRenamesp1
set_option maxRecDepth 100000
set_option maxHeartbeats 1000000
set_option linter.unusedVariables false
set_option linter.unusedSimpArgs false
namespace Go.Proofs.Ytcblpjheoclkeaa
open Go.RowKit

def swR (kw kb : Nat) (l : List (Int × Tm)) (s : Nm.St) : List (Key × D) := [(.c kw 0, .o kb), (.c kw 1, .sl 5 (ePairs l) none), (.c kw 2, .v (.int .i64 s.e)), (.o kb, .ob (BudJ s.left s.dry))]
theorem sthr_at (kw kb : Nat) (hk : kw ≠ kb) (l : List (Int × Tm)) (hl : l.length ≤ 1000000) (t : Tm) (ht : Wide t) (ins : Int) (s : Nm.St) (hs : InR s) (ho : thOk l t ins s) :
    CallC Try.prog 72 [.p kw 0, .ag (eTm t), .v (.int .i64 ins)] (swR kw kb l s) (swR kw kb l (Sb.through l t ins s).2) (.ag (eTm (Sb.through l t ins s).1)) := by
  have h := (sthr_d l hl t ht ins s hs ho).ren (ren2 kw kb) (by simp [renOk, swE, D.ok, D.oks, rnames, inN, ckey, eTm_ok, eTms_ok, eTys_ok, ePairs_ok]) (by
    intro k h1 k' h2
    simp [rnames, swE] at h1 h2
    rcases h1 with rfl | rfl <;> rcases h2 with rfl | rfl <;> simp [ren2, hk, hk.symm])
  simpa [D.ren, eTm_ren, eTms_ren, ePairs_ren, swE, swR, renE, Key.ren, ren2] using h

theorem app_1 {l : List (Int × Tm)} {t : Tm} {left : Int} {dry : Bool} (h : Sb.right l = false) : Sb.apply l t left dry = (Nm.tz, ⟨left, dry, 0, 1⟩) := if_pos h
theorem app_2 {l : List (Int × Tm)} {t : Tm} {left : Int} {dry : Bool} (h : Sb.right l = true) : Sb.apply l t left dry =
    (let r := Sb.through l t 0 ⟨left, dry, 0, 0⟩; let s : Nm.St := if r.2.e = 0 ∧ ¬ (r.1.size ≤ 5000 ∧ r.1.depth ≤ 60) then { r.2 with e := 2 } else r.2; if s.e ≠ 0 then (Nm.tz, s) else (r.1, s)) := if_neg (by rw [h]; simp)
def endA (t : Tm) (s : Nm.St) : Tm × Nm.St := let s' : Nm.St := if s.e = 0 ∧ ¬ (t.size ≤ 5000 ∧ t.depth ≤ 60) then { s with e := 2 } else s; if s'.e ≠ 0 then (Nm.tz, s') else (t, s')
theorem end_1 {t : Tm} (h : t.size ≤ 5000 ∧ t.depth ≤ 60) (l : Int) (d : Bool) (c : Int) : endA t ⟨l, d, c, 0⟩ = (t, ⟨l, d, c, 0⟩) := by
  have : ¬ ((0 : Int) = 0 ∧ ¬ (t.size ≤ 5000 ∧ t.depth ≤ 60)) := fun h' => h'.2 h
  unfold endA; dsimp only; rw [if_neg this]; simp
theorem end_2 {t : Tm} (h : ¬ (t.size ≤ 5000 ∧ t.depth ≤ 60)) (l : Int) (d : Bool) (c : Int) : endA t ⟨l, d, c, 0⟩ = (Nm.tz, ⟨l, d, c, 2⟩) := by
  have : (0 : Int) = 0 ∧ ¬ (t.size ≤ 5000 ∧ t.depth ≤ 60) := ⟨rfl, h⟩
  unfold endA; dsimp only; rw [if_pos this]; rfl
theorem end_3 {t : Tm} {e : Int} (h : e ≠ 0) (l : Int) (d : Bool) (c : Int) : endA t ⟨l, d, c, e⟩ = (Nm.tz, ⟨l, d, c, e⟩) := by
  have : ¬ (e = 0 ∧ ¬ (t.size ≤ 5000 ∧ t.depth ≤ 60)) := fun h' => h h'.1
  unfold endA; dsimp only; rw [if_neg this]; exact if_pos h

set_option maxHeartbeats 1000000 in
theorem apply_d (l : List (Int × Tm)) (hl : l.length ≤ 1000000) (t : Tm) (ht : Wide t) (left : Int) (dry : Bool) (h0 : 0 ≤ left ∧ left ≤ 1000000000) (ho : Sb.right l = true → thOk l t 0 ⟨left, dry, 0, 0⟩ ∧ ((Sb.through l t 0 ⟨left, dry, 0, 0⟩).2.e = 0 → DoneOk (Sb.through l t 0 ⟨left, dry, 0, 0⟩).1)) :
  CallC Try.prog 39 [.sl 5 (ePairs l) none, .ag (eTm t), .o 1] [(.o 1, .ob (BudJ left dry))] [(.o 1, .ob (BudJ (Sb.apply l t left dry).2.left (Sb.apply l t left dry).2.dry))] (.tu [.ag (eTm (Sb.apply l t left dry).1), .v (.int .i64 (Sb.apply l t left dry).2.e)]) := by
 obtain ⟨p, hp⟩ : ∃ p, Sb.apply l t left dry = p := ⟨_, rfl⟩
 rw [hp]
 have hrt := sright_d l hl
 have hth := fun h => sthr_at 15 1 (by decide) l hl t ht 0 ⟨left, dry, 0, 0⟩ h0 (ho h).1
 rw [eTm_eq t] at hth ⊢
 refine call_of_dw 2 50 [ResultVar.cell 6 34, ResultVar.tmp 7] TS2_ok (by kernel_rfl) Try.func39 rfl Try.ntmps39 rfl (by simp) ?dwords ?dbody
 case dwords => simp [wordsOk, D.ok, D.oks, rnames, inN, ckey, eTm_ok, eTms_ok, eTys_ok, ePairs_ok]
 case dbody =>
  intro cx hnt hn0
  refine dw_seq ?_; refine dwk [] TS2_ok hnt fun K hK => ?_; refine hK _ _ ?_; clear hK K; refine dw_seq (dw_seq ?_)
  cases hr : Sb.right l with
  | false =>
   rw [hr] at hrt
   rw [app_1 hr] at hp
   subst hp
   refine dwk [] TS2_ok hnt fun K hK => ?_; refine dcl (hrt) ?_; refine hK _ _ ?_; clear hK K; refine dw_cond (t := true) rfl ?_; rw [if_pos rfl]; refine dw_seq ?_; refine dwk [] TS2_ok hnt fun K hK => ?_; refine hK _ _ ?_; clear hK K; refine dw_ret ?_
   rw [tz_eq]
   exact retv (N := 0) (.inr rfl) rfl (by repeat first | exact VLe.refl _ | exact VLe.nil _ | exact VLe.untag _ _ _ | refine VLe.ag ?_ | refine VLe.tu ?_ | refine VLeL.cons ?_ ?_ | exact VLeL.nil) (by repeat first | exact trivial | refine And.intro rfl ?_)
  | true =>
   rw [hr] at hrt
   have ho := (ho hr).2
   have hth := hth hr
   rw [app_2 hr] at hp
   obtain ⟨r, hrr⟩ : ∃ r, Sb.through l t 0 ⟨left, dry, 0, 0⟩ = r := ⟨_, rfl⟩
   rw [hrr] at hp ho hth
   have hp : endA r.1 r.2 = p := hp
   clear hrr
   obtain ⟨u, s1⟩ := r
   obtain ⟨left', dry', count, er⟩ := s1
   dsimp only at hp ho hth
   refine dwk [] TS2_ok hnt fun K hK => ?_; refine dcl (hrt) ?_; refine hK _ _ ?_; clear hK K; refine dw_cond (t := false) rfl ?_; rw [if_neg (by simp)]; refine dw_skip ?_; refine dw_seq ?_; refine dwk [] TS2_ok hnt fun K hK => ?_; refine hK _ _ ?_; clear hK K; refine dw_seq ?_
   have hru : er = 0 → PureC Try.prog 73 [.ag (eTm u)] (.v (.bool (decide (u.size ≤ 5000 ∧ u.depth ≤ 60)))) := fun h => right_d u (by have := (ho h).right; omega)
   have hcu : er = 0 → (u.size ≤ 5000 ∧ u.depth ≤ 60) → PureC Try.prog 43 [.ag (eTm u)] (.ag (eTm u)) := fun h h' => copy_d u ((ho h).copy h').1 ((ho h).copy h').2
   rw [eTm_eq u] at hth hru hcu
   refine dwk [] TS2_ok hnt fun K hK => ?_; refine dcl (hth) ?_; refine hK _ _ ?_; clear hK K; refine dw_seq (dw_seq ?_)
   by_cases he : er = 0
   ·subst he
    have hru := hru rfl
    by_cases hR : u.size ≤ 5000 ∧ u.depth ≤ 60
    ·have hcu := hcu rfl hR
     rw [end_1 hR] at hp
     subst hp
     rw [decide_eq_true hR] at hru
     refine dwk [(29, .v (.bool true))] TS2_ok hnt fun K hK => ?_; refine And.intro (VLe.refl _) ?_; refine dcl (hru) ?_; refine hK _ _ ?_; clear hK K; refine dw_cond (t := false) rfl ?_; rw [if_neg (by simp)]; refine dw_skip ?_; refine dw_seq (dw_seq ?_); refine dwk [(42, .v (.bool false))] TS2_ok hnt fun K hK => ?_; refine And.intro (VLe.refl _) ?_; refine hK _ _ ?_; clear hK K; refine dw_cond (t := false) rfl ?_
     rw [if_neg (by simp)]; refine dw_skip ?_; refine dw_seq ?_; refine dwk [] TS2_ok hnt fun K hK => ?_; refine dcl (hcu) ?_; refine hK _ _ ?_; clear hK K; refine dw_ret ?_
     rw [eTm_eq]
     exact retv (N := 0) (.inr rfl) rfl (by repeat first | exact VLe.refl _ | exact VLe.nil _ | exact VLe.untag _ _ _ | refine VLe.ag ?_ | refine VLe.tu ?_ | refine VLeL.cons ?_ ?_ | exact VLeL.nil) (by repeat first | exact trivial | refine And.intro rfl ?_)
    ·rw [end_2 hR] at hp
     subst hp
     rw [decide_eq_false hR] at hru
     refine dwk [(29, .v (.bool true))] TS2_ok hnt fun K hK => ?_; refine And.intro (VLe.refl _) ?_; refine dcl (hru) ?_; refine hK _ _ ?_; clear hK K; refine dw_cond (t := true) rfl ?_; rw [if_pos rfl]; refine dwk [] TS2_ok hnt fun K hK => ?_; refine hK _ _ ?_; clear hK K; refine dw_seq (dw_seq ?_); refine dwk [(42, .v (.bool true))] TS2_ok hnt fun K hK => ?_; refine And.intro (VLe.refl _) ?_; refine hK _ _ ?_; clear hK K
     refine dw_cond (t := true) rfl ?_; rw [if_pos rfl]; refine dw_seq ?_; refine dwkD [] TS2_ok hnt fun K hK => ?_; refine hK _ _ (by kernel_rfl) ?_; clear hK K; refine dw_ret ?_
     rw [tz_eq]
     exact retv (N := 0) (.inr rfl) rfl (by repeat first | exact VLe.refl _ | exact VLe.nil _ | exact VLe.untag _ _ _ | refine VLe.ag ?_ | refine VLe.tu ?_ | refine VLeL.cons ?_ ?_ | exact VLeL.nil) (by repeat first | exact trivial | refine And.intro rfl ?_)
   ·rw [end_3 he] at hp
    subst hp
    refine dwk [(29, .v (.bool false))] TS2_ok hnt fun K hK => ?_; refine And.intro (VLe.of_eq (by simp [he])) ?_; refine hK _ _ ?_; clear hK K; refine dw_cond (t := false) rfl ?_; rw [if_neg (by simp)]; refine dw_skip ?_; refine dw_seq (dw_seq ?_); refine dwk [(42, .v (.bool true))] TS2_ok hnt fun K hK => ?_; refine And.intro (VLe.of_eq (by simp [he])) ?_; refine hK _ _ ?_; clear hK K; refine dw_cond (t := true) rfl ?_
    rw [if_pos rfl]; refine dw_seq ?_; refine dwkD [] TS2_ok hnt fun K hK => ?_; refine hK _ _ (by kernel_rfl) ?_; clear hK K; refine dw_ret ?_
    rw [tz_eq]
    exact retv (N := 0) (.inr rfl) rfl (by repeat first | exact VLe.refl _ | exact VLe.nil _ | exact VLe.untag _ _ _ | refine VLe.ag ?_ | refine VLe.tu ?_ | refine VLeL.cons ?_ ?_ | exact VLeL.nil) (by repeat first | exact trivial | refine And.intro rfl ?_)
end Go.Proofs.Ytcblpjheoclkeaa

namespace Go.Proofs.Ytcblpjheoclkeaa
open Go.RowKit
def TK9_34 : TI := ⟨4, true, [Value.slice none 0 0, Value.int IntKind.i64 0, Value.int IntKind.i64 0, Value.slice none 0 0], [(0, 1, false), (1, 2, true), (3, 1, false)], none, 64, 6, none, false⟩
theorem TK9_34_ok : TypOk Try.prog 34 TK9_34 := ⟨by kernel_rfl, by kernel_rfl, by kernel_rfl, by kernel_rfl, by kernel_rfl⟩
def TK9_32 : TI := ⟨1, false, [Value.slice none 0 0], [], some 34, 24, 5, none, false⟩
theorem TK9_32_ok : TypOk Try.prog 32 TK9_32 := ⟨by kernel_rfl, by kernel_rfl, by kernel_rfl, by kernel_rfl, by kernel_rfl⟩
def TK9_83 : TI := ⟨2, true, [Value.slice none 0 0, Value.int IntKind.i64 0], [(0, 1, false), (1, 1, false)], none, 32, 6, none, false⟩
theorem TK9_83_ok : TypOk Try.prog 83 TK9_83 := ⟨by kernel_rfl, by kernel_rfl, by kernel_rfl, by kernel_rfl, by kernel_rfl⟩
def TK9_31 : TI := ⟨2, true, [Value.int IntKind.i64 0, Value.int IntKind.i64 0], [(0, 1, false), (1, 1, false)], none, 16, 6, none, true⟩
theorem TK9_31_ok : TypOk Try.prog 31 TK9_31 := ⟨by kernel_rfl, by kernel_rfl, by kernel_rfl, by kernel_rfl, by kernel_rfl⟩
def TK9_30 : TI := ⟨1, false, [Value.slice none 0 0], [], some 83, 24, 5, none, false⟩
theorem TK9_30_ok : TypOk Try.prog 30 TK9_30 := ⟨by kernel_rfl, by kernel_rfl, by kernel_rfl, by kernel_rfl, by kernel_rfl⟩
def TK9_47 : TI := ⟨1, false, [Value.slice none 0 0], [], some 88, 24, 5, none, false⟩
theorem TK9_47_ok : TypOk Try.prog 47 TK9_47 := ⟨by kernel_rfl, by kernel_rfl, by kernel_rfl, by kernel_rfl, by kernel_rfl⟩
def TK9_3 : TI := ⟨1, false, [Value.int IntKind.i64 0], [], none, 8, 2, none, false⟩
theorem TK9_3_ok : TypOk Try.prog 3 TK9_3 := ⟨by kernel_rfl, by kernel_rfl, by kernel_rfl, by kernel_rfl, by kernel_rfl⟩
def TK9_88 : TI := ⟨5, true, [Value.int IntKind.i64 0, Value.slice none 0 0, Value.int IntKind.i64 0, Value.int IntKind.i64 0, Value.slice none 0 0], [(0, 1, false), (1, 4, true)], none, 72, 6, none, false⟩
theorem TK9_88_ok : TypOk Try.prog 88 TK9_88 := ⟨by kernel_rfl, by kernel_rfl, by kernel_rfl, by kernel_rfl, by kernel_rfl⟩
def TK9_35 : TI := ⟨1, false, [Value.int IntKind.i64 0], [], none, 8, 2, none, false⟩
theorem TK9_35_ok : TypOk Try.prog 35 TK9_35 := ⟨by kernel_rfl, by kernel_rfl, by kernel_rfl, by kernel_rfl, by kernel_rfl⟩
def TK9_89 : TI := ⟨1, false, [Value.pointer none], [], none, 8, 4, none, false⟩
theorem TK9_89_ok : TypOk Try.prog 89 TK9_89 := ⟨by kernel_rfl, by kernel_rfl, by kernel_rfl, by kernel_rfl, by kernel_rfl⟩
def TK9 : List (Nat × TI) := [(34, TK9_34), (32, TK9_32), (83, TK9_83), (31, TK9_31), (30, TK9_30), (47, TK9_47), (3, TK9_3), (88, TK9_88), (35, TK9_35), (89, TK9_89)]
theorem TK9_ok : TabOk Try.prog TK9 := (((((((((((TabOk.nil _).cons TK9_89_ok).cons TK9_35_ok).cons TK9_88_ok).cons TK9_3_ok).cons TK9_47_ok).cons TK9_30_ok).cons TK9_31_ok).cons TK9_83_ok).cons TK9_32_ok).cons TK9_34_ok)

theorem kA_fit : ∀ t : Tm, t.full ≤ 100 → t.Fit → DoneOk t := fun t h hf => ⟨by omega, fun _ => ⟨by omega, hf⟩⟩
theorem wide_leaf (b : List Ty) (k i : Int) (h : b.length ≤ 100000) : Wide (.mk b k i []) := .mk _ _ _ _ h (by simp) fun t h => by cases h
theorem wide_one (b : List Ty) (k i : Int) (t : Tm) (h : b.length ≤ 100000) (ht : Wide t) : Wide (.mk b k i [t]) := .mk _ _ _ _ h (by simp) fun u h => by
  simp at h; subst h; exact ht
theorem kZ_wide : Wide Sb.kZ := wide_leaf _ _ _ (by decide)
theorem kF_wide : Wide Sb.kF := wide_one _ _ _ _ (by decide) (wide_leaf _ _ _ (by decide))
theorem k_q1 : Sb.throughs [(0, Sb.kF)] [Sb.kZ] 0 ⟨18, false, 0, 0⟩ = ([Sb.kZ], ⟨17, false, 0, 0⟩) := by kernel_rfl
theorem k_q2 : Sb.throughs [(0, Sb.kF)] [Sb.kX [Sb.kZ]] 0 ⟨19, false, 0, 0⟩ = ([Sb.kC [Sb.kZ]], ⟨14, false, 0, 0⟩) := by kernel_rfl
theorem k_p1 : (Nm.put 100001 Sb.kF [Sb.kZ] ⟨17, false, 0, 0⟩).1 = Sb.kC [Sb.kZ] := by kernel_rfl
theorem k_p2 : (Nm.put 100001 Sb.kF [Sb.kC [Sb.kZ]] ⟨14, false, 0, 0⟩).1 = Sb.kC [Sb.kC [Sb.kZ]] := by kernel_rfl
theorem k_t : Sb.through [(0, Sb.kF)] (Sb.kX [Sb.kX [Sb.kZ]]) 0 ⟨20, false, 0, 0⟩ = (Sb.kC [Sb.kC [Sb.kZ]], ⟨(Sb.through [(0, Sb.kF)] (Sb.kX [Sb.kX [Sb.kZ]]) 0 ⟨20, false, 0, 0⟩).2.left, false, 0, 0⟩) := by kernel_rfl
theorem k_find {u : Tm} (h : Sb.find [(0, Sb.kF)] 0 = some u) : u = Sb.kF := by
  have : Sb.find [(0, Sb.kF)] 0 = some Sb.kF := by rfl
  rw [this] at h; cases h; rfl
theorem kZ_fit : Sb.kZ.Fit := .mk _ _ _ _ (by decide) (by decide) fun t h => by cases h
theorem kC_fit (t : Tm) (h : t.Fit) : (Sb.kC [t]).Fit := .mk _ _ _ _ (by decide) (by decide) fun u hu => by
  simp at hu; subst hu; exact h
theorem k_done1 : DoneOk (Sb.kC [Sb.kZ]) := kA_fit _ (by decide) (kC_fit _ kZ_fit)
theorem k_done2 : DoneOk (Sb.kC [Sb.kC [Sb.kZ]]) := kA_fit _ (by decide) (kC_fit _ (kC_fit _ kZ_fit))
theorem k_rep1 : repOk [(0, Sb.kF)] 2 0 0 (Sb.throughs [(0, Sb.kF)] [Sb.kZ] 0 ⟨18, false, 0, 0⟩) := by
  rw [k_q1]
  intro _ _ u hu
  have := k_find hu; subst this
  have hl : Nm.lift 0 Sb.kF 0 = Sb.kF := by kernel_rfl
  rw [hl]
  refine ⟨kF_wide, kF_wide, fun a h => by simp at h; subst h; exact kZ_wide, fun _ _ => ?_⟩
  dsimp only
  rw [k_p1]; exact k_done1
theorem k_rep2 : repOk [(0, Sb.kF)] 2 0 0 (Sb.throughs [(0, Sb.kF)] [Sb.kX [Sb.kZ]] 0 ⟨19, false, 0, 0⟩) := by
  rw [k_q2]
  intro _ _ u hu
  have := k_find hu; subst this
  have hl : Nm.lift 0 Sb.kF 0 = Sb.kF := by kernel_rfl
  rw [hl]
  refine ⟨kF_wide, kF_wide, fun a h => by simp at h; subst h; exact wide_one _ _ _ _ (by decide) kZ_wide, fun _ _ => ?_⟩
  dsimp only
  rw [k_p2]; exact k_done2
theorem k_th : thOk [(0, Sb.kF)] (Sb.kX [Sb.kX [Sb.kZ]]) 0 ⟨20, false, 0, 0⟩ := by
  have hz : thOk [(0, Sb.kF)] Sb.kZ 0 ⟨18, false, 0, 0⟩ := by
    rw [Sb.kZ, thOk]
    intro _ _
    exact ⟨by rw [thOks]; trivial, fun h => by cases h⟩
  have hx : thOk [(0, Sb.kF)] (Sb.kX [Sb.kZ]) 0 ⟨19, false, 0, 0⟩ := by
    rw [Sb.kX, thOk]
    intro _ _
    have e : Nm.wr (0 + (([] : List Ty).length : Int)) = 0 := by kernel_rfl
    have e2 : (Nm.spend ⟨19, false, 0, 0⟩).2 = ⟨18, false, 0, 0⟩ := by kernel_rfl
    rw [e, e2]
    exact ⟨by rw [thOks, thOks]; exact ⟨hz, trivial⟩, k_rep1⟩
  rw [Sb.kX, thOk]
  intro _ _
  have e : Nm.wr (0 + (([] : List Ty).length : Int)) = 0 := by kernel_rfl
  have e2 : (Nm.spend ⟨20, false, 0, 0⟩).2 = ⟨19, false, 0, 0⟩ := by kernel_rfl
  rw [e, e2]
  exact ⟨by rw [thOks, thOks]; exact ⟨hx, trivial⟩, k_rep2⟩
theorem apply_at (kb : Nat) (l : List (Int × Tm)) (hl : l.length ≤ 1000000) (t : Tm) (ht : Wide t) (left : Int) (dry : Bool) (h0 : 0 ≤ left ∧ left ≤ 1000000000) (ho : Sb.right l = true → thOk l t 0 ⟨left, dry, 0, 0⟩ ∧ ((Sb.through l t 0 ⟨left, dry, 0, 0⟩).2.e = 0 → DoneOk (Sb.through l t 0 ⟨left, dry, 0, 0⟩).1)) :
    CallC Try.prog 39 [.sl 5 (ePairs l) none, .ag (eTm t), .o kb] [(.o kb, .ob (BudJ left dry))] [(.o kb, .ob (BudJ (Sb.apply l t left dry).2.left (Sb.apply l t left dry).2.dry))] (.tu [.ag (eTm (Sb.apply l t left dry).1), .v (.int .i64 (Sb.apply l t left dry).2.e)]) := by
  have h := (apply_d l hl t ht left dry h0 ho).ren (fun _ => kb) (by simp [renOk, D.ok, D.oks, rnames, inN, ckey, eTm_ok, ePairs_ok]) (by
    intro k h1 k' h2 _
    simp [rnames] at h1 h2
    rw [h1, h2])
  simpa [D.ren, D.rens, eTm_ren, ePairs_ren, renE, Key.ren] using h
theorem equal_d (t : Tm) : PureC Try.prog 41 [.ag (eTm t), .ag (eTm t)] (.v (.bool true)) := by
  refine pure_below (by kernel_rfl) fun m Im w vs hv => ?_
  match vs, hv with
  | [x, y], hv =>
    obtain ⟨b, k, i, a, rfl, ht⟩ := agTm hv.1
    obtain ⟨b', k', i', a', rfl, ht'⟩ := agTm hv.2.1
    refine (equal6_k t _ _ _ _ _ _ ht _ _ _ _ _ _ t ht' w (Keep.refl _ _) (Keep.refl _ _)).mono ?_
    rintro e w' ⟨b, hb, rfl, h2⟩
    rw [hb.2 rfl]
    exact ⟨_, rfl, h2, fun Im' _ hI => .v _⟩
theorem kindOf_d : PureC Try.prog 36 [.v (.int .i64 0), .v (.slice none 0 0)] (.ag (eTy Sb.kA)) := by
  refine pure_below (by kernel_rfl) fun m Im w vs hv => ?_
  match vs, hv with
  | [x, y], hv =>
    have := rel_v.1 hv.1; subst this
    have := rel_v.1 hv.2.1; subst this
    refine (of_k 0 (isSl_nil rpTy (fun _ => True) w) (by decide)).mono ?_
    rintro e w' ⟨s, b, rfl, h1, h2⟩
    exact ⟨_, rfl, h2, fun Im' _ hI => rel_ag.2 ⟨_, rfl, rel_of_ty (fun b o v hb hc => hI b o v hb hc) _ h1⟩⟩
theorem k1_d (l : List Tm) : PureC Try.prog 37 [.sl 4 (eTms l) none] (.ag (eTm (Sb.kC l))) := by
 refine call_of_dw 0 6 [ResultVar.cell 2 34] TK9_ok (by kernel_rfl) Try.func37 rfl Try.ntmps37 rfl (by simp) ?dwords ?dbody
 case dwords => simp [wordsOk, D.ok, D.oks, rnames, eTm_ok, eTms_ok]
 case dbody =>
  intro cx hnt hn0
  refine dw_seq ?_; refine dwk [] TK9_ok hnt fun K hK => ?_; refine hK _ _ ?_; clear hK K; refine dw_seq ?_; refine dwk [] TK9_ok hnt fun K hK => ?_; refine hK _ _ ?_; clear hK K; refine dw_ret ?_
  exact retv (N := 0) (.inr rfl) rfl (by repeat first | exact VLe.refl _ | exact VLe.nil _ | exact VLe.untag _ _ _ | refine VLe.ag ?_ | refine VLe.tu ?_ | refine VLeL.cons ?_ ?_ | exact VLeL.nil) trivial
theorem k2_d (l : List Tm) : PureC Try.prog 38 [.sl 4 (eTms l) none] (.ag (eTm (Sb.kX l))) := by
 refine call_of_dw 0 6 [ResultVar.cell 2 34] TK9_ok (by kernel_rfl) Try.func38 rfl Try.ntmps38 rfl (by simp) ?dwords ?dbody
 case dwords => simp [wordsOk, D.ok, D.oks, rnames, eTm_ok, eTms_ok]
 case dbody =>
  intro cx hnt hn0
  refine dw_seq ?_; refine dwk [] TK9_ok hnt fun K hK => ?_; refine hK _ _ ?_; clear hK K; refine dw_seq ?_; refine dwk [] TK9_ok hnt fun K hK => ?_; refine hK _ _ ?_; clear hK K; refine dw_ret ?_
  exact retv (N := 0) (.inr rfl) rfl (by repeat first | exact VLe.refl _ | exact VLe.nil _ | exact VLe.untag _ _ _ | refine VLe.ag ?_ | refine VLe.tu ?_ | refine VLeL.cons ?_ ?_ | exact VLeL.nil) trivial
set_option maxHeartbeats 1000000 in
theorem known09_d : PureC Try.prog 7 [] (.v (.bool true)) := by
 have hap := fun kb => apply_at kb [(0, Sb.kF)] (by decide) (Sb.kX [Sb.kX [Sb.kZ]]) (wide_one _ _ _ _ (by decide) (wide_one _ _ _ _ (by decide) kZ_wide)) 20 false ⟨by decide, by decide⟩ fun _ => ⟨k_th, fun _ => by rw [k_t]; exact k_done2⟩
 rw [Sb.known_is, Sb.known_ok] at hap
 obtain ⟨bl, hbl⟩ : ∃ bl, (Sb.apply [(0, Sb.kF)] (Sb.kX [Sb.kX [Sb.kZ]]) 20 false).2 = bl := ⟨_, rfl⟩
 rw [hbl] at hap
 clear hbl
 have hof := kindOf_d
 refine call_of_dw 0 46 [ResultVar.tmp 0] TK9_ok (by kernel_rfl) Try.func7 rfl Try.ntmps7 rfl (by simp) ?dwords ?dbody
 case dwords => rfl
 case dbody =>
  intro cx hnt hn0
  refine dw_seq ?_; refine dwk [] TK9_ok hnt fun K hK => ?_; refine hK _ _ ?_; clear hK K; refine dw_seq ?_; refine dwk [] TK9_ok hnt fun K hK => ?_; refine dcl (hof) ?_; refine hK _ _ ?_; clear hK K; refine dw_seq ?_; refine dwk [] TK9_ok hnt fun K hK => ?_; refine hK _ _ ?_; clear hK K; refine dw_seq ?_; refine dwk [] TK9_ok hnt fun K hK => ?_; refine hK _ _ ?_; clear hK K; refine dw_seq ?_; refine dwk [] TK9_ok hnt fun K hK => ?_
  refine hK _ _ ?_; clear hK K; refine dw_seq ?_; refine dwk [(12, .ag [.sl 2 [] none, .v (.int .i64 0), .v (.int .i64 0), .sl 4 [] none]), (13, .sl 4 (eTms [Nm.tz]) none)] TK9_ok hnt fun K hK => ?_; refine And.intro (auV) ?_; refine And.intro (VLe.untag _ _ _) ?_; refine dcl (k1_d [Nm.tz]) ?_; refine hK _ _ ?_; clear hK K; refine dw_seq ?_; refine dwk [(16, .sl 2 (eTys [Sb.kA]) none)] TK9_ok hnt fun K hK => ?_
  refine And.intro (VLe.untag _ _ _) ?_; refine hK _ _ ?_; clear hK K; refine dw_seq ?_; refine dwkD [(21, .sl 5 (ePairs [(0, Sb.kF)]) none), (24, .ag [.sl 2 [] none, .v (.int .i64 1), .v (.int .i64 0), .sl 4 [] none]), (25, .sl 4 (eTms [Sb.kZ]) none), (27, .sl 4 (eTms [Sb.kX [Sb.kZ]]) none)] TK9_ok hnt fun K hK => ?_; refine And.intro (VLe.untag _ _ _) ?_; refine And.intro (auV) ?_; refine And.intro (VLe.untag _ _ _) ?_
  refine dcl (k2_d [Sb.kZ]) ?_; refine And.intro (VLe.untag _ _ _) ?_; refine dcl (k2_d [Sb.kX [Sb.kZ]]) ?_; refine dcn (new_d 20 (by decide) _) ?_; refine dcl (hap _) ?_; refine hK _ _ (by kernel_rfl) ?_; clear hK K; refine dw_seq ?_; refine dwkD [(39, .ag [.sl 2 [] none, .v (.int .i64 1), .v (.int .i64 0), .sl 4 [] none]), (40, .sl 4 (eTms [Sb.kZ]) none), (42, .sl 4 (eTms [Sb.kC [Sb.kZ]]) none)] TK9_ok hnt fun K hK => ?_
  refine And.intro (auV) ?_; refine And.intro (VLe.untag _ _ _) ?_; refine dcl (k1_d [Sb.kZ]) ?_; refine And.intro (VLe.untag _ _ _) ?_; refine dcl (k1_d [Sb.kC [Sb.kZ]]) ?_; refine dcl (equal_d (Sb.kC [Sb.kC [Sb.kZ]])) ?_; refine hK _ _ (by kernel_rfl) ?_; clear hK K; refine dw_ret ?_
  exact retv (N := 0) (.inr rfl) rfl (VLe.refl _) trivial
end Go.Proofs.Ytcblpjheoclkeaa

namespace Go.Proofs.Ytcblpjheoclkeaa
open Go.RowKit
def TSRN_27 : TI := ⟨4, true, [Value.slice none 0 0, Value.int IntKind.i64 0, Value.int IntKind.i64 0, Value.slice none 0 0], [(0, 1, false), (1, 2, true), (3, 1, false)], none, 64, 6, none, false⟩
theorem TSRN_27_ok : TypOk Try.prog 27 TSRN_27 := ⟨by kernel_rfl, by kernel_rfl, by kernel_rfl, by kernel_rfl, by kernel_rfl⟩
def TSRN_3 : TI := ⟨1, false, [Value.int IntKind.i64 0], [], none, 8, 2, none, false⟩
theorem TSRN_3_ok : TypOk Try.prog 3 TSRN_3 := ⟨by kernel_rfl, by kernel_rfl, by kernel_rfl, by kernel_rfl, by kernel_rfl⟩
def TSRN_34 : TI := ⟨4, true, [Value.slice none 0 0, Value.int IntKind.i64 0, Value.int IntKind.i64 0, Value.slice none 0 0], [(0, 1, false), (1, 2, true), (3, 1, false)], none, 64, 6, none, false⟩
theorem TSRN_34_ok : TypOk Try.prog 34 TSRN_34 := ⟨by kernel_rfl, by kernel_rfl, by kernel_rfl, by kernel_rfl, by kernel_rfl⟩
def TSRN_25 : TI := ⟨1, false, [Value.slice none 0 0], [], some 27, 24, 5, none, false⟩
theorem TSRN_25_ok : TypOk Try.prog 25 TSRN_25 := ⟨by kernel_rfl, by kernel_rfl, by kernel_rfl, by kernel_rfl, by kernel_rfl⟩
def TSRN_43 : TI := ⟨1, false, [Value.slice none 0 0], [], some 3, 24, 5, none, false⟩
theorem TSRN_43_ok : TypOk Try.prog 43 TSRN_43 := ⟨by kernel_rfl, by kernel_rfl, by kernel_rfl, by kernel_rfl, by kernel_rfl⟩
def TSRN_35 : TI := ⟨1, false, [Value.int IntKind.i64 0], [], none, 8, 2, none, false⟩
theorem TSRN_35_ok : TypOk Try.prog 35 TSRN_35 := ⟨by kernel_rfl, by kernel_rfl, by kernel_rfl, by kernel_rfl, by kernel_rfl⟩
def TSRN : List (Nat × TI) := [(27, TSRN_27), (3, TSRN_3), (34, TSRN_34), (25, TSRN_25), (43, TSRN_43), (35, TSRN_35)]
theorem TSRN_ok : TabOk Try.prog TSRN := (((((((TabOk.nil _).cons TSRN_35_ok).cons TSRN_43_ok).cons TSRN_25_ok).cons TSRN_34_ok).cons TSRN_3_ok).cons TSRN_27_ok)
namespace Rn
theorem mtsL_of {P : Int → Prop} {l : List Tm} (h : ∀ t ∈ l, ∀ n ∈ mts t, P n) : ∀ n ∈ mtsL l, P n := by
  induction l with
  | nil => intro n hn; rw [mtsL] at hn; cases hn
  | cons t l ih =>
    intro n hn
    rw [mtsL, List.mem_append] at hn
    rcases hn with hn | hn
    · exact h t (by simp) n hn
    · exact ih (fun u hu => h u (by simp [hu])) n hn
theorem mtsL_mem {t : Tm} {n : Int} : ∀ {l : List Tm}, t ∈ l → n ∈ mts t → n ∈ mtsL l
  | u :: l, h, hn => by
    rw [mtsL, List.mem_append]
    rcases List.mem_cons.1 h with rfl | h
    · exact .inl hn
    · exact .inr (mtsL_mem h hn)
theorem mts_fit (t : Tm) : t.Fit → ∀ n ∈ mts t, -9223372036854775808 ≤ n ∧ n ≤ 9223372036854775807 := by
  induction t using Tm.ind with
  | h b k i a ih =>
    intro hf n hn
    obtain ⟨h0, h1, h2⟩ := Tm.fit_iff.1 hf
    rw [mts_eq, List.mem_append] at hn
    rcases hn with hn | hn
    · by_cases hk : k = 2
      · rw [if_pos hk] at hn; rw [List.mem_singleton.1 hn]; exact ⟨h0, h1⟩
      · rw [if_neg hk] at hn; cases hn
    · exact mtsL_of (P := fun n => -9223372036854775808 ≤ n ∧ n ≤ 9223372036854775807) (fun t ht => ih t ht (h2 t ht)) n hn
theorem ren_fulls_of {d : Int} {l : List Tm} (h : ∀ t ∈ l, (ren d t).full = t.full) : Tm.fulls (rens d l) = Tm.fulls l := by
  induction l with
  | nil => rw [rens]
  | cons t l ih => rw [rens]; simp only [Tm.fulls]; rw [h t (by simp), ih fun u hu => h u (by simp [hu])]
theorem ren_full (d : Int) (t : Tm) : (ren d t).full = t.full := by
  induction t using Tm.ind with
  | h b k i a ih => rw [ren_eq, Tm.full_eq, Tm.full_eq, ren_fulls_of ih]
theorem ren_fit (d : Int) (t : Tm) : t.Fit → (∀ n ∈ mts t, 0 ≤ sm n d ∧ sm n d ≤ 1000) → (ren d t).Fit := by
  induction t using Tm.ind with
  | h b k i a ih =>
    intro hf hm
    obtain ⟨h0, h1, h2⟩ := Tm.fit_iff.1 hf
    rw [mts_eq] at hm
    rw [ren_eq, rens_map]
    have hx : -9223372036854775808 ≤ (if k = 2 then sm i d else i) ∧ (if k = 2 then sm i d else i) ≤ 9223372036854775807 := by
      by_cases hk : k = 2
      · rw [if_pos hk]; have := hm i (by simp [hk]); omega
      · rw [if_neg hk]; exact ⟨h0, h1⟩
    refine Tm.fit_iff.2 ⟨hx.1, hx.2, fun u hu => ?_⟩
    obtain ⟨v, hv, rfl⟩ := List.mem_map.1 hu
    exact ih v hv (h2 v hv) fun n hn => hm n (List.mem_append_right _ (mtsL_mem hv hn))
theorem rens_back_of {d : Int} {l : List Tm} (h : ∀ t ∈ l, ren (-d) (ren d t) = t) : rens (-d) (rens d l) = l := by
  induction l with
  | nil => rw [rens, rens]
  | cons t l ih => rw [rens, rens, h t (by simp), ih fun u hu => h u (by simp [hu])]
theorem ren_back (d : Int) (t : Tm) : (∀ n ∈ mts t, sm (sm n d) (-d) = n) → ren (-d) (ren d t) = t := by
  induction t using Tm.ind with
  | h b k i a ih =>
    intro hm
    rw [mts_eq] at hm
    rw [ren_eq, ren_eq, rens_back_of fun t ht => ih t ht fun n hn => hm n (List.mem_append_right _ (mtsL_mem ht hn))]
    by_cases hk : k = 2
    · rw [if_pos hk, if_pos hk, hm i (by simp [hk])]
    · rw [if_neg hk, if_neg hk]
theorem mtsL_ren_of {d : Int} {l : List Tm} (h : ∀ t ∈ l, mts (ren d t) = (mts t).map (sm · d)) : mtsL (rens d l) = (mtsL l).map (sm · d) := by
  induction l with
  | nil => rw [rens, mtsL]; rfl
  | cons t l ih => rw [rens, mtsL, mtsL, h t (by simp), ih fun u hu => h u (by simp [hu]), List.map_append]
theorem mts_ren (d : Int) (t : Tm) : mts (ren d t) = (mts t).map (sm · d) := by
  induction t using Tm.ind with
  | h b k i a ih =>
    rw [ren_eq, mts_eq, mts_eq, mtsL_ren_of ih, List.map_append]
    by_cases hk : k = 2
    · rw [if_pos hk, if_pos hk, if_pos hk]; rfl
    · rw [if_neg hk, if_neg hk]; rfl
theorem errs_0 {d : Int} {t : Tm} (h : errs d t 0 = 0) : ∀ n ∈ mts t, 0 ≤ sm n d ∧ sm n d ≤ 1000 := by
  rw [errs_mts] at h
  by_cases h1 : ∃ n ∈ mts t, sm n d < 0
  · rw [if_pos h1] at h; cases h
  · rw [if_neg h1] at h
    by_cases h2 : ∃ n ∈ mts t, sm n d > 1000
    · rw [if_pos h2] at h; cases h
    · intro n hn
      refine ⟨?_, ?_⟩
      · by_cases h3 : sm n d < 0
        · exact absurd ⟨n, hn, h3⟩ h1
        · omega
      · by_cases h3 : sm n d > 1000
        · exact absurd ⟨n, hn, h3⟩ h2
        · omega
theorem back_ok {d n : Int} (hd : -1000 < d) (hn : 0 ≤ n ∧ n ≤ 1000) (h : 0 ≤ sm n d ∧ sm n d ≤ 1000) : sm (sm n d) (-d) = n := by
  have e := sm_ok h.1 h.2
  rw [e] at h ⊢
  unfold sm
  rw [if_neg (by omega), if_neg (by omega)]
  omega
theorem errs_back {d : Int} {t : Tm} (hd : -1000 < d) (h : errs d t 0 = 0) (hn : ∀ n ∈ mts t, 0 ≤ n ∧ n ≤ 1000) : errs (-d) (ren d t) 0 = 0 ∧ ren (-d) (ren d t) = t := by
  have h0 := errs_0 h
  refine ⟨?_, ren_back d t fun n hm => back_ok hd (hn n hm) (h0 n hm)⟩
  rw [errs_mts, mts_ren]
  rw [if_neg, if_neg]
  · rintro ⟨n, h1, h2⟩
    obtain ⟨x, hx, rfl⟩ := List.mem_map.1 h1
    rw [back_ok hd (hn x hx) (h0 x hx)] at h2
    have := hn x hx; omega
  · rintro ⟨n, h1, h2⟩
    obtain ⟨x, hx, rfl⟩ := List.mem_map.1 h1
    rw [back_ok hd (hn x hx) (h0 x hx)] at h2
    have := hn x hx; omega
end Rn
set_option maxHeartbeats 8000000 in
theorem substRenames_d (t : Tm) (d : Int) (hd : -9223372036854775808 ≤ d ∧ d ≤ 9223372036854775807) (hf : t.Fit) : PureC Try.prog 3 [.ag (eTm t), .v (.int .i64 d)] (.v (.bool true)) := by
 have hk := known09_d
 have hF := lawFew_d [t] (by simp)
 rw [show [t].all fewB = fewB t by simp] at hF
 have e1 : eTms [t] = [[.sl 2 (eTys t.binds) none, .v (.int .i64 t.kind), .v (.int .i64 t.index), .sl 4 (eTms t.args) none]] := by rw [← eTm_eq]; rfl
 cases hfe : fewB t with
 | false =>
  rw [hfe] at hF
  rw [eTm_eq]
  refine calldw 0 87 [ResultVar.tmp 4] TSRN_ok Try.func3 rfl Try.ntmps3 rfl fun cx hnt hn0 => ?_
  ·skip
   refine dw_seq ?_; refine dwk [] TSRN_ok hnt fun K hK => ?_; refine hK _ _ ?_; clear hK K; refine dw_seq ?_; refine dw_seq ?_; refine dwk [(14, .sl 4 (eTms [t]) none)] TSRN_ok hnt fun K hK => ?_; refine And.intro ((by rw [e1]; exact VLe.untag _ _ _)) ?_; refine dcl (hF) ?_; refine hK _ _ ?_; clear hK K; refine dw_cond (t := true) rfl ?_; rw [if_pos rfl]; refine dw_seq ?_; refine dwk [] TSRN_ok hnt fun K hK => ?_
   refine dcl (hk) ?_; refine hK _ _ ?_; clear hK K; refine dw_ret ?_
   exact reta rfl
 | true =>
 rw [hfe] at hF
 have hfl := (fewB_full hfe).1
 have hTo := to6_d t (by omega)
 have hR := rename_d t d hd (by omega) hf
 have hRr := rRename_d t d hd (by omega) hf (Rn.mts_fit t hf)
 have hme := rmetas_d [t] (by simp) (fun u hu => by rw [List.mem_singleton.1 hu]; omega) (fun u hu => by rw [List.mem_singleton.1 hu]; exact hf)
 have hmm := Rn.mem_metas t
 obtain ⟨l, hl⟩ : ∃ l, sortU (metasL [t]) = l := ⟨_, rfl⟩
 rw [hl] at hme hmm
 have hlen : l.length ≤ 90000 := by
  rw [← hl]
  have h1 := sortU_len (metasL [t])
  have h2 := metasL_len [t] 80000 (fun u hu => by rw [List.mem_singleton.1 hu]; omega)
  simp at h2; omega
 by_cases hE0 : Rn.errs d t 0 = 0
 ·have hrf := Rn.ren_full d t
  have hOf := of6_d (Rn.ren d t) (by omega)
  have hSm := same2_d (Rn.ren d t) (Rn.ren d t)
  rw [decide_eq_true rfl] at hSm
  have hOt := of6_d t (by omega)
  have hSt := same2_d t t
  rw [decide_eq_true rfl] at hSt
  have hR2 : -1000 < d → (∀ n ∈ Rn.mts t, 0 ≤ n ∧ n ≤ 1000) → PureC Try.prog 8 [.ag (eTm (Rn.ren d t)), .v (.int .i64 (-d))] (.tu [.ag (eTm t), .v (.int .i64 0)]) := fun h1 h2 => by
   have h3 := rename_d (Rn.ren d t) (-d) (by omega) (by omega) (Rn.ren_fit d t hf (Rn.errs_0 hE0))
   have h4 := Rn.errs_back h1 hE0 h2
   rw [h4.1, if_pos rfl, h4.2] at h3
   exact h3
  rw [hE0, if_pos rfl] at hR hRr
  generalize Rn.ren d t = u at hR hRr hOf hSm hR2
  rw [eTm_eq] at hTo hOf hSm hOt hSt ⊢
  rw [eTm_eq, eTm_eq] at hR hRr hR2
  by_cases hd2 : d ≤ -1000
  ·skip
   refine calldw 0 87 [ResultVar.tmp 4] TSRN_ok Try.func3 rfl Try.ntmps3 rfl fun cx hnt hn0 => ?_
   ·skip
    refine dw_seq ?_; refine dwk [] TSRN_ok hnt fun K hK => ?_; refine hK _ _ ?_; clear hK K; refine dw_seq ?_; refine dw_seq ?_; refine dwk [(14, .sl 4 (eTms [t]) none)] TSRN_ok hnt fun K hK => ?_; refine And.intro ((by rw [e1]; exact VLe.untag _ _ _)) ?_; refine dcl (hF) ?_; refine hK _ _ ?_; clear hK K; refine dw_cond (t := false) rfl ?_; rw [if_neg (by simp)]; refine dw_skip ?_; refine dw_seq ?_; refine dwk [] TSRN_ok hnt fun K hK => ?_
    refine dcl (hTo) ?_; refine dcl (hR) ?_; refine hK _ _ ?_; clear hK K; refine dw_seq ?_; refine dwk [] TSRN_ok hnt fun K hK => ?_; refine dcl (hRr) ?_; refine hK _ _ ?_; clear hK K; refine dw_seq ?_; refine dw_seq ?_; refine dwkD [(36, .v (.bool false))] TSRN_ok hnt fun K hK => ?_; refine dcl (hk) ?_; refine And.intro (bneF rfl) ?_; refine dcl (hOf) ?_; refine dcl (hSm) ?_; refine hK _ _ (by kernel_rfl) ?_; clear hK K
    refine dw_cond (t := false) rfl ?_; rw [if_neg (by simp)]; refine dw_skip ?_; refine dw_seq ?_; refine dw_seq ?_; refine dwk [(46, .v (.bool false)), (49, .v (.bool true))] TSRN_ok hnt fun K hK => ?_; refine And.intro (bneF rfl) ?_; refine And.intro auT ?_; refine hK _ _ ?_; clear hK K; refine dw_cond (t := true) rfl ?_; rw [if_pos rfl]; refine dw_seq ?_; refine dwk [] TSRN_ok hnt fun K hK => ?_; refine hK _ _ ?_; clear hK K
    refine dw_ret ?_
    exact reta rfl
  ·skip
   refine calldw 0 87 [ResultVar.tmp 4] TSRN_ok Try.func3 rfl Try.ntmps3 rfl fun cx hnt hn0 => ?_
   ·skip
    refine dw_seq ?_; refine dwk [] TSRN_ok hnt fun K hK => ?_; refine hK _ _ ?_; clear hK K; refine dw_seq ?_; refine dw_seq ?_; refine dwk [(14, .sl 4 (eTms [t]) none)] TSRN_ok hnt fun K hK => ?_; refine And.intro ((by rw [e1]; exact VLe.untag _ _ _)) ?_; refine dcl (hF) ?_; refine hK _ _ ?_; clear hK K; refine dw_cond (t := false) rfl ?_; rw [if_neg (by simp)]; refine dw_skip ?_; refine dw_seq ?_; refine dwk [] TSRN_ok hnt fun K hK => ?_
    refine dcl (hTo) ?_; refine dcl (hR) ?_; refine hK _ _ ?_; clear hK K; refine dw_seq ?_; refine dwk [] TSRN_ok hnt fun K hK => ?_; refine dcl (hRr) ?_; refine hK _ _ ?_; clear hK K; refine dw_seq ?_; refine dw_seq ?_; refine dwkD [(36, .v (.bool false))] TSRN_ok hnt fun K hK => ?_; refine dcl (hk) ?_; refine And.intro (bneF rfl) ?_; refine dcl (hOf) ?_; refine dcl (hSm) ?_; refine hK _ _ (by kernel_rfl) ?_; clear hK K
    refine dw_cond (t := false) rfl ?_; rw [if_neg (by simp)]; refine dw_skip ?_; refine dw_seq ?_; refine dw_seq ?_; refine dwk [(46, .v (.bool false)), (49, .v (.bool false))] TSRN_ok hnt fun K hK => ?_; refine And.intro (bneF rfl) ?_; refine And.intro auF ?_; refine hK _ _ ?_; clear hK K; refine dw_cond (t := false) rfl ?_; rw [if_neg (by simp)]; refine dw_skip ?_; refine dw_seq ?_; refine dwk [(52, .sl 4 (eTms [t]) none)] TSRN_ok hnt fun K hK => ?_
    refine And.intro ((by rw [e1]; exact VLe.untag _ _ _)) ?_; refine dcl (hme) ?_; refine hK _ _ ?_; clear hK K; refine dw_seq ?_; refine dw_seq ?_; refine dwk [] TSRN_ok hnt fun K hK => ?_; refine hK _ _ ?_; clear hK K; refine dw_block ?_
    refine dw_loop (ι := { j : Nat // ∀ i (h : i < l.length), i < j → 0 ≤ l[i] ∧ l[i] ≤ 1000 }) (fun j => [(.t 1, .v (.int .i64 d)), (.t 2, .p 0 0), (.t 5, .p 13 0), (.t 9, .sl 1 (eIs l) none), (.t 10, .v (.int .i64 ↑j.1)), (.c 0 0, .sl 2 (eTys t.binds) none), (.c 0 1, .v (.int .i64 t.kind)), (.c 0 2, .v (.int .i64 t.index)), (.c 0 3, .sl 4 (eTms t.args) none), (.c 13 0, .sl 2 (eTys u.binds) none), (.c 13 1, .v (.int .i64 u.kind)), (.c 13 2, .v (.int .i64 u.index)), (.c 13 3, .sl 4 (eTms u.args) none)]) 23 (fun j => l.length - j.1) (⟨0, fun i h1 h2 => by omega⟩) (VS.toA) fun j => ?_
    obtain ⟨j, hj⟩ := j
    dsimp only
    by_cases hlt : j < l.length
    ·obtain ⟨n, hn⟩ : ∃ n, l[j] = n := ⟨_, rfl⟩
     have hel : (eIs l).getD (↑j : Int).toNat [] = [.v (.int .i64 n)] := by rw [Int.toNat_natCast, eIs_getD l j hlt, hn]
     refine dw_seq ?_; refine dw_seq ?_; refine dwk [(56, .v (.int .i64 (↑l.length))), (57, .v (.bool true))] TSRN_ok hnt fun K hK => ?_; refine And.intro (dintE (by rw [eIs_len])) ?_; refine And.intro auT ?_; refine hK _ _ ?_; clear hK K; refine dw_cond (t := true) rfl ?_; rw [if_pos rfl]
     by_cases n0 : n < 0
     ·skip
      refine dw_skip ?_; refine dw_seq ?_; refine dw_block ?_; refine dw_seq ?_; refine dwk [(62, .q [.v (.int .i64 n)]), (64, .v (.bool true))] TSRN_ok hnt fun K hK => ?_; refine And.intro (⟨by omega, by rw [eIs_len]; omega⟩) ?_; refine And.intro (VLe.of_eq (by rw [hel])) ?_; refine And.intro auT ?_; refine hK _ _ ?_; clear hK K; refine dw_cond (t := true) rfl ?_; rw [if_pos rfl]; refine dw_seq ?_; refine dwk [] TSRN_ok hnt fun K hK => ?_
      refine hK _ _ ?_; clear hK K; refine dw_ret ?_
      exact reta rfl
     ·by_cases n1 : n > 1000
      ·skip
       refine dw_skip ?_; refine dw_seq ?_; refine dw_block ?_; refine dw_seq ?_; refine dwk [(62, .q [.v (.int .i64 n)]), (64, .v (.bool false)), (68, .q [.v (.int .i64 n)]), (70, .v (.bool true))] TSRN_ok hnt fun K hK => ?_; refine And.intro (⟨by omega, by rw [eIs_len]; omega⟩) ?_; refine And.intro (VLe.of_eq (by rw [hel])) ?_; refine And.intro auF ?_; refine And.intro (⟨by omega, by rw [eIs_len]; omega⟩) ?_
       refine And.intro (VLe.of_eq (by rw [hel])) ?_; refine And.intro auT ?_; refine hK _ _ ?_; clear hK K; refine dw_cond (t := true) rfl ?_; rw [if_pos rfl]; refine dw_seq ?_; refine dwk [] TSRN_ok hnt fun K hK => ?_; refine hK _ _ ?_; clear hK K; refine dw_ret ?_
       exact reta rfl
      ·skip
       refine dw_skip ?_; refine dw_seq ?_; refine dw_block ?_; refine dw_seq ?_; refine dwk [(62, .q [.v (.int .i64 n)]), (64, .v (.bool false)), (68, .q [.v (.int .i64 n)]), (70, .v (.bool false))] TSRN_ok hnt fun K hK => ?_; refine And.intro (⟨by omega, by rw [eIs_len]; omega⟩) ?_; refine And.intro (VLe.of_eq (by rw [hel])) ?_; refine And.intro auF ?_; refine And.intro (⟨by omega, by rw [eIs_len]; omega⟩) ?_
       refine And.intro (VLe.of_eq (by rw [hel])) ?_; refine And.intro auF ?_; refine hK _ _ ?_; clear hK K; refine dw_cond (t := false) rfl ?_; rw [if_neg (by simp)]; refine dw_skip ?_; refine dwk [(59, .v (.int .i64 (↑(j + 1))))] TSRN_ok hnt fun K hK => ?_; refine And.intro auI ?_; refine hK _ _ ?_; clear hK K
       refine ⟨⟨j + 1, fun i h1 h2 => if e : i = j then by subst e; rw [hn]; omega else hj i h1 (by omega)⟩, by first | omega | (dsimp only; omega), VS.toA⟩
    ·have hR3 := hR2 (by omega) fun n hn => by
      obtain ⟨i, h1, h2⟩ := List.getElem_of_mem ((hmm n).2 hn)
      have := hj i h1 (by omega)
      rw [h2] at this; exact this
     refine dw_seq ?_; refine dw_seq ?_; refine dwk [(56, .v (.int .i64 (↑l.length))), (57, .v (.bool false))] TSRN_ok hnt fun K hK => ?_; refine And.intro (dintE (by rw [eIs_len])) ?_; refine And.intro auF ?_; refine hK _ _ ?_; clear hK K; refine dw_cond (t := false) rfl ?_; rw [if_neg (by simp)]; refine dw_exit ?_; refine dw_seq ?_; refine dwk [(75, .v (.int .i64 ((-d))))] TSRN_ok hnt fun K hK => ?_; refine And.intro (dintE (by (rw [show (0 : Int) - d = -d by omega]; exact IntWalk.i64_in _ (by omega)))) ?_
     refine dcl (hR3) ?_; refine hK _ _ ?_; clear hK K; refine dw_seq ?_; refine dwkD [(80, .v (.bool true))] TSRN_ok hnt fun K hK => ?_; refine And.intro (beqT rfl) ?_; refine dcl (hOt) ?_; refine dcl (hSt) ?_; refine hK _ _ (by kernel_rfl) ?_; clear hK K; refine dw_ret ?_
     exact reta rfl
 ·have hz1 := of6_d Tm.zero (by decide)
  have hz2 := same2_d Tm.zero Tm.zero
  rw [decide_eq_true rfl] at hz2
  rw [if_neg hE0] at hR hRr
  rw [eTm_eq] at hTo ⊢
  rw [eTm_eq, eTm_z] at hR hRr
  rw [eTm_z] at hz1 hz2
  generalize Rn.errs d t 0 = E at hE0 hR hRr
  refine calldw 0 87 [ResultVar.tmp 4] TSRN_ok Try.func3 rfl Try.ntmps3 rfl fun cx hnt hn0 => ?_
  ·skip
   refine dw_seq ?_; refine dwk [] TSRN_ok hnt fun K hK => ?_; refine hK _ _ ?_; clear hK K; refine dw_seq ?_; refine dw_seq ?_; refine dwk [(14, .sl 4 (eTms [t]) none)] TSRN_ok hnt fun K hK => ?_; refine And.intro ((by rw [e1]; exact VLe.untag _ _ _)) ?_; refine dcl (hF) ?_; refine hK _ _ ?_; clear hK K; refine dw_cond (t := false) rfl ?_; rw [if_neg (by simp)]; refine dw_skip ?_; refine dw_seq ?_; refine dwk [] TSRN_ok hnt fun K hK => ?_
   refine dcl (hTo) ?_; refine dcl (hR) ?_; refine hK _ _ ?_; clear hK K; refine dw_seq ?_; refine dwk [] TSRN_ok hnt fun K hK => ?_; refine dcl (hRr) ?_; refine hK _ _ ?_; clear hK K; refine dw_seq ?_; refine dw_seq ?_; refine dwkD [(36, .v (.bool false))] TSRN_ok hnt fun K hK => ?_; refine dcl (hk) ?_; refine And.intro (bneF rfl) ?_; refine dcl (hz1) ?_; refine dcl (hz2) ?_; refine hK _ _ (by kernel_rfl) ?_; clear hK K
   refine dw_cond (t := false) rfl ?_; rw [if_neg (by simp)]; refine dw_skip ?_; refine dw_seq ?_; refine dw_seq ?_; refine dwk [(46, .v (.bool true))] TSRN_ok hnt fun K hK => ?_; refine And.intro (bneT hE0) ?_; refine hK _ _ ?_; clear hK K; refine dw_cond (t := true) rfl ?_; rw [if_pos rfl]; refine dw_seq ?_; refine dwk [] TSRN_ok hnt fun K hK => ?_; refine hK _ _ ?_; clear hK K; refine dw_ret ?_
   exact reta rfl
end Go.Proofs.Ytcblpjheoclkeaa

