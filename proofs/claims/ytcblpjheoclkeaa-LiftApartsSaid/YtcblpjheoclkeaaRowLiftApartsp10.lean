/-
  LiftAparts, walked in the deep way.
-/
import Derived.Test.YtcblpjheoclkeaaRowLiftApartsp9
set_option maxRecDepth 100000
set_option maxHeartbeats 1000000
set_option linter.unusedVariables false
set_option linter.unusedSimpArgs false
namespace Go.Proofs.Ytcblpjheoclkeaa
open Go.RowKit
def TLH_62 : TI := ⟨9, true, [Value.slice none 0 0, Value.int IntKind.i64 0, Value.int IntKind.i64 0, Value.slice none 0 0, Value.slice none 0 0, Value.int IntKind.i64 0, Value.int IntKind.i64 0, Value.slice none 0 0, Value.slice none 0 0], [(0, 4, true), (4, 4, true), (8, 1, false)], none, 152, 6, none, false⟩
theorem TLH_62_ok : TypOk Try.prog 62 TLH_62 := ⟨by kernel_rfl, by kernel_rfl, by kernel_rfl, by kernel_rfl, by kernel_rfl⟩
def TLH_68 : TI := ⟨9, true, [Value.slice none 0 0, Value.int IntKind.i64 0, Value.int IntKind.i64 0, Value.slice none 0 0, Value.slice none 0 0, Value.int IntKind.i64 0, Value.int IntKind.i64 0, Value.slice none 0 0, Value.slice none 0 0], [(0, 4, true), (4, 4, true), (8, 1, false)], none, 152, 6, none, false⟩
theorem TLH_68_ok : TypOk Try.prog 68 TLH_68 := ⟨by kernel_rfl, by kernel_rfl, by kernel_rfl, by kernel_rfl, by kernel_rfl⟩
def TLH_3 : TI := ⟨1, false, [Value.int IntKind.i64 0], [], none, 8, 2, none, false⟩
theorem TLH_3_ok : TypOk Try.prog 3 TLH_3 := ⟨by kernel_rfl, by kernel_rfl, by kernel_rfl, by kernel_rfl, by kernel_rfl⟩
def TLH_22 : TI := ⟨1, false, [Value.slice none 0 0], [], some 123, 24, 5, none, false⟩
theorem TLH_22_ok : TypOk Try.prog 22 TLH_22 := ⟨by kernel_rfl, by kernel_rfl, by kernel_rfl, by kernel_rfl, by kernel_rfl⟩
def TLH_43 : TI := ⟨1, false, [Value.slice none 0 0], [], some 3, 24, 5, none, false⟩
theorem TLH_43_ok : TypOk Try.prog 43 TLH_43 := ⟨by kernel_rfl, by kernel_rfl, by kernel_rfl, by kernel_rfl, by kernel_rfl⟩
def TLH_32 : TI := ⟨1, false, [Value.slice none 0 0], [], some 34, 24, 5, none, false⟩
theorem TLH_32_ok : TypOk Try.prog 32 TLH_32 := ⟨by kernel_rfl, by kernel_rfl, by kernel_rfl, by kernel_rfl, by kernel_rfl⟩
def TLH_34 : TI := ⟨4, true, [Value.slice none 0 0, Value.int IntKind.i64 0, Value.int IntKind.i64 0, Value.slice none 0 0], [(0, 1, false), (1, 2, true), (3, 1, false)], none, 64, 6, none, false⟩
theorem TLH_34_ok : TypOk Try.prog 34 TLH_34 := ⟨by kernel_rfl, by kernel_rfl, by kernel_rfl, by kernel_rfl, by kernel_rfl⟩
def TLH_30 : TI := ⟨1, false, [Value.slice none 0 0], [], some 83, 24, 5, none, false⟩
theorem TLH_30_ok : TypOk Try.prog 30 TLH_30 := ⟨by kernel_rfl, by kernel_rfl, by kernel_rfl, by kernel_rfl, by kernel_rfl⟩
def TLH_119 : TI := ⟨1, false, [Value.slice none 0 0], [], some 62, 24, 5, none, false⟩
theorem TLH_119_ok : TypOk Try.prog 119 TLH_119 := ⟨by kernel_rfl, by kernel_rfl, by kernel_rfl, by kernel_rfl, by kernel_rfl⟩
def TLH_66 : TI := ⟨3, true, [Value.int IntKind.i64 0, Value.slice none 0 0, Value.slice none 0 0], [(0, 1, false), (1, 1, false), (2, 1, false)], none, 56, 6, none, false⟩
theorem TLH_66_ok : TypOk Try.prog 66 TLH_66 := ⟨by kernel_rfl, by kernel_rfl, by kernel_rfl, by kernel_rfl, by kernel_rfl⟩
def TLH_27 : TI := ⟨4, true, [Value.slice none 0 0, Value.int IntKind.i64 0, Value.int IntKind.i64 0, Value.slice none 0 0], [(0, 1, false), (1, 2, true), (3, 1, false)], none, 64, 6, none, false⟩
theorem TLH_27_ok : TypOk Try.prog 27 TLH_27 := ⟨by kernel_rfl, by kernel_rfl, by kernel_rfl, by kernel_rfl, by kernel_rfl⟩
def TLH_83 : TI := ⟨2, true, [Value.slice none 0 0, Value.int IntKind.i64 0], [(0, 1, false), (1, 1, false)], none, 32, 6, none, false⟩
theorem TLH_83_ok : TypOk Try.prog 83 TLH_83 := ⟨by kernel_rfl, by kernel_rfl, by kernel_rfl, by kernel_rfl, by kernel_rfl⟩
def TLH_123 : TI := ⟨2, true, [Value.slice none 0 0, Value.int IntKind.i64 0], [(0, 1, false), (1, 1, false)], none, 32, 6, none, false⟩
theorem TLH_123_ok : TypOk Try.prog 123 TLH_123 := ⟨by kernel_rfl, by kernel_rfl, by kernel_rfl, by kernel_rfl, by kernel_rfl⟩
def TLH : List (Nat × TI) := [(62, TLH_62), (68, TLH_68), (3, TLH_3), (22, TLH_22), (43, TLH_43), (32, TLH_32), (34, TLH_34), (30, TLH_30), (119, TLH_119), (66, TLH_66), (27, TLH_27), (83, TLH_83), (123, TLH_123)]
theorem TLH_ok : TabOk Try.prog TLH := ((((((((((((((TabOk.nil _).cons TLH_123_ok).cons TLH_83_ok).cons TLH_27_ok).cons TLH_66_ok).cons TLH_119_ok).cons TLH_30_ok).cons TLH_34_ok).cons TLH_32_ok).cons TLH_43_ok).cons TLH_22_ok).cons TLH_3_ok).cons TLH_68_ok).cons TLH_62_ok)
set_option maxRecDepth 100000 in
set_option maxHeartbeats 8000000 in
theorem liftAparts_d (p q : Li.Pr) (B0 : List Ty) (hp : p.l.Fit ∧ p.r.Fit) (hq : q.l.Fit ∧ q.r.Fit) (hB0 : B0.length ≤ 9223372036854775807) : PureC Try.prog 5 [.ag (ePr p), .ag (ePr q), .sl 2 (eTys B0) none] (.v (.bool true)) := by
 have hk := known22_d
 have hF := few17_d [p, q] (by simp)
 rw [show [p, q].all fewP = (fewP p && fewP q) by simp] at hF
 have eP : ePrs [p, q] = [ePr p, ePr q] := rfl
 obtain ⟨B, hBe⟩ : ∃ B, B0.take (min B0.length 10) = B := ⟨_, rfl⟩
 have hBl : B.length ≤ 10 := by rw [← hBe, List.length_take]; omega
 have e26 : (eTys B0).take (min B0.length 10) = eTys B := by rw [← hBe, eTys_map, eTys_map, List.map_take]
 have hSm := small_d 0 [] [] B (by simp) (by simp) (by omega)
 rw [List.append_nil, List.nil_append] at hSm
 rw [ePr_at p, ePr_at q] at eP ⊢
 cases hf : (fewP p && fewP q) with
 | false =>
  rw [hf] at hF
  refine calldw 0 173 [ResultVar.tmp 6] TLH_ok Try.func5 rfl Try.ntmps5 rfl fun cx hnt hn0 => ?_
  ·skip
   refine dw_seq ?_; refine dwk [] TLH_ok hnt fun K hK => ?_; refine hK _ _ ?_; clear hK K; refine dw_seq ?_; refine dwk [(24, .v (.int .i64 (↑B0.length))), (25, .v (.int .i64 (↑(min B0.length 10)))), (26, .sl 2 (eTys B) none)] TLH_ok hnt fun K hK => ?_; refine And.intro (dintE (by rw [eTys_len])) ?_; refine And.intro (dintE (by omega)) ?_; refine And.intro (⟨by omega, by rw [eTys_len]; omega⟩) ?_; refine And.intro (VLe.of_eq (congrArg (D.sl 2 · none) e26)) ?_
   refine hK _ _ ?_; clear hK K; refine dw_seq ?_; refine dw_seq ?_; refine dwk [(29, .sl 9 (ePrs [p, q]) none)] TLH_ok hnt fun K hK => ?_; refine And.intro ((by rw [eP]; exact VLe.untag _ _ _)) ?_; refine dcl (hF) ?_; refine hK _ _ ?_; clear hK K; refine dw_cond (t := true) rfl ?_; rw [if_pos rfl]; refine dw_seq ?_; refine dwk [] TLH_ok hnt fun K hK => ?_; refine dcl (hk) ?_; refine hK _ _ ?_; clear hK K
   refine dw_ret ?_
   exact reta rfl
 | true =>
 cases hs : B.all few4B with
 | false =>
  rw [hf] at hF
  rw [hs] at hSm
  refine calldw 0 173 [ResultVar.tmp 6] TLH_ok Try.func5 rfl Try.ntmps5 rfl fun cx hnt hn0 => ?_
  ·skip
   refine dw_seq ?_; refine dwk [] TLH_ok hnt fun K hK => ?_; refine hK _ _ ?_; clear hK K; refine dw_seq ?_; refine dwk [(24, .v (.int .i64 (↑B0.length))), (25, .v (.int .i64 (↑(min B0.length 10)))), (26, .sl 2 (eTys B) none)] TLH_ok hnt fun K hK => ?_; refine And.intro (dintE (by rw [eTys_len])) ?_; refine And.intro (dintE (by omega)) ?_; refine And.intro (⟨by omega, by rw [eTys_len]; omega⟩) ?_; refine And.intro (VLe.of_eq (congrArg (D.sl 2 · none) e26)) ?_
   refine hK _ _ ?_; clear hK K; refine dw_seq ?_; refine dw_seq ?_; refine dwk [(29, .sl 9 (ePrs [p, q]) none), (33, .ag [.v (.int .i64 0), .sl 2 (eTys []) none, .sl 2 (eTys []) none])] TLH_ok hnt fun K hK => ?_; refine And.intro ((by rw [eP]; exact VLe.untag _ _ _)) ?_; refine dcl (hF) ?_; refine And.intro (auV) ?_; refine dcl (hSm) ?_; refine hK _ _ ?_; clear hK K; refine dw_cond (t := true) rfl ?_
   rw [if_pos rfl]; refine dw_seq ?_; refine dwk [] TLH_ok hnt fun K hK => ?_; refine dcl (hk) ?_; refine hK _ _ ?_; clear hK K; refine dw_ret ?_
   exact reta rfl
 | true =>
 rw [hf] at hF
 rw [hs] at hSm
 rw [Bool.and_eq_true] at hf
 obtain ⟨p1, p2, p3⟩ := fewP_ok hf.1
 obtain ⟨q1, q2, q3⟩ := fewP_ok hf.2
 have hBs : Ty.sizes B ≤ 600 := by have := sizes_le22 (fun b hb => fewT60 (List.all_eq_true.1 hs b hb)); omega
 have hps : Ty.sizes p.m ≤ 1200 := by have := sizes_le22 p3; omega
 have hqs : Ty.sizes q.m ≤ 1200 := by have := sizes_le22 q3; omega
 have hTy := toTys_d B (by omega)
 have hTp := to17_d p (by omega) (by omega) (by omega)
 have hTq := to17_d q (by omega) (by omega) (by omega)
 have hX := lbehind_d p B ⟨by omega, hp.1⟩ ⟨by omega, hp.2⟩ (by omega)
 have hY := rbehind22_d p B ⟨by omega, hp.1⟩ ⟨by omega, hp.2⟩ (by omega)
 have hA := lapart_d p q ⟨by omega, hp.1⟩ ⟨by omega, hp.2⟩ ⟨by omega, hq.1⟩ ⟨by omega, hq.2⟩ (by omega)
 have hC := rbehind22_d q p.m ⟨by omega, hq.1⟩ ⟨by omega, hq.2⟩ (by omega)
 have sX := Li.beh_sm (p := p) (M := B) p1.1 p1.2
 have sC := Li.beh_sm (p := q) (M := p.m) q1.1 q1.2
 have hms : (Li.beh p B).1.m.length ≤ 1000 ∧ Ty.sizes (Li.beh p B).1.m ≤ 5000 := by
  by_cases h : (Li.beh p B).2 = 0
  ·rw [(Li.beh_ok h).2.2]; show (B ++ p.m).length ≤ _ ∧ Ty.sizes (B ++ p.m) ≤ _; rw [Ty.sizes_append, List.length_append]; omega
  ·rw [Li.beh_no h]; exact ⟨by decide, by decide⟩
 have hmc : (Li.beh q p.m).1.m.length ≤ 1000 ∧ Ty.sizes (Li.beh q p.m).1.m ≤ 5000 := by
  by_cases h : (Li.beh q p.m).2 = 0
  ·rw [(Li.beh_ok h).2.2]; show (p.m ++ q.m).length ≤ _ ∧ Ty.sizes (p.m ++ q.m) ≤ _; rw [Ty.sizes_append, List.length_append]; omega
  ·rw [Li.beh_no h]; exact ⟨by decide, by decide⟩
 have hX1 := of17_d (Li.beh p B).1 (by omega) (by omega) (by omega)
 have hX2 := same17_d (Li.beh p B).1 (Li.beh p B).1 (by omega) (by omega)
 have hC1 := of17_d (Li.beh q p.m).1 (by omega) (by omega) (by omega)
 have hC2 := same17_d (Li.beh q p.m).1 (Li.beh q p.m).1 (by omega) (by omega)
 rw [decide_eq_true rfl] at hX2 hC2
 have hap := fun h => Li.apart_no (p := p) (q := q) h
 have hno := fun h => Li.beh_no (p := q) (M := p.m) h
 unfold Li.apart at hA
 generalize (Li.beh p B).2 = xe at hX hY
 generalize (Li.beh p B).1 = x at hX hY hX1 hX2
 generalize hce : (Li.beh q p.m).2 = ce at hA hC hap hno
 generalize (Li.beh q p.m).1 = c at hA hC hC1 hC2 hap hno sC hmc
 rw [ePr_at p] at hTp hX hY hA
 rw [ePr_at q] at hTq hA hC
 rw [ePr_at x] at hX hY hX1 hX2
 by_cases h0 : ce = 0
 ·subst h0
  rw [if_pos rfl] at hA
  dsimp only at hA
  have hA1 := of17_d ⟨p.l, p.r, c.m⟩ (by dsimp only; omega) (by dsimp only; omega) (by dsimp only; omega)
  have hA2 := same17_d ⟨p.l, p.r, c.m⟩ ⟨p.l, p.r, c.m⟩ (by dsimp only; omega) (by dsimp only; omega)
  rw [decide_eq_true rfl] at hA2
  rw [ePr_eq] at hA1 hA2 hA
  rw [ePr_at c] at hA hC hC1 hC2
  have full2 : ∀ {a b : Tm} {n : Nat}, a.full ≤ n → b.full ≤ n → ∀ t ∈ [a, b], t.full ≤ n := fun h1 h2 t ht => by
   rcases List.mem_cons.1 ht with rfl | ht
   ·exact h1
   ·rw [List.mem_singleton] at ht; subst ht; exact h2
  have M1 := metas_d [p.l, p.r] (by simp) (full2 (by omega) (by omega))
  have M2 := metas_d [c.l, c.r] (by simp) (full2 (by omega) (by omega))
  have M3 := metas_d [q.l, q.r] (by simp) (full2 (by omega) (by omega))
  have e2 : ∀ a b : Tm, eTms [a, b] = [[.sl 2 (eTys a.binds) none, .v (.int .i64 a.kind), .v (.int .i64 a.index), .sl 4 (eTms a.args) none], [.sl 2 (eTys b.binds) none, .v (.int .i64 b.kind), .v (.int .i64 b.index), .sl 4 (eTms b.args) none]] := fun a b => by rw [← eTm_eq, ← eTm_eq]; rfl
  have m2 := Rn.mem_metas2 c.l c.r
  have m3 := Rn.mem_metas2 q.l q.r
  have s3 := (sortU_spec (metasL [q.l, q.r])).1
  have len2 : ∀ {a b : Tm}, a.full ≤ 150 → b.full ≤ 150 → (sortU (metasL [a, b])).length ≤ 1000 := fun {a b} h1 h2 => by
   have i1 := sortU_len (metasL [a, b])
   have i2 := metasL_len [a, b] 150 (full2 h1 h2)
   simp at i2; omega
  have l1 := len2 p1.1 p1.2
  have l2 := len2 sC.1 sC.2.1
  have l3 := len2 q1.1 q1.2
  generalize sortU (metasL [p.l, p.r]) = U1 at M1 l1
  generalize sortU (metasL [c.l, c.r]) = U2 at M2 l2 m2
  generalize sortU (metasL [q.l, q.r]) = U3 at M3 l3 m3 s3
  by_cases hneg : ∃ n r, U3 = n :: r ∧ n < 0
  ·obtain ⟨n, r, rfl, hn⟩ := hneg
   have hel : (eIs (n :: r)).getD 0 [] = [.v (.int .i64 n)] := rfl
   refine calldw 0 173 [ResultVar.tmp 6] TLH_ok Try.func5 rfl Try.ntmps5 rfl fun cx hnt hn0 => ?_
   ·skip
    refine dw_seq ?_; refine dwk [] TLH_ok hnt fun K hK => ?_; refine hK _ _ ?_; clear hK K; refine dw_seq ?_; refine dwk [(24, .v (.int .i64 (↑B0.length))), (25, .v (.int .i64 (↑(min B0.length 10)))), (26, .sl 2 (eTys B) none)] TLH_ok hnt fun K hK => ?_; refine And.intro (dintE (by rw [eTys_len])) ?_; refine And.intro (dintE (by omega)) ?_; refine And.intro (⟨by omega, by rw [eTys_len]; omega⟩) ?_; refine And.intro (VLe.of_eq (congrArg (D.sl 2 · none) e26)) ?_
    refine hK _ _ ?_; clear hK K; refine dw_seq ?_; refine dw_seq ?_; refine dwk [(29, .sl 9 (ePrs [p, q]) none), (33, .ag [.v (.int .i64 0), .sl 2 (eTys []) none, .sl 2 (eTys []) none])] TLH_ok hnt fun K hK => ?_; refine And.intro ((by rw [eP]; exact VLe.untag _ _ _)) ?_; refine dcl (hF) ?_; refine And.intro (auV) ?_; refine dcl (hSm) ?_; refine hK _ _ ?_; clear hK K; refine dw_cond (t := false) rfl ?_
    rw [if_neg (by simp)]; refine dw_skip ?_; refine dw_seq ?_; refine dwk [] TLH_ok hnt fun K hK => ?_; refine dcl (hTp) ?_; refine dcl (hTy) ?_; refine dcl (hX) ?_; refine hK _ _ ?_; clear hK K; refine dw_seq ?_; refine dwk [] TLH_ok hnt fun K hK => ?_; refine dcl (hY) ?_; refine hK _ _ ?_; clear hK K; refine dw_seq ?_; refine dwkD [] TLH_ok hnt fun K hK => ?_; refine dcl (hTp) ?_; refine dcl (hTq) ?_
    refine dcl (hA) ?_; refine hK _ _ (by kernel_rfl) ?_; clear hK K; refine dw_seq ?_; refine dwk [] TLH_ok hnt fun K hK => ?_; refine dcl (hC) ?_; refine hK _ _ ?_; clear hK K; refine dw_seq ?_; refine dw_seq ?_; refine dwkD [(74, .v (.bool false)), (86, .v (.bool false))] TLH_ok hnt fun K hK => ?_; refine dcl (hk) ?_; refine And.intro (bneF rfl) ?_; refine dcl (hX1) ?_; refine dcl (hX2) ?_; refine And.intro (bneF rfl) ?_
    refine dcl (hC1) ?_; refine dcl (hC2) ?_; refine hK _ _ (by kernel_rfl) ?_; clear hK K; refine dw_cond (t := false) rfl ?_; rw [if_neg (by simp)]; refine dw_skip ?_; refine dw_seq ?_; refine dw_seq ?_; refine dwk [(96, .v (.bool false))] TLH_ok hnt fun K hK => ?_; refine And.intro (bneF rfl) ?_; refine hK _ _ ?_; clear hK K; refine dw_cond (t := false) rfl ?_; rw [if_neg (by simp)]; refine dw_skip ?_
    refine dw_seq ?_; refine dwk [] TLH_ok hnt fun K hK => ?_; refine hK _ _ ?_; clear hK K; refine dw_seq ?_; refine dw_seq ?_; refine dwkD [] TLH_ok hnt fun K hK => ?_; refine dcl (hA1) ?_; refine dcl (hA2) ?_; refine hK _ _ (by kernel_rfl) ?_; clear hK K; refine dw_cond (t := false) rfl ?_; rw [if_neg (by simp)]; refine dw_skip ?_; refine dw_seq ?_; refine dwkD [(117, .sl 4 (eTms [p.l, p.r]) none), (123, .sl 4 (eTms [c.l, c.r]) none)] TLH_ok hnt fun K hK => ?_
    refine And.intro ((by rw [e2]; exact VLe.untag _ _ _)) ?_; refine dcl (M1) ?_; refine And.intro ((by rw [e2]; exact VLe.untag _ _ _)) ?_; refine dcl (M2) ?_; refine hK _ _ (by kernel_rfl) ?_; clear hK K; refine dw_seq ?_; refine dwkD [(131, .sl 4 (eTms [q.l, q.r]) none)] TLH_ok hnt fun K hK => ?_; refine dcl (hTq) ?_; refine dcl (hTq) ?_; refine And.intro ((by rw [e2]; exact VLe.untag _ _ _)) ?_; refine dcl (M3) ?_
    refine hK _ _ (by kernel_rfl) ?_; clear hK K; refine dw_seq ?_; refine dw_seq ?_; refine dwk [(134, .v (.int .i64 (↑(List.cons n r).length))), (135, .v (.bool true)), (138, .q [.v (.int .i64 n)]), (140, .v (.bool true))] TLH_ok hnt fun K hK => ?_; refine And.intro (dintE (by rw [eIs_len])) ?_; refine And.intro (by first | exact dtrue (by (rw [List.length_cons]; omega)) | exact VLe.of_eq (by (rw [List.length_cons]; omega))) ?_
    refine And.intro (⟨by omega, by rw [eIs_len, List.length_cons]; omega⟩) ?_; refine And.intro (VLe.of_eq (by exact congrArg D.q hel)) ?_; refine And.intro auT ?_; refine hK _ _ ?_; clear hK K; refine dw_cond (t := true) rfl ?_; rw [if_pos rfl]; refine dw_seq ?_; refine dwk [] TLH_ok hnt fun K hK => ?_; refine hK _ _ ?_; clear hK K; refine dw_ret ?_
    exact reta rfl
  ·have hnn : ∀ n, n ∈ Rn.mts q.l ∨ n ∈ Rn.mts q.r → 0 ≤ n := fun n hn => by
    have h1 := (m3 n).2 hn
    cases hU : U3 with
    | nil => rw [hU] at h1; cases h1
    | cons a r =>
     have h2 := Li.first_le s3 a r hU n h1
     by_cases h3 : a < 0
     ·exact absurd ⟨a, r, hU, h3⟩ hneg
     ·omega
   have hap := hap rfl hnn
   have hap2 : ∀ n ∈ U2, (p.m.length : Int) ≤ n := fun n hn => hap n ((m2 n).1 hn)
   have hfin : ∀ i (hi : i < U1.length) j (hj : j < U2.length), U1[i] = U2[j] → ¬ U1[i] < (p.m.length : Int) := fun i hi j hj h => by
    have := hap2 _ (List.getElem_mem hj); omega
   refine calldw 0 173 [ResultVar.tmp 6] TLH_ok Try.func5 rfl Try.ntmps5 rfl fun cx hnt hn0 => ?_
   ·skip
    refine dw_seq ?_; refine dwk [] TLH_ok hnt fun K hK => ?_; refine hK _ _ ?_; clear hK K; refine dw_seq ?_; refine dwk [(24, .v (.int .i64 (↑B0.length))), (25, .v (.int .i64 (↑(min B0.length 10)))), (26, .sl 2 (eTys B) none)] TLH_ok hnt fun K hK => ?_; refine And.intro (dintE (by rw [eTys_len])) ?_; refine And.intro (dintE (by omega)) ?_; refine And.intro (⟨by omega, by rw [eTys_len]; omega⟩) ?_; refine And.intro (VLe.of_eq (congrArg (D.sl 2 · none) e26)) ?_
    refine hK _ _ ?_; clear hK K; refine dw_seq ?_; refine dw_seq ?_; refine dwk [(29, .sl 9 (ePrs [p, q]) none), (33, .ag [.v (.int .i64 0), .sl 2 (eTys []) none, .sl 2 (eTys []) none])] TLH_ok hnt fun K hK => ?_; refine And.intro ((by rw [eP]; exact VLe.untag _ _ _)) ?_; refine dcl (hF) ?_; refine And.intro (auV) ?_; refine dcl (hSm) ?_; refine hK _ _ ?_; clear hK K; refine dw_cond (t := false) rfl ?_
    rw [if_neg (by simp)]; refine dw_skip ?_; refine dw_seq ?_; refine dwk [] TLH_ok hnt fun K hK => ?_; refine dcl (hTp) ?_; refine dcl (hTy) ?_; refine dcl (hX) ?_; refine hK _ _ ?_; clear hK K; refine dw_seq ?_; refine dwk [] TLH_ok hnt fun K hK => ?_; refine dcl (hY) ?_; refine hK _ _ ?_; clear hK K; refine dw_seq ?_; refine dwkD [] TLH_ok hnt fun K hK => ?_; refine dcl (hTp) ?_; refine dcl (hTq) ?_
    refine dcl (hA) ?_; refine hK _ _ (by kernel_rfl) ?_; clear hK K; refine dw_seq ?_; refine dwk [] TLH_ok hnt fun K hK => ?_; refine dcl (hC) ?_; refine hK _ _ ?_; clear hK K; refine dw_seq ?_; refine dw_seq ?_; refine dwkD [(74, .v (.bool false)), (86, .v (.bool false))] TLH_ok hnt fun K hK => ?_; refine dcl (hk) ?_; refine And.intro (bneF rfl) ?_; refine dcl (hX1) ?_; refine dcl (hX2) ?_; refine And.intro (bneF rfl) ?_
    refine dcl (hC1) ?_; refine dcl (hC2) ?_; refine hK _ _ (by kernel_rfl) ?_; clear hK K; refine dw_cond (t := false) rfl ?_; rw [if_neg (by simp)]; refine dw_skip ?_; refine dw_seq ?_; refine dw_seq ?_; refine dwk [(96, .v (.bool false))] TLH_ok hnt fun K hK => ?_; refine And.intro (bneF rfl) ?_; refine hK _ _ ?_; clear hK K; refine dw_cond (t := false) rfl ?_; rw [if_neg (by simp)]; refine dw_skip ?_
    refine dw_seq ?_; refine dwk [] TLH_ok hnt fun K hK => ?_; refine hK _ _ ?_; clear hK K; refine dw_seq ?_; refine dw_seq ?_; refine dwkD [] TLH_ok hnt fun K hK => ?_; refine dcl (hA1) ?_; refine dcl (hA2) ?_; refine hK _ _ (by kernel_rfl) ?_; clear hK K; refine dw_cond (t := false) rfl ?_; rw [if_neg (by simp)]; refine dw_skip ?_; refine dw_seq ?_; refine dwkD [(117, .sl 4 (eTms [p.l, p.r]) none), (123, .sl 4 (eTms [c.l, c.r]) none)] TLH_ok hnt fun K hK => ?_
    refine And.intro ((by rw [e2]; exact VLe.untag _ _ _)) ?_; refine dcl (M1) ?_; refine And.intro ((by rw [e2]; exact VLe.untag _ _ _)) ?_; refine dcl (M2) ?_; refine hK _ _ (by kernel_rfl) ?_; clear hK K; refine dw_seq ?_; refine dwkD [(131, .sl 4 (eTms [q.l, q.r]) none)] TLH_ok hnt fun K hK => ?_; refine dcl (hTq) ?_; refine dcl (hTq) ?_; refine And.intro ((by rw [e2]; exact VLe.untag _ _ _)) ?_; refine dcl (M3) ?_
    refine hK _ _ (by kernel_rfl) ?_; clear hK K
    refine dw_cut (τ := [(.t 3, .p 0 0), (.t 17, .sl 1 (eIs U1) none), (.t 18, .sl 1 (eIs U2) none), (.c 0 8, .sl 2 (eTys p.m) none)]) (N1 := 138) ?_ ?_
    ·cases U3 with
     | nil =>
      refine dw_seq ?_; refine dwk [(134, .v (.int .i64 (0))), (135, .v (.bool false))] TLH_ok hnt fun K hK => ?_; refine And.intro (dintE (by rfl)) ?_; refine And.intro auF ?_; refine hK _ _ ?_; clear hK K; refine dw_cond (t := false) rfl ?_; rw [if_neg (by simp)]; refine dw_skip ?_
      exact cut_ok VS.toA
     | cons n r =>
      have hn0 : ¬ n < 0 := fun h => hneg ⟨n, r, rfl, h⟩
      have hel : (eIs (n :: r)).getD 0 [] = [.v (.int .i64 n)] := rfl
      refine dw_seq ?_; refine dwk [(134, .v (.int .i64 (↑(List.cons n r).length))), (135, .v (.bool true)), (138, .q [.v (.int .i64 n)]), (140, .v (.bool false))] TLH_ok hnt fun K hK => ?_; refine And.intro (dintE (by rw [eIs_len])) ?_; refine And.intro (by first | exact dtrue (by (rw [List.length_cons]; omega)) | exact VLe.of_eq (by (rw [List.length_cons]; omega))) ?_; refine And.intro (⟨by omega, by rw [eIs_len, List.length_cons]; omega⟩) ?_
      refine And.intro (VLe.of_eq (by exact congrArg D.q hel)) ?_; refine And.intro auF ?_; refine hK _ _ ?_; clear hK K; refine dw_cond (t := false) rfl ?_; rw [if_neg (by simp)]; refine dw_skip ?_
      exact cut_ok VS.toA
    ·skip
     refine dw_seq ?_; refine dw_seq ?_; refine dwk [] TLH_ok hnt fun K hK => ?_; refine hK _ _ ?_; clear hK K; refine dw_block ?_
     refine dw_loop (ι := Nat) (fun i => [(.t 3, .p 0 0), (.t 17, .sl 1 (eIs U1) none), (.t 18, .sl 1 (eIs U2) none), (.t 20, .v (.int .i64 (i : Int))), (.c 0 8, .sl 2 (eTys p.m) none)]) 1 (fun i => U1.length - i) (0) (VS.toA) fun i => ?_
     by_cases hi : i < U1.length
     ·skip
      refine dw_seq ?_; refine dw_seq ?_; refine dwk [(144, .v (.int .i64 (↑U1.length))), (145, .v (.bool true))] TLH_ok hnt fun K hK => ?_; refine And.intro (dintE (by rw [eIs_len])) ?_; refine And.intro auT ?_; refine hK _ _ ?_; clear hK K; refine dw_cond (t := true) rfl ?_; rw [if_pos rfl]; refine dw_skip ?_; refine dw_seq ?_; refine dw_block ?_; refine dw_seq ?_; refine dwk [] TLH_ok hnt fun K hK => ?_
      refine hK _ _ ?_; clear hK K; refine dw_block ?_
      refine dw_loop (ι := Nat) (fun j => [(.t 3, .p 0 0), (.t 17, .sl 1 (eIs U1) none), (.t 18, .sl 1 (eIs U2) none), (.t 20, .v (.int .i64 (i : Int))), (.t 21, .v (.int .i64 (j : Int))), (.c 0 8, .sl 2 (eTys p.m) none)]) 1 (fun j => U2.length - j) (0) (VS.toA) fun j => ?_
      by_cases hj : j < U2.length
      ·have hn1 := hfin i hi j hj
       have he1 : (eIs U1).getD (↑i : Int).toNat [] = [.v (.int .i64 U1[i])] := by rw [Int.toNat_natCast, eIs_getD U1 i hi]
       have he2 : (eIs U2).getD (↑j : Int).toNat [] = [.v (.int .i64 U2[j])] := by rw [Int.toNat_natCast, eIs_getD U2 j hj]
       generalize U1[i] = a at hn1 he1
       generalize U2[j] = b at hn1 he2
       refine dw_seq ?_; refine dw_seq ?_; refine dwk [(150, .v (.int .i64 (↑U2.length))), (151, .v (.bool true))] TLH_ok hnt fun K hK => ?_; refine And.intro (dintE (by rw [eIs_len])) ?_; refine And.intro auT ?_; refine hK _ _ ?_; clear hK K; refine dw_cond (t := true) rfl ?_; rw [if_pos rfl]
       by_cases hab : a = b
       ·have hn2 := hn1 hab
        refine dw_skip ?_; refine dw_seq ?_; refine dw_block ?_; refine dw_seq ?_; refine dwkD [(156, .q [.v (.int .i64 a)]), (160, .q [.v (.int .i64 b)]), (162, .v (.bool true)), (166, .q [.v (.int .i64 a)]), (170, .v (.int .i64 (↑p.m.length))), (171, .v (.bool false))] TLH_ok hnt fun K hK => ?_; refine And.intro (⟨by omega, by rw [eIs_len]; omega⟩) ?_; refine And.intro (VLe.of_eq (by rw [he1])) ?_; refine And.intro (⟨by omega, by rw [eIs_len]; omega⟩) ?_
        refine And.intro (VLe.of_eq (by rw [he2])) ?_; refine And.intro (beqT hab) ?_; refine And.intro (⟨by omega, by rw [eIs_len]; omega⟩) ?_; refine And.intro (VLe.of_eq (by rw [he1])) ?_; refine And.intro (dintE (by rw [eTys_len])) ?_; refine And.intro auF ?_; refine hK _ _ (by kernel_rfl) ?_; clear hK K; refine dw_cond (t := false) rfl ?_; rw [if_neg (by simp)]; refine dw_skip ?_; refine dwk [(153, .v (.int .i64 (↑(j + 1))))] TLH_ok hnt fun K hK => ?_
        refine And.intro auI ?_; refine hK _ _ ?_; clear hK K
        refine ⟨j + 1, by first | omega | (dsimp only; omega), VS.toA⟩
       ·skip
        refine dw_skip ?_; refine dw_seq ?_; refine dw_block ?_; refine dw_seq ?_; refine dwkD [(156, .q [.v (.int .i64 a)]), (160, .q [.v (.int .i64 b)]), (162, .v (.bool false))] TLH_ok hnt fun K hK => ?_; refine And.intro (⟨by omega, by rw [eIs_len]; omega⟩) ?_; refine And.intro (VLe.of_eq (by rw [he1])) ?_; refine And.intro (⟨by omega, by rw [eIs_len]; omega⟩) ?_; refine And.intro (VLe.of_eq (by rw [he2])) ?_
        refine And.intro (beqF hab) ?_; refine hK _ _ (by kernel_rfl) ?_; clear hK K; refine dw_cond (t := false) rfl ?_; rw [if_neg (by simp)]; refine dw_skip ?_; refine dwk [(153, .v (.int .i64 (↑(j + 1))))] TLH_ok hnt fun K hK => ?_; refine And.intro auI ?_; refine hK _ _ ?_; clear hK K
        refine ⟨j + 1, by first | omega | (dsimp only; omega), VS.toA⟩
      ·skip
       refine dw_seq ?_; refine dw_seq ?_; refine dwk [(150, .v (.int .i64 (↑U2.length))), (151, .v (.bool false))] TLH_ok hnt fun K hK => ?_; refine And.intro (dintE (by rw [eIs_len])) ?_; refine And.intro auF ?_; refine hK _ _ ?_; clear hK K; refine dw_cond (t := false) rfl ?_; rw [if_neg (by simp)]; refine dw_exit ?_; refine dwk [(147, .v (.int .i64 (↑(i + 1))))] TLH_ok hnt fun K hK => ?_; refine And.intro auI ?_
       refine hK _ _ ?_; clear hK K
       refine ⟨i + 1, by first | omega | (dsimp only; omega), VS.toA⟩
     ·skip
      refine dw_seq ?_; refine dw_seq ?_; refine dwk [(144, .v (.int .i64 (↑U1.length))), (145, .v (.bool false))] TLH_ok hnt fun K hK => ?_; refine And.intro (dintE (by rw [eIs_len])) ?_; refine And.intro auF ?_; refine hK _ _ ?_; clear hK K; refine dw_cond (t := false) rfl ?_; rw [if_neg (by simp)]; refine dw_exit ?_; refine dw_seq ?_; refine dwk [] TLH_ok hnt fun K hK => ?_; refine hK _ _ ?_; clear hK K
      refine dw_ret ?_
      exact reta rfl
 ·have hcz := hno h0
  subst hcz
  have hz1 := of17_d .z (by decide) (by decide) (by decide)
  have hz2 := same17_d .z .z (by decide) (by decide)
  rw [decide_eq_true rfl] at hz2
  rw [ePr_z] at hz1 hz2
  rw [if_neg h0] at hA
  dsimp only at hA
  rw [ePr_z] at hA hC
  refine calldw 0 173 [ResultVar.tmp 6] TLH_ok Try.func5 rfl Try.ntmps5 rfl fun cx hnt hn0 => ?_
  ·skip
   refine dw_seq ?_; refine dwk [] TLH_ok hnt fun K hK => ?_; refine hK _ _ ?_; clear hK K; refine dw_seq ?_; refine dwk [(24, .v (.int .i64 (↑B0.length))), (25, .v (.int .i64 (↑(min B0.length 10)))), (26, .sl 2 (eTys B) none)] TLH_ok hnt fun K hK => ?_; refine And.intro (dintE (by rw [eTys_len])) ?_; refine And.intro (dintE (by omega)) ?_; refine And.intro (⟨by omega, by rw [eTys_len]; omega⟩) ?_; refine And.intro (VLe.of_eq (congrArg (D.sl 2 · none) e26)) ?_
   refine hK _ _ ?_; clear hK K; refine dw_seq ?_; refine dw_seq ?_; refine dwk [(29, .sl 9 (ePrs [p, q]) none), (33, .ag [.v (.int .i64 0), .sl 2 (eTys []) none, .sl 2 (eTys []) none])] TLH_ok hnt fun K hK => ?_; refine And.intro ((by rw [eP]; exact VLe.untag _ _ _)) ?_; refine dcl (hF) ?_; refine And.intro (auV) ?_; refine dcl (hSm) ?_; refine hK _ _ ?_; clear hK K; refine dw_cond (t := false) rfl ?_
   rw [if_neg (by simp)]; refine dw_skip ?_; refine dw_seq ?_; refine dwk [] TLH_ok hnt fun K hK => ?_; refine dcl (hTp) ?_; refine dcl (hTy) ?_; refine dcl (hX) ?_; refine hK _ _ ?_; clear hK K; refine dw_seq ?_; refine dwk [] TLH_ok hnt fun K hK => ?_; refine dcl (hY) ?_; refine hK _ _ ?_; clear hK K; refine dw_seq ?_; refine dwkD [] TLH_ok hnt fun K hK => ?_; refine dcl (hTp) ?_; refine dcl (hTq) ?_
   refine dcl (hA) ?_; refine hK _ _ (by kernel_rfl) ?_; clear hK K; refine dw_seq ?_; refine dwk [] TLH_ok hnt fun K hK => ?_; refine dcl (hC) ?_; refine hK _ _ ?_; clear hK K; refine dw_seq ?_; refine dw_seq ?_; refine dwkD [(74, .v (.bool false)), (86, .v (.bool false))] TLH_ok hnt fun K hK => ?_; refine dcl (hk) ?_; refine And.intro (bneF rfl) ?_; refine dcl (hX1) ?_; refine dcl (hX2) ?_; refine And.intro (bneF rfl) ?_
   refine dcl (hz1) ?_; refine dcl (hz2) ?_; refine hK _ _ (by kernel_rfl) ?_; clear hK K; refine dw_cond (t := false) rfl ?_; rw [if_neg (by simp)]; refine dw_skip ?_; refine dw_seq ?_; refine dw_seq ?_; refine dwk [(96, .v (.bool true))] TLH_ok hnt fun K hK => ?_; refine And.intro (bneT h0) ?_; refine hK _ _ ?_; clear hK K; refine dw_cond (t := true) rfl ?_; rw [if_pos rfl]; refine dw_seq ?_; refine dwk [(99, .v (.int .i64 (0))), (100, .v (.bool true))] TLH_ok hnt fun K hK => ?_
   refine And.intro auI ?_; refine And.intro (beqT rfl) ?_; refine hK _ _ ?_; clear hK K; refine dw_ret ?_
   exact reta rfl
end Go.Proofs.Ytcblpjheoclkeaa

