/-
  The known answer of the laws of layer 12. Package subst's lists, walked in the deep way: Without, Set, Domain, Get. The document's places and uses, walked in the deep way: All, At, Has, Vars, Uses; loose indexes. The document's uses, and what is taken out, walked in the deep way. The document's Take, walked in the deep way; what is wrong with a pattern. Package subst's lists, walked in the deep way: Clone, Without, Set, Domain, Get. Package subst's lists, walked in the deep way: Set, Domain, Get, Equal; terms that are the same. Package subst's lists, walked in the deep way: Get, Equal. The document's lists of pairs, walked in the deep way: Sorted, Get, Without, Domain, Same. The document's lists of pairs, walked in the deep way: Sorted and Without hand back rows of their own; Like. The document's matching, walked in the deep way: rigid, All.
-/
import Derived.Test.YtdmiekaeodcehaaRowMatchAllsp7
import Derived.Test.YtdmiekaeodcehaaRowMatchAllsp5
import Derived.Test.YtdmiekaeodcehaaRowMatchAllsp6
import Derived.Test.YtdmiekaeodcehaaRowMatchAllsp1
set_option maxRecDepth 100000
set_option maxHeartbeats 1000000
set_option linter.unusedVariables false
set_option linter.unusedSimpArgs false
namespace Go.Proofs.Ytdmiekaeodcehaa
open Go.RowKit
def TKM_34 : TI := ⟨4, true, [Value.slice none 0 0, Value.int IntKind.i64 0, Value.int IntKind.i64 0, Value.slice none 0 0], [(0, 1, false), (1, 2, true), (3, 1, false)], none, 64, 6, none, false⟩
theorem TKM_34_ok : TypOk Try.prog 34 TKM_34 := ⟨by kernel_rfl, by kernel_rfl, by kernel_rfl, by kernel_rfl, by kernel_rfl⟩
def TKM_32 : TI := ⟨1, false, [Value.slice none 0 0], [], some 34, 24, 5, none, false⟩
theorem TKM_32_ok : TypOk Try.prog 32 TKM_32 := ⟨by kernel_rfl, by kernel_rfl, by kernel_rfl, by kernel_rfl, by kernel_rfl⟩
def TKM_3 : TI := ⟨1, false, [Value.int IntKind.i64 0], [], none, 8, 2, none, false⟩
theorem TKM_3_ok : TypOk Try.prog 3 TKM_3 := ⟨by kernel_rfl, by kernel_rfl, by kernel_rfl, by kernel_rfl, by kernel_rfl⟩
def TKM_30 : TI := ⟨1, false, [Value.slice none 0 0], [], some 100, 24, 5, none, false⟩
theorem TKM_30_ok : TypOk Try.prog 30 TKM_30 := ⟨by kernel_rfl, by kernel_rfl, by kernel_rfl, by kernel_rfl, by kernel_rfl⟩
def TKM_100 : TI := ⟨2, true, [Value.slice none 0 0, Value.int IntKind.i64 0], [(0, 1, false), (1, 1, false)], none, 32, 6, none, false⟩
theorem TKM_100_ok : TypOk Try.prog 100 TKM_100 := ⟨by kernel_rfl, by kernel_rfl, by kernel_rfl, by kernel_rfl, by kernel_rfl⟩
def TKM_35 : TI := ⟨1, false, [Value.int IntKind.i64 0], [], none, 8, 2, none, false⟩
theorem TKM_35_ok : TypOk Try.prog 35 TKM_35 := ⟨by kernel_rfl, by kernel_rfl, by kernel_rfl, by kernel_rfl, by kernel_rfl⟩
def TKM_31 : TI := ⟨2, true, [Value.int IntKind.i64 0, Value.int IntKind.i64 0], [(0, 1, false), (1, 1, false)], none, 16, 6, none, true⟩
theorem TKM_31_ok : TypOk Try.prog 31 TKM_31 := ⟨by kernel_rfl, by kernel_rfl, by kernel_rfl, by kernel_rfl, by kernel_rfl⟩
def TKM_53 : TI := ⟨1, false, [Value.slice none 0 0], [], some 105, 24, 5, none, false⟩
theorem TKM_53_ok : TypOk Try.prog 53 TKM_53 := ⟨by kernel_rfl, by kernel_rfl, by kernel_rfl, by kernel_rfl, by kernel_rfl⟩
def TKM_47 : TI := ⟨1, false, [Value.slice none 0 0], [], some 51, 24, 5, none, false⟩
theorem TKM_47_ok : TypOk Try.prog 47 TKM_47 := ⟨by kernel_rfl, by kernel_rfl, by kernel_rfl, by kernel_rfl, by kernel_rfl⟩
def TKM_105 : TI := ⟨5, true, [Value.int IntKind.i64 0, Value.slice none 0 0, Value.int IntKind.i64 0, Value.int IntKind.i64 0, Value.slice none 0 0], [(0, 1, false), (1, 4, true)], none, 72, 6, none, false⟩
theorem TKM_105_ok : TypOk Try.prog 105 TKM_105 := ⟨by kernel_rfl, by kernel_rfl, by kernel_rfl, by kernel_rfl, by kernel_rfl⟩
def TKM_51 : TI := ⟨8, true, [Value.slice none 0 0, Value.int IntKind.i64 0, Value.int IntKind.i64 0, Value.slice none 0 0, Value.slice none 0 0, Value.int IntKind.i64 0, Value.int IntKind.i64 0, Value.slice none 0 0], [(0, 4, true), (4, 4, true)], none, 128, 6, none, false⟩
theorem TKM_51_ok : TypOk Try.prog 51 TKM_51 := ⟨by kernel_rfl, by kernel_rfl, by kernel_rfl, by kernel_rfl, by kernel_rfl⟩
def TKM : List (Nat × TI) := [(34, TKM_34), (32, TKM_32), (3, TKM_3), (30, TKM_30), (100, TKM_100), (35, TKM_35), (31, TKM_31), (53, TKM_53), (47, TKM_47), (105, TKM_105), (51, TKM_51)]
theorem TKM_ok : TabOk Try.prog TKM := ((((((((((((TabOk.nil _).cons TKM_51_ok).cons TKM_105_ok).cons TKM_47_ok).cons TKM_53_ok).cons TKM_31_ok).cons TKM_35_ok).cons TKM_100_ok).cons TKM_30_ok).cons TKM_3_ok).cons TKM_32_ok).cons TKM_34_ok)

theorem mMatch_d (p t : Tm) (h : PPok (p, t)) : PureC Try.prog 28 [.ag (eTm p), .ag (eTm t)] (.tu [.sl 5 (ePairs (Pn.mAll [(p, t)]).1) none, .v (.int .i64 (Pn.mAll [(p, t)]).2)]) := by
 have hA := mAll_d [(p, t)] (by simp) (fun q hq => by rw [List.mem_singleton] at hq; subst hq; exact h)
 have h1 := ePPs_one (p, t)
 dsimp only at h1
 rw [eTm_eq, eTm_eq]
 refine calldw 0 13 [ResultVar.tmp 4, ResultVar.tmp 5] TKM_ok Try.func28 rfl Try.ntmps28 rfl fun cx hnt hn0 => ?_
 ·skip
  refine dw_seq ?_; refine dwk [] TKM_ok hnt fun K hK => ?_; refine hK _ _ ?_; clear hK K; refine dw_seq ?_; refine dwk [(9, .sl 8 (ePPs [(p, t)]) none)] TKM_ok hnt fun K hK => ?_; refine And.intro ((by rw [h1]; exact VLe.untag _ _ _)) ?_; refine dcl (hA) ?_; refine hK _ _ ?_; clear hK K; refine dw_ret ?_
  exact reta rfl
/-! the examples -/
def mb (i : Int) : Tm := .mk [] 0 i []
def mc (i : Int) (l : List Tm) : Tm := .mk [] 1 i l
def mm (l : List Tm) : Tm := .mk [] 2 0 l
theorem mk1_d (i : Int) : PureC Try.prog 66 [.v (.int .i64 i)] (.ag (eTm (mb i))) := by
 unfold mb
 rw [eTm_eq]
 refine calldw 0 6 [ResultVar.cell 2 34] TKM_ok Try.func66 rfl Try.ntmps66 rfl fun cx hnt hn0 => ?_
 ·skip
  refine dw_seq ?_; refine dwk [] TKM_ok hnt fun K hK => ?_; refine hK _ _ ?_; clear hK K; refine dw_seq ?_; refine dwk [] TKM_ok hnt fun K hK => ?_; refine hK _ _ ?_; clear hK K; refine dw_ret ?_
  exact reta rfl
theorem mk2_d (i : Int) (l : List Tm) : PureC Try.prog 67 [.v (.int .i64 i), .sl 4 (eTms l) none] (.ag (eTm (mc i l))) := by
 unfold mc
 rw [eTm_eq]
 refine calldw 0 9 [ResultVar.cell 4 34] TKM_ok Try.func67 rfl Try.ntmps67 rfl fun cx hnt hn0 => ?_
 ·skip
  refine dw_seq ?_; refine dwk [] TKM_ok hnt fun K hK => ?_; refine hK _ _ ?_; clear hK K; refine dw_seq ?_; refine dwk [] TKM_ok hnt fun K hK => ?_; refine hK _ _ ?_; clear hK K; refine dw_ret ?_
  exact reta rfl
theorem mk3_d (l : List Tm) : PureC Try.prog 68 [.sl 4 (eTms l) none] (.ag (eTm (mm l))) := by
 unfold mm
 rw [eTm_eq]
 refine calldw 0 6 [ResultVar.cell 2 34] TKM_ok Try.func68 rfl Try.ntmps68 rfl fun cx hnt hn0 => ?_
 ·skip
  refine dw_seq ?_; refine dwk [] TKM_ok hnt fun K hK => ?_; refine hK _ _ ?_; clear hK K; refine dw_seq ?_; refine dwk [] TKM_ok hnt fun K hK => ?_; refine hK _ _ ?_; clear hK K; refine dw_ret ?_
  exact reta rfl
theorem mk2_nil (i : Int) : PureC Try.prog 67 [.v (.int .i64 i), .v (.slice none 0 0)] (.ag (eTm (mc i []))) := CallC.vle (mk2_d i []) (.cons (VLe.refl _) (.cons (VLe.nil _) .nil)) (VLe.refl _)
theorem mk3_nil : PureC Try.prog 68 [.v (.slice none 0 0)] (.ag (eTm (mm []))) := CallC.vle (mk3_d []) (.cons (VLe.nil _) .nil) (VLe.refl _)
def mA : Ty := .mk [] 0
def mP : Tm := .mk [mA] 1 0 [mm [mb 0], mb 0]
def mT : Tm := .mk [mA] 1 0 [mc 1 [mb 0, mb 0], mb 0]
theorem mK1 : Pn.mAll [(mP, mT)] = ([(0, .mk [mA] 1 1 [mb 0, mb 0])], 0) := by kernel_rfl
theorem mK2 : Pn.mAll [(mm [mc 2 []], mc 1 [mc 2 []])] = ([], 6) := by kernel_rfl
theorem mK3 : Pn.mAll [(mc 0 [mm [], mm []], mc 0 [mc 1 [], mc 2 []])] = ([], 9) := by kernel_rfl
theorem fit_mk {b : List Ty} {k i : Int} {a : List Tm} (h1 : -1000 ≤ i) (h2 : i ≤ 1000) (h : ∀ t ∈ a, t.Fit) : (Tm.mk b k i a).Fit := Tm.fit_iff.2 ⟨by omega, by omega, h⟩
theorem fit0 (k i : Int) (h1 : -1000 ≤ i) (h2 : i ≤ 1000) (b : List Ty) : (Tm.mk b k i []).Fit := fit_mk h1 h2 nofun
theorem fit1 {k i : Int} {b : List Ty} {t : Tm} (h1 : -1000 ≤ i) (h2 : i ≤ 1000) (h : t.Fit) : (Tm.mk b k i [t]).Fit := fit_mk h1 h2 fun u hu => by rw [List.mem_singleton] at hu; subst hu; exact h
theorem fit2 {k i : Int} {b : List Ty} {t u : Tm} (h1 : -1000 ≤ i) (h2 : i ≤ 1000) (h : t.Fit) (h' : u.Fit) : (Tm.mk b k i [t, u]).Fit := fit_mk h1 h2 fun x hx => by
  rcases List.mem_cons.1 hx with rfl | hx
  · exact h
  · rw [List.mem_singleton] at hx; subst hx; exact h'
theorem mF1 : PPok (mP, mT) := ⟨by decide, fit2 (by decide) (by decide) (fit1 (by decide) (by decide) (fit0 _ _ (by decide) (by decide) _)) (fit0 _ _ (by decide) (by decide) _), by decide, by kernel_rfl, fit2 (by decide) (by decide) (fit2 (by decide) (by decide) (fit0 _ _ (by decide) (by decide) _) (fit0 _ _ (by decide) (by decide) _)) (fit0 _ _ (by decide) (by decide) _)⟩
theorem mF2 : PPok (mm [mc 2 []], mc 1 [mc 2 []]) := ⟨by decide, fit1 (by decide) (by decide) (fit0 _ _ (by decide) (by decide) _), by decide, by kernel_rfl, fit1 (by decide) (by decide) (fit0 _ _ (by decide) (by decide) _)⟩
theorem mF3 : PPok (mc 0 [mm [], mm []], mc 0 [mc 1 [], mc 2 []]) := ⟨by decide, fit2 (by decide) (by decide) (fit0 _ _ (by decide) (by decide) _) (fit0 _ _ (by decide) (by decide) _), by decide, by kernel_rfl, fit2 (by decide) (by decide) (fit0 _ _ (by decide) (by decide) _) (fit0 _ _ (by decide) (by decide) _)⟩
set_option maxHeartbeats 2000000 in
theorem known12_d : PureC Try.prog 19 [] (.v (.bool true)) := by
 have h1 := mMatch_d mP mT mF1
 have h2 := mMatch_d _ _ mF2
 have h3 := mMatch_d _ _ mF3
 rw [mK1] at h1
 rw [mK2] at h2
 rw [mK3] at h3
 have b0 := mk1_d 0
 refine calldw 0 113 [ResultVar.tmp 0] TKM_ok Try.func19 rfl Try.ntmps19 rfl fun cx hnt hn0 => ?_
 ·skip
  refine dw_seq ?_; refine dwk [] TKM_ok hnt fun K hK => ?_; refine hK _ _ ?_; clear hK K; refine dw_seq ?_; refine dwk [(13, .ag [.sl 2 [] none, .v (.int .i64 0)])] TKM_ok hnt fun K hK => ?_; refine And.intro (auV) ?_; refine hK _ _ ?_; clear hK K; refine dw_seq ?_; refine dwk [] TKM_ok hnt fun K hK => ?_; refine hK _ _ ?_; clear hK K; refine dw_seq ?_; refine dwk [] TKM_ok hnt fun K hK => ?_; refine hK _ _ ?_; clear hK K
  refine dw_seq ?_; refine dwk [] TKM_ok hnt fun K hK => ?_; refine hK _ _ ?_; clear hK K; refine dw_seq ?_; refine dwk [(18, .sl 4 (eTms [mb 0]) none), (22, .sl 4 (eTms [mm [mb 0], mb 0]) none), (30, .sl 4 (eTms [mb 0, mb 0]) none), (34, .sl 4 (eTms [mc 1 [mb 0, mb 0], mb 0]) none)] TKM_ok hnt fun K hK => ?_; refine dcl (b0) ?_; refine And.intro (VLe.untag _ _ _) ?_; refine dcl (mk3_d [mb 0]) ?_; refine dcl (b0) ?_
  refine And.intro (VLe.untag _ _ _) ?_; refine dcl (mk2_d 0 [mm [mb 0], mb 0]) ?_; refine dcl (b0) ?_; refine dcl (b0) ?_; refine And.intro (VLe.untag _ _ _) ?_; refine dcl (mk2_d 1 [mb 0, mb 0]) ?_; refine dcl (b0) ?_; refine And.intro (VLe.untag _ _ _) ?_; refine dcl (mk2_d 0 [mc 1 [mb 0, mb 0], mb 0]) ?_; refine hK _ _ ?_; clear hK K; refine dw_seq ?_; refine dwkD [] TKM_ok hnt fun K hK => ?_; refine hK _ _ (by kernel_rfl) ?_; clear hK K
  refine dw_seq ?_; refine dwk [(43, .ag (eTm mP)), (44, .ag (eTm mT))] TKM_ok hnt fun K hK => ?_; refine And.intro (auV) ?_; refine And.intro (auV) ?_; refine dcl (h1) ?_; refine hK _ _ ?_; clear hK K; refine dw_seq ?_; refine dwk [(52, .sl 4 (eTms [mc 2 []]) none), (57, .sl 4 (eTms [mc 2 []]) none)] TKM_ok hnt fun K hK => ?_; refine dcl (mk2_nil 2) ?_; refine And.intro (VLe.untag _ _ _) ?_; refine dcl (mk3_d [mc 2 []]) ?_
  refine dcl (mk2_nil 2) ?_; refine And.intro (VLe.untag _ _ _) ?_; refine dcl (mk2_d 1 [mc 2 []]) ?_; refine dcl (h2) ?_; refine hK _ _ ?_; clear hK K; refine dw_seq ?_; refine dwk [(68, .sl 4 (eTms [mm [], mm []]) none), (75, .sl 4 (eTms [mc 1 [], mc 2 []]) none)] TKM_ok hnt fun K hK => ?_; refine dcl (mk3_nil) ?_; refine dcl (mk3_nil) ?_; refine And.intro (VLe.untag _ _ _) ?_; refine dcl (mk2_d 0 [mm [], mm []]) ?_
  refine dcl (mk2_nil 1) ?_; refine dcl (mk2_nil 2) ?_; refine And.intro (VLe.untag _ _ _) ?_; refine dcl (mk2_d 0 [mc 1 [], mc 2 []]) ?_; refine dcl (h3) ?_; refine hK _ _ ?_; clear hK K; refine dw_seq ?_; refine dwk [(81, .v (.bool true)), (84, .v (.int .i64 (1))), (85, .v (.bool true)), (93, .v (.int .i64 (1))), (94, .v (.bool true)), (103, .v (.bool true)), (107, .v (.bool true)), (111, .v (.bool true))] TKM_ok hnt fun K hK => ?_
  refine And.intro (VLe.refl _) ?_; refine And.intro (dintE (by rfl)) ?_; refine And.intro (VLe.refl _) ?_; refine And.intro (by decide) ?_; refine And.intro (dintE (by rfl)) ?_; refine And.intro (VLe.refl _) ?_; refine And.intro (by decide) ?_; refine And.intro (VLe.refl _) ?_; refine And.intro (VLe.refl _) ?_; refine And.intro (VLe.refl _) ?_; refine hK _ _ ?_; clear hK K; refine dw_ret ?_
  exact reta rfl
end Go.Proofs.Ytdmiekaeodcehaa

namespace Go.Proofs.Ytdmiekaeodcehaa
open Go.RowKit
namespace So
variable {α : Type} {f : α → Bool} {l : List α} {j : Nat}
end So
def del (m : List Int) (p : Int × Tm) : Bool := m.any fun x => decide (x = p.1)
def kept (m : List Int) (l : List (Int × Tm)) : List (Int × Tm) := l.filter fun p => !del m p
end Go.Proofs.Ytdmiekaeodcehaa

namespace Go.Proofs.Ytdmiekaeodcehaa
open Go.RowKit
def TRP_27 : TI := ⟨4, true, [Value.slice none 0 0, Value.int IntKind.i64 0, Value.int IntKind.i64 0, Value.slice none 0 0], [(0, 1, false), (1, 2, true), (3, 1, false)], none, 64, 6, none, false⟩
theorem TRP_27_ok : TypOk Try.prog 27 TRP_27 := ⟨by kernel_rfl, by kernel_rfl, by kernel_rfl, by kernel_rfl, by kernel_rfl⟩
def TRP_3 : TI := ⟨1, false, [Value.int IntKind.i64 0], [], none, 8, 2, none, false⟩
theorem TRP_3_ok : TypOk Try.prog 3 TRP_3 := ⟨by kernel_rfl, by kernel_rfl, by kernel_rfl, by kernel_rfl, by kernel_rfl⟩
def TRP_43 : TI := ⟨1, false, [Value.slice none 0 0], [], some 3, 24, 5, none, false⟩
theorem TRP_43_ok : TypOk Try.prog 43 TRP_43 := ⟨by kernel_rfl, by kernel_rfl, by kernel_rfl, by kernel_rfl, by kernel_rfl⟩
def TRP_25 : TI := ⟨1, false, [Value.slice none 0 0], [], some 27, 24, 5, none, false⟩
theorem TRP_25_ok : TypOk Try.prog 25 TRP_25 := ⟨by kernel_rfl, by kernel_rfl, by kernel_rfl, by kernel_rfl, by kernel_rfl⟩
def TRP_24 : TI := ⟨2, true, [Value.int IntKind.i64 0, Value.int IntKind.i64 0], [(0, 1, false), (1, 1, false)], none, 16, 6, none, true⟩
theorem TRP_24_ok : TypOk Try.prog 24 TRP_24 := ⟨by kernel_rfl, by kernel_rfl, by kernel_rfl, by kernel_rfl, by kernel_rfl⟩
def TRP_22 : TI := ⟨1, false, [Value.slice none 0 0], [], some 146, 24, 5, none, false⟩
theorem TRP_22_ok : TypOk Try.prog 22 TRP_22 := ⟨by kernel_rfl, by kernel_rfl, by kernel_rfl, by kernel_rfl, by kernel_rfl⟩
def TRP_140 : TI := ⟨1, false, [Value.slice none 0 0], [], some 43, 24, 5, none, false⟩
theorem TRP_140_ok : TypOk Try.prog 140 TRP_140 := ⟨by kernel_rfl, by kernel_rfl, by kernel_rfl, by kernel_rfl, by kernel_rfl⟩
def TRP_126 : TI := ⟨1, false, [Value.slice none 0 0], [], some 132, 24, 5, none, false⟩
theorem TRP_126_ok : TypOk Try.prog 126 TRP_126 := ⟨by kernel_rfl, by kernel_rfl, by kernel_rfl, by kernel_rfl, by kernel_rfl⟩
def TRP_132 : TI := ⟨4, true, [Value.int IntKind.i64 0, Value.slice none 0 0, Value.slice none 0 0, Value.slice none 0 0], [(0, 1, false), (1, 1, false), (2, 1, false), (3, 1, false)], none, 80, 6, none, false⟩
theorem TRP_132_ok : TypOk Try.prog 132 TRP_132 := ⟨by kernel_rfl, by kernel_rfl, by kernel_rfl, by kernel_rfl, by kernel_rfl⟩
def TRP_146 : TI := ⟨2, true, [Value.slice none 0 0, Value.int IntKind.i64 0], [(0, 1, false), (1, 1, false)], none, 32, 6, none, false⟩
theorem TRP_146_ok : TypOk Try.prog 146 TRP_146 := ⟨by kernel_rfl, by kernel_rfl, by kernel_rfl, by kernel_rfl, by kernel_rfl⟩
def TRP : List (Nat × TI) := [(27, TRP_27), (3, TRP_3), (43, TRP_43), (25, TRP_25), (24, TRP_24), (22, TRP_22), (140, TRP_140), (126, TRP_126), (132, TRP_132), (146, TRP_146)]
theorem TRP_ok : TabOk Try.prog TRP := (((((((((((TabOk.nil _).cons TRP_146_ok).cons TRP_132_ok).cons TRP_126_ok).cons TRP_140_ok).cons TRP_22_ok).cons TRP_24_ok).cons TRP_25_ok).cons TRP_43_ok).cons TRP_3_ok).cons TRP_27_ok)

namespace Pn
mutual
def pth : Tm → List Int → List (List Int)
  | .mk _ _ _ a, p => p :: pths a p 0
def pths : List Tm → List Int → Nat → List (List Int)
  | [], _, _ => []
  | t :: l, p, j => pth t (p ++ [(j : Int)]) ++ pths l p (j + 1)
end
theorem pth_eq (b : List Ty) (k i : Int) (a : List Tm) (p : List Int) : pth (.mk b k i a) p = p :: pths a p 0 := by rw [pth]
theorem pths_app (p : List Int) : ∀ (l r : List Tm) (j : Nat), pths (l ++ r) p j = pths l p j ++ pths r p (j + l.length)
  | [], r, j => by simp [pths]
  | t :: l, r, j => by rw [List.cons_append, pths, pths, pths_app p l r (j + 1), List.append_assoc, List.length_cons, show j + 1 + l.length = j + (l.length + 1) by omega]
theorem pths_take (p : List Int) (a : List Tm) (j : Nat) (h : j < a.length) : pths (a.take (j + 1)) p 0 = pths (a.take j) p 0 ++ pth a[j] (p ++ [(j : Int)]) := by
  rw [List.take_add_one, List.getElem?_eq_getElem h, pths_app, List.length_take, Nat.min_eq_left (by omega), Nat.zero_add, Option.toList_some, pths, pths, List.append_nil]
theorem subs_pth (t : Tm) : ∀ (ar : List Ty) (p : List Int), (subs t ar p).map (·.2.2) = pth t p := by
  induction t using Tm.ind with
  | h bs k i a ih =>
    intro ar p
    rw [subs_eq, pth_eq, List.map_cons]
    have key : ∀ (l : List Tm) (j : Nat), (∀ t ∈ l, t ∈ a) → (subss l (ar ++ bs) p j).map (·.2.2) = pths l p j := by
      intro l
      induction l with
      | nil => intro j _; simp [subss, pths]
      | cons t l ihl => intro j hl; rw [subss, pths, List.map_append, ih t (hl t (by simp)), ihl _ fun u hu => hl u (by simp [hu])]
    rw [key a 0 fun t ht => ht]
theorem pth_len (t : Tm) (p : List Int) : (pth t p).length = t.size := by rw [← subs_pth t [] p, List.length_map, subs_len]
theorem pths_len (p : List Int) : ∀ (l : List Tm) (j : Nat), (pths l p j).length = Tm.sizes l
  | [], _ => by simp [pths, Tm.sizes]
  | t :: l, j => by rw [pths, List.length_append, pth_len, pths_len p l]; simp [Tm.sizes]
end Pn
theorem sizes_le_fulls (a : List Tm) : Tm.sizes a ≤ Tm.fulls a := by
  induction a with
  | nil => simp [Tm.sizes]
  | cons t l ih => have := Tm.size_le_full t; simp only [Tm.sizes, Tm.fulls]; omega
def ePaths (l : List (List Int)) : List (List D) := l.map fun p => [.sl 1 (eIs p) none]
theorem ePaths_len (l : List (List Int)) : (ePaths l).length = l.length := List.length_map ..
theorem ePaths_append (l r : List (List Int)) : ePaths (l ++ r) = ePaths l ++ ePaths r := List.map_append ..
theorem ePaths_getD (l : List (List Int)) (i : Nat) (h : i < l.length) : (ePaths l).getD i [] = [.sl 1 (eIs l[i]) none] := by
  rw [ePaths, List.getD_eq_getElem?_getD, List.getElem?_map, List.getElem?_eq_getElem h]; rfl
@[simp] theorem ePaths_ok (f g : Nat → Bool) (l : List (List Int)) : D.okss f g (ePaths l) = true := D.okss_map _ l fun l _ => by simp [D.oks, D.ok, eIs_ok]
set_option maxHeartbeats 1000000 in
theorem rall_d : ∀ (t : Tm) (p : List Int), t.full + p.length ≤ 100000 → PureC Try.prog 83 [.ag (eTm t), .sl 1 (eIs p) none] (.sl 1 (ePaths (Pn.pth t p)) none) := by
 intro t
 induction t using Tm.ind with
 | h bs k i a ih =>
 intro p hz
 rw [Tm.full_eq] at hz
 have hal := fulls_len a
 rw [Pn.pth_eq, eTm_eq]
 simp only [binds_mk', kind_mk', index_mk', args_mkT]
 refine calldw 0 34 [ResultVar.tmp 4] TRP_ok Try.func83 rfl Try.ntmps83 rfl fun cx hnt hn0 => ?_
 ·skip
  refine dw_seq ?_; refine dwk [] TRP_ok hnt fun K hK => ?_; refine hK _ _ ?_; clear hK K; refine dw_seq ?_; refine dwk [] TRP_ok hnt fun K hK => ?_; refine hK _ _ ?_; clear hK K; refine dw_seq ?_; refine dw_seq ?_; refine dwk [] TRP_ok hnt fun K hK => ?_; refine hK _ _ ?_; clear hK K; refine dw_block ?_
  refine dw_loop (ι := { j : Nat // j ≤ a.length }) (fun j => [(.t 1, .sl 1 (eIs p) none), (.t 2, .p 0 0), (.t 5, .sl 1 (ePaths (p :: Pn.pths (a.take j.1) p 0)) (some 3)), (.r 3, .rw 43 1 (Pn.pths (a.take j.1) p 0).length.succ), (.t 6, .v (.int .i64 ↑j.1)), (.c 0 3, .sl 4 (eTms a) none)]) 4 (fun j => a.length - j.1) (⟨0, Nat.zero_le _⟩) ((VS.toK (by omega) (by repeat first | exact trivial | refine And.intro (And.intro (by first | rfl | simp [D.ok, D.oks, D.okss, D.okm, upto, keyOk, ePaths, Pn.pths]) (by first | exact Or.inl rfl | exact Or.inr ⟨_, rfl, (by repeat first | exact VLe.refl _ | exact VLe.nil _ | exact VLe.untag _ _ _ | refine VLe.ag ?_ | refine VLe.tu ?_ | refine VLeL.cons ?_ ?_ | exact VLeL.nil), trivial⟩ | simp [get, Key.eq, ePaths, Pn.pths])) ?_))) fun j => ?_
  obtain ⟨j, hj⟩ := j
  dsimp only
  by_cases hlt : j < a.length
  ·have hmem := List.getElem_mem hlt
   have hfm := full_mem hmem
   have hih := ih a[j] hmem (p ++ [(j : Int)]) (by simp; omega)
   have hst := Pn.pths_take p a j hlt
   have hl1 := Pn.pths_len p (a.take j) 0
   have hl2 := Tm.sizes_take_le a j
   have hl3 := sizes_le_fulls a
   have hl4 := Pn.pth_len a[j] (p ++ [(j : Int)])
   have hl5 := Tm.size_le_full a[j]
   rw [eTm_eq] at hih
   obtain ⟨p2, hp2⟩ : ∃ q, p ++ [(j : Int)] = q := ⟨_, rfl⟩
   rw [hp2] at hih hst hl4
   refine dw_seq ?_; refine dw_seq ?_; refine dwk [(13, .v (.int .i64 (↑a.length))), (14, .v (.bool true))] TRP_ok hnt fun K hK => ?_; refine And.intro (dintE (by rw [eTms_len])) ?_; refine And.intro auT ?_; refine hK _ _ ?_; clear hK K; refine dw_cond (t := true) rfl ?_; rw [if_pos rfl]; refine dw_skip ?_; refine dw_seq ?_; refine dw_block ?_; refine dw_seq ?_; refine dwk [] TRP_ok hnt fun K hK => ?_
   refine hK _ _ ?_; clear hK K; refine dw_seq ?_; refine dwk [] TRP_ok hnt fun K hK => ?_; refine And.intro (by rw [eIs_len]; omega) ?_; refine hK _ _ ?_; clear hK K; refine dw_seq ?_; refine dwk [] TRP_ok hnt fun K hK => ?_; refine And.intro (⟨rfl, by rw [eIs_len]; simp; omega⟩) ?_; refine hK _ _ ?_; clear hK K; refine dwk [(28, .q [.sl 2 (eTys a[j].binds) none, .v (.int .i64 a[j].kind), .v (.int .i64 a[j].index), .sl 4 (eTms a[j].args) none]), (30, .sl 1 (eIs p2) none), (32, .sl 1 (ePaths (p :: Pn.pths (a.take (j + 1)) p 0)) (some 3))] TRP_ok hnt fun K hK => ?_
   refine And.intro (elo (eTms_len a)) ?_; refine And.intro (elv (eTms_getD a j) (eTm_eq _)) ?_; refine And.intro ((by rw [← hp2, eIs_append]; exact VLe.untag _ _ _)) ?_; refine dcl (hih) ?_; refine And.intro (⟨by rw [ePaths_len]; rfl, by rw [ePaths_len, ePaths_len]; simp; omega⟩) ?_; refine And.intro (VLe.of_eq (by rw [hst, ← List.cons_append, ePaths_append])) ?_; refine hK _ _ ?_; clear hK K; refine dwk [(16, .v (.int .i64 (↑(j + 1))))] TRP_ok hnt fun K hK => ?_
   refine And.intro auI ?_; refine hK _ _ ?_; clear hK K
   have hl6 : (ePaths (p :: Pn.pths (a.take j) p 0) ++ ePaths (Pn.pth a[j] p2)).length = (Pn.pths (a.take (j + 1)) p 0).length + 1 := by rw [← ePaths_append, ePaths_len, hst]; rfl
   refine ⟨⟨j + 1, by omega⟩, by first | omega | (dsimp only; omega), (by try simp only [List.length_append, List.length_take, List.length_cons, List.length_nil, Nat.zero_add, hl6]; exact VS.toA)⟩
  ·rw [List.take_of_length_le (by omega)]
   refine dw_seq ?_; refine dw_seq ?_; refine dwk [(13, .v (.int .i64 (↑a.length))), (14, .v (.bool false))] TRP_ok hnt fun K hK => ?_; refine And.intro (dintE (by rw [eTms_len])) ?_; refine And.intro auF ?_; refine hK _ _ ?_; clear hK K; refine dw_cond (t := false) rfl ?_; rw [if_neg (by simp)]; refine dw_exit ?_; refine dw_seq ?_; refine dwk [] TRP_ok hnt fun K hK => ?_; refine hK _ _ ?_; clear hK K
   refine dw_ret ?_
   exact reta rfl
theorem rbehind_d (l r : List Ty) (h : l.length + r.length ≤ 900000) : PureC Try.prog 84 [.sl 2 (eTys l) none, .sl 2 (eTys r) none] (.sl 2 (eTys (l ++ r)) none) := by
 rw [eTys_append]
 have e1 := eTys_len l
 have e2 := eTys_len r
 refine call_of_dw 0 12 [ResultVar.tmp 4] TRP_ok (by kernel_rfl) Try.func84 rfl Try.ntmps84 rfl (by simp) ?dwords ?dbody
 case dwords => simp [wordsOk, D.ok, D.oks, D.okss, rnames, inN, ckey, eTys_ok, ← eTys_append]
 case dbody =>
  intro cx hnt hn0
  refine dw_seq ?_; refine dwk [] TRP_ok hnt fun K hK => ?_; refine hK _ _ ?_; clear hK K; refine dw_seq ?_; refine dwk [] TRP_ok hnt fun K hK => ?_; refine hK _ _ ?_; clear hK K; refine dw_seq ?_; refine dwk [] TRP_ok hnt fun K hK => ?_; refine And.intro (by omega) ?_; refine hK _ _ ?_; clear hK K; refine dw_seq ?_; refine dwk [] TRP_ok hnt fun K hK => ?_; refine And.intro (⟨rfl, by omega⟩) ?_; refine hK _ _ ?_; clear hK K
  refine dw_ret ?_
  exact reta rfl
def atV (r : Option (Tm × List Ty)) : D := match r with
  | some r => .tu [.ag (eTm r.1), .sl 2 (eTys r.2) none, .v (.bool true)]
  | none => .tu [.ag (eTm Tm.zero), .sl 2 [] none, .v (.bool false)]
theorem atP_sizes : ∀ (p : List Int) (t : Tm) (r : Tm × List Ty), Pn.atP p t = some r → r.2.length + r.1.full ≤ t.full + r.1.binds.length ∧ r.1.full ≤ t.full ∧ r.2.length ≤ t.full ∧ Ty.sizes r.2 ≤ t.full
  | [], t, r, h => by
    rw [Pn.atP] at h; cases h
    have := full_args t
    have h2 := Ty.le_sizes t.binds
    dsimp only; omega
  | j :: p, t, r, h => by
    rw [Pn.atP] at h
    split at h
    · rename_i hj
      cases h2 : Pn.atP p (t.args.getD j.toNat Tm.zero) with
      | none => rw [h2] at h; cases h
      | some r' =>
        rw [h2] at h; cases h
        have hlt : j.toNat < t.args.length := by omega
        have e : t.args.getD j.toNat Tm.zero = t.args[j.toNat] := by rw [List.getD_eq_getElem?_getD, List.getElem?_eq_getElem hlt]; rfl
        rw [e] at h2
        have ih := atP_sizes p _ r' h2
        have hm := full_mem (List.getElem_mem hlt)
        have := full_args t
        have h3 := Ty.le_sizes t.binds
        dsimp only
        rw [List.length_append, Ty.sizes_append]
        omega
    · cases h
set_option maxHeartbeats 1000000 in
theorem rat_d : ∀ (p : List Int) (t : Tm), t.full ≤ 100000 → p.length ≤ 100000 → (∀ x ∈ p, -1000000000 ≤ x ∧ x ≤ 1000000000) → PureC Try.prog 75 [.ag (eTm t), .sl 1 (eIs p) none] (atV (Pn.atP p t))
 | [], t, hz, hp, hr => by
  rw [Pn.atP]
  unfold atV
  dsimp only
  rw [eTm_eq]
  refine calldw 0 50 [ResultVar.cell 4 27, ResultVar.tmp 5, ResultVar.tmp 6] TRP_ok Try.func75 rfl Try.ntmps75 rfl fun cx hnt hn0 => ?_
  ·skip
   refine dw_seq ?_; refine dwk [] TRP_ok hnt fun K hK => ?_; refine hK _ _ ?_; clear hK K; refine dw_seq ?_; refine dw_seq ?_; refine dwk [(13, .v (.bool true))] TRP_ok hnt fun K hK => ?_; refine And.intro (VLe.refl _) ?_; refine hK _ _ ?_; clear hK K; refine dw_cond (t := true) rfl ?_; rw [if_pos rfl]; refine dw_seq ?_; refine dwkD [] TRP_ok hnt fun K hK => ?_; refine hK _ _ (by kernel_rfl) ?_; clear hK K
   refine dw_ret ?_
   exact reta rfl
 | j :: q, t, hz, hp, hr => by
  rw [Pn.atP]
  have hj := hr j (by simp)
  by_cases hc : 0 ≤ j ∧ j < (t.args.length : Int)
  ·rw [if_pos hc]
   have hlt : j.toNat < t.args.length := by omega
   have e : t.args.getD j.toNat Tm.zero = t.args[j.toNat] := by rw [List.getD_eq_getElem?_getD, List.getElem?_eq_getElem hlt]; rfl
   rw [e]
   have hm := full_mem (List.getElem_mem hlt)
   have hft := full_args t
   have hih := rat_d q t.args[j.toNat] (by omega) (by simp at hp; omega) (fun x hx => hr x (by simp [hx]))
   have hsz := atP_sizes q t.args[j.toNat]
   have hbl := Ty.le_sizes t.binds
   obtain ⟨n, hn⟩ : ∃ n : Nat, j = n := ⟨j.toNat, by omega⟩
   subst hn
   rw [Int.toNat_natCast] at hlt
   obtain ⟨u, hu⟩ : ∃ u, t.args[(n : Int).toNat] = u := ⟨_, rfl⟩
   have hu' : t.args[n] = u := by rw [← hu]; simp
   rw [hu] at hih hsz hm ⊢
   cases ha : Pn.atP q u with
   | none =>
    rw [ha] at hih
    unfold atV at hih ⊢
    dsimp only [Option.map_none] at hih ⊢
    rw [eTm_eq, eTm_eq] at hih
    rw [eTm_eq, eTm_eq]
    refine calldw 0 50 [ResultVar.cell 4 27, ResultVar.tmp 5, ResultVar.tmp 6] TRP_ok Try.func75 rfl Try.ntmps75 rfl fun cx hnt hn0 => ?_
    ·skip
     refine dw_seq ?_; refine dwk [] TRP_ok hnt fun K hK => ?_; refine hK _ _ ?_; clear hK K; refine dw_seq ?_; refine dw_seq ?_; refine dwk [(12, .v (.int .i64 (↑(q.length + 1)))), (13, .v (.bool false))] TRP_ok hnt fun K hK => ?_; refine And.intro (dintE (by rw [eIs_len]; rfl)) ?_; refine And.intro (beqF (by omega)) ?_; refine hK _ _ ?_; clear hK K; refine dw_cond (t := false) rfl ?_; rw [if_neg (by simp)]
     refine dw_skip ?_; refine dw_seq ?_; refine dwk [(18, .q [.v (.int .i64 ↑n)])] TRP_ok hnt fun K hK => ?_; refine And.intro (⟨by omega, by rw [eIs_len, List.length_cons]; omega⟩) ?_; refine And.intro (VLe.of_eq (by simp [eIs])) ?_; refine hK _ _ ?_; clear hK K; refine dw_seq ?_; refine dw_seq ?_; refine dwk [(21, .v (.bool false)), (26, .v (.int .i64 (↑t.args.length))), (27, .v (.bool false))] TRP_ok hnt fun K hK => ?_
     refine And.intro auF ?_; refine And.intro (dintE (by rw [eTms_len])) ?_; refine And.intro auF ?_; refine hK _ _ ?_; clear hK K; refine dw_cond (t := false) rfl ?_; rw [if_neg (by simp)]; refine dw_skip ?_; refine dw_seq ?_; refine dwkD [(34, .q [.sl 2 (eTys u.binds) none, .v (.int .i64 u.kind), .v (.int .i64 u.index), .sl 4 (eTms u.args) none]), (37, .sl 1 (eIs q) none)] TRP_ok hnt fun K hK => ?_; refine And.intro (⟨by omega, by rw [eTms_len]; omega⟩) ?_
     refine And.intro (VLe.of_eq (by rw [Int.toNat_natCast, eTms_getD t.args n hlt, hu', eTm_eq])) ?_; refine And.intro (⟨by decide, by rw [eIs_len]; simp; omega⟩) ?_; refine And.intro (VLe.of_eq (by simp [eIs, List.take_of_length_le])) ?_; refine dcl (hih) ?_; refine hK _ _ (by kernel_rfl) ?_; clear hK K; refine dw_seq ?_; refine dw_seq ?_; refine dwk [] TRP_ok hnt fun K hK => ?_; refine hK _ _ ?_; clear hK K
     refine dw_cond (t := true) rfl ?_; rw [if_pos rfl]; refine dw_seq ?_; refine dwk [] TRP_ok hnt fun K hK => ?_; refine hK _ _ ?_; clear hK K; refine dw_ret ?_
     exact reta rfl
   | some r =>
    obtain ⟨x, l⟩ := r
    have hsz := hsz _ ha
    have hbh := rbehind_d t.binds l (by dsimp only at hsz; omega)
    rw [ha] at hih
    unfold atV at hih ⊢
    dsimp only [Option.map_some] at hih ⊢
    rw [eTm_eq, eTm_eq] at hih
    rw [eTm_eq, eTm_eq]
    refine calldw 0 50 [ResultVar.cell 4 27, ResultVar.tmp 5, ResultVar.tmp 6] TRP_ok Try.func75 rfl Try.ntmps75 rfl fun cx hnt hn0 => ?_
    ·skip
     refine dw_seq ?_; refine dwk [] TRP_ok hnt fun K hK => ?_; refine hK _ _ ?_; clear hK K; refine dw_seq ?_; refine dw_seq ?_; refine dwk [(12, .v (.int .i64 (↑(q.length + 1)))), (13, .v (.bool false))] TRP_ok hnt fun K hK => ?_; refine And.intro (dintE (by rw [eIs_len]; rfl)) ?_; refine And.intro (beqF (by omega)) ?_; refine hK _ _ ?_; clear hK K; refine dw_cond (t := false) rfl ?_; rw [if_neg (by simp)]
     refine dw_skip ?_; refine dw_seq ?_; refine dwk [(18, .q [.v (.int .i64 ↑n)])] TRP_ok hnt fun K hK => ?_; refine And.intro (⟨by omega, by rw [eIs_len, List.length_cons]; omega⟩) ?_; refine And.intro (VLe.of_eq (by simp [eIs])) ?_; refine hK _ _ ?_; clear hK K; refine dw_seq ?_; refine dw_seq ?_; refine dwk [(21, .v (.bool false)), (26, .v (.int .i64 (↑t.args.length))), (27, .v (.bool false))] TRP_ok hnt fun K hK => ?_
     refine And.intro auF ?_; refine And.intro (dintE (by rw [eTms_len])) ?_; refine And.intro auF ?_; refine hK _ _ ?_; clear hK K; refine dw_cond (t := false) rfl ?_; rw [if_neg (by simp)]; refine dw_skip ?_; refine dw_seq ?_; refine dwkD [(34, .q [.sl 2 (eTys u.binds) none, .v (.int .i64 u.kind), .v (.int .i64 u.index), .sl 4 (eTms u.args) none]), (37, .sl 1 (eIs q) none)] TRP_ok hnt fun K hK => ?_; refine And.intro (⟨by omega, by rw [eTms_len]; omega⟩) ?_
     refine And.intro (VLe.of_eq (by rw [Int.toNat_natCast, eTms_getD t.args n hlt, hu', eTm_eq])) ?_; refine And.intro (⟨by decide, by rw [eIs_len]; simp; omega⟩) ?_; refine And.intro (VLe.of_eq (by simp [eIs, List.take_of_length_le])) ?_; refine dcl (hih) ?_; refine hK _ _ (by kernel_rfl) ?_; clear hK K; refine dw_seq ?_; refine dw_seq ?_; refine dwk [] TRP_ok hnt fun K hK => ?_; refine hK _ _ ?_; clear hK K
     refine dw_cond (t := false) rfl ?_; rw [if_neg (by simp)]; refine dw_skip ?_; refine dw_seq ?_; refine dwkD [] TRP_ok hnt fun K hK => ?_; refine dcl (hbh) ?_; refine hK _ _ (by kernel_rfl) ?_; clear hK K; refine dw_ret ?_
     exact reta rfl
  ·rw [if_neg hc]
   unfold atV
   dsimp only
   rw [eTm_eq, eTm_eq]
   by_cases h0 : j < 0
   ·skip
    refine calldw 0 50 [ResultVar.cell 4 27, ResultVar.tmp 5, ResultVar.tmp 6] TRP_ok Try.func75 rfl Try.ntmps75 rfl fun cx hnt hn0 => ?_
    ·skip
     refine dw_seq ?_; refine dwk [] TRP_ok hnt fun K hK => ?_; refine hK _ _ ?_; clear hK K; refine dw_seq ?_; refine dw_seq ?_; refine dwk [(12, .v (.int .i64 (↑(q.length + 1)))), (13, .v (.bool false))] TRP_ok hnt fun K hK => ?_; refine And.intro (dintE (by rw [eIs_len]; rfl)) ?_; refine And.intro (beqF (by omega)) ?_; refine hK _ _ ?_; clear hK K; refine dw_cond (t := false) rfl ?_; rw [if_neg (by simp)]
     refine dw_skip ?_; refine dw_seq ?_; refine dwk [(18, .q [.v (.int .i64 j)])] TRP_ok hnt fun K hK => ?_; refine And.intro (⟨by omega, by rw [eIs_len, List.length_cons]; omega⟩) ?_; refine And.intro (VLe.of_eq (by simp [eIs])) ?_; refine hK _ _ ?_; clear hK K; refine dw_seq ?_; refine dw_seq ?_; refine dwk [(21, .v (.bool true))] TRP_ok hnt fun K hK => ?_; refine And.intro auT ?_; refine hK _ _ ?_; clear hK K
     refine dw_cond (t := true) rfl ?_; rw [if_pos rfl]; refine dw_seq ?_; refine dwk [] TRP_ok hnt fun K hK => ?_; refine hK _ _ ?_; clear hK K; refine dw_ret ?_
     exact reta rfl
   ·skip
    refine calldw 0 50 [ResultVar.cell 4 27, ResultVar.tmp 5, ResultVar.tmp 6] TRP_ok Try.func75 rfl Try.ntmps75 rfl fun cx hnt hn0 => ?_
    ·skip
     refine dw_seq ?_; refine dwk [] TRP_ok hnt fun K hK => ?_; refine hK _ _ ?_; clear hK K; refine dw_seq ?_; refine dw_seq ?_; refine dwk [(12, .v (.int .i64 (↑(q.length + 1)))), (13, .v (.bool false))] TRP_ok hnt fun K hK => ?_; refine And.intro (dintE (by rw [eIs_len]; rfl)) ?_; refine And.intro (beqF (by omega)) ?_; refine hK _ _ ?_; clear hK K; refine dw_cond (t := false) rfl ?_; rw [if_neg (by simp)]
     refine dw_skip ?_; refine dw_seq ?_; refine dwk [(18, .q [.v (.int .i64 j)])] TRP_ok hnt fun K hK => ?_; refine And.intro (⟨by omega, by rw [eIs_len, List.length_cons]; omega⟩) ?_; refine And.intro (VLe.of_eq (by simp [eIs])) ?_; refine hK _ _ ?_; clear hK K; refine dw_seq ?_; refine dw_seq ?_; refine dwk [(21, .v (.bool false)), (26, .v (.int .i64 (↑t.args.length))), (27, .v (.bool true))] TRP_ok hnt fun K hK => ?_
     refine And.intro auF ?_; refine And.intro (dintE (by rw [eTms_len])) ?_; refine And.intro auT ?_; refine hK _ _ ?_; clear hK K; refine dw_cond (t := true) rfl ?_; rw [if_pos rfl]; refine dw_seq ?_; refine dwk [] TRP_ok hnt fun K hK => ?_; refine hK _ _ ?_; clear hK K; refine dw_ret ?_
     exact reta rfl
theorem contains_take {l : List Int} {j : Nat} {n : Int} (hlt : j < l.length) (hj : (l.take j).contains n = false) (he : l[j] ≠ n) : (l.take (j + 1)).contains n = false := by
  rw [Bool.eq_false_iff, ne_eq, List.contains_iff_mem, List.take_add_one, List.getElem?_eq_getElem hlt, List.mem_append]
  rintro (h | h)
  · rw [← List.contains_iff_mem, hj] at h; cases h
  · rw [Option.toList_some, List.mem_singleton] at h; exact he h.symm
theorem rhas_d (l : List Int) (n : Int) (hl : l.length ≤ 1000000) : PureC Try.prog 127 [.sl 1 (eIs l) none, .v (.int .i64 n)] (.v (.bool (l.contains n))) := by
 refine calldw 0 18 [ResultVar.tmp 4] TRP_ok Try.func127 rfl Try.ntmps127 rfl fun cx hnt hn0 => ?_
 ·skip
  refine dw_seq ?_; refine dwk [] TRP_ok hnt fun K hK => ?_; refine hK _ _ ?_; clear hK K; refine dw_seq ?_; refine dw_seq ?_; refine dwk [] TRP_ok hnt fun K hK => ?_; refine hK _ _ ?_; clear hK K; refine dw_block ?_
  refine dw_loop (ι := { j : Nat // (l.take j).contains n = false }) (fun j => [(.t 0, .sl 1 (eIs l) none), (.t 1, .v (.int .i64 n)), (.t 5, .v (.int .i64 ↑j.1))]) 0 (fun j => l.length - j.1) (⟨0, rfl⟩) ((VS.toK (by omega) (by repeat first | exact trivial | refine And.intro (And.intro (by first | rfl | simp [D.ok, D.oks, D.okss, D.okm, upto, keyOk, argsT]) (by first | exact Or.inl rfl | exact Or.inr ⟨_, rfl, (by repeat first | exact VLe.refl _ | exact VLe.nil _ | exact VLe.untag _ _ _ | refine VLe.ag ?_ | refine VLe.tu ?_ | refine VLeL.cons ?_ ?_ | exact VLeL.nil), trivial⟩ | simp [get, Key.eq, argsT])) ?_))) fun j => ?_
  obtain ⟨j, hj⟩ := j
  dsimp only
  by_cases hlt : j < l.length
  ·by_cases he : l[j] = n
   ·have hc : l.contains n = true := by rw [List.contains_iff_mem, ← he]; exact List.getElem_mem hlt
    rw [hc]
    refine dw_seq ?_; refine dw_seq ?_; refine dwk [(8, .v (.int .i64 (↑l.length))), (9, .v (.bool true))] TRP_ok hnt fun K hK => ?_; refine And.intro (dintE (by rw [eIs_len])) ?_; refine And.intro auT ?_; refine hK _ _ ?_; clear hK K; refine dw_cond (t := true) rfl ?_; rw [if_pos rfl]; refine dw_skip ?_; refine dw_seq ?_; refine dw_block ?_; refine dw_seq ?_; refine dwk [(14, .q [.v (.int .i64 (l[j]))]), (17, .v (.bool true))] TRP_ok hnt fun K hK => ?_
    refine And.intro (elo (eIs_len l)) ?_; refine And.intro (elv (eIs_getD l j) rfl) ?_; refine And.intro (beqT he) ?_; refine hK _ _ ?_; clear hK K; refine dw_cond (t := true) rfl ?_; rw [if_pos rfl]; refine dw_seq ?_; refine dwk [] TRP_ok hnt fun K hK => ?_; refine hK _ _ ?_; clear hK K; refine dw_ret ?_
    exact reta rfl
   ·skip
    refine dw_seq ?_; refine dw_seq ?_; refine dwk [(8, .v (.int .i64 (↑l.length))), (9, .v (.bool true))] TRP_ok hnt fun K hK => ?_; refine And.intro (dintE (by rw [eIs_len])) ?_; refine And.intro auT ?_; refine hK _ _ ?_; clear hK K; refine dw_cond (t := true) rfl ?_; rw [if_pos rfl]; refine dw_skip ?_; refine dw_seq ?_; refine dw_block ?_; refine dw_seq ?_; refine dwk [(14, .q [.v (.int .i64 (l[j]))]), (17, .v (.bool false))] TRP_ok hnt fun K hK => ?_
    refine And.intro (elo (eIs_len l)) ?_; refine And.intro (elv (eIs_getD l j) rfl) ?_; refine And.intro (beqF he) ?_; refine hK _ _ ?_; clear hK K; refine dw_cond (t := false) rfl ?_; rw [if_neg (by simp)]; refine dw_skip ?_; refine dwk [(11, .v (.int .i64 (↑(j + 1))))] TRP_ok hnt fun K hK => ?_; refine And.intro auI ?_; refine hK _ _ ?_; clear hK K
    refine ⟨⟨j + 1, contains_take hlt hj he⟩, by first | omega | (dsimp only; omega), VS.toA⟩
  ·rw [List.take_of_length_le (by omega)] at hj
   rw [hj]
   refine dw_seq ?_; refine dw_seq ?_; refine dwk [(8, .v (.int .i64 (↑l.length))), (9, .v (.bool false))] TRP_ok hnt fun K hK => ?_; refine And.intro (dintE (by rw [eIs_len])) ?_; refine And.intro auF ?_; refine hK _ _ ?_; clear hK K; refine dw_cond (t := false) rfl ?_; rw [if_neg (by simp)]; refine dw_exit ?_; refine dw_seq ?_; refine dwk [] TRP_ok hnt fun K hK => ?_; refine hK _ _ ?_; clear hK K; refine dw_ret ?_
   exact reta rfl
end Go.Proofs.Ytdmiekaeodcehaa

namespace Go.Proofs.Ytdmiekaeodcehaa
open Go.RowKit
def TRQ_3 : TI := ⟨1, false, [Value.int IntKind.i64 0], [], none, 8, 2, none, false⟩
theorem TRQ_3_ok : TypOk Try.prog 3 TRQ_3 := ⟨by kernel_rfl, by kernel_rfl, by kernel_rfl, by kernel_rfl, by kernel_rfl⟩
def TRQ_27 : TI := ⟨4, true, [Value.slice none 0 0, Value.int IntKind.i64 0, Value.int IntKind.i64 0, Value.slice none 0 0], [(0, 1, false), (1, 2, true), (3, 1, false)], none, 64, 6, none, false⟩
theorem TRQ_27_ok : TypOk Try.prog 27 TRQ_27 := ⟨by kernel_rfl, by kernel_rfl, by kernel_rfl, by kernel_rfl, by kernel_rfl⟩
def TRQ_43 : TI := ⟨1, false, [Value.slice none 0 0], [], some 3, 24, 5, none, false⟩
theorem TRQ_43_ok : TypOk Try.prog 43 TRQ_43 := ⟨by kernel_rfl, by kernel_rfl, by kernel_rfl, by kernel_rfl, by kernel_rfl⟩
def TRQ_24 : TI := ⟨2, true, [Value.int IntKind.i64 0, Value.int IntKind.i64 0], [(0, 1, false), (1, 1, false)], none, 16, 6, none, true⟩
theorem TRQ_24_ok : TypOk Try.prog 24 TRQ_24 := ⟨by kernel_rfl, by kernel_rfl, by kernel_rfl, by kernel_rfl, by kernel_rfl⟩
def TRQ_25 : TI := ⟨1, false, [Value.slice none 0 0], [], some 27, 24, 5, none, false⟩
theorem TRQ_25_ok : TypOk Try.prog 25 TRQ_25 := ⟨by kernel_rfl, by kernel_rfl, by kernel_rfl, by kernel_rfl, by kernel_rfl⟩
def TRQ_22 : TI := ⟨1, false, [Value.slice none 0 0], [], some 146, 24, 5, none, false⟩
theorem TRQ_22_ok : TypOk Try.prog 22 TRQ_22 := ⟨by kernel_rfl, by kernel_rfl, by kernel_rfl, by kernel_rfl, by kernel_rfl⟩
def TRQ_140 : TI := ⟨1, false, [Value.slice none 0 0], [], some 43, 24, 5, none, false⟩
theorem TRQ_140_ok : TypOk Try.prog 140 TRQ_140 := ⟨by kernel_rfl, by kernel_rfl, by kernel_rfl, by kernel_rfl, by kernel_rfl⟩
def TRQ_126 : TI := ⟨1, false, [Value.slice none 0 0], [], some 132, 24, 5, none, false⟩
theorem TRQ_126_ok : TypOk Try.prog 126 TRQ_126 := ⟨by kernel_rfl, by kernel_rfl, by kernel_rfl, by kernel_rfl, by kernel_rfl⟩
def TRQ_132 : TI := ⟨4, true, [Value.int IntKind.i64 0, Value.slice none 0 0, Value.slice none 0 0, Value.slice none 0 0], [(0, 1, false), (1, 1, false), (2, 1, false), (3, 1, false)], none, 80, 6, none, false⟩
theorem TRQ_132_ok : TypOk Try.prog 132 TRQ_132 := ⟨by kernel_rfl, by kernel_rfl, by kernel_rfl, by kernel_rfl, by kernel_rfl⟩
def TRQ_146 : TI := ⟨2, true, [Value.slice none 0 0, Value.int IntKind.i64 0], [(0, 1, false), (1, 1, false)], none, 32, 6, none, false⟩
theorem TRQ_146_ok : TypOk Try.prog 146 TRQ_146 := ⟨by kernel_rfl, by kernel_rfl, by kernel_rfl, by kernel_rfl, by kernel_rfl⟩
def TRQ : List (Nat × TI) := [(3, TRQ_3), (27, TRQ_27), (43, TRQ_43), (24, TRQ_24), (25, TRQ_25), (22, TRQ_22), (140, TRQ_140), (126, TRQ_126), (132, TRQ_132), (146, TRQ_146)]
theorem TRQ_ok : TabOk Try.prog TRQ := (((((((((((TabOk.nil _).cons TRQ_146_ok).cons TRQ_132_ok).cons TRQ_126_ok).cons TRQ_140_ok).cons TRQ_22_ok).cons TRQ_25_ok).cons TRQ_24_ok).cons TRQ_43_ok).cons TRQ_27_ok).cons TRQ_3_ok)

theorem rvar_d (t : Tm) (hz : t.full ≤ 100000) (hf : t.Fit) : PureC Try.prog 126 [.ag (eTm t)] (varV t) := by
  refine pure_below (by kernel_rfl) fun m Im w vs hv => ?_
  match vs, hv with
  | [x], hv =>
    obtain ⟨b, k, i, a, rfl, ht⟩ := agTm hv.1
    refine (var_r ht hz hf).mono ?_
    rintro e w' ⟨r, hr, rfl, hb⟩
    have : r = longB t := Bool.eq_iff_iff.2 (hr.out.trans (longB_iff t).symm)
    subst this
    exact ⟨_, rfl, hb, fun Im' _ _ => rel_tu.2 ⟨_, rfl, rel_ag.2 ⟨_, rfl, .v _, .v _, trivial⟩, .v _, trivial⟩⟩
theorem rsame4_d (t u : Ty) : PureC Try.prog 114 [.ag (eTy t), .ag (eTy u)] (.v (.bool (decide (t = u)))) := by
  refine pure_below (by kernel_rfl) fun m Im w vs hv => ?_
  match vs, hv with
  | [x, y], hv =>
    obtain ⟨s, b, rfl, ht⟩ := agTy hv.1
    obtain ⟨s', b', rfl, hu⟩ := agTy hv.2.1
    refine (same_r ht hu w (Keep.refl _ _) (Keep.refl _ _)).mono ?_
    rintro e w' ⟨b, hb, rfl, h2⟩
    have : b = decide (t = u) := by rw [Bool.eq_iff_iff, decide_eq_true_iff]; exact ⟨fun h => hb.1 h, fun h => hb.2 h⟩
    rw [this]
    exact ⟨_, rfl, h2, fun Im' _ hI => .v _⟩
set_option maxHeartbeats 2000000 in
theorem rvars_d (t : Tm) (n : Int) (hz : t.full ≤ 100000) (hf : t.Fit) : PureC Try.prog 121 [.ag (eTm t), .v (.int .i64 n)] (.tu [.sl 1 (eIs (Pn.vars t n).1) none, .v (.int .i64 (Pn.vars t n).2)]) := by
 have hz2 := full_args t
 have hz3 := fulls_len t.args
 rw [eTm_eq]
 by_cases hk : t.kind = 2
 ·by_cases hn : n < 0
  ·have hv : Pn.vars t n = ([], 1) := by unfold Pn.vars; rw [if_pos (.inr hn)]
   rw [hv]
   refine calldw 0 59 [ResultVar.tmp 4, ResultVar.tmp 5] TRQ_ok Try.func121 rfl Try.ntmps121 rfl fun cx hnt hn0 => ?_
   ·skip
    refine dw_seq ?_; refine dwk [] TRQ_ok hnt fun K hK => ?_; refine hK _ _ ?_; clear hK K; refine dw_seq ?_; refine dw_seq ?_; refine dwk [(13, .v (.bool false)), (16, .v (.bool true))] TRQ_ok hnt fun K hK => ?_; refine And.intro (bneF hk) ?_; refine And.intro auT ?_; refine hK _ _ ?_; clear hK K; refine dw_cond (t := true) rfl ?_; rw [if_pos rfl]; refine dw_seq ?_; refine dwk [] TRQ_ok hnt fun K hK => ?_
    refine hK _ _ ?_; clear hK K; refine dw_ret ?_
    exact reta rfl
  ·have hv : Pn.vars t n = match Pn.varsL n t.args [] with | some l => (l, 0) | none => ([], 6) := by unfold Pn.vars; exact if_neg (by simp [hk]; omega)
   refine calldw 0 59 [ResultVar.tmp 4, ResultVar.tmp 5] TRQ_ok Try.func121 rfl Try.ntmps121 rfl fun cx hnt hn0 => ?_
   ·skip
    refine dw_seq ?_; refine dwk [] TRQ_ok hnt fun K hK => ?_; refine hK _ _ ?_; clear hK K; refine dw_seq ?_; refine dw_seq ?_; refine dwk [(13, .v (.bool false)), (16, .v (.bool false))] TRQ_ok hnt fun K hK => ?_; refine And.intro (bneF hk) ?_; refine And.intro auF ?_; refine hK _ _ ?_; clear hK K; refine dw_cond (t := false) rfl ?_; rw [if_neg (by simp)]; refine dw_skip ?_; refine dw_seq ?_; refine dwk [] TRQ_ok hnt fun K hK => ?_
    refine hK _ _ ?_; clear hK K; refine dw_seq ?_; refine dw_seq ?_; refine dwk [] TRQ_ok hnt fun K hK => ?_; refine hK _ _ ?_; clear hK K; refine dw_block ?_
    refine dw_loop (ι := { p : Nat × List Int // Pn.varsL n (t.args.take p.1) [] = some p.2 ∧ p.1 ≤ t.args.length }) (fun p => [(.t 1, .v (.int .i64 n)), (.t 2, .p 0 0), (.t 6, .sl 1 (eIs p.1.2) (some 13)), (.t 7, .v (.int .i64 ↑p.1.1)), (.c 0 3, .sl 4 (eTms t.args) none), (.r 13, .rw 3 1 p.1.2.length)]) 14 (fun p => t.args.length - p.1.1) (⟨(0, []), rfl, Nat.zero_le _⟩) ((VS.trans (VS.rowT (x := 6) (by rw [hnt]; decide) 3 1 rfl) VS.toA)) fun p => ?_
    obtain ⟨⟨j, acc⟩, hp, hjl⟩ := p
    dsimp only at hp hjl ⊢
    by_cases hlt : j < t.args.length
    ·have hst := Pn.varsL_take n t.args j hlt hp
     have hal := Pn.varsL_len n _ _ _ hp
     rw [List.length_take, List.length_nil] at hal
     have hmem := List.getElem_mem hlt
     have hva := rvar_d t.args[j] (by have := full_mem hmem; omega) (fit_args hf _ hmem)
     unfold varV at hva
     rw [eTm_eq] at hva
     have hno : Pn.isVar n acc t.args[j] = false → Pn.vars t n = ([], 6) := fun h => by
      rw [hv, Pn.varsL_none n t.args (j + 1) (by rw [hst, h]; rfl)]
     unfold Pn.isVar at hno hst
     have hha := rhas_d acc t.args[j].headIx (by omega)
     refine dw_seq ?_; refine dw_seq ?_; refine dwk [(21, .v (.int .i64 (↑t.args.length))), (22, .v (.bool true))] TRQ_ok hnt fun K hK => ?_; refine And.intro (dintE (by rw [eTms_len])) ?_; refine And.intro auT ?_; refine hK _ _ ?_; clear hK K; refine dw_cond (t := true) rfl ?_; rw [if_pos rfl]
     cases h1 : longB t.args[j] with
     | false =>
      rw [hno (by simp [h1])]
      rw [h1] at hva
      refine dw_skip ?_; refine dw_seq ?_; refine dw_block ?_; refine dw_seq ?_; refine dwk [(29, .q [.sl 2 (eTys t.args[j].binds) none, .v (.int .i64 t.args[j].kind), .v (.int .i64 t.args[j].index), .sl 4 (eTms t.args[j].args) none])] TRQ_ok hnt fun K hK => ?_; refine And.intro (elo (eTms_len t.args)) ?_; refine And.intro (elv (eTms_getD t.args j) (eTm_eq _)) ?_; refine dcl (hva) ?_; refine hK _ _ ?_; clear hK K
      refine dw_seq ?_; refine dw_seq ?_; refine dwk [] TRQ_ok hnt fun K hK => ?_; refine hK _ _ ?_; clear hK K; refine dw_cond (t := true) rfl ?_; rw [if_pos rfl]; refine dw_seq ?_; refine dwk [] TRQ_ok hnt fun K hK => ?_; refine hK _ _ ?_; clear hK K; refine dw_ret ?_
      exact reta rfl
     | true =>
      rw [h1, if_pos rfl, if_pos rfl] at hva
      refine dw_skip ?_; refine dw_seq ?_; refine dw_block ?_; refine dw_seq ?_; refine dwk [(29, .q [.sl 2 (eTys t.args[j].binds) none, .v (.int .i64 t.args[j].kind), .v (.int .i64 t.args[j].index), .sl 4 (eTms t.args[j].args) none])] TRQ_ok hnt fun K hK => ?_; refine And.intro (elo (eTms_len t.args)) ?_; refine And.intro (elv (eTms_getD t.args j) (eTm_eq _)) ?_; refine dcl (hva) ?_; refine hK _ _ ?_; clear hK K
      by_cases h2 : t.args[j].kind = 0
      ·by_cases h3 : t.args[j].headIx < n
       ·cases h4 : acc.contains t.args[j].headIx with
        | true =>
         rw [hno (by rw [h1, h4]; simp)]
         rw [h4] at hha
         refine dw_seq ?_; refine dw_seq ?_; refine dwk [(39, .v (.bool false)), (45, .v (.bool false)), (48, .sl 1 (eIs acc) none)] TRQ_ok hnt fun K hK => ?_; refine And.intro (bneF h2) ?_; refine And.intro auF ?_; refine And.intro (VLe.untag _ _ _) ?_; refine dcl (hha) ?_; refine hK _ _ ?_; clear hK K; refine dw_cond (t := true) rfl ?_; rw [if_pos rfl]; refine dw_seq ?_; refine dwk [] TRQ_ok hnt fun K hK => ?_
         refine hK _ _ ?_; clear hK K; refine dw_ret ?_
         exact reta rfl
        | false =>
         rw [h4] at hha
         rw [if_pos (by simp only [h1, h2, h3, h4]; rfl)] at hst; refine dw_seq ?_; refine dw_seq ?_; refine dwk [(39, .v (.bool false)), (45, .v (.bool false)), (48, .sl 1 (eIs acc) none)] TRQ_ok hnt fun K hK => ?_; refine And.intro (bneF h2) ?_; refine And.intro auF ?_; refine And.intro (VLe.untag _ _ _) ?_; refine dcl (hha) ?_; refine hK _ _ ?_; clear hK K; refine dw_cond (t := false) rfl ?_; rw [if_neg (by simp)]
         refine dw_skip ?_; refine dwk [(57, .sl 1 (eIs (acc ++ [t.args[j].headIx])) (some 13))] TRQ_ok hnt fun K hK => ?_; refine And.intro (⟨by rw [eIs_len], by rw [eIs_len]; simp; omega⟩) ?_; refine And.intro (VLe.of_eq (by rw [eIs_append]; rfl)) ?_; refine hK _ _ ?_; clear hK K; refine dwk [(24, .v (.int .i64 (↑(j + 1))))] TRQ_ok hnt fun K hK => ?_; refine And.intro auI ?_; refine hK _ _ ?_; clear hK K
         have hl5 : (eIs acc).length = acc.length := eIs_len acc
         refine ⟨⟨(j + 1, acc ++ [t.args[j].headIx]), hst, hlt⟩, by first | omega | (dsimp only; omega), (by try simp only [List.length_append, List.length_take, List.length_cons, List.length_nil, Nat.zero_add, hl5]; exact VS.toA)⟩
       ·rw [hno (by rw [h1, h2, decide_eq_false h3]; simp)]
        refine dw_seq ?_; refine dw_seq ?_; refine dwk [(39, .v (.bool false)), (45, .v (.bool true))] TRQ_ok hnt fun K hK => ?_; refine And.intro (bneF h2) ?_; refine And.intro auT ?_; refine hK _ _ ?_; clear hK K; refine dw_cond (t := true) rfl ?_; rw [if_pos rfl]; refine dw_seq ?_; refine dwk [] TRQ_ok hnt fun K hK => ?_; refine hK _ _ ?_; clear hK K; refine dw_ret ?_
        exact reta rfl
      ·rw [hno (by rw [h1, decide_eq_false h2]; simp)]
       refine dw_seq ?_; refine dw_seq ?_; refine dwk [(39, .v (.bool true))] TRQ_ok hnt fun K hK => ?_; refine And.intro (bneT h2) ?_; refine hK _ _ ?_; clear hK K; refine dw_cond (t := true) rfl ?_; rw [if_pos rfl]; refine dw_seq ?_; refine dwk [] TRQ_ok hnt fun K hK => ?_; refine hK _ _ ?_; clear hK K; refine dw_ret ?_
       exact reta rfl
    ·rw [List.take_of_length_le (by omega)] at hp
     rw [hv, hp]
     refine dw_seq ?_; refine dw_seq ?_; refine dwk [(21, .v (.int .i64 (↑t.args.length))), (22, .v (.bool false))] TRQ_ok hnt fun K hK => ?_; refine And.intro (dintE (by rw [eTms_len])) ?_; refine And.intro auF ?_; refine hK _ _ ?_; clear hK K; refine dw_cond (t := false) rfl ?_; rw [if_neg (by simp)]; refine dw_exit ?_; refine dw_seq ?_; refine dwk [] TRQ_ok hnt fun K hK => ?_; refine hK _ _ ?_; clear hK K
     refine dw_ret ?_
     exact reta rfl
 ·have hv : Pn.vars t n = ([], 1) := by unfold Pn.vars; rw [if_pos (.inl hk)]
  rw [hv]
  refine calldw 0 59 [ResultVar.tmp 4, ResultVar.tmp 5] TRQ_ok Try.func121 rfl Try.ntmps121 rfl fun cx hnt hn0 => ?_
  ·skip
   refine dw_seq ?_; refine dwk [] TRQ_ok hnt fun K hK => ?_; refine hK _ _ ?_; clear hK K; refine dw_seq ?_; refine dw_seq ?_; refine dwk [(13, .v (.bool true))] TRQ_ok hnt fun K hK => ?_; refine And.intro (bneT hk) ?_; refine hK _ _ ?_; clear hK K; refine dw_cond (t := true) rfl ?_; rw [if_pos rfl]; refine dw_seq ?_; refine dwk [] TRQ_ok hnt fun K hK => ?_; refine hK _ _ ?_; clear hK K; refine dw_ret ?_
   exact reta rfl
namespace Pn
theorem useL_take (l : List Spot) (j : Nat) (hj : j < l.length) (h : (useL (l.take j)).2 = true) : useL (l.take (j + 1)) = ((useL (l.take j)).1 ++ (useL [l[j]]).1, (useL [l[j]]).2) := by
  rw [List.take_add_one, List.getElem?_eq_getElem hj, Option.toList_some, useL_app, if_pos h]
theorem useL_stop (l : List Spot) (j : Nat) (h : (useL (l.take j)).2 = false) : (useL l).2 = false := by
  have h1 : useL l = useL (l.take j ++ l.drop j) := by rw [List.take_append_drop]
  rw [h1, useL_app, if_neg (by simp [h])]; exact h
theorem useL_len (l : List Spot) : (useL l).1.length ≤ l.length := by
  induction l with
  | nil => simp [useL]
  | cons s l ih =>
    by_cases hk : s.1.kind = 2
    · cases hv : varsL (s.2.1.length : Nat) s.1.args [] with
      | none => rw [useL_bad _ hk hv]; simp
      | some v => rw [useL_use _ hk hv]; simpa using ih
    · rw [useL_other _ hk]; simp; omega
theorem subs_rng (t : Tm) : ∀ (ar : List Ty) (p : List Int), ∀ s ∈ subs t ar p, (∀ x ∈ s.2.2, x ∈ p ∨ (0 ≤ x ∧ x ≤ (t.full : Int))) ∧ s.2.2.length ≤ p.length + t.full ∧ s.2.1.length ≤ ar.length + t.full := by
  induction t using Tm.ind with
  | h bs k i a ih =>
    intro ar p s hs
    rw [subs_eq] at hs
    rw [Tm.full_eq]
    have hbl := Ty.le_sizes bs
    rcases List.mem_cons.1 hs with rfl | hs
    · exact ⟨fun x hx => .inl hx, by dsimp only; omega, by dsimp only; rw [List.length_append]; omega⟩
    · obtain ⟨j, hj, hs⟩ := subss_mem _ _ _ _ hs
      rw [Nat.zero_add] at hs
      have hfm := full_mem (List.getElem_mem hj)
      have hal := fulls_len a
      obtain ⟨h1, h2, h3⟩ := ih a[j] (List.getElem_mem hj) _ _ s hs
      refine ⟨fun x hx => ?_, by rw [List.length_append] at h2; simp at h2; omega, by rw [List.length_append] at h3; omega⟩
      rcases h1 x hx with h | h
      · rcases List.mem_append.1 h with h | h
        · exact .inl h
        · rw [List.mem_singleton] at h; right; omega
      · right; omega
end Pn
theorem subs_part (t : Tm) : ∀ (ar : List Ty) (p : List Int), t.Fit → ∀ s ∈ Pn.subs t ar p, s.1.full ≤ t.full ∧ s.1.Fit := by
  induction t using Tm.ind with
  | h bs k i a ih =>
    intro ar p hf s hs
    rw [Pn.subs_eq] at hs
    rcases List.mem_cons.1 hs with rfl | hs
    · exact ⟨Nat.le_refl _, hf⟩
    · obtain ⟨j, hj, hs⟩ := Pn.subss_mem _ _ _ _ hs
      have hfm := full_mem (List.getElem_mem hj)
      have := ih a[j] (List.getElem_mem hj) _ _ (fit_args hf _ (List.getElem_mem hj)) s hs
      rw [Tm.full_eq]
      exact ⟨by omega, this.2⟩
set_option maxHeartbeats 2000000 in
theorem ruses_d (t : Tm) (hz : t.full ≤ 50000) (hf : t.Fit) : PureC Try.prog 74 [.ag (eTm t)] (.tu [.sl 4 (if (Pn.uses t [] []).2 then eUses (Pn.uses t [] []).1 else []) none, .v (.bool (Pn.uses t [] []).2)]) := by
 have hall : PureC Try.prog 83 [.ag (eTm t), .v (.slice none 0 0)] (.sl 1 (ePaths (Pn.pth t [])) none) := CallC.vle (rall_d t [] (by simp; omega)) (.cons (VLe.refl _) (.cons (VLe.nil _) .nil)) (VLe.refl _)
 rw [← Pn.useL_subs, ← Pn.subs_pth t [] []] at *
 have hsl := Pn.subs_len t [] []
 have hsf := Tm.size_le_full t
 have hrg := Pn.subs_rng t [] []
 have hpt := subs_part t [] [] hf
 have hat := Pn.subs_at t [] [] t t.binds (by simp) rfl
 have hrat := fun p => rat_d p t
 obtain ⟨L, hL⟩ : ∃ L, Pn.subs t [] [] = L := ⟨_, rfl⟩
 rw [hL] at hsl hrg hpt hat hall ⊢
 obtain ⟨Ps, hPs⟩ : ∃ Ps, L.map (·.2.2) = Ps := ⟨_, rfl⟩
 rw [hPs] at hall
 have hPl : Ps.length = L.length := by rw [← hPs, List.length_map]
 rw [eTm_eq] at hall
 rw [eTm_eq]
 refine call_of_dw 0 57 [ResultVar.tmp 2, ResultVar.tmp 3] TRQ_ok (by kernel_rfl) Try.func74 rfl Try.ntmps74 rfl (by simp) ?dwords ?dbody
 case dwords => simp [wordsOk, D.ok, D.oks, D.okss, rnames, inN, ckey, eTms_ok, eTys_ok, eIs_ok, eUses_ok, apply_ite]
 case dbody =>
  intro cx hnt hn0
  refine dw_seq ?_; refine dwk [] TRQ_ok hnt fun K hK => ?_; refine hK _ _ ?_; clear hK K; refine dw_seq ?_; refine dwk [] TRQ_ok hnt fun K hK => ?_; refine hK _ _ ?_; clear hK K; refine dw_seq ?_; refine dwk [] TRQ_ok hnt fun K hK => ?_; refine dcl (hall) ?_; refine hK _ _ ?_; clear hK K; refine dw_seq ?_; refine dw_seq ?_; refine dwk [] TRQ_ok hnt fun K hK => ?_; refine hK _ _ ?_; clear hK K; refine dw_block ?_
  refine dw_loop (ι := { j : Nat // (Pn.useL (L.take j)).2 = true }) (fun j => [(.t 1, .p 0 0), (.t 4, .sl 4 (eUses (Pn.useL (L.take j.1)).1) (some 8)), (.r 8, .rw 132 4 (Pn.useL (L.take j.1)).1.length), (.t 5, .sl 1 (ePaths Ps) none), (.t 6, .v (.int .i64 ↑j.1)), (.c 0 0, .sl 2 (eTys t.binds) none), (.c 0 1, .v (.int .i64 t.kind)), (.c 0 2, .v (.int .i64 t.index)), (.c 0 3, .sl 4 (eTms t.args) none)]) 9 (fun j => Ps.length - j.1) (⟨0, rfl⟩) ((VS.trans (VS.rowT (x := 4) (by rw [hnt]; decide) 132 4 rfl) (VS.toK (by omega) (by repeat first | exact trivial | refine And.intro (And.intro (by first | rfl | simp [D.ok, D.oks, D.okss, D.okm, upto, keyOk, Pn.useL, eUses]) (by first | exact Or.inl rfl | exact Or.inr ⟨_, rfl, (by repeat first | exact VLe.refl _ | exact VLe.nil _ | exact VLe.untag _ _ _ | refine VLe.ag ?_ | refine VLe.tu ?_ | refine VLeL.cons ?_ ?_ | exact VLeL.nil), trivial⟩ | simp [get, Key.eq, Pn.useL, eUses])) ?_)))) fun j => ?_
  obtain ⟨j, hj⟩ := j
  dsimp only
  by_cases hlt : j < Ps.length
  ·have hltL : j < L.length := by omega
   have hmem := List.getElem_mem hltL
   have hst := Pn.useL_take L j hltL hj
   have hul := Pn.useL_len (L.take j)
   rw [List.length_take] at hul
   have hPj : Ps[j] = L[j].2.2 := by subst hPs; simp
   obtain ⟨⟨x, ar, p⟩, hs⟩ : ∃ s, L[j] = s := ⟨_, rfl⟩
   rw [hs] at hst hPj hmem
   dsimp only at hPj
   have h1 := hrg _ hmem
   have h2 := hpt _ hmem
   have h3 := hat _ hmem
   dsimp only at h1 h2 h3
   have hA := hrat p (by omega) (by simp at h1; omega) (fun y hy => by rcases h1.1 y hy with h | h; cases h; omega)
   rw [h3] at hA
   unfold atV at hA
   dsimp only at hA
   rw [eTm_eq, eTm_eq] at hA
   refine dw_seq ?_; refine dw_seq ?_; refine dwk [(16, .v (.int .i64 (↑Ps.length))), (17, .v (.bool true))] TRQ_ok hnt fun K hK => ?_; refine And.intro (dintE (by rw [ePaths_len])) ?_; refine And.intro auT ?_; refine hK _ _ ?_; clear hK K; refine dw_cond (t := true) rfl ?_; rw [if_pos rfl]; refine dw_skip ?_; refine dw_seq ?_; refine dw_block ?_; refine dw_seq ?_; refine dwkD [(24, .q [.sl 1 (eIs Ps[j]) none]), (25, .sl 1 (eIs p) none)] TRQ_ok hnt fun K hK => ?_
   refine And.intro (elo (ePaths_len Ps)) ?_; refine And.intro (elv (ePaths_getD Ps j) rfl) ?_; refine And.intro (VLe.of_eq (by rw [hPj])) ?_; refine dcl (hA) ?_; refine hK _ _ (by kernel_rfl) ?_; clear hK K
   by_cases hk : x.kind = 2
   ·have hV := rvars_d x (ar.length : Nat) (by omega) h2.2
    have hVv : Pn.vars x (ar.length : Nat) = match Pn.varsL (ar.length : Nat) x.args [] with | some l => (l, 0) | none => ([], 6) := by unfold Pn.vars; exact if_neg (by simp [hk])
    rw [hVv, eTm_eq] at hV
    cases hv : Pn.varsL (ar.length : Nat) x.args [] with
    | none =>
     rw [hv] at hV
     have hbad := Pn.useL_bad (s := (x, ar, p)) [] hk hv
     rw [hbad] at hst
     have hfin := Pn.useL_stop L (j + 1) (by rw [hst])
     rw [hfin]
     refine dw_seq ?_; refine dw_seq ?_; refine dwk [(33, .v (.bool false))] TRQ_ok hnt fun K hK => ?_; refine And.intro (bneF hk) ?_; refine hK _ _ ?_; clear hK K; refine dw_cond (t := false) rfl ?_; rw [if_neg (by simp)]; refine dw_skip ?_; refine dw_seq ?_; refine dwk [(37, .v (.int .i64 (↑ar.length)))] TRQ_ok hnt fun K hK => ?_; refine And.intro (dintE (by rw [eTys_len])) ?_; refine dcl (hV) ?_; refine hK _ _ ?_; clear hK K
     refine dw_seq ?_; refine dw_seq ?_; refine dwk [(42, .v (.bool true))] TRQ_ok hnt fun K hK => ?_; refine And.intro (VLe.refl _) ?_; refine hK _ _ ?_; clear hK K; refine dw_cond (t := true) rfl ?_; rw [if_pos rfl]; refine dw_seq ?_; refine dwk [] TRQ_ok hnt fun K hK => ?_; refine hK _ _ ?_; clear hK K; refine dw_ret ?_
     exact reta rfl
    | some v =>
     rw [hv] at hV
     have hus := Pn.useL_use (s := (x, ar, p)) [] hk hv
     rw [hus] at hst
     simp only [Pn.useL] at hst
     refine dw_seq ?_; refine dw_seq ?_; refine dwk [(33, .v (.bool false))] TRQ_ok hnt fun K hK => ?_; refine And.intro (bneF hk) ?_; refine hK _ _ ?_; clear hK K; refine dw_cond (t := false) rfl ?_; rw [if_neg (by simp)]; refine dw_skip ?_; refine dw_seq ?_; refine dwk [(37, .v (.int .i64 (↑ar.length)))] TRQ_ok hnt fun K hK => ?_; refine And.intro (dintE (by rw [eTys_len])) ?_; refine dcl (hV) ?_; refine hK _ _ ?_; clear hK K
     refine dw_seq ?_; refine dw_seq ?_; refine dwk [(42, .v (.bool false))] TRQ_ok hnt fun K hK => ?_; refine And.intro (VLe.refl _) ?_; refine hK _ _ ?_; clear hK K; refine dw_cond (t := false) rfl ?_; rw [if_neg (by simp)]; refine dw_skip ?_; refine dwkD [(51, .q [.sl 1 (eIs Ps[j]) none]), (52, .sl 1 (eIs p) none), (55, .sl 4 (eUses (Pn.useL (L.take (j + 1))).1) (some 8))] TRQ_ok hnt fun K hK => ?_; refine And.intro (elo (ePaths_len Ps)) ?_
     refine And.intro (elv (ePaths_getD Ps j) rfl) ?_; refine And.intro (VLe.of_eq (by rw [hPj])) ?_; refine And.intro (⟨by rw [eUses_len], by rw [eUses_len]; simp; omega⟩) ?_; refine And.intro (VLe.of_eq (by rw [hst, eUses_append]; rfl)) ?_; refine hK _ _ (by kernel_rfl) ?_; clear hK K; refine dwk [(19, .v (.int .i64 (↑(j + 1))))] TRQ_ok hnt fun K hK => ?_; refine And.intro auI ?_; refine hK _ _ ?_; clear hK K
     have hlq : (eUses (Pn.useL (L.take j)).1).length + 1 = (Pn.useL (L.take (j + 1))).1.length := by rw [eUses_len, hst]; simp
     refine ⟨⟨j + 1, by rw [hst]⟩, by first | omega | (dsimp only; omega), (by try simp only [List.length_append, List.length_take, List.length_cons, List.length_nil, Nat.zero_add, hlq]; exact VS.toA)⟩
   ·have hot := Pn.useL_other (s := (x, ar, p)) [] hk
    rw [hot] at hst
    simp only [Pn.useL, List.append_nil] at hst
    have e1 : (Pn.useL (L.take (j + 1))).1 = (Pn.useL (L.take j)).1 := by rw [hst]
    rw [← e1]
    refine dw_seq ?_; refine dw_seq ?_; refine dwk [(33, .v (.bool true))] TRQ_ok hnt fun K hK => ?_; refine And.intro (bneT hk) ?_; refine hK _ _ ?_; clear hK K; refine dw_cond (t := true) rfl ?_; rw [if_pos rfl]; refine dw_exit ?_; refine dwk [(19, .v (.int .i64 (↑(j + 1))))] TRQ_ok hnt fun K hK => ?_; refine And.intro auI ?_; refine hK _ _ ?_; clear hK K
    refine ⟨⟨j + 1, by rw [hst]⟩, by first | omega | (dsimp only; omega), VS.toA⟩
  ·rw [List.take_of_length_le (by omega)] at hj ⊢
   rw [hj, if_pos rfl]
   refine dw_seq ?_; refine dw_seq ?_; refine dwk [(16, .v (.int .i64 (↑Ps.length))), (17, .v (.bool false))] TRQ_ok hnt fun K hK => ?_; refine And.intro (dintE (by rw [ePaths_len])) ?_; refine And.intro auF ?_; refine hK _ _ ?_; clear hK K; refine dw_cond (t := false) rfl ?_; rw [if_neg (by simp)]; refine dw_exit ?_; refine dw_seq ?_; refine dwk [] TRQ_ok hnt fun K hK => ?_; refine hK _ _ ?_; clear hK K
   refine dw_ret ?_
   exact reta rfl
end Go.Proofs.Ytdmiekaeodcehaa

namespace Go.Proofs.Ytdmiekaeodcehaa
open Go.RowKit
def TRT_27 : TI := ⟨4, true, [Value.slice none 0 0, Value.int IntKind.i64 0, Value.int IntKind.i64 0, Value.slice none 0 0], [(0, 1, false), (1, 2, true), (3, 1, false)], none, 64, 6, none, false⟩
theorem TRT_27_ok : TypOk Try.prog 27 TRT_27 := ⟨by kernel_rfl, by kernel_rfl, by kernel_rfl, by kernel_rfl, by kernel_rfl⟩
def TRT_3 : TI := ⟨1, false, [Value.int IntKind.i64 0], [], none, 8, 2, none, false⟩
theorem TRT_3_ok : TypOk Try.prog 3 TRT_3 := ⟨by kernel_rfl, by kernel_rfl, by kernel_rfl, by kernel_rfl, by kernel_rfl⟩
def TRT_43 : TI := ⟨1, false, [Value.slice none 0 0], [], some 3, 24, 5, none, false⟩
theorem TRT_43_ok : TypOk Try.prog 43 TRT_43 := ⟨by kernel_rfl, by kernel_rfl, by kernel_rfl, by kernel_rfl, by kernel_rfl⟩
def TRT_22 : TI := ⟨1, false, [Value.slice none 0 0], [], some 146, 24, 5, none, false⟩
theorem TRT_22_ok : TypOk Try.prog 22 TRT_22 := ⟨by kernel_rfl, by kernel_rfl, by kernel_rfl, by kernel_rfl, by kernel_rfl⟩
def TRT_25 : TI := ⟨1, false, [Value.slice none 0 0], [], some 27, 24, 5, none, false⟩
theorem TRT_25_ok : TypOk Try.prog 25 TRT_25 := ⟨by kernel_rfl, by kernel_rfl, by kernel_rfl, by kernel_rfl, by kernel_rfl⟩
def TRT_24 : TI := ⟨2, true, [Value.int IntKind.i64 0, Value.int IntKind.i64 0], [(0, 1, false), (1, 1, false)], none, 16, 6, none, true⟩
theorem TRT_24_ok : TypOk Try.prog 24 TRT_24 := ⟨by kernel_rfl, by kernel_rfl, by kernel_rfl, by kernel_rfl, by kernel_rfl⟩
def TRT_146 : TI := ⟨2, true, [Value.slice none 0 0, Value.int IntKind.i64 0], [(0, 1, false), (1, 1, false)], none, 32, 6, none, false⟩
theorem TRT_146_ok : TypOk Try.prog 146 TRT_146 := ⟨by kernel_rfl, by kernel_rfl, by kernel_rfl, by kernel_rfl, by kernel_rfl⟩
def TRT : List (Nat × TI) := [(27, TRT_27), (3, TRT_3), (43, TRT_43), (22, TRT_22), (25, TRT_25), (24, TRT_24), (146, TRT_146)]
theorem TRT_ok : TabOk Try.prog TRT := ((((((((TabOk.nil _).cons TRT_146_ok).cons TRT_24_ok).cons TRT_25_ok).cons TRT_22_ok).cons TRT_43_ok).cons TRT_3_ok).cons TRT_27_ok)

theorem loosess_app (n : Int) : ∀ (l r : List Tm), Tm.loosess (l ++ r) n = Tm.loosess l n ++ Tm.loosess r n
  | [], r => by simp [Tm.loosess]
  | t :: l, r => by rw [List.cons_append, Tm.loosess, Tm.loosess, loosess_app n l r, List.append_assoc]
theorem loosess_take (n : Int) (a : List Tm) (j : Nat) (h : j < a.length) : Tm.loosess (a.take (j + 1)) n = Tm.loosess (a.take j) n ++ a[j].looses n := by
  rw [List.take_add_one, List.getElem?_eq_getElem h, loosess_app, Option.toList_some, Tm.loosess, Tm.loosess, List.append_nil]
theorem looses_len (t : Tm) : ∀ n : Int, (t.looses n).length ≤ t.full := by
  induction t using Tm.ind with
  | h b k i a ih =>
    intro n
    rw [Tm.looses_eq _ _ _ _ _ _ rfl, Tm.full_eq, List.length_append]
    have key : ∀ (l : List Tm), (∀ t ∈ l, t ∈ a) → ∀ n, (Tm.loosess l n).length ≤ Tm.fulls l := by
      intro l
      induction l with
      | nil => intro _ n; simp [Tm.loosess]
      | cons t l ihl =>
        intro hl n
        rw [Tm.loosess, List.length_append, Tm.fulls]
        have := ih t (hl t (by simp)) n
        have := ihl (fun u hu => hl u (by simp [hu])) n
        omega
    have := key a (fun _ h => h) (n + (b.length : Int))
    split <;> simp <;> omega
set_option maxHeartbeats 2000000 in
theorem rlooses_d : ∀ (t : Tm) (n : Int), 0 ≤ n → n + t.full ≤ 1000000 → t.Fit → PureC Try.prog 137 [.ag (eTm t), .v (.int .i64 n)] (.sl 1 (eIs (t.looses n)) none) := by
 intro t
 induction t using Tm.ind with
 | h b k i a ih =>
 intro n h0 hz hf
 obtain ⟨f1, f2, f3⟩ := Tm.fit_iff.1 hf
 rw [Tm.full_eq] at hz
 have hal := fulls_len a
 have hbl := Ty.le_sizes b
 obtain ⟨m, hm⟩ : ∃ m : Int, n + (b.length : Int) = m := ⟨_, rfl⟩
 rw [Tm.looses_eq _ _ _ _ _ _ hm, eTm_eq]
 simp only [binds_mk', kind_mk', index_mk', args_mkT]
 obtain ⟨hd, hhd⟩ : ∃ hd, (if k = 0 ∧ m ≤ i then [i - m] else []) = hd := ⟨_, rfl⟩
 have hdl : hd.length ≤ 1 := by rw [← hhd]; split <;> simp
 rw [hhd]
 refine calldw 0 49 [ResultVar.tmp 4] TRT_ok Try.func137 rfl Try.ntmps137 rfl fun cx hnt hn0 => ?_
 ·skip
  refine dw_seq ?_; refine dwk [] TRT_ok hnt fun K hK => ?_; refine hK _ _ ?_; clear hK K; refine dw_seq ?_; refine dwk [] TRT_ok hnt fun K hK => ?_; refine hK _ _ ?_; clear hK K
  refine DW.vs (VS.rowT (x := 5) (by rw [hnt]; decide) 3 1 rfl) ?_
  refine dw_seq ?_; refine dwk [(11, .v (.int .i64 (↑b.length))), (12, .v (.int .i64 (m)))] TRT_ok hnt fun K hK => ?_; refine And.intro (dintE (by rw [eTys_len])) ?_; refine And.intro auI ?_; refine hK _ _ ?_; clear hK K
  refine dw_cut (τ := [(.t 2, .p 0 0), (.t 5, .sl 1 (eIs hd) (some 3)), (.r 3, .rw 3 1 hd.length), (.t 6, .v (.int .i64 m)), (.c 0 3, .sl 4 (eTms a) none)]) (N1 := 4) ?_ ?_
  ·by_cases hk : k = 0
   ·by_cases hi : m ≤ i
    ·rw [if_pos ⟨hk, hi⟩] at hhd
     subst hhd
     refine dw_seq ?_; refine dwk [(16, .v (.bool true)), (22, .v (.bool true))] TRT_ok hnt fun K hK => ?_; refine And.intro (beqT hk) ?_; refine And.intro auT ?_; refine hK _ _ ?_; clear hK K; refine dw_cond (t := true) rfl ?_; rw [if_pos rfl]; refine dwk [(29, .v (.int .i64 (i - m)))] TRT_ok hnt fun K hK => ?_; refine And.intro auI ?_; refine And.intro (⟨rfl, by simp⟩) ?_; refine hK _ _ ?_; clear hK K
     exact cut_ok (VS.toK (by omega) (by repeat first | exact trivial | refine And.intro (And.intro (by first | rfl | simp [D.ok, D.oks, D.okss, D.okm, upto, keyOk, eIs]) (by first | exact Or.inl rfl | exact Or.inr ⟨_, rfl, (by repeat first | exact VLe.refl _ | exact VLe.nil _ | exact VLe.untag _ _ _ | refine VLe.ag ?_ | refine VLe.tu ?_ | refine VLeL.cons ?_ ?_ | exact VLeL.nil), trivial⟩ | simp [get, Key.eq, eIs])) ?_))
    ·rw [if_neg (fun h => hi h.2)] at hhd
     subst hhd
     refine dw_seq ?_; refine dwk [(16, .v (.bool true)), (22, .v (.bool false))] TRT_ok hnt fun K hK => ?_; refine And.intro (beqT hk) ?_; refine And.intro auF ?_; refine hK _ _ ?_; clear hK K; refine dw_cond (t := false) rfl ?_; rw [if_neg (by simp)]; refine dw_skip ?_
     exact cut_ok (VS.toK (by omega) (by repeat first | exact trivial | refine And.intro (And.intro (by first | rfl | simp [D.ok, D.oks, D.okss, D.okm, upto, keyOk, eIs]) (by first | exact Or.inl rfl | exact Or.inr ⟨_, rfl, (by repeat first | exact VLe.refl _ | exact VLe.nil _ | exact VLe.untag _ _ _ | refine VLe.ag ?_ | refine VLe.tu ?_ | refine VLeL.cons ?_ ?_ | exact VLeL.nil), trivial⟩ | simp [get, Key.eq, eIs])) ?_))
   ·rw [if_neg (fun h => hk h.1)] at hhd
    subst hhd
    refine dw_seq ?_; refine dwk [(16, .v (.bool false))] TRT_ok hnt fun K hK => ?_; refine And.intro (beqF hk) ?_; refine hK _ _ ?_; clear hK K; refine dw_cond (t := false) rfl ?_; rw [if_neg (by simp)]; refine dw_skip ?_
    exact cut_ok (VS.toK (by omega) (by repeat first | exact trivial | refine And.intro (And.intro (by first | rfl | simp [D.ok, D.oks, D.okss, D.okm, upto, keyOk, eIs]) (by first | exact Or.inl rfl | exact Or.inr ⟨_, rfl, (by repeat first | exact VLe.refl _ | exact VLe.nil _ | exact VLe.untag _ _ _ | refine VLe.ag ?_ | refine VLe.tu ?_ | refine VLeL.cons ?_ ?_ | exact VLeL.nil), trivial⟩ | simp [get, Key.eq, eIs])) ?_))
  ·skip
   refine dw_seq ?_; refine dw_seq ?_; refine dwk [] TRT_ok hnt fun K hK => ?_; refine hK _ _ ?_; clear hK K; refine dw_block ?_
   refine dw_loop (ι := { j : Nat // j ≤ a.length }) (fun j => [(.t 2, .p 0 0), (.t 5, .sl 1 (eIs (hd ++ Tm.loosess (a.take j.1) m)) (some 3)), (.r 3, .rw 3 1 (hd ++ Tm.loosess (a.take j.1) m).length), (.t 6, .v (.int .i64 m)), (.t 7, .v (.int .i64 ↑j.1)), (.c 0 3, .sl 4 (eTms a) none)]) 4 (fun j => a.length - j.1) (⟨0, Nat.zero_le _⟩) ((by simp only [List.take_zero, Tm.loosess, List.append_nil]; exact VS.toA)) fun j => ?_
   obtain ⟨j, hj⟩ := j
   dsimp only
   by_cases hlt : j < a.length
   ·have hmem := List.getElem_mem hlt
    have hfm := full_mem hmem
    have hih := ih a[j] hmem m (by omega) (by omega) (f3 _ hmem)
    have hst := loosess_take m a j hlt
    have hl1 := looses_len a[j] m
    have hl2 : (Tm.loosess (a.take j) m).length ≤ Tm.fulls (a.take j) := by
     have key : ∀ l : List Tm, (Tm.loosess l m).length ≤ Tm.fulls l := by
      intro l
      induction l with
      | nil => simp [Tm.loosess]
      | cons t l ihl => rw [Tm.loosess, List.length_append, Tm.fulls]; have := looses_len t m; omega
     exact key _
    have hl3 := Tm.fulls_take_le a (j + 1)
    have hl5 := Tm.fulls_take a j hlt
    rw [eTm_eq] at hih
    refine dw_seq ?_; refine dw_seq ?_; refine dwk [(35, .v (.int .i64 (↑a.length))), (36, .v (.bool true))] TRT_ok hnt fun K hK => ?_; refine And.intro (dintE (by rw [eTms_len])) ?_; refine And.intro auT ?_; refine hK _ _ ?_; clear hK K; refine dw_cond (t := true) rfl ?_; rw [if_pos rfl]; refine dw_skip ?_; refine dw_seq ?_; refine dw_block ?_; refine dwk [(43, .q [.sl 2 (eTys a[j].binds) none, .v (.int .i64 a[j].kind), .v (.int .i64 a[j].index), .sl 4 (eTms a[j].args) none]), (47, .sl 1 (eIs (hd ++ Tm.loosess (a.take (j + 1)) m)) (some 3))] TRT_ok hnt fun K hK => ?_
    refine And.intro (elo (eTms_len a)) ?_; refine And.intro (elv (eTms_getD a j) (eTm_eq _)) ?_; refine dcl (hih) ?_; refine And.intro (⟨by rw [eIs_len], by rw [eIs_len, eIs_len, List.length_append]; omega⟩) ?_; refine And.intro (VLe.of_eq (by rw [hst, ← List.append_assoc, eIs_append (hd ++ _)])) ?_; refine hK _ _ ?_; clear hK K; refine dwk [(38, .v (.int .i64 (↑(j + 1))))] TRT_ok hnt fun K hK => ?_; refine And.intro auI ?_
    refine hK _ _ ?_; clear hK K
    have hl4 : (eIs (hd ++ Tm.loosess (a.take j) m) ++ eIs (a[j].looses m)).length = (hd ++ Tm.loosess (a.take (j + 1)) m).length := by rw [← eIs_append, eIs_len, hst, List.append_assoc]
    refine ⟨⟨j + 1, by omega⟩, by first | omega | (dsimp only; omega), (by try simp only [List.length_append, List.length_take, List.length_cons, List.length_nil, Nat.zero_add, hl4]; exact VS.toA)⟩
   ·rw [List.take_of_length_le (by omega)]
    refine dw_seq ?_; refine dw_seq ?_; refine dwk [(35, .v (.int .i64 (↑a.length))), (36, .v (.bool false))] TRT_ok hnt fun K hK => ?_; refine And.intro (dintE (by rw [eTms_len])) ?_; refine And.intro auF ?_; refine hK _ _ ?_; clear hK K; refine dw_cond (t := false) rfl ?_; rw [if_neg (by simp)]; refine dw_exit ?_; refine dw_seq ?_; refine dwk [] TRT_ok hnt fun K hK => ?_; refine hK _ _ ?_; clear hK K
    refine dw_ret ?_
    exact reta rfl
theorem rLooses_d (t : Tm) (hz : t.full ≤ 1000000) (hf : t.Fit) : PureC Try.prog 91 [.ag (eTm t)] (.sl 1 (eIs (t.looses 0)) none) := by
 have h := rlooses_d t 0 (by omega) (by omega) hf
 rw [eTm_eq] at h ⊢
 refine calldw 0 5 [ResultVar.tmp 2] TRT_ok Try.func91 rfl Try.ntmps91 rfl fun cx hnt hn0 => ?_
 ·skip
  refine dw_seq ?_; refine dwk [] TRT_ok hnt fun K hK => ?_; refine hK _ _ ?_; clear hK K; refine dw_seq ?_; refine dwk [] TRT_ok hnt fun K hK => ?_; refine dcl (h) ?_; refine hK _ _ ?_; clear hK K; refine dw_ret ?_
  exact reta rfl
theorem rmay12_d (p : Tm) (hz : p.full ≤ 50000) (hf : p.Fit) : PureC Try.prog 72 [.ag (eTm p)] (.v (.int .i64 (Pn.may p))) := by
 have hl := rLooses_d p (by omega) hf
 have hu := ruses_d p hz hf
 unfold Pn.may
 rw [eTm_eq] at hl hu ⊢
 have hll : (p.looses 0).length = 0 ↔ p.looses 0 = [] := List.length_eq_zero_iff
 by_cases hL : p.looses 0 = []
 ·rw [if_neg (by simp [hL])]
  have h0 := hll.2 hL
  cases h : (Pn.uses p [] []).2 with
  | true =>
   rw [h] at hu
   rw [if_neg (by simp)]
   refine calldw 0 16 [ResultVar.tmp 2] TRT_ok Try.func72 rfl Try.ntmps72 rfl fun cx hnt hn0 => ?_
   ·skip
    refine dw_seq ?_; refine dwk [] TRT_ok hnt fun K hK => ?_; refine hK _ _ ?_; clear hK K; refine dw_seq ?_; refine dw_seq ?_; refine dwk [(7, .v (.int .i64 (0))), (8, .v (.bool false))] TRT_ok hnt fun K hK => ?_; refine dcl (hl) ?_; refine And.intro (dintE (by rw [eIs_len, h0]; rfl)) ?_; refine And.intro (VLe.refl _) ?_; refine hK _ _ ?_; clear hK K; refine dw_cond (t := false) rfl ?_; rw [if_neg (by simp)]
    refine dw_skip ?_; refine dw_seq ?_; refine dwk [] TRT_ok hnt fun K hK => ?_; refine dcl (hu) ?_; refine hK _ _ ?_; clear hK K; refine dw_seq ?_; refine dw_seq ?_; refine dwk [] TRT_ok hnt fun K hK => ?_; refine hK _ _ ?_; clear hK K; refine dw_cond (t := false) rfl ?_; rw [if_neg (by simp)]; refine dw_skip ?_; refine dw_seq ?_; refine dwk [] TRT_ok hnt fun K hK => ?_; refine hK _ _ ?_; clear hK K
    refine dw_ret ?_
    exact reta rfl
  | false =>
   rw [h] at hu
   rw [if_pos rfl]
   refine calldw 0 16 [ResultVar.tmp 2] TRT_ok Try.func72 rfl Try.ntmps72 rfl fun cx hnt hn0 => ?_
   ·skip
    refine dw_seq ?_; refine dwk [] TRT_ok hnt fun K hK => ?_; refine hK _ _ ?_; clear hK K; refine dw_seq ?_; refine dw_seq ?_; refine dwk [(7, .v (.int .i64 (0))), (8, .v (.bool false))] TRT_ok hnt fun K hK => ?_; refine dcl (hl) ?_; refine And.intro (dintE (by rw [eIs_len, h0]; rfl)) ?_; refine And.intro (VLe.refl _) ?_; refine hK _ _ ?_; clear hK K; refine dw_cond (t := false) rfl ?_; rw [if_neg (by simp)]
    refine dw_skip ?_; refine dw_seq ?_; refine dwk [] TRT_ok hnt fun K hK => ?_; refine dcl (hu) ?_; refine hK _ _ ?_; clear hK K; refine dw_seq ?_; refine dw_seq ?_; refine dwk [] TRT_ok hnt fun K hK => ?_; refine hK _ _ ?_; clear hK K; refine dw_cond (t := true) rfl ?_; rw [if_pos rfl]; refine dw_seq ?_; refine dwk [] TRT_ok hnt fun K hK => ?_; refine hK _ _ ?_; clear hK K; refine dw_ret ?_
    exact reta rfl
 ·rw [if_pos hL]
  have h0 : 0 < (p.looses 0).length := by
   rcases Nat.eq_zero_or_pos (p.looses 0).length with h | h
   ·exact absurd (hll.1 h) hL
   ·exact h
  refine calldw 0 16 [ResultVar.tmp 2] TRT_ok Try.func72 rfl Try.ntmps72 rfl fun cx hnt hn0 => ?_
  ·skip
   refine dw_seq ?_; refine dwk [] TRT_ok hnt fun K hK => ?_; refine hK _ _ ?_; clear hK K; refine dw_seq ?_; refine dw_seq ?_; refine dwk [(7, .v (.int .i64 (↑(p.looses 0).length))), (8, .v (.bool true))] TRT_ok hnt fun K hK => ?_; refine dcl (hl) ?_; refine And.intro (dintE (by rw [eIs_len])) ?_; refine And.intro auT ?_; refine hK _ _ ?_; clear hK K; refine dw_cond (t := true) rfl ?_; rw [if_pos rfl]
   refine dw_seq ?_; refine dwk [] TRT_ok hnt fun K hK => ?_; refine hK _ _ ?_; clear hK K; refine dw_ret ?_
   exact reta rfl
theorem rmay_d (n : Int) (vs : List Int) (hl : vs.length ≤ 100000) : PureC Try.prog 122 [.v (.int .i64 n), .sl 1 (eIs vs) none] (.v (.bool (Pn.mayV n vs))) := by
 refine calldw 0 35 [ResultVar.tmp 4] TRT_ok Try.func122 rfl Try.ntmps122 rfl fun cx hnt hn0 => ?_
 ·skip
  refine dw_seq ?_; refine dwk [] TRT_ok hnt fun K hK => ?_; refine hK _ _ ?_; clear hK K; refine dw_seq ?_; refine dw_seq ?_; refine dwk [] TRT_ok hnt fun K hK => ?_; refine hK _ _ ?_; clear hK K; refine dw_block ?_
  refine dw_loop (ι := { j : Nat // Pn.mayL n (vs.take j) [] = true }) (fun j => [(.t 0, .v (.int .i64 n)), (.t 1, .sl 1 (eIs vs) none), (.t 5, .v (.int .i64 ↑j.1))]) 0 (fun j => vs.length - j.1) (⟨0, rfl⟩) ((VS.toK (by omega) (by repeat first | exact trivial | refine And.intro (And.intro (by first | rfl | simp [D.ok, D.oks, D.okss, D.okm, upto, keyOk, argsT]) (by first | exact Or.inl rfl | exact Or.inr ⟨_, rfl, (by repeat first | exact VLe.refl _ | exact VLe.nil _ | exact VLe.untag _ _ _ | refine VLe.ag ?_ | refine VLe.tu ?_ | refine VLeL.cons ?_ ?_ | exact VLeL.nil), trivial⟩ | simp [get, Key.eq, argsT])) ?_))) fun j => ?_
  obtain ⟨j, hj⟩ := j
  dsimp only
  by_cases hlt : j < vs.length
  ·have hst := Pn.mayL_take n vs j hlt
   rw [hj] at hst
   have hha := rhas_d (vs.take j) vs[j] (by rw [List.length_take]; omega)
   have hcut : (eIs vs).take j = eIs (vs.take j) := by unfold eIs; rw [List.map_take]
   have hbad : (decide (0 ≤ vs[j]) && (decide (vs[j] < n) && !(vs.take j).contains vs[j])) = false → Pn.mayV n vs = false := fun h => by
    rw [h] at hst
    cases hm : Pn.mayV n vs with
    | false => rfl
    | true => have := Pn.mayL_pre n vs (j + 1) hm; rw [hst] at this; cases this
   by_cases h0 : vs[j] < 0
   ·rw [hbad (by rw [decide_eq_false (show ¬ 0 ≤ vs[j] by omega)]; rfl)]
    refine dw_seq ?_; refine dw_seq ?_; refine dwk [(8, .v (.int .i64 (↑vs.length))), (9, .v (.bool true))] TRT_ok hnt fun K hK => ?_; refine And.intro (dintE (by rw [eIs_len])) ?_; refine And.intro auT ?_; refine hK _ _ ?_; clear hK K; refine dw_cond (t := true) rfl ?_; rw [if_pos rfl]; refine dw_skip ?_; refine dw_seq ?_; refine dw_block ?_; refine dw_seq ?_; refine dwkD [(14, .q [.v (.int .i64 (vs[j]))]), (16, .v (.bool true))] TRT_ok hnt fun K hK => ?_
    refine And.intro (elo (eIs_len vs)) ?_; refine And.intro (elv (eIs_getD vs j) rfl) ?_; refine And.intro auT ?_; refine hK _ _ (by kernel_rfl) ?_; clear hK K; refine dw_cond (t := true) rfl ?_; rw [if_pos rfl]; refine dw_seq ?_; refine dwk [] TRT_ok hnt fun K hK => ?_; refine hK _ _ ?_; clear hK K; refine dw_ret ?_
    exact reta rfl
   ·by_cases h1 : n ≤ vs[j]
    ·rw [hbad (by rw [decide_eq_false (show ¬ vs[j] < n by omega)]; simp)]
     refine dw_seq ?_; refine dw_seq ?_; refine dwk [(8, .v (.int .i64 (↑vs.length))), (9, .v (.bool true))] TRT_ok hnt fun K hK => ?_; refine And.intro (dintE (by rw [eIs_len])) ?_; refine And.intro auT ?_; refine hK _ _ ?_; clear hK K; refine dw_cond (t := true) rfl ?_; rw [if_pos rfl]; refine dw_skip ?_; refine dw_seq ?_; refine dw_block ?_; refine dw_seq ?_; refine dwkD [(14, .q [.v (.int .i64 (vs[j]))]), (16, .v (.bool false)), (20, .q [.v (.int .i64 (vs[j]))]), (23, .v (.bool true))] TRT_ok hnt fun K hK => ?_
     refine And.intro (elo (eIs_len vs)) ?_; refine And.intro (elv (eIs_getD vs j) rfl) ?_; refine And.intro auF ?_; refine And.intro (elo (eIs_len vs)) ?_; refine And.intro (elv (eIs_getD vs j) rfl) ?_; refine And.intro auT ?_; refine hK _ _ (by kernel_rfl) ?_; clear hK K; refine dw_cond (t := true) rfl ?_; rw [if_pos rfl]; refine dw_seq ?_; refine dwk [] TRT_ok hnt fun K hK => ?_; refine hK _ _ ?_; clear hK K
     refine dw_ret ?_
     exact reta rfl
    ·cases hc : (vs.take j).contains vs[j] with
     | true =>
      rw [hbad (by rw [hc]; simp)]
      rw [hc] at hha
      refine dw_seq ?_; refine dw_seq ?_; refine dwk [(8, .v (.int .i64 (↑vs.length))), (9, .v (.bool true))] TRT_ok hnt fun K hK => ?_; refine And.intro (dintE (by rw [eIs_len])) ?_; refine And.intro auT ?_; refine hK _ _ ?_; clear hK K; refine dw_cond (t := true) rfl ?_; rw [if_pos rfl]; refine dw_skip ?_; refine dw_seq ?_; refine dw_block ?_; refine dw_seq ?_; refine dwkD [(14, .q [.v (.int .i64 (vs[j]))]), (16, .v (.bool false)), (20, .q [.v (.int .i64 (vs[j]))]), (23, .v (.bool false)), (28, .sl 1 (eIs (vs.take j)) none), (31, .q [.v (.int .i64 (vs[j]))])] TRT_ok hnt fun K hK => ?_
      refine And.intro (elo (eIs_len vs)) ?_; refine And.intro (elv (eIs_getD vs j) rfl) ?_; refine And.intro auF ?_; refine And.intro (elo (eIs_len vs)) ?_; refine And.intro (elv (eIs_getD vs j) rfl) ?_; refine And.intro auF ?_; refine And.intro (⟨by omega, by rw [eIs_len]; omega⟩) ?_; refine And.intro (VLe.of_eq (by simp only [Option.getD_none, Option.getD_some, Int.toNat_natCast, Int.toNat_zero, List.drop_zero, hcut])) ?_
      refine And.intro (elo (eIs_len vs)) ?_; refine And.intro (elv (eIs_getD vs j) rfl) ?_; refine dcl (hha) ?_; refine hK _ _ (by kernel_rfl) ?_; clear hK K; refine dw_cond (t := true) rfl ?_; rw [if_pos rfl]; refine dw_seq ?_; refine dwk [] TRT_ok hnt fun K hK => ?_; refine hK _ _ ?_; clear hK K; refine dw_ret ?_
      exact reta rfl
     | false =>
      rw [hc] at hha
      refine dw_seq ?_; refine dw_seq ?_; refine dwk [(8, .v (.int .i64 (↑vs.length))), (9, .v (.bool true))] TRT_ok hnt fun K hK => ?_; refine And.intro (dintE (by rw [eIs_len])) ?_; refine And.intro auT ?_; refine hK _ _ ?_; clear hK K; refine dw_cond (t := true) rfl ?_; rw [if_pos rfl]; refine dw_skip ?_; refine dw_seq ?_; refine dw_block ?_; refine dw_seq ?_; refine dwkD [(14, .q [.v (.int .i64 (vs[j]))]), (16, .v (.bool false)), (20, .q [.v (.int .i64 (vs[j]))]), (23, .v (.bool false)), (28, .sl 1 (eIs (vs.take j)) none), (31, .q [.v (.int .i64 (vs[j]))])] TRT_ok hnt fun K hK => ?_
      refine And.intro (elo (eIs_len vs)) ?_; refine And.intro (elv (eIs_getD vs j) rfl) ?_; refine And.intro auF ?_; refine And.intro (elo (eIs_len vs)) ?_; refine And.intro (elv (eIs_getD vs j) rfl) ?_; refine And.intro auF ?_; refine And.intro (⟨by omega, by rw [eIs_len]; omega⟩) ?_; refine And.intro (VLe.of_eq (by simp only [Option.getD_none, Option.getD_some, Int.toNat_natCast, Int.toNat_zero, List.drop_zero, hcut])) ?_
      refine And.intro (elo (eIs_len vs)) ?_; refine And.intro (elv (eIs_getD vs j) rfl) ?_; refine dcl (hha) ?_; refine hK _ _ (by kernel_rfl) ?_; clear hK K; refine dw_cond (t := false) rfl ?_; rw [if_neg (by simp)]; refine dw_skip ?_; refine dwk [(11, .v (.int .i64 (↑(j + 1))))] TRT_ok hnt fun K hK => ?_; refine And.intro auI ?_; refine hK _ _ ?_; clear hK K
      refine ⟨⟨j + 1, by rw [hst, hc, decide_eq_true (show 0 ≤ vs[j] by omega), decide_eq_true (show vs[j] < n by omega)]; rfl⟩, by first | omega | (dsimp only; omega), VS.toA⟩
  ·rw [List.take_of_length_le (by omega)] at hj
   unfold Pn.mayV
   rw [hj]
   refine dw_seq ?_; refine dw_seq ?_; refine dwk [(8, .v (.int .i64 (↑vs.length))), (9, .v (.bool false))] TRT_ok hnt fun K hK => ?_; refine And.intro (dintE (by rw [eIs_len])) ?_; refine And.intro auF ?_; refine hK _ _ ?_; clear hK K; refine dw_cond (t := false) rfl ?_; rw [if_neg (by simp)]; refine dw_exit ?_; refine dw_seq ?_; refine dwk [] TRT_ok hnt fun K hK => ?_; refine hK _ _ ?_; clear hK K; refine dw_ret ?_
   exact reta rfl
theorem rtypes_d (binds : List Ty) (vs : List Int) (hl : vs.length ≤ 100000) (hb : binds.length ≤ 1000000) (hv : ∀ v ∈ vs, 0 ≤ v ∧ v < binds.length) : PureC Try.prog 124 [.sl 2 (eTys binds) none, .sl 1 (eIs vs) none] (.sl 2 (eTys (Pn.types binds vs)) none) := by
 refine calldw 0 28 [ResultVar.tmp 4] TRT_ok Try.func124 rfl Try.ntmps124 rfl fun cx hnt hn0 => ?_
 ·skip
  refine dw_seq ?_; refine dwk [] TRT_ok hnt fun K hK => ?_; refine hK _ _ ?_; clear hK K; refine dw_seq ?_; refine dwk [] TRT_ok hnt fun K hK => ?_; refine hK _ _ ?_; clear hK K; refine dw_seq ?_; refine dw_seq ?_; refine dwk [] TRT_ok hnt fun K hK => ?_; refine hK _ _ ?_; clear hK K; refine dw_block ?_
  refine dw_loop (ι := { j : Nat // j ≤ vs.length }) (fun j => [(.t 0, .sl 2 (eTys binds) none), (.t 1, .sl 1 (eIs vs) none), (.t 5, .sl 2 (eTys (Pn.types binds (vs.take j.1))) (some 3)), (.r 3, .rw 146 2 j.1), (.t 6, .v (.int .i64 ↑j.1))]) 4 (fun j => vs.length - j.1) (⟨0, Nat.zero_le _⟩) ((VS.trans (VS.rowT (x := 5) (by rw [hnt]; decide) 146 2 rfl) (VS.toK (by omega) (by repeat first | exact trivial | refine And.intro (And.intro (by first | rfl | simp [D.ok, D.oks, D.okss, D.okm, upto, keyOk, argsT]) (by first | exact Or.inl rfl | exact Or.inr ⟨_, rfl, (by repeat first | exact VLe.refl _ | exact VLe.nil _ | exact VLe.untag _ _ _ | refine VLe.ag ?_ | refine VLe.tu ?_ | refine VLeL.cons ?_ ?_ | exact VLeL.nil), trivial⟩ | simp [get, Key.eq, argsT])) ?_)))) fun j => ?_
  obtain ⟨j, hj⟩ := j
  dsimp only
  by_cases hlt : j < vs.length
  ·obtain ⟨h0, h1⟩ := hv _ (List.getElem_mem hlt)
   have hk : ((binds.length : Int) - 1 - vs[j]).toNat < binds.length := by omega
   have hx : Pn.types binds (vs.take (j + 1)) = Pn.types binds (vs.take j) ++ [binds[((binds.length : Int) - 1 - vs[j]).toNat]] := by
    rw [List.take_add_one, List.getElem?_eq_getElem hlt]
    unfold Pn.types
    rw [List.map_append]
    simp [List.getD_eq_getElem?_getD, List.getElem?_eq_getElem hk]
   have hq := eTys_getD binds _ hk
   obtain ⟨b, hbq⟩ : ∃ b, binds[((binds.length : Int) - 1 - vs[j]).toNat] = b := ⟨_, rfl⟩
   rw [hbq] at hx hq
   have hlq : (eTys (Pn.types binds (vs.take j))).length = j := by rw [eTys_len]; unfold Pn.types; rw [List.length_map, List.length_take]; omega
   refine dw_seq ?_; refine dw_seq ?_; refine dwk [(9, .v (.int .i64 (↑vs.length))), (10, .v (.bool true))] TRT_ok hnt fun K hK => ?_; refine And.intro (dintE (by rw [eIs_len])) ?_; refine And.intro auT ?_; refine hK _ _ ?_; clear hK K; refine dw_cond (t := true) rfl ?_; rw [if_pos rfl]; refine dw_skip ?_; refine dw_seq ?_; refine dw_block ?_; refine dwk [(16, .v (.int .i64 (↑binds.length))), (17, .v (.int .i64 (↑binds.length - 1))), (20, .q [.v (.int .i64 (vs[j]))]), (22, .v (.int .i64 (↑binds.length - 1 - vs[j]))), (23, .q [.sl 2 (eTys b.args) none, .v (.int .i64 b.base)]), (26, .sl 2 (eTys (Pn.types binds (vs.take (j + 1)))) (some 3))] TRT_ok hnt fun K hK => ?_
   refine And.intro (dintE (by rw [eTys_len])) ?_; refine And.intro auI ?_; refine And.intro (elo (eIs_len vs)) ?_; refine And.intro (elv (eIs_getD vs j) rfl) ?_; refine And.intro auI ?_; refine And.intro (⟨by omega, by rw [eTys_len]; omega⟩) ?_; refine And.intro (VLe.of_eq (by rw [hq, eTy_eq])) ?_; refine And.intro (⟨by rw [hlq], by rw [hlq]; simp; omega⟩) ?_; refine And.intro (VLe.of_eq (by rw [hx, eTys_append, eTys, eTys, eTy_eq])) ?_
   refine hK _ _ ?_; clear hK K; refine dwk [(12, .v (.int .i64 (↑(j + 1))))] TRT_ok hnt fun K hK => ?_; refine And.intro auI ?_; refine hK _ _ ?_; clear hK K
   refine ⟨⟨j + 1, by omega⟩, by first | omega | (dsimp only; omega), (by try simp only [List.length_append, List.length_take, List.length_cons, List.length_nil, Nat.zero_add, hlq]; exact VS.toA)⟩
  ·rw [List.take_of_length_le (by omega)]
   refine dw_seq ?_; refine dw_seq ?_; refine dwk [(9, .v (.int .i64 (↑vs.length))), (10, .v (.bool false))] TRT_ok hnt fun K hK => ?_; refine And.intro (dintE (by rw [eIs_len])) ?_; refine And.intro auF ?_; refine hK _ _ ?_; clear hK K; refine dw_cond (t := false) rfl ?_; rw [if_neg (by simp)]; refine dw_exit ?_; refine dw_seq ?_; refine dwk [] TRT_ok hnt fun K hK => ?_; refine hK _ _ ?_; clear hK K
   refine dw_ret ?_
   exact reta rfl

namespace Pn
theorem mayL_nodup (n : Int) : ∀ (l acc : List Int), mayL n l acc = true → acc.Nodup → (acc ++ l).Nodup
  | [], acc, _, hn => by simpa using hn
  | v :: l, acc, h, hn => by
    simp only [mayL, Bool.and_eq_true, Bool.not_eq_true', decide_eq_true_eq] at h
    have h2 := mayL_nodup n l (acc ++ [v]) h.2.2.2 (by
      refine List.nodup_append.2 ⟨hn, by simp, ?_⟩
      intro a ha b hb e
      rw [List.mem_singleton] at hb
      subst hb; subst e
      have := h.2.2.1
      rw [← List.contains_iff_mem] at ha
      rw [ha] at this; cases this)
    rw [List.append_assoc] at h2; exact h2
theorem ix_get {x : Int} : ∀ {l : List Int} {k : Nat}, ix x l = some k → l[k]? = some x
  | v :: l, k, h => by
    rw [ix] at h
    split at h
    · rename_i e; cases h; simp [e]
    · cases hx : ix x l with
      | none => rw [hx] at h; cases h
      | some j => rw [hx] at h; cases h; simpa using ix_get hx
theorem nodup_get {l : List Int} (h : l.Nodup) {i j : Nat} {x : Int} (hi : l[i]? = some x) (hj : l[j]? = some x) : i = j := by
  have key : ∀ (i j : Nat), l[i]? = some x → l[j]? = some x → ¬ i < j := fun i j hi hj hij => by
    obtain ⟨hi1, hi2⟩ := List.getElem?_eq_some_iff.1 hi
    obtain ⟨hj1, hj2⟩ := List.getElem?_eq_some_iff.1 hj
    exact (List.pairwise_iff_getElem.1 h) i j hi1 hj1 hij (by rw [hi2, hj2])
  have h1 := key i j hi hj
  have h2 := key j i hj hi
  omega
theorem tkBs_take (n : Int) (vs : List Int) (ins : Int) (a : List Tm) (j : Nat) (hj : j < a.length) (h : tkBs n vs (a.take j) ins = true) : tkBs n vs (a.take (j + 1)) ins = tkB n vs a[j] ins := by
  rw [tkBs_all] at h ⊢
  rw [List.take_add_one, List.getElem?_eq_getElem hj, List.all_append, h, Option.toList_some]
  simp
theorem tkBs_stop (n : Int) (vs : List Int) (ins : Int) (a : List Tm) (j : Nat) (h : tkBs n vs (a.take j) ins = false) : tkBs n vs a ins = false := by
  rw [tkBs_all] at h ⊢
  rw [← List.take_append_drop j a, List.all_append, h]; rfl
end Pn
def tkV (r : Tm) (b : Bool) : D := .tu [.ag (eTm (if b then r else Tm.zero)), .v (.bool b)]
set_option maxHeartbeats 4000000 in
theorem rtaken_d (n : Int) (vs : List Int) (hn : 0 ≤ n ∧ n ≤ 100000) (hl : vs.length ≤ 10000) (hnd : vs.Nodup) : ∀ (t : Tm) (ins : Int), 0 ≤ ins → ins + t.full ≤ 100000 → lowB t = true → t.full ≤ 100000 →
  PureC Try.prog 123 [.ag (eTm t), .v (.int .i64 ins), .v (.int .i64 n), .sl 1 (eIs vs) none] (tkV (Pn.tk n vs t ins) (Pn.tkB n vs t ins)) := by
 intro t
 induction t using Tm.ind with
 | h bs k i a ih =>
 intro ins h0 h1 hlow hz
 rw [Tm.full_eq] at h1 hz
 rw [lowB_eq] at hlow
 simp only [Bool.and_eq_true, Bool.not_eq_true', kind_mk', index_mk', args_mkT] at hlow
 have hbl : bs.length ≤ Ty.sizes bs := Ty.le_sizes bs
 have hal := fulls_len a
 obtain ⟨m, hm⟩ : ∃ m : Int, ins + (bs.length : Nat) = m := ⟨_, rfl⟩
 obtain ⟨i', hi'⟩ : ∃ i', (if k = 0 ∧ m ≤ i then m + Pn.go n vs (i - m) else i) = i' := ⟨_, rfl⟩
 have hL : Pn.tk n vs (.mk bs k i a) ins = .mk bs k i' (Pn.tks n vs a m) := by rw [Pn.tk_eq, hm, hi']
 have hha := rhas_d vs (i - m) (by omega)
 unfold tkV
 rw [hL, Pn.tkB, hm, eTm_eq]
 simp only [binds_mk', kind_mk', index_mk', args_mkT]
 by_cases hbad : k = 0 ∧ m ≤ i ∧ i - m < n ∧ Pn.ix (i - m) vs = none
 ·obtain ⟨b1, b2, b3, b4⟩ := hbad
  rw [show (!(decide (k = 0) && decide (m ≤ i) && (decide (i - m < n) && (Pn.ix (i - m) vs).isNone))) = false by rw [b4]; simp [b1, b2, b3], Bool.false_and, if_neg (by simp), eTm_eq]
  rw [ix_none.1 b4] at hha
  have hix : i ≤ 900000 := by
   by_cases h9 : 900000 < i
   ·exact absurd hlow.1 (by simp [b1, h9])
   ·omega
  refine calldw 0 111 [ResultVar.cell 8 27, ResultVar.tmp 9] TRT_ok Try.func123 rfl Try.ntmps123 rfl fun cx hnt hn0 => ?_
  ·skip
   refine dw_seq ?_; refine dwk [] TRT_ok hnt fun K hK => ?_; refine hK _ _ ?_; clear hK K; refine dw_seq ?_; refine dwk [(20, .v (.int .i64 (↑bs.length))), (21, .v (.int .i64 (m)))] TRT_ok hnt fun K hK => ?_; refine And.intro (dintE (by rw [eTys_len])) ?_; refine And.intro auI ?_; refine hK _ _ ?_; clear hK K; refine dw_seq ?_; refine dwk [] TRT_ok hnt fun K hK => ?_; refine hK _ _ ?_; clear hK K; refine dw_seq ?_
   refine dw_seq ?_; refine dwk [(30, .v (.bool true)), (36, .v (.bool true))] TRT_ok hnt fun K hK => ?_; refine And.intro (beqT b1) ?_; refine And.intro auT ?_; refine hK _ _ ?_; clear hK K; refine dw_cond (t := true) rfl ?_; rw [if_pos rfl]; refine dw_seq ?_; refine dwk [(42, .v (.int .i64 (i - m)))] TRT_ok hnt fun K hK => ?_; refine And.intro auI ?_; refine hK _ _ ?_; clear hK K; refine dw_seq ?_; refine dwk [(45, .v (.bool false))] TRT_ok hnt fun K hK => ?_
   refine And.intro auF ?_; refine hK _ _ ?_; clear hK K; refine dw_cond (t := false) rfl ?_; rw [if_neg (by simp)]; refine dw_seq ?_; refine dw_seq ?_; refine dwk [] TRT_ok hnt fun K hK => ?_; refine dcl (hha) ?_; refine hK _ _ ?_; clear hK K; refine dw_cond (t := true) rfl ?_; rw [if_pos rfl]; refine dw_seq ?_; refine dwk [] TRT_ok hnt fun K hK => ?_; refine hK _ _ ?_; clear hK K; refine dw_ret ?_
   exact reta rfl
 ·have hfirst : (!(decide (k = 0) && decide (m ≤ i) && (decide (i - m < n) && (Pn.ix (i - m) vs).isNone))) = true := by
   by_cases b1 : k = 0
   ·by_cases b2 : m ≤ i
    ·by_cases b3 : i - m < n
     ·cases b4 : Pn.ix (i - m) vs with
      | none => exact absurd ⟨b1, b2, b3, b4⟩ hbad
      | some x => simp
     ·simp [b3]
    ·simp [b2]
   ·simp [b1]
  rw [hfirst, Bool.true_and]
  refine calldw 0 111 [ResultVar.cell 8 27, ResultVar.tmp 9] TRT_ok Try.func123 rfl Try.ntmps123 rfl fun cx hnt hn0 => ?_
  ·skip
   refine dw_seq ?_; refine dwk [] TRT_ok hnt fun K hK => ?_; refine hK _ _ ?_; clear hK K; refine dw_seq ?_; refine dwk [(20, .v (.int .i64 (↑bs.length))), (21, .v (.int .i64 (m)))] TRT_ok hnt fun K hK => ?_; refine And.intro (dintE (by rw [eTys_len])) ?_; refine And.intro auI ?_; refine hK _ _ ?_; clear hK K; refine dw_seq ?_; refine dwk [] TRT_ok hnt fun K hK => ?_; refine hK _ _ ?_; clear hK K
   refine dw_cut (τ := [(.t 2, .v (.int .i64 n)), (.t 3, .sl 1 (eIs vs) none), (.t 4, .p 0 0), (.t 8, .p 1 0), (.t 10, .v (.int .i64 m)), (.t 11, .p 14 0), (.c 0 3, .sl 4 (eTms a) none), (.c 1 0, .v (.slice none 0 0)), (.c 1 1, .v (.int .i64 0)), (.c 1 2, .v (.int .i64 0)), (.c 1 3, .v (.slice none 0 0)), (.c 14 0, .sl 2 (eTys bs) none), (.c 14 1, .v (.int .i64 k)), (.c 14 2, .v (.int .i64 i')), (.c 14 3, .v (.slice none 0 0))]) (N1 := 15) ?_ ?_
   ·by_cases b1 : k = 0
    ·by_cases b2 : m ≤ i
     ·rw [if_pos ⟨b1, b2⟩] at hi'
      have hix : i ≤ 900000 := by
       by_cases h9 : 900000 < i
       ·exact absurd hlow.1 (by simp [b1, h9])
       ·omega
      by_cases b3 : n ≤ i - m
      ·have hg : Pn.go n vs (i - m) = i - m - n + vs.length := if_pos b3
       rw [hg] at hi'
       refine dw_seq ?_; refine dwk [(30, .v (.bool true)), (36, .v (.bool true))] TRT_ok hnt fun K hK => ?_; refine And.intro (beqT b1) ?_; refine And.intro auT ?_; refine hK _ _ ?_; clear hK K; refine dw_cond (t := true) rfl ?_; rw [if_pos rfl]; refine dw_seq ?_; refine dwk [(42, .v (.int .i64 (i - m)))] TRT_ok hnt fun K hK => ?_; refine And.intro auI ?_; refine hK _ _ ?_; clear hK K; refine dw_seq ?_; refine dwk [(45, .v (.bool true))] TRT_ok hnt fun K hK => ?_
       refine And.intro auT ?_; refine hK _ _ ?_; clear hK K; refine dw_cond (t := true) rfl ?_; rw [if_pos rfl]; refine dwk [(50, .v (.int .i64 (i - n))), (52, .v (.int .i64 (↑vs.length))), (53, .v (.int .i64 (i')))] TRT_ok hnt fun K hK => ?_; refine And.intro auI ?_; refine And.intro (dintE (by rw [eIs_len])) ?_; refine And.intro (dintE (by rw [IntWalk.i64_in _ (by omega)]; omega)) ?_; refine hK _ _ ?_; clear hK K
       exact cut_ok VS.toA
      ·cases b4 : Pn.ix (i - m) vs with
       | none => exact absurd ⟨b1, b2, by omega, b4⟩ hbad
       | some x =>
        have hg : Pn.go n vs (i - m) = (vs.length : Int) - 1 - (x : Int) := by unfold Pn.go; rw [if_neg b3, b4]
        rw [hg] at hi'
        have hxl := ix_lt b4
        have hxg := Pn.ix_get b4
        have hc : vs.contains (i - m) = true := by
         cases hc : vs.contains (i - m) with
         | true => rfl
         | false => rw [ix_none.2 hc] at b4; cases b4
        rw [hc] at hha
        refine dw_seq ?_; refine dwk [(30, .v (.bool true)), (36, .v (.bool true))] TRT_ok hnt fun K hK => ?_; refine And.intro (beqT b1) ?_; refine And.intro auT ?_; refine hK _ _ ?_; clear hK K; refine dw_cond (t := true) rfl ?_; rw [if_pos rfl]; refine dw_seq ?_; refine dwk [(42, .v (.int .i64 (i - m)))] TRT_ok hnt fun K hK => ?_; refine And.intro auI ?_; refine hK _ _ ?_; clear hK K; refine dw_seq ?_; refine dwk [(45, .v (.bool false))] TRT_ok hnt fun K hK => ?_
        refine And.intro auF ?_; refine hK _ _ ?_; clear hK K; refine dw_cond (t := false) rfl ?_; rw [if_neg (by simp)]; refine dw_seq ?_; refine dw_seq ?_; refine dwk [] TRT_ok hnt fun K hK => ?_; refine dcl (hha) ?_; refine hK _ _ ?_; clear hK K; refine dw_cond (t := false) rfl ?_; rw [if_neg (by simp)]; refine dw_skip ?_; refine dw_seq ?_; refine dwk [] TRT_ok hnt fun K hK => ?_; refine hK _ _ ?_; clear hK K
        refine dw_block ?_
        refine dw_loop (ι := { q : Nat × Int // q.1 ≤ vs.length ∧ q.2 = if x < q.1 then i' else i }) (fun q => [(.t 2, .v (.int .i64 n)), (.t 3, .sl 1 (eIs vs) none), (.t 4, .p 0 0), (.t 8, .p 1 0), (.t 10, .v (.int .i64 m)), (.t 11, .p 14 0), (.t 12, .v (.int .i64 (i - m))), (.t 13, .v (.int .i64 ↑q.1.1)), (.c 0 3, .sl 4 (eTms a) none), (.c 1 0, .v (.slice none 0 0)), (.c 1 1, .v (.int .i64 0)), (.c 1 2, .v (.int .i64 0)), (.c 1 3, .v (.slice none 0 0)), (.c 14 0, .sl 2 (eTys bs) none), (.c 14 1, .v (.int .i64 k)), (.c 14 2, .v (.int .i64 q.1.2)), (.c 14 3, .v (.slice none 0 0))]) 15 (fun q => vs.length - q.1.1) (⟨(0, i), Nat.zero_le _, rfl⟩) (VS.toA) fun q => ?_
        obtain ⟨⟨j, y⟩, hj, hy⟩ := q
        dsimp only at hj hy ⊢
        by_cases hlt : j < vs.length
        ·have hvj : vs[j]? = some vs[j] := List.getElem?_eq_getElem hlt
         by_cases he : vs[j] = i - m
         ·have hjx : j = x := Pn.nodup_get hnd (by rw [hvj, he]) hxg
          subst hjx
          refine dw_seq ?_; refine dw_seq ?_; refine dwk [(63, .v (.int .i64 (↑vs.length))), (64, .v (.bool true))] TRT_ok hnt fun K hK => ?_; refine And.intro (dintE (by rw [eIs_len])) ?_; refine And.intro auT ?_; refine hK _ _ ?_; clear hK K; refine dw_cond (t := true) rfl ?_; rw [if_pos rfl]; refine dw_skip ?_; refine dw_seq ?_; refine dw_block ?_; refine dw_seq ?_; refine dwk [(69, .q [.v (.int .i64 (vs[j]))]), (72, .v (.bool true))] TRT_ok hnt fun K hK => ?_
          refine And.intro (elo (eIs_len vs)) ?_; refine And.intro (elv (eIs_getD vs j) rfl) ?_; refine And.intro (beqT he) ?_; refine hK _ _ ?_; clear hK K; refine dw_cond (t := true) rfl ?_; rw [if_pos rfl]; refine dwk [(75, .v (.int .i64 (↑vs.length))), (76, .v (.int .i64 (m + ↑vs.length))), (77, .v (.int .i64 (m + ↑vs.length - 1))), (79, .v (.int .i64 (i')))] TRT_ok hnt fun K hK => ?_; refine And.intro (dintE (by rw [eIs_len])) ?_
          refine And.intro auI ?_; refine And.intro auI ?_; refine And.intro auI ?_; refine hK _ _ ?_; clear hK K; refine dwk [(66, .v (.int .i64 (↑(j + 1))))] TRT_ok hnt fun K hK => ?_; refine And.intro auI ?_; refine hK _ _ ?_; clear hK K
          refine ⟨⟨(j + 1, i'), hlt, (if_pos (Nat.lt_succ_self j)).symm⟩, by first | omega | (dsimp only; omega), VS.toA⟩
         ·have hjx : j ≠ x := fun e => by subst e; rw [hvj] at hxg; exact he (Option.some.inj hxg)
          refine dw_seq ?_; refine dw_seq ?_; refine dwk [(63, .v (.int .i64 (↑vs.length))), (64, .v (.bool true))] TRT_ok hnt fun K hK => ?_; refine And.intro (dintE (by rw [eIs_len])) ?_; refine And.intro auT ?_; refine hK _ _ ?_; clear hK K; refine dw_cond (t := true) rfl ?_; rw [if_pos rfl]; refine dw_skip ?_; refine dw_seq ?_; refine dw_block ?_; refine dw_seq ?_; refine dwk [(69, .q [.v (.int .i64 (vs[j]))]), (72, .v (.bool false))] TRT_ok hnt fun K hK => ?_
          refine And.intro (elo (eIs_len vs)) ?_; refine And.intro (elv (eIs_getD vs j) rfl) ?_; refine And.intro (beqF he) ?_; refine hK _ _ ?_; clear hK K; refine dw_cond (t := false) rfl ?_; rw [if_neg (by simp)]; refine dw_skip ?_; refine dwk [(66, .v (.int .i64 (↑(j + 1))))] TRT_ok hnt fun K hK => ?_; refine And.intro auI ?_; refine hK _ _ ?_; clear hK K
          have hif : (if x < j + 1 then i' else i) = (if x < j then i' else i) := by
           by_cases h : x < j
           ·rw [if_pos h, if_pos (by omega)]
           ·rw [if_neg h, if_neg (by omega)]
          refine ⟨⟨(j + 1, y), hlt, by rw [hif]; exact hy⟩, by first | omega | (dsimp only; omega), VS.toA⟩
        ·rw [if_pos (by omega)] at hy
         subst hy
         refine dw_seq ?_; refine dw_seq ?_; refine dwk [(63, .v (.int .i64 (↑vs.length))), (64, .v (.bool false))] TRT_ok hnt fun K hK => ?_; refine And.intro (dintE (by rw [eIs_len])) ?_; refine And.intro auF ?_; refine hK _ _ ?_; clear hK K; refine dw_cond (t := false) rfl ?_; rw [if_neg (by simp)]; refine dw_exit ?_
         exact cut_ok VS.toA
     ·rw [if_neg (fun h => b2 h.2)] at hi'
      subst hi'
      refine dw_seq ?_; refine dwk [(30, .v (.bool true)), (36, .v (.bool false))] TRT_ok hnt fun K hK => ?_; refine And.intro (beqT b1) ?_; refine And.intro auF ?_; refine hK _ _ ?_; clear hK K; refine dw_cond (t := false) rfl ?_; rw [if_neg (by simp)]; refine dw_skip ?_
      exact cut_ok VS.toA
    ·rw [if_neg (fun h => b1 h.1)] at hi'
     subst hi'
     refine dw_seq ?_; refine dwk [(30, .v (.bool false))] TRT_ok hnt fun K hK => ?_; refine And.intro (beqF b1) ?_; refine hK _ _ ?_; clear hK K; refine dw_cond (t := false) rfl ?_; rw [if_neg (by simp)]; refine dw_skip ?_
     exact cut_ok VS.toA
   ·skip
    refine dw_seq ?_; refine dw_seq ?_; refine dwk [] TRT_ok hnt fun K hK => ?_; refine hK _ _ ?_; clear hK K
    refine DW.vs (VS.row (k := 14) (off := 3) 27 4 rfl) ?_
    refine dw_block ?_
    refine dw_loop (ι := { j : Nat // Pn.tkBs n vs (a.take j) m = true ∧ j ≤ a.length }) (fun j => [(.t 2, .v (.int .i64 n)), (.t 3, .sl 1 (eIs vs) none), (.t 4, .p 0 0), (.t 8, .p 1 0), (.t 10, .v (.int .i64 m)), (.t 11, .p 14 0), (.t 14, .v (.int .i64 ↑j.1)), (.c 0 3, .sl 4 (eTms a) none), (.c 1 0, .v (.slice none 0 0)), (.c 1 1, .v (.int .i64 0)), (.c 1 2, .v (.int .i64 0)), (.c 1 3, .v (.slice none 0 0)), (.c 14 0, .sl 2 (eTys bs) none), (.c 14 1, .v (.int .i64 k)), (.c 14 2, .v (.int .i64 i')), (.c 14 3, .sl 4 (eTms (Pn.tks n vs (a.take j.1) m)) (some 16)), (.r 16, .rw 27 4 j.1)]) 17 (fun j => a.length - j.1) (⟨0, rfl, Nat.zero_le _⟩) ((VS.toK (by omega) (by repeat first | exact trivial | refine And.intro (And.intro (by first | rfl | simp [D.ok, D.oks, D.okss, D.okm, upto, keyOk, Pn.tks, eTms]) (by first | exact Or.inl rfl | exact Or.inr ⟨_, rfl, (by repeat first | exact VLe.refl _ | exact VLe.nil _ | exact VLe.untag _ _ _ | refine VLe.ag ?_ | refine VLe.tu ?_ | refine VLeL.cons ?_ ?_ | exact VLeL.nil), trivial⟩ | simp [get, Key.eq, Pn.tks, eTms])) ?_))) fun j => ?_
    obtain ⟨j, hj, hjl⟩ := j
    dsimp only
    by_cases hlt : j < a.length
    ·have hmem := List.getElem_mem hlt
     have hfm := full_mem hmem
     have hih := ih a[j] hmem m (by omega) (by omega) (by have := hlow.2; rw [lowsB_all, List.all_eq_true] at this; exact this _ hmem) (by omega)
     have hst := Pn.tkBs_take n vs m a j hlt hj
     have hta : Pn.tks n vs (a.take (j + 1)) m = Pn.tks n vs (a.take j) m ++ [Pn.tk n vs a[j] m] := by
      rw [Pn.tks_map, Pn.tks_map, List.take_add_one, List.getElem?_eq_getElem hlt, Option.toList_some, List.map_append]; rfl
     have hlq : (eTms (Pn.tks n vs (a.take j) m)).length = j := by rw [eTms_len, Pn.tks_map, List.length_map, List.length_take]; omega
     cases hb : Pn.tkB n vs a[j] m with
     | true =>
      rw [hb] at hih hst
      unfold tkV at hih
      rw [if_pos rfl, eTm_eq, eTm_eq] at hih; refine dw_seq ?_; refine dw_seq ?_; refine dwk [(85, .v (.int .i64 (↑a.length))), (86, .v (.bool true))] TRT_ok hnt fun K hK => ?_; refine And.intro (dintE (by rw [eTms_len])) ?_; refine And.intro auT ?_; refine hK _ _ ?_; clear hK K; refine dw_cond (t := true) rfl ?_; rw [if_pos rfl]; refine dw_skip ?_; refine dw_seq ?_; refine dw_block ?_; refine dw_seq ?_
      refine dwk [(93, .q [.sl 2 (eTys a[j].binds) none, .v (.int .i64 a[j].kind), .v (.int .i64 a[j].index), .sl 4 (eTms a[j].args) none])] TRT_ok hnt fun K hK => ?_; refine And.intro (elo (eTms_len a)) ?_; refine And.intro (elv (eTms_getD a j) (eTm_eq _)) ?_; refine dcl (hih) ?_; refine hK _ _ ?_; clear hK K; refine dw_seq ?_; refine dw_seq ?_; refine dwk [] TRT_ok hnt fun K hK => ?_; refine hK _ _ ?_; clear hK K
      refine dw_cond (t := false) rfl ?_; rw [if_neg (by simp)]; refine dw_skip ?_; refine dwk [(108, .sl 4 (eTms (Pn.tks n vs (a.take (j + 1)) m)) (some 16))] TRT_ok hnt fun K hK => ?_; refine And.intro (⟨by rw [hlq], by rw [hlq]; simp; omega⟩) ?_; refine And.intro (VLe.of_eq (by rw [hta, eTms_append, eTms, eTms, eTm_eq (Pn.tk n vs a[j] m)])) ?_; refine hK _ _ ?_; clear hK K; refine dwk [(88, .v (.int .i64 (↑(j + 1))))] TRT_ok hnt fun K hK => ?_
      refine And.intro auI ?_; refine hK _ _ ?_; clear hK K
      refine ⟨⟨j + 1, hst, hlt⟩, by first | omega | (dsimp only; omega), (by try simp only [List.length_append, List.length_take, List.length_cons, List.length_nil, Nat.zero_add, hlq]; exact VS.toA)⟩
     | false =>
      rw [hb] at hih hst
      rw [Pn.tkBs_stop n vs m a (j + 1) hst, if_neg (by simp), eTm_eq]
      unfold tkV at hih
      rw [if_neg (by simp), eTm_eq, eTm_eq] at hih; refine dw_seq ?_; refine dw_seq ?_; refine dwk [(85, .v (.int .i64 (↑a.length))), (86, .v (.bool true))] TRT_ok hnt fun K hK => ?_; refine And.intro (dintE (by rw [eTms_len])) ?_; refine And.intro auT ?_; refine hK _ _ ?_; clear hK K; refine dw_cond (t := true) rfl ?_; rw [if_pos rfl]; refine dw_skip ?_; refine dw_seq ?_; refine dw_block ?_; refine dw_seq ?_
      refine dwk [(93, .q [.sl 2 (eTys a[j].binds) none, .v (.int .i64 a[j].kind), .v (.int .i64 a[j].index), .sl 4 (eTms a[j].args) none])] TRT_ok hnt fun K hK => ?_; refine And.intro (elo (eTms_len a)) ?_; refine And.intro (elv (eTms_getD a j) (eTm_eq _)) ?_; refine dcl (hih) ?_; refine hK _ _ ?_; clear hK K; refine dw_seq ?_; refine dw_seq ?_; refine dwk [] TRT_ok hnt fun K hK => ?_; refine hK _ _ ?_; clear hK K
      refine dw_cond (t := true) rfl ?_; rw [if_pos rfl]; refine dw_seq ?_; refine dwk [] TRT_ok hnt fun K hK => ?_; refine hK _ _ ?_; clear hK K; refine dw_ret ?_
      exact reta rfl
    ·rw [List.take_of_length_le (by omega)] at hj ⊢
     rw [hj, if_pos rfl, eTm_eq]
     refine dw_seq ?_; refine dw_seq ?_; refine dwk [(85, .v (.int .i64 (↑a.length))), (86, .v (.bool false))] TRT_ok hnt fun K hK => ?_; refine And.intro (dintE (by rw [eTms_len])) ?_; refine And.intro auF ?_; refine hK _ _ ?_; clear hK K; refine dw_cond (t := false) rfl ?_; rw [if_neg (by simp)]; refine dw_exit ?_; refine dw_seq ?_; refine dwk [] TRT_ok hnt fun K hK => ?_; refine hK _ _ ?_; clear hK K
     refine dw_ret ?_
     exact reta rfl
set_option maxHeartbeats 2000000 in
theorem rtake_d (t : Tm) (binds : List Ty) (vs : List Int) (hb : binds.length ≤ 10000) (hl : vs.length ≤ 10000) (hz : t.full ≤ 80000) (hlow : lowB t = true) :
  PureC Try.prog 76 [.ag (eTm t), .sl 2 (eTys binds) none, .sl 1 (eIs vs) none] (.tu [.ag (eTm (Pn.take t binds vs).1), .v (.int .i64 (Pn.take t binds vs).2)]) := by
 have hM := rmay_d binds.length vs (by omega)
 unfold Pn.take
 cases hm : Pn.mayV binds.length vs with
 | false =>
  rw [hm] at hM
  rw [if_neg (by simp), eTm_eq, eTm_eq]
  refine calldw 0 35 [ResultVar.cell 6 27, ResultVar.tmp 7] TRT_ok Try.func76 rfl Try.ntmps76 rfl fun cx hnt hn0 => ?_
  ·skip
   refine dw_seq ?_; refine dwk [] TRT_ok hnt fun K hK => ?_; refine hK _ _ ?_; clear hK K; refine dw_seq ?_; refine dw_seq ?_; refine dwk [(11, .v (.int .i64 (↑binds.length)))] TRT_ok hnt fun K hK => ?_; refine And.intro (dintE (by rw [eTys_len])) ?_; refine dcl (hM) ?_; refine hK _ _ ?_; clear hK K; refine dw_cond (t := true) rfl ?_; rw [if_pos rfl]; refine dw_seq ?_; refine dwk [] TRT_ok hnt fun K hK => ?_
   refine hK _ _ ?_; clear hK K; refine dw_ret ?_
   exact reta rfl
 | true =>
  rw [hm] at hM
  rw [if_pos rfl]
  have hnd : vs.Nodup := by have := Pn.mayL_nodup _ vs [] hm List.nodup_nil; simpa using this
  have hk := rtaken_d binds.length vs ⟨by omega, by omega⟩ hl hnd t 0 (by omega) (by omega) hlow (by omega)
  have hT := rtypes_d binds vs (by omega) (by omega) (Pn.mayL_mem _ vs [] hm)
  have htl : (Pn.types binds vs).length = vs.length := by unfold Pn.types; rw [List.length_map]
  have hbl := Ty.le_sizes t.binds
  have hft := full_args t
  have hB := rbehind_d (Pn.types binds vs) t.binds (by omega)
  unfold tkV at hk
  cases hb2 : Pn.tkB binds.length vs t 0 with
  | false =>
   rw [hb2, if_neg (by simp), eTm_eq, eTm_eq] at hk
   rw [if_neg (by simp), eTm_eq, eTm_eq]
   refine calldw 0 35 [ResultVar.cell 6 27, ResultVar.tmp 7] TRT_ok Try.func76 rfl Try.ntmps76 rfl fun cx hnt hn0 => ?_
   ·skip
    refine dw_seq ?_; refine dwk [] TRT_ok hnt fun K hK => ?_; refine hK _ _ ?_; clear hK K; refine dw_seq ?_; refine dw_seq ?_; refine dwk [(11, .v (.int .i64 (↑binds.length)))] TRT_ok hnt fun K hK => ?_; refine And.intro (dintE (by rw [eTys_len])) ?_; refine dcl (hM) ?_; refine hK _ _ ?_; clear hK K; refine dw_cond (t := false) rfl ?_; rw [if_neg (by simp)]; refine dw_skip ?_; refine dw_seq ?_; refine dwk [(19, .v (.int .i64 (↑binds.length)))] TRT_ok hnt fun K hK => ?_
    refine And.intro (dintE (by rw [eTys_len])) ?_; refine dcl (hk) ?_; refine hK _ _ ?_; clear hK K; refine dw_seq ?_; refine dw_seq ?_; refine dwk [] TRT_ok hnt fun K hK => ?_; refine hK _ _ ?_; clear hK K; refine dw_cond (t := true) rfl ?_; rw [if_pos rfl]; refine dw_seq ?_; refine dwk [] TRT_ok hnt fun K hK => ?_; refine hK _ _ ?_; clear hK K; refine dw_ret ?_
    exact reta rfl
  | true =>
   rw [hb2, if_pos rfl, eTm_eq, eTm_eq] at hk
   rw [if_pos rfl, eTm_eq, eTm_eq]
   simp only [binds_mk', kind_mk', index_mk', args_mkT]
   refine calldw 0 35 [ResultVar.cell 6 27, ResultVar.tmp 7] TRT_ok Try.func76 rfl Try.ntmps76 rfl fun cx hnt hn0 => ?_
   ·skip
    refine dw_seq ?_; refine dwk [] TRT_ok hnt fun K hK => ?_; refine hK _ _ ?_; clear hK K; refine dw_seq ?_; refine dw_seq ?_; refine dwk [(11, .v (.int .i64 (↑binds.length)))] TRT_ok hnt fun K hK => ?_; refine And.intro (dintE (by rw [eTys_len])) ?_; refine dcl (hM) ?_; refine hK _ _ ?_; clear hK K; refine dw_cond (t := false) rfl ?_; rw [if_neg (by simp)]; refine dw_skip ?_; refine dw_seq ?_; refine dwk [(19, .v (.int .i64 (↑binds.length)))] TRT_ok hnt fun K hK => ?_
    refine And.intro (dintE (by rw [eTys_len])) ?_; refine dcl (hk) ?_; refine hK _ _ ?_; clear hK K; refine dw_seq ?_; refine dw_seq ?_; refine dwk [] TRT_ok hnt fun K hK => ?_; refine hK _ _ ?_; clear hK K; refine dw_cond (t := false) rfl ?_; rw [if_neg (by simp)]; refine dw_skip ?_; refine dw_seq ?_; refine dwkD [] TRT_ok hnt fun K hK => ?_; refine dcl (hT) ?_; refine dcl (hB) ?_; refine hK _ _ (by kernel_rfl) ?_; clear hK K
    refine dw_seq ?_; refine dwk [] TRT_ok hnt fun K hK => ?_; refine hK _ _ ?_; clear hK K; refine dw_ret ?_
    exact reta rfl
end Go.Proofs.Ytdmiekaeodcehaa

namespace Go.Proofs.Ytdmiekaeodcehaa
open Go.RowKit

end Go.Proofs.Ytdmiekaeodcehaa

namespace Go.Proofs.Ytdmiekaeodcehaa
open Go.RowKit
end Go.Proofs.Ytdmiekaeodcehaa

namespace Go.Proofs.Ytdmiekaeodcehaa
open Go.RowKit

def getP (l : List (Int × Tm)) (m : Int) : Option (Int × Tm) := (idxOf m l).bind fun i => l[i]?
def getT (l : List (Int × Tm)) (m : Int) : Tm × Bool := match getP l m with
  | some p => (p.2, true)
  | none => (.mk [] 0 0 [], false)
end Go.Proofs.Ytdmiekaeodcehaa

namespace Go.Proofs.Ytdmiekaeodcehaa
open Go.RowKit
def TSR_56 : TI := ⟨1, false, [Value.slice none 0 0], [], some 95, 24, 5, none, false⟩
theorem TSR_56_ok : TypOk Try.prog 56 TSR_56 := ⟨by kernel_rfl, by kernel_rfl, by kernel_rfl, by kernel_rfl, by kernel_rfl⟩
def TSR_3 : TI := ⟨1, false, [Value.int IntKind.i64 0], [], none, 8, 2, none, false⟩
theorem TSR_3_ok : TypOk Try.prog 3 TSR_3 := ⟨by kernel_rfl, by kernel_rfl, by kernel_rfl, by kernel_rfl, by kernel_rfl⟩
def TSR_27 : TI := ⟨4, true, [Value.slice none 0 0, Value.int IntKind.i64 0, Value.int IntKind.i64 0, Value.slice none 0 0], [(0, 1, false), (1, 2, true), (3, 1, false)], none, 64, 6, none, false⟩
theorem TSR_27_ok : TypOk Try.prog 27 TSR_27 := ⟨by kernel_rfl, by kernel_rfl, by kernel_rfl, by kernel_rfl, by kernel_rfl⟩
def TSR_95 : TI := ⟨5, true, [Value.int IntKind.i64 0, Value.slice none 0 0, Value.int IntKind.i64 0, Value.int IntKind.i64 0, Value.slice none 0 0], [(0, 1, false), (1, 4, true)], none, 72, 6, none, false⟩
theorem TSR_95_ok : TypOk Try.prog 95 TSR_95 := ⟨by kernel_rfl, by kernel_rfl, by kernel_rfl, by kernel_rfl, by kernel_rfl⟩
def TSR : List (Nat × TI) := [(56, TSR_56), (3, TSR_3), (27, TSR_27), (95, TSR_95)]
theorem TSR_ok : TabOk Try.prog TSR := (((((TabOk.nil _).cons TSR_95_ok).cons TSR_27_ok).cons TSR_3_ok).cons TSR_56_ok)

theorem el_at {L : List (Int × Tm)} {i : Nat} {x : Int × Tm} (h : L[i]? = some x) : VLe (.q ((ePairs L).getD i [])) (.q [.v (.int .i64 x.1), .sl 2 (eTys x.2.binds) none, .v (.int .i64 x.2.kind), .v (.int .i64 x.2.index), .sl 4 (eTms x.2.args) none]) := by
  have hi : i < L.length := by
    rcases Nat.lt_or_ge i L.length with h' | h'
    · exact h'
    · rw [List.getElem?_eq_none h'] at h; cases h
  rw [List.getElem?_eq_getElem hi] at h
  cases h
  exact VLe.of_eq (by rw [ePairs_getD L i hi, ePair_eq])
theorem rget_d (l : List (Int × Tm)) (hl : l.length ≤ 900000) (m : Int) : PureC Try.prog 77 [.sl 5 (ePairs l) none, .v (.int .i64 m)] (.tu [.ag (eTm (getT l m).1), .v (.bool (getT l m).2)]) := by
 refine calldw 0 26 [ResultVar.cell 4 27, ResultVar.tmp 5] TSR_ok Try.func77 rfl Try.ntmps77 rfl fun cx hnt hn0 => ?_
 ·skip
  refine dw_seq ?_; refine dwk [] TSR_ok hnt fun K hK => ?_; refine hK _ _ ?_; clear hK K; refine dw_seq ?_; refine dw_seq ?_; refine dwk [] TSR_ok hnt fun K hK => ?_; refine hK _ _ ?_; clear hK K; refine dw_block ?_
  refine dw_loop (ι := { j : Nat // ∀ i (h : i < l.length), i < j → l[i].1 ≠ m }) (fun j => [(.t 0, .sl 5 (ePairs l) none), (.t 1, .v (.int .i64 m)), (.t 4, .p 0 0), (.t 6, .v (.int .i64 ↑j.1)), (.c 0 0, .v (.slice none 0 0)), (.c 0 1, .v (.int .i64 0)), (.c 0 2, .v (.int .i64 0)), (.c 0 3, .v (.slice none 0 0))]) 1 (fun j => l.length - j.1) (⟨0, fun i h1 h2 => by omega⟩) ((VS.toK (by omega) (by repeat first | exact trivial | refine And.intro (And.intro (by first | rfl | simp [D.ok, D.oks, D.okss, D.okm, upto, keyOk, argsT]) (by first | exact Or.inl rfl | exact Or.inr ⟨_, rfl, (by repeat first | exact VLe.refl _ | exact VLe.nil _ | exact VLe.untag _ _ _ | refine VLe.ag ?_ | refine VLe.tu ?_ | refine VLeL.cons ?_ ?_ | exact VLeL.nil), trivial⟩ | simp [get, Key.eq, argsT])) ?_))) fun j => ?_
  obtain ⟨j, hj⟩ := j
  dsimp only
  by_cases hlt : j < l.length
  ·by_cases hm : l[j].1 = m
   ·have hi : idxOf m l = some j := idxOf_some hlt hm fun k hk => hj k (by omega) hk
    have e : getT l m = (l[j].2, true) := by unfold getT getP; rw [hi, Option.bind_some, List.getElem?_eq_getElem hlt]
    rw [e, eTm_eq]
    refine dw_seq ?_; refine dw_seq ?_; refine dwk [(9, .v (.int .i64 (↑l.length))), (10, .v (.bool true))] TSR_ok hnt fun K hK => ?_; refine And.intro (dintE (by rw [ePairs_len])) ?_; refine And.intro auT ?_; refine hK _ _ ?_; clear hK K; refine dw_cond (t := true) rfl ?_; rw [if_pos rfl]; refine dw_skip ?_; refine dw_seq ?_; refine dw_block ?_; refine dw_seq ?_; refine dwk [(15, .q [.v (.int .i64 l[j].1), .sl 2 (eTys l[j].2.binds) none, .v (.int .i64 l[j].2.kind), .v (.int .i64 l[j].2.index), .sl 4 (eTms l[j].2.args) none]), (19, .v (.bool true))] TSR_ok hnt fun K hK => ?_
    refine And.intro (elo (ePairs_len l)) ?_; refine And.intro (elv (ePairs_getD l j) (ePair_eq _)) ?_; refine And.intro (beqT hm) ?_; refine hK _ _ ?_; clear hK K; refine dw_cond (t := true) rfl ?_; rw [if_pos rfl]; refine dw_seq ?_; refine dwk [(22, .q [.v (.int .i64 l[j].1), .sl 2 (eTys l[j].2.binds) none, .v (.int .i64 l[j].2.kind), .v (.int .i64 l[j].2.index), .sl 4 (eTms l[j].2.args) none])] TSR_ok hnt fun K hK => ?_
    refine And.intro (elo (ePairs_len l)) ?_; refine And.intro (elv (ePairs_getD l j) (ePair_eq _)) ?_; refine hK _ _ ?_; clear hK K; refine dw_ret ?_
    exact reta rfl
   ·have hj' : ∀ i (h : i < l.length), i < j + 1 → l[i].1 ≠ m := fun i h1 h2 => by
     rcases Nat.lt_or_ge i j with h | h
     ·exact hj i h1 h
     ·have : i = j := by omega
      subst this; exact hm
    refine dw_seq ?_; refine dw_seq ?_; refine dwk [(9, .v (.int .i64 (↑l.length))), (10, .v (.bool true))] TSR_ok hnt fun K hK => ?_; refine And.intro (dintE (by rw [ePairs_len])) ?_; refine And.intro auT ?_; refine hK _ _ ?_; clear hK K; refine dw_cond (t := true) rfl ?_; rw [if_pos rfl]; refine dw_skip ?_; refine dw_seq ?_; refine dw_block ?_; refine dw_seq ?_; refine dwk [(15, .q [.v (.int .i64 l[j].1), .sl 2 (eTys l[j].2.binds) none, .v (.int .i64 l[j].2.kind), .v (.int .i64 l[j].2.index), .sl 4 (eTms l[j].2.args) none]), (19, .v (.bool false))] TSR_ok hnt fun K hK => ?_
    refine And.intro (elo (ePairs_len l)) ?_; refine And.intro (elv (ePairs_getD l j) (ePair_eq _)) ?_; refine And.intro (beqF hm) ?_; refine hK _ _ ?_; clear hK K; refine dw_cond (t := false) rfl ?_; rw [if_neg (by simp)]; refine dw_skip ?_; refine dwk [(12, .v (.int .i64 (↑(j + 1))))] TSR_ok hnt fun K hK => ?_; refine And.intro auI ?_; refine hK _ _ ?_; clear hK K
    refine ⟨⟨j + 1, hj'⟩, by first | omega | (dsimp only; omega), VS.toA⟩
  ·have hi : idxOf m l = none := idxOf_none fun k hk => hj k hk (by omega)
   have e : getT l m = (.mk [] 0 0 [], false) := by unfold getT getP; rw [hi]; rfl
   rw [e, eTm_eq]
   dsimp only [Tm.binds, Tm.kind, Tm.index, Tm.args, eTys, eTms]
   refine dw_seq ?_; refine dw_seq ?_; refine dwk [(9, .v (.int .i64 (↑l.length))), (10, .v (.bool false))] TSR_ok hnt fun K hK => ?_; refine And.intro (dintE (by rw [ePairs_len])) ?_; refine And.intro auF ?_; refine hK _ _ ?_; clear hK K; refine dw_cond (t := false) rfl ?_; rw [if_neg (by simp)]; refine dw_exit ?_; refine dw_seq ?_; refine dwk [] TSR_ok hnt fun K hK => ?_; refine hK _ _ ?_; clear hK K
   refine dw_ret ?_
   exact reta rfl
theorem rsameP_d (l r : List (Int × Tm)) (hl : l.length ≤ 900000) (hr : r.length ≤ 900000) : PureC Try.prog 22 [.sl 5 (ePairs l) none, .sl 5 (ePairs r) none] (.v (.bool (decide (l = r)))) := by
 by_cases hlr : l.length = r.length
 ·skip
  refine calldw 0 42 [ResultVar.tmp 4] TSR_ok Try.func22 rfl Try.ntmps22 rfl fun cx hnt hn0 => ?_
  ·skip
   refine dw_seq ?_; refine dwk [] TSR_ok hnt fun K hK => ?_; refine hK _ _ ?_; clear hK K; refine dw_seq ?_; refine dw_seq ?_; refine dwk [(7, .v (.int .i64 (↑l.length))), (9, .v (.int .i64 (↑r.length))), (10, .v (.bool false))] TSR_ok hnt fun K hK => ?_; refine And.intro (dintE (by rw [ePairs_len])) ?_; refine And.intro (dintE (by rw [ePairs_len])) ?_; refine And.intro (bneF (by omega)) ?_; refine hK _ _ ?_; clear hK K
   refine dw_cond (t := false) rfl ?_; rw [if_neg (by simp)]; refine dw_skip ?_; refine dw_seq ?_; refine dw_seq ?_; refine dwk [] TSR_ok hnt fun K hK => ?_; refine hK _ _ ?_; clear hK K; refine dw_block ?_
   refine dw_loop (ι := { j : Nat // l.take j = r.take j }) (fun j => [(.t 0, .sl 5 (ePairs l) none), (.t 1, .sl 5 (ePairs r) none), (.t 5, .v (.int .i64 ↑j.1))]) 0 (fun j => l.length - j.1) (⟨0, rfl⟩) ((VS.toK (by omega) (by repeat first | exact trivial | refine And.intro (And.intro (by first | rfl | simp [D.ok, D.oks, D.okss, D.okm, upto, keyOk, argsT]) (by first | exact Or.inl rfl | exact Or.inr ⟨_, rfl, (by repeat first | exact VLe.refl _ | exact VLe.nil _ | exact VLe.untag _ _ _ | refine VLe.ag ?_ | refine VLe.tu ?_ | refine VLeL.cons ?_ ?_ | exact VLeL.nil), trivial⟩ | simp [get, Key.eq, argsT])) ?_))) fun j => ?_
   obtain ⟨j, hj⟩ := j
   dsimp only
   by_cases hlt : j < l.length
   ·have hjr : j < r.length := by omega
    have he := same2_d l[j].2 r[j].2
    rw [eTm_eq, eTm_eq] at he
    have h1 := List.take_add_one (l := l) (i := j)
    have h2 := List.take_add_one (l := r) (i := j)
    rw [List.getElem?_eq_getElem hlt] at h1
    rw [List.getElem?_eq_getElem hjr] at h2
    by_cases hm : l[j].1 = r[j].1
    ·by_cases hv : l[j].2 = r[j].2
     ·rw [decide_eq_true hv] at he
      have hv2 : l[j] = r[j] := Prod.ext hm hv
      refine dw_seq ?_; refine dw_seq ?_; refine dwk [(13, .v (.int .i64 (↑l.length))), (14, .v (.bool true))] TSR_ok hnt fun K hK => ?_; refine And.intro (dintE (by rw [ePairs_len])) ?_; refine And.intro auT ?_; refine hK _ _ ?_; clear hK K; refine dw_cond (t := true) rfl ?_; rw [if_pos rfl]; refine dw_skip ?_; refine dw_seq ?_; refine dw_block ?_; refine dw_seq ?_; refine dwkD [(19, .q [.v (.int .i64 l[j].1), .sl 2 (eTys l[j].2.binds) none, .v (.int .i64 l[j].2.kind), .v (.int .i64 l[j].2.index), .sl 4 (eTms l[j].2.args) none]), (24, .q [.v (.int .i64 r[j].1), .sl 2 (eTys r[j].2.binds) none, .v (.int .i64 r[j].2.kind), .v (.int .i64 r[j].2.index), .sl 4 (eTms r[j].2.args) none]), (27, .v (.bool false)), (31, .q [.v (.int .i64 l[j].1), .sl 2 (eTys l[j].2.binds) none, .v (.int .i64 l[j].2.kind), .v (.int .i64 l[j].2.index), .sl 4 (eTms l[j].2.args) none]), (36, .q [.v (.int .i64 r[j].1), .sl 2 (eTys r[j].2.binds) none, .v (.int .i64 r[j].2.kind), .v (.int .i64 r[j].2.index), .sl 4 (eTms r[j].2.args) none])] TSR_ok hnt fun K hK => ?_
      refine And.intro (elo (ePairs_len l)) ?_; refine And.intro (elv (ePairs_getD l j) (ePair_eq _)) ?_; refine And.intro (elo (ePairs_len r)) ?_; refine And.intro (elv (ePairs_getD r j) (ePair_eq _)) ?_; refine And.intro (bneF hm) ?_; refine And.intro (elo (ePairs_len l)) ?_; refine And.intro (elv (ePairs_getD l j) (ePair_eq _)) ?_; refine And.intro (elo (ePairs_len r)) ?_; refine And.intro (elv (ePairs_getD r j) (ePair_eq _)) ?_
      refine dcl (he) ?_; refine hK _ _ (by kernel_rfl) ?_; clear hK K; refine dw_cond (t := false) rfl ?_; rw [if_neg (by simp)]; refine dw_skip ?_; refine dwk [(16, .v (.int .i64 (↑(j + 1))))] TSR_ok hnt fun K hK => ?_; refine And.intro auI ?_; refine hK _ _ ?_; clear hK K
      refine ⟨⟨j + 1, by rw [h1, h2, hj, hv2]⟩, by first | omega | (dsimp only; omega), VS.toA⟩
     ·rw [decide_eq_false hv] at he
      have e : decide (l = r) = false := by rw [decide_eq_false_iff_not]; exact fun e => hv (by subst e; rfl)
      rw [e]
      refine dw_seq ?_; refine dw_seq ?_; refine dwk [(13, .v (.int .i64 (↑l.length))), (14, .v (.bool true))] TSR_ok hnt fun K hK => ?_; refine And.intro (dintE (by rw [ePairs_len])) ?_; refine And.intro auT ?_; refine hK _ _ ?_; clear hK K; refine dw_cond (t := true) rfl ?_; rw [if_pos rfl]; refine dw_skip ?_; refine dw_seq ?_; refine dw_block ?_; refine dw_seq ?_; refine dwkD [(19, .q [.v (.int .i64 l[j].1), .sl 2 (eTys l[j].2.binds) none, .v (.int .i64 l[j].2.kind), .v (.int .i64 l[j].2.index), .sl 4 (eTms l[j].2.args) none]), (24, .q [.v (.int .i64 r[j].1), .sl 2 (eTys r[j].2.binds) none, .v (.int .i64 r[j].2.kind), .v (.int .i64 r[j].2.index), .sl 4 (eTms r[j].2.args) none]), (27, .v (.bool false)), (31, .q [.v (.int .i64 l[j].1), .sl 2 (eTys l[j].2.binds) none, .v (.int .i64 l[j].2.kind), .v (.int .i64 l[j].2.index), .sl 4 (eTms l[j].2.args) none]), (36, .q [.v (.int .i64 r[j].1), .sl 2 (eTys r[j].2.binds) none, .v (.int .i64 r[j].2.kind), .v (.int .i64 r[j].2.index), .sl 4 (eTms r[j].2.args) none])] TSR_ok hnt fun K hK => ?_
      refine And.intro (elo (ePairs_len l)) ?_; refine And.intro (elv (ePairs_getD l j) (ePair_eq _)) ?_; refine And.intro (elo (ePairs_len r)) ?_; refine And.intro (elv (ePairs_getD r j) (ePair_eq _)) ?_; refine And.intro (bneF hm) ?_; refine And.intro (elo (ePairs_len l)) ?_; refine And.intro (elv (ePairs_getD l j) (ePair_eq _)) ?_; refine And.intro (elo (ePairs_len r)) ?_; refine And.intro (elv (ePairs_getD r j) (ePair_eq _)) ?_
      refine dcl (he) ?_; refine hK _ _ (by kernel_rfl) ?_; clear hK K; refine dw_cond (t := true) rfl ?_; rw [if_pos rfl]; refine dw_seq ?_; refine dwk [] TSR_ok hnt fun K hK => ?_; refine hK _ _ ?_; clear hK K; refine dw_ret ?_
      exact reta rfl
    ·have e : decide (l = r) = false := by rw [decide_eq_false_iff_not]; exact fun e => hm (by subst e; rfl)
     rw [e]
     refine dw_seq ?_; refine dw_seq ?_; refine dwk [(13, .v (.int .i64 (↑l.length))), (14, .v (.bool true))] TSR_ok hnt fun K hK => ?_; refine And.intro (dintE (by rw [ePairs_len])) ?_; refine And.intro auT ?_; refine hK _ _ ?_; clear hK K; refine dw_cond (t := true) rfl ?_; rw [if_pos rfl]; refine dw_skip ?_; refine dw_seq ?_; refine dw_block ?_; refine dw_seq ?_; refine dwkD [(19, .q [.v (.int .i64 l[j].1), .sl 2 (eTys l[j].2.binds) none, .v (.int .i64 l[j].2.kind), .v (.int .i64 l[j].2.index), .sl 4 (eTms l[j].2.args) none]), (24, .q [.v (.int .i64 r[j].1), .sl 2 (eTys r[j].2.binds) none, .v (.int .i64 r[j].2.kind), .v (.int .i64 r[j].2.index), .sl 4 (eTms r[j].2.args) none]), (27, .v (.bool true))] TSR_ok hnt fun K hK => ?_
     refine And.intro (elo (ePairs_len l)) ?_; refine And.intro (elv (ePairs_getD l j) (ePair_eq _)) ?_; refine And.intro (elo (ePairs_len r)) ?_; refine And.intro (elv (ePairs_getD r j) (ePair_eq _)) ?_; refine And.intro (bneT hm) ?_; refine hK _ _ (by kernel_rfl) ?_; clear hK K; refine dw_cond (t := true) rfl ?_; rw [if_pos rfl]; refine dw_seq ?_; refine dwk [] TSR_ok hnt fun K hK => ?_; refine hK _ _ ?_; clear hK K
     refine dw_ret ?_
     exact reta rfl
   ·rw [List.take_of_length_le (by omega), List.take_of_length_le (by omega)] at hj
    rw [decide_eq_true hj]
    refine dw_seq ?_; refine dw_seq ?_; refine dwk [(13, .v (.int .i64 (↑l.length))), (14, .v (.bool false))] TSR_ok hnt fun K hK => ?_; refine And.intro (dintE (by rw [ePairs_len])) ?_; refine And.intro auF ?_; refine hK _ _ ?_; clear hK K; refine dw_cond (t := false) rfl ?_; rw [if_neg (by simp)]; refine dw_exit ?_; refine dw_seq ?_; refine dwk [] TSR_ok hnt fun K hK => ?_; refine hK _ _ ?_; clear hK K
    refine dw_ret ?_
    exact reta rfl
 ·have e : decide (l = r) = false := by rw [decide_eq_false_iff_not]; exact fun e => hlr (by rw [e])
  rw [e]
  refine calldw 0 42 [ResultVar.tmp 4] TSR_ok Try.func22 rfl Try.ntmps22 rfl fun cx hnt hn0 => ?_
  ·skip
   refine dw_seq ?_; refine dwk [] TSR_ok hnt fun K hK => ?_; refine hK _ _ ?_; clear hK K; refine dw_seq ?_; refine dw_seq ?_; refine dwk [(7, .v (.int .i64 (↑l.length))), (9, .v (.int .i64 (↑r.length))), (10, .v (.bool true))] TSR_ok hnt fun K hK => ?_; refine And.intro (dintE (by rw [ePairs_len])) ?_; refine And.intro (dintE (by rw [ePairs_len])) ?_; refine And.intro (bneT (by omega)) ?_; refine hK _ _ ?_; clear hK K
   refine dw_cond (t := true) rfl ?_; rw [if_pos rfl]; refine dw_seq ?_; refine dwk [] TSR_ok hnt fun K hK => ?_; refine hK _ _ ?_; clear hK K; refine dw_ret ?_
   exact reta rfl
end Go.Proofs.Ytdmiekaeodcehaa

namespace Go.Proofs.Ytdmiekaeodcehaa
open Go.RowKit

theorem rsortedN_d (l : List (Int × Tm)) (hl : l.length ≤ 900000) (nm : Nat) : CallN Try.prog 78 [.sl 5 (ePairs l) none] [] nm [(.r nm, .rw 95 5 l.length)] (.sl 5 (ePairs (So.ss l)) (some nm)) := by
 refine callRow_of_dw 51 [ResultVar.tmp 2] TSR_ok (by kernel_rfl) Try.func78 rfl Try.ntmps78 rfl (by simp) (by simp [D.ok, ePairs_ok]) (by simp [D.okss, ePairs_ok]) ?dbody nm
 case dbody =>
  intro cx hnt hn0
  refine dw_seq ?_; refine dwk [] TSR_ok hnt fun K hK => ?_; refine hK _ _ ?_; clear hK K
  refine dw_cut (τ := [(.t 0, .sl 5 (ePairs l) none), (.t 3, .v (.slice none 0 0))]) (N1 := 0) ?_ ?_
  ·skip
   refine dwk [] TSR_ok hnt fun K hK => ?_; refine hK _ _ ?_; clear hK K
   exact cut_ok (VS.toK (by omega) (by repeat first | exact trivial | refine And.intro (And.intro (by first | rfl | simp [D.ok, D.oks, D.okss, D.okm, upto, keyOk, argsT]) (by first | exact Or.inl rfl | exact Or.inr ⟨_, rfl, (by repeat first | exact VLe.refl _ | exact VLe.nil _ | exact VLe.untag _ _ _ | refine VLe.ag ?_ | refine VLe.tu ?_ | refine VLeL.cons ?_ ?_ | exact VLeL.nil), trivial⟩ | simp [get, Key.eq, argsT])) ?_))
  ·refine DW.vs (VS.rowT (x := 3) (by rw [hnt]; decide) 95 5 rfl) ?_
   refine dw_seq ?_; refine dw_seq ?_; refine dwk [] TSR_ok hnt fun K hK => ?_; refine hK _ _ ?_; clear hK K; refine dw_block ?_
   refine dw_loop (ι := { i : Nat // i ≤ l.length }) (fun i => [(.t 3, .sl 5 (ePairs (So.ss (l.take i.1))) (some 0)), (.r 0, .rw 95 5 i.1), (.t 0, .sl 5 (ePairs l) none), (.t 4, .v (.int .i64 ↑i.1))]) 1 (fun i => l.length - i.1) (⟨0, Nat.zero_le _⟩) ((VS.toK (by omega) (by repeat first | exact trivial | refine And.intro (And.intro (by first | rfl | simp [D.ok, D.oks, D.okss, D.okm, upto, keyOk, argsT]) (by first | exact Or.inl rfl | exact Or.inr ⟨_, rfl, (by repeat first | exact VLe.refl _ | exact VLe.nil _ | exact VLe.untag _ _ _ | refine VLe.ag ?_ | refine VLe.tu ?_ | refine VLeL.cons ?_ ?_ | exact VLeL.nil), trivial⟩ | simp [get, Key.eq, argsT])) ?_))) fun i => ?_
   obtain ⟨i, hi⟩ := i
   dsimp only
   by_cases hlt : i < l.length
   ·obtain ⟨S, hS⟩ : ∃ S, So.ss (l.take i) = S := ⟨_, rfl⟩
    have hSl : S.length = i := by rw [← hS, So.ss_len, List.length_take]; omega
    have hnx : So.ss (l.take (i + 1)) = So.ss (l.take i ++ [l[i]]) := by rw [List.take_add_one, List.getElem?_eq_getElem hlt]; rfl
    rw [hS]
    refine dw_seq ?_; refine dw_seq ?_; refine dwk [(9, .v (.int .i64 (↑l.length))), (10, .v (.bool true))] TSR_ok hnt fun K hK => ?_; refine And.intro (dintE (by rw [ePairs_len])) ?_; refine And.intro auT ?_; refine hK _ _ ?_; clear hK K; refine dw_cond (t := true) rfl ?_; rw [if_pos rfl]; refine dw_skip ?_; refine dw_seq ?_; refine dw_block ?_; refine dw_seq ?_; refine dwk [(14, .v (.int .i64 (↑S.length)))] TSR_ok hnt fun K hK => ?_
    refine And.intro (dintE (by rw [ePairs_len])) ?_; refine hK _ _ ?_; clear hK K; refine dw_seq ?_; refine dw_block ?_
    refine dw_loop (ι := { p : List (Int × Tm) × List (Int × Tm) // p.1 ++ p.2 = S ∧ ∀ s ∈ p.2, l[i].1 < s.1 }) (fun p => [(.t 0, .sl 5 (ePairs l) none), (.t 3, .sl 5 (ePairs S) none), (.t 4, .v (.int .i64 ↑i)), (.t 5, .v (.int .i64 ↑p.1.1.length))]) 1 (fun p => p.1.1.length) (⟨(S, []), by simp, by simp⟩) (VS.toA) fun j => ?_
    obtain ⟨⟨P, Q⟩, hPQ, hQ⟩ := j
    dsimp only at hPQ hQ ⊢
    have hPl : P.length + Q.length = i := by rw [← hSl, ← hPQ]; simp
    have hfin : ∀ _ : (∀ s ∈ P, s.1 ≤ l[i].1), So.ss (l.take (i + 1)) = P ++ l[i] :: Q := fun h1 => by
     rw [hnx]; exact So.ss_snoc (by rw [hPQ, hS]) h1 hQ
    have e36 : ((ePairs S).take P.length) = ePairs P := by
     rw [← hPQ, ePairs, List.map_append, List.take_append_of_le_length (by simp), List.take_of_length_le (by simp)]; rfl
    have e48 : ((ePairs S).drop P.length) = ePairs Q := by
     rw [← hPQ, ePairs, List.map_append, List.drop_append_of_le_length (by simp), List.drop_of_length_le (by simp)]; rfl
    have e49 : ([] ++ ePairs P ++ [[.v (.int .i64 l[i].1), .sl 2 (eTys l[i].2.binds) none, .v (.int .i64 l[i].2.kind), .v (.int .i64 l[i].2.index), .sl 4 (eTms l[i].2.args) none]]) ++ ePairs Q = ePairs (P ++ l[i] :: Q) := by
     rw [← ePair_eq]; unfold ePairs; simp
    rcases snoc_cases P with rfl | ⟨P', s, rfl⟩
    ·skip
     refine dw_seq ?_; refine dw_seq ?_; refine dwkD [(16, .v (.bool false))] TSR_ok hnt fun K hK => ?_; refine And.intro (by first | exact dfalse (by simp) | exact VLe.of_eq (by simp)) ?_; refine hK _ _ (by kernel_rfl) ?_; clear hK K; refine dw_cond (t := false) rfl ?_; rw [if_neg (by simp)]; refine dw_exit ?_; refine dw_seq ?_; refine dwk [(36, .sl 5 (ePairs []) none)] TSR_ok hnt fun K hK => ?_; refine And.intro (⟨by omega, by rw [ePairs_len]; omega⟩) ?_
     refine And.intro (VLe.of_eq (congrArg (D.sl 5 · none) e36)) ?_; refine And.intro (⟨rfl, by rw [ePairs_len]; simp⟩) ?_; refine hK _ _ ?_; clear hK K; refine dw_seq ?_; refine dwk [(41, .q [.v (.int .i64 l[i].1), .sl 2 (eTys l[i].2.binds) none, .v (.int .i64 l[i].2.kind), .v (.int .i64 l[i].2.index), .sl 4 (eTms l[i].2.args) none])] TSR_ok hnt fun K hK => ?_; refine And.intro (elo (ePairs_len l)) ?_
     refine And.intro (elv (ePairs_getD l i) (ePair_eq _)) ?_; refine And.intro (⟨rfl, by simp [ePairs_len] <;> omega⟩) ?_; refine hK _ _ ?_; clear hK K; refine dwk [(48, .sl 5 (ePairs Q) none), (49, .sl 5 (ePairs ([] ++ l[i] :: Q)) (some 17))] TSR_ok hnt fun K hK => ?_; refine And.intro (⟨by omega, by rw [ePairs_len]; omega⟩) ?_; refine And.intro (VLe.of_eq (by rw [← e48]; simp)) ?_; refine And.intro (⟨rfl, by simp [ePairs_len] <;> omega⟩) ?_
     refine And.intro (VLe.of_eq (by rw [← e49]; rfl)) ?_; refine hK _ _ ?_; clear hK K
     rw [e49, show (ePairs ([] ++ l[i] :: Q)).length = i + 1 by rw [ePairs_len]; simp <;> first | omega | (simp at hPl; omega)]
     refine dwk [(12, .v (.int .i64 (↑(i + 1))))] TSR_ok hnt fun K hK => ?_; refine And.intro auI ?_; refine hK _ _ ?_; clear hK K
     refine ⟨⟨i + 1, by omega⟩, by dsimp only; omega, ?_⟩
     dsimp only
     rw [hfin (by simp)]
     exact VS.rowAs (x := 3) (k := 17) (g := 0) (n := 5) [(.t 0, .sl 5 (ePairs l) none), (.t 4, .v (.int .i64 ↑(i + 1)))] hn0 rfl rfl (by decide) (ePairs_ok _ _ _) (by simp [D.ok, ePairs_ok]) (by intro p hp; simp only [List.mem_cons, List.not_mem_nil, or_false] at hp; rcases hp with rfl | rfl <;> exact .inl rfl)
    ·have hPk : (P' ++ [s]).length = P'.length + 1 := by simp
     have hs : S[P'.length]? = some s := at_ (P := P') (R := Q) (by rw [← hPQ]; simp) rfl
     rw [hPk] at e36 e48 hPl ⊢
     have hsrt := So.ss_srt (l.take i)
     rw [hS, ← hPQ] at hsrt
     by_cases hlt2 : l[i].1 < s.1
     ·skip
      refine dw_seq ?_; refine dw_seq ?_; refine dwkD [(16, .v (.bool true)), (20, .v (.int .i64 (↑P'.length))), (21, .q [.v (.int .i64 s.1), .sl 2 (eTys s.2.binds) none, .v (.int .i64 s.2.kind), .v (.int .i64 s.2.index), .sl 4 (eTms s.2.args) none]), (26, .q [.v (.int .i64 l[i].1), .sl 2 (eTys l[i].2.binds) none, .v (.int .i64 l[i].2.kind), .v (.int .i64 l[i].2.index), .sl 4 (eTms l[i].2.args) none]), (29, .v (.bool true))] TSR_ok hnt fun K hK => ?_
      refine And.intro auT ?_; refine And.intro auI ?_; refine And.intro (⟨by omega, by rw [ePairs_len]; omega⟩) ?_; refine And.intro (el_at hs) ?_; refine And.intro (elo (ePairs_len l)) ?_; refine And.intro (elv (ePairs_getD l i) (ePair_eq _)) ?_; refine And.intro (dtrue (by omega)) ?_; refine hK _ _ (by kernel_rfl) ?_; clear hK K; refine dw_cond (t := true) rfl ?_; rw [if_pos rfl]; refine dw_skip ?_; refine dw_block ?_
      refine dwk [(32, .v (.int .i64 (↑P'.length)))] TSR_ok hnt fun K hK => ?_; refine And.intro auI ?_; refine hK _ _ ?_; clear hK K
      refine ⟨⟨(P', s :: Q), by rw [← hPQ]; simp, fun u hu => (List.mem_cons.1 hu).elim (fun e => e ▸ hlt2) (hQ u)⟩, by simp, VS.toA⟩
     ·have hall : ∀ u ∈ P' ++ [s], u.1 ≤ l[i].1 := fun u hu => by
       rcases List.mem_append.1 hu with hu | hu
       ·have := (So.srt_app.1 (So.srt_app.1 hsrt).1).2.2 u hu s (by simp); omega
       ·rw [List.mem_singleton] at hu; subst hu; omega
      refine dw_seq ?_; refine dw_seq ?_; refine dwkD [(16, .v (.bool true)), (20, .v (.int .i64 (↑P'.length))), (21, .q [.v (.int .i64 s.1), .sl 2 (eTys s.2.binds) none, .v (.int .i64 s.2.kind), .v (.int .i64 s.2.index), .sl 4 (eTms s.2.args) none]), (26, .q [.v (.int .i64 l[i].1), .sl 2 (eTys l[i].2.binds) none, .v (.int .i64 l[i].2.kind), .v (.int .i64 l[i].2.index), .sl 4 (eTms l[i].2.args) none]), (29, .v (.bool false))] TSR_ok hnt fun K hK => ?_
      refine And.intro auT ?_; refine And.intro auI ?_; refine And.intro (⟨by omega, by rw [ePairs_len]; omega⟩) ?_; refine And.intro (el_at hs) ?_; refine And.intro (elo (ePairs_len l)) ?_; refine And.intro (elv (ePairs_getD l i) (ePair_eq _)) ?_; refine And.intro (dfalse (by omega)) ?_; refine hK _ _ (by kernel_rfl) ?_; clear hK K; refine dw_cond (t := false) rfl ?_; rw [if_neg (by simp)]; refine dw_exit ?_
      refine dw_seq ?_; refine dwk [(36, .sl 5 (ePairs (P' ++ [s])) none)] TSR_ok hnt fun K hK => ?_; refine And.intro (⟨by omega, by rw [ePairs_len]; omega⟩) ?_; refine And.intro (VLe.of_eq (congrArg (D.sl 5 · none) e36)) ?_; refine And.intro (⟨rfl, by rw [ePairs_len]; simp <;> omega⟩) ?_; refine hK _ _ ?_; clear hK K; refine dw_seq ?_; refine dwk [(41, .q [.v (.int .i64 l[i].1), .sl 2 (eTys l[i].2.binds) none, .v (.int .i64 l[i].2.kind), .v (.int .i64 l[i].2.index), .sl 4 (eTms l[i].2.args) none])] TSR_ok hnt fun K hK => ?_
      refine And.intro (elo (ePairs_len l)) ?_; refine And.intro (elv (ePairs_getD l i) (ePair_eq _)) ?_; refine And.intro (⟨rfl, by simp [ePairs_len] <;> omega⟩) ?_; refine hK _ _ ?_; clear hK K; refine dwk [(48, .sl 5 (ePairs Q) none), (49, .sl 5 (ePairs ((P' ++ [s]) ++ l[i] :: Q)) (some 17))] TSR_ok hnt fun K hK => ?_; refine And.intro (⟨by omega, by rw [ePairs_len]; omega⟩) ?_; refine And.intro (VLe.of_eq (by rw [← e48]; simp)) ?_
      refine And.intro (⟨rfl, by simp [ePairs_len] <;> omega⟩) ?_; refine And.intro (VLe.of_eq (by rw [← e49]; rfl)) ?_; refine hK _ _ ?_; clear hK K
      rw [e49, show (ePairs ((P' ++ [s]) ++ l[i] :: Q)).length = i + 1 by rw [ePairs_len]; simp <;> first | omega | (simp at hPl; omega)]
      refine dwk [(12, .v (.int .i64 (↑(i + 1))))] TSR_ok hnt fun K hK => ?_; refine And.intro auI ?_; refine hK _ _ ?_; clear hK K
      refine ⟨⟨i + 1, by omega⟩, by dsimp only; omega, ?_⟩
      dsimp only
      rw [hfin (hall)]
      exact VS.rowAs (x := 3) (k := 17) (g := 0) (n := 5) [(.t 0, .sl 5 (ePairs l) none), (.t 4, .v (.int .i64 ↑(i + 1)))] hn0 rfl rfl (by decide) (ePairs_ok _ _ _) (by simp [D.ok, ePairs_ok]) (by intro p hp; simp only [List.mem_cons, List.not_mem_nil, or_false] at hp; rcases hp with rfl | rfl <;> exact .inl rfl)
   ·rw [List.take_of_length_le (by omega), show i = l.length by omega]
    refine dw_seq ?_; refine dw_seq ?_; refine dwk [(9, .v (.int .i64 (↑l.length))), (10, .v (.bool false))] TSR_ok hnt fun K hK => ?_; refine And.intro (dintE (by rw [ePairs_len])) ?_; refine And.intro auF ?_; refine hK _ _ ?_; clear hK K; refine dw_cond (t := false) rfl ?_; rw [if_neg (by simp)]; refine dw_exit ?_; refine dw_seq ?_; refine dwk [] TSR_ok hnt fun K hK => ?_; refine hK _ _ ?_; clear hK K
    refine dw_ret ?_
    exact ⟨.inr rfl, 0, rfl, rfl⟩
end Go.Proofs.Ytdmiekaeodcehaa

namespace Go.Proofs.Ytdmiekaeodcehaa
open Go.RowKit
def TRA_27 : TI := ⟨4, true, [Value.slice none 0 0, Value.int IntKind.i64 0, Value.int IntKind.i64 0, Value.slice none 0 0], [(0, 1, false), (1, 2, true), (3, 1, false)], none, 64, 6, none, false⟩
theorem TRA_27_ok : TypOk Try.prog 27 TRA_27 := ⟨by kernel_rfl, by kernel_rfl, by kernel_rfl, by kernel_rfl, by kernel_rfl⟩
def TRA_3 : TI := ⟨1, false, [Value.int IntKind.i64 0], [], none, 8, 2, none, false⟩
theorem TRA_3_ok : TypOk Try.prog 3 TRA_3 := ⟨by kernel_rfl, by kernel_rfl, by kernel_rfl, by kernel_rfl, by kernel_rfl⟩
def TRA_22 : TI := ⟨1, false, [Value.slice none 0 0], [], some 146, 24, 5, none, false⟩
theorem TRA_22_ok : TypOk Try.prog 22 TRA_22 := ⟨by kernel_rfl, by kernel_rfl, by kernel_rfl, by kernel_rfl, by kernel_rfl⟩
def TRA_25 : TI := ⟨1, false, [Value.slice none 0 0], [], some 27, 24, 5, none, false⟩
theorem TRA_25_ok : TypOk Try.prog 25 TRA_25 := ⟨by kernel_rfl, by kernel_rfl, by kernel_rfl, by kernel_rfl, by kernel_rfl⟩
def TRA_46 : TI := ⟨1, false, [Value.slice none 0 0], [], some 49, 24, 5, none, false⟩
theorem TRA_46_ok : TypOk Try.prog 46 TRA_46 := ⟨by kernel_rfl, by kernel_rfl, by kernel_rfl, by kernel_rfl, by kernel_rfl⟩
def TRA_49 : TI := ⟨8, true, [Value.slice none 0 0, Value.int IntKind.i64 0, Value.int IntKind.i64 0, Value.slice none 0 0, Value.slice none 0 0, Value.int IntKind.i64 0, Value.int IntKind.i64 0, Value.slice none 0 0], [(0, 4, true), (4, 4, true)], none, 128, 6, none, false⟩
theorem TRA_49_ok : TypOk Try.prog 49 TRA_49 := ⟨by kernel_rfl, by kernel_rfl, by kernel_rfl, by kernel_rfl, by kernel_rfl⟩
def TRA_126 : TI := ⟨1, false, [Value.slice none 0 0], [], some 132, 24, 5, none, false⟩
theorem TRA_126_ok : TypOk Try.prog 126 TRA_126 := ⟨by kernel_rfl, by kernel_rfl, by kernel_rfl, by kernel_rfl, by kernel_rfl⟩
def TRA_132 : TI := ⟨4, true, [Value.int IntKind.i64 0, Value.slice none 0 0, Value.slice none 0 0, Value.slice none 0 0], [(0, 1, false), (1, 1, false), (2, 1, false), (3, 1, false)], none, 80, 6, none, false⟩
theorem TRA_132_ok : TypOk Try.prog 132 TRA_132 := ⟨by kernel_rfl, by kernel_rfl, by kernel_rfl, by kernel_rfl, by kernel_rfl⟩
def TRA_56 : TI := ⟨1, false, [Value.slice none 0 0], [], some 95, 24, 5, none, false⟩
theorem TRA_56_ok : TypOk Try.prog 56 TRA_56 := ⟨by kernel_rfl, by kernel_rfl, by kernel_rfl, by kernel_rfl, by kernel_rfl⟩
def TRA_146 : TI := ⟨2, true, [Value.slice none 0 0, Value.int IntKind.i64 0], [(0, 1, false), (1, 1, false)], none, 32, 6, none, false⟩
theorem TRA_146_ok : TypOk Try.prog 146 TRA_146 := ⟨by kernel_rfl, by kernel_rfl, by kernel_rfl, by kernel_rfl, by kernel_rfl⟩
def TRA_24 : TI := ⟨2, true, [Value.int IntKind.i64 0, Value.int IntKind.i64 0], [(0, 1, false), (1, 1, false)], none, 16, 6, none, true⟩
theorem TRA_24_ok : TypOk Try.prog 24 TRA_24 := ⟨by kernel_rfl, by kernel_rfl, by kernel_rfl, by kernel_rfl, by kernel_rfl⟩
def TRA_43 : TI := ⟨1, false, [Value.slice none 0 0], [], some 3, 24, 5, none, false⟩
theorem TRA_43_ok : TypOk Try.prog 43 TRA_43 := ⟨by kernel_rfl, by kernel_rfl, by kernel_rfl, by kernel_rfl, by kernel_rfl⟩
def TRA_95 : TI := ⟨5, true, [Value.int IntKind.i64 0, Value.slice none 0 0, Value.int IntKind.i64 0, Value.int IntKind.i64 0, Value.slice none 0 0], [(0, 1, false), (1, 4, true)], none, 72, 6, none, false⟩
theorem TRA_95_ok : TypOk Try.prog 95 TRA_95 := ⟨by kernel_rfl, by kernel_rfl, by kernel_rfl, by kernel_rfl, by kernel_rfl⟩
def TRA : List (Nat × TI) := [(27, TRA_27), (3, TRA_3), (22, TRA_22), (25, TRA_25), (46, TRA_46), (49, TRA_49), (126, TRA_126), (132, TRA_132), (56, TRA_56), (146, TRA_146), (24, TRA_24), (43, TRA_43), (95, TRA_95)]
theorem TRA_ok : TabOk Try.prog TRA := ((((((((((((((TabOk.nil _).cons TRA_95_ok).cons TRA_43_ok).cons TRA_24_ok).cons TRA_146_ok).cons TRA_56_ok).cons TRA_132_ok).cons TRA_126_ok).cons TRA_49_ok).cons TRA_46_ok).cons TRA_25_ok).cons TRA_22_ok).cons TRA_3_ok).cons TRA_27_ok)

namespace Pn
theorem rigBs_app : ∀ (l r ts : List Tm), rigBs (l ++ r) ts = (rigBs l ts && rigBs r (ts.drop l.length))
  | [], r, ts => by simp [rigBs]
  | p :: l, r, ts => by
    rw [List.cons_append, rigBs, rigBs, rigBs_app l r, Bool.and_assoc]
    have : ts.tail.drop l.length = ts.drop (p :: l).length := by cases ts <;> simp
    rw [this]
theorem rigBs_take (a ts : List Tm) (j : Nat) (hj : j < a.length) (ht : j < ts.length) (h : rigBs (a.take j) ts = true) : rigBs (a.take (j + 1)) ts = rigB a[j] ts[j] := by
  rw [List.take_add_one, List.getElem?_eq_getElem hj, rigBs_app, h, Option.toList_some, List.length_take, Nat.min_eq_left (by omega), rigBs, rigBs, List.drop_eq_getElem_cons ht, List.headD_cons, Bool.and_true, Bool.true_and]
theorem rigBs_stop (a ts : List Tm) (j : Nat) (h : rigBs (a.take j) ts = false) : rigBs a ts = false := by
  rw [← List.take_append_drop j a, rigBs_app, h]; rfl
end Pn
set_option maxHeartbeats 2000000 in
theorem rrigid_d : ∀ (p t : Tm), p.full ≤ 100000 → t.full ≤ 100000 → PureC Try.prog 73 [.ag (eTm p), .ag (eTm t)] (.v (.bool (Pn.rigB p t))) := by
 intro p
 induction p using Tm.ind with
 | h bs k i a ih =>
 intro t hz hzt
 rw [Tm.full_eq] at hz
 have hfa := full_args t
 have hal := fulls_len a
 have htl := fulls_len t.args
 have hbl := Ty.le_sizes bs
 have htb := Ty.le_sizes t.binds
 rw [Pn.rigB, eTm_eq, eTm_eq]
 simp only [binds_mk', kind_mk', index_mk', args_mkT]
 by_cases hlen : bs.length = t.binds.length
 ·skip
  refine calldw 0 70 [ResultVar.tmp 4] TRA_ok Try.func73 rfl Try.ntmps73 rfl fun cx hnt hn0 => ?_
  ·skip
   refine dw_seq ?_; refine dwk [] TRA_ok hnt fun K hK => ?_; refine hK _ _ ?_; clear hK K; refine dw_seq ?_; refine dw_seq ?_; refine dwk [(9, .v (.int .i64 (↑bs.length))), (12, .v (.int .i64 (↑t.binds.length))), (13, .v (.bool false))] TRA_ok hnt fun K hK => ?_; refine And.intro (dintE (by rw [eTys_len])) ?_; refine And.intro (dintE (by rw [eTys_len])) ?_; refine And.intro (bneF (by omega)) ?_; refine hK _ _ ?_; clear hK K
   refine dw_cond (t := false) rfl ?_; rw [if_neg (by simp)]; refine dw_skip ?_; refine dw_seq ?_; refine dw_seq ?_; refine dwk [] TRA_ok hnt fun K hK => ?_; refine hK _ _ ?_; clear hK K; refine dw_block ?_
   refine dw_loop (ι := { j : Nat // bs.take j = t.binds.take j }) (fun j => [(.t 2, .p 0 0), (.t 3, .p 1 0), (.t 5, .v (.int .i64 ↑j.1)), (.c 0 0, .sl 2 (eTys bs) none), (.c 0 1, .v (.int .i64 k)), (.c 0 2, .v (.int .i64 i)), (.c 0 3, .sl 4 (eTms a) none), (.c 1 0, .sl 2 (eTys t.binds) none), (.c 1 1, .v (.int .i64 t.kind)), (.c 1 2, .v (.int .i64 t.index)), (.c 1 3, .sl 4 (eTms t.args) none)]) 2 (fun j => bs.length - j.1) (⟨0, rfl⟩) (VS.toA) fun j => ?_
   obtain ⟨j, hj⟩ := j
   dsimp only
   by_cases hlt : j < bs.length
   ·have hlt2 : j < t.binds.length := by omega
    have hs4 := rsame4_d bs[j] t.binds[j]
    rw [eTy_eq, eTy_eq] at hs4
    by_cases he : bs[j] = t.binds[j]
    ·rw [decide_eq_true he] at hs4
     refine dw_seq ?_; refine dw_seq ?_; refine dwk [(17, .v (.int .i64 (↑bs.length))), (18, .v (.bool true))] TRA_ok hnt fun K hK => ?_; refine And.intro (dintE (by rw [eTys_len])) ?_; refine And.intro auT ?_; refine hK _ _ ?_; clear hK K; refine dw_cond (t := true) rfl ?_; rw [if_pos rfl]; refine dw_skip ?_; refine dw_seq ?_; refine dw_block ?_; refine dw_seq ?_; refine dwkD [(24, .q [.sl 2 (eTys bs[j].args) none, .v (.int .i64 bs[j].base)]), (29, .q [.sl 2 (eTys t.binds[j].args) none, .v (.int .i64 t.binds[j].base)])] TRA_ok hnt fun K hK => ?_
     refine And.intro (elo (eTys_len bs)) ?_; refine And.intro (elv (eTys_getD bs j) (eTy_eq _)) ?_; refine And.intro (elo (eTys_len t.binds)) ?_; refine And.intro (elv (eTys_getD t.binds j) (eTy_eq _)) ?_; refine dcl (hs4) ?_; refine hK _ _ (by kernel_rfl) ?_; clear hK K; refine dw_cond (t := false) rfl ?_; rw [if_neg (by simp)]; refine dw_skip ?_; refine dwk [(20, .v (.int .i64 (↑(j + 1))))] TRA_ok hnt fun K hK => ?_
     refine And.intro auI ?_; refine hK _ _ ?_; clear hK K
     refine ⟨⟨j + 1, by rw [List.take_add_one, List.take_add_one, hj, List.getElem?_eq_getElem hlt, List.getElem?_eq_getElem hlt2, he]⟩, by first | omega | (dsimp only; omega), VS.toA⟩
    ·rw [decide_eq_false he] at hs4
     have hne : bs ≠ t.binds := fun e => he (by subst e; rfl)
     rw [decide_eq_false hne, Bool.false_and]
     refine dw_seq ?_; refine dw_seq ?_; refine dwk [(17, .v (.int .i64 (↑bs.length))), (18, .v (.bool true))] TRA_ok hnt fun K hK => ?_; refine And.intro (dintE (by rw [eTys_len])) ?_; refine And.intro auT ?_; refine hK _ _ ?_; clear hK K; refine dw_cond (t := true) rfl ?_; rw [if_pos rfl]; refine dw_skip ?_; refine dw_seq ?_; refine dw_block ?_; refine dw_seq ?_; refine dwkD [(24, .q [.sl 2 (eTys bs[j].args) none, .v (.int .i64 bs[j].base)]), (29, .q [.sl 2 (eTys t.binds[j].args) none, .v (.int .i64 t.binds[j].base)])] TRA_ok hnt fun K hK => ?_
     refine And.intro (elo (eTys_len bs)) ?_; refine And.intro (elv (eTys_getD bs j) (eTy_eq _)) ?_; refine And.intro (elo (eTys_len t.binds)) ?_; refine And.intro (elv (eTys_getD t.binds j) (eTy_eq _)) ?_; refine dcl (hs4) ?_; refine hK _ _ (by kernel_rfl) ?_; clear hK K; refine dw_cond (t := true) rfl ?_; rw [if_pos rfl]; refine dw_seq ?_; refine dwk [] TRA_ok hnt fun K hK => ?_; refine hK _ _ ?_; clear hK K
     refine dw_ret ?_
     exact reta rfl
   ·rw [List.take_of_length_le (by omega), List.take_of_length_le (by omega)] at hj
    rw [decide_eq_true hj, Bool.true_and]
    by_cases hk : k = 2
    ·rw [decide_eq_true hk, Bool.true_or]
     refine dw_seq ?_; refine dw_seq ?_; refine dwk [(17, .v (.int .i64 (↑bs.length))), (18, .v (.bool false))] TRA_ok hnt fun K hK => ?_; refine And.intro (dintE (by rw [eTys_len])) ?_; refine And.intro auF ?_; refine hK _ _ ?_; clear hK K; refine dw_cond (t := false) rfl ?_; rw [if_neg (by simp)]; refine dw_exit ?_; refine dw_seq ?_; refine dw_seq ?_; refine dwk [(36, .v (.bool true))] TRA_ok hnt fun K hK => ?_
     refine And.intro (beqT hk) ?_; refine hK _ _ ?_; clear hK K; refine dw_cond (t := true) rfl ?_; rw [if_pos rfl]; refine dw_seq ?_; refine dwk [] TRA_ok hnt fun K hK => ?_; refine hK _ _ ?_; clear hK K; refine dw_ret ?_
     exact reta rfl
    ·rw [decide_eq_false hk, Bool.false_or]
     by_cases hc1 : k = t.kind ∧ i = t.index
     ·rw [decide_eq_true hc1.1, decide_eq_true hc1.2, Bool.true_and, Bool.true_and]
      by_cases hc2 : a.length = t.args.length
      ·rw [decide_eq_true hc2, Bool.true_and]
       refine dw_seq ?_; refine dw_seq ?_; refine dwk [(17, .v (.int .i64 (↑bs.length))), (18, .v (.bool false))] TRA_ok hnt fun K hK => ?_; refine And.intro (dintE (by rw [eTys_len])) ?_; refine And.intro auF ?_; refine hK _ _ ?_; clear hK K; refine dw_cond (t := false) rfl ?_; rw [if_neg (by simp)]; refine dw_exit ?_; refine dw_seq ?_; refine dw_seq ?_; refine dwk [(36, .v (.bool false))] TRA_ok hnt fun K hK => ?_
       refine And.intro (beqF hk) ?_; refine hK _ _ ?_; clear hK K; refine dw_cond (t := false) rfl ?_; rw [if_neg (by simp)]; refine dw_skip ?_; refine dw_seq ?_; refine dw_seq ?_; refine dwk [(41, .v (.bool false)), (45, .v (.int .i64 (↑a.length))), (48, .v (.int .i64 (↑t.args.length))), (49, .v (.bool false))] TRA_ok hnt fun K hK => ?_; refine And.intro (VLe.of_eq (by congr 2; simp [hc1])) ?_; refine And.intro (dintE (by rw [eTms_len])) ?_
       refine And.intro (dintE (by rw [eTms_len])) ?_; refine And.intro (bneF (by omega)) ?_; refine hK _ _ ?_; clear hK K; refine dw_cond (t := false) rfl ?_; rw [if_neg (by simp)]; refine dw_skip ?_; refine dw_seq ?_; refine dw_seq ?_; refine dwk [] TRA_ok hnt fun K hK => ?_; refine hK _ _ ?_; clear hK K; refine dw_block ?_
       refine dw_loop (ι := { j : Nat // Pn.rigBs (a.take j) t.args = true }) (fun j => [(.t 2, .p 0 0), (.t 3, .p 1 0), (.t 6, .v (.int .i64 ↑j.1)), (.c 0 3, .sl 4 (eTms a) none), (.c 1 3, .sl 4 (eTms t.args) none)]) 2 (fun j => a.length - j.1) (⟨0, by rw [List.take_zero, Pn.rigBs]⟩) (VS.toA) fun q => ?_
       obtain ⟨q, hq⟩ := q
       dsimp only
       by_cases hlq : q < a.length
       ·have hlq2 : q < t.args.length := by omega
        have hst := Pn.rigBs_take a t.args q hlq hlq2 hq
        have hm1 := full_mem (List.getElem_mem hlq)
        have hm2 := full_mem (List.getElem_mem hlq2)
        have hih := ih a[q] (List.getElem_mem hlq) t.args[q] (by omega) (by omega)
        rw [eTm_eq, eTm_eq] at hih
        cases hr : Pn.rigB a[q] t.args[q] with
        | true =>
         rw [hr] at hih hst
         refine dw_seq ?_; refine dw_seq ?_; refine dwk [(54, .v (.int .i64 (↑a.length))), (55, .v (.bool true))] TRA_ok hnt fun K hK => ?_; refine And.intro (dintE (by rw [eTms_len])) ?_; refine And.intro auT ?_; refine hK _ _ ?_; clear hK K; refine dw_cond (t := true) rfl ?_; rw [if_pos rfl]; refine dw_skip ?_; refine dw_seq ?_; refine dw_block ?_; refine dw_seq ?_; refine dwkD [(61, .q [.sl 2 (eTys a[q].binds) none, .v (.int .i64 a[q].kind), .v (.int .i64 a[q].index), .sl 4 (eTms a[q].args) none]), (66, .q [.sl 2 (eTys t.args[q].binds) none, .v (.int .i64 t.args[q].kind), .v (.int .i64 t.args[q].index), .sl 4 (eTms t.args[q].args) none])] TRA_ok hnt fun K hK => ?_
         refine And.intro (elo (eTms_len a)) ?_; refine And.intro (elv (eTms_getD a q) (eTm_eq _)) ?_; refine And.intro (elo (eTms_len t.args)) ?_; refine And.intro (elv (eTms_getD t.args q) (eTm_eq _)) ?_; refine dcl (hih) ?_; refine hK _ _ (by kernel_rfl) ?_; clear hK K; refine dw_cond (t := false) rfl ?_; rw [if_neg (by simp)]; refine dw_skip ?_; refine dwk [(57, .v (.int .i64 (↑(q + 1))))] TRA_ok hnt fun K hK => ?_
         refine And.intro auI ?_; refine hK _ _ ?_; clear hK K
         refine ⟨⟨q + 1, hst⟩, by first | omega | (dsimp only; omega), VS.toA⟩
        | false =>
         rw [hr] at hih hst
         rw [Pn.rigBs_stop a t.args (q + 1) hst]
         refine dw_seq ?_; refine dw_seq ?_; refine dwk [(54, .v (.int .i64 (↑a.length))), (55, .v (.bool true))] TRA_ok hnt fun K hK => ?_; refine And.intro (dintE (by rw [eTms_len])) ?_; refine And.intro auT ?_; refine hK _ _ ?_; clear hK K; refine dw_cond (t := true) rfl ?_; rw [if_pos rfl]; refine dw_skip ?_; refine dw_seq ?_; refine dw_block ?_; refine dw_seq ?_; refine dwkD [(61, .q [.sl 2 (eTys a[q].binds) none, .v (.int .i64 a[q].kind), .v (.int .i64 a[q].index), .sl 4 (eTms a[q].args) none]), (66, .q [.sl 2 (eTys t.args[q].binds) none, .v (.int .i64 t.args[q].kind), .v (.int .i64 t.args[q].index), .sl 4 (eTms t.args[q].args) none])] TRA_ok hnt fun K hK => ?_
         refine And.intro (elo (eTms_len a)) ?_; refine And.intro (elv (eTms_getD a q) (eTm_eq _)) ?_; refine And.intro (elo (eTms_len t.args)) ?_; refine And.intro (elv (eTms_getD t.args q) (eTm_eq _)) ?_; refine dcl (hih) ?_; refine hK _ _ (by kernel_rfl) ?_; clear hK K; refine dw_cond (t := true) rfl ?_; rw [if_pos rfl]; refine dw_seq ?_; refine dwk [] TRA_ok hnt fun K hK => ?_; refine hK _ _ ?_; clear hK K
         refine dw_ret ?_
         exact reta rfl
       ·rw [List.take_of_length_le (by omega)] at hq
        rw [hq]
        refine dw_seq ?_; refine dw_seq ?_; refine dwk [(54, .v (.int .i64 (↑a.length))), (55, .v (.bool false))] TRA_ok hnt fun K hK => ?_; refine And.intro (dintE (by rw [eTms_len])) ?_; refine And.intro auF ?_; refine hK _ _ ?_; clear hK K; refine dw_cond (t := false) rfl ?_; rw [if_neg (by simp)]; refine dw_exit ?_; refine dw_seq ?_; refine dwk [] TRA_ok hnt fun K hK => ?_; refine hK _ _ ?_; clear hK K
        refine dw_ret ?_
        exact reta rfl
      ·rw [decide_eq_false hc2, Bool.false_and]
       refine dw_seq ?_; refine dw_seq ?_; refine dwk [(17, .v (.int .i64 (↑bs.length))), (18, .v (.bool false))] TRA_ok hnt fun K hK => ?_; refine And.intro (dintE (by rw [eTys_len])) ?_; refine And.intro auF ?_; refine hK _ _ ?_; clear hK K; refine dw_cond (t := false) rfl ?_; rw [if_neg (by simp)]; refine dw_exit ?_; refine dw_seq ?_; refine dw_seq ?_; refine dwk [(36, .v (.bool false))] TRA_ok hnt fun K hK => ?_
       refine And.intro (beqF hk) ?_; refine hK _ _ ?_; clear hK K; refine dw_cond (t := false) rfl ?_; rw [if_neg (by simp)]; refine dw_skip ?_; refine dw_seq ?_; refine dw_seq ?_; refine dwk [(41, .v (.bool false)), (45, .v (.int .i64 (↑a.length))), (48, .v (.int .i64 (↑t.args.length))), (49, .v (.bool true))] TRA_ok hnt fun K hK => ?_; refine And.intro (VLe.of_eq (by congr 2; simp [hc1])) ?_; refine And.intro (dintE (by rw [eTms_len])) ?_
       refine And.intro (dintE (by rw [eTms_len])) ?_; refine And.intro (bneT (by omega)) ?_; refine hK _ _ ?_; clear hK K; refine dw_cond (t := true) rfl ?_; rw [if_pos rfl]; refine dw_seq ?_; refine dwk [] TRA_ok hnt fun K hK => ?_; refine hK _ _ ?_; clear hK K; refine dw_ret ?_
       exact reta rfl
     ·have e : (decide (k = t.kind) && decide (i = t.index)) = false := by
       by_cases h1 : k = t.kind
       ·by_cases h2 : i = t.index
        ·exact absurd ⟨h1, h2⟩ hc1
        ·simp [h2]
       ·simp [h1]
      rw [e, Bool.false_and]
      refine dw_seq ?_; refine dw_seq ?_; refine dwk [(17, .v (.int .i64 (↑bs.length))), (18, .v (.bool false))] TRA_ok hnt fun K hK => ?_; refine And.intro (dintE (by rw [eTys_len])) ?_; refine And.intro auF ?_; refine hK _ _ ?_; clear hK K; refine dw_cond (t := false) rfl ?_; rw [if_neg (by simp)]; refine dw_exit ?_; refine dw_seq ?_; refine dw_seq ?_; refine dwk [(36, .v (.bool false))] TRA_ok hnt fun K hK => ?_
      refine And.intro (beqF hk) ?_; refine hK _ _ ?_; clear hK K; refine dw_cond (t := false) rfl ?_; rw [if_neg (by simp)]; refine dw_skip ?_; refine dw_seq ?_; refine dw_seq ?_; refine dwk [(41, .v (.bool true))] TRA_ok hnt fun K hK => ?_; refine And.intro (VLe.of_eq (by congr 2; by_cases h1 : k = t.kind <;> by_cases h2 : i = t.index <;> simp_all)) ?_; refine hK _ _ ?_; clear hK K; refine dw_cond (t := true) rfl ?_
      rw [if_pos rfl]; refine dw_seq ?_; refine dwk [] TRA_ok hnt fun K hK => ?_; refine hK _ _ ?_; clear hK K; refine dw_ret ?_
      exact reta rfl
 ·have hne : bs ≠ t.binds := fun e => hlen (by rw [e])
  rw [decide_eq_false hne, Bool.false_and]
  refine calldw 0 70 [ResultVar.tmp 4] TRA_ok Try.func73 rfl Try.ntmps73 rfl fun cx hnt hn0 => ?_
  ·skip
   refine dw_seq ?_; refine dwk [] TRA_ok hnt fun K hK => ?_; refine hK _ _ ?_; clear hK K; refine dw_seq ?_; refine dw_seq ?_; refine dwk [(9, .v (.int .i64 (↑bs.length))), (12, .v (.int .i64 (↑t.binds.length))), (13, .v (.bool true))] TRA_ok hnt fun K hK => ?_; refine And.intro (dintE (by rw [eTys_len])) ?_; refine And.intro (dintE (by rw [eTys_len])) ?_; refine And.intro (bneT (by omega)) ?_; refine hK _ _ ?_; clear hK K
   refine dw_cond (t := true) rfl ?_; rw [if_pos rfl]; refine dw_seq ?_; refine dwk [] TRA_ok hnt fun K hK => ?_; refine hK _ _ ?_; clear hK K; refine dw_ret ?_
   exact reta rfl

namespace Pn
theorem getT_bfind (l : Bd) (m : Int) : getT l m = match bfind l m with | some z => (z, true) | none => (Tm.zero, false) := by
  have key : ∀ l : Bd, getP l m = l.find? fun p => p.1 == m := by
    intro l
    unfold getP
    induction l with
    | nil => rfl
    | cons p l ih =>
      rw [idxOf, List.find?_cons]
      by_cases h : p.1 = m
      · simp [h]
      · have h2 : (p.1 == m) = false := by simp [h]
        rw [if_neg h, h2, ← ih]
        cases idxOf m l <;> simp
  unfold getT bfind
  rw [key]
  cases l.find? (fun p => p.1 == m) <;> rfl
theorem bfind_ss (b : Bd) (m : Int) : bfind (So.ss b) m = bfind b m := by
  unfold bfind
  rw [← List.head?_filter, ← List.head?_filter, So.ss_same b m]
def useS (T : Tm) : List Use → Bd → Option Bd
  | [], s => some s
  | u :: l, s => match (atP u.path T).map (·.1) with
    | none => none
    | some x => if (take (.mk [] x.kind x.index x.args) u.binds u.vars).2 = 0 then (match bfind s u.mt with
      | some z => if (take (.mk [] x.kind x.index x.args) u.binds u.vars).1 = z then useS T l s else none
      | none => useS T l (So.ss (s ++ [(u.mt, (take (.mk [] x.kind x.index x.args) u.binds u.vars).1)]))) else none
theorem useS_ss (T : Tm) : ∀ (l : List Use) (b : Bd), useS T l (So.ss b) = (useB T l b).map So.ss
  | [], b => rfl
  | u :: l, b => by
    rw [useS, useB]
    cases (atP u.path T).map (·.1) with
    | none => rfl
    | some x =>
      dsimp only
      split
      · rw [bfind_ss]
        obtain ⟨y, hy⟩ : ∃ y, (take (.mk [] x.kind x.index x.args) u.binds u.vars).1 = y := ⟨_, rfl⟩
        rw [hy]
        unfold bput
        cases bfind b u.mt with
        | none =>
          dsimp only
          rw [if_pos rfl, ← useS_ss T l (b ++ [(u.mt, y)])]
          rw [show So.ss (So.ss b ++ [(u.mt, y)]) = So.ss (b ++ [(u.mt, y)]) from So.ss_cong ((So.ss_same b).app (So.Same.refl _))]
        | some z =>
          dsimp only
          by_cases h : y = z
          · rw [if_pos h, if_pos (decide_eq_true h), useS_ss T l b]
          · rw [if_neg h, if_neg (by simp [h])]; rfl
      · rfl
def refL : List (Tm × Tm) → Bd → Option Bd
  | [], s => some s
  | p :: l, s => if rigB p.1 p.2 then (useS p.2 (uses p.1 [] []).1 s).bind (refL l) else none
theorem refL_ss : ∀ (l : List (Tm × Tm)) (b : Bd), (∀ p ∈ l, (uses p.1 [] []).2 = true) → refL l (So.ss b) = (walkL l b).map So.ss
  | [], b, _ => rfl
  | p :: l, b, h => by
    have hw := walk_ok p.1 p.2 [] b [] p.2 p.2.binds (h p (by simp)) rfl
    unfold WalkOk at hw
    rw [refL, walkL]
    cases hr : rigB p.1 p.2 with
    | false =>
      rw [hr] at hw
      rw [if_neg (by simp), if_neg (by rw [hw.1]; simp)]; rfl
    | true =>
      rw [hr, Bool.true_and] at hw
      rw [if_pos rfl, useS_ss]
      cases hu : useB p.2 (uses p.1 [] []).1 b with
      | none =>
        rw [hu] at hw
        rw [if_neg (by rw [hw.1]; simp)]; rfl
      | some b' =>
        rw [hu] at hw
        have h1 : (walk p.1 p.2 [] b).1 = true := hw.1
        have h2 := hw.2 h1
        rw [if_pos h1]
        injection h2 with h2
        rw [← h2]
        show refL l (So.ss b') = _
        exact refL_ss l b' fun q hq => h q (by simp [hq])
theorem use_at (p : Tm) : ∀ (t : Tm) (ar : List Ty) (pa : List Int) (T : Tm) (l : List Ty), rigB p t = true → atP pa T = some (t, l) → ∀ u ∈ (uses p ar pa).1, ∃ r, atP u.path T = some r := by
  induction p using Tm.ind with
  | h bs k i a ih =>
    intro t ar pa T l hr hT u hu
    rw [uses_eq] at hu
    rw [rigB] at hr
    simp only [Bool.and_eq_true, Bool.or_eq_true, decide_eq_true_eq] at hr
    by_cases hk : k = 2
    · rw [if_pos hk] at hu
      cases hv : varsL ((ar ++ bs).length : Nat) a [] with
      | none => rw [hv] at hu; cases hu
      | some v => rw [hv] at hu; simp only [List.mem_singleton] at hu; subst hu; exact ⟨_, hT⟩
    · rw [if_neg hk] at hu
      rcases hr.2 with h | h
      · exact absurd h hk
      · have hlen := h.2.1
        have key : ∀ (m : List Tm) (j : Nat) (ts : List Tm), (∀ x ∈ m, x ∈ a) → t.args.drop j = ts → m.length = ts.length → rigBs m ts = true → ∀ u ∈ (usess m (ar ++ bs) pa j).1, ∃ r, atP u.path T = some r := by
          intro m
          induction m with
          | nil => intro j ts _ _ _ _ u hu; simp [usess] at hu
          | cons x m ihm =>
            intro j ts hm hd hl hr u hu
            cases ts with
            | nil => simp at hl
            | cons y ts =>
              have hj : j < t.args.length := by
                have := congrArg List.length hd
                rw [List.length_drop, List.length_cons] at this; omega
              rw [List.drop_eq_getElem_cons hj] at hd
              injection hd with hd1 hd2
              rw [rigBs, List.headD_cons, List.tail_cons, Bool.and_eq_true] at hr
              have hx := ih x (hm x (by simp)) y (ar ++ bs) (pa ++ [(j : Int)]) T _ hr.1 (by rw [atP_snoc hT hj, hd1])
              rw [usess] at hu
              split at hu
              · rcases List.mem_append.1 hu with hu | hu
                · exact hx u hu
                · exact ihm (j + 1) ts (fun y hy => hm y (by simp [hy])) hd2 (by simpa using hl) hr.2 u hu
              · exact hx u hu
        exact key a 0 t.args (fun _ h => h) rfl hlen h.2.2 u hu
theorem use_sz (p : Tm) : ∀ (ar : List Ty) (pa : List Int), ∀ u ∈ (uses p ar pa).1, Ty.sizes u.binds ≤ Ty.sizes ar + p.full ∧ u.vars.length ≤ p.full ∧ u.path.length ≤ pa.length + p.full ∧ ∀ x ∈ u.path, x ∈ pa ∨ (0 ≤ x ∧ x ≤ (p.full : Int)) := by
  induction p using Tm.ind with
  | h bs k i a ih =>
    intro ar pa u hu
    rw [uses_eq] at hu
    rw [Tm.full_eq]
    have hal := fulls_len a
    by_cases hk : k = 2
    · rw [if_pos hk] at hu
      cases hv : varsL ((ar ++ bs).length : Nat) a [] with
      | none => rw [hv] at hu; cases hu
      | some v =>
        have hvl := varsL_len _ _ _ _ hv
        rw [hv] at hu; simp only [List.mem_singleton] at hu; subst hu
        refine ⟨by dsimp only; rw [Ty.sizes_append]; omega, by dsimp only; simp at hvl; omega, by dsimp only; omega, fun x hx => .inl hx⟩
    · rw [if_neg hk] at hu
      have key : ∀ (m : List Tm) (j : Nat), (∀ x ∈ m, x ∈ a) → j + m.length ≤ a.length → ∀ u ∈ (usess m (ar ++ bs) pa j).1, ∃ x ∈ a, ∃ j' : Nat, j' ≤ a.length ∧ u ∈ (uses x (ar ++ bs) (pa ++ [(j' : Int)])).1 := by
        intro m
        induction m with
        | nil => intro j _ _ u hu; simp [usess] at hu
        | cons x m ihm =>
          intro j hm hl u hu
          rw [List.length_cons] at hl
          rw [usess] at hu
          split at hu
          · rcases List.mem_append.1 hu with hu | hu
            · exact ⟨x, hm x (by simp), j, by omega, hu⟩
            · exact ihm (j + 1) (fun y hy => hm y (by simp [hy])) (by omega) u hu
          · exact ⟨x, hm x (by simp), j, by omega, hu⟩
      obtain ⟨x, hx, j', hj', hu⟩ := key a 0 (fun _ h => h) (by omega) u hu
      obtain ⟨h1, h2, h3, h4⟩ := ih x hx _ _ u hu
      have hm := full_mem hx
      rw [Ty.sizes_append] at h1
      refine ⟨by omega, by omega, by rw [List.length_append] at h3; simp at h3; omega, fun y hy => ?_⟩
      rcases h4 y hy with h | h
      · rcases List.mem_append.1 h with h | h
        · exact .inl h
        · rw [List.mem_singleton] at h; right; omega
      · right; omega
theorem atP_part : ∀ (p : List Int) (T : Tm) (r : Tm × List Ty), atP p T = some r → lowB T = true → T.Fit → lowB r.1 = true ∧ r.1.Fit
  | [], T, r, h, hl, hf => by rw [atP] at h; cases h; exact ⟨hl, hf⟩
  | j :: p, T, r, h, hl, hf => by
    rw [atP] at h
    split at h
    · rename_i hj
      have hlt : j.toNat < T.args.length := by omega
      have e : T.args.getD j.toNat Tm.zero = T.args[j.toNat] := by rw [List.getD_eq_getElem?_getD, List.getElem?_eq_getElem hlt]; rfl
      rw [e] at h
      cases h2 : atP p T.args[j.toNat] with
      | none => rw [h2] at h; cases h
      | some r' =>
        rw [h2] at h; cases h
        have hla : ∀ u ∈ T.args, lowB u = true := by obtain ⟨b', k', i', a'⟩ := T; rw [lowB_eq] at hl; simp only [Bool.and_eq_true] at hl; exact low_mem hl.2
        exact atP_part p _ r' h2 (hla _ (List.getElem_mem hlt)) (fit_args hf _ (List.getElem_mem hlt))
    · cases h
theorem useS_app (T : Tm) : ∀ (l r : List Use) (s : Bd), useS T (l ++ r) s = (useS T l s).bind (useS T r)
  | [], r, s => rfl
  | u :: l, r, s => by
    rw [List.cons_append, useS, useS]
    cases (atP u.path T).map (·.1) with
    | none => rfl
    | some x =>
      dsimp only
      split
      · cases bfind s u.mt with
        | none => exact useS_app T l r _
        | some z =>
          dsimp only
          split
          · exact useS_app T l r _
          · rfl
      · rfl
theorem useS_at (T : Tm) (l : List Use) (j : Nat) (hj : j < l.length) {s s0 : Bd} (h : useS T (l.take j) s0 = some s) : useS T (l.take (j + 1)) s0 = useS T [l[j]] s ∧ (useS T [l[j]] s = none → useS T l s0 = none) := by
  constructor
  · rw [List.take_add_one, List.getElem?_eq_getElem hj, useS_app, h]; rfl
  · intro h0
    have e : l = l.take j ++ ([l[j]] ++ l.drop (j + 1)) := by
      rw [List.singleton_append, ← List.drop_eq_getElem_cons hj, List.take_append_drop]
    have : useS T (l.take j ++ ([l[j]] ++ l.drop (j + 1))) s0 = none := by rw [useS_app, h, Option.bind_some, useS_app, h0]; rfl
    rw [← e] at this; exact this
theorem refL_app (l r : List (Tm × Tm)) : ∀ s, refL (l ++ r) s = (refL l s).bind (refL r) := by
  induction l with
  | nil => intro s; rfl
  | cons p l ih =>
    intro s
    rw [List.cons_append, refL, refL]
    split
    · cases useS p.2 (uses p.1 [] []).1 s with
      | none => rfl
      | some b => exact ih b
    · rfl
theorem refL_at (l : List (Tm × Tm)) (j : Nat) (hj : j < l.length) {s : Bd} (h : refL (l.take j) [] = some s) : refL (l.take (j + 1)) [] = refL [l[j]] s ∧ (refL [l[j]] s = none → refL l [] = none) := by
  constructor
  · rw [List.take_add_one, List.getElem?_eq_getElem hj, refL_app, h]; rfl
  · intro h0
    have e : l = l.take j ++ ([l[j]] ++ l.drop (j + 1)) := by
      rw [List.singleton_append, ← List.drop_eq_getElem_cons hj, List.take_append_drop]
    have : refL (l.take j ++ ([l[j]] ++ l.drop (j + 1))) [] = none := by rw [refL_app, h, Option.bind_some, refL_app, h0]; rfl
    rw [← e] at this; exact this
theorem may_uses {p : Tm} (h : may p = 0) : (uses p [] []).2 = true := by
  unfold may at h
  split at h
  · cases h
  · split at h
    · cases h
    · rename_i h2; simpa using h2
theorem mayAll_mem {l : List (Tm × Tm)} (h : mayAll l = 0) : ∀ p ∈ l, may p.1 = 0 := by
  induction l with
  | nil => intro p hp; cases hp
  | cons q l ih =>
    rw [mayAll] at h
    split at h
    · rename_i h0
      intro p hp
      rcases List.mem_cons.1 hp with rfl | hp
      · exact h0
      · exact ih h p hp
    · rename_i h0; exact absurd h h0
theorem mAll_ref (l : List (Tm × Tm)) (h : mayAll l = 0) : mAll l = match refL l [] with | some s => (s, 0) | none => ([], 9) := by
  unfold mAll
  rw [if_pos h]
  have := refL_ss l [] fun p hp => may_uses (mayAll_mem h p hp)
  rw [So.ss_nil] at this
  rw [this]
  cases walkL l [] <;> rfl
end Pn
end Go.Proofs.Ytdmiekaeodcehaa

