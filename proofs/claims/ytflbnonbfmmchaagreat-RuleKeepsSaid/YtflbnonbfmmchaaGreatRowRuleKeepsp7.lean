/-
  Pairs of terms with the types of their metavariables (rule.Pair, filigreeref17.Pair), and the laws' helpers for them: To, Of, Same, Few. The readings of a row's arguments that are pairs of terms with their metavariables' types. Package subst, walked in the deep way: Apply. Package subst, walked in the deep way: through, Apply. What forms grow to where terms are put for variables: no more heads than units that are spent; plain. What is asked of the forms on the way of subst.Apply holds with small budgets; plain. The type of a head: the program's and the document's. The type of a head: the document's. Whether a term is of a type: the plain law. Terms put for variables keep types; plain. Terms put for metavariables keep types; plain. Package rule, walked in the deep way: met, term. Terms that are the same, as deep contracts. Package rule, walked in the deep way: Own, Of, Equal, Variant. The document's uses, and what is taken out, walked in the deep way. The document's numbers of a pair (order, renamed) are those of package rule. The document's answer of layer 17: order, renamed, Own, Variant. Package lift, walked in the deep way: variables, each, term. A loop over a function, whose round writes to what its own assignment laid. The reference's loose indexes, and terms that grow. The document's heads of a term. The document's Heads and Count. term.Count.
-/
import Derived.Test.YtflbnonbfmmchaaGreatRowRuleKeepsp6
import Derived.Test.YtflbnonbfmmchaaGreatRowRuleKeepsp5
import Derived.Test.YtflbnonbfmmchaaGreatRowRuleKeepsp1
import Derived.Deep.QuietTactic
import Derived.BigQuiet
import Derived.WalkSmall
set_option maxRecDepth 100000
set_option maxHeartbeats 1000000
set_option linter.unusedVariables false
set_option linter.unusedSimpArgs false
namespace Go.Proofs.YtflbnonbfmmchaaGreat
open Go.RowKit
def TPR_82 : TI := ⟨9, true, [Value.slice none 0 0, Value.int IntKind.i64 0, Value.int IntKind.i64 0, Value.slice none 0 0, Value.slice none 0 0, Value.int IntKind.i64 0, Value.int IntKind.i64 0, Value.slice none 0 0, Value.slice none 0 0], [(0, 4, true), (4, 4, true), (8, 1, false)], none, 152, 6, none, false⟩
theorem TPR_82_ok : TypOk Tryz.prog 82 TPR_82 := by constructor <;> kernel_rfl
def TPR_29 : TI := ⟨4, true, [Value.slice none 0 0, Value.int IntKind.i64 0, Value.int IntKind.i64 0, Value.slice none 0 0], [(0, 1, false), (1, 2, true), (3, 1, false)], none, 64, 6, none, false⟩
theorem TPR_29_ok : TypOk Tryz.prog 29 TPR_29 := by constructor <;> kernel_rfl
def TPR_176 : TI := ⟨1, false, [Value.slice none 0 0], [], some 82, 24, 5, none, false⟩
theorem TPR_176_ok : TypOk Tryz.prog 176 TPR_176 := by constructor <;> kernel_rfl
def TPR_86 : TI := ⟨9, true, [Value.slice none 0 0, Value.int IntKind.i64 0, Value.int IntKind.i64 0, Value.slice none 0 0, Value.slice none 0 0, Value.int IntKind.i64 0, Value.int IntKind.i64 0, Value.slice none 0 0, Value.slice none 0 0], [(0, 4, true), (4, 4, true), (8, 1, false)], none, 152, 6, none, false⟩
theorem TPR_86_ok : TypOk Tryz.prog 86 TPR_86 := by constructor <;> kernel_rfl
def TPR_22 : TI := ⟨1, false, [Value.slice none 0 0], [], some 103, 24, 5, none, false⟩
theorem TPR_22_ok : TypOk Tryz.prog 22 TPR_22 := by constructor <;> kernel_rfl
def TPR_27 : TI := ⟨1, false, [Value.slice none 0 0], [], some 29, 24, 5, none, false⟩
theorem TPR_27_ok : TypOk Tryz.prog 27 TPR_27 := by constructor <;> kernel_rfl
def TPR_24 : TI := ⟨3, true, [Value.int IntKind.i64 0, Value.slice none 0 0, Value.slice none 0 0], [(0, 1, false), (1, 1, false), (2, 1, false)], none, 56, 6, none, false⟩
theorem TPR_24_ok : TypOk Tryz.prog 24 TPR_24 := by constructor <;> kernel_rfl
def TPR_3 : TI := ⟨1, false, [Value.int IntKind.i64 0], [], none, 8, 2, none, false⟩
theorem TPR_3_ok : TypOk Tryz.prog 3 TPR_3 := by constructor <;> kernel_rfl
def TPR_103 : TI := ⟨2, true, [Value.slice none 0 0, Value.int IntKind.i64 0], [(0, 1, false), (1, 1, false)], none, 32, 6, none, false⟩
theorem TPR_103_ok : TypOk Tryz.prog 103 TPR_103 := by constructor <;> kernel_rfl
def TPR : List (Nat × TI) := [(82, TPR_82), (29, TPR_29), (176, TPR_176), (86, TPR_86), (22, TPR_22), (27, TPR_27), (24, TPR_24), (3, TPR_3), (103, TPR_103)]
theorem TPR_ok : TabOk Tryz.prog TPR := ((((((((((TabOk.nil _).cons TPR_103_ok).cons TPR_3_ok).cons TPR_24_ok).cons TPR_27_ok).cons TPR_22_ok).cons TPR_86_ok).cons TPR_176_ok).cons TPR_29_ok).cons TPR_82_ok)
namespace Li
structure Pr where
  l : Tm
  r : Tm
  m : List Ty
instance : DecidableEq Pr := fun p q => decidable_of_iff (p.l = q.l ∧ p.r = q.r ∧ p.m = q.m) (by cases p; cases q; simp)
def Pr.z : Pr := ⟨Tm.zero, Tm.zero, []⟩
end Li
def ePr (p : Li.Pr) : List D := [.sl 2 (eTys p.l.binds) none, .v (.int .i64 p.l.kind), .v (.int .i64 p.l.index), .sl 4 (eTms p.l.args) none, .sl 2 (eTys p.r.binds) none, .v (.int .i64 p.r.kind), .v (.int .i64 p.r.index), .sl 4 (eTms p.r.args) none, .sl 2 (eTys p.m) none]
theorem ePr_eq (L R : Tm) (M : List Ty) : ePr ⟨L, R, M⟩ = [.sl 2 (eTys L.binds) none, .v (.int .i64 L.kind), .v (.int .i64 L.index), .sl 4 (eTms L.args) none, .sl 2 (eTys R.binds) none, .v (.int .i64 R.kind), .v (.int .i64 R.index), .sl 4 (eTms R.args) none, .sl 2 (eTys M) none] := rfl
theorem ePr_at (p : Li.Pr) : ePr p = [.sl 2 (eTys p.l.binds) none, .v (.int .i64 p.l.kind), .v (.int .i64 p.l.index), .sl 4 (eTms p.l.args) none, .sl 2 (eTys p.r.binds) none, .v (.int .i64 p.r.kind), .v (.int .i64 p.r.index), .sl 4 (eTms p.r.args) none, .sl 2 (eTys p.m) none] := rfl
theorem ePr_z : ePr .z = [.sl 2 [] none, .v (.int .i64 0), .v (.int .i64 0), .sl 4 [] none, .sl 2 [] none, .v (.int .i64 0), .v (.int .i64 0), .sl 4 [] none, .sl 2 [] none] := rfl
@[simp] theorem ePr_ok (f g : Nat → Bool) (p : Li.Pr) : D.oks f g (ePr p) = true := by simp [ePr, D.oks, D.ok]
def ePrs (l : List Li.Pr) : List (List D) := l.map ePr
theorem ePrs_len (l : List Li.Pr) : (ePrs l).length = l.length := List.length_map ..
theorem ePrs_getD (l : List Li.Pr) (i : Nat) (h : i < l.length) : (ePrs l).getD i [] = ePr l[i] := by
  rw [ePrs, List.getD_eq_getElem?_getD, List.getElem?_map, List.getElem?_eq_getElem h]; rfl
@[simp] theorem ePrs_ok (f g : Nat → Bool) (l : List Li.Pr) : D.okss f g (ePrs l) = true := D.okss_map _ l fun l _ => ePr_ok f g l
theorem to17_d (p : Li.Pr) (h1 : p.l.full ≤ 900000) (h2 : p.r.full ≤ 900000) (h3 : Ty.sizes p.m ≤ 900000) : PureC Tryz.prog 37 [.ag (ePr p)] (.ag (ePr p)) := by
 obtain ⟨L, R, M⟩ := p
 have c1 := to6D_d L h1
 have c2 := to6D_d R h2
 have c3 := toTys_d M h3
 rw [eTm_eq] at c1 c2
 rw [ePr_eq]
 refine calldw 0 13 [ResultVar.cell 2 86] TPR_ok Tryz.func37 rfl Tryz.ntmps37 rfl fun cx hnt hn0 => ?_
 ·skip
  refine dw_seq ?_; refine dwk [] TPR_ok hnt fun K hK => ?_; refine hK _ _ ?_; clear hK K; refine dw_seq ?_; refine dwkD [] TPR_ok hnt fun K hK => ?_; refine dcl (c1) ?_; refine dcl (c2) ?_; refine dcl (c3) ?_; refine hK _ _ (by kernel_rfl) ?_; clear hK K; refine dw_ret ?_
  exact reta rfl
/-! Few -/
def fewP (p : Li.Pr) : Bool := (([p.l, p.r].all fewB) && (decide (p.m.length ≤ 20) && p.m.all few4B)) && lowsB [p.l, p.r]
theorem smallP_d (X : List Ty) : PureC Tryz.prog 9 [.ag [.v (.int .i64 0), .sl 2 (eTys []) none, .sl 2 (eTys []) none], .sl 2 (eTys X) none] (.v (.bool (decide (X.length ≤ 20) && X.all few4B))) := by
  by_cases h : X.length ≤ 20
  · have := small_d 0 [] [] X (by simp) (by simp) h
    rw [List.append_nil, List.nil_append] at this
    rw [decide_eq_true h, Bool.true_and]; exact this
  · rw [decide_eq_false h, Bool.false_and]
    exact small_no 0 [] [] X (fun h2 => h h2.2.2)
theorem fewP_ok {p : Li.Pr} (h : fewP p = true) : (p.l.full ≤ 150 ∧ p.r.full ≤ 150) ∧ p.m.length ≤ 20 ∧ (∀ t ∈ p.m, t.size ≤ 60) := by
  unfold fewP at h
  simp only [Bool.and_eq_true, List.all_cons, List.all_nil, and_true, decide_eq_true_eq] at h
  exact ⟨⟨(fewB_full h.1.1.1).1, (fewB_full h.1.1.2).1⟩, h.1.2.1, fun t ht => fewT60 (List.all_eq_true.1 h.1.2.2 t ht)⟩
set_option maxHeartbeats 2000000 in
theorem few17_d (l : List Li.Pr) (hl : l.length ≤ 1000000) : PureC Tryz.prog 34 [.sl 9 (ePrs l) none] (.v (.bool (l.all fewP))) := by
 refine calldw 0 48 [ResultVar.tmp 2] TPR_ok Tryz.func34 rfl Tryz.ntmps34 rfl fun cx hnt hn0 => ?_
 ·skip
  refine dw_seq ?_; refine dwk [] TPR_ok hnt fun K hK => ?_; refine hK _ _ ?_; clear hK K; refine dw_seq ?_; refine dw_seq ?_; refine dwk [] TPR_ok hnt fun K hK => ?_; refine hK _ _ ?_; clear hK K; refine dw_block ?_
  refine dw_loop (ι := { j : Nat // ∀ i (h : i < l.length), i < j → fewP l[i] = true }) (fun j => [(.t 0, .sl 9 (ePrs l) none), (.t 3, .v (.int .i64 ↑j.1))]) 1 (fun j => l.length - j.1) (⟨0, fun i h1 h2 => by omega⟩) (VS.toA) fun j => ?_
  obtain ⟨j, hj⟩ := j
  dsimp only
  by_cases hlt : j < l.length
  ·obtain ⟨p, hp⟩ : ∃ p, l[j] = p := ⟨_, rfl⟩
   have hgd : (ePrs l).getD j [] = [.sl 2 (eTys p.l.binds) none, .v (.int .i64 p.l.kind), .v (.int .i64 p.l.index), .sl 4 (eTms p.l.args) none, .sl 2 (eTys p.r.binds) none, .v (.int .i64 p.r.kind), .v (.int .i64 p.r.index), .sl 4 (eTms p.r.args) none, .sl 2 (eTys p.m) none] := by rw [ePrs_getD l j hlt, hp, ePr_at]
   have hF := lawFew_d [p.l, p.r] (by simp)
   have hS := smallP_d p.m
   have hbad : fewP p = false → l.all fewP = false := fun h => by rw [List.all_eq_false]; exact ⟨l[j], List.getElem_mem hlt, by rw [hp, h]; simp⟩
   have e2 : eTms [p.l, p.r] = [[.sl 2 (eTys p.l.binds) none, .v (.int .i64 p.l.kind), .v (.int .i64 p.l.index), .sl 4 (eTms p.l.args) none], [.sl 2 (eTys p.r.binds) none, .v (.int .i64 p.r.kind), .v (.int .i64 p.r.index), .sl 4 (eTms p.r.args) none]] := by rw [← eTm_eq, ← eTm_eq]; rfl
   cases h1 : [p.l, p.r].all fewB with
   | false =>
    rw [h1] at hF
    rw [hbad (by rw [fewP, h1]; rfl)]
    refine dw_seq ?_; refine dw_seq ?_; refine dwk [(6, .v (.int .i64 (↑l.length))), (7, .v (.bool true))] TPR_ok hnt fun K hK => ?_; refine And.intro (dintE (by rw [ePrs_len])) ?_; refine And.intro auT ?_; refine hK _ _ ?_; clear hK K; refine dw_cond (t := true) rfl ?_; rw [if_pos rfl]; refine dw_skip ?_; refine dw_seq ?_; refine dw_block ?_; refine dw_seq ?_; refine dwkD [(12, .q [.sl 2 (eTys p.l.binds) none, .v (.int .i64 p.l.kind), .v (.int .i64 p.l.index), .sl 4 (eTms p.l.args) none, .sl 2 (eTys p.r.binds) none, .v (.int .i64 p.r.kind), .v (.int .i64 p.r.index), .sl 4 (eTms p.r.args) none, .sl 2 (eTys p.m) none]), (17, .q [.sl 2 (eTys p.l.binds) none, .v (.int .i64 p.l.kind), .v (.int .i64 p.l.index), .sl 4 (eTms p.l.args) none, .sl 2 (eTys p.r.binds) none, .v (.int .i64 p.r.kind), .v (.int .i64 p.r.index), .sl 4 (eTms p.r.args) none, .sl 2 (eTys p.m) none]), (20, .sl 4 (eTms [p.l, p.r]) none)] TPR_ok hnt fun K hK => ?_
    refine And.intro (⟨by omega, by rw [ePrs_len]; omega⟩) ?_; refine And.intro (VLe.of_eq (by rw [Int.toNat_natCast, hgd])) ?_; refine And.intro (⟨by omega, by rw [ePrs_len]; omega⟩) ?_; refine And.intro (VLe.of_eq (by rw [Int.toNat_natCast, hgd])) ?_; refine And.intro ((by rw [e2]; exact VLe.untag _ _ _)) ?_; refine dcl (hF) ?_; refine hK _ _ (by kernel_rfl) ?_; clear hK K; refine dw_cond (t := true) rfl ?_
    rw [if_pos rfl]; refine dw_seq ?_; refine dwk [] TPR_ok hnt fun K hK => ?_; refine hK _ _ ?_; clear hK K; refine dw_ret ?_
    exact reta rfl
   | true =>
    rw [h1] at hF
    cases h2 : (decide (p.m.length ≤ 20) && p.m.all few4B) with
    | false =>
     rw [h2] at hS
     rw [hbad (by rw [fewP, h1, h2]; rfl)]
     refine dw_seq ?_; refine dw_seq ?_; refine dwk [(6, .v (.int .i64 (↑l.length))), (7, .v (.bool true))] TPR_ok hnt fun K hK => ?_; refine And.intro (dintE (by rw [ePrs_len])) ?_; refine And.intro auT ?_; refine hK _ _ ?_; clear hK K; refine dw_cond (t := true) rfl ?_; rw [if_pos rfl]; refine dw_skip ?_; refine dw_seq ?_; refine dw_block ?_; refine dw_seq ?_; refine dwkD [(12, .q [.sl 2 (eTys p.l.binds) none, .v (.int .i64 p.l.kind), .v (.int .i64 p.l.index), .sl 4 (eTms p.l.args) none, .sl 2 (eTys p.r.binds) none, .v (.int .i64 p.r.kind), .v (.int .i64 p.r.index), .sl 4 (eTms p.r.args) none, .sl 2 (eTys p.m) none]), (17, .q [.sl 2 (eTys p.l.binds) none, .v (.int .i64 p.l.kind), .v (.int .i64 p.l.index), .sl 4 (eTms p.l.args) none, .sl 2 (eTys p.r.binds) none, .v (.int .i64 p.r.kind), .v (.int .i64 p.r.index), .sl 4 (eTms p.r.args) none, .sl 2 (eTys p.m) none]), (20, .sl 4 (eTms [p.l, p.r]) none), (24, .ag [.v (.int .i64 0), .sl 2 (eTys []) none, .sl 2 (eTys []) none]), (27, .q [.sl 2 (eTys p.l.binds) none, .v (.int .i64 p.l.kind), .v (.int .i64 p.l.index), .sl 4 (eTms p.l.args) none, .sl 2 (eTys p.r.binds) none, .v (.int .i64 p.r.kind), .v (.int .i64 p.r.index), .sl 4 (eTms p.r.args) none, .sl 2 (eTys p.m) none])] TPR_ok hnt fun K hK => ?_
     refine And.intro (⟨by omega, by rw [ePrs_len]; omega⟩) ?_; refine And.intro (VLe.of_eq (by rw [Int.toNat_natCast, hgd])) ?_; refine And.intro (⟨by omega, by rw [ePrs_len]; omega⟩) ?_; refine And.intro (VLe.of_eq (by rw [Int.toNat_natCast, hgd])) ?_; refine And.intro ((by rw [e2]; exact VLe.untag _ _ _)) ?_; refine dcl (hF) ?_; refine And.intro (auV) ?_; refine And.intro (⟨by omega, by rw [ePrs_len]; omega⟩) ?_
     refine And.intro (VLe.of_eq (by rw [Int.toNat_natCast, hgd])) ?_; refine dcl (hS) ?_; refine hK _ _ (by kernel_rfl) ?_; clear hK K; refine dw_cond (t := true) rfl ?_; rw [if_pos rfl]; refine dw_seq ?_; refine dwk [] TPR_ok hnt fun K hK => ?_; refine hK _ _ ?_; clear hK K; refine dw_ret ?_
     exact reta rfl
    | true =>
     rw [h2] at hS
     have h1' := h1
     simp only [List.all_cons, List.all_nil, Bool.and_true, Bool.and_eq_true] at h1'
     have hL := low_d [p.l, p.r] (by simp) (fun t ht => by
      rcases List.mem_cons.1 ht with rfl | ht
      ·exact wide_full _ (by have := (fewB_full h1'.1).1; omega)
      ·rw [List.mem_singleton] at ht; subst ht; exact wide_full _ (by have := (fewB_full h1'.2).1; omega))
     cases h3 : lowsB [p.l, p.r] with
     | false =>
      rw [h3] at hL
      rw [hbad (by rw [fewP, h1, h2, h3]; rfl)]
      refine dw_seq ?_; refine dw_seq ?_; refine dwk [(6, .v (.int .i64 (↑l.length))), (7, .v (.bool true))] TPR_ok hnt fun K hK => ?_; refine And.intro (dintE (by rw [ePrs_len])) ?_; refine And.intro auT ?_; refine hK _ _ ?_; clear hK K; refine dw_cond (t := true) rfl ?_; rw [if_pos rfl]; refine dw_skip ?_; refine dw_seq ?_; refine dw_block ?_; refine dw_seq ?_; refine dwkD [(12, .q [.sl 2 (eTys p.l.binds) none, .v (.int .i64 p.l.kind), .v (.int .i64 p.l.index), .sl 4 (eTms p.l.args) none, .sl 2 (eTys p.r.binds) none, .v (.int .i64 p.r.kind), .v (.int .i64 p.r.index), .sl 4 (eTms p.r.args) none, .sl 2 (eTys p.m) none]), (17, .q [.sl 2 (eTys p.l.binds) none, .v (.int .i64 p.l.kind), .v (.int .i64 p.l.index), .sl 4 (eTms p.l.args) none, .sl 2 (eTys p.r.binds) none, .v (.int .i64 p.r.kind), .v (.int .i64 p.r.index), .sl 4 (eTms p.r.args) none, .sl 2 (eTys p.m) none]), (20, .sl 4 (eTms [p.l, p.r]) none), (24, .ag [.v (.int .i64 0), .sl 2 (eTys []) none, .sl 2 (eTys []) none]), (27, .q [.sl 2 (eTys p.l.binds) none, .v (.int .i64 p.l.kind), .v (.int .i64 p.l.index), .sl 4 (eTms p.l.args) none, .sl 2 (eTys p.r.binds) none, .v (.int .i64 p.r.kind), .v (.int .i64 p.r.index), .sl 4 (eTms p.r.args) none, .sl 2 (eTys p.m) none]), (36, .q [.sl 2 (eTys p.l.binds) none, .v (.int .i64 p.l.kind), .v (.int .i64 p.l.index), .sl 4 (eTms p.l.args) none, .sl 2 (eTys p.r.binds) none, .v (.int .i64 p.r.kind), .v (.int .i64 p.r.index), .sl 4 (eTms p.r.args) none, .sl 2 (eTys p.m) none]), (41, .q [.sl 2 (eTys p.l.binds) none, .v (.int .i64 p.l.kind), .v (.int .i64 p.l.index), .sl 4 (eTms p.l.args) none, .sl 2 (eTys p.r.binds) none, .v (.int .i64 p.r.kind), .v (.int .i64 p.r.index), .sl 4 (eTms p.r.args) none, .sl 2 (eTys p.m) none]), (44, .sl 4 (eTms [p.l, p.r]) none)] TPR_ok hnt fun K hK => ?_
      refine And.intro (⟨by omega, by rw [ePrs_len]; omega⟩) ?_; refine And.intro (VLe.of_eq (by rw [Int.toNat_natCast, hgd])) ?_; refine And.intro (⟨by omega, by rw [ePrs_len]; omega⟩) ?_; refine And.intro (VLe.of_eq (by rw [Int.toNat_natCast, hgd])) ?_; refine And.intro ((by rw [e2]; exact VLe.untag _ _ _)) ?_; refine dcl (hF) ?_; refine And.intro (auV) ?_; refine And.intro (⟨by omega, by rw [ePrs_len]; omega⟩) ?_
      refine And.intro (VLe.of_eq (by rw [Int.toNat_natCast, hgd])) ?_; refine dcl (hS) ?_; refine And.intro (⟨by omega, by rw [ePrs_len]; omega⟩) ?_; refine And.intro (VLe.of_eq (by rw [Int.toNat_natCast, hgd])) ?_; refine And.intro (⟨by omega, by rw [ePrs_len]; omega⟩) ?_; refine And.intro (VLe.of_eq (by rw [Int.toNat_natCast, hgd])) ?_; refine And.intro ((by rw [e2]; exact VLe.untag _ _ _)) ?_; refine dcl (hL) ?_
      refine hK _ _ (by kernel_rfl) ?_; clear hK K; refine dw_cond (t := true) rfl ?_; rw [if_pos rfl]; refine dw_seq ?_; refine dwk [] TPR_ok hnt fun K hK => ?_; refine hK _ _ ?_; clear hK K; refine dw_ret ?_
      exact reta rfl
     | true =>
      rw [h3] at hL
      refine dw_seq ?_; refine dw_seq ?_; refine dwk [(6, .v (.int .i64 (↑l.length))), (7, .v (.bool true))] TPR_ok hnt fun K hK => ?_; refine And.intro (dintE (by rw [ePrs_len])) ?_; refine And.intro auT ?_; refine hK _ _ ?_; clear hK K; refine dw_cond (t := true) rfl ?_; rw [if_pos rfl]; refine dw_skip ?_; refine dw_seq ?_; refine dw_block ?_; refine dw_seq ?_; refine dwkD [(12, .q [.sl 2 (eTys p.l.binds) none, .v (.int .i64 p.l.kind), .v (.int .i64 p.l.index), .sl 4 (eTms p.l.args) none, .sl 2 (eTys p.r.binds) none, .v (.int .i64 p.r.kind), .v (.int .i64 p.r.index), .sl 4 (eTms p.r.args) none, .sl 2 (eTys p.m) none]), (17, .q [.sl 2 (eTys p.l.binds) none, .v (.int .i64 p.l.kind), .v (.int .i64 p.l.index), .sl 4 (eTms p.l.args) none, .sl 2 (eTys p.r.binds) none, .v (.int .i64 p.r.kind), .v (.int .i64 p.r.index), .sl 4 (eTms p.r.args) none, .sl 2 (eTys p.m) none]), (20, .sl 4 (eTms [p.l, p.r]) none), (24, .ag [.v (.int .i64 0), .sl 2 (eTys []) none, .sl 2 (eTys []) none]), (27, .q [.sl 2 (eTys p.l.binds) none, .v (.int .i64 p.l.kind), .v (.int .i64 p.l.index), .sl 4 (eTms p.l.args) none, .sl 2 (eTys p.r.binds) none, .v (.int .i64 p.r.kind), .v (.int .i64 p.r.index), .sl 4 (eTms p.r.args) none, .sl 2 (eTys p.m) none]), (36, .q [.sl 2 (eTys p.l.binds) none, .v (.int .i64 p.l.kind), .v (.int .i64 p.l.index), .sl 4 (eTms p.l.args) none, .sl 2 (eTys p.r.binds) none, .v (.int .i64 p.r.kind), .v (.int .i64 p.r.index), .sl 4 (eTms p.r.args) none, .sl 2 (eTys p.m) none]), (41, .q [.sl 2 (eTys p.l.binds) none, .v (.int .i64 p.l.kind), .v (.int .i64 p.l.index), .sl 4 (eTms p.l.args) none, .sl 2 (eTys p.r.binds) none, .v (.int .i64 p.r.kind), .v (.int .i64 p.r.index), .sl 4 (eTms p.r.args) none, .sl 2 (eTys p.m) none]), (44, .sl 4 (eTms [p.l, p.r]) none)] TPR_ok hnt fun K hK => ?_
      refine And.intro (⟨by omega, by rw [ePrs_len]; omega⟩) ?_; refine And.intro (VLe.of_eq (by rw [Int.toNat_natCast, hgd])) ?_; refine And.intro (⟨by omega, by rw [ePrs_len]; omega⟩) ?_; refine And.intro (VLe.of_eq (by rw [Int.toNat_natCast, hgd])) ?_; refine And.intro ((by rw [e2]; exact VLe.untag _ _ _)) ?_; refine dcl (hF) ?_; refine And.intro (auV) ?_; refine And.intro (⟨by omega, by rw [ePrs_len]; omega⟩) ?_
      refine And.intro (VLe.of_eq (by rw [Int.toNat_natCast, hgd])) ?_; refine dcl (hS) ?_; refine And.intro (⟨by omega, by rw [ePrs_len]; omega⟩) ?_; refine And.intro (VLe.of_eq (by rw [Int.toNat_natCast, hgd])) ?_; refine And.intro (⟨by omega, by rw [ePrs_len]; omega⟩) ?_; refine And.intro (VLe.of_eq (by rw [Int.toNat_natCast, hgd])) ?_; refine And.intro ((by rw [e2]; exact VLe.untag _ _ _)) ?_; refine dcl (hL) ?_
      refine hK _ _ (by kernel_rfl) ?_; clear hK K; refine dw_cond (t := false) rfl ?_; rw [if_neg (by simp)]; refine dw_skip ?_; refine dwk [(9, .v (.int .i64 (↑(j + 1))))] TPR_ok hnt fun K hK => ?_; refine And.intro auI ?_; refine hK _ _ ?_; clear hK K
      refine ⟨⟨j + 1, fun i h1' h2' => if e : i = j then by subst e; rw [hp, fewP, h1, h2, h3]; rfl else hj i h1' (by omega)⟩, by first | omega | (dsimp only; omega), VS.toA⟩
  ·have ha : l.all fewP = true := by
    rw [List.all_eq_true]
    intro t ht
    obtain ⟨i, hi, rfl⟩ := List.getElem_of_mem ht
    exact hj i hi (by omega)
   rw [ha]
   refine dw_seq ?_; refine dw_seq ?_; refine dwk [(6, .v (.int .i64 (↑l.length))), (7, .v (.bool false))] TPR_ok hnt fun K hK => ?_; refine And.intro (dintE (by rw [ePrs_len])) ?_; refine And.intro auF ?_; refine hK _ _ ?_; clear hK K; refine dw_cond (t := false) rfl ?_; rw [if_neg (by simp)]; refine dw_exit ?_; refine dw_seq ?_; refine dwk [] TPR_ok hnt fun K hK => ?_; refine hK _ _ ?_; clear hK K; refine dw_ret ?_
   exact reta rfl
end Go.Proofs.YtflbnonbfmmchaaGreat

namespace Go.Proofs.YtflbnonbfmmchaaGreat
open Go.RowKit Go.ChangeShapes Go.WideShapes Go.ChangeAt

theorem cellsP17 : Tryz.prog.cellsOf 82 = 9 := by kernel_rfl
theorem nine_of {α : Type} {cs : List α} (h : cs.length = 9) : ∃ a b c d e f g i j, cs = [a, b, c, d, e, f, g, i, j] := by
  match cs, h with
  | [a, b, c, d, e, f, g, i, j], _ => exact ⟨a, b, c, d, e, f, g, i, j, rfl⟩
structure IsP17 (F : Nat → Prop) (w : World) (v1 v2 v3 v4 v5 v6 v7 v8 v9 : Value) (p : Li.Pr) : Prop where
  l : IsTm F w v1 v2 v3 v4 p.l
  r : IsTm F w v5 v6 v7 v8 p.r
  m : IsSl rpTy F w v9 p.m
set_option maxRecDepth 100000 in
theorem openP17 {H : Type} {enc : TypeId × Value → H} {W : World} {base : Nat} {sp : Nat → Bool} {hd : Bool} {r : Reach} {b0 : Nat} {v : Value} {d : DataW H} {p : List MemPlace}
    (hval : Value.okWide Tryz.prog W r b0 82 v) (h : DataW.Trod enc Tryz.prog W base sp hd 82 v d p) :
    ∃ v1 v2 v3 v4 v5 v6 v7 v8 v9 q, v = .agg #[v1, v2, v3, v4, v5, v6, v7, v8, v9] ∧ IsP17 (fun _ => True) W v1 v2 v3 v4 v5 v6 v7 v8 v9 q ∧ (q.l.Fit ∧ q.r.Fit) := by
  obtain ⟨n, h⟩ := h
  obtain ⟨xs, m, _, _, hl, hlen, hf⟩ := DataW.trod_struct Tryz.underlying82 h
  rw [cellsP17] at hl
  obtain ⟨v0, v1, v2, v3, v4, v5, v6, v7, v8, hv⟩ := nine_of hl
  rw [hv] at hf
  have h0 : DataW.trod enc Tryz.prog W base sp hd m 29 ([v0, v1, v2, v3, v4, v5, v6, v7, v8].take (Tryz.prog.cellsOf 29)) = xs[0]? := hf 0 _ rfl
  have h1 : DataW.trod enc Tryz.prog W base sp hd m 29 ([v4, v5, v6, v7, v8].take (Tryz.prog.cellsOf 29)) = xs[1]? := hf 1 _ rfl
  have h2 : DataW.trod enc Tryz.prog W base sp hd m 22 ([v8].take (Tryz.prog.cellsOf 22)) = xs[2]? := hf 2 _ rfl
  rw [cellsTerm] at h0 h1
  rw [cellsSR] at h2
  have hlen : xs.length = 3 := hlen
  rw [List.getElem?_eq_getElem (by omega)] at h0 h1 h2
  obtain ⟨t, ⟨b, k, j, a, hx, ht⟩, hfit⟩ := rdM enc W base sp hd m _ _ h0
  obtain ⟨t', ⟨b', k', j', a', hx', ht'⟩, hfit'⟩ := rdM enc W base sp hd m _ _ h1
  obtain ⟨ma, mn, mc, M, hmv, _, hM, _⟩ := sl_of_trod Tryz.underlying22 cellsR (by decide) (fun j hj => rdR enc W base sp hd j) h2
  have e0 : [v0, v1, v2, v3] = [b, k, j, a] := hx
  have e1 : [v4, v5, v6, v7] = [b', k', j', a'] := hx'
  have e2 : [v8] = [.slice ma mn mc] := hmv
  simp only [List.cons.injEq, and_true] at e0 e1 e2
  obtain ⟨rfl, rfl, rfl, rfl⟩ := e0
  obtain ⟨rfl, rfl, rfl, rfl⟩ := e1
  subst e2
  obtain ⟨cs, rfl, _⟩ := okWide_struct Tryz.underlying82 hval
  refine ⟨_, _, _, _, _, _, _, _, _, ⟨t, t', M⟩, ?_, ⟨ht, ht', hM⟩, hfit, hfit'⟩
  have : cs.toList = [v0, v1, v2, v3, v4, v5, v6, v7, .slice ma mn mc] := hv
  rw [← Array.toList_inj.1 (show cs.toList = (#[v0, v1, v2, v3, v4, v5, v6, v7, .slice ma mn mc] : Array Value).toList from this)]
theorem relP17 {m : Mp} {w : World} {F : Nat → Prop} {v1 v2 v3 v4 v5 v6 v7 v8 v9 : Value} {p : Li.Pr} (h : IsP17 F w v1 v2 v3 v4 v5 v6 v7 v8 v9 p) : Rel m (cellI F w) w (.agg #[v1, v2, v3, v4, v5, v6, v7, v8, v9]) (.ag (ePr p)) := by
  have e : ePr p = eTm p.l ++ (eTm p.r ++ [.sl 2 (eTys p.m) none]) := by rw [eTm_eq, eTm_eq]; rfl
  rw [e]
  exact rel_ag.2 ⟨[v1, v2, v3, v4, v5, v6, v7, v8, v9], rfl, (rel_of_tm cellI_of p.l h.l).append ((rel_of_tm cellI_of p.r h.r).append ⟨relTys h.m, trivial⟩)⟩
end Go.Proofs.YtflbnonbfmmchaaGreat

namespace Go.Proofs.YtflbnonbfmmchaaGreat
open Go.RowKit
def TS2_41 : TI := ⟨4, true, [Value.slice none 0 0, Value.int IntKind.i64 0, Value.int IntKind.i64 0, Value.slice none 0 0], [(0, 1, false), (1, 2, true), (3, 1, false)], none, 64, 6, none, false⟩
theorem TS2_41_ok : TypOk Tryz.prog 41 TS2_41 := by constructor <;> kernel_rfl
def TS2_123 : TI := ⟨3, true, [Value.pointer none, Value.slice none 0 0, Value.int IntKind.i64 0], [(0, 1, false), (1, 1, false), (2, 1, false)], none, 40, 6, none, false⟩
theorem TS2_123_ok : TypOk Tryz.prog 123 TS2_123 := by constructor <;> kernel_rfl
def TS2_45 : TI := ⟨1, false, [Value.int IntKind.i64 0], [], none, 8, 2, none, false⟩
theorem TS2_45_ok : TypOk Tryz.prog 45 TS2_45 := by constructor <;> kernel_rfl
def TS2_3 : TI := ⟨1, false, [Value.int IntKind.i64 0], [], none, 8, 2, none, false⟩
theorem TS2_3_ok : TypOk Tryz.prog 3 TS2_3 := by constructor <;> kernel_rfl
def TS2_39 : TI := ⟨1, false, [Value.slice none 0 0], [], some 41, 24, 5, none, false⟩
theorem TS2_39_ok : TypOk Tryz.prog 39 TS2_39 := by constructor <;> kernel_rfl
def TS2_33 : TI := ⟨1, false, [Value.slice none 0 0], [], some 44, 24, 5, none, false⟩
theorem TS2_33_ok : TypOk Tryz.prog 33 TS2_33 := by constructor <;> kernel_rfl
def TS2_56 : TI := ⟨1, false, [Value.pointer none], [], none, 8, 4, none, false⟩
theorem TS2_56_ok : TypOk Tryz.prog 56 TS2_56 := by constructor <;> kernel_rfl
def TS2_38 : TI := ⟨2, true, [Value.int IntKind.i64 0, Value.int IntKind.i64 0], [(0, 1, false), (1, 1, false)], none, 16, 6, none, true⟩
theorem TS2_38_ok : TypOk Tryz.prog 38 TS2_38 := by constructor <;> kernel_rfl
def TS2_51 : TI := ⟨1, false, [Value.slice none 0 0], [], some 79, 24, 5, none, false⟩
theorem TS2_51_ok : TypOk Tryz.prog 51 TS2_51 := by constructor <;> kernel_rfl
def TS2_121 : TI := ⟨1, false, [Value.pointer none], [], none, 8, 4, none, false⟩
theorem TS2_121_ok : TypOk Tryz.prog 121 TS2_121 := by constructor <;> kernel_rfl
def TS2_79 : TI := ⟨5, true, [Value.int IntKind.i64 0, Value.slice none 0 0, Value.int IntKind.i64 0, Value.int IntKind.i64 0, Value.slice none 0 0], [(0, 1, false), (1, 4, true)], none, 72, 6, none, false⟩
theorem TS2_79_ok : TypOk Tryz.prog 79 TS2_79 := by constructor <;> kernel_rfl
def TS2_174 : TI := ⟨1, false, [Value.pointer none], [], none, 8, 4, none, false⟩
theorem TS2_174_ok : TypOk Tryz.prog 174 TS2_174 := by constructor <;> kernel_rfl
def TS2_44 : TI := ⟨2, true, [Value.slice none 0 0, Value.int IntKind.i64 0], [(0, 1, false), (1, 1, false)], none, 32, 6, none, false⟩
theorem TS2_44_ok : TypOk Tryz.prog 44 TS2_44 := by constructor <;> kernel_rfl
def TS2 : List (Nat × TI) := [(41, TS2_41), (123, TS2_123), (45, TS2_45), (3, TS2_3), (39, TS2_39), (33, TS2_33), (56, TS2_56), (38, TS2_38), (51, TS2_51), (121, TS2_121), (79, TS2_79), (174, TS2_174), (44, TS2_44)]
theorem TS2_ok : TabOk Tryz.prog TS2 := ((((((((((((((TabOk.nil _).cons TS2_44_ok).cons TS2_174_ok).cons TS2_79_ok).cons TS2_121_ok).cons TS2_51_ok).cons TS2_38_ok).cons TS2_56_ok).cons TS2_33_ok).cons TS2_39_ok).cons TS2_3_ok).cons TS2_45_ok).cons TS2_123_ok).cons TS2_41_ok)

def swE (l : List (Int × Tm)) (s : Nm.St) : List (Key × D) := [(.c 0 0, .o 1), (.c 0 1, .sl 5 (ePairs l) none), (.c 0 2, .v (.int .i64 s.e)), (.o 1, .ob (BudJ s.left s.dry))]
theorem replaced_d (l : List (Int × Tm)) (t u : Tm) (s : Nm.St) (h0 : 0 ≤ s.left) (h1 : s.left ≤ 1000000000) (hu : Wide u) (ha : ∀ a ∈ t.args, Wide a)
  (ho : u.binds.length = t.args.length → (Nm.put 100001 u t.args ⟨s.left, s.dry, 0, 0⟩).2.e = 0 → DoneOk (Nm.put 100001 u t.args ⟨s.left, s.dry, 0, 0⟩).1) (he : s.e = 0) :
  CallC Tryz.prog 115 [.p 0 0, .ag (eTm t), .ag (eTm u)] (swE l s) (swE l (Sb.replaced t u s).2) (.ag (eTm (Sb.replaced t u s).1)) := by
 have hP := Put_d u t.args s.left s.dry h0 h1 hu ha
 obtain ⟨left, dry, count, er⟩ := s
 dsimp only at he h0 h1 ho hP
 subst he
 obtain ⟨bs, k, i, a⟩ := t
 dsimp only [Tm.args] at ho hP ha
 obtain ⟨p, hp⟩ : ∃ p, Sb.replaced (.mk bs k i a) u ⟨left, dry, count, 0⟩ = p := ⟨_, rfl⟩
 rw [hp]
 have hpd := hp.symm
 clear hp
 have hp1 : u.binds.length ≠ a.length → p = (Nm.tz, ⟨left, dry, count, 1⟩) := fun h => hpd.trans (if_pos h)
 have hp2 : u.binds.length = a.length → p = if (Nm.Put u a left dry).2.e ≠ 0 then (Nm.tz, ⟨(Nm.Put u a left dry).2.left, (Nm.Put u a left dry).2.dry, count, (Nm.Put u a left dry).2.e⟩) else (.mk bs (Nm.Put u a left dry).1.kind (Nm.Put u a left dry).1.index (Nm.Put u a left dry).1.args, ⟨(Nm.Put u a left dry).2.left, (Nm.Put u a left dry).2.dry, count, 0⟩) := fun h => hpd.trans (if_neg (fun h' => h' h))
 clear hpd
 obtain ⟨ub, uk, ui, ua⟩ := u
 rw [eTm_eq, eTm_eq (.mk ub uk ui ua)]
 dsimp only [Tm.binds] at hp1 hp2 ho
 refine call_of_dw 2 42 [ResultVar.cell 6 41] TS2_ok (by kernel_rfl) Tryz.func115 rfl Tryz.ntmps115 rfl (by simp) ?dwords ?dbody
 case dwords => simp [wordsOk, swE, D.ok, D.oks, rnames, inN, ckey, eTm_ok, eTms_ok, eTys_ok, ePairs_ok]
 case dbody =>
  intro cx hnt hn0
  dsimp only [Tm.binds, Tm.kind, Tm.index, Tm.args]
  refine dw_seq ?_; refine dwk [] TS2_ok hnt fun K hK => ?_; refine hK _ _ ?_; clear hK K; refine dw_seq (dw_seq ?_)
  by_cases hl : ub.length = a.length
  ·have hpd := hp2 hl
   have hP := hP (ho hl)
   obtain ⟨r, hr⟩ : ∃ r, Nm.Put (.mk ub uk ui ua) a left dry = r := ⟨_, rfl⟩
   rw [hr] at hP hpd
   clear hr
   obtain ⟨rt, rs⟩ := r
   dsimp only at hP hpd
   rw [eTm_eq, eTm_eq rt] at hP
   refine dwk [(15, .v (.bool false))] TS2_ok hnt fun K hK => ?_; refine And.intro (VLe.of_eq (by simp [eTys_len, eTms_len, hl])) ?_; refine hK _ _ ?_; clear hK K; refine dw_cond (t := false) rfl ?_; rw [if_neg (by simp)]; refine dw_skip ?_; refine dw_seq ?_; refine dwkD [] TS2_ok hnt fun K hK => ?_; refine dcl (hP) ?_; refine hK _ _ (by kernel_rfl) ?_; clear hK K; refine dw_seq (dw_seq ?_)
   by_cases hre : rs.e = 0
   ·rw [if_neg (by simp [hre])] at hpd
    subst hpd
    refine dwk [(32, .v (.bool false))] TS2_ok hnt fun K hK => ?_; refine And.intro (VLe.of_eq (by simp [hre])) ?_; refine hK _ _ ?_; clear hK K; refine dw_cond (t := false) rfl ?_; rw [if_neg (by simp)]; refine dw_skip ?_; refine dw_seq ?_; refine dwk [] TS2_ok hnt fun K hK => ?_; refine hK _ _ ?_; clear hK K; refine dw_seq ?_; refine dwk [] TS2_ok hnt fun K hK => ?_; refine hK _ _ ?_; clear hK K; refine dw_ret ?_
    rw [eTm_eq]
    exact retv (N := 0) (.inr rfl) rfl (by repeat first | exact VLe.refl _ | exact VLe.nil _ | exact VLe.untag _ _ _ | refine VLe.ag ?_ | refine VLe.tu ?_ | refine VLeL.cons ?_ ?_ | exact VLeL.nil) (by repeat first | exact trivial | refine And.intro rfl ?_)
   ·rw [if_pos hre] at hpd
    subst hpd
    refine dwk [(32, .v (.bool true))] TS2_ok hnt fun K hK => ?_; refine And.intro (VLe.of_eq (by simp [hre])) ?_; refine hK _ _ ?_; clear hK K; refine dw_cond (t := true) rfl ?_; rw [if_pos rfl]; refine dw_seq ?_; refine dwk [] TS2_ok hnt fun K hK => ?_; refine hK _ _ ?_; clear hK K; refine dw_seq ?_; refine dwk [] TS2_ok hnt fun K hK => ?_; refine hK _ _ ?_; clear hK K; refine dw_ret ?_
    rw [tz_eq]
    exact retv (N := 0) (.inr rfl) rfl (by repeat first | exact VLe.refl _ | exact VLe.nil _ | exact VLe.untag _ _ _ | refine VLe.ag ?_ | refine VLe.tu ?_ | refine VLeL.cons ?_ ?_ | exact VLeL.nil) (by repeat first | exact trivial | refine And.intro rfl ?_)
  ·have hpd := hp1 hl
   subst hpd
   refine dwk [(15, .v (.bool true))] TS2_ok hnt fun K hK => ?_; refine And.intro (VLe.of_eq (by simp [eTys_len, eTms_len]; omega)) ?_; refine hK _ _ ?_; clear hK K; refine dw_cond (t := true) rfl ?_; rw [if_pos rfl]; refine dw_seq ?_; refine dwk [] TS2_ok hnt fun K hK => ?_; refine hK _ _ ?_; clear hK K; refine dw_seq ?_; refine dwk [] TS2_ok hnt fun K hK => ?_; refine hK _ _ ?_; clear hK K; refine dw_ret ?_
   rw [tz_eq]
   exact retv (N := 0) (.inr rfl) rfl (by repeat first | exact VLe.refl _ | exact VLe.nil _ | exact VLe.untag _ _ _ | refine VLe.ag ?_ | refine VLe.tu ?_ | refine VLeL.cons ?_ ?_ | exact VLeL.nil) (by repeat first | exact trivial | refine And.intro rfl ?_)
end Go.Proofs.YtflbnonbfmmchaaGreat

namespace Go.Proofs.YtflbnonbfmmchaaGreat
open Go.RowKit

def repOk (l : List (Int × Tm)) (k i ins : Int) (q : List Tm × Nm.St) : Prop := k = 2 → q.2.e = 0 → ∀ u, Sb.find l i = some u →
  Wide u ∧ Wide (Nm.lift ins u 0) ∧ (∀ a ∈ q.1, Wide a) ∧ ((Nm.lift ins u 0).binds.length = q.1.length → (Nm.put 100001 (Nm.lift ins u 0) q.1 ⟨q.2.left, q.2.dry, 0, 0⟩).2.e = 0 → DoneOk (Nm.put 100001 (Nm.lift ins u 0) q.1 ⟨q.2.left, q.2.dry, 0, 0⟩).1)
mutual
def thOk (l : List (Int × Tm)) : Tm → Int → Nm.St → Prop
  | .mk b k i a, ins, s => s.e = 0 → (Nm.spend s).1 = true → thOks l a (Nm.wr (ins + b.length)) (Nm.spend s).2 ∧ repOk l k i (Nm.wr (ins + b.length)) (Sb.throughs l a (Nm.wr (ins + b.length)) (Nm.spend s).2)
def thOks (l : List (Int × Tm)) : List Tm → Int → Nm.St → Prop
  | [], _, _ => True
  | t :: r, ins, s => thOk l t ins s ∧ thOks l r ins (Sb.through l t ins s).2
end
def InR (s : Nm.St) : Prop := 0 ≤ s.left ∧ s.left ≤ 1000000000
theorem spend_in {s : Nm.St} (h : InR s) : InR (Nm.spend s).2 := by
  unfold InR at *
  unfold Nm.spend
  split
  · exact ⟨Int.le_refl _, by show (0 : Int) ≤ 1000000000; decide⟩
  · rename_i hc; dsimp only; omega
theorem done_in {p : Tm × Nm.St} (h : InR p.2) : InR (Nm.done p).2 := by
  unfold Nm.done
  dsimp only
  have : InR (if p.2.e = 0 ∧ ¬ (p.1.size ≤ 5000 ∧ p.1.depth ≤ 60) then Nm.fail p.2 2 else p.2) := by
    split
    · unfold Nm.fail; split <;> exact h
    · exact h
  generalize (if p.2.e = 0 ∧ ¬ (p.1.size ≤ 5000 ∧ p.1.depth ≤ 60) then Nm.fail p.2 2 else p.2) = s at this ⊢
  split <;> exact this
theorem Put_in {t : Tm} {xs : List Tm} {left : Int} {dry : Bool} (h : 0 ≤ left ∧ left ≤ 1000000000) : InR (Nm.Put t xs left dry).2 :=
  done_in (putW_wk (through_wk 100001) t xs ⟨left, dry, 0, 0⟩ ⟨h, ⟨Int.le_refl 0, (by decide : (0 : Int) ≤ 100001)⟩, fun _ => (by decide : (0 : Int) ≤ 100000)⟩).left
theorem replaced_in {t u : Tm} {s : Nm.St} (h : InR s) : InR (Sb.replaced t u s).2 := by
  unfold Sb.replaced
  dsimp only
  split
  · exact h
  · have := Put_in (t := u) (xs := t.args) (dry := s.dry) h
    split <;> exact this
theorem seqM_in {g : Tm → Nm.St → Tm × Nm.St} : ∀ (l : List Tm) (hg : ∀ t ∈ l, ∀ s, InR s → InR (g t s).2) (s : Nm.St), InR s → InR (Nm.seqM g l s).2
  | [], _, _, h => h
  | t :: l, hg, s, h => seqM_in l (fun u hu => hg u (by simp [hu])) _ (hg t (by simp) s h)
theorem through_in (l : List (Int × Tm)) : ∀ (t : Tm) (ins : Int) (s : Nm.St), InR s → InR (Sb.through l t ins s).2 := by
  intro t
  induction t using Tm.ind with
  | h bs k i a ih =>
    intro ins s h
    rw [Sb.through]
    dsimp only
    rw [Sb.throughs_seq]
    have hq := seqM_in (g := fun t s => Sb.through l t (Nm.wr (ins + bs.length)) s) a (fun t ht s hs => ih t ht _ s hs) _ (spend_in h)
    split
    · exact h
    · split
      · exact spend_in h
      · split
        · exact hq
        · split
          · exact hq
          · exact replaced_in hq
theorem thOks_at (l : List (Int × Tm)) (ins : Int) : ∀ (a : List Tm) (s : Nm.St), thOks l a ins s → ∀ j (h : j < a.length), thOk l a[j] ins (Nm.seqM (fun t s => Sb.through l t ins s) (a.take j) s).2
  | t :: a, s, h, 0, _ => by rw [thOks] at h; exact h.1
  | t :: a, s, h, j + 1, hj => by
    rw [thOks] at h
    exact thOks_at l ins a _ h.2 j (by simpa using hj)

theorem Sb_find_idx (l : List (Int × Tm)) (m : Int) : Sb.find l m = ((idxOf m l).bind fun i => l[i]?).map (·.2) := by
  rw [find_idx]
  cases idxOf m l <;> rfl
def sthE (l : List (Int × Tm)) (s : Nm.St) (bs : List Ty) (k i : Int) (a : List Tm) (ins : Int) : List (Key × D) :=
  [(.t 0, .p 0 0), (.t 2, .v (.int .i64 ins)), (.t 4, .p 2 0), (.t 6, .p 3 0), (.t 7, .p 26 0), (.c 2 0, .sl 2 (eTys bs) none), (.c 2 1, .v (.int .i64 k)), (.c 2 2, .v (.int .i64 i)), (.c 2 3, .sl 4 (eTms a) none),
   (.c 3 0, .v (.slice none 0 0)), (.c 3 1, .v (.int .i64 0)), (.c 3 2, .v (.int .i64 0)), (.c 3 3, .v (.slice none 0 0)), (.c 26 0, .sl 2 (eTys bs) none), (.c 26 1, .v (.int .i64 k)), (.c 26 2, .v (.int .i64 i)),
   (.c 0 0, .o 1), (.c 0 1, .sl 5 (ePairs l) none), (.c 0 2, .v (.int .i64 s.e)), (.o 1, .ob (BudJ s.left s.dry))]
set_option maxHeartbeats 4000000 in
theorem sthr_d (l : List (Int × Tm)) (hl : l.length ≤ 1000000) : ∀ (t : Tm) (_ : Wide t) (ins : Int) (s : Nm.St), InR s → thOk l t ins s →
  CallC Tryz.prog 65 [.p 0 0, .ag (eTm t), .v (.int .i64 ins)] (swE l s) (swE l (Sb.through l t ins s).2) (.ag (eTm (Sb.through l t ins s).1)) := by
 intro t
 induction t using Tm.ind with
 | h bs k i a ih =>
 intro ht ins s hs hok
 obtain ⟨w1, w2, w3⟩ := ht.inv
 obtain ⟨p, hp⟩ : ∃ p, Sb.through l (.mk bs k i a) ins s = p := ⟨_, rfl⟩
 rw [Sb.through, Sb.throughs_seq] at hp
 rw [thOk, Sb.throughs_seq] at hok
 obtain ⟨m, hm⟩ : ∃ m, Nm.wr (ins + (bs.length : Int)) = m := ⟨_, rfl⟩
 rw [hm] at hp hok
 have hp' : Sb.through l (.mk bs k i a) ins s = p := by rw [← hp, Sb.through, Sb.throughs_seq, hm]
 rw [hp', eTm_eq]
 have hpd := hp.symm
 dsimp only at hpd
 clear hp hp'
 have hsp := spend_d 1 s hs.1 hs.2
 have hsi := spend_in hs
 have hse := (Nm.spend_keeps s).2
 obtain ⟨g, hg⟩ : ∃ g : Tm → Nm.St → Tm × Nm.St, (fun t s => Sb.through l t m s) = g := ⟨_, rfl⟩
 have hat := thOks_at l m a (Nm.spend s).2
 rw [hg] at hpd hok hat
 obtain ⟨left, dry, count, er⟩ := s
 dsimp only at hsp hsi hse hpd hok hat
 refine call_of_dw 2 86 [ResultVar.cell 6 41] TS2_ok (by kernel_rfl) Tryz.func65 rfl Tryz.ntmps65 rfl (by simp) ?dwords ?dbody
 case dwords => simp [wordsOk, swE, D.ok, D.oks, rnames, inN, ckey, eTm_ok, eTms_ok, eTys_ok, ePairs_ok]
 case dbody =>
  intro cx hnt hn0
  dsimp only [Tm.binds, Tm.kind, Tm.index, Tm.args]
  refine dw_seq ?_; refine dwk [] TS2_ok hnt fun K hK => ?_; refine hK _ _ ?_; clear hK K; refine dw_seq (dw_seq ?_)
  by_cases he : er = 0
  ·subst he
   refine dwk [(15, .v (.bool false))] TS2_ok hnt fun K hK => ?_; refine And.intro (VLe.refl _) ?_; refine hK _ _ ?_; clear hK K; refine dw_cond (t := false) rfl ?_; rw [if_neg (by simp)]; refine dw_skip ?_; rw [if_neg (by simp)] at hpd; refine dw_seq (dw_seq ?_)
   obtain ⟨sp, hspq⟩ : ∃ sp, Nm.spend ⟨left, dry, count, 0⟩ = sp := ⟨_, rfl⟩
   rw [hspq] at hsp hsi hse hpd hok hat
   clear hspq
   obtain ⟨b, s1⟩ := sp
   dsimp only at hsp hsi hse hpd hok hat
   cases b with
   | false =>
    rw [if_pos rfl] at hpd
    subst hpd
    refine dwk [] TS2_ok hnt fun K hK => ?_; refine dcl (hsp) ?_; refine hK _ _ ?_; clear hK K; refine dw_cond (t := true) rfl ?_; rw [if_pos rfl]; refine dw_seq ?_; refine dwk [] TS2_ok hnt fun K hK => ?_; refine hK _ _ ?_; clear hK K; refine dw_seq ?_; refine dwk [] TS2_ok hnt fun K hK => ?_; refine hK _ _ ?_; clear hK K; refine dw_ret ?_
    rw [tz_eq]
    exact retv (N := 0) (.inr rfl) rfl (by repeat first | exact VLe.refl _ | exact VLe.nil _ | exact VLe.untag _ _ _ | refine VLe.ag ?_ | refine VLe.tu ?_ | refine VLeL.cons ?_ ?_ | exact VLeL.nil) (by repeat first | exact trivial | refine And.intro rfl ?_)
   | true =>
    rw [if_neg (by simp)] at hpd
    obtain ⟨hok1, hok2⟩ := hok rfl rfl
    have hat := hat hok1
    clear hok hok1
    refine dwk [] TS2_ok hnt fun K hK => ?_; refine dcl (hsp) ?_; refine hK _ _ ?_; clear hK K; refine dw_cond (t := false) rfl ?_; rw [if_neg (by simp)]; refine dw_skip ?_; refine dw_seq ?_; refine dwk [(31, .v (.int .i64 m))] TS2_ok hnt fun K hK => ?_; refine And.intro (VLe.of_eq (by rw [eTys_len, ← wr_wrap, hm])) ?_; refine hK _ _ ?_; clear hK K
    refine dw_cut (τ := (.c 26 3, .v (.slice none 0 0)) :: sthE l ⟨s1.left, s1.dry, s1.count, 0⟩ bs k i a m) (N1 := 27) ?_ ?_
    ·skip
     refine dwk [] TS2_ok hnt fun K hK => ?_; refine hK _ _ ?_; clear hK K
     exact cut_ok VS.toA
    ·have hs1 : (⟨s1.left, s1.dry, s1.count, 0⟩ : Nm.St) = s1 := by rw [← hse]
     rw [hs1]
     dsimp only [sthE]
     refine dw_seq ?_; refine dw_seq ?_; refine dwk [(39, .v (.int .i64 a.length))] TS2_ok hnt fun K hK => ?_; refine And.intro (dintE (by rw [eTms_len])) ?_; refine hK _ _ ?_; clear hK K; refine dw_block ?_
     refine dw_loop (ι := Nat) (fun j => (.t 38, .sl 4 (eTms a) none) :: (.t 39, .v (.int .i64 a.length)) :: (.t 40, .v (.int .i64 j)) :: (.c 26 3, .sl 4 (eTms (Nm.seqM g (a.take j) s1).1) (some 31)) :: (.r 31, .rw 41 4 j) :: sthE l (Nm.seqM g (a.take j) s1).2 bs k i a m) 32 (fun j => a.length - j) 0 (VS.trans (VS.row (k := 26) (off := 3) 41 4 rfl) VS.toA) fun j => ?_
     dsimp only [sthE]
     have hst : InR (Nm.seqM g (a.take j) s1).2 := seqM_in _ (fun t _ s h => by rw [← hg]; exact through_in l t m s h) _ hsi
     have hll : (Nm.seqM g (a.take j) s1).1.length = (a.take j).length := Nm.seqM_length ..
     refine dw_seq ?_
     by_cases hlt : j < a.length
     ·have hcon := ih a[j] (List.getElem_mem hlt) (w3 _ (List.getElem_mem hlt)) m (Nm.seqM g (a.take j) s1).2 hst (hat j hlt)
      have hg2 : Sb.through l a[j] m (Nm.seqM g (a.take j) s1).2 = g a[j] (Nm.seqM g (a.take j) s1).2 := by rw [← hg]
      rw [hg2] at hcon
      have hsq := Nm.seqM_take g a j hlt s1
      rw [eTm_eq, eTm_eq] at hcon
      refine dwk [(41, .v (.bool true))] TS2_ok hnt fun K hK => ?_; refine And.intro (dtrue (by omega)) ?_; refine hK _ _ ?_; clear hK K; refine dw_seq (dw_cond (t := true) rfl ?_); rw [if_pos rfl]; refine dw_skip (dw_seq (dw_block (dw_seq ?_))); refine dwk [(42, .q [.sl 2 (eTys a[j].binds) none, .v (.int .i64 a[j].kind), .v (.int .i64 a[j].index), .sl 4 (eTms a[j].args) none])] TS2_ok hnt fun K hK => ?_
      refine And.intro (⟨by omega, by rw [eTms_len]; omega⟩) ?_; refine And.intro (VLe.of_eq (by rw [Int.toNat_natCast, eTms_getD a j hlt, eTm_eq])) ?_; refine hK _ _ ?_; clear hK K; refine dwkD [(51, .sl 4 (eTms (Nm.seqM g (a.take (j + 1)) s1).1) (some 31))] TS2_ok hnt fun K hK => ?_; refine dcl (hcon) ?_; refine And.intro (⟨by rw [eTms_len, hll, List.length_take]; omega, by rw [eTms_len, hll, List.length_take]; simp; omega⟩) ?_
      refine And.intro (VLe.of_eq (by rw [hsq, eTms_append, eTms, eTms, eTm_eq (g a[j] _).1])) ?_; refine hK _ _ (by kernel_rfl) ?_; clear hK K; refine dwk [(53, .v (.int .i64 ((j + 1 : Nat) : Int)))] TS2_ok hnt fun K hK => ?_; refine And.intro (dintE (by rw [IntWalk.i64_in _ (by omega)]; omega)) ?_; refine hK _ _ ?_; clear hK K
      refine ⟨j + 1, by omega, ?_⟩
      have hl2 : (eTms (Nm.seqM g (a.take j) s1).1).length = j := by rw [eTms_len, hll, List.length_take]; omega
      rw [hsq]
      exact (by try simp only [List.length_append, List.length_take, List.length_cons, List.length_nil, Nat.zero_add, hl2]; exact VS.toA)
     ·rw [List.take_of_length_le (by omega)] at hst hll ⊢
      obtain ⟨q, hq⟩ : ∃ q, Nm.seqM g a s1 = q := ⟨_, rfl⟩
      rw [hq] at hst hll hpd hok2 ⊢
      clear hq
      obtain ⟨as', s2⟩ := q
      dsimp only at hst hll hpd hok2 ⊢
      have hen := eTms_len as'
      obtain ⟨left, dry, count, er⟩ := s2
      dsimp only at hst hpd hok2 ⊢
      refine dwk [(41, .v (.bool false))] TS2_ok hnt fun K hK => ?_; refine And.intro (dfalse (by omega)) ?_; refine hK _ _ ?_; clear hK K; refine dw_seq (dw_cond (t := false) rfl ?_); rw [if_neg (by simp)]; refine dw_exit ?_; refine dw_seq ?_; refine dw_seq ?_
      by_cases hk : k ≠ 2
      ·rw [if_pos (.inl hk)] at hpd
       subst hpd
       refine dwk [(57, .v (.bool true))] TS2_ok hnt fun K hK => ?_; refine And.intro (VLe.of_eq (by simp [hk])) ?_; refine hK _ _ ?_; clear hK K; refine dw_cond (t := true) rfl ?_; rw [if_pos rfl]; refine dw_seq ?_; refine dwk [] TS2_ok hnt fun K hK => ?_; refine hK _ _ ?_; clear hK K; refine dw_ret ?_
       rw [eTm_eq]
       exact retv (N := 0) (.inr rfl) rfl (by repeat first | exact VLe.refl _ | exact VLe.nil _ | exact VLe.untag _ _ _ | refine VLe.ag ?_ | refine VLe.tu ?_ | refine VLeL.cons ?_ ?_ | exact VLeL.nil) (by repeat first | exact trivial | refine And.intro rfl ?_)
      ·have hk : k = 2 := by simpa using hk
       by_cases her : er ≠ 0
       ·rw [if_pos (.inr her)] at hpd
        subst hpd
        refine dwk [(57, .v (.bool false)), (63, .v (.bool true))] TS2_ok hnt fun K hK => ?_; refine And.intro (VLe.of_eq (by simp [hk])) ?_; refine And.intro (VLe.of_eq (by simp [her])) ?_; refine hK _ _ ?_; clear hK K; refine dw_cond (t := true) rfl ?_; rw [if_pos rfl]; refine dw_seq ?_; refine dwk [] TS2_ok hnt fun K hK => ?_; refine hK _ _ ?_; clear hK K; refine dw_ret ?_
        rw [eTm_eq]
        exact retv (N := 0) (.inr rfl) rfl (by repeat first | exact VLe.refl _ | exact VLe.nil _ | exact VLe.untag _ _ _ | refine VLe.ag ?_ | refine VLe.tu ?_ | refine VLeL.cons ?_ ?_ | exact VLeL.nil) (by repeat first | exact trivial | refine And.intro rfl ?_)
       ·have her : er = 0 := by simpa using her
        rw [if_neg (fun h => h.elim (fun h => h hk) fun h => h her)] at hpd
        subst her
        have hok2 := hok2 hk rfl
        have hfind := sfind_d l hl i
        rw [Sb_find_idx] at hpd hok2
        refine dwk [(57, .v (.bool false)), (63, .v (.bool false))] TS2_ok hnt fun K hK => ?_; refine And.intro (VLe.of_eq (by simp [hk])) ?_; refine And.intro (VLe.refl _) ?_; refine hK _ _ ?_; clear hK K; refine dw_cond (t := false) rfl ?_; rw [if_neg (by simp)]; refine dw_skip ?_; refine dw_seq ?_
        cases hx : (idxOf i l).bind fun i => l[i]? with
        | none =>
         rw [hx] at hfind hpd
         dsimp only at hfind
         simp only [Option.map_none] at hpd
         subst hpd
         refine dwkD [] TS2_ok hnt fun K hK => ?_; refine dcl (hfind) ?_; refine hK _ _ (by kernel_rfl) ?_; clear hK K; refine dw_seq (dw_seq ?_); refine dwk [] TS2_ok hnt fun K hK => ?_; refine hK _ _ ?_; clear hK K; refine dw_cond (t := true) rfl ?_; rw [if_pos rfl]; refine dw_seq ?_; refine dwk [] TS2_ok hnt fun K hK => ?_; refine hK _ _ ?_; clear hK K; refine dw_ret ?_
         rw [eTm_eq]
         exact retv (N := 0) (.inr rfl) rfl (by repeat first | exact VLe.refl _ | exact VLe.nil _ | exact VLe.untag _ _ _ | refine VLe.ag ?_ | refine VLe.tu ?_ | refine VLeL.cons ?_ ?_ | exact VLeL.nil) (by repeat first | exact trivial | refine And.intro rfl ?_)
        | some pr =>
         rw [hx] at hfind hpd hok2
         simp only [Option.map_some] at hpd hok2
         obtain ⟨o1, o2, o3, o4⟩ := hok2 pr.2 rfl
         have hgr := grown_d pr.2 o1 m 0
         obtain ⟨v, hv⟩ : ∃ v, Nm.lift m pr.2 0 = v := ⟨_, rfl⟩
         rw [hv] at hpd hgr o2 o4
         have hrep := replaced_d l (.mk bs k i as') v ⟨left, dry, count, 0⟩ hst.1 hst.2 o2 o3 o4 rfl
         rw [← hpd] at hrep
         dsimp only at hfind
         rw [ePair_eq] at hfind
         rw [eTm_eq, eTm_eq] at hgr
         rw [eTm_eq, eTm_eq, eTm_eq] at hrep
         refine dwkD [] TS2_ok hnt fun K hK => ?_; refine dcl (hfind) ?_; refine hK _ _ (by kernel_rfl) ?_; clear hK K; refine dw_seq (dw_seq ?_); refine dwk [] TS2_ok hnt fun K hK => ?_; refine hK _ _ ?_; clear hK K; refine dw_cond (t := false) rfl ?_; rw [if_neg (by simp)]; refine dw_skip ?_; refine dw_seq ?_; refine dwkD [(78, .ag [.sl 2 (eTys bs) none, .v (.int .i64 k), .v (.int .i64 i), .sl 4 (eTms as') none])] TS2_ok hnt fun K hK => ?_
         refine And.intro (auV) ?_; refine dcl (hgr) ?_; refine dcl (hrep) ?_; refine hK _ _ (by kernel_rfl) ?_; clear hK K; refine dw_ret ?_
         rw [eTm_eq]
         exact retv (N := 0) (.inr rfl) rfl (by repeat first | exact VLe.refl _ | exact VLe.nil _ | exact VLe.untag _ _ _ | refine VLe.ag ?_ | refine VLe.tu ?_ | refine VLeL.cons ?_ ?_ | exact VLeL.nil) (by repeat first | exact trivial | refine And.intro rfl ?_)
  ·rw [if_pos he] at hpd
   subst hpd
   refine dwk [(15, .v (.bool true))] TS2_ok hnt fun K hK => ?_; refine And.intro (VLe.of_eq (by simp [he])) ?_; refine hK _ _ ?_; clear hK K; refine dw_cond (t := true) rfl ?_; rw [if_pos rfl]; refine dw_seq ?_; refine dwk [] TS2_ok hnt fun K hK => ?_; refine hK _ _ ?_; clear hK K; refine dw_ret ?_
   rw [tz_eq]
   exact retv (N := 0) (.inr rfl) rfl (by repeat first | exact VLe.refl _ | exact VLe.nil _ | exact VLe.untag _ _ _ | refine VLe.ag ?_ | refine VLe.tu ?_ | refine VLeL.cons ?_ ?_ | exact VLeL.nil) (by repeat first | exact trivial | refine And.intro rfl ?_)
end Go.Proofs.YtflbnonbfmmchaaGreat

namespace Go.Proofs.YtflbnonbfmmchaaGreat
open Go.RowKit
inductive Bnd (B : Nat) : Tm → Prop where
  | mk (b : List Ty) (k i : Int) (a : List Tm) : Ty.sizes b ≤ B → -9223372036854775808 ≤ i ∧ i ≤ 9223372036854775807 → (∀ u ∈ a, Bnd B u) → Bnd B (.mk b k i a)
namespace Bnd
variable {B : Nat}
theorem inv {b : List Ty} {k i : Int} {a : List Tm} (h : Bnd B (.mk b k i a)) : Ty.sizes b ≤ B ∧ (-9223372036854775808 ≤ i ∧ i ≤ 9223372036854775807) ∧ ∀ u ∈ a, Bnd B u := by
  cases h with
  | mk _ _ _ _ h1 h2 h3 => exact ⟨h1, h2, h3⟩
theorem parts {t : Tm} (h : Bnd B t) : Ty.sizes t.binds ≤ B ∧ (-9223372036854775808 ≤ t.index ∧ t.index ≤ 9223372036854775807) ∧ ∀ u ∈ t.args, Bnd B u := by
  obtain ⟨b, k, i, a⟩ := t; exact h.inv
theorem fit (t : Tm) : Bnd B t → t.Fit := by
  induction t using Tm.ind with
  | h b k i a ih =>
    intro h
    obtain ⟨_, h2, h3⟩ := h.inv
    exact Tm.fit_iff.2 ⟨h2.1, h2.2, fun u hu => ih u hu (h3 u hu)⟩
theorem fulls_of {l : List Tm} (h : ∀ t ∈ l, t.full ≤ t.size * (B + 1)) : Tm.fulls l ≤ Tm.sizes l * (B + 1) := by
  induction l with
  | nil => simp [Tm.fulls, Tm.sizes]
  | cons t l ih =>
    have h1 := h t (by simp)
    have h2 := ih fun u hu => h u (by simp [hu])
    simp only [Tm.fulls, Tm.sizes]
    rw [Nat.add_mul]; omega
theorem full (t : Tm) : Bnd B t → t.full ≤ t.size * (B + 1) := by
  induction t using Tm.ind with
  | h b k i a ih =>
    intro h
    obtain ⟨h1, _, h3⟩ := h.inv
    have := fulls_of fun u hu => ih u hu (h3 u hu)
    rw [Tm.full_eq, Tm.size_eq, Nat.add_mul]; omega
theorem of_full (t : Tm) : t.full ≤ B → t.Fit → Bnd B t := by
  induction t using Tm.ind with
  | h b k i a ih =>
    intro h hf
    rw [Tm.full_eq] at h
    obtain ⟨f1, f2, f3⟩ := Tm.fit_iff.1 hf
    exact .mk _ _ _ _ (by omega) ⟨f1, f2⟩ fun u hu => ih u hu (by have := Tm.full_mem hu; omega) (f3 u hu)
theorem wr_in (x : Int) : -9223372036854775808 ≤ Nm.wr x ∧ Nm.wr x ≤ 9223372036854775807 := wf_i64 (wrap64_wf x)
theorem lift (t : Tm) (y ins : Int) : Bnd B t → Bnd B (Nm.lift y t ins) := by
  induction t using Tm.ind generalizing ins with
  | h b k i a ih =>
    intro h
    obtain ⟨h1, h2, h3⟩ := h.inv
    rw [Nm.lift_eq, Nm.lifts_map]
    refine .mk _ _ _ _ h1 (by split; exact wr_in _; exact h2) fun u hu => ?_
    obtain ⟨v, hv, rfl⟩ := List.mem_map.1 hu
    exact ih v hv _ (h3 v hv)
theorem grown {t : Tm} (h : Bnd B t) (y : Int) : Bnd B (Nm.grown t y) := by
  unfold Nm.grown; split
  · exact h
  · exact lift t y 0 h
theorem tz : Bnd B Nm.tz := .mk _ _ _ _ (by simp [Ty.sizes]) (by decide) fun u h => by cases h
theorem body {t : Tm} (h : Bnd B t) : Bnd B (.mk [] t.kind t.index t.args) := .mk _ _ _ _ (by simp [Ty.sizes]) h.parts.2.1 h.parts.2.2
theorem drop_sizes (l : List Ty) (n : Nat) : Ty.sizes (l.drop n) ≤ Ty.sizes l := by
  have := Ty.sizes_append (l.take n) (l.drop n)
  rw [List.take_append_drop] at this; omega
theorem getD {xs : List Tm} (h : ∀ x ∈ xs, Bnd B x) (j : Nat) : Bnd B (xs.getD j Nm.tz) := by
  rw [List.getD_eq_getElem?_getD]
  by_cases hj : j < xs.length
  · rw [List.getElem?_eq_getElem hj]; exact h _ (List.getElem_mem hj)
  · rw [List.getElem?_eq_none (by omega)]; exact tz
theorem wide (t : Tm) : Bnd B t → t.size ≤ 100000 → B ≤ 100000 → Wide t := by
  induction t using Tm.ind with
  | h b k i a ih =>
    intro h hs hB
    obtain ⟨h1, _, h3⟩ := h.inv
    rw [Tm.size_eq] at hs
    refine .mk _ _ _ _ (by have := Ty.le_sizes b; omega) (by have := Tm.len_sizes a; omega) fun u hu => ih u hu (h3 u hu) (by have := Tm.size_mem hu; omega) hB
end Bnd
namespace Nm
theorem unit_left {s : St} (h : (unit s).1 = true) : (unit s).2.left = s.left - 1 := by
  unfold unit at h ⊢
  split
  · rename_i he; rw [if_pos he] at h; cases h
  · rename_i he
    rw [if_neg he] at h
    split
    · rename_i hc; rw [if_pos hc] at h; cases h
    · rename_i hc
      rw [if_neg hc] at h
      have hsp : ∀ p, spend s = p → p.1 = true → p.2.left = s.left - 1 := fun p hp h1 => by
        unfold spend at hp
        split at hp
        · subst hp; cases h1
        · subst hp; rfl
      generalize hp : spend s = p at h ⊢
      obtain ⟨ok, s'⟩ := p
      cases ok
      · cases h
      · exact hsp (true, s') hp rfl
def Gr (B f : Nat) (t : Tm) (s : St) (p : Tm × St) : Prop := p.2.e = 0 → s.e = 0 ∧ (p.1.size : Int) + p.2.left ≤ s.left ∧ Bnd B p.1
def Fu (f : Nat) (s : St) : Prop := s.e = 0 → 100001 - s.count ≤ f
theorem seqM_grow {B f : Nat} {g : Tm → St → Tm × St} : ∀ (l : List Tm) (hg : ∀ t ∈ l, ∀ s, WkOk s → Fu f s → Gr B f t s (g t s)) (hw : ∀ t s, WkOk s → WkOk (g t s).2) (hc : ∀ t s, s.count ≤ (g t s).2.count) (s : St), WkOk s → Fu f s →
    (seqM g l s).2.e = 0 → s.e = 0 ∧ (Tm.sizes (seqM g l s).1 : Int) + (seqM g l s).2.left ≤ s.left ∧ ∀ u ∈ (seqM g l s).1, Bnd B u
  | [], _, _, _, s, _, _, h => ⟨h, by simp [seqM, Tm.sizes], fun u hu => by cases hu⟩
  | t :: l, hg, hw, hc, s, hs, hf, h => by
    have h1 := hg t (by simp) s hs hf
    have h2 := seqM_grow l (fun u hu => hg u (by simp [hu])) hw hc (g t s).2 (hw t s hs) (fun e => by
      have := hf (h1 e).1
      have := hc t s
      omega) h
    have h3 := h1 h2.1
    refine ⟨h3.1, ?_, fun u hu => ?_⟩
    · simp only [seqM, Tm.sizes]
      have := h2.2.1
      have := h3.2.1
      omega
    · rcases List.mem_cons.1 hu with rfl | hu
      · exact h3.2.2
      · exact h2.2.2 u hu
theorem fail_ne (s : St) : (fail s 1).e ≠ 0 := by
  unfold fail; split
  · show (1 : Int) ≠ 0; decide
  · assumption
def GrThr (B f : Nat) (thr : Thr) : Prop := ∀ xs n t ins s, WkOk s → Fu f s → (∀ x ∈ xs, Bnd B x) → Bnd B t → Gr B f t s (thr xs n t ins s)
theorem putW_grow {B f : Nat} {thr : Thr} (h : GrThr B f thr) {t : Tm} {xs : List Tm} {s : St} (hs : WkOk s) (hf : Fu f s) (ht : Bnd B t) (hx : ∀ x ∈ xs, Bnd B x) : Gr B f t s (putW thr t xs s) := by
  unfold putW
  split
  · intro e; exact absurd e (fail_ne s)
  · intro e
    have h1 := h xs t.binds.length (.mk [] t.kind t.index t.args) 0 s hs hf hx ht.body e
    refine ⟨h1.1, ?_, ?_⟩
    · have hsz : (Tm.mk (t.binds.drop xs.length) (thr xs t.binds.length (.mk [] t.kind t.index t.args) 0 s).1.kind (thr xs t.binds.length (.mk [] t.kind t.index t.args) 0 s).1.index (thr xs t.binds.length (.mk [] t.kind t.index t.args) 0 s).1.args).size = (thr xs t.binds.length (.mk [] t.kind t.index t.args) 0 s).1.size := by
        generalize (thr xs t.binds.length (.mk [] t.kind t.index t.args) 0 s).1 = r
        obtain ⟨b, k, i, a⟩ := r
        rw [Tm.size_eq, Tm.size_eq]; rfl
      dsimp only
      rw [hsz]; exact h1.2.1
    · have hr := h1.2.2.parts
      exact .mk _ _ _ _ (Nat.le_trans (Bnd.drop_sizes _ _) ht.parts.1) hr.2.1 hr.2.2
theorem hit_grow {B f : Nat} {thr : Thr} (h : GrThr B f thr) {xs : List Tm} {n : Nat} {t : Tm} {ins : Int} {args : List Tm} {s : St} (hs : WkOk s) (hf : Fu f s) (ht : Bnd B t) (hx : ∀ x ∈ xs, Bnd B x) (ha : ∀ a ∈ args, Bnd B a) :
    (hit thr xs n t ins args s).2.e = 0 → s.e = 0 ∧ ((hit thr xs n t ins args s).1.size : Int) + (hit thr xs n t ins args s).2.left ≤ s.left + Tm.sizes args + 1 ∧ Bnd B (hit thr xs n t ins args s).1 := by
  obtain ⟨t1, t2, t3⟩ := ht.parts
  unfold hit
  split
  · intro e; exact ⟨e, by dsimp only; rw [Tm.size_eq]; omega, .mk _ _ _ _ t1 t2 ha⟩
  · dsimp only
    split
    · intro e; exact ⟨e, by dsimp only; rw [Tm.size_eq]; omega, .mk _ _ _ _ t1 t2 ha⟩
    · split
      · intro e; exact ⟨e, by dsimp only; rw [Tm.size_eq]; omega, .mk _ _ _ _ t1 (Bnd.wr_in _) ha⟩
      · split
        · intro e; exact absurd e (fail_ne s)
        · intro e
          have hu : Bnd B (grown (xs.getD ((n : Int) - 1 - wr (t.index - ins)).toNat tz) (wr (wr (ins + n) - xs.length))) := (Bnd.getD hx _).grown _
          have h1 := putW_grow h hs hf hu ha e
          refine ⟨h1.1, ?_, ?_⟩
          · have h2 := h1.2.1
            generalize (putW thr (grown (xs.getD ((n : Int) - 1 - wr (t.index - ins)).toNat tz) (wr (wr (ins + n) - xs.length))) args s) = r at h2 ⊢
            obtain ⟨⟨b, k, i, a⟩, s'⟩ := r
            dsimp only at h2 ⊢
            rw [Tm.size_eq] at h2 ⊢
            show ((Tm.sizes a + 1 : Nat) : Int) + s'.left ≤ _
            omega
          · have h2 := h1.2.2.parts
            exact .mk _ _ _ _ t1 h2.2.1 h2.2.2
theorem through_grow (B : Nat) : ∀ f, GrThr B f (through f)
  | 0 => fun xs n t ins s hs hf _ _ e => by
    have e' : s.e = 0 := e
    have h1 := hf e'
    have h2 := hs.e0 e'
    omega
  | f + 1 => fun xs n t ins s hs hf hx ht => by
    have ih := through_grow B f
    intro e
    unfold through at e ⊢
    dsimp only at e ⊢
    by_cases hu : (unit s).1 = true
    · rw [if_pos hu] at e ⊢
      obtain ⟨u1, u2, u3⟩ := (unit_count s).2 hu
      have ul := unit_left hu
      have hw := unit_wk hs
      have hf1 : Fu f (unit s).2 := fun _ => by have := hf u2; omega
      have hq := seqM_grow (B := B) (f := f) (g := fun a s => through f xs n a (wr (ins + t.binds.length)) s) t.args (fun u hu s hs hf => ih xs n u _ s hs hf hx (ht.parts.2.2 u hu)) (fun u s h => through_wk f _ _ _ _ _ h) (fun u s => through_count f _ _ _ _ _) (unit s).2 hw hf1
      have hqw := seqM_wk (g := fun a s => through f xs n a (wr (ins + t.binds.length)) s) (fun u s h => through_wk f _ _ _ _ _ h) t.args _ hw
      have hqc := seqM_count (g := fun a s => through f xs n a (wr (ins + t.binds.length)) s) (fun u s => through_count f _ _ _ _ _) t.args (unit s).2
      generalize seqM (fun a s => through f xs n a (wr (ins + t.binds.length)) s) t.args (unit s).2 = q at e hq hqw hqc ⊢
      by_cases hqe : q.2.e = 0
      · have hq := hq hqe
        have h1 := hit_grow ih (xs := xs) (n := n) (t := t) (ins := wr (ins + t.binds.length)) (args := q.1) (s := q.2) hqw (fun _ => by have := hf1 u3; omega) ht hx hq.2.2 e
        exact ⟨u2, by have := h1.2.1; have := hq.2.1; omega, h1.2.2⟩
      · exfalso
        have hx2 : ∀ p, hit (through f) xs n t (wr (ins + t.binds.length)) q.1 q.2 = p → p.2.e = 0 → q.2.e = 0 := fun p hp hpe => by
          unfold hit at hp
          split at hp
          · subst hp; exact hpe
          · dsimp only at hp
            split at hp
            · subst hp; exact hpe
            · split at hp
              · subst hp; exact hpe
              · split at hp
                · subst hp; exact absurd hpe (fail_ne _)
                · subst hp
                  unfold putW at hpe
                  rw [if_pos (.inl hqe)] at hpe
                  exact absurd hpe (fail_ne _)
        exact hqe (hx2 _ rfl e)
    · rw [if_neg hu] at e
      exfalso
      have : (unit s).1 = false := by simpa using hu
      have h2 : ∀ p, unit s = p → p.1 = false → p.2.e ≠ 0 := fun p hp h1 => by
        unfold unit at hp
        split at hp
        · subst hp; assumption
        · split at hp
          · subst hp; show (2 : Int) ≠ 0; decide
          · generalize spend s = r at hp
            obtain ⟨ok, s'⟩ := r
            cases ok
            · subst hp; show (11 : Int) ≠ 0; decide
            · subst hp; cases h1
      exact h2 _ rfl this e
end Nm
end Go.Proofs.YtflbnonbfmmchaaGreat

namespace Go.Proofs.YtflbnonbfmmchaaGreat
open Go.RowKit
namespace Sb
variable {B : Nat}
theorem find_mem {l : List (Int × Tm)} {i : Int} {u : Tm} (h : find l i = some u) : ∃ p ∈ l, p.2 = u := by
  unfold find at h
  cases hf : l.find? (fun p => p.1 == i) with
  | none => rw [hf] at h; cases h
  | some p => rw [hf] at h; cases h; exact ⟨p, List.mem_of_find?_eq_some hf, rfl⟩
theorem Put_grow {u : Tm} {xs : List Tm} {left : Int} {dry : Bool} (h0 : 0 ≤ left ∧ left ≤ 1000000000) (hu : Bnd B u) (hx : ∀ x ∈ xs, Bnd B x) :
    (Nm.Put u xs left dry).2.e = 0 → ((Nm.Put u xs left dry).1.size : Int) + (Nm.Put u xs left dry).2.left ≤ left ∧ Bnd B (Nm.Put u xs left dry).1 := by
  have h1 := Nm.putW_grow (Nm.through_grow B 100001) (t := u) (xs := xs) (s := ⟨left, dry, 0, 0⟩) ⟨h0, ⟨Int.le_refl 0, (by decide : (0 : Int) ≤ 100001)⟩, fun _ => (by decide : (0 : Int) ≤ 100000)⟩ (fun _ => by show (100001 : Int) - 0 ≤ ((100001 : Nat) : Int); decide) hu hx
  unfold Nm.Put Nm.done
  dsimp only
  show _
  have h2 : Nm.put 100001 u xs ⟨left, dry, 0, 0⟩ = Nm.putW (Nm.through 100001) u xs ⟨left, dry, 0, 0⟩ := rfl
  rw [h2]
  generalize Nm.putW (Nm.through 100001) u xs ⟨left, dry, 0, 0⟩ = p at h1
  intro e
  have key : p.2.e = 0 ∧ (p.1.size ≤ 5000 ∧ p.1.depth ≤ 60) := by
    by_cases hc : p.2.e = 0 ∧ ¬ (p.1.size ≤ 5000 ∧ p.1.depth ≤ 60)
    · exfalso
      rw [if_pos hc] at e
      have hf : (Nm.fail p.2 2).e = 2 := by unfold Nm.fail; rw [if_pos hc.1]
      rw [if_pos (by rw [hf]; decide)] at e
      rw [hf] at e; cases e
    · rw [if_neg hc] at e
      by_cases hp : p.2.e = 0
      · exact ⟨hp, by
          by_cases h5 : p.1.size ≤ 5000 ∧ p.1.depth ≤ 60
          · exact h5
          · exact absurd ⟨hp, h5⟩ hc⟩
      · rw [if_pos hp] at e; exact absurd e hp
  have hc : ¬ (p.2.e = 0 ∧ ¬ (p.1.size ≤ 5000 ∧ p.1.depth ≤ 60)) := fun h => h.2 key.2
  rw [if_neg hc, if_neg (fun h => h key.1)]
  have h3 := h1 key.1
  exact ⟨h3.2.1, h3.2.2⟩
theorem seq_grow {g : Tm → Nm.St → Tm × Nm.St} : ∀ (a : List Tm) (hg : ∀ t ∈ a, ∀ s, InR s → (g t s).2.e = 0 → s.e = 0 ∧ ((g t s).1.size : Int) + (g t s).2.left ≤ s.left ∧ Bnd B (g t s).1) (hi : ∀ t ∈ a, ∀ s, InR s → InR (g t s).2) (s : Nm.St), InR s →
    (Nm.seqM g a s).2.e = 0 → s.e = 0 ∧ (Tm.sizes (Nm.seqM g a s).1 : Int) + (Nm.seqM g a s).2.left ≤ s.left ∧ ∀ u ∈ (Nm.seqM g a s).1, Bnd B u
  | [], _, _, s, _, h => ⟨h, by simp [Nm.seqM, Tm.sizes], fun u hu => by cases hu⟩
  | t :: a, hg, hi, s, hs, h => by
    have h2 := seq_grow a (fun u hu => hg u (by simp [hu])) (fun u hu => hi u (by simp [hu])) (g t s).2 (hi t (by simp) s hs) h
    have h3 := hg t (by simp) s hs h2.1
    refine ⟨h3.1, ?_, fun u hu => ?_⟩
    · simp only [Nm.seqM, Tm.sizes]
      have := h2.2.1
      have := h3.2.1
      omega
    · rcases List.mem_cons.1 hu with rfl | hu
      · exact h3.2.2
      · exact h2.2.2 u hu
theorem spend_ok {s : Nm.St} (h : (Nm.spend s).1 = true) : (Nm.spend s).2.left = s.left - 1 ∧ (Nm.spend s).2.e = s.e := by
  unfold Nm.spend at h ⊢
  split
  · rename_i hc; rw [if_pos hc] at h; cases h
  · exact ⟨rfl, rfl⟩
theorem grow (l : List (Int × Tm)) (hl : ∀ p ∈ l, Bnd B p.2) : ∀ t : Tm, Bnd B t → ∀ (ins : Int) (s : Nm.St), InR s → (through l t ins s).2.e = 0 → s.e = 0 ∧ ((through l t ins s).1.size : Int) + (through l t ins s).2.left ≤ s.left ∧ Bnd B (through l t ins s).1 := by
  intro t
  induction t using Tm.ind with
  | h b k i a ih =>
    intro ht ins s hs
    obtain ⟨t1, t2, t3⟩ := ht.inv
    rw [through]
    dsimp only
    split
    · intro e; exact absurd e (by assumption)
    · rename_i he
      have he0 : s.e = 0 := by omega
      split
      · intro e; cases e
      · rename_i hsp
        have hsp : (Nm.spend s).1 = true := by simpa using hsp
        obtain ⟨s1, s2⟩ := spend_ok hsp
        rw [throughs_seq]
        have hin := spend_in hs
        have hq := seq_grow (B := B) (g := fun t s => through l t (Nm.wr (ins + b.length)) s) a (fun u hu s hs => ih u hu (t3 u hu) _ s hs) (fun u hu s hs => through_in l u _ s hs) (Nm.spend s).2 hin
        have hqi := seqM_in (g := fun t s => through l t (Nm.wr (ins + b.length)) s) a (fun u hu s hs => through_in l u _ s hs) _ hin
        generalize Nm.seqM (fun t s => through l t (Nm.wr (ins + b.length)) s) a (Nm.spend s).2 = q at hq hqi ⊢
        have plain : q.2.e = 0 → s.e = 0 ∧ ((Tm.mk b k i q.1).size : Int) + q.2.left ≤ s.left ∧ Bnd B (.mk b k i q.1) := fun e => by
          have h1 := hq e
          refine ⟨he0, ?_, .mk _ _ _ _ t1 t2 h1.2.2⟩
          rw [Tm.size_eq]
          have := h1.2.1
          omega
        split
        · exact plain
        · rename_i hk
          have hqe : q.2.e = 0 := by
            by_cases h : q.2.e = 0
            · exact h
            · exact absurd (.inr h) hk
          have h1 := hq hqe
          split
          · exact plain
          · rename_i u hu
            obtain ⟨p, hp, rfl⟩ := find_mem hu
            unfold replaced
            split
            · intro e; cases e
            · dsimp only
              have hP := Put_grow (B := B) (u := Nm.lift (Nm.wr (ins + b.length)) p.2 0) (xs := q.1) (left := q.2.left) (dry := q.2.dry) hqi (Bnd.lift _ _ _ (hl p hp)) h1.2.2
              have harg : (Tm.mk b k i q.1).args = q.1 := rfl
              rw [harg]
              generalize Nm.Put (Nm.lift (Nm.wr (ins + b.length)) p.2 0) q.1 q.2.left q.2.dry = r at hP
              split
              · rename_i hr; intro e; exact absurd e hr
              · rename_i hr
                have hr0 : r.2.e = 0 := by omega
                obtain ⟨h2, h3⟩ := hP hr0
                intro _
                obtain ⟨⟨rb, rk, ri, rg⟩, rs⟩ := r
                dsimp only at h2 h3 ⊢
                have hp3 := h3.inv
                rw [Tm.size_eq] at h2
                have h4 := h1.2.1
                refine ⟨he0, ?_, .mk _ _ _ _ t1 hp3.2.1 hp3.2.2⟩
                show (((Tm.sizes rg + 1 : Nat)) : Int) + rs.left ≤ s.left
                omega
theorem put_grow {u : Tm} {xs : List Tm} {left : Int} {dry : Bool} (h0 : 0 ≤ left ∧ left ≤ 1000000000) (hu : Bnd B u) (hx : ∀ x ∈ xs, Bnd B x) :
    (Nm.put 100001 u xs ⟨left, dry, 0, 0⟩).2.e = 0 → ((Nm.put 100001 u xs ⟨left, dry, 0, 0⟩).1.size : Int) ≤ left ∧ Bnd B (Nm.put 100001 u xs ⟨left, dry, 0, 0⟩).1 := fun e => by
  have hw : WkOk ⟨left, dry, 0, 0⟩ := ⟨h0, ⟨Int.le_refl 0, (by decide : (0 : Int) ≤ 100001)⟩, fun _ => (by decide : (0 : Int) ≤ 100000)⟩
  have h1 := Nm.putW_grow (Nm.through_grow B 100001) (t := u) (xs := xs) hw (fun _ => by show (100001 : Int) - 0 ≤ ((100001 : Nat) : Int); decide) hu hx e
  have h2 := (putW_wk (through_wk 100001) u xs _ hw).left.1
  have h3 := h1.2.1
  have h4 : Nm.put 100001 u xs ⟨left, dry, 0, 0⟩ = Nm.putW (Nm.through 100001) u xs ⟨left, dry, 0, 0⟩ := rfl
  rw [h4]
  exact ⟨by dsimp only at h3; omega, h1.2.2⟩
theorem done_ok {L : Nat} (hLB : L * (B + 1) ≤ 4400000) (hB : B ≤ 170) {t : Tm} (h : Bnd B t) (hs : t.size ≤ L) : DoneOk t := by
  have h1 := Bnd.full t h
  have h2 : t.size * (B + 1) ≤ L * (B + 1) := Nat.mul_le_mul_right _ hs
  refine ⟨by omega, fun h3 => ⟨?_, Bnd.fit t h⟩⟩
  have h4 : t.size * (B + 1) ≤ 5000 * 171 := Nat.mul_le_mul h3.1 (by omega)
  omega
theorem size_mem' {t : Tm} {l : List Tm} (h : t ∈ l) : t.size ≤ Tm.sizes l := Tm.size_mem h
theorem th_ok (L : Nat) (hLB : L * (B + 1) ≤ 4400000) (hB : B ≤ 170) (hL : L ≤ 100000) (l : List (Int × Tm)) (hl : ∀ p ∈ l, Bnd B p.2 ∧ Wide p.2) : ∀ t : Tm, Bnd B t → ∀ (ins : Int) (s : Nm.St), InR s → (s.e = 0 → s.left ≤ L) → thOk l t ins s := by
  have hl1 : ∀ p ∈ l, Bnd B p.2 := fun p hp => (hl p hp).1
  intro t
  induction t using Tm.ind with
  | h b k i a ih =>
    intro ht ins s hs hle
    obtain ⟨t1, t2, t3⟩ := ht.inv
    rw [thOk]
    intro he hsp
    obtain ⟨s1, s2⟩ := spend_ok hsp
    have hin := spend_in hs
    have hle0 := hle he
    constructor
    · have key : ∀ (a : List Tm), (∀ u ∈ a, Bnd B u) → (∀ u ∈ a, ∀ ins s, InR s → (s.e = 0 → s.left ≤ L) → thOk l u ins s) → ∀ (ins : Int) (s : Nm.St), InR s → (s.e = 0 → s.left ≤ L) → thOks l a ins s := by
        intro a
        induction a with
        | nil => intro _ _ ins s _ _; rw [thOks]; trivial
        | cons u a ih2 =>
          intro hb h ins s hs hle
          rw [thOks]
          refine ⟨h u (by simp) ins s hs hle, ih2 (fun v hv => hb v (by simp [hv])) (fun v hv => h v (by simp [hv])) ins _ (through_in l u ins s hs) fun e => ?_⟩
          have h1 := grow l hl1 u (hb u (by simp)) ins s hs e
          have := hle h1.1
          have := h1.2.1
          omega
      exact key a t3 (fun u hu ins s => ih u hu (t3 u hu) ins s) _ _ hin (fun _ => by omega)
    · intro hk hqe u hu
      obtain ⟨p, hp, rfl⟩ := find_mem hu
      rw [throughs_seq] at hqe ⊢
      have hq := seq_grow (B := B) (g := fun t s => through l t (Nm.wr (ins + b.length)) s) a (fun u hu s hs => grow l hl1 u (t3 u hu) _ s hs) (fun u hu s hs => through_in l u _ s hs) (Nm.spend s).2 hin
      have hqi := seqM_in (g := fun t s => through l t (Nm.wr (ins + b.length)) s) a (fun u hu s hs => through_in l u _ s hs) _ hin
      generalize Nm.seqM (fun t s => through l t (Nm.wr (ins + b.length)) s) a (Nm.spend s).2 = q at hqe hq hqi ⊢
      have h1 := hq hqe
      have hsz := h1.2.1
      have hl0 := hqi.1
      refine ⟨(hl p hp).2, (hl p hp).2.lift _ _, fun x hx => Bnd.wide x (h1.2.2 x hx) (by have := size_mem' hx; omega) (by omega), fun _ hpe => ?_⟩
      have h2 := put_grow (B := B) (dry := q.2.dry) hqi (Bnd.lift _ (Nm.wr (ins + b.length)) 0 (hl p hp).1) h1.2.2 hpe
      exact done_ok hLB hB h2.2 (by have := h2.1; omega)
theorem apply_ok (L : Nat) (hLB : L * (B + 1) ≤ 4400000) (hB : B ≤ 170) (hL : L ≤ 100000) (l : List (Int × Tm)) (hl : ∀ p ∈ l, Bnd B p.2 ∧ Wide p.2) (t : Tm) (ht : Bnd B t) (left : Int) (h0 : 0 ≤ left ∧ left ≤ L) (dry : Bool) :
    thOk l t 0 ⟨left, dry, 0, 0⟩ ∧ ((through l t 0 ⟨left, dry, 0, 0⟩).2.e = 0 → DoneOk (through l t 0 ⟨left, dry, 0, 0⟩).1) := by
  have hin : InR ⟨left, dry, 0, 0⟩ := ⟨h0.1, by show left ≤ 1000000000; omega⟩
  refine ⟨th_ok L hLB hB hL l hl t ht 0 _ hin (fun _ => h0.2), fun e => ?_⟩
  have h1 := grow l (fun p hp => (hl p hp).1) t ht 0 _ hin e
  have h2 := (through_in l t 0 _ hin).1
  have h3 := h1.2.1
  exact done_ok hLB hB h1.2.2 (by dsimp only at h3; omega)
end Sb
end Go.Proofs.YtflbnonbfmmchaaGreat

namespace Go.Proofs.YtflbnonbfmmchaaGreat
open Go.RowKit

def headTy (C M X : List Ty) (k i : Int) : Option Ty :=
  if i < 0 then none else if k = 0 then X.reverse[i.toNat]? else if k = 1 then C[i.toNat]? else if k = 2 then M[i.toNat]? else none
theorem headTy_neg {C M X : List Ty} {k i : Int} (h : i < 0) : headTy C M X k i = none := by rw [headTy, if_pos h]
theorem headTy_0 {C M X : List Ty} (i : Nat) : headTy C M X 0 i = X.reverse[i]? := by rw [headTy, if_neg (by omega), if_pos rfl]; rfl
theorem headTy_1 {C M X : List Ty} (i : Nat) : headTy C M X 1 i = C[i]? := by rw [headTy, if_neg (by omega), if_neg (by decide), if_pos rfl]; rfl
theorem headTy_2 {C M X : List Ty} (i : Nat) : headTy C M X 2 i = M[i]? := by rw [headTy, if_neg (by omega), if_neg (by decide), if_neg (by decide), if_pos rfl]; rfl
theorem headTy_o {C M X : List Ty} {k i : Int} (h0 : k ≠ 0) (h1 : k ≠ 1) (h2 : k ≠ 2) : headTy C M X k i = none := by
  rw [headTy, if_neg h0, if_neg h1, if_neg h2]; split <;> rfl

def tyZ : Ty := .mk [] 0
theorem isTy_zero (F : Nat → Prop) (w : World) : IsTy F w (.slice none 0 0) (.int .i64 0) tyZ := isTy_mk (isSl_nil rpTy F w) 0
def HeadPost (F : Nat → Prop) (o : Option Ty) (w : World) (e : Ending) (w' : World) : Prop := ∃ s b, e = .returned (.tuple #[.agg #[s, b], .bool o.isSome]) ∧ IsTy F w' s b (o.getD tyZ) ∧ Below w.heap.size w w'

theorem sl_at {G F : Nat → Prop} {w : World} {a : Option Addr} {n c : Nat} {l : List Ty} (h : IsSl2 rpTy G F w (.slice a n c) l) (j : Nat) (hj : j < l.length) : ∃ bl off A N C B, a = some ⟨bl, off, none⟩ ∧ G bl ∧
    w.cell? ⟨bl, off + j * 2, none⟩ = some (.slice A N C) ∧ w.cell? ⟨bl, off + j * 2 + 1, none⟩ = some (.int .i64 B) ∧ IsTy F w (.slice A N C) (.int .i64 B) l[j] := by
  obtain ⟨a', c', bl, off, X, hv, _, ha, h1, h2⟩ := h
  cases hv
  obtain ⟨ha, hG⟩ := ha (by omega)
  obtain ⟨s, b, hx, ht⟩ := h2 j hj
  obtain ⟨sa, sc, rfl, rfl⟩ := ht.shape
  exact ⟨bl, off, _, _, _, _, ha, hG, h1 j 0 _ hj (by rw [hx]; rfl), h1 j 1 _ hj (by rw [hx]; rfl), ht⟩

theorem head_end0 {F : Nat → Prop} {w w3 : World} {o : Option Ty} (B3 : Below w.heap.size w w3) (ho : o = none) :
    HeadPost F o w (.returned (.tuple #[.agg #[.slice none 0 0, .int .i64 0], .bool false])) w3 := by
  subst ho
  exact ⟨_, _, rfl, isTy_zero _ _, B3⟩
theorem head_end {F : Nat → Prop} {w w3 : World} {A B : Value} {t : Ty} {o : Option Ty} {p : Nat} (hF : ∀ q, F q → q < w.heap.size) (hp : w.heap.size ≤ p) (B3 : Below w.heap.size w w3) (ht : IsTy F w A B t) (ho : o.getD tyZ = t) (b : Bool) (hb : b = o.isSome) :
    HeadPost F o w (.returned (.tuple #[.agg #[A, B], .bool b])) ((w3.setCell ⟨p, 0, none⟩ A).setCell ⟨p, 1, none⟩ B) := by
  subst hb ho
  have hn : ¬ F p := fun h => by have := hF p h; omega
  exact ⟨_, _, rfl, ht.keep ((((Keep.refl _ _).below B3).setCell _ _ hn).setCell _ _ hn), (B3.setCell (by simp; omega) _).setCell (by simp; omega) _⟩

set_option maxRecDepth 100000 in
set_option maxHeartbeats 4000000 in
theorem headType_k {F : Nat → Prop} {w : World} {b : Int} {cv mv xv : Value} {C M X : List Ty} (hF : ∀ q, F q → q < w.heap.size) (hc : IsSl rpTy F w cv C) (hm : IsSl rpTy F w mv M) (hx : IsSl2 rpTy (fun _ => True) F w xv X) (k i : Int) (hi : i ≤ 9223372036854775807) :
    Calls Tryz.prog 54 #[.agg #[.int .i64 b, cv, mv], xv, .agg #[.int .i64 k, .int .i64 i]] w (HeadPost F (headTy C M X k i) w) := by
  obtain ⟨ca, cc, rfl⟩ := hc.shape
  obtain ⟨ma, mc, rfl⟩ := hm.shape
  obtain ⟨xa, xc, rfl⟩ := hx.shape
  have Hxl : Hid ((X.length : Int) ≤ 9223372036854775807) := by obtain ⟨_, _, _, _, _, _, h, _⟩ := hx; unfold maxLen at h; show _ ≤ _; omega
  have Hc := Lib.hid (sl_at (IsSl2.of hc)); have Hm := Lib.hid (sl_at (IsSl2.of hm)); have Hx := Lib.hid (sl_at hx)
  have hF := Lib.hid hF
  clear hc hm hx
  obtain ⟨o, ho⟩ : ∃ o, headTy C M X k i = o := ⟨_, rfl⟩
  have Ho := Lib.hid ho
  rw [ho]
  clear ho
  by_cases k1 : k = 1
  · subst k1
    go_enter Tryz.func54, Tryz.ntmps54
    go_wp2_with fail
    obtain ⟨w3, hw3⟩ : ∃ w3, ((w.alloc (.cells #[.int .i64 b, .slice ca C.length cc, .slice ma M.length mc] 35)).alloc (.cells #[.int .i64 1, .int .i64 i] 38)).alloc (.cells #[.slice none 0 0, .int .i64 0] 44) = w3 := ⟨_, rfl⟩
    have B_w3 : Below w.heap.size w w3 := by rw [← hw3]; exact (((Below.refl _ _).alloc (Nat.le_refl _) _).alloc (by simp) _).alloc (by simp; omega) _
    have x0_w3 : Blk w3 w.heap.size #[.int .i64 b, .slice ca C.length cc, .slice ma M.length mc] 35 := by rw [← hw3]; exact ((Blk.new _ _ _ rfl).alloc _).alloc _
    have x1_w3 : Blk w3 (w.heap.size + 1) #[.int .i64 1, .int .i64 i] 38 := by rw [← hw3]; exact (Blk.new _ _ _ (by simp)).alloc _
    have x2_w3 : Blk w3 (w.heap.size + 1 + 1) #[.slice none 0 0, .int .i64 0] 44 := by rw [← hw3]; exact Blk.new _ _ _ (by simp)
    rw [hw3]
    clear hw3
    have cx00 : w3.cell? ⟨w.heap.size, 0, none⟩ = some (.int .i64 b) := x0_w3.cell rfl
    have cx01 : w3.cell? ⟨w.heap.size, 1, none⟩ = some (.slice ca C.length cc) := x0_w3.cell rfl
    have cx02 : w3.cell? ⟨w.heap.size, 2, none⟩ = some (.slice ma M.length mc) := x0_w3.cell rfl
    have lx0 := x0_w3.lt
    have cx10 : w3.cell? ⟨w.heap.size + 1, 0, none⟩ = some (.int .i64 1) := x1_w3.cell rfl
    have cx11 : w3.cell? ⟨w.heap.size + 1, 1, none⟩ = some (.int .i64 i) := x1_w3.cell rfl
    have lx1 := x1_w3.lt
    have cx20 : w3.cell? ⟨w.heap.size + 1 + 1, 0, none⟩ = some (.slice none 0 0) := x2_w3.cell rfl
    have cx21 : w3.cell? ⟨w.heap.size + 1 + 1, 1, none⟩ = some (.int .i64 0) := x2_w3.cell rfl
    have lx2 := x2_w3.lt
    go_quiet (fail)
    clear cx00 cx01 cx02 lx0 cx10 cx11 lx1 cx20 cx21 lx2
    obtain ⟨w5, hw5⟩ : ∃ x, w3.drewN nq = x := ⟨_, rfl⟩
    rw [hw5]
    have hbx : Below w3.heap.size w3 w5 := by rw [← hw5]; exact below_drewN (Below.refl _ _) _
    clear hw5
    have x0_w5 := x0_w3.below hbx
    have x1_w5 := x1_w3.below hbx
    have x2_w5 := x2_w3.below hbx
    have B_w5 := B_w3.trans (hbx.mono B_w3.size)
    clear x0_w3 x1_w3 x2_w3 B_w3 hbx
    have c0 : w5.cell? ⟨w.heap.size + 1 + 1, 0, none⟩ = some (.slice none 0 0) := x2_w5.cell rfl
    have c1 : w5.cell? ⟨w.heap.size + 1 + 1, 1, none⟩ = some (.int .i64 0) := x2_w5.cell rfl
    have f0 := x2_w5.free 0
    have f1 := x2_w5.free 1
    by_cases i0 : i < 0
    · go_wp2_with fail
      have z0_0 := ((x2_w5).set 0 (.slice none 0 0)).cell (i := 0) (v := .slice none 0 0) rfl
      have z0_1 := (((x2_w5).set 0 (.slice none 0 0)).set 1 (.int .i64 0)).cell (i := 0) (v := .slice none 0 0) rfl
      have z1_1 := (((x2_w5).set 0 (.slice none 0 0)).set 1 (.int .i64 0)).cell (i := 1) (v := .int .i64 0) rfl
      refine bodyPost_ret (v := .tuple #[.agg #[.slice none 0 0, .int .i64 0], .bool false]) (by simp [results, Tryz.results54, go_sem, z0_0, z0_1, z1_1]) rfl ?_
      clear z0_0 z0_1 z1_1
      exact head_end hF.out (by omega) B_w5 (isTy_zero _ _) (by rw [← Ho.out, headTy_neg i0]; rfl) _ (by rw [← Ho.out, headTy_neg i0]; rfl)
    obtain ⟨j, rfl⟩ : ∃ j : Nat, i = (j : Int) := ⟨i.toNat, by omega⟩
    by_cases i1 : j < C.length
    · skip
      obtain ⟨bl, off, A, N, Cc, Bb, rfl, _, e1, e2, hT⟩ := Hc.out j i1
      have e1 : w5.cell? ⟨bl, off + j * 2, none⟩ = some (.slice A N Cc) := ((Keep.refl (fun _ => True) _).below B_w5) _ _ _ trivial e1
      have e2 : w5.cell? ⟨bl, off + j * 2 + 1, none⟩ = some (.int .i64 Bb) := ((Keep.refl (fun _ => True) _).below B_w5) _ _ _ trivial e2
      have HT := Lib.hid hT; clear hT
      have l0 := Keep.lt e1
      go_wp2_with fail
      have z0_0 := ((x2_w5).set 0 (.slice A N Cc)).cell (i := 0) (v := .slice A N Cc) rfl
      have z0_1 := (((x2_w5).set 0 (.slice A N Cc)).set 1 (.int .i64 Bb)).cell (i := 0) (v := .slice A N Cc) rfl
      have z1_1 := (((x2_w5).set 0 (.slice A N Cc)).set 1 (.int .i64 Bb)).cell (i := 1) (v := .int .i64 Bb) rfl
      refine bodyPost_ret (v := .tuple #[.agg #[.slice A N Cc, .int .i64 Bb], .bool true]) (by simp [results, Tryz.results54, go_sem, z0_0, z0_1, z1_1]) rfl ?_
      clear z0_0 z0_1 z1_1
      exact head_end hF.out (by omega) B_w5 HT.out (by rw [← Ho.out, headTy_1, List.getElem?_eq_getElem i1]; rfl) _ (by rw [← Ho.out, headTy_1, List.getElem?_eq_getElem i1]; rfl)
    · go_wp2_with fail
      have z0_0 := ((x2_w5).set 0 (.slice none 0 0)).cell (i := 0) (v := .slice none 0 0) rfl
      have z0_1 := (((x2_w5).set 0 (.slice none 0 0)).set 1 (.int .i64 0)).cell (i := 0) (v := .slice none 0 0) rfl
      have z1_1 := (((x2_w5).set 0 (.slice none 0 0)).set 1 (.int .i64 0)).cell (i := 1) (v := .int .i64 0) rfl
      refine bodyPost_ret (v := .tuple #[.agg #[.slice none 0 0, .int .i64 0], .bool false]) (by simp [results, Tryz.results54, go_sem, z0_0, z0_1, z1_1]) rfl ?_
      clear z0_0 z0_1 z1_1
      exact head_end hF.out (by omega) B_w5 (isTy_zero _ _) (by rw [← Ho.out, headTy_1, List.getElem?_eq_none (by omega)]; rfl) _ (by rw [← Ho.out, headTy_1, List.getElem?_eq_none (by omega)]; rfl)
  by_cases k2 : k = 2
  · subst k2
    go_enter Tryz.func54, Tryz.ntmps54
    go_wp2_with fail
    obtain ⟨w3, hw3⟩ : ∃ w3, ((w.alloc (.cells #[.int .i64 b, .slice ca C.length cc, .slice ma M.length mc] 35)).alloc (.cells #[.int .i64 2, .int .i64 i] 38)).alloc (.cells #[.slice none 0 0, .int .i64 0] 44) = w3 := ⟨_, rfl⟩
    have B_w3 : Below w.heap.size w w3 := by rw [← hw3]; exact (((Below.refl _ _).alloc (Nat.le_refl _) _).alloc (by simp) _).alloc (by simp; omega) _
    have x0_w3 : Blk w3 w.heap.size #[.int .i64 b, .slice ca C.length cc, .slice ma M.length mc] 35 := by rw [← hw3]; exact ((Blk.new _ _ _ rfl).alloc _).alloc _
    have x1_w3 : Blk w3 (w.heap.size + 1) #[.int .i64 2, .int .i64 i] 38 := by rw [← hw3]; exact (Blk.new _ _ _ (by simp)).alloc _
    have x2_w3 : Blk w3 (w.heap.size + 1 + 1) #[.slice none 0 0, .int .i64 0] 44 := by rw [← hw3]; exact Blk.new _ _ _ (by simp)
    rw [hw3]
    clear hw3
    have cx00 : w3.cell? ⟨w.heap.size, 0, none⟩ = some (.int .i64 b) := x0_w3.cell rfl
    have cx01 : w3.cell? ⟨w.heap.size, 1, none⟩ = some (.slice ca C.length cc) := x0_w3.cell rfl
    have cx02 : w3.cell? ⟨w.heap.size, 2, none⟩ = some (.slice ma M.length mc) := x0_w3.cell rfl
    have lx0 := x0_w3.lt
    have cx10 : w3.cell? ⟨w.heap.size + 1, 0, none⟩ = some (.int .i64 2) := x1_w3.cell rfl
    have cx11 : w3.cell? ⟨w.heap.size + 1, 1, none⟩ = some (.int .i64 i) := x1_w3.cell rfl
    have lx1 := x1_w3.lt
    have cx20 : w3.cell? ⟨w.heap.size + 1 + 1, 0, none⟩ = some (.slice none 0 0) := x2_w3.cell rfl
    have cx21 : w3.cell? ⟨w.heap.size + 1 + 1, 1, none⟩ = some (.int .i64 0) := x2_w3.cell rfl
    have lx2 := x2_w3.lt
    go_quiet (fail)
    clear cx00 cx01 cx02 lx0 cx10 cx11 lx1 cx20 cx21 lx2
    obtain ⟨w5, hw5⟩ : ∃ x, w3.drewN nq = x := ⟨_, rfl⟩
    rw [hw5]
    have hbx : Below w3.heap.size w3 w5 := by rw [← hw5]; exact below_drewN (Below.refl _ _) _
    clear hw5
    have x0_w5 := x0_w3.below hbx
    have x1_w5 := x1_w3.below hbx
    have x2_w5 := x2_w3.below hbx
    have B_w5 := B_w3.trans (hbx.mono B_w3.size)
    clear x0_w3 x1_w3 x2_w3 B_w3 hbx
    have c0 : w5.cell? ⟨w.heap.size + 1 + 1, 0, none⟩ = some (.slice none 0 0) := x2_w5.cell rfl
    have c1 : w5.cell? ⟨w.heap.size + 1 + 1, 1, none⟩ = some (.int .i64 0) := x2_w5.cell rfl
    have f0 := x2_w5.free 0
    have f1 := x2_w5.free 1
    by_cases i0 : i < 0
    · go_wp2_with fail
      have z0_0 := ((x2_w5).set 0 (.slice none 0 0)).cell (i := 0) (v := .slice none 0 0) rfl
      have z0_1 := (((x2_w5).set 0 (.slice none 0 0)).set 1 (.int .i64 0)).cell (i := 0) (v := .slice none 0 0) rfl
      have z1_1 := (((x2_w5).set 0 (.slice none 0 0)).set 1 (.int .i64 0)).cell (i := 1) (v := .int .i64 0) rfl
      refine bodyPost_ret (v := .tuple #[.agg #[.slice none 0 0, .int .i64 0], .bool false]) (by simp [results, Tryz.results54, go_sem, z0_0, z0_1, z1_1]) rfl ?_
      clear z0_0 z0_1 z1_1
      exact head_end hF.out (by omega) B_w5 (isTy_zero _ _) (by rw [← Ho.out, headTy_neg i0]; rfl) _ (by rw [← Ho.out, headTy_neg i0]; rfl)
    obtain ⟨j, rfl⟩ : ∃ j : Nat, i = (j : Int) := ⟨i.toNat, by omega⟩
    by_cases i1 : j < M.length
    · skip
      obtain ⟨bl, off, A, N, Cc, Bb, rfl, _, e1, e2, hT⟩ := Hm.out j i1
      have e1 : w5.cell? ⟨bl, off + j * 2, none⟩ = some (.slice A N Cc) := ((Keep.refl (fun _ => True) _).below B_w5) _ _ _ trivial e1
      have e2 : w5.cell? ⟨bl, off + j * 2 + 1, none⟩ = some (.int .i64 Bb) := ((Keep.refl (fun _ => True) _).below B_w5) _ _ _ trivial e2
      have HT := Lib.hid hT; clear hT
      have l0 := Keep.lt e1
      go_wp2_with fail
      have z0_0 := ((x2_w5).set 0 (.slice A N Cc)).cell (i := 0) (v := .slice A N Cc) rfl
      have z0_1 := (((x2_w5).set 0 (.slice A N Cc)).set 1 (.int .i64 Bb)).cell (i := 0) (v := .slice A N Cc) rfl
      have z1_1 := (((x2_w5).set 0 (.slice A N Cc)).set 1 (.int .i64 Bb)).cell (i := 1) (v := .int .i64 Bb) rfl
      refine bodyPost_ret (v := .tuple #[.agg #[.slice A N Cc, .int .i64 Bb], .bool true]) (by simp [results, Tryz.results54, go_sem, z0_0, z0_1, z1_1]) rfl ?_
      clear z0_0 z0_1 z1_1
      exact head_end hF.out (by omega) B_w5 HT.out (by rw [← Ho.out, headTy_2, List.getElem?_eq_getElem i1]; rfl) _ (by rw [← Ho.out, headTy_2, List.getElem?_eq_getElem i1]; rfl)
    · go_wp2_with fail
      have z0_0 := ((x2_w5).set 0 (.slice none 0 0)).cell (i := 0) (v := .slice none 0 0) rfl
      have z0_1 := (((x2_w5).set 0 (.slice none 0 0)).set 1 (.int .i64 0)).cell (i := 0) (v := .slice none 0 0) rfl
      have z1_1 := (((x2_w5).set 0 (.slice none 0 0)).set 1 (.int .i64 0)).cell (i := 1) (v := .int .i64 0) rfl
      refine bodyPost_ret (v := .tuple #[.agg #[.slice none 0 0, .int .i64 0], .bool false]) (by simp [results, Tryz.results54, go_sem, z0_0, z0_1, z1_1]) rfl ?_
      clear z0_0 z0_1 z1_1
      exact head_end hF.out (by omega) B_w5 (isTy_zero _ _) (by rw [← Ho.out, headTy_2, List.getElem?_eq_none (by omega)]; rfl) _ (by rw [← Ho.out, headTy_2, List.getElem?_eq_none (by omega)]; rfl)
  by_cases k0 : k = 0
  · subst k0
    by_cases i0 : i < 0
    · skip
      go_enter Tryz.func54, Tryz.ntmps54
      go_wp2_with fail
      obtain ⟨w3, hw3⟩ : ∃ w3, ((w.alloc (.cells #[.int .i64 b, .slice ca C.length cc, .slice ma M.length mc] 35)).alloc (.cells #[.int .i64 0, .int .i64 i] 38)).alloc (.cells #[.slice none 0 0, .int .i64 0] 44) = w3 := ⟨_, rfl⟩
      have B_w3 : Below w.heap.size w w3 := by rw [← hw3]; exact (((Below.refl _ _).alloc (Nat.le_refl _) _).alloc (by simp) _).alloc (by simp; omega) _
      have x0_w3 : Blk w3 w.heap.size #[.int .i64 b, .slice ca C.length cc, .slice ma M.length mc] 35 := by rw [← hw3]; exact ((Blk.new _ _ _ rfl).alloc _).alloc _
      have x1_w3 : Blk w3 (w.heap.size + 1) #[.int .i64 0, .int .i64 i] 38 := by rw [← hw3]; exact (Blk.new _ _ _ (by simp)).alloc _
      have x2_w3 : Blk w3 (w.heap.size + 1 + 1) #[.slice none 0 0, .int .i64 0] 44 := by rw [← hw3]; exact Blk.new _ _ _ (by simp)
      rw [hw3]
      clear hw3
      have c0 : w3.cell? ⟨w.heap.size + 1 + 1, 0, none⟩ = some (.slice none 0 0) := x2_w3.cell rfl
      have c1 : w3.cell? ⟨w.heap.size + 1 + 1, 1, none⟩ = some (.int .i64 0) := x2_w3.cell rfl
      have f0 := x2_w3.free 0
      have f1 := x2_w3.free 1
      go_wp2_with fail
      refine bodyPost_ret (v := .tuple #[.agg #[.slice none 0 0, .int .i64 0], .bool false]) (by simp [results, Tryz.results54, go_sem, c0, c1]) rfl ?_
      exact head_end0 B_w3 (by rw [← Ho.out, headTy_neg i0])
    obtain ⟨j, rfl⟩ : ∃ j : Nat, i = (j : Int) := ⟨i.toNat, by omega⟩
    have hq0 : IntKind.i64.wrap ((X.length : Int) - 1) = (X.length : Int) - 1 := IntWalk.i64_in _ (by have := Hxl.out; omega)
    have hq1 : IntKind.i64.wrap ((X.length : Int) - 1 - j) = (X.length : Int) - 1 - j := IntWalk.i64_in _ (by have := Hxl.out; omega)
    by_cases i1 : j < X.length
    · obtain ⟨m, hm⟩ : ∃ m : Nat, X.length - 1 - j = m := ⟨_, rfl⟩
      have i2 : m < X.length := by omega
      have hq2 : IntKind.i64.wrap ((X.length : Int) - 1 - j) = (m : Int) := by rw [hq1]; omega
      clear hq1
      have Hm2 := Lib.hid hm; have Hi1 := Lib.hid i1
      have i6 : decide ((m : Int) < 0) = false := by simp
      clear hm i1
      go_enter Tryz.func54, Tryz.ntmps54
      go_wp2_with fail
      obtain ⟨w3, hw3⟩ : ∃ w3, ((w.alloc (.cells #[.int .i64 b, .slice ca C.length cc, .slice ma M.length mc] 35)).alloc (.cells #[.int .i64 0, .int .i64 (j : Int)] 38)).alloc (.cells #[.slice none 0 0, .int .i64 0] 44) = w3 := ⟨_, rfl⟩
      have B_w3 : Below w.heap.size w w3 := by rw [← hw3]; exact (((Below.refl _ _).alloc (Nat.le_refl _) _).alloc (by simp) _).alloc (by simp; omega) _
      have x0_w3 : Blk w3 w.heap.size #[.int .i64 b, .slice ca C.length cc, .slice ma M.length mc] 35 := by rw [← hw3]; exact ((Blk.new _ _ _ rfl).alloc _).alloc _
      have x1_w3 : Blk w3 (w.heap.size + 1) #[.int .i64 0, .int .i64 (j : Int)] 38 := by rw [← hw3]; exact (Blk.new _ _ _ (by simp)).alloc _
      have x2_w3 : Blk w3 (w.heap.size + 1 + 1) #[.slice none 0 0, .int .i64 0] 44 := by rw [← hw3]; exact Blk.new _ _ _ (by simp)
      rw [hw3]
      clear hw3
      have c0 : w3.cell? ⟨w.heap.size + 1 + 1, 0, none⟩ = some (.slice none 0 0) := x2_w3.cell rfl
      have c1 : w3.cell? ⟨w.heap.size + 1 + 1, 1, none⟩ = some (.int .i64 0) := x2_w3.cell rfl
      have f0 := x2_w3.free 0
      have f1 := x2_w3.free 1
      obtain ⟨bl, off, A, N, Cc, Bb, rfl, _, e1, e2, hT⟩ := Hx.out m i2
      have e1 : w3.cell? ⟨bl, off + m * 2, none⟩ = some (.slice A N Cc) := ((Keep.refl (fun _ => True) _).below B_w3) _ _ _ trivial e1
      have e2 : w3.cell? ⟨bl, off + m * 2 + 1, none⟩ = some (.int .i64 Bb) := ((Keep.refl (fun _ => True) _).below B_w3) _ _ _ trivial e2
      have HT := Lib.hid hT; clear hT
      have l0 := Keep.lt e1
      go_wp2_with fail
      clear hq0 hq2 i6 hi
      go_simp
      have i4 : (0 : Int) ≤ (m : Int) := by omega
      go_wp2_with fail
      have z0_0 := ((x2_w3).set 0 (.slice A N Cc)).cell (i := 0) (v := .slice A N Cc) rfl
      have z0_1 := (((x2_w3).set 0 (.slice A N Cc)).set 1 (.int .i64 Bb)).cell (i := 0) (v := .slice A N Cc) rfl
      have z1_1 := (((x2_w3).set 0 (.slice A N Cc)).set 1 (.int .i64 Bb)).cell (i := 1) (v := .int .i64 Bb) rfl
      refine bodyPost_ret (v := .tuple #[.agg #[.slice A N Cc, .int .i64 Bb], .bool true]) (by simp [results, Tryz.results54, go_sem, z0_0, z0_1, z1_1]) rfl ?_
      clear z0_0 z0_1 z1_1
      exact head_end hF.out (by omega) B_w3 HT.out (by rw [← Ho.out, headTy_0, List.getElem?_reverse Hi1.out, Hm2.out, List.getElem?_eq_getElem i2]; rfl) _ (by rw [← Ho.out, headTy_0, List.getElem?_reverse Hi1.out, Hm2.out, List.getElem?_eq_getElem i2]; rfl)
    · have i3 : (X.length : Int) - 1 - j < 0 := by omega
      go_enter Tryz.func54, Tryz.ntmps54
      go_wp2_with fail
      obtain ⟨w3, hw3⟩ : ∃ w3, ((w.alloc (.cells #[.int .i64 b, .slice ca C.length cc, .slice ma M.length mc] 35)).alloc (.cells #[.int .i64 0, .int .i64 (j : Int)] 38)).alloc (.cells #[.slice none 0 0, .int .i64 0] 44) = w3 := ⟨_, rfl⟩
      have B_w3 : Below w.heap.size w w3 := by rw [← hw3]; exact (((Below.refl _ _).alloc (Nat.le_refl _) _).alloc (by simp) _).alloc (by simp; omega) _
      have x0_w3 : Blk w3 w.heap.size #[.int .i64 b, .slice ca C.length cc, .slice ma M.length mc] 35 := by rw [← hw3]; exact ((Blk.new _ _ _ rfl).alloc _).alloc _
      have x1_w3 : Blk w3 (w.heap.size + 1) #[.int .i64 0, .int .i64 (j : Int)] 38 := by rw [← hw3]; exact (Blk.new _ _ _ (by simp)).alloc _
      have x2_w3 : Blk w3 (w.heap.size + 1 + 1) #[.slice none 0 0, .int .i64 0] 44 := by rw [← hw3]; exact Blk.new _ _ _ (by simp)
      rw [hw3]
      clear hw3
      have c0 : w3.cell? ⟨w.heap.size + 1 + 1, 0, none⟩ = some (.slice none 0 0) := x2_w3.cell rfl
      have c1 : w3.cell? ⟨w.heap.size + 1 + 1, 1, none⟩ = some (.int .i64 0) := x2_w3.cell rfl
      have f0 := x2_w3.free 0
      have f1 := x2_w3.free 1
      go_wp2_with fail
      refine bodyPost_ret (v := .tuple #[.agg #[.slice none 0 0, .int .i64 0], .bool false]) (by simp [results, Tryz.results54, go_sem, c0, c1]) rfl ?_
      exact head_end0 B_w3 (by rw [← Ho.out, headTy_0, List.getElem?_eq_none (by simp; omega)])
  have g0 : (k == 0) = false := by simpa using k0
  have g1 : (k == 1) = false := by simpa using k1
  have g2 : (k == 2) = false := by simpa using k2
  go_enter Tryz.func54, Tryz.ntmps54
  go_wp2_with fail
  obtain ⟨w3, hw3⟩ : ∃ w3, ((w.alloc (.cells #[.int .i64 b, .slice ca C.length cc, .slice ma M.length mc] 35)).alloc (.cells #[.int .i64 k, .int .i64 i] 38)).alloc (.cells #[.slice none 0 0, .int .i64 0] 44) = w3 := ⟨_, rfl⟩
  have B_w3 : Below w.heap.size w w3 := by rw [← hw3]; exact (((Below.refl _ _).alloc (Nat.le_refl _) _).alloc (by simp) _).alloc (by simp; omega) _
  have x0_w3 : Blk w3 w.heap.size #[.int .i64 b, .slice ca C.length cc, .slice ma M.length mc] 35 := by rw [← hw3]; exact ((Blk.new _ _ _ rfl).alloc _).alloc _
  have x1_w3 : Blk w3 (w.heap.size + 1) #[.int .i64 k, .int .i64 i] 38 := by rw [← hw3]; exact (Blk.new _ _ _ (by simp)).alloc _
  have x2_w3 : Blk w3 (w.heap.size + 1 + 1) #[.slice none 0 0, .int .i64 0] 44 := by rw [← hw3]; exact Blk.new _ _ _ (by simp)
  rw [hw3]
  clear hw3
  have c0 : w3.cell? ⟨w.heap.size + 1 + 1, 0, none⟩ = some (.slice none 0 0) := x2_w3.cell rfl
  have c1 : w3.cell? ⟨w.heap.size + 1 + 1, 1, none⟩ = some (.int .i64 0) := x2_w3.cell rfl
  have f0 := x2_w3.free 0
  have f1 := x2_w3.free 1
  go_wp2_with fail
  refine bodyPost_ret (v := .tuple #[.agg #[.slice none 0 0, .int .i64 0], .bool false]) (by simp [results, Tryz.results54, go_sem, c0, c1]) rfl ?_
  exact head_end0 B_w3 (by rw [← Ho.out, headTy_o k0 k1 k2])

end Go.Proofs.YtflbnonbfmmchaaGreat

namespace Go.Proofs.YtflbnonbfmmchaaGreat
open Go.RowKit

end Go.Proofs.YtflbnonbfmmchaaGreat

namespace Go.Proofs.YtflbnonbfmmchaaGreat
open Go.RowKit

mutual
def IsOf (C M : List Ty) : Tm → List Ty → Ty → Prop
  | .mk b k i a, X, u => b = u.args ∧ ∃ h, headTy C M (X ++ b) k i = some h ∧ h.base = u.base ∧ IsOfs C M a (X ++ b) h.args
def IsOfs (C M : List Ty) : List Tm → List Ty → List Ty → Prop
  | [], _, [] => True
  | [], _, _ :: _ => False
  | _ :: _, _, [] => False
  | t :: l, X, u :: l' => IsOf C M t X u ∧ IsOfs C M l X l'
end
theorem isOf_mk {C M : List Ty} {b : List Ty} {k i : Int} {a : List Tm} {X : List Ty} {u : Ty} : IsOf C M (.mk b k i a) X u ↔ b = u.args ∧ ∃ h, headTy C M (X ++ b) k i = some h ∧ h.base = u.base ∧ IsOfs C M a (X ++ b) h.args := by rw [IsOf]
theorem isOfs_iff {C M : List Ty} {X : List Ty} : ∀ {l : List Tm} {l' : List Ty}, IsOfs C M l X l' ↔ l'.length = l.length ∧ ∀ i (h : i < l.length) (h' : i < l'.length), IsOf C M l[i] X l'[i]
  | [], [] => by simp [IsOfs]
  | [], _ :: _ => by simp [IsOfs]
  | _ :: _, [] => by simp [IsOfs]
  | t :: l, u :: l' => by
    rw [IsOfs, isOfs_iff]
    constructor
    · rintro ⟨h1, h2, h3⟩
      refine ⟨by simp [h2], fun i h h' => ?_⟩
      cases i with
      | zero => exact h1
      | succ i => exact h3 i (by simpa using h) (by simpa using h')
    · rintro ⟨h1, h2⟩
      exact ⟨h2 0 (by simp) (by simp), by simpa using h1, fun i h h' => h2 (i + 1) (by simpa using h) (by simpa using h')⟩
end Go.Proofs.YtflbnonbfmmchaaGreat

namespace Go.Proofs.YtflbnonbfmmchaaGreat
open Go.RowKit
section
variable {C M : List Ty}
theorem headTy_ctx {X X' : List Ty} {k i : Int} (hk : k ≠ 0) : headTy C M X k i = headTy C M X' k i := by
  unfold headTy
  by_cases h : i < 0
  · rw [if_pos h, if_pos h]
  · rw [if_neg h, if_neg h, if_neg hk, if_neg hk]
theorem rev_app (X W : List Ty) (n : Nat) : (X ++ W).reverse[n]? = if n < W.length then W.reverse[n]? else X.reverse[n - W.length]? := by
  rw [List.reverse_append, List.getElem?_append, List.length_reverse]
theorem isOfs_map {g : Tm → Tm} {X X' : List Ty} : ∀ {l : List Tm} {l' : List Ty}, IsOfs C M l X l' → (∀ t ∈ l, ∀ u, IsOf C M t X u → IsOf C M (g t) X' u) → IsOfs C M (l.map g) X' l'
  | [], [], _, _ => by rw [List.map_nil, IsOfs]; trivial
  | [], _ :: _, h, _ => by rw [IsOfs] at h; exact h.elim
  | _ :: _, [], h, _ => by rw [IsOfs] at h; exact h.elim
  | t :: l, u :: l', h, hg => by
    rw [IsOfs] at h
    rw [List.map_cons, IsOfs]
    exact ⟨hg t (by simp) u h.1, isOfs_map h.2 fun v hv => hg v (by simp [hv])⟩
theorem isOfs_len {X : List Ty} {l : List Tm} {l' : List Ty} (h : IsOfs C M l X l') : l'.length = l.length := (isOfs_iff.1 h).1
theorem wr_id {x : Int} (h0 : -9223372036854775808 ≤ x) (h1 : x ≤ 9223372036854775807) : Nm.wr x = x := by
  show wrap64 x = x
  unfold wrap64; omega
theorem lift_isOf (t : Tm) : ∀ (X Y Z : List Ty) (u : Ty), (X.length : Int) + Y.length + Z.length + t.full ≤ 9000000000000 → IsOf C M t (X ++ Z) u → IsOf C M (Nm.lift Y.length t Z.length) (X ++ Y ++ Z) u := by
  induction t using Tm.ind with
  | h b k i a ih =>
    intro X Y Z u hz ht
    rw [Tm.full_eq] at hz
    have hbl := Ty.le_sizes b
    obtain ⟨rfl, h, h1, h2, h3⟩ := isOf_mk.1 ht
    have hw : Nm.wr (Z.length + u.args.length) = ((Z ++ u.args).length : Nat) := by rw [List.length_append, wr_id (by omega) (by omega)]; simp
    rw [Nm.lift_eq, Nm.lifts_map, hw]
    clear hw
    refine isOf_mk.2 ⟨rfl, h, ?_, h2, ?_⟩
    · by_cases hk : k = 0
      · subst hk
        by_cases hi : i < 0
        · rw [headTy_neg hi] at h1; cases h1
        · obtain ⟨n, rfl⟩ : ∃ n : Nat, i = n := ⟨i.toNat, by omega⟩
          rw [headTy_0, List.append_assoc, rev_app] at h1
          by_cases hn : n < (Z ++ u.args).length
          · rw [if_neg (by rintro ⟨_, h⟩; omega), headTy_0, List.append_assoc, rev_app, if_pos hn]
            rw [if_pos hn] at h1; exact h1
          · rw [if_neg hn] at h1
            have hlt : n - (Z ++ u.args).length < X.length := by
              have := (List.getElem?_eq_some_iff.1 h1).1
              rwa [List.length_reverse] at this
            have hsum : (Z ++ u.args).length = Z.length + u.args.length := List.length_append
            rw [if_pos ⟨rfl, by omega⟩, wr_id (by omega) (by omega), show (n : Int) + Y.length = ((n + Y.length : Nat) : Int) by omega, headTy_0, List.append_assoc, rev_app, if_neg (by omega), rev_app, if_neg (by omega)]
            rw [← h1]
            congr 1
            omega
      · rw [if_neg (fun h => hk h.1), headTy_ctx (X' := X ++ Z ++ u.args) hk]; exact h1
    · rw [List.append_assoc] at h3 ⊢
      exact isOfs_map h3 fun v hv w hw => ih v hv X Y (Z ++ u.args) w (by
        have := Tm.full_mem hv
        rw [List.length_append]; omega) hw
theorem grown_isOf {t : Tm} {X Y : List Ty} {u : Ty} (hz : (X.length : Int) + Y.length + t.full ≤ 9000000000000) (h : IsOf C M t X u) : IsOf C M (Nm.grown t Y.length) (X ++ Y) u := by
  unfold Nm.grown
  split
  · rename_i h0
    have : Y = [] := List.length_eq_zero_iff.1 (by omega)
    subst this
    rw [List.append_nil]; exact h
  · have := lift_isOf t X Y [] u (by simp; omega) (by rw [List.append_nil]; exact h)
    rw [List.append_nil] at this; exact this
end
namespace Nm
def Kp (s : St) (p : Tm × St) (Q : Tm → Prop) : Prop := (s.e ≠ 1 → p.2.e ≠ 1) ∧ (p.2.e = 0 → s.e = 0 ∧ Q p.1)
theorem unit_false {s : St} (h : (unit s).1 ≠ true) : (unit s).2.e ≠ 0 ∧ (s.e ≠ 1 → (unit s).2.e ≠ 1) := by
  have hb : (unit s).1 = false := by simpa using h
  have h2 : ∀ p, unit s = p → p.1 = false → p.2.e ≠ 0 ∧ (s.e ≠ 1 → p.2.e ≠ 1) := fun p hp h1 => by
    unfold unit at hp
    split at hp
    · subst hp; exact ⟨by assumption, fun h => h⟩
    · split at hp
      · subst hp; exact ⟨by show (2 : Int) ≠ 0; decide, fun _ => by show (2 : Int) ≠ 1; decide⟩
      · generalize spend s = r at hp
        obtain ⟨ok, s'⟩ := r
        cases ok
        · subst hp; exact ⟨by show (11 : Int) ≠ 0; decide, fun _ => by show (11 : Int) ≠ 1; decide⟩
        · subst hp; cases h1
  exact h2 _ rfl hb
theorem fail_e {s : St} (h : s.e ≠ 0) : (fail s 1).e = s.e := by unfold fail; rw [if_neg h]
variable {C M : List Ty} {B : Nat}
theorem seqM_keeps {f : Nat} {g : Tm → St → Tm × St} {X X' : List Ty} : ∀ (l : List Tm) (us : List Ty) (hg : ∀ t ∈ l, ∀ u s, WkOk s → Fu f s → IsOf C M t X u → Kp s (g t s) fun r => IsOf C M r X' u) (hw : ∀ t s, WkOk s → WkOk (g t s).2) (hc : ∀ t s, s.count ≤ (g t s).2.count) (s : St), WkOk s → Fu f s →
    IsOfs C M l X us → (s.e ≠ 1 → (seqM g l s).2.e ≠ 1) ∧ ((seqM g l s).2.e = 0 → s.e = 0 ∧ IsOfs C M (seqM g l s).1 X' us)
  | [], [], _, _, _, s, _, _, _ => ⟨fun h => h, fun h => ⟨h, by rw [seqM, IsOfs]; trivial⟩⟩
  | [], _ :: _, _, _, _, s, _, _, h => by rw [IsOfs] at h; exact h.elim
  | _ :: _, [], _, _, _, s, _, _, h => by rw [IsOfs] at h; exact h.elim
  | t :: l, u :: us, hg, hw, hc, s, hs, hf, h => by
    rw [IsOfs] at h
    have h1 := hg t (by simp) u s hs hf h.1
    have h2 := seqM_keeps l us (fun v hv => hg v (by simp [hv])) hw hc (g t s).2 (hw t s hs) (fun e => by
      have := hf (h1.2 e).1
      have := hc t s
      omega) h.2
    refine ⟨fun e => h2.1 (h1.1 e), fun e => ?_⟩
    have h3 := h2.2 e
    have h4 := h1.2 h3.1
    exact ⟨h4.1, by rw [seqM, IsOfs]; exact ⟨h4.2, h3.2⟩⟩
theorem bnd_aux {x p z b B K N s : Nat} (h : x + p + z + (K + (2 * B + 2)) ≤ N) (h1 : b ≤ s) (h2 : s ≤ B) : x + p + (z + b) + K ≤ N := by omega
set_option maxHeartbeats 4000000 in
theorem through_keeps (C M : List Ty) (B : Nat) : ∀ (f : Nat) (xs : List Tm) (n : Nat) (t : Tm) (ins : Int) (s : St) (X P Z : List Ty) (u : Ty), WkOk s → Fu f s → (∀ x ∈ xs, Bnd B x) → Bnd B t → (∀ x ∈ xs, x.full ≤ 8000000000000) → B ≤ 5000 → xs.length ≤ P.length → n = P.length → ins = (Z.length : Nat) →
    X.length + P.length + Z.length + (2 * B + 2) * f ≤ 800000000 → IsOfs C M xs X (P.take xs.length) → IsOf C M t (X ++ P ++ Z) u → Kp s (through f xs n t ins s) fun r => IsOf C M r (X ++ P.drop xs.length ++ Z) u := by
  intro f
  induction f with
  | zero =>
    intro xs n t ins s X P Z u hs hf _ _ _ _ _ _ _ _ _ _
    exact ⟨fun h => h, fun e => by
      have e' : s.e = 0 := e
      have h1 := hf e'
      have h2 := hs.e0 e'
      omega⟩
  | succ f ih =>
    intro xs n t ins s X P Z u hs hf hx ht hxf hB hm hn hins hb hxt htt
    subst hn; subst hins
    unfold through
    dsimp only
    by_cases hu : (unit s).1 = true
    rotate_left
    · rw [if_neg hu]
      have h1 := unit_false hu
      exact ⟨h1.2, fun e => absurd e h1.1⟩
    rw [if_pos hu]
    obtain ⟨u1, u2, u3⟩ := (unit_count s).2 hu
    have hw := unit_wk hs
    have hf1 : Fu f (unit s).2 := fun _ => by have := hf u2; omega
    obtain ⟨b, k, i, a⟩ := t
    obtain ⟨t1, t2, t3⟩ := ht.inv
    obtain ⟨hbu, h, hh, hbase, hargs⟩ := isOf_mk.1 htt
    have hbl := Ty.le_sizes b
    have hmul : (2 * B + 2) * (f + 1) = (2 * B + 2) * f + (2 * B + 2) := by rw [Nat.mul_add]; omega
    rw [hmul] at hb
    obtain ⟨K, hK⟩ : ∃ K, (2 * B + 2) * f = K := ⟨_, rfl⟩
    rw [hK] at hb
    have hZb : (Z ++ b).length = Z.length + b.length := List.length_append
    have hwr : wr ((Z.length : Nat) + (Tm.mk b k i a).binds.length) = (((Z ++ b).length : Nat) : Int) := by
      show wr ((Z.length : Nat) + (b.length : Nat)) = _
      rw [wr_id (by omega) (by omega), hZb]; omega
    rw [hwr]
    clear hwr
    show Kp s (hit (through f) xs P.length (.mk b k i a) ((Z ++ b).length : Nat) (seqM (fun a s => through f xs P.length a ((Z ++ b).length : Nat) s) a (unit s).2).1 (seqM (fun a s => through f xs P.length a ((Z ++ b).length : Nat) s) a (unit s).2).2) _
    have hassoc : X ++ P ++ Z ++ b = X ++ P ++ (Z ++ b) := List.append_assoc ..
    have hb2 : X.length + P.length + (Z ++ b).length + (2 * B + 2) * f ≤ 800000000 := by rw [hK, hZb]; exact bnd_aux hb hbl t1
    rw [hassoc] at hh hargs
    have hq := seqM_keeps (C := C) (M := M) (f := f) (g := fun a s => through f xs P.length a ((Z ++ b).length : Nat) s) (X := X ++ P ++ (Z ++ b)) (X' := X ++ P.drop xs.length ++ (Z ++ b)) a h.args
      (fun v hv w s hs hf hw => ih xs P.length v _ s X P (Z ++ b) w hs hf hx (t3 v hv) hxf hB hm rfl rfl hb2 hxt hw) (fun u s h => through_wk f _ _ _ _ _ h) (fun u s => through_count f _ _ _ _ _) (unit s).2 hw hf1 hargs
    have hgr := seqM_grow (B := B) (f := f) (g := fun a s => through f xs P.length a ((Z ++ b).length : Nat) s) a (fun u hu s hs hf => through_grow B f xs P.length u _ s hs hf hx (t3 u hu)) (fun u s h => through_wk f _ _ _ _ _ h) (fun u s => through_count f _ _ _ _ _) (unit s).2 hw hf1
    have hqw := seqM_wk (g := fun a s => through f xs P.length a ((Z ++ b).length : Nat) s) (fun u s h => through_wk f _ _ _ _ _ h) a _ hw
    have hqc := seqM_count (g := fun a s => through f xs P.length a ((Z ++ b).length : Nat) s) (fun u s => through_count f _ _ _ _ _) a (unit s).2
    have hql := seqM_length (fun a s => through f xs P.length a ((Z ++ b).length : Nat) s) a (unit s).2
    generalize seqM (fun a s => through f xs P.length a ((Z ++ b).length : Nat) s) a (unit s).2 = q at hq hgr hqw hqc hql ⊢
    have hq1 : s.e ≠ 1 → q.2.e ≠ 1 := fun _ => hq.1 (by omega)
    have stays : ∀ i' : Int, headTy C M (X ++ P.drop xs.length ++ (Z ++ b)) k i' = some h → Kp s (.mk b k i' q.1, q.2) fun r => IsOf C M r (X ++ P.drop xs.length ++ Z) u := fun i' hi' =>
      ⟨hq1, fun e => ⟨u2, isOf_mk.2 ⟨hbu, h, by rw [List.append_assoc]; exact hi', hbase, by rw [List.append_assoc]; exact (hq.2 e).2⟩⟩⟩
    unfold hit
    have hdl : (P.drop xs.length).length = P.length - xs.length := List.length_drop
    show Kp s (if k ≠ 0 ∨ i < (((Z ++ b).length : Nat) : Int) then _ else _) _
    by_cases hc1 : k ≠ 0 ∨ i < (((Z ++ b).length : Nat) : Int)
    · rw [if_pos hc1]
      refine stays i ?_
      by_cases hk : k = 0
      · subst hk
        have hi : i < (((Z ++ b).length : Nat) : Int) := by rcases hc1 with h | h; exact absurd rfl h; exact h
        by_cases h0 : i < 0
        · rw [headTy_neg h0] at hh; cases hh
        · obtain ⟨n, rfl⟩ : ∃ n : Nat, i = n := ⟨i.toNat, by omega⟩
          rw [headTy_0, rev_app, if_pos (by omega)] at hh ⊢; exact hh
      · rw [headTy_ctx (X' := X ++ P ++ (Z ++ b)) hk]; exact hh
    · rw [if_neg hc1]
      have hk : k = 0 := by
        by_cases h : k = 0
        · exact h
        · exact absurd (.inl h) hc1
      have hi : (((Z ++ b).length : Nat) : Int) ≤ i := by
        by_cases h : i < (((Z ++ b).length : Nat) : Int)
        · exact absurd (.inr h) hc1
        · omega
      subst hk
      obtain ⟨n, rfl⟩ : ∃ n : Nat, i = n := ⟨i.toNat, by omega⟩
      obtain ⟨d, hd⟩ : ∃ d, n = (Z ++ b).length + d := ⟨n - (Z ++ b).length, by omega⟩
      rw [headTy_0, rev_app, if_neg (by omega), show n - (Z ++ b).length = d by omega, rev_app] at hh
      have hdlt : d < X.length + P.length := by
        by_cases hdp : d < P.length
        · omega
        · rw [if_neg hdp] at hh
          have := (List.getElem?_eq_some_iff.1 hh).1
          rw [List.length_reverse] at this; omega
      have hwd : wr ((Tm.mk b 0 (n : Int) a).index - (((Z ++ b).length : Nat) : Int)) = (d : Int) := by
        show wr ((n : Int) - (((Z ++ b).length : Nat) : Int)) = _
        rw [wr_id (by omega) (by omega)]; omega
      dsimp only
      rw [hwd]
      clear hwd
      by_cases hc2 : (d : Int) < (P.length : Int) - xs.length
      · rw [if_pos hc2]
        refine stays n ?_
        rw [headTy_0, rev_app, if_neg (by omega), show n - (Z ++ b).length = d by omega, rev_app, if_pos (by omega)]
        rw [if_pos (by omega)] at hh
        have e1 : P = P.take xs.length ++ P.drop xs.length := (List.take_append_drop ..).symm
        rw [e1, rev_app, if_pos (by omega)] at hh
        exact hh
      · rw [if_neg hc2]
        by_cases hc3 : (P.length : Int) ≤ (d : Int)
        · rw [if_pos hc3]
          have hwn : wr ((Tm.mk b 0 (n : Int) a).index - xs.length) = ((n - xs.length : Nat) : Int) := by
            show wr ((n : Int) - xs.length) = _
            rw [wr_id (by omega) (by omega)]; omega
          rw [hwn]
          clear hwn
          refine stays _ ?_
          rw [if_neg (by omega)] at hh
          rw [headTy_0, rev_app, if_neg (by omega), rev_app, if_neg (by omega), ← hh]
          congr 1
          omega
        · rw [if_neg hc3]
          rw [if_pos (by omega)] at hh
          obtain ⟨j, hj⟩ : ∃ j, j = P.length - 1 - d := ⟨_, rfl⟩
          have hjm : j < xs.length := by omega
          have hjP : j < P.length := by omega
          have hPj : P[j] = h := by
            rw [List.getElem?_reverse (by omega), ← hj, List.getElem?_eq_getElem hjP] at hh
            exact Option.some.inj hh
          have hgd : xs.getD ((P.length : Int) - 1 - (d : Int)).toNat tz = xs[j] := by
            rw [show ((P.length : Int) - 1 - (d : Int)).toNat = j by omega, List.getD_eq_getElem?_getD, List.getElem?_eq_getElem hjm]; rfl
          have hxj : IsOf C M xs[j] X h := by
            have h1 := (isOfs_iff.1 hxt).2 j hjm (by rw [List.length_take]; omega)
            rw [List.getElem_take, hPj] at h1; exact h1
          have hYl : (P.drop xs.length ++ (Z ++ b)).length = P.length - xs.length + (Z ++ b).length := by rw [List.length_append, hdl]
          have hwg : wr (wr ((((Z ++ b).length : Nat) : Int) + P.length) - xs.length) = ((P.drop xs.length ++ (Z ++ b)).length : Nat) := by
            rw [wr_id (x := (((Z ++ b).length : Nat) : Int) + P.length) (by omega) (by omega), wr_id (by omega) (by omega), hYl]; omega
          rw [hgd, hwg]
          clear hgd hwg
          have hxm : xs[j] ∈ xs := List.getElem_mem hjm
          have hu1 := grown_isOf (Y := P.drop xs.length ++ (Z ++ b)) (by have := hxf _ hxm; omega) hxj
          have hub := (hx _ hxm).grown ((P.drop xs.length ++ (Z ++ b)).length : Nat)
          generalize grown xs[j] ((P.drop xs.length ++ (Z ++ b)).length : Nat) = v at hu1 hub ⊢
          obtain ⟨vb, vk, vi, va⟩ := v
          obtain ⟨v1, v2, v3⟩ := hub.inv
          obtain ⟨hvb, h', hvh, hvbase, hvargs⟩ := isOf_mk.1 hu1
          have hal := isOfs_len hargs
          have hvl := Ty.le_sizes vb
          have hlen : vb.length = q.1.length := by rw [hvb, hal, hql]
          show Kp s (if vb.length ≠ q.1.length then _ else _) _
          rw [if_neg (fun h => h hlen)]
          unfold putW
          dsimp only
          by_cases hqe : q.2.e = 0
          rotate_left
          · rw [if_pos (.inl hqe)]
            refine ⟨fun e => ?_, fun e => ?_⟩
            · show (fail q.2 1).e ≠ 1
              rw [fail_e hqe]; exact hq1 e
            · have e' : (fail q.2 1).e = 0 := e
              rw [fail_e hqe] at e'; exact absurd e' hqe
          rw [if_neg (show ¬ (q.2.e ≠ 0 ∨ q.1.length > (Tm.mk vb vk vi va).binds.length) from fun h => h.elim (fun h => h hqe) fun h => by have h' : q.1.length > vb.length := h; omega)]
          have hqa := (hq.2 hqe).2
          have hqg := hgr hqe
          have hX' : X ++ (P.drop xs.length ++ (Z ++ b)) = X ++ P.drop xs.length ++ (Z ++ b) := (List.append_assoc ..).symm
          rw [hX'] at hvh hvargs
          have hXl : (X ++ P.drop xs.length ++ (Z ++ b)).length = X.length + (P.length - xs.length) + (Z ++ b).length := by rw [List.length_append, List.length_append, hdl]
          have hi2 := ih q.1 vb.length (.mk [] vk vi va) 0 q.2 (X ++ P.drop xs.length ++ (Z ++ b)) vb [] (.mk [] h.base) hqw (fun _ => by have := hf1 u3; omega) hqg.2.2 (.mk _ _ _ _ (by simp [Ty.sizes]) v2 v3)
            (fun x hx => by
              have h1 := Bnd.full x (hqg.2.2 x hx)
              have h2 : x.size ≤ 1000000000 := by
                have := Tm.size_mem hx
                have := hqg.2.1
                have := hw.left.2
                have := hqw.left.1
                omega
              have h3 : x.size * (B + 1) ≤ 1000000000 * 5001 := Nat.mul_le_mul h2 (by omega)
              omega) hB (by omega) rfl rfl (by rw [hXl]; simp only [List.length_nil]; omega) (by rw [List.take_of_length_le (by omega), hvb]; exact hqa)
            (by rw [List.append_nil]; exact isOf_mk.2 ⟨rfl, h', by rw [List.append_nil]; exact hvh, hvbase, by rw [List.append_nil]; exact hvargs⟩)
          have hdr : vb.drop q.1.length = [] := List.drop_of_length_le (by omega)
          rw [hdr, List.append_nil, List.append_nil] at hi2
          show Kp s (Tm.mk b (through f q.1 vb.length (.mk [] vk vi va) 0 q.2).1.kind (through f q.1 vb.length (.mk [] vk vi va) 0 q.2).1.index (through f q.1 vb.length (.mk [] vk vi va) 0 q.2).1.args, (through f q.1 vb.length (.mk [] vk vi va) 0 q.2).2) _
          generalize through f q.1 vb.length (.mk [] vk vi va) 0 q.2 = r at hi2 ⊢
          obtain ⟨⟨rb, rk, ri, ra⟩, rs⟩ := r
          refine ⟨fun e => hi2.1 (hq1 e), fun e => ⟨u2, ?_⟩⟩
          obtain ⟨hrb, h2, hrh, hrbase, hrargs⟩ := isOf_mk.1 (hi2.2 e).2
          have hrb : rb = [] := hrb
          subst hrb
          rw [List.append_nil] at hrh hrargs
          exact isOf_mk.2 ⟨hbu, h2, by rw [List.append_assoc]; exact hrh, hrbase.trans hbase, by rw [List.append_assoc]; exact hrargs⟩
end Nm
end Go.Proofs.YtflbnonbfmmchaaGreat

namespace Go.Proofs.YtflbnonbfmmchaaGreat
open Go.RowKit
namespace Sb
variable {C M : List Ty} {B : Nat}
theorem put_keeps {v : Tm} {xs : List Tm} {X : List Ty} {h : Ty} {left : Int} {dry : Bool} (h0 : 0 ≤ left ∧ left ≤ 1000000000) (hB : B ≤ 1000) (hv : Bnd B v) (hx : ∀ x ∈ xs, Bnd B x) (hxf : ∀ x ∈ xs, x.full ≤ 8000000000000) (hX : X.length ≤ 500000000)
    (hvt : IsOf C M v X h) (hxt : IsOfs C M xs X h.args) :
    (Nm.put 100001 v xs ⟨left, dry, 0, 0⟩).2.e ≠ 1 ∧ ((Nm.put 100001 v xs ⟨left, dry, 0, 0⟩).2.e = 0 → IsOf C M (.mk [] (Nm.put 100001 v xs ⟨left, dry, 0, 0⟩).1.kind (Nm.put 100001 v xs ⟨left, dry, 0, 0⟩).1.index (Nm.put 100001 v xs ⟨left, dry, 0, 0⟩).1.args) X (.mk [] h.base)) := by
  have hw : WkOk ⟨left, dry, 0, 0⟩ := ⟨h0, ⟨Int.le_refl 0, (by decide : (0 : Int) ≤ 100001)⟩, fun _ => (by decide : (0 : Int) ≤ 100000)⟩
  obtain ⟨vb, vk, vi, va⟩ := v
  obtain ⟨v1, v2, v3⟩ := hv.inv
  obtain ⟨rfl, h', hh, hb, ha⟩ := isOf_mk.1 hvt
  have hl := isOfs_len hxt
  have hvl := Ty.le_sizes h.args
  have hm : (2 * B + 2) * 100001 ≤ 2002 * 100001 := Nat.mul_le_mul_right _ (by omega)
  have hk := Nm.through_keeps C M B 100001 xs h.args.length (.mk [] vk vi va) 0 ⟨left, dry, 0, 0⟩ X h.args [] (.mk [] h.base) hw (fun _ => by show (100001 : Int) - 0 ≤ ((100001 : Nat) : Int); decide) hx (.mk _ _ _ _ (by simp [Ty.sizes]) v2 v3) hxf (by omega) (by omega) rfl rfl (by simp only [List.length_nil]; omega)
    (by rw [List.take_of_length_le (by omega)]; exact hxt) (by rw [List.append_nil]; exact isOf_mk.2 ⟨rfl, h', by rw [List.append_nil]; exact hh, hb, by rw [List.append_nil]; exact ha⟩)
  rw [List.drop_of_length_le (by omega), List.append_nil, List.append_nil] at hk
  unfold Nm.put Nm.putW
  rw [if_neg (by rintro (h9 | h9); exact h9 rfl; exact absurd h9 (by show ¬ xs.length > h.args.length; omega))]
  dsimp only
  show (Nm.through 100001 xs h.args.length (.mk [] vk vi va) 0 ⟨left, dry, 0, 0⟩).2.e ≠ 1 ∧ _
  refine ⟨hk.1 (by show (0 : Int) ≠ 1; decide), fun e => ?_⟩
  have h2 := (hk.2 e).2
  show IsOf C M (.mk [] (Nm.through 100001 xs h.args.length (.mk [] vk vi va) 0 ⟨left, dry, 0, 0⟩).1.kind (Nm.through 100001 xs h.args.length (.mk [] vk vi va) 0 ⟨left, dry, 0, 0⟩).1.index (Nm.through 100001 xs h.args.length (.mk [] vk vi va) 0 ⟨left, dry, 0, 0⟩).1.args) X (.mk [] h.base)
  generalize (Nm.through 100001 xs h.args.length (.mk [] vk vi va) 0 ⟨left, dry, 0, 0⟩).1 = r at h2 ⊢
  obtain ⟨rb, rk, ri, ra⟩ := r
  obtain ⟨e1, hr⟩ := isOf_mk.1 h2
  have e1 : rb = [] := e1
  subst e1
  exact h2
theorem Put_keeps {v : Tm} {xs : List Tm} {X : List Ty} {h : Ty} {left : Int} {dry : Bool} (h0 : 0 ≤ left ∧ left ≤ 1000000000) (hB : B ≤ 1000) (hv : Bnd B v) (hx : ∀ x ∈ xs, Bnd B x) (hxf : ∀ x ∈ xs, x.full ≤ 8000000000000) (hX : X.length ≤ 500000000)
    (hvt : IsOf C M v X h) (hxt : IsOfs C M xs X h.args) :
    (Nm.Put v xs left dry).2.e ≠ 1 ∧ ((Nm.Put v xs left dry).2.e = 0 → IsOf C M (.mk [] (Nm.Put v xs left dry).1.kind (Nm.Put v xs left dry).1.index (Nm.Put v xs left dry).1.args) X (.mk [] h.base)) := by
  have h1 := put_keeps (dry := dry) h0 hB hv hx hxf hX hvt hxt
  unfold Nm.Put Nm.done
  dsimp only
  generalize Nm.put 100001 v xs ⟨left, dry, 0, 0⟩ = p at h1
  by_cases hc : p.2.e = 0 ∧ ¬ (p.1.size ≤ 5000 ∧ p.1.depth ≤ 60)
  · rw [if_pos hc]
    have hf : (Nm.fail p.2 2).e = 2 := by unfold Nm.fail; rw [if_pos hc.1]
    rw [if_pos (by rw [hf]; decide)]
    refine ⟨by rw [hf]; decide, fun e => ?_⟩
    rw [hf] at e; cases e
  · rw [if_neg hc]
    by_cases hp : p.2.e = 0
    · rw [if_neg (fun h => h hp)]
      exact h1
    · rw [if_pos hp]
      exact ⟨h1.1, fun e => absurd e hp⟩
theorem find_at {l : List (Int × Tm)} {i : Int} {u : Tm} (h : find l i = some u) : ∃ p ∈ l, p.2 = u ∧ p.1 = i := by
  unfold find at h
  cases hf : l.find? (fun p => p.1 == i) with
  | none => rw [hf] at h; cases h
  | some p =>
    rw [hf] at h; cases h
    have := List.find?_some hf
    exact ⟨p, List.mem_of_find?_eq_some hf, rfl, by simpa using this⟩
theorem seq_keeps {g : Tm → Nm.St → Tm × Nm.St} {X X' : List Ty} : ∀ (a : List Tm) (us : List Ty) (hg : ∀ t ∈ a, ∀ u s, InR s → IsOf C M t X u → Nm.Kp s (g t s) fun r => IsOf C M r X' u) (hi : ∀ t ∈ a, ∀ s, InR s → InR (g t s).2) (s : Nm.St), InR s →
    IsOfs C M a X us → (s.e ≠ 1 → (Nm.seqM g a s).2.e ≠ 1) ∧ ((Nm.seqM g a s).2.e = 0 → s.e = 0 ∧ IsOfs C M (Nm.seqM g a s).1 X' us)
  | [], [], _, _, s, _, _ => ⟨fun h => h, fun h => ⟨h, by rw [Nm.seqM, IsOfs]; trivial⟩⟩
  | [], _ :: _, _, _, s, _, h => by rw [IsOfs] at h; exact h.elim
  | _ :: _, [], _, _, s, _, h => by rw [IsOfs] at h; exact h.elim
  | t :: a, u :: us, hg, hi, s, hs, h => by
    rw [IsOfs] at h
    have h1 := hg t (by simp) u s hs h.1
    have h2 := seq_keeps a us (fun v hv => hg v (by simp [hv])) (fun v hv => hi v (by simp [hv])) (g t s).2 (hi t (by simp) s hs) h.2
    refine ⟨fun e => h2.1 (h1.1 e), fun e => ?_⟩
    have h3 := h2.2 e
    have h4 := h1.2 h3.1
    exact ⟨h4.1, by rw [Nm.seqM, IsOfs]; exact ⟨h4.2, h3.2⟩⟩
theorem replaced_eq (b : List Ty) (k i : Int) (a : List Tm) (v : Tm) (s : Nm.St) : replaced (.mk b k i a) v s = if v.binds.length ≠ a.length then (Nm.tz, { s with e := 1 })
    else if (Nm.Put v a s.left s.dry).2.e ≠ 0 then (Nm.tz, { s with left := (Nm.Put v a s.left s.dry).2.left, dry := (Nm.Put v a s.left s.dry).2.dry, e := (Nm.Put v a s.left s.dry).2.e })
    else (.mk b (Nm.Put v a s.left s.dry).1.kind (Nm.Put v a s.left s.dry).1.index (Nm.Put v a s.left s.dry).1.args, { s with left := (Nm.Put v a s.left s.dry).2.left, dry := (Nm.Put v a s.left s.dry).2.dry }) := rfl
theorem keeps (hB : B ≤ 1000) (l : List (Int × Tm)) (X0 : List Ty) (hl : ∀ p ∈ l, (∃ h, headTy C M X0 2 p.1 = some h ∧ IsOf C M p.2 X0 h) ∧ Bnd B p.2 ∧ p.2.full ≤ 1000000) :
    ∀ (t : Tm) (Z : List Ty) (u : Ty), IsOf C M t (X0 ++ Z) u → Bnd B t → X0.length + Z.length + t.full ≤ 100000000 → ∀ s, InR s → Nm.Kp s (through l t (Z.length : Nat) s) fun r => IsOf C M r (X0 ++ Z) u := by
  intro t
  induction t using Tm.ind with
  | h b k i a ih =>
    intro Z u ht hbn hz s hs
    obtain ⟨hbu, h, hh, hbase, hargs⟩ := isOf_mk.1 ht
    obtain ⟨t1, t2, t3⟩ := hbn.inv
    have hbl := Ty.le_sizes b
    rw [Tm.full_eq] at hz
    have hZb : (Z ++ b).length = Z.length + b.length := List.length_append
    have hwr : Nm.wr ((Z.length : Nat) + b.length) = (((Z ++ b).length : Nat) : Int) := by rw [wr_id (by omega) (by omega), hZb]; omega
    rw [through]
    dsimp only
    rw [hwr]
    clear hwr
    by_cases he : s.e = 0
    rotate_left
    · rw [if_pos he]; exact ⟨fun h => h, fun e => absurd e he⟩
    rw [if_neg (fun h => h he)]
    by_cases hsp : (Nm.spend s).1 = true
    rotate_left
    · rw [if_pos (by simpa using hsp)]
      exact ⟨fun _ => by show (11 : Int) ≠ 1; decide, fun e => by cases e⟩
    rw [if_neg (by rw [hsp]; simp)]
    obtain ⟨s1, s2⟩ := spend_ok hsp
    have hin := spend_in hs
    rw [throughs_seq]
    rw [List.append_assoc] at hh hargs
    have hq := seq_keeps (C := C) (M := M) (g := fun t s => through l t ((Z ++ b).length : Nat) s) (X := X0 ++ (Z ++ b)) (X' := X0 ++ (Z ++ b)) a h.args
      (fun v hv w s hs hw => ih v hv (Z ++ b) w hw (t3 v hv) (by have := Tm.full_mem hv; omega) s hs) (fun v hv s hs => through_in l v _ s hs) (Nm.spend s).2 hin hargs
    have hgr := seq_grow (B := B) (g := fun t s => through l t ((Z ++ b).length : Nat) s) a (fun v hv s hs => grow l (fun p hp => (hl p hp).2.1) v (t3 v hv) _ s hs) (fun v hv s hs => through_in l v _ s hs) (Nm.spend s).2 hin
    have hqi := seqM_in (g := fun t s => through l t ((Z ++ b).length : Nat) s) a (fun v hv s hs => through_in l v _ s hs) _ hin
    have hql := Nm.seqM_length (fun t s => through l t ((Z ++ b).length : Nat) s) a (Nm.spend s).2
    generalize Nm.seqM (fun t s => through l t ((Z ++ b).length : Nat) s) a (Nm.spend s).2 = q at hq hgr hqi hql ⊢
    have hq1 : q.2.e ≠ 1 := hq.1 (by omega)
    have stays : Nm.Kp s (.mk b k i q.1, q.2) fun r => IsOf C M r (X0 ++ Z) u :=
      ⟨fun _ => hq1, fun e => ⟨he, isOf_mk.2 ⟨hbu, h, by rw [List.append_assoc]; exact hh, hbase, by rw [List.append_assoc]; exact (hq.2 e).2⟩⟩⟩
    by_cases hk : k ≠ 2 ∨ q.2.e ≠ 0
    · rw [if_pos hk]; exact stays
    rw [if_neg hk]
    have hk2 : k = 2 := by
      by_cases h : k = 2
      · exact h
      · exact absurd (.inl h) hk
    have hqe : q.2.e = 0 := by
      by_cases h : q.2.e = 0
      · exact h
      · exact absurd (.inr h) hk
    subst hk2
    cases hfi : find l i with
    | none => exact stays
    | some v =>
      obtain ⟨p, hp, rfl, rfl⟩ := find_at hfi
      obtain ⟨⟨h', hh', hvt⟩, hvb, hvf⟩ := hl p hp
      have hsame : h' = h := by
        rw [headTy_ctx (X' := X0 ++ (Z ++ b)) (by decide), hh] at hh'
        exact (Option.some.inj hh').symm
      subst hsame
      have hlt := lift_isOf p.2 X0 (Z ++ b) [] h' (by simp only [List.length_nil]; omega) (by rw [List.append_nil]; exact hvt)
      rw [List.append_nil] at hlt
      have hlb : Bnd B (Nm.lift ((Z ++ b).length : Nat) p.2 0) := Bnd.lift _ _ _ hvb
      have hqa := (hq.2 hqe).2
      have hqg := hgr hqe
      have hfull : ∀ x ∈ q.1, x.full ≤ 8000000000000 := fun x hx => by
        have h1 := Bnd.full x (hqg.2.2 x hx)
        have h2 : x.size ≤ 1000000000 := by
          have := Tm.size_mem hx
          have := hqg.2.1
          have := hin.2
          have := hqi.1
          omega
        have h3 : x.size * (B + 1) ≤ 1000000000 * 1001 := Nat.mul_le_mul h2 (by omega)
        omega
      have hPk := Put_keeps (dry := q.2.dry) (left := q.2.left) hqi hB hlb hqg.2.2 hfull (by rw [List.length_append]; omega) hlt hqa
      have hbl2 : (Nm.lift ((Z ++ b).length : Nat) p.2 0).binds = h'.args := by
        generalize Nm.lift ((Z ++ b).length : Nat) p.2 0 = v at hlt
        obtain ⟨vb, vk, vi, va⟩ := v
        exact (isOf_mk.1 hlt).1
      have hal := isOfs_len hargs
      show Nm.Kp s (replaced (.mk b 2 p.1 q.1) (Nm.lift ((Z ++ b).length : Nat) p.2 0) q.2) _
      rw [replaced_eq, if_neg (fun hne => hne (by rw [hbl2, hal, hql]))]
      generalize Nm.Put (Nm.lift ((Z ++ b).length : Nat) p.2 0) q.1 q.2.left q.2.dry = r at hPk ⊢
      by_cases hr : r.2.e = 0
      · rw [if_neg (fun h => h hr)]
        refine ⟨fun _ => hq1, fun _ => ⟨he, ?_⟩⟩
        obtain ⟨_, h2, hrh, hrbase, hrargs⟩ := isOf_mk.1 (hPk.2 hr)
        rw [List.append_nil] at hrh hrargs
        exact isOf_mk.2 ⟨hbu, h2, by rw [List.append_assoc]; exact hrh, hrbase.trans hbase, by rw [List.append_assoc]; exact hrargs⟩
      · rw [if_pos hr]
        exact ⟨fun _ => hPk.1, fun e => absurd e hr⟩
theorem apply_keeps (hB : B ≤ 1000) (l : List (Int × Tm)) (X0 : List Ty) (hr : right l = true) (hl : ∀ p ∈ l, (∃ h, headTy C M X0 2 p.1 = some h ∧ IsOf C M p.2 X0 h) ∧ Bnd B p.2 ∧ p.2.full ≤ 1000000)
    (t : Tm) (u : Ty) (ht : IsOf C M t X0 u) (hbn : Bnd B t) (hz : X0.length + t.full ≤ 100000000) (left : Int) (dry : Bool) (h0 : 0 ≤ left ∧ left ≤ 1000000000) :
    (apply l t left dry).2.e ≠ 1 ∧ ((apply l t left dry).2.e = 0 → IsOf C M (apply l t left dry).1 X0 u) := by
  have h1 := keeps hB l X0 hl t [] u (by rw [List.append_nil]; exact ht) hbn (by simp only [List.length_nil]; omega) ⟨left, dry, 0, 0⟩ h0
  rw [List.append_nil] at h1
  unfold apply
  rw [if_neg (by rw [hr]; simp)]
  dsimp only
  have h2 := h1.1 (by show (0 : Int) ≠ 1; decide)
  have h3 := h1.2
  simp only [List.length_nil] at h2 h3
  have e0 : (((0 : Nat) : Int)) = 0 := rfl
  rw [e0] at h2 h3
  generalize through l t 0 ⟨left, dry, 0, 0⟩ = r at h2 h3
  by_cases hc : r.2.e = 0 ∧ ¬ (r.1.size ≤ 5000 ∧ r.1.depth ≤ 60)
  · rw [if_pos hc]
    exact ⟨by show (if (2 : Int) ≠ 0 then _ else _ : Tm × Nm.St).2.e ≠ 1; rw [if_pos (by decide)]; show (2 : Int) ≠ 1; decide, fun e => by
      have e' : (if (2 : Int) ≠ 0 then _ else _ : Tm × Nm.St).2.e = 0 := e
      rw [if_pos (by decide)] at e'; cases e'⟩
  · rw [if_neg hc]
    by_cases hp : r.2.e = 0
    · rw [if_neg (fun h => h hp)]
      exact ⟨h2, fun e => (h3 e).2⟩
    · rw [if_pos hp]
      exact ⟨h2, fun e => absurd e hp⟩
end Sb
end Go.Proofs.YtflbnonbfmmchaaGreat

namespace Go.Proofs.YtflbnonbfmmchaaGreat
open Go.RowKit
def TRA_41 : TI := ⟨4, true, [Value.slice none 0 0, Value.int IntKind.i64 0, Value.int IntKind.i64 0, Value.slice none 0 0], [(0, 1, false), (1, 2, true), (3, 1, false)], none, 64, 6, none, false⟩
theorem TRA_41_ok : TypOk Tryz.prog 41 TRA_41 := by constructor <;> kernel_rfl
def TRA_39 : TI := ⟨1, false, [Value.slice none 0 0], [], some 41, 24, 5, none, false⟩
theorem TRA_39_ok : TypOk Tryz.prog 39 TRA_39 := by constructor <;> kernel_rfl
def TRA_59 : TI := ⟨1, false, [Value.slice none 0 0], [], some 3, 24, 5, none, false⟩
theorem TRA_59_ok : TypOk Tryz.prog 59 TRA_59 := by constructor <;> kernel_rfl
def TRA_184 : TI := ⟨2, true, [Value.map none, Value.slice none 0 0], [(0, 1, false), (1, 1, false)], none, 32, 6, none, false⟩
theorem TRA_184_ok : TypOk Tryz.prog 184 TRA_184 := by constructor <;> kernel_rfl
def TRA_3 : TI := ⟨1, false, [Value.int IntKind.i64 0], [], none, 8, 2, none, false⟩
theorem TRA_3_ok : TypOk Tryz.prog 3 TRA_3 := by constructor <;> kernel_rfl
def TRA_182 : TI := ⟨1, false, [Value.map none], [], none, 8, 7, some 3, false⟩
theorem TRA_182_ok : TypOk Tryz.prog 182 TRA_182 := by constructor <;> kernel_rfl
def TRA_186 : TI := ⟨1, true, [Value.pointer none], [(0, 1, false)], none, 8, 6, none, false⟩
theorem TRA_186_ok : TypOk Tryz.prog 186 TRA_186 := by constructor <;> kernel_rfl
def TRA_181 : TI := ⟨1, false, [Value.pointer none], [], none, 8, 4, none, false⟩
theorem TRA_181_ok : TypOk Tryz.prog 181 TRA_181 := by constructor <;> kernel_rfl
def TRA_38 : TI := ⟨2, true, [Value.int IntKind.i64 0, Value.int IntKind.i64 0], [(0, 1, false), (1, 1, false)], none, 16, 6, none, true⟩
theorem TRA_38_ok : TypOk Tryz.prog 38 TRA_38 := by constructor <;> kernel_rfl
def TRA : List (Nat × TI) := [(41, TRA_41), (39, TRA_39), (59, TRA_59), (184, TRA_184), (3, TRA_3), (182, TRA_182), (186, TRA_186), (181, TRA_181), (38, TRA_38)]
theorem TRA_ok : TabOk Tryz.prog TRA := ((((((((((TabOk.nil _).cons TRA_38_ok).cons TRA_181_ok).cons TRA_186_ok).cons TRA_182_ok).cons TRA_3_ok).cons TRA_184_ok).cons TRA_59_ok).cons TRA_39_ok).cons TRA_41_ok)

namespace Ru
def ix (m : Int) : List Int → Nat
  | [] => 0
  | x :: l => if x = m then 0 else ix m l + 1
def met (o : List Int) (m : Int) : List Int := if m ∈ o then o else o ++ [m]
mutual
def tr : Tm → List Int → List Int × Tm
  | .mk b k i a, o => ((trs a (if k = 2 then met o i else o)).1, .mk b k (if k = 2 then (ix i o : Int) else i) (trs a (if k = 2 then met o i else o)).2)
def trs : List Tm → List Int → List Int × List Tm
  | [], o => (o, [])
  | t :: l, o => ((trs l (tr t o).1).1, (tr t o).2 :: (trs l (tr t o).1).2)
end
theorem tr_eq (b : List Ty) (k i : Int) (a : List Tm) (o : List Int) : tr (.mk b k i a) o = ((trs a (if k = 2 then met o i else o)).1, .mk b k (if k = 2 then (ix i o : Int) else i) (trs a (if k = 2 then met o i else o)).2) := by rw [tr]
theorem trs_snoc : ∀ (l : List Tm) (o : List Int) (j : Nat) (h : j < l.length), trs (l.take (j + 1)) o = ((tr l[j] (trs (l.take j) o).1).1, (trs (l.take j) o).2 ++ [(tr l[j] (trs (l.take j) o).1).2])
  | [], _, _, h => by simp at h
  | t :: l, o, 0, _ => by simp [trs]
  | t :: l, o, j + 1, h => by
    have := trs_snoc l (tr t o).1 j (by simpa using h)
    simp only [List.take_succ_cons, trs, List.getElem_cons_succ]
    rw [this]; rfl
theorem trs_len : ∀ (l : List Tm) (o : List Int), (trs l o).2.length = l.length
  | [], _ => rfl
  | t :: l, o => by rw [trs]; simp [trs_len l]
theorem met_len (o : List Int) (m : Int) : (met o m).length ≤ o.length + 1 := by
  unfold met; split
  · omega
  · simp
theorem trs_grow_of {l : List Tm} (h : ∀ t ∈ l, ∀ o, (tr t o).1.length ≤ o.length + t.full) : ∀ o, (trs l o).1.length ≤ o.length + Tm.fulls l := by
  induction l with
  | nil => intro o; simp [trs, Tm.fulls]
  | cons t l ih =>
    intro o
    have h1 := h t (by simp) o
    have h2 := ih (fun u hu => h u (by simp [hu])) (tr t o).1
    rw [trs, Tm.fulls]
    dsimp only
    omega
theorem tr_grow (t : Tm) : ∀ o, (tr t o).1.length ≤ o.length + t.full := by
  induction t using Tm.ind with
  | h b k i a ih =>
    intro o
    have h2 : (if k = 2 then met o i else o).length ≤ o.length + 1 := by
      split
      · exact met_len o i
      · omega
    rw [tr_eq, Tm.full_eq]
    dsimp only
    generalize (if k = 2 then met o i else o) = o1 at h2 ⊢
    have h1 := trs_grow_of ih o1
    omega
theorem trs_grow (l : List Tm) (o : List Int) : (trs l o).1.length ≤ o.length + Tm.fulls l := trs_grow_of (fun t _ => tr_grow t) o
def eN : List Int → Nat → List (Int × D)
  | [], _ => []
  | x :: l, n => (x, .v (.int .i64 ((n : Nat) : Int))) :: eN l (n + 1)
theorem eN_find (m : Int) : ∀ (o : List Int) (n : Nat), mfind (eN o n) m = if m ∈ o then some (.v (.int .i64 ((n + ix m o : Nat) : Int))) else none
  | [], n => rfl
  | x :: l, n => by
    show (if m = x then _ else mfind (eN l (n + 1)) m) = _
    by_cases h : m = x
    · rw [if_pos h, if_pos (by simp [h])]
      have : ix m (x :: l) = 0 := by rw [ix, if_pos h.symm]
      rw [this]; rfl
    · have h1 : ix m (x :: l) = ix m l + 1 := by rw [ix, if_neg fun e => h e.symm]
      rw [if_neg h, eN_find m l (n + 1), h1]
      have h2 : (m ∈ x :: l) ↔ m ∈ l := by simp [h]
      by_cases h3 : m ∈ l
      · rw [if_pos h3, if_pos (h2.2 h3), show n + 1 + ix m l = n + (ix m l + 1) by omega]
      · rw [if_neg h3, if_neg (fun h => h3 (h2.1 h))]
theorem eN_put (m : Int) : ∀ (o : List Int) (n : Nat), m ∉ o → mput (eN o n) m (.v (.int .i64 ((n + o.length : Nat) : Int))) = eN (o ++ [m]) n
  | [], n, _ => rfl
  | x :: l, n, h => by
    show (if m = x then _ else _ :: mput (eN l (n + 1)) m _) = _
    have hx : m ≠ x := fun e => h (by simp [e])
    have := eN_put m l (n + 1) (fun h2 => h (by simp [h2]))
    rw [if_neg hx, show n + (x :: l).length = n + 1 + l.length by simp; omega, this]; rfl
@[simp] theorem eN_ok (f g : Nat → Bool) : ∀ (o : List Int) (n : Nat), D.okm f g (eN o n) = true
  | [], _ => by simp [eN, D.okm]
  | x :: l, n => by simp [eN, D.okm, D.ok, eN_ok f g l (n + 1)]
theorem ix_no {m : Int} : ∀ {o : List Int}, m ∉ o → ix m o = o.length
  | [], _ => rfl
  | x :: l, h => by rw [ix, if_neg fun e => h (by simp [e]), ix_no fun h2 => h (by simp [h2])]; rfl
end Ru
set_option maxHeartbeats 1000000 in
theorem rumet_d (o : List Int) (m : Int) (hl : o.length ≤ 900000) : CallG Tryz.prog 135 [.p 5 0, .v (.int .i64 m)] [(.c 5 0, .mo 3), (.c 5 1, .sl 1 (eIs o) (some 9)), (.o 3, .mp (Ru.eN o 0)), (.r 9, .rw 3 1 o.length)] [(.c 5 0, .mo 3), (.c 5 1, .sl 1 (eIs (Ru.met o m)) (some 9)), (.o 3, .mp (Ru.eN (Ru.met o m) 0)), (.r 9, .rw 3 1 (Ru.met o m).length)] (.v (.int .i64 (Ru.ix m o : Int))) := by
 have hf := Ru.eN_find m o 0
 unfold Ru.met
 by_cases h : m ∈ o
 ·rw [if_pos h] at hf ⊢
  rw [Nat.zero_add] at hf
  refine callG_of_dw 10 40 [ResultVar.tmp 4] TRA_ok (by kernel_rfl) Tryz.func135 rfl Tryz.ntmps135 rfl (by simp) ?dwords ?dbody
  case dwords => simp [wordsG, rowN, rowsR, gkey, Key.eq, D.ok, D.oks, D.okss, rnames, inN, ckey, eIs_ok, Ru.eN_ok]
  case dbody =>
   intro cx hnt hn0
   refine dw_seq ?_; refine dwk [] TRA_ok hnt fun K hK => ?_; refine hK _ _ ?_; clear hK K; refine dw_seq ?_; refine dwk [(13, .tu [.v (.int .i64 ↑(Ru.ix m o)), .v (.bool true)])] TRA_ok hnt fun K hK => ?_; refine And.intro (VLe.of_eq (by unfold lookD; rw [hf]; rfl)) ?_; refine hK _ _ ?_; clear hK K; refine dw_seq ?_; refine dw_seq ?_; refine dwk [] TRA_ok hnt fun K hK => ?_; refine hK _ _ ?_; clear hK K
   refine dw_cond (t := false) rfl ?_; rw [if_neg (by simp)]; refine dw_skip ?_; refine dw_seq ?_; refine dwk [] TRA_ok hnt fun K hK => ?_; refine hK _ _ ?_; clear hK K; refine dw_ret ?_
   exact reta rfl
 ·rw [if_neg h] at hf ⊢
  have hp := Ru.eN_put m o 0 h
  rw [Nat.zero_add] at hp
  rw [Ru.ix_no h]
  refine callG_of_dw 10 40 [ResultVar.tmp 4] TRA_ok (by kernel_rfl) Tryz.func135 rfl Tryz.ntmps135 rfl (by simp) ?dwords ?dbody
  case dwords => simp [wordsG, rowN, rowsR, gkey, Key.eq, D.ok, D.oks, D.okss, rnames, inN, ckey, eIs_ok, Ru.eN_ok]
  case dbody =>
   intro cx hnt hn0
   refine dw_seq ?_; refine dwk [] TRA_ok hnt fun K hK => ?_; refine hK _ _ ?_; clear hK K; refine dw_seq ?_; refine dwk [(13, .tu [.v (.int .i64 0), .v (.bool false)])] TRA_ok hnt fun K hK => ?_; refine And.intro (VLe.of_eq (by unfold lookD; rw [hf]; rfl)) ?_; refine hK _ _ ?_; clear hK K; refine dw_seq ?_; refine dw_seq ?_; refine dwk [] TRA_ok hnt fun K hK => ?_; refine hK _ _ ?_; clear hK K; refine dw_cond (t := true) rfl ?_
   rw [if_pos rfl]; refine dw_seq ?_; refine dwk [(22, .v (.int .i64 (↑o.length)))] TRA_ok hnt fun K hK => ?_; refine And.intro (dintE (by rw [eIs_len])) ?_; refine hK _ _ ?_; clear hK K; refine dw_seq ?_; refine dwk [] TRA_ok hnt fun K hK => ?_; refine hK _ _ ?_; clear hK K
   rw [hp]
   refine dwk [(36, .sl 1 (eIs (o ++ [m])) (some 9))] TRA_ok hnt fun K hK => ?_; refine And.intro (⟨by rw [eIs_len], by rw [eIs_len]; simp; omega⟩) ?_; refine And.intro (VLe.of_eq (by rw [eIs_append]; rfl)) ?_; refine hK _ _ ?_; clear hK K
   rw [show (eIs o ++ [[D.v (.int .i64 m)]]).length = (o ++ [m]).length by simp [eIs_len]]
   refine dw_seq ?_; refine dwk [] TRA_ok hnt fun K hK => ?_; refine hK _ _ ?_; clear hK K; refine dw_ret ?_
   exact reta rfl
def TrC (t : Tm) : Prop := ∀ o : List Int, o.length + t.full ≤ 700000 →
  CallG Tryz.prog 100 [.ag [.p 5 0], .ag (eTm t)] [(.c 5 0, .mo 3), (.c 5 1, .sl 1 (eIs o) (some 9)), (.o 3, .mp (Ru.eN o 0)), (.r 9, .rw 3 1 o.length)] [(.c 5 0, .mo 3), (.c 5 1, .sl 1 (eIs (Ru.tr t o).1) (some 9)), (.o 3, .mp (Ru.eN (Ru.tr t o).1 0)), (.r 9, .rw 3 1 (Ru.tr t o).1.length)] (.ag (eTm (Ru.tr t o).2))
set_option maxHeartbeats 2000000 in
theorem rutr_d (t : Tm) : TrC t := by
 induction t using Tm.ind with
 | h b k i a ih =>
 intro o hz
 rw [Tm.full_eq] at hz
 have hal := cFulls_len a
 have hfl := pflex_d (.mk b k i a)
 have hme := rumet_d o i (by omega)
 have hml := Ru.met_len o i
 rw [Ru.tr_eq]
 obtain ⟨o1, ho1⟩ : ∃ o1, (if k = 2 then Ru.met o i else o) = o1 := ⟨_, rfl⟩
 have hol : o1.length ≤ o.length + 1 := by
  rw [← ho1]; split
  ·exact hml
  ·omega
 obtain ⟨A, hA⟩ : ∃ A : Nat → List Int, A = fun j => (Ru.trs (a.take j) o1).1 := ⟨_, rfl⟩
 obtain ⟨B, hB⟩ : ∃ B : Nat → List Tm, B = fun j => (Ru.trs (a.take j) o1).2 := ⟨_, rfl⟩
 have hA0 : A 0 = o1 := by rw [hA]; rfl
 have hB0 : B 0 = [] := by rw [hB]; rfl
 have hAe : (Ru.trs a o1).1 = A a.length := by rw [hA]; simp
 have hBe : (Ru.trs a o1).2 = B a.length := by rw [hB]; simp
 have hAs : ∀ j (h : j < a.length), (Ru.tr a[j] (A j)).1 = A (j + 1) := fun j h => by rw [hA]; dsimp only; rw [Ru.trs_snoc a o1 j h]
 have hBs : ∀ j (h : j < a.length), eTms (B j) ++ [[.sl 2 (eTys (Ru.tr a[j] (A j)).2.binds) none, .v (.int .i64 (Ru.tr a[j] (A j)).2.kind), .v (.int .i64 (Ru.tr a[j] (A j)).2.index), .sl 4 (eTms (Ru.tr a[j] (A j)).2.args) none]] = eTms (B (j + 1)) := fun j h => by
  rw [hA, hB]; dsimp only; rw [Ru.trs_snoc a o1 j h, ← eTm_eq]
  dsimp only; rw [eTms_append]; rfl
 have hBl : ∀ j, j ≤ a.length → (eTms (B j)).length = j := fun j h => by rw [eTms_len, hB]; dsimp only; rw [Ru.trs_len, List.length_take]; omega
 have hAl : ∀ j, j ≤ a.length → (A j).length ≤ o1.length + Tm.fulls (a.take j) := fun j h => by rw [hA]; exact Ru.trs_grow _ _
 have hI : ∀ j (h : j < a.length), CallG Tryz.prog 100 [.ag [.p 5 0], .ag (eTm a[j])] [(.c 5 0, .mo 3), (.c 5 1, .sl 1 (eIs (A j)) (some 9)), (.o 3, .mp (Ru.eN (A j) 0)), (.r 9, .rw 3 1 (A j).length)] [(.c 5 0, .mo 3), (.c 5 1, .sl 1 (eIs (A (j + 1))) (some 9)), (.o 3, .mp (Ru.eN (A (j + 1)) 0)), (.r 9, .rw 3 1 (A (j + 1)).length)] (.ag (eTm (Ru.tr a[j] (A j)).2)) := fun j h => by
  rw [← hAs j h]
  refine ih _ (List.getElem_mem h) (A j) ?_
  have h1 := hAl j (by omega)
  have h2 := Tm.fulls_take a j h
  have h3 := Tm.fulls_take_le a (j + 1)
  omega
 rw [ho1, hAe, hBe]
 rw [eTm_eq] at hfl
 rw [eTm_eq, eTm_eq]
 simp only [bindsT, kindT, indexT, argsTm] at hfl ⊢
 have heN : eTms [] = [] := rfl
 have hfl : ∀ c : Bool, decide (k = 2) = c → PureC Tryz.prog 134 [.ag [.sl 2 (eTys b) none, .v (.int .i64 k), .v (.int .i64 i), .sl 4 (eTms a) none]] (.v (.bool c)) := fun c h => h ▸ hfl
 clear hA hB hAe hBe ih
 by_cases hk : k = 2
 ·rw [if_pos hk] at ho1 ⊢
  have hfl := hfl _ (decide_eq_true hk)
  rw [ho1] at hme
  refine callG_of_dw 10 39 [ResultVar.cell 4 41] TRA_ok (by kernel_rfl) Tryz.func100 rfl Tryz.ntmps100 rfl (by simp) ?dwords ?dbody
  case dwords => simp [wordsG, rowN, rowsR, gkey, Key.eq, D.ok, D.oks, D.okss, rnames, inN, ckey, eTys_ok, eTms_ok, eIs_ok, Ru.eN_ok]
  case dbody =>
   intro cx hnt hn0
   refine dw_seq ?_; refine dwk [] TRA_ok hnt fun K hK => ?_; refine hK _ _ ?_; clear hK K; refine dw_seq ?_; refine dw_seq ?_; refine dwk [] TRA_ok hnt fun K hK => ?_; refine dcl (hfl) ?_; refine hK _ _ ?_; clear hK K; refine dw_cond (t := true) rfl ?_; rw [if_pos rfl]; refine dwk [] TRA_ok hnt fun K hK => ?_; refine dcn (CallG.n (hme) _) ?_; refine hK _ _ ?_; clear hK K; refine dw_seq ?_; refine dwk [(20, .v (.int .i64 (↑a.length)))] TRA_ok hnt fun K hK => ?_
   refine And.intro (dintE (by rw [eTms_len])) ?_; refine And.intro (⟨by omega, by omega⟩) ?_; refine hK _ _ ?_; clear hK K; refine dw_seq ?_; refine dw_seq ?_; refine dwk [(24, .v (.int .i64 (↑a.length)))] TRA_ok hnt fun K hK => ?_; refine And.intro (dintE (by rw [eTms_len])) ?_; refine hK _ _ ?_; clear hK K; refine dw_block ?_
   refine dw_loop (ι := { j : Nat // j ≤ a.length }) (fun j => [(.t 2, .p 10 0), (.t 3, .p 11 0), (.t 4, .p 12 0), (.t 5, .sl 4 (eTms (B j.1)) (some 27)), (.t 23, .sl 4 (eTms a) none), (.t 24, .v (.int .i64 ↑a.length)), (.t 25, .v (.int .i64 ↑j.1)), (.c 10 0, .p 5 0), (.c 11 0, .sl 2 (eTys b) none), (.c 11 1, .v (.int .i64 k)), (.c 11 2, .v (.int .i64 ↑(Ru.ix i o))), (.c 11 3, .sl 4 (eTms a) none), (.c 12 0, .v (.slice none 0 0)), (.c 12 1, .v (.int .i64 0)), (.c 12 2, .v (.int .i64 0)), (.c 12 3, .v (.slice none 0 0)), (.r 27, .rw 41 4 j.1), (.c 5 0, .mo 3), (.c 5 1, .sl 1 (eIs (A j.1)) (some 9)), (.o 3, .mp (Ru.eN (A j.1) 0)), (.r 9, .rw 3 1 (A j.1).length)]) 28 (fun j => a.length - j.1) (⟨0, Nat.zero_le _⟩) ((by dsimp only; rw [hA0, hB0, heN]; exact VS.toA)) fun j => ?_
   obtain ⟨j, hj⟩ := j
   dsimp only
   by_cases hlt : j < a.length
   ·have hc := hI j hlt
    have hs := hBs j hlt
    have hlq := hBl j hj
    rw [eTm_eq, eTm_eq] at hc
    refine dw_seq ?_; refine dwk [(26, .v (.bool true))] TRA_ok hnt fun K hK => ?_; refine And.intro auT ?_; refine hK _ _ ?_; clear hK K; refine dw_seq ?_; refine dw_cond (t := true) rfl ?_; rw [if_pos rfl]; refine dw_skip ?_; refine dw_seq ?_; refine dw_block ?_; refine dw_seq ?_; refine dwk [(27, .q [.sl 2 (eTys a[j].binds) none, .v (.int .i64 a[j].kind), .v (.int .i64 a[j].index), .sl 4 (eTms a[j].args) none])] TRA_ok hnt fun K hK => ?_
    refine And.intro (elo (eTms_len a)) ?_; refine And.intro (elv (eTms_getD a j) (eTm_eq _)) ?_; refine hK _ _ ?_; clear hK K; refine dwk [(34, .sl 4 (eTms (B (j + 1))) (some 27))] TRA_ok hnt fun K hK => ?_; refine dcn (CallG.n (hc) _) ?_; refine And.intro (⟨by rw [hlq], by rw [hlq]; simp; omega⟩) ?_; refine And.intro (VLe.of_eq (by rw [hs])) ?_; refine hK _ _ ?_; clear hK K; refine dwk [(35, .v (.int .i64 (↑(j + 1))))] TRA_ok hnt fun K hK => ?_
    refine And.intro auI ?_; refine hK _ _ ?_; clear hK K
    refine ⟨⟨j + 1, hlt⟩, by first | omega | (dsimp only; omega), (by try simp only [List.length_append, List.length_take, List.length_cons, List.length_nil, Nat.zero_add, hlq]; exact VS.toA)⟩
   ·have hj2 : j = a.length := by omega
    subst hj2
    refine dw_seq ?_; refine dwk [(26, .v (.bool false))] TRA_ok hnt fun K hK => ?_; refine And.intro auF ?_; refine hK _ _ ?_; clear hK K; refine dw_seq ?_; refine dw_cond (t := false) rfl ?_; rw [if_neg (by simp)]; refine dw_exit ?_; refine dw_seq ?_; refine dwk [] TRA_ok hnt fun K hK => ?_; refine hK _ _ ?_; clear hK K; refine dw_seq ?_; refine dwk [] TRA_ok hnt fun K hK => ?_; refine hK _ _ ?_; clear hK K
    refine dw_ret ?_
    exact reta rfl
 ·rw [if_neg hk] at ho1 ⊢
  have hfl := hfl _ (decide_eq_false hk)
  subst ho1
  refine callG_of_dw 10 39 [ResultVar.cell 4 41] TRA_ok (by kernel_rfl) Tryz.func100 rfl Tryz.ntmps100 rfl (by simp) ?dwords ?dbody
  case dwords => simp [wordsG, rowN, rowsR, gkey, Key.eq, D.ok, D.oks, D.okss, rnames, inN, ckey, eTys_ok, eTms_ok, eIs_ok, Ru.eN_ok]
  case dbody =>
   intro cx hnt hn0
   refine dw_seq ?_; refine dwk [] TRA_ok hnt fun K hK => ?_; refine hK _ _ ?_; clear hK K; refine dw_seq ?_; refine dw_seq ?_; refine dwk [] TRA_ok hnt fun K hK => ?_; refine dcl (hfl) ?_; refine hK _ _ ?_; clear hK K; refine dw_cond (t := false) rfl ?_; rw [if_neg (by simp)]; refine dw_skip ?_; refine dw_seq ?_; refine dwk [(20, .v (.int .i64 (↑a.length)))] TRA_ok hnt fun K hK => ?_; refine And.intro (dintE (by rw [eTms_len])) ?_
   refine And.intro (⟨by omega, by omega⟩) ?_; refine hK _ _ ?_; clear hK K; refine dw_seq ?_; refine dw_seq ?_; refine dwk [(24, .v (.int .i64 (↑a.length)))] TRA_ok hnt fun K hK => ?_; refine And.intro (dintE (by rw [eTms_len])) ?_; refine hK _ _ ?_; clear hK K; refine dw_block ?_
   refine dw_loop (ι := { j : Nat // j ≤ a.length }) (fun j => [(.t 2, .p 10 0), (.t 3, .p 11 0), (.t 4, .p 12 0), (.t 5, .sl 4 (eTms (B j.1)) (some 18)), (.t 23, .sl 4 (eTms a) none), (.t 24, .v (.int .i64 ↑a.length)), (.t 25, .v (.int .i64 ↑j.1)), (.c 10 0, .p 5 0), (.c 11 0, .sl 2 (eTys b) none), (.c 11 1, .v (.int .i64 k)), (.c 11 2, .v (.int .i64 i)), (.c 11 3, .sl 4 (eTms a) none), (.c 12 0, .v (.slice none 0 0)), (.c 12 1, .v (.int .i64 0)), (.c 12 2, .v (.int .i64 0)), (.c 12 3, .v (.slice none 0 0)), (.r 18, .rw 41 4 j.1), (.c 5 0, .mo 3), (.c 5 1, .sl 1 (eIs (A j.1)) (some 9)), (.o 3, .mp (Ru.eN (A j.1) 0)), (.r 9, .rw 3 1 (A j.1).length)]) 19 (fun j => a.length - j.1) (⟨0, Nat.zero_le _⟩) ((by dsimp only; rw [hA0, hB0, heN]; exact VS.toA)) fun j => ?_
   obtain ⟨j, hj⟩ := j
   dsimp only
   by_cases hlt : j < a.length
   ·have hc := hI j hlt
    have hs := hBs j hlt
    have hlq := hBl j hj
    rw [eTm_eq, eTm_eq] at hc
    refine dw_seq ?_; refine dwk [(26, .v (.bool true))] TRA_ok hnt fun K hK => ?_; refine And.intro auT ?_; refine hK _ _ ?_; clear hK K; refine dw_seq ?_; refine dw_cond (t := true) rfl ?_; rw [if_pos rfl]; refine dw_skip ?_; refine dw_seq ?_; refine dw_block ?_; refine dw_seq ?_; refine dwk [(27, .q [.sl 2 (eTys a[j].binds) none, .v (.int .i64 a[j].kind), .v (.int .i64 a[j].index), .sl 4 (eTms a[j].args) none])] TRA_ok hnt fun K hK => ?_
    refine And.intro (elo (eTms_len a)) ?_; refine And.intro (elv (eTms_getD a j) (eTm_eq _)) ?_; refine hK _ _ ?_; clear hK K; refine dwk [(34, .sl 4 (eTms (B (j + 1))) (some 18))] TRA_ok hnt fun K hK => ?_; refine dcn (CallG.n (hc) _) ?_; refine And.intro (⟨by rw [hlq], by rw [hlq]; simp; omega⟩) ?_; refine And.intro (VLe.of_eq (by rw [hs])) ?_; refine hK _ _ ?_; clear hK K; refine dwk [(35, .v (.int .i64 (↑(j + 1))))] TRA_ok hnt fun K hK => ?_
    refine And.intro auI ?_; refine hK _ _ ?_; clear hK K
    refine ⟨⟨j + 1, hlt⟩, by first | omega | (dsimp only; omega), (by try simp only [List.length_append, List.length_take, List.length_cons, List.length_nil, Nat.zero_add, hlq]; exact VS.toA)⟩
   ·have hj2 : j = a.length := by omega
    subst hj2
    refine dw_seq ?_; refine dwk [(26, .v (.bool false))] TRA_ok hnt fun K hK => ?_; refine And.intro auF ?_; refine hK _ _ ?_; clear hK K; refine dw_seq ?_; refine dw_cond (t := false) rfl ?_; rw [if_neg (by simp)]; refine dw_exit ?_; refine dw_seq ?_; refine dwk [] TRA_ok hnt fun K hK => ?_; refine hK _ _ ?_; clear hK K; refine dw_seq ?_; refine dwk [] TRA_ok hnt fun K hK => ?_; refine hK _ _ ?_; clear hK K
    refine dw_ret ?_
    exact reta rfl
end Go.Proofs.YtflbnonbfmmchaaGreat

namespace Go.Proofs.YtflbnonbfmmchaaGreat
open Go.RowKit
end Go.Proofs.YtflbnonbfmmchaaGreat

namespace Go.Proofs.YtflbnonbfmmchaaGreat
open Go.RowKit
def TRB_86 : TI := ⟨9, true, [Value.slice none 0 0, Value.int IntKind.i64 0, Value.int IntKind.i64 0, Value.slice none 0 0, Value.slice none 0 0, Value.int IntKind.i64 0, Value.int IntKind.i64 0, Value.slice none 0 0, Value.slice none 0 0], [(0, 4, true), (4, 4, true), (8, 1, false)], none, 152, 6, none, false⟩
theorem TRB_86_ok : TypOk Tryz.prog 86 TRB_86 := by constructor <;> kernel_rfl
def TRB_33 : TI := ⟨1, false, [Value.slice none 0 0], [], some 44, 24, 5, none, false⟩
theorem TRB_33_ok : TypOk Tryz.prog 33 TRB_33 := by constructor <;> kernel_rfl
def TRB_41 : TI := ⟨4, true, [Value.slice none 0 0, Value.int IntKind.i64 0, Value.int IntKind.i64 0, Value.slice none 0 0], [(0, 1, false), (1, 2, true), (3, 1, false)], none, 64, 6, none, false⟩
theorem TRB_41_ok : TypOk Tryz.prog 41 TRB_41 := by constructor <;> kernel_rfl
def TRB_44 : TI := ⟨2, true, [Value.slice none 0 0, Value.int IntKind.i64 0], [(0, 1, false), (1, 1, false)], none, 32, 6, none, false⟩
theorem TRB_44_ok : TypOk Tryz.prog 44 TRB_44 := by constructor <;> kernel_rfl
def TRB_186 : TI := ⟨1, true, [Value.pointer none], [(0, 1, false)], none, 8, 6, none, false⟩
theorem TRB_186_ok : TypOk Tryz.prog 186 TRB_186 := by constructor <;> kernel_rfl
def TRB_3 : TI := ⟨1, false, [Value.int IntKind.i64 0], [], none, 8, 2, none, false⟩
theorem TRB_3_ok : TypOk Tryz.prog 3 TRB_3 := by constructor <;> kernel_rfl
def TRB_184 : TI := ⟨2, true, [Value.map none, Value.slice none 0 0], [(0, 1, false), (1, 1, false)], none, 32, 6, none, false⟩
theorem TRB_184_ok : TypOk Tryz.prog 184 TRB_184 := by constructor <;> kernel_rfl
def TRB_59 : TI := ⟨1, false, [Value.slice none 0 0], [], some 3, 24, 5, none, false⟩
theorem TRB_59_ok : TypOk Tryz.prog 59 TRB_59 := by constructor <;> kernel_rfl
def TRB_45 : TI := ⟨1, false, [Value.int IntKind.i64 0], [], none, 8, 2, none, false⟩
theorem TRB_45_ok : TypOk Tryz.prog 45 TRB_45 := by constructor <;> kernel_rfl
def TRB_182 : TI := ⟨1, false, [Value.map none], [], none, 8, 7, some 3, false⟩
theorem TRB_182_ok : TypOk Tryz.prog 182 TRB_182 := by constructor <;> kernel_rfl
def TRB_181 : TI := ⟨1, false, [Value.pointer none], [], none, 8, 4, none, false⟩
theorem TRB_181_ok : TypOk Tryz.prog 181 TRB_181 := by constructor <;> kernel_rfl
def TRB_144 : TI := ⟨1, false, [Value.nilFunc], [], none, 8, 8, none, false⟩
theorem TRB_144_ok : TypOk Tryz.prog 144 TRB_144 := by constructor <;> kernel_rfl
def TRB : List (Nat × TI) := [(86, TRB_86), (33, TRB_33), (41, TRB_41), (44, TRB_44), (186, TRB_186), (3, TRB_3), (184, TRB_184), (59, TRB_59), (45, TRB_45), (182, TRB_182), (181, TRB_181), (144, TRB_144)]
theorem TRB_ok : TabOk Tryz.prog TRB := (((((((((((((TabOk.nil _).cons TRB_144_ok).cons TRB_181_ok).cons TRB_182_ok).cons TRB_45_ok).cons TRB_59_ok).cons TRB_184_ok).cons TRB_3_ok).cons TRB_186_ok).cons TRB_44_ok).cons TRB_41_ok).cons TRB_33_ok).cons TRB_86_ok)

namespace Ru
open Li (Pr)
def bad (M : List Ty) (x : Int) : Bool := decide (x < 0 ∨ (M.length : Int) ≤ x)
def mt (M : List Ty) (x : Int) : Ty := M.getD x.toNat (.mk [] 0)
def own (p : Pr) : Pr × Int :=
  if (tr p.r (tr p.l []).1).1.any (bad p.m) then (.z, 10) else (⟨(tr p.l []).2, (tr p.r (tr p.l []).1).2, (tr p.r (tr p.l []).1).1.map (mt p.m)⟩, 0)
theorem trs_full_of {l : List Tm} (h : ∀ t ∈ l, ∀ o, (tr t o).2.full = t.full) : ∀ o, Tm.fulls (trs l o).2 = Tm.fulls l := by
  induction l with
  | nil => intro o; simp [trs]
  | cons t l ih =>
    intro o
    have h1 := h t (by simp) o
    have h2 := ih (fun u hu => h u (by simp [hu])) (tr t o).1
    rw [trs, Tm.fulls]
    try dsimp only
    rw [Tm.fulls]; omega
theorem tr_full (t : Tm) : ∀ o, (tr t o).2.full = t.full := by
  induction t using Tm.ind with
  | h b k i a ih =>
    intro o
    rw [tr_eq, Tm.full_eq]
    try dsimp only
    rw [Tm.full_eq, trs_full_of ih]
theorem ix_le (m : Int) : ∀ o : List Int, ix m o ≤ o.length
  | [] => Nat.le_refl _
  | x :: l => by
    rw [ix]; split
    · exact Nat.zero_le _
    · have := ix_le m l; simp; omega
theorem trs_fit_of {l : List Tm} (h : ∀ t ∈ l, ∀ o, o.length + t.full ≤ 1000000 → t.Fit → (tr t o).2.Fit) : ∀ o, o.length + Tm.fulls l ≤ 1000000 → (∀ t ∈ l, t.Fit) → ∀ u ∈ (trs l o).2, u.Fit := by
  induction l with
  | nil => intro o _ _ u hu; simp [trs] at hu
  | cons t l ih =>
    intro o hz hf u hu
    rw [Tm.fulls] at hz
    have h1 := tr_grow t o
    rw [trs] at hu
    dsimp only at hu
    rcases List.mem_cons.1 hu with rfl | hu
    · exact h t (by simp) o (by omega) (hf t (by simp))
    · exact ih (fun u hu => h u (by simp [hu])) (tr t o).1 (by omega) (fun u hu => hf u (by simp [hu])) u hu
theorem tr_fit (t : Tm) : ∀ o, o.length + t.full ≤ 1000000 → t.Fit → (tr t o).2.Fit := by
  induction t using Tm.ind with
  | h b k i a ih =>
    intro o hz hf
    rw [Tm.full_eq] at hz
    obtain ⟨f1, f2, f3⟩ := Tm.fit_iff.1 hf
    have h1 := ix_le i o
    have h2 := met_len o i
    rw [tr_eq]
    try dsimp only
    refine Tm.fit_iff.2 ⟨?_, ?_, trs_fit_of ih _ ?_ f3⟩
    · split <;> omega
    · split <;> omega
    · split <;> omega
theorem mt_at {M : List Ty} {x : Nat} (h : x < M.length) : mt M (x : Int) = M[x] := by
  unfold mt; rw [Int.toNat_natCast, List.getD_eq_getElem?_getD, List.getElem?_eq_getElem h]; rfl
theorem map_snoc (f : Int → Ty) (o : List Int) (j : Nat) (h : j < o.length) : eTys ((o.map f).take j) ++ [[.sl 2 (eTys (f o[j]).args) none, .v (.int .i64 (f o[j]).base)]] = eTys ((o.map f).take (j + 1)) := by
  have h2 : j < (o.map f).length := by rw [List.length_map]; exact h
  rw [← eTys_snoc _ j h2, List.getElem_map]
end Ru
set_option maxHeartbeats 4000000 in
theorem ruown_d (p : Li.Pr) (hl : p.l.full ≤ 100000 ∧ p.l.Fit) (hr : p.r.full ≤ 100000 ∧ p.r.Fit) (hm : ∀ t ∈ p.m, t.size ≤ 100000) (hml : p.m.length ≤ 900000) : PureC Tryz.prog 40 [.ag (ePr p)] (.tu [.ag (ePr (Ru.own p).1), .v (.int .i64 (Ru.own p).2)]) := by
 have h1 : CallG Tryz.prog 100 [.ag [.p 5 0], .ag (eTm p.l)] [(.c 5 0, .mo 3), (.c 5 1, .sl 1 [] (some 9)), (.o 3, .mp []), (.r 9, .rw 3 1 0)] [(.c 5 0, .mo 3), (.c 5 1, .sl 1 (eIs (Ru.tr p.l []).1) (some 9)), (.o 3, .mp (Ru.eN (Ru.tr p.l []).1 0)), (.r 9, .rw 3 1 (Ru.tr p.l []).1.length)] (.ag (eTm (Ru.tr p.l []).2)) := rutr_d p.l [] (by simp; omega)
 have g1 := Ru.tr_grow p.l []
 have z1 := Ru.tr_full p.l []
 have f1 := Ru.tr_fit p.l [] (by simp; omega) hl.2
 unfold Ru.own
 obtain ⟨⟨o1, L⟩, hx1⟩ : ∃ x, Ru.tr p.l [] = x := ⟨_, rfl⟩
 rw [hx1] at h1 g1 z1 f1 ⊢
 try dsimp only at h1 g1 z1 f1 ⊢
 simp only [List.length_nil, Nat.zero_add] at g1
 have h2 := rutr_d p.r o1 (by omega)
 have g2 := Ru.tr_grow p.r o1
 have z2 := Ru.tr_full p.r o1
 have f2 := Ru.tr_fit p.r o1 (by omega) hr.2
 obtain ⟨⟨o, R⟩, hx2⟩ : ∃ x, Ru.tr p.r o1 = x := ⟨_, rfl⟩
 rw [hx2] at h2 g2 z2 f2 ⊢
 try dsimp only at h2 g2 z2 f2 ⊢
 have c1 := copyW_d L (by omega) f1
 have c2 := copyW_d R (by omega) f2
 obtain ⟨pl, pr, pm⟩ := p
 dsimp only at *
 rw [eTm_eq, eTm_eq] at h1 h2
 rw [eTm_eq] at c1 c2
 rw [ePr_eq]
 have hwl : (o.map (Ru.mt pm)).length = o.length := List.length_map ..
 have hwg := Ru.map_snoc (Ru.mt pm) o
 obtain ⟨W, hW⟩ : ∃ W, o.map (Ru.mt pm) = W := ⟨_, rfl⟩
 rw [hW] at hwl hwg ⊢
 clear hW
 refine calldw 0 57 [ResultVar.cell 2 86, ResultVar.tmp 3] TRB_ok Tryz.func40 rfl Tryz.ntmps40 rfl fun cx hnt hn0 => ?_
 ·skip
  refine dw_seq ?_; refine dwk [] TRB_ok hnt fun K hK => ?_; refine hK _ _ ?_; clear hK K; refine dw_seq ?_; refine dwk [] TRB_ok hnt fun K hK => ?_; refine hK _ _ ?_; clear hK K
  refine DW.vs (VS.row (k := 5) (off := 1) 3 1 rfl) ?_
  refine dw_seq ?_; refine dwk [] TRB_ok hnt fun K hK => ?_; refine dcn (CallG.n (h1) _) ?_; refine dcl (c1) ?_; refine hK _ _ ?_; clear hK K; refine dw_seq ?_; refine dwk [] TRB_ok hnt fun K hK => ?_; refine dcn (CallG.n (h2) _) ?_; refine dcl (c2) ?_; refine hK _ _ ?_; clear hK K
  refine DW.vs (VS.row (k := 16) (off := 8) 44 2 rfl) ?_
  refine dw_seq ?_; refine dw_seq ?_; refine dwk [(29, .v (.int .i64 (↑o.length)))] TRB_ok hnt fun K hK => ?_; refine And.intro (dintE (by rw [eIs_len])) ?_; refine hK _ _ ?_; clear hK K; refine dw_block ?_
  refine dw_loop (ι := { j : Nat // j ≤ o.length ∧ ∀ i (h : i < o.length), i < j → Ru.bad pm o[i] = false }) (fun j => [(.t 1, .p 0 0), (.t 2, .p 1 0), (.t 3, .v (.int .i64 0)), (.t 5, .p 16 0), (.t 28, .sl 1 (eIs o) none), (.t 29, .v (.int .i64 ↑o.length)), (.t 30, .v (.int .i64 ↑j.1)), (.c 0 0, .sl 2 (eTys pl.binds) none), (.c 0 1, .v (.int .i64 pl.kind)), (.c 0 2, .v (.int .i64 pl.index)), (.c 0 3, .sl 4 (eTms pl.args) none), (.c 0 4, .sl 2 (eTys pr.binds) none), (.c 0 5, .v (.int .i64 pr.kind)), (.c 0 6, .v (.int .i64 pr.index)), (.c 0 7, .sl 4 (eTms pr.args) none), (.c 0 8, .sl 2 (eTys pm) none), (.c 1 0, .v (.slice none 0 0)), (.c 1 1, .v (.int .i64 0)), (.c 1 2, .v (.int .i64 0)), (.c 1 3, .v (.slice none 0 0)), (.c 1 4, .v (.slice none 0 0)), (.c 1 5, .v (.int .i64 0)), (.c 1 6, .v (.int .i64 0)), (.c 1 7, .v (.slice none 0 0)), (.c 1 8, .v (.slice none 0 0)), (.c 16 0, .sl 2 (eTys L.binds) none), (.c 16 1, .v (.int .i64 L.kind)), (.c 16 2, .v (.int .i64 L.index)), (.c 16 3, .sl 4 (eTms L.args) none), (.c 16 4, .sl 2 (eTys R.binds) none), (.c 16 5, .v (.int .i64 R.kind)), (.c 16 6, .v (.int .i64 R.index)), (.c 16 7, .sl 4 (eTms R.args) none), (.c 16 8, .sl 2 (eTys (W.take j.1)) (some 25)), (.r 25, .rw 44 2 j.1)]) 26 (fun j => o.length - j.1) (⟨0, Nat.zero_le _, fun i h1 h2 => by omega⟩) (VS.toA) fun j => ?_
  obtain ⟨j, hj, hjb⟩ := j
  dsimp only
  by_cases hlt : j < o.length
  ·have hs := hwg j hlt
   have hlq : (eTys (W.take j)).length = j := by rw [eTys_len, List.length_take]; omega
   cases hb : Ru.bad pm o[j] with
   | true =>
    have ha : o.any (Ru.bad pm) = true := List.any_eq_true.2 ⟨_, List.getElem_mem hlt, hb⟩
    rw [if_pos ha, ePr_z]
    unfold Ru.bad at hb
    rw [decide_eq_true_eq] at hb
    by_cases hn : o[j] < 0
    ·skip
     refine dw_seq ?_; refine dwk [(31, .v (.bool true))] TRB_ok hnt fun K hK => ?_; refine And.intro auT ?_; refine hK _ _ ?_; clear hK K; refine dw_seq ?_; refine dw_cond (t := true) rfl ?_; rw [if_pos rfl]; refine dw_skip ?_; refine dw_seq ?_; refine dw_block ?_; refine dw_seq ?_; refine dwk [(32, .q [.v (.int .i64 (o[j]))])] TRB_ok hnt fun K hK => ?_; refine And.intro (elo (eIs_len o)) ?_; refine And.intro (elv (eIs_getD o j) rfl) ?_
     refine hK _ _ ?_; clear hK K; refine dw_seq ?_; refine dw_seq ?_; refine dwk [(35, .v (.bool true))] TRB_ok hnt fun K hK => ?_; refine And.intro auT ?_; refine hK _ _ ?_; clear hK K; refine dw_cond (t := true) rfl ?_; rw [if_pos rfl]; refine dw_seq ?_; refine dwk [] TRB_ok hnt fun K hK => ?_; refine hK _ _ ?_; clear hK K; refine dw_ret ?_
     exact reta rfl
    ·have hn2 : (pm.length : Int) ≤ o[j] := by omega
     refine dw_seq ?_; refine dwk [(31, .v (.bool true))] TRB_ok hnt fun K hK => ?_; refine And.intro auT ?_; refine hK _ _ ?_; clear hK K; refine dw_seq ?_; refine dw_cond (t := true) rfl ?_; rw [if_pos rfl]; refine dw_skip ?_; refine dw_seq ?_; refine dw_block ?_; refine dw_seq ?_; refine dwk [(32, .q [.v (.int .i64 (o[j]))])] TRB_ok hnt fun K hK => ?_; refine And.intro (elo (eIs_len o)) ?_; refine And.intro (elv (eIs_getD o j) rfl) ?_
     refine hK _ _ ?_; clear hK K; refine dw_seq ?_; refine dw_seq ?_; refine dwk [(35, .v (.bool false)), (40, .v (.int .i64 (↑pm.length))), (41, .v (.bool true))] TRB_ok hnt fun K hK => ?_; refine And.intro auF ?_; refine And.intro (dintE (by rw [eTys_len])) ?_; refine And.intro auT ?_; refine hK _ _ ?_; clear hK K; refine dw_cond (t := true) rfl ?_; rw [if_pos rfl]; refine dw_seq ?_; refine dwk [] TRB_ok hnt fun K hK => ?_
     refine hK _ _ ?_; clear hK K; refine dw_ret ?_
     exact reta rfl
   | false =>
    have hb2 := hb
    unfold Ru.bad at hb2
    rw [decide_eq_false_iff_not] at hb2
    obtain ⟨x, hx⟩ : ∃ x : Nat, o[j] = x := ⟨o[j].toNat, by omega⟩
    have hxl : x < pm.length := by omega
    have hc := arrow_d pm[x] [] (by have := hm _ (List.getElem_mem hxl); simp [Ty.sizes]; omega)
    rw [List.nil_append, show Ty.mk pm[x].args pm[x].base = pm[x] by generalize pm[x] = t; cases t; rfl] at hc
    have hc : PureC Tryz.prog 74 [.ag (eTy pm[x]), .v (.slice none 0 0)] (.ag (eTy pm[x])) := CallC.vle hc (.cons (VLe.refl _) (.cons (VLe.nil _) .nil)) (VLe.refl _)
    have hgo : (eIs o).getD j [] = [.v (.int .i64 ↑x)] := by rw [eIs_getD o j hlt, hx]
    rw [hx, Ru.mt_at hxl] at hs
    rw [eTy_eq] at hc
    refine dw_seq ?_; refine dwk [(31, .v (.bool true))] TRB_ok hnt fun K hK => ?_; refine And.intro auT ?_; refine hK _ _ ?_; clear hK K; refine dw_seq ?_; refine dw_cond (t := true) rfl ?_; rw [if_pos rfl]; refine dw_skip ?_; refine dw_seq ?_; refine dw_block ?_; refine dw_seq ?_; refine dwk [(32, .q [.v (.int .i64 ↑x)])] TRB_ok hnt fun K hK => ?_; refine And.intro (⟨by omega, by rw [eIs_len]; omega⟩) ?_
    refine And.intro (VLe.of_eq (by rw [Int.toNat_natCast, hgo])) ?_; refine hK _ _ ?_; clear hK K; refine dw_seq ?_; refine dw_seq ?_; refine dwk [(35, .v (.bool false)), (40, .v (.int .i64 (↑pm.length))), (41, .v (.bool false))] TRB_ok hnt fun K hK => ?_; refine And.intro auF ?_; refine And.intro (dintE (by rw [eTys_len])) ?_; refine And.intro auF ?_; refine hK _ _ ?_; clear hK K; refine dw_cond (t := false) rfl ?_
    rw [if_neg (by simp)]; refine dw_skip ?_; refine dwkD [(49, .q [.sl 2 (eTys pm[x].args) none, .v (.int .i64 pm[x].base)]), (53, .sl 2 (eTys (W.take (j + 1))) (some 25))] TRB_ok hnt fun K hK => ?_; refine And.intro (elo (eTys_len pm)) ?_; refine And.intro (elv (eTys_getD pm x) (eTy_eq _)) ?_; refine dcl (hc) ?_; refine And.intro (⟨by rw [hlq], by rw [hlq]; simp; omega⟩) ?_; refine And.intro (VLe.of_eq (by rw [hs])) ?_
    refine hK _ _ (by kernel_rfl) ?_; clear hK K; refine dwk [(55, .v (.int .i64 (↑(j + 1))))] TRB_ok hnt fun K hK => ?_; refine And.intro auI ?_; refine hK _ _ ?_; clear hK K
    refine ⟨⟨j + 1, hlt, fun i h1 h2 => if e : i = j then by subst e; exact hb else hjb i h1 (by omega)⟩, by first | omega | (dsimp only; omega), (by try simp only [List.length_append, List.length_take, List.length_cons, List.length_nil, Nat.zero_add, hlq]; exact VS.toA)⟩
  ·have ha : o.any (Ru.bad pm) = false := by
    rw [List.any_eq_false]
    intro x hx
    obtain ⟨i, hi, rfl⟩ := List.getElem_of_mem hx
    rw [hjb i hi (by omega)]; simp
   rw [if_neg (by rw [ha]; simp), ePr_eq]
   rw [List.take_of_length_le (by omega)]
   refine dw_seq ?_; refine dwk [(31, .v (.bool false))] TRB_ok hnt fun K hK => ?_; refine And.intro auF ?_; refine hK _ _ ?_; clear hK K; refine dw_seq ?_; refine dw_cond (t := false) rfl ?_; rw [if_neg (by simp)]; refine dw_exit ?_; refine dw_seq ?_; refine dwk [] TRB_ok hnt fun K hK => ?_; refine hK _ _ ?_; clear hK K; refine dw_ret ?_
   exact reta rfl
theorem ruequal_d (p q : Li.Pr) : PureC Tryz.prog 132 [.ag (ePr p), .ag (ePr q)] (.v (.bool (decide (p = q)))) := by
 obtain ⟨L, R, M⟩ := p
 obtain ⟨L', R', M'⟩ := q
 have c1 := equal2_d L L'
 have c2 := equal2_d R R'
 have c3 := eqTys_d M M' 69 rfl
 have e : decide ((⟨L, R, M⟩ : Li.Pr) = ⟨L', R', M'⟩) = ((decide (L = L') && decide (R = R')) && decide (M = M')) := by
  rw [Bool.eq_iff_iff]; simp [and_assoc]
 rw [e]
 rw [eTm_eq L, eTm_eq L'] at c1
 rw [eTm_eq R, eTm_eq R'] at c2
 rw [ePr_eq, ePr_eq]
 cases hA : decide (L = L') with
 | false =>
  rw [hA] at c1
  rw [Bool.false_and, Bool.false_and]
  refine calldw 0 24 [ResultVar.tmp 4] TRB_ok Tryz.func132 rfl Tryz.ntmps132 rfl fun cx hnt hn0 => ?_
  ·skip
   refine dw_seq ?_; refine dwk [] TRB_ok hnt fun K hK => ?_; refine hK _ _ ?_; clear hK K; refine dw_seq ?_; refine dwk [] TRB_ok hnt fun K hK => ?_; refine dcl (c1) ?_; refine hK _ _ ?_; clear hK K; refine dw_ret ?_
   exact reta rfl
 | true =>
  rw [hA] at c1
  cases hB : decide (R = R') with
  | false =>
   rw [hB] at c2
   rw [Bool.and_false, Bool.false_and]
   refine calldw 0 24 [ResultVar.tmp 4] TRB_ok Tryz.func132 rfl Tryz.ntmps132 rfl fun cx hnt hn0 => ?_
   ·skip
    refine dw_seq ?_; refine dwk [] TRB_ok hnt fun K hK => ?_; refine hK _ _ ?_; clear hK K; refine dw_seq ?_; refine dwk [] TRB_ok hnt fun K hK => ?_; refine dcl (c1) ?_; refine dcl (c2) ?_; refine hK _ _ ?_; clear hK K; refine dw_ret ?_
    exact reta rfl
  | true =>
   rw [hB] at c2
   rw [Bool.and_true, Bool.true_and]
   refine calldw 0 24 [ResultVar.tmp 4] TRB_ok Tryz.func132 rfl Tryz.ntmps132 rfl fun cx hnt hn0 => ?_
   ·skip
    refine dw_seq ?_; refine dwk [] TRB_ok hnt fun K hK => ?_; refine hK _ _ ?_; clear hK K; refine dw_seq ?_; refine dwk [] TRB_ok hnt fun K hK => ?_; refine dcl (c1) ?_; refine dcl (c2) ?_; refine dcl (c3) ?_; refine hK _ _ ?_; clear hK K; refine dw_ret ?_
    exact reta rfl
namespace Ru
def vari (p q : Li.Pr) : Bool := (decide ((own p).2 = 0) && decide ((own q).2 = 0)) && decide ((own p).1 = (own q).1)
end Ru
theorem ruvari_d (p q : Li.Pr) (hpl : p.l.full ≤ 100000 ∧ p.l.Fit) (hpr : p.r.full ≤ 100000 ∧ p.r.Fit) (hpm : ∀ t ∈ p.m, t.size ≤ 100000) (hpn : p.m.length ≤ 900000) (hql : q.l.full ≤ 100000 ∧ q.l.Fit) (hqr : q.r.full ≤ 100000 ∧ q.r.Fit) (hqm : ∀ t ∈ q.m, t.size ≤ 100000) (hqn : q.m.length ≤ 900000) : PureC Tryz.prog 96 [.ag (ePr p), .ag (ePr q)] (.v (.bool (Ru.vari p q))) := by
 have h1 := ruown_d p hpl hpr hpm hpn
 have h2 := ruown_d q hql hqr hqm hqn
 unfold Ru.vari
 generalize Ru.own p = x at h1 ⊢
 generalize Ru.own q = y at h2 ⊢
 obtain ⟨⟨xl, xr, xm⟩, xe⟩ := x
 obtain ⟨⟨yl, yr, ym⟩, ye⟩ := y
 dsimp only at h1 h2 ⊢
 have he := ruequal_d ⟨xl, xr, xm⟩ ⟨yl, yr, ym⟩
 rw [ePr_at] at h1 h2 ⊢
 rw [ePr_at q]
 rw [ePr_eq] at h1 h2
 rw [ePr_eq, ePr_eq] at he
 by_cases hx : xe = 0
 ·by_cases hy : ye = 0
  ·rw [decide_eq_true hx, decide_eq_true hy, Bool.true_and, Bool.true_and]
   refine calldw 0 30 [ResultVar.tmp 4] TRB_ok Tryz.func96 rfl Tryz.ntmps96 rfl fun cx hnt hn0 => ?_
   ·skip
    refine dw_seq ?_; refine dwk [] TRB_ok hnt fun K hK => ?_; refine hK _ _ ?_; clear hK K; refine dw_seq ?_; refine dwk [] TRB_ok hnt fun K hK => ?_; refine dcl (h1) ?_; refine hK _ _ ?_; clear hK K; refine dw_seq ?_; refine dwk [] TRB_ok hnt fun K hK => ?_; refine dcl (h2) ?_; refine hK _ _ ?_; clear hK K; refine dw_seq ?_; refine dwk [(20, .v (.bool true)), (23, .v (.bool true))] TRB_ok hnt fun K hK => ?_
    refine And.intro (beqT hx) ?_; refine And.intro (beqT hy) ?_; refine dcl (he) ?_; refine hK _ _ ?_; clear hK K; refine dw_ret ?_
    exact reta rfl
  ·rw [decide_eq_false hy, Bool.and_false, Bool.false_and]
   refine calldw 0 30 [ResultVar.tmp 4] TRB_ok Tryz.func96 rfl Tryz.ntmps96 rfl fun cx hnt hn0 => ?_
   ·skip
    refine dw_seq ?_; refine dwk [] TRB_ok hnt fun K hK => ?_; refine hK _ _ ?_; clear hK K; refine dw_seq ?_; refine dwk [] TRB_ok hnt fun K hK => ?_; refine dcl (h1) ?_; refine hK _ _ ?_; clear hK K; refine dw_seq ?_; refine dwk [] TRB_ok hnt fun K hK => ?_; refine dcl (h2) ?_; refine hK _ _ ?_; clear hK K; refine dw_seq ?_; refine dwk [(20, .v (.bool true)), (23, .v (.bool false))] TRB_ok hnt fun K hK => ?_
    refine And.intro (beqT hx) ?_; refine And.intro (beqF hy) ?_; refine hK _ _ ?_; clear hK K; refine dw_ret ?_
    exact reta rfl
 ·rw [decide_eq_false hx, Bool.false_and, Bool.false_and]
  refine calldw 0 30 [ResultVar.tmp 4] TRB_ok Tryz.func96 rfl Tryz.ntmps96 rfl fun cx hnt hn0 => ?_
  ·skip
   refine dw_seq ?_; refine dwk [] TRB_ok hnt fun K hK => ?_; refine hK _ _ ?_; clear hK K; refine dw_seq ?_; refine dwk [] TRB_ok hnt fun K hK => ?_; refine dcl (h1) ?_; refine hK _ _ ?_; clear hK K; refine dw_seq ?_; refine dwk [] TRB_ok hnt fun K hK => ?_; refine dcl (h2) ?_; refine hK _ _ ?_; clear hK K; refine dw_seq ?_; refine dwk [(20, .v (.bool false))] TRB_ok hnt fun K hK => ?_; refine And.intro (beqF hx) ?_
   refine hK _ _ ?_; clear hK K; refine dw_ret ?_
   exact reta rfl
end Go.Proofs.YtflbnonbfmmchaaGreat

namespace Go.Proofs.YtflbnonbfmmchaaGreat
open Go.RowKit
namespace Pn
end Pn
end Go.Proofs.YtflbnonbfmmchaaGreat

namespace Go.Proofs.YtflbnonbfmmchaaGreat
open Go.RowKit
namespace Ru
theorem met_pre (o : List Int) (m : Int) : ∃ s, met o m = o ++ s := by
  unfold met; split
  · exact ⟨[], by simp⟩
  · exact ⟨[m], rfl⟩
theorem trs_pre_of {l : List Tm} (h : ∀ t ∈ l, ∀ o, ∃ s, (tr t o).1 = o ++ s) : ∀ o, ∃ s, (trs l o).1 = o ++ s := by
  induction l with
  | nil => intro o; exact ⟨[], by simp [trs]⟩
  | cons t l ih =>
    intro o
    obtain ⟨s1, h1⟩ := h t (by simp) o
    obtain ⟨s2, h2⟩ := ih (fun u hu => h u (by simp [hu])) (tr t o).1
    exact ⟨s1 ++ s2, by rw [trs, h2, h1, List.append_assoc]⟩
theorem tr_pre (t : Tm) : ∀ o, ∃ s, (tr t o).1 = o ++ s := by
  induction t using Tm.ind with
  | h b k i a ih =>
    intro o
    obtain ⟨s1, h1⟩ : ∃ s, (if k = 2 then met o i else o) = o ++ s := by
      split
      · exact met_pre o i
      · exact ⟨[], by simp⟩
    obtain ⟨s2, h2⟩ := trs_pre_of ih (if k = 2 then met o i else o)
    rw [tr_eq]
    exact ⟨s1 ++ s2, by rw [h2, h1, List.append_assoc]⟩
theorem ix_app (m : Int) : ∀ (o s : List Int), m ∈ o → ix m (o ++ s) = ix m o
  | [], _, h => by cases h
  | x :: l, s, h => by
    rw [List.cons_append, ix, ix]
    by_cases hx : x = m
    · rw [if_pos hx, if_pos hx]
    · rw [if_neg hx, if_neg hx, ix_app m l s (by rcases List.mem_cons.1 h with h | h; exact absurd h.symm hx; exact h)]
theorem met_mem (o : List Int) (m : Int) : m ∈ met o m := by
  unfold met; split
  · assumption
  · simp
theorem ix_new (m : Int) : ∀ o : List Int, m ∉ o → ix m (o ++ [m]) = o.length
  | [], _ => by simp [ix]
  | x :: l, h => by
    have hx : x ≠ m := fun e => h (by simp [e])
    rw [List.cons_append, ix, if_neg hx, ix_new m l (fun h2 => h (by simp [h2]))]; rfl
theorem ix_met (o : List Int) (m : Int) : ix m (met o m) = ix m o := by
  unfold met; split
  · rfl
  · rename_i h
    rw [ix_no h, ix_new m o h]
theorem met_nodup {o : List Int} (h : o.Nodup) (m : Int) : (met o m).Nodup := by
  unfold met; split
  · exact h
  · rename_i hm
    rw [List.nodup_append]
    refine ⟨h, by simp, ?_⟩
    intro a ha b hb e
    rw [List.mem_singleton] at hb; subst hb; subst e; exact hm ha
theorem trs_nodup_of {l : List Tm} (h : ∀ t ∈ l, ∀ o, o.Nodup → (tr t o).1.Nodup) : ∀ o, o.Nodup → (trs l o).1.Nodup := by
  induction l with
  | nil => intro o ho; simpa [trs] using ho
  | cons t l ih =>
    intro o ho
    rw [trs]
    exact ih (fun u hu => h u (by simp [hu])) _ (h t (by simp) o ho)
theorem tr_nodup (t : Tm) : ∀ o, o.Nodup → (tr t o).1.Nodup := by
  induction t using Tm.ind with
  | h b k i a ih =>
    intro o ho
    rw [tr_eq]
    refine trs_nodup_of ih _ ?_
    split
    · exact met_nodup ho i
    · exact ho
/-! renamed -/
mutual
def rn (l : List Int) : Tm → Tm
  | .mk b k i a => .mk b k (if k = 2 ∧ i ∈ l then (ix i l : Int) else i) (rns l a)
def rns (l : List Int) : List Tm → List Tm
  | [] => []
  | t :: r => rn l t :: rns l r
end
theorem rn_eq (l : List Int) (b : List Ty) (k i : Int) (a : List Tm) : rn l (.mk b k i a) = .mk b k (if k = 2 ∧ i ∈ l then (ix i l : Int) else i) (rns l a) := by rw [rn]
theorem trs_rn_of {l : List Tm} (h : ∀ t ∈ l, ∀ o f, (∃ s, f = (tr t o).1 ++ s) → (tr t o).2 = rn f t) : ∀ o f, (∃ s, f = (trs l o).1 ++ s) → (trs l o).2 = rns f l := by
  induction l with
  | nil => intro o f _; simp [trs, rns]
  | cons t l ih =>
    intro o f hf
    rw [trs] at hf ⊢
    rw [rns]
    dsimp only at hf ⊢
    obtain ⟨s2, h2⟩ := trs_pre_of (fun t _ => tr_pre t) (l := l) (tr t o).1
    rw [ih (fun u hu => h u (by simp [hu])) _ f hf]
    obtain ⟨s, hs⟩ := hf
    rw [h t (by simp) o f ⟨s2 ++ s, by rw [hs, h2, List.append_assoc]⟩]
theorem tr_rn (t : Tm) : ∀ o f, (∃ s, f = (tr t o).1 ++ s) → (tr t o).2 = rn f t := by
  induction t using Tm.ind with
  | h b k i a ih =>
    intro o f hf
    rw [tr_eq] at hf ⊢
    rw [rn_eq]
    dsimp only at hf ⊢
    rw [trs_rn_of ih _ f hf]
    obtain ⟨s, hs⟩ := hf
    obtain ⟨s2, h2⟩ := trs_pre_of (fun t _ => tr_pre t) (l := a) (if k = 2 then met o i else o)
    by_cases hk : k = 2
    · rw [if_pos hk] at h2 hs
      have hfe : f = met o i ++ (s2 ++ s) := by rw [hs, h2, List.append_assoc]
      have hm : i ∈ f := by rw [hfe]; exact List.mem_append_left _ (met_mem o i)
      rw [if_pos hk, if_pos ⟨hk, hm⟩]
      have : ix i f = ix i o := by rw [hfe, ix_app i _ _ (met_mem o i), ix_met]
      rw [this]
    · rw [if_neg hk, if_neg fun h => hk h.1]
theorem own_eq (p : Li.Pr) (o : List Int) (ho : (tr p.r (tr p.l []).1).1 = o) : own p = if o.any (bad p.m) then (.z, 10) else (⟨rn o p.l, rn o p.r, o.map (mt p.m)⟩, 0) := by
  unfold own
  rw [ho]
  obtain ⟨s, hs⟩ := tr_pre p.r (tr p.l []).1
  rw [tr_rn p.l [] o ⟨s, by rw [← ho, hs]⟩, tr_rn p.r (tr p.l []).1 o ⟨[], by rw [ho]; simp⟩]
end Ru
end Go.Proofs.YtflbnonbfmmchaaGreat

namespace Go.Proofs.YtflbnonbfmmchaaGreat
open Go.RowKit
namespace Ru
end Ru
namespace Ru
def cur (l : List Int) (i : Int) (j : Nat) : Int := if i ∈ l.take j then (ix i l : Int) else i
end Ru
end Go.Proofs.YtflbnonbfmmchaaGreat

namespace Go.Proofs.YtflbnonbfmmchaaGreat
open Go.RowKit
/-! slices.Concat of terms -/
def eTmss (ls : List (List Tm)) : List (List D) := ls.map fun l => [.sl 4 (eTms l) none]
@[simp] theorem eTmss_ok (f g : Nat → Bool) (l : List (List Tm)) : D.okss f g (eTmss l) = true := D.okss_map _ l fun l _ => by simp [D.oks, D.ok, eTms_ok]
/-! variables -/
namespace Li
def vars (B : List Ty) (n : Int) : List Tm := B.mapIdx fun i b => Ty.Eta b 0 (n + B.length - 1 - i)
mutual
def lif (B : List Ty) : Tm → Int → Tm
  | .mk b k i a, n => .mk b k i ((if k = 2 then vars B (n + b.length) else []) ++ lifs B a (n + b.length))
def lifs (B : List Ty) : List Tm → Int → List Tm
  | [], _ => []
  | t :: l, n => lif B t n :: lifs B l n
end
end Li
end Go.Proofs.YtflbnonbfmmchaaGreat

namespace Go.Proofs.YtflbnonbfmmchaaGreat
open Go.RowKit
variable {β : Type} {Ok : Obj → Prop} {B : Nat} {I I' : β → World → Prop}

end Go.Proofs.YtflbnonbfmmchaaGreat

namespace Go.Proofs.YtflbnonbfmmchaaGreat
open Go.RowKit

def rpInt : Rp Int where
  n := 1
  R _ _ x v := x = [.int .i64 v]
  len := by rintro F w x a rfl; rfl
  one := by rintro F w x a rfl u hu; simp at hu; subst hu; rfl
  keep := fun h _ => h
  weaken := fun h _ => h

theorem infoI : (Tryz.prog.info? 3).map (fun i => (i.zero, i.size, i.bytes)) = some (some (.int .i64 0), 1, 8) := by kernel_rfl

def FreshInts (l : List Int) (w : World) (e : Ending) (w' : World) : Prop := ∃ a c, e = .returned (.slice a l.length c) ∧ IsSl rpInt (fun q => w.heap.size ≤ q) w' (.slice a l.length c) l ∧ Below w.heap.size w w'

end Go.Proofs.YtflbnonbfmmchaaGreat

namespace Go.Proofs.YtflbnonbfmmchaaGreat
open Go.RowKit

namespace Tm
mutual
def heads : Tm → Int → List (Int × Int)
  | .mk b k i a, n => (if k ≠ 0 then [(k, i)] else if n + (b.length : Int) ≤ i then [(0, i - (n + (b.length : Int)))] else []) ++ headss a (n + (b.length : Int))
def headss : List Tm → Int → List (Int × Int)
  | [], _ => []
  | t :: l, n => heads t n ++ headss l n
end
end Tm

end Go.Proofs.YtflbnonbfmmchaaGreat

namespace Go.Proofs.YtflbnonbfmmchaaGreat
open Go.RowKit

end Go.Proofs.YtflbnonbfmmchaaGreat

namespace Go.Proofs.YtflbnonbfmmchaaGreat
open Go.RowKit Go.Shelf
attribute [local go_sem] Oper.semAt_some

end Go.Proofs.YtflbnonbfmmchaaGreat

