/-
  Package lift, walked in the deep way: may, done, Over, Closed, Subst; spot.Close. Package match, walked in the deep way: put. Package match, walked in the deep way: walk, may. Deep values: regions with steps through a map. Package match, walked in the deep way: what was found as a substitution; several at once. The known answer of the laws of layer 12. Lists of pairs, there and back. Lists of pairs in the laws of layer 9: To, Few. Package subst's lists, walked in the deep way: Clone, Without, Set, Domain, Get. Package subst's lists, walked in the deep way: Set, Domain, Get, Equal; terms that are the same. Package subst's lists, walked in the deep way: Get, Equal. The document's lists of pairs, walked in the deep way: Sorted, Get, Without, Domain, Same. LiftSubsts, walked in the deep way. How large long forms are, and that their indexes fit. How large lifted terms are, and that their indexes fit. The document's Take, walked in the deep way; what is wrong with a pattern. The document's Like. The document's Metas. The document's Metas, walked in the deep way. Which of two types is less: by size, by how many arguments, argument by argument, by base; and what that order promises. Which of two terms is less: the plain law. sign, cmp.Compare and cmp.Or of ints. The document's order of types. The document's order of terms. The type of a head: the program's and the document's. The type of a head: the document's. Whether a term is of a type: the plain law. A context with more binders: the program's and the document's. term.is: whether a term is of a type. The document's Is: whether a term is of a type. The document's Depth, Right, Check; term.Check. The document's answer of layer 22: lifted, Over, Closed. What the members of a gathering yield: a list of standard shapes. term.HeadType, term.TypeOf. The document's TypeOf. Whether a world may be: the program's RightWorld and the document's. The laws' worlds: World, Small; the document's RightWorld. The contracts of heads and types once more, where all of memory may be read. Checks of substitutions: what is called, as deep contracts. term's TypeOf and Check, walked in the deep way. What rule.Typed and the document's Typed call, as deep contracts. Typed and Check: rule's and the document's. Check: rule's and the document's. The known answer of the laws of layer 17. RuleOwns, walked in the deep way. A rule in its own numbers is a rule, in plain Lean. Long forms and shifted terms are well typed: the plain law. Lifted terms are typed, and patterns stay patterns: the plain law of LiftKeeps. LiftOvers, walked in the deep way. Swap of rule and of the document. Orders: rule's and the document's. kind.Compare. term.all: which of two lists is less. term.Compare. RuleOrders, walked in the deep way.
-/
import Derived.Test.YtnpjjkeokcoedaaRowLiftKeepsp6
import Derived.Test.YtnpjjkeokcoedaaRowLiftKeepsp5
import Derived.Test.YtnpjjkeokcoedaaRowLiftKeepsp4
import Derived.Maps.RangeRun
import Derived.Test.YtnpjjkeokcoedaaRowLiftKeepsp1
import Derived.Deep.QuietTactic
import Derived.BigQuiet
import Derived.WalkSmall
set_option maxRecDepth 100000
set_option maxHeartbeats 1000000
set_option linter.unusedVariables false
set_option linter.unusedSimpArgs false
namespace Go.Proofs.Ytnpjjkeokcoedaa
open Go.RowKit
def TLB_45 : TI := ⟨9, true, [Value.slice none 0 0, Value.int IntKind.i64 0, Value.int IntKind.i64 0, Value.slice none 0 0, Value.slice none 0 0, Value.int IntKind.i64 0, Value.int IntKind.i64 0, Value.slice none 0 0, Value.slice none 0 0], [(0, 4, true), (4, 4, true), (8, 1, false)], none, 152, 6, none, false⟩
theorem TLB_45_ok : TypOk Try.prog 45 TLB_45 := ⟨by kernel_rfl, by kernel_rfl, by kernel_rfl, by kernel_rfl, by kernel_rfl⟩
def TLB_43 : TI := ⟨4, true, [Value.slice none 0 0, Value.int IntKind.i64 0, Value.int IntKind.i64 0, Value.slice none 0 0], [(0, 1, false), (1, 2, true), (3, 1, false)], none, 64, 6, none, false⟩
theorem TLB_43_ok : TypOk Try.prog 43 TLB_43 := ⟨by kernel_rfl, by kernel_rfl, by kernel_rfl, by kernel_rfl, by kernel_rfl⟩
def TLB_36 : TI := ⟨1, false, [Value.slice none 0 0], [], some 52, 24, 5, none, false⟩
theorem TLB_36_ok : TypOk Try.prog 36 TLB_36 := ⟨by kernel_rfl, by kernel_rfl, by kernel_rfl, by kernel_rfl, by kernel_rfl⟩
def TLB_102 : TI := ⟨10, true, [Value.slice none 0 0, Value.int IntKind.i64 0, Value.int IntKind.i64 0, Value.slice none 0 0, Value.slice none 0 0, Value.int IntKind.i64 0, Value.int IntKind.i64 0, Value.slice none 0 0, Value.slice none 0 0, Value.slice none 0 0], [(0, 9, true), (9, 1, false)], none, 176, 6, none, false⟩
theorem TLB_102_ok : TypOk Try.prog 102 TLB_102 := ⟨by kernel_rfl, by kernel_rfl, by kernel_rfl, by kernel_rfl, by kernel_rfl⟩
def TLB_3 : TI := ⟨1, false, [Value.int IntKind.i64 0], [], none, 8, 2, none, false⟩
theorem TLB_3_ok : TypOk Try.prog 3 TLB_3 := ⟨by kernel_rfl, by kernel_rfl, by kernel_rfl, by kernel_rfl, by kernel_rfl⟩
def TLB_52 : TI := ⟨2, true, [Value.slice none 0 0, Value.int IntKind.i64 0], [(0, 1, false), (1, 1, false)], none, 32, 6, none, false⟩
theorem TLB_52_ok : TypOk Try.prog 52 TLB_52 := ⟨by kernel_rfl, by kernel_rfl, by kernel_rfl, by kernel_rfl, by kernel_rfl⟩
def TLB_114 : TI := ⟨1, false, [Value.slice none 0 0], [], some 3, 24, 5, none, false⟩
theorem TLB_114_ok : TypOk Try.prog 114 TLB_114 := ⟨by kernel_rfl, by kernel_rfl, by kernel_rfl, by kernel_rfl, by kernel_rfl⟩
def TLB_116 : TI := ⟨1, false, [Value.nilFunc], [], none, 8, 8, none, false⟩
theorem TLB_116_ok : TypOk Try.prog 116 TLB_116 := ⟨by kernel_rfl, by kernel_rfl, by kernel_rfl, by kernel_rfl, by kernel_rfl⟩
def TLB_41 : TI := ⟨1, false, [Value.slice none 0 0], [], some 43, 24, 5, none, false⟩
theorem TLB_41_ok : TypOk Try.prog 41 TLB_41 := ⟨by kernel_rfl, by kernel_rfl, by kernel_rfl, by kernel_rfl, by kernel_rfl⟩
def TLB_48 : TI := ⟨1, false, [Value.int IntKind.i64 0], [], none, 8, 2, none, false⟩
theorem TLB_48_ok : TypOk Try.prog 48 TLB_48 := ⟨by kernel_rfl, by kernel_rfl, by kernel_rfl, by kernel_rfl, by kernel_rfl⟩
def TLB_111 : TI := ⟨1, false, [Value.slice none 0 0], [], some 36, 24, 5, none, false⟩
theorem TLB_111_ok : TypOk Try.prog 111 TLB_111 := ⟨by kernel_rfl, by kernel_rfl, by kernel_rfl, by kernel_rfl, by kernel_rfl⟩
def TLB : List (Nat × TI) := [(45, TLB_45), (43, TLB_43), (36, TLB_36), (102, TLB_102), (3, TLB_3), (52, TLB_52), (114, TLB_114), (116, TLB_116), (41, TLB_41), (48, TLB_48), (111, TLB_111)]
theorem TLB_ok : TabOk Try.prog TLB := ((((((((((((TabOk.nil _).cons TLB_111_ok).cons TLB_48_ok).cons TLB_41_ok).cons TLB_116_ok).cons TLB_114_ok).cons TLB_52_ok).cons TLB_3_ok).cons TLB_102_ok).cons TLB_36_ok).cons TLB_43_ok).cons TLB_45_ok)

theorem metas_d (l : List Tm) (hl : l.length ≤ 9) (hz : ∀ t ∈ l, t.full ≤ 90000) : PureC Try.prog 61 [.sl 4 (eTms l) none] (.sl 1 (eIs (sortU (metasL l))) none) := by
  refine pure_below (by kernel_rfl) fun m Im w vs hv => ?_
  match vs, hv with
  | [x], hv =>
    have hs : IsSl rpTm (fun _ => True) w x l := (sl_of_rel (r := rpTm) (e := eTm) eTm_len (fun x t hx _ => tm_of_rel t hx) (by decide) (by rw [eTms_map] at hv; exact hv.1)).weaken (by decide) fun _ _ _ => trivial
    refine (metas6_k hs hl hz).mono ?_
    rintro e w' ⟨a, c, rfl, h1, h2⟩
    refine ⟨_, rfl, h2, fun Im' _ hI => ?_⟩
    exact rel_of_sl (r := rpInt) (e := fun i => [.v (.int .i64 i)]) (fun b o v hq hc => hI b o v hq hc) (fun _ => rfl) (fun x a h => by
      have : x = [.int .i64 a] := h
      subst this; exact ⟨.v _, trivial⟩) h1

/-! may -/
theorem lmay1_d (L R : Tm) (M B : List Ty) (x : Int) (hM : M.length ≤ 900000) : CallC Try.prog 62 [.v (.int .i64 x), .p 0 0] [(.c 0 0, .sl 2 (eTys L.binds) none), (.c 0 1, .v (.int .i64 L.kind)), (.c 0 2, .v (.int .i64 L.index)), (.c 0 3, .sl 4 (eTms L.args) none), (.c 0 4, .sl 2 (eTys R.binds) none), (.c 0 5, .v (.int .i64 R.kind)), (.c 0 6, .v (.int .i64 R.index)), (.c 0 7, .sl 4 (eTms R.args) none), (.c 0 8, .sl 2 (eTys M) none), (.c 0 9, .sl 2 (eTys B) none)] [(.c 0 0, .sl 2 (eTys L.binds) none), (.c 0 1, .v (.int .i64 L.kind)), (.c 0 2, .v (.int .i64 L.index)), (.c 0 3, .sl 4 (eTms L.args) none), (.c 0 4, .sl 2 (eTys R.binds) none), (.c 0 5, .v (.int .i64 R.kind)), (.c 0 6, .v (.int .i64 R.index)), (.c 0 7, .sl 4 (eTms R.args) none), (.c 0 8, .sl 2 (eTys M) none), (.c 0 9, .sl 2 (eTys B) none)] (.v (.bool (decide (x < 0 ∨ (M.length : Int) ≤ x)))) := by
 by_cases h0 : x < 0
 ·rw [decide_eq_true (.inl h0)]
  refine calldw 1 14 [ResultVar.tmp 3] TLB_ok Try.func62 rfl Try.ntmps62 rfl fun cx hnt hn0 => ?_
  ·skip
   refine dw_seq ?_; refine dwk [] TLB_ok hnt fun K hK => ?_; refine hK _ _ ?_; clear hK K; refine dw_seq ?_; refine dwk [(5, .v (.bool true))] TLB_ok hnt fun K hK => ?_; refine And.intro auT ?_; refine hK _ _ ?_; clear hK K; refine dw_ret ?_
   exact reta rfl
 ·have e : decide (x < 0 ∨ (M.length : Int) ≤ x) = decide ((M.length : Int) ≤ x) := by simp [h0]
  rw [e]
  refine calldw 1 14 [ResultVar.tmp 3] TLB_ok Try.func62 rfl Try.ntmps62 rfl fun cx hnt hn0 => ?_
  ·skip
   refine dw_seq ?_; refine dwk [] TLB_ok hnt fun K hK => ?_; refine hK _ _ ?_; clear hK K; refine dw_seq ?_; refine dwk [(5, .v (.bool false)), (12, .v (.bool (decide (↑M.length ≤ x))))] TLB_ok hnt fun K hK => ?_; refine And.intro auF ?_; refine And.intro (VLe.of_eq (by rw [eTys_len])) ?_; refine hK _ _ ?_; clear hK K; refine dw_ret ?_
   exact reta rfl
def fidx (P : Int → Bool) (l : List Int) : Int := match l.findIdx? P with | some i => (i : Int) | none => -1
theorem fidx_at {P : Int → Bool} {l : List Int} {i : Nat} (h : i < l.length) (h1 : P l[i] = true) (h2 : ∀ j (h : j < l.length), j < i → P l[j] = false) : fidx P l = i := by
  have : l.findIdx? P = some i := List.findIdx?_eq_some_iff_getElem.2 ⟨h, h1, fun j hj => by rw [h2 j (by omega) hj]; simp⟩
  rw [fidx, this]
theorem fidx_no {P : Int → Bool} {l : List Int} (h2 : ∀ j (h : j < l.length), P l[j] = false) : fidx P l = -1 := by
  have : l.findIdx? P = none := List.findIdx?_eq_none_iff.2 fun x hx => by
    obtain ⟨i, hi, rfl⟩ := List.getElem_of_mem hx
    exact h2 i hi
  rw [fidx, this]
theorem fidx_any (P : Int → Bool) (l : List Int) : decide (fidx P l ≥ 0) = l.any P := by
  rw [fidx]
  cases h : l.findIdx? P with
  | some i =>
    obtain ⟨h1, h2, _⟩ := List.findIdx?_eq_some_iff_getElem.1 h
    rw [List.any_eq_true.2 ⟨_, List.getElem_mem h1, h2⟩]
    simp
  | none =>
    rw [List.any_eq_false.2 fun x hx => by simp [List.findIdx?_eq_none_iff.1 h x hx]]
    simp
theorem indexI_d (L R : Tm) (M B : List Ty) (hM : M.length ≤ 900000) (l : List Int) (hl : l.length ≤ 1000000) : CallC Try.prog 74 [.sl 1 (eIs l) none, .fn 62 [.p 0 0]] [(.c 0 0, .sl 2 (eTys L.binds) none), (.c 0 1, .v (.int .i64 L.kind)), (.c 0 2, .v (.int .i64 L.index)), (.c 0 3, .sl 4 (eTms L.args) none), (.c 0 4, .sl 2 (eTys R.binds) none), (.c 0 5, .v (.int .i64 R.kind)), (.c 0 6, .v (.int .i64 R.index)), (.c 0 7, .sl 4 (eTms R.args) none), (.c 0 8, .sl 2 (eTys M) none), (.c 0 9, .sl 2 (eTys B) none)] [(.c 0 0, .sl 2 (eTys L.binds) none), (.c 0 1, .v (.int .i64 L.kind)), (.c 0 2, .v (.int .i64 L.index)), (.c 0 3, .sl 4 (eTms L.args) none), (.c 0 4, .sl 2 (eTys R.binds) none), (.c 0 5, .v (.int .i64 R.kind)), (.c 0 6, .v (.int .i64 R.index)), (.c 0 7, .sl 4 (eTms R.args) none), (.c 0 8, .sl 2 (eTys M) none), (.c 0 9, .sl 2 (eTys B) none)] (.v (.int .i64 (fidx (fun x => decide (x < 0 ∨ (M.length : Int) ≤ x)) l))) := by
 obtain ⟨P, hP⟩ : ∃ P : Int → Bool, (fun x => decide (x < 0 ∨ (M.length : Int) ≤ x)) = P := ⟨_, rfl⟩
 have hmay : ∀ x, CallC Try.prog 62 [.v (.int .i64 x), .p 0 0] [(.c 0 0, .sl 2 (eTys L.binds) none), (.c 0 1, .v (.int .i64 L.kind)), (.c 0 2, .v (.int .i64 L.index)), (.c 0 3, .sl 4 (eTms L.args) none), (.c 0 4, .sl 2 (eTys R.binds) none), (.c 0 5, .v (.int .i64 R.kind)), (.c 0 6, .v (.int .i64 R.index)), (.c 0 7, .sl 4 (eTms R.args) none), (.c 0 8, .sl 2 (eTys M) none), (.c 0 9, .sl 2 (eTys B) none)] [(.c 0 0, .sl 2 (eTys L.binds) none), (.c 0 1, .v (.int .i64 L.kind)), (.c 0 2, .v (.int .i64 L.index)), (.c 0 3, .sl 4 (eTms L.args) none), (.c 0 4, .sl 2 (eTys R.binds) none), (.c 0 5, .v (.int .i64 R.kind)), (.c 0 6, .v (.int .i64 R.index)), (.c 0 7, .sl 4 (eTms R.args) none), (.c 0 8, .sl 2 (eTys M) none), (.c 0 9, .sl 2 (eTys B) none)] (.v (.bool (P x))) := fun x => hP ▸ lmay1_d L R M B x hM
 rw [hP]
 clear hP
 refine calldw 1 19 [ResultVar.tmp 4] TLB_ok Try.func74 rfl Try.ntmps74 rfl fun cx hnt hn0 => ?_
 ·skip
  refine dw_seq ?_; refine dwk [] TLB_ok hnt fun K hK => ?_; refine hK _ _ ?_; clear hK K; refine dw_seq ?_; refine dw_seq ?_; refine dwk [(7, .v (.int .i64 (↑l.length)))] TLB_ok hnt fun K hK => ?_; refine And.intro (dintE (by rw [eIs_len])) ?_; refine hK _ _ ?_; clear hK K; refine dw_block ?_
  refine dw_loop (ι := { j : Nat // ∀ i (h : i < l.length), i < j → P l[i] = false }) (fun j => [(.t 0, .sl 1 (eIs l) none), (.t 1, .fn 62 [.p 0 0]), (.t 7, .v (.int .i64 ↑l.length)), (.t 8, .v (.int .i64 ↑j.1)), (.c 0 0, .sl 2 (eTys L.binds) none), (.c 0 1, .v (.int .i64 L.kind)), (.c 0 2, .v (.int .i64 L.index)), (.c 0 3, .sl 4 (eTms L.args) none), (.c 0 4, .sl 2 (eTys R.binds) none), (.c 0 5, .v (.int .i64 R.kind)), (.c 0 6, .v (.int .i64 R.index)), (.c 0 7, .sl 4 (eTms R.args) none), (.c 0 8, .sl 2 (eTys M) none), (.c 0 9, .sl 2 (eTys B) none)]) 1 (fun j => l.length - j.1) (⟨0, fun i h1 h2 => by omega⟩) (VS.toA) fun j => ?_
  obtain ⟨j, hj⟩ := j
  dsimp only
  by_cases hlt : j < l.length
  ·have hf := hmay l[j]
   refine dw_seq ?_; refine dwk [(9, .v (.bool true))] TLB_ok hnt fun K hK => ?_; refine And.intro auT ?_; refine hK _ _ ?_; clear hK K; refine dw_seq ?_; refine dw_cond (t := true) rfl ?_; rw [if_pos rfl]; refine dw_skip ?_; refine dw_seq ?_; refine dw_block ?_; refine dw_seq ?_; refine dwk [] TLB_ok hnt fun K hK => ?_; refine hK _ _ ?_; clear hK K
   cases he : P l[j] with
   | true =>
    rw [he] at hf
    rw [fidx_at hlt he hj]
    refine dw_seq ?_; refine dwk [(14, .q [.v (.int .i64 (l[j]))])] TLB_ok hnt fun K hK => ?_; refine And.intro (elo (eIs_len l)) ?_; refine And.intro (elv (eIs_getD l j) rfl) ?_; refine dcl (hf) ?_; refine hK _ _ ?_; clear hK K; refine dw_cond (t := true) rfl ?_; rw [if_pos rfl]; refine dw_seq ?_; refine dwk [] TLB_ok hnt fun K hK => ?_; refine hK _ _ ?_; clear hK K; refine dw_ret ?_
    exact reta rfl
   | false =>
    rw [he] at hf
    refine dw_seq ?_; refine dwk [(14, .q [.v (.int .i64 (l[j]))])] TLB_ok hnt fun K hK => ?_; refine And.intro (elo (eIs_len l)) ?_; refine And.intro (elv (eIs_getD l j) rfl) ?_; refine dcl (hf) ?_; refine hK _ _ ?_; clear hK K; refine dw_cond (t := false) rfl ?_; rw [if_neg (by simp)]; refine dw_skip ?_; refine dwk [(18, .v (.int .i64 (↑(j + 1))))] TLB_ok hnt fun K hK => ?_; refine And.intro auI ?_; refine hK _ _ ?_; clear hK K
    refine ⟨⟨j + 1, fun i h1 h2 => if e : i = j then by subst e; exact he else hj i h1 (by omega)⟩, by first | omega | (dsimp only; omega), VS.toA⟩
  ·rw [fidx_no fun i h => hj i h (by omega)]
   refine dw_seq ?_; refine dwk [(9, .v (.bool false))] TLB_ok hnt fun K hK => ?_; refine And.intro auF ?_; refine hK _ _ ?_; clear hK K; refine dw_seq ?_; refine dw_cond (t := false) rfl ?_; rw [if_neg (by simp)]; refine dw_exit ?_; refine dw_seq ?_; refine dwk [] TLB_ok hnt fun K hK => ?_; refine hK _ _ ?_; clear hK K; refine dw_ret ?_
   exact reta rfl
theorem containsI_d (L R : Tm) (M B : List Ty) (hM : M.length ≤ 900000) (l : List Int) (hl : l.length ≤ 1000000) : CallC Try.prog 60 [.sl 1 (eIs l) none, .fn 62 [.p 0 0]] [(.c 0 0, .sl 2 (eTys L.binds) none), (.c 0 1, .v (.int .i64 L.kind)), (.c 0 2, .v (.int .i64 L.index)), (.c 0 3, .sl 4 (eTms L.args) none), (.c 0 4, .sl 2 (eTys R.binds) none), (.c 0 5, .v (.int .i64 R.kind)), (.c 0 6, .v (.int .i64 R.index)), (.c 0 7, .sl 4 (eTms R.args) none), (.c 0 8, .sl 2 (eTys M) none), (.c 0 9, .sl 2 (eTys B) none)] [(.c 0 0, .sl 2 (eTys L.binds) none), (.c 0 1, .v (.int .i64 L.kind)), (.c 0 2, .v (.int .i64 L.index)), (.c 0 3, .sl 4 (eTms L.args) none), (.c 0 4, .sl 2 (eTys R.binds) none), (.c 0 5, .v (.int .i64 R.kind)), (.c 0 6, .v (.int .i64 R.index)), (.c 0 7, .sl 4 (eTms R.args) none), (.c 0 8, .sl 2 (eTys M) none), (.c 0 9, .sl 2 (eTys B) none)] (.v (.bool (l.any fun x => decide (x < 0 ∨ (M.length : Int) ≤ x)))) := by
 have hi := indexI_d L R M B hM l hl
 rw [← fidx_any]
 refine calldw 1 9 [ResultVar.tmp 4] TLB_ok Try.func60 rfl Try.ntmps60 rfl fun cx hnt hn0 => ?_
 ·skip
  refine dw_seq ?_; refine dwk [] TLB_ok hnt fun K hK => ?_; refine hK _ _ ?_; clear hK K; refine dw_seq ?_; refine dwk [] TLB_ok hnt fun K hK => ?_; refine dcl (hi) ?_; refine hK _ _ ?_; clear hK K; refine dw_ret ?_
  exact reta rfl

namespace Li
def lo (t : Tm) : Bool := decide ((t.looses 0).foldl looseL 0 > 0)
def rt (t : Tm) : Bool := decide (t.size ≤ 5000 ∧ t.depth ≤ 60)
def may (L R : Tm) (M B : List Ty) : Int :=
  if (lo L || lo R) = true then 1
  else if ((sortU (metasL [L, R])).any fun x => decide (x < 0 ∨ (M.length : Int) ≤ x)) = true then 10
  else if (decide ((B.length : Int) > 900) || (!rt L || !rt R)) = true then 2 else 0
def done (p : Pr) : Pr × Int := if (rt p.l && rt p.r) = true then (p, 0) else (.z, 2)
def cl (t : Tm) (B : List Ty) : Tm := .mk (B ++ t.binds) t.kind t.index t.args
def arr (B : List Ty) (t : Ty) : Ty := .mk (B ++ t.args) t.base
def up (p : Pr) (B : List Ty) : Pr := ⟨lif B p.l 0, lif B p.r 0, p.m.map (arr B)⟩
def over (p : Pr) (B : List Ty) : Pr × Int := if may p.l p.r p.m B ≠ 0 then (.z, may p.l p.r p.m B) else done (up p B)
def clP (p : Pr) (B : List Ty) : Pr := ⟨cl p.l B, cl p.r B, p.m⟩
def closed (p : Pr) (B : List Ty) : Pr × Int := if (over p B).2 ≠ 0 then (.z, (over p B).2) else done (clP (over p B).1 B)
end Li
theorem nodup_le : ∀ (l m : List Int), l.Nodup → (∀ x ∈ l, x ∈ m) → l.length ≤ m.length
  | [], m, _, _ => Nat.zero_le _
  | x :: l, m, h1, h2 => by
    have hx := h2 x (by simp)
    have := nodup_le l (m.erase x) (List.nodup_cons.1 h1).2 fun y hy => (List.mem_erase_of_ne fun e => (List.nodup_cons.1 h1).1 (by rw [← e]; exact hy)).2 (h2 y (by simp [hy]))
    rw [List.length_erase_of_mem hx] at this
    have := List.length_pos_of_mem hx
    simp; omega
theorem sortU_len (l : List Int) : (sortU l).length ≤ l.length :=
  nodup_le _ _ ((sortU_spec l).1.imp fun h => by omega) fun x h => ((sortU_spec l).2 x).1 h
set_option maxHeartbeats 1000000 in
theorem lmay_d (L R : Tm) (M B : List Ty) (hL : L.full ≤ 90000 ∧ L.Fit) (hR : R.full ≤ 90000 ∧ R.Fit) (hM : M.length ≤ 900000) : PureC Try.prog 50 [.ag [.sl 2 (eTys L.binds) none, .v (.int .i64 L.kind), .v (.int .i64 L.index), .sl 4 (eTms L.args) none, .sl 2 (eTys R.binds) none, .v (.int .i64 R.kind), .v (.int .i64 R.index), .sl 4 (eTms R.args) none, .sl 2 (eTys M) none, .sl 2 (eTys B) none]] (.v (.int .i64 (Li.may L R M B))) := by
 have l1 := loose_d L (by omega) hL.2
 have l2 := loose_d R (by omega) hR.2
 have hm := metas_d [L, R] (by simp) (by simp; omega)
 have hc := containsI_d L R M B hM (sortU (metasL [L, R])) (by
  have h1 := metasL_len [L, R] 90000 (by simp; omega)
  have h2 := sortU_len (metasL [L, R])
  simp at h1; omega)
 have r1 := right_d L (by omega)
 have r2 := right_d R (by omega)
 rw [show eTms [L, R] = [eTm L, eTm R] from rfl] at hm
 rw [eTm_eq] at l1 l2 r1 r2
 rw [eTm_eq L, eTm_eq R] at hm
 have d1 : Li.lo L = decide ((L.looses 0).foldl looseL 0 > 0) := rfl
 have d2 : Li.lo R = decide ((R.looses 0).foldl looseL 0 > 0) := rfl
 rw [show decide (L.size ≤ 5000 ∧ L.depth ≤ 60) = Li.rt L from rfl] at r1
 rw [show decide (R.size ≤ 5000 ∧ R.depth ≤ 60) = Li.rt R from rfl] at r2
 unfold Li.may
 generalize (L.looses 0).foldl looseL 0 = x at l1 d1
 generalize (R.looses 0).foldl looseL 0 = y at l2 d2
 generalize ((sortU (metasL [L, R])).any fun x => decide (x < 0 ∨ (M.length : Int) ≤ x)) = c at hc
 rw [d1, d2]
 by_cases hx : x > 0
 ·rw [decide_eq_true hx, Bool.true_or, if_pos rfl]
  refine calldw 0 46 [ResultVar.tmp 2] TLB_ok Try.func50 rfl Try.ntmps50 rfl fun cx hnt hn0 => ?_
  ·skip
   refine dw_seq ?_; refine dwk [] TLB_ok hnt fun K hK => ?_; refine hK _ _ ?_; clear hK K; refine dw_seq ?_; refine dw_block ?_; refine dw_seq ?_; refine dwk [(8, .v (.bool true))] TLB_ok hnt fun K hK => ?_; refine dcl (l1) ?_; refine And.intro auT ?_; refine hK _ _ ?_; clear hK K; refine dw_cond (t := true) rfl ?_; rw [if_pos rfl]; refine dw_seq ?_; refine dwk [] TLB_ok hnt fun K hK => ?_; refine hK _ _ ?_; clear hK K
   refine dw_ret ?_
   exact reta rfl
 ·rw [decide_eq_false hx, Bool.false_or]
  by_cases hy : y > 0
  ·rw [decide_eq_true hy, if_pos rfl]
   refine calldw 0 46 [ResultVar.tmp 2] TLB_ok Try.func50 rfl Try.ntmps50 rfl fun cx hnt hn0 => ?_
   ·skip
    refine dw_seq ?_; refine dwk [] TLB_ok hnt fun K hK => ?_; refine hK _ _ ?_; clear hK K; refine dw_seq ?_; refine dw_block ?_; refine dw_seq ?_; refine dwk [(8, .v (.bool false)), (14, .v (.bool true))] TLB_ok hnt fun K hK => ?_; refine dcl (l1) ?_; refine And.intro auF ?_; refine dcl (l2) ?_; refine And.intro auT ?_; refine hK _ _ ?_; clear hK K; refine dw_cond (t := true) rfl ?_; rw [if_pos rfl]
    refine dw_seq ?_; refine dwk [] TLB_ok hnt fun K hK => ?_; refine hK _ _ ?_; clear hK K; refine dw_ret ?_
    exact reta rfl
  ·rw [decide_eq_false hy, if_neg (by simp)]
   cases c with
   | true =>
    rw [if_pos rfl]
    refine calldw 0 46 [ResultVar.tmp 2] TLB_ok Try.func50 rfl Try.ntmps50 rfl fun cx hnt hn0 => ?_
    ·skip
     refine dw_seq ?_; refine dwk [] TLB_ok hnt fun K hK => ?_; refine hK _ _ ?_; clear hK K; refine dw_seq ?_; refine dw_block ?_; refine dw_seq ?_; refine dwk [(8, .v (.bool false)), (14, .v (.bool false))] TLB_ok hnt fun K hK => ?_; refine dcl (l1) ?_; refine And.intro auF ?_; refine dcl (l2) ?_; refine And.intro auF ?_; refine hK _ _ ?_; clear hK K; refine dw_cond (t := false) rfl ?_; rw [if_neg (by simp)]
     refine dw_seq ?_; refine dwk [(23, .sl 4 [[.sl 2 (eTys L.binds) none, .v (.int .i64 L.kind), .v (.int .i64 L.index), .sl 4 (eTms L.args) none], [.sl 2 (eTys R.binds) none, .v (.int .i64 R.kind), .v (.int .i64 R.index), .sl 4 (eTms R.args) none]] none)] TLB_ok hnt fun K hK => ?_; refine And.intro (VLe.untag _ _ _) ?_; refine dcl (hm) ?_; refine dcl (hc) ?_; refine hK _ _ ?_; clear hK K; refine dw_cond (t := true) rfl ?_
     rw [if_pos rfl]; refine dw_seq ?_; refine dwk [] TLB_ok hnt fun K hK => ?_; refine hK _ _ ?_; clear hK K; refine dw_ret ?_
     exact reta rfl
   | false =>
    rw [if_neg (by simp)]
    by_cases hb : (B.length : Int) > 900
    ·rw [decide_eq_true hb, Bool.true_or, if_pos rfl]
     refine calldw 0 46 [ResultVar.tmp 2] TLB_ok Try.func50 rfl Try.ntmps50 rfl fun cx hnt hn0 => ?_
     ·skip
      refine dw_seq ?_; refine dwk [] TLB_ok hnt fun K hK => ?_; refine hK _ _ ?_; clear hK K; refine dw_seq ?_; refine dw_block ?_; refine dw_seq ?_; refine dwk [(8, .v (.bool false)), (14, .v (.bool false))] TLB_ok hnt fun K hK => ?_; refine dcl (l1) ?_; refine And.intro auF ?_; refine dcl (l2) ?_; refine And.intro auF ?_; refine hK _ _ ?_; clear hK K; refine dw_cond (t := false) rfl ?_; rw [if_neg (by simp)]
      refine dw_seq ?_; refine dwk [(23, .sl 4 [[.sl 2 (eTys L.binds) none, .v (.int .i64 L.kind), .v (.int .i64 L.index), .sl 4 (eTms L.args) none], [.sl 2 (eTys R.binds) none, .v (.int .i64 R.kind), .v (.int .i64 R.index), .sl 4 (eTms R.args) none]] none)] TLB_ok hnt fun K hK => ?_; refine And.intro (VLe.untag _ _ _) ?_; refine dcl (hm) ?_; refine dcl (hc) ?_; refine hK _ _ ?_; clear hK K; refine dw_cond (t := false) rfl ?_
      rw [if_neg (by simp)]; refine dw_seq ?_; refine dwk [(31, .v (.bool true))] TLB_ok hnt fun K hK => ?_; refine And.intro (by first | exact dtrue (by rw [eTys_len]; omega) | exact VLe.of_eq (by rw [eTys_len]; omega)) ?_; refine hK _ _ ?_; clear hK K; refine dw_cond (t := true) rfl ?_; rw [if_pos rfl]; refine dw_seq ?_; refine dwk [] TLB_ok hnt fun K hK => ?_; refine hK _ _ ?_; clear hK K; refine dw_ret ?_
      exact reta rfl
    ·rw [decide_eq_false hb, Bool.false_or]
     cases hr1 : Li.rt L with
     | false =>
      rw [hr1] at r1
      simp only [Bool.not_false, Bool.true_or, if_true]
      refine calldw 0 46 [ResultVar.tmp 2] TLB_ok Try.func50 rfl Try.ntmps50 rfl fun cx hnt hn0 => ?_
      ·skip
       refine dw_seq ?_; refine dwk [] TLB_ok hnt fun K hK => ?_; refine hK _ _ ?_; clear hK K; refine dw_seq ?_; refine dw_block ?_; refine dw_seq ?_; refine dwk [(8, .v (.bool false)), (14, .v (.bool false))] TLB_ok hnt fun K hK => ?_; refine dcl (l1) ?_; refine And.intro auF ?_; refine dcl (l2) ?_; refine And.intro auF ?_; refine hK _ _ ?_; clear hK K; refine dw_cond (t := false) rfl ?_; rw [if_neg (by simp)]
       refine dw_seq ?_; refine dwk [(23, .sl 4 [[.sl 2 (eTys L.binds) none, .v (.int .i64 L.kind), .v (.int .i64 L.index), .sl 4 (eTms L.args) none], [.sl 2 (eTys R.binds) none, .v (.int .i64 R.kind), .v (.int .i64 R.index), .sl 4 (eTms R.args) none]] none)] TLB_ok hnt fun K hK => ?_; refine And.intro (VLe.untag _ _ _) ?_; refine dcl (hm) ?_; refine dcl (hc) ?_; refine hK _ _ ?_; clear hK K; refine dw_cond (t := false) rfl ?_
       rw [if_neg (by simp)]; refine dw_seq ?_; refine dwk [(31, .v (.bool false))] TLB_ok hnt fun K hK => ?_; refine And.intro (by first | exact dfalse (by rw [eTys_len]; omega) | exact VLe.of_eq (by rw [eTys_len]; omega)) ?_; refine dcl (r1) ?_; refine hK _ _ ?_; clear hK K; refine dw_cond (t := true) rfl ?_; rw [if_pos rfl]; refine dw_seq ?_; refine dwk [] TLB_ok hnt fun K hK => ?_; refine hK _ _ ?_; clear hK K
       refine dw_ret ?_
       exact reta rfl
     | true =>
      rw [hr1] at r1
      cases hr2 : Li.rt R with
      | false =>
       rw [hr2] at r2
       simp only [Bool.not_false, Bool.or_true, if_true]
       refine calldw 0 46 [ResultVar.tmp 2] TLB_ok Try.func50 rfl Try.ntmps50 rfl fun cx hnt hn0 => ?_
       ·skip
        refine dw_seq ?_; refine dwk [] TLB_ok hnt fun K hK => ?_; refine hK _ _ ?_; clear hK K; refine dw_seq ?_; refine dw_block ?_; refine dw_seq ?_; refine dwk [(8, .v (.bool false)), (14, .v (.bool false))] TLB_ok hnt fun K hK => ?_; refine dcl (l1) ?_; refine And.intro auF ?_; refine dcl (l2) ?_; refine And.intro auF ?_; refine hK _ _ ?_; clear hK K; refine dw_cond (t := false) rfl ?_; rw [if_neg (by simp)]
        refine dw_seq ?_; refine dwk [(23, .sl 4 [[.sl 2 (eTys L.binds) none, .v (.int .i64 L.kind), .v (.int .i64 L.index), .sl 4 (eTms L.args) none], [.sl 2 (eTys R.binds) none, .v (.int .i64 R.kind), .v (.int .i64 R.index), .sl 4 (eTms R.args) none]] none)] TLB_ok hnt fun K hK => ?_; refine And.intro (VLe.untag _ _ _) ?_; refine dcl (hm) ?_; refine dcl (hc) ?_; refine hK _ _ ?_; clear hK K; refine dw_cond (t := false) rfl ?_
        rw [if_neg (by simp)]; refine dw_seq ?_; refine dwk [(31, .v (.bool false))] TLB_ok hnt fun K hK => ?_; refine And.intro (by first | exact dfalse (by rw [eTys_len]; omega) | exact VLe.of_eq (by rw [eTys_len]; omega)) ?_; refine dcl (r1) ?_; refine dcl (r2) ?_; refine hK _ _ ?_; clear hK K; refine dw_cond (t := true) rfl ?_; rw [if_pos rfl]; refine dw_seq ?_; refine dwk [] TLB_ok hnt fun K hK => ?_
        refine hK _ _ ?_; clear hK K; refine dw_ret ?_
        exact reta rfl
      | true =>
       rw [hr2] at r2
       simp only [Bool.not_true, Bool.or_false, Bool.false_eq_true, if_false]
       refine calldw 0 46 [ResultVar.tmp 2] TLB_ok Try.func50 rfl Try.ntmps50 rfl fun cx hnt hn0 => ?_
       ·skip
        refine dw_seq ?_; refine dwk [] TLB_ok hnt fun K hK => ?_; refine hK _ _ ?_; clear hK K; refine dw_seq ?_; refine dw_block ?_; refine dw_seq ?_; refine dwk [(8, .v (.bool false)), (14, .v (.bool false))] TLB_ok hnt fun K hK => ?_; refine dcl (l1) ?_; refine And.intro auF ?_; refine dcl (l2) ?_; refine And.intro auF ?_; refine hK _ _ ?_; clear hK K; refine dw_cond (t := false) rfl ?_; rw [if_neg (by simp)]
        refine dw_seq ?_; refine dwk [(23, .sl 4 [[.sl 2 (eTys L.binds) none, .v (.int .i64 L.kind), .v (.int .i64 L.index), .sl 4 (eTms L.args) none], [.sl 2 (eTys R.binds) none, .v (.int .i64 R.kind), .v (.int .i64 R.index), .sl 4 (eTms R.args) none]] none)] TLB_ok hnt fun K hK => ?_; refine And.intro (VLe.untag _ _ _) ?_; refine dcl (hm) ?_; refine dcl (hc) ?_; refine hK _ _ ?_; clear hK K; refine dw_cond (t := false) rfl ?_
        rw [if_neg (by simp)]; refine dw_seq ?_; refine dwk [(31, .v (.bool false))] TLB_ok hnt fun K hK => ?_; refine And.intro (by first | exact dfalse (by rw [eTys_len]; omega) | exact VLe.of_eq (by rw [eTys_len]; omega)) ?_; refine dcl (r1) ?_; refine dcl (r2) ?_; refine hK _ _ ?_; clear hK K; refine dw_cond (t := false) rfl ?_; rw [if_neg (by simp)]; refine dw_skip ?_; refine dw_seq ?_; refine dwk [] TLB_ok hnt fun K hK => ?_
        refine hK _ _ ?_; clear hK K; refine dw_ret ?_
        exact reta rfl
/-! done -/
theorem ldone_d (L R : Tm) (M : List Ty) (hL : L.full ≤ 4400000 ∧ L.Fit ∧ (Li.rt L = true → L.full ≤ 900000)) (hR : R.full ≤ 4400000 ∧ R.Fit ∧ (Li.rt R = true → R.full ≤ 900000)) (hM : Ty.sizes M ≤ 800000) : PureC Try.prog 34 [.ag (ePr ⟨L, R, M⟩)] (.tu [.ag (ePr (Li.done ⟨L, R, M⟩).1), .v (.int .i64 (Li.done ⟨L, R, M⟩).2)]) := by
 have r1 := right_d L hL.1
 have r2 := right_d R hR.1
 have c1 := fun h => copyW_d L (hL.2.2 h) hL.2.1
 have c2 := fun h => copyW_d R (hR.2.2 h) hR.2.1
 have ha := arrow_d (.mk [] 0) M (by rw [ty_size]; simp [Ty.sizes]; omega)
 rw [show decide (L.size ≤ 5000 ∧ L.depth ≤ 60) = Li.rt L from rfl] at r1
 rw [show decide (R.size ≤ 5000 ∧ R.depth ≤ 60) = Li.rt R from rfl] at r2
 rw [eTm_eq] at r1 r2 c1 c2
 simp only [eTy_eq, args_mk', base_mk', List.append_nil] at ha
 rw [ePr_eq]
 unfold Li.done
 dsimp only
 cases hr1 : Li.rt L with
 | false =>
  rw [hr1] at r1
  simp only [Bool.false_and, Bool.false_eq_true, if_false]
  rw [ePr_z]
  refine calldw 0 27 [ResultVar.cell 2 45, ResultVar.tmp 3] TLB_ok Try.func34 rfl Try.ntmps34 rfl fun cx hnt hn0 => ?_
  ·skip
   refine dw_seq ?_; refine dwk [] TLB_ok hnt fun K hK => ?_; refine hK _ _ ?_; clear hK K; refine dw_seq ?_; refine dw_seq ?_; refine dwk [] TLB_ok hnt fun K hK => ?_; refine dcl (r1) ?_; refine hK _ _ ?_; clear hK K; refine dw_cond (t := true) rfl ?_; rw [if_pos rfl]; refine dw_seq ?_; refine dwk [] TLB_ok hnt fun K hK => ?_; refine hK _ _ ?_; clear hK K; refine dw_ret ?_
   exact reta rfl
 | true =>
  rw [hr1] at r1
  cases hr2 : Li.rt R with
  | false =>
   rw [hr2] at r2
   simp only [Bool.and_false, Bool.false_eq_true, if_false]
   rw [ePr_z]
   refine calldw 0 27 [ResultVar.cell 2 45, ResultVar.tmp 3] TLB_ok Try.func34 rfl Try.ntmps34 rfl fun cx hnt hn0 => ?_
   ·skip
    refine dw_seq ?_; refine dwk [] TLB_ok hnt fun K hK => ?_; refine hK _ _ ?_; clear hK K; refine dw_seq ?_; refine dw_seq ?_; refine dwk [] TLB_ok hnt fun K hK => ?_; refine dcl (r1) ?_; refine dcl (r2) ?_; refine hK _ _ ?_; clear hK K; refine dw_cond (t := true) rfl ?_; rw [if_pos rfl]; refine dw_seq ?_; refine dwk [] TLB_ok hnt fun K hK => ?_; refine hK _ _ ?_; clear hK K; refine dw_ret ?_
    exact reta rfl
  | true =>
   rw [hr2] at r2
   have c1 := c1 hr1
   have c2 := c2 hr2
   simp only [Bool.and_true, if_true]
   rw [ePr_eq]
   refine calldw 0 27 [ResultVar.cell 2 45, ResultVar.tmp 3] TLB_ok Try.func34 rfl Try.ntmps34 rfl fun cx hnt hn0 => ?_
   ·skip
    refine dw_seq ?_; refine dwk [] TLB_ok hnt fun K hK => ?_; refine hK _ _ ?_; clear hK K; refine dw_seq ?_; refine dw_seq ?_; refine dwk [] TLB_ok hnt fun K hK => ?_; refine dcl (r1) ?_; refine dcl (r2) ?_; refine hK _ _ ?_; clear hK K; refine dw_cond (t := false) rfl ?_; rw [if_neg (by simp)]; refine dw_skip ?_; refine dw_seq ?_; refine dwkD [(21, .ag [.sl 2 (eTys []) none, .v (.int .i64 0)])] TLB_ok hnt fun K hK => ?_
    refine dcl (c1) ?_; refine dcl (c2) ?_; refine And.intro (auV) ?_; refine dcl (ha) ?_; refine hK _ _ (by kernel_rfl) ?_; clear hK K; refine dw_ret ?_
    exact reta rfl
/-! Close -/
theorem lclose_d (t : Tm) (B : List Ty) (hz : Ty.sizes B + t.full ≤ 900000) (hf : (Li.cl t B).Fit) : PureC Try.prog 33 [.ag (eTm t), .sl 2 (eTys B) none] (.ag (eTm (Li.cl t B))) := by
 have hfl := full_args t
 have h1 := Ty.le_sizes B
 have h2 := Ty.le_sizes t.binds
 have hcat := concat_d [B, t.binds] (by simp [lens]; omega) (by simp)
 simp only [List.flatten_cons, List.flatten_nil, List.append_nil] at hcat
 have hc := copyW_d (Li.cl t B) (by unfold Li.cl; rw [Tm.full_eq, Ty.sizes_append]; omega) hf
 unfold Li.cl at hc ⊢
 rw [eTm_eq, eTm_eq] at *
 simp only [bindsT, kindT, indexT, argsTm] at hc ⊢
 refine calldw 0 13 [ResultVar.cell 4 43] TLB_ok Try.func33 rfl Try.ntmps33 rfl fun cx hnt hn0 => ?_
 ·skip
  refine dw_seq ?_; refine dwk [] TLB_ok hnt fun K hK => ?_; refine hK _ _ ?_; clear hK K; refine dw_seq ?_; refine dwk [(8, .sl 1 (eTyss [B, t.binds]) none)] TLB_ok hnt fun K hK => ?_; refine And.intro (VLe.untag _ _ _) ?_; refine dcl (hcat) ?_; refine hK _ _ ?_; clear hK K; refine dw_seq ?_; refine dwk [] TLB_ok hnt fun K hK => ?_; refine dcl (hc) ?_; refine hK _ _ ?_; clear hK K; refine dw_ret ?_
  exact reta rfl
/-! Over, Closed -/
theorem arrs_snoc (B : List Ty) (M : List Ty) (j : Nat) (h : j < M.length) : eTys ((M.map (Li.arr B)).take j) ++ [[.sl 2 (eTys (Li.arr B M[j]).args) none, .v (.int .i64 (Li.arr B M[j]).base)]] = eTys ((M.map (Li.arr B)).take (j + 1)) := by
  have h2 : j < (M.map (Li.arr B)).length := by rw [List.length_map]; exact h
  rw [← eTys_snoc _ j h2, List.getElem_map]
set_option maxHeartbeats 1000000 in
theorem lover_d (L R : Tm) (M B : List Ty) (hL : L.full ≤ 90000 ∧ L.Fit) (hR : R.full ≤ 90000 ∧ R.Fit) (hM : ∀ m ∈ M, Ty.sizes B + m.size ≤ 900000) (hMl : M.length ≤ 900000) (hB : ∀ b ∈ B, b.size ≤ 1000)
  (hu : Li.may L R M B = 0 → ((Li.lif B L 0).full ≤ 4400000 ∧ (Li.lif B L 0).Fit ∧ (Li.rt (Li.lif B L 0) = true → (Li.lif B L 0).full ≤ 900000)) ∧ ((Li.lif B R 0).full ≤ 4400000 ∧ (Li.lif B R 0).Fit ∧ (Li.rt (Li.lif B R 0) = true → (Li.lif B R 0).full ≤ 900000)) ∧ Ty.sizes (M.map (Li.arr B)) ≤ 800000) : PureC Try.prog 32 [.ag (ePr ⟨L, R, M⟩), .sl 2 (eTys B) none] (.tu [.ag (ePr (Li.over ⟨L, R, M⟩ B).1), .v (.int .i64 (Li.over ⟨L, R, M⟩ B).2)]) := by
 have hm := lmay_d L R M B hL hR hMl
 unfold Li.over
 dsimp only
 rw [ePr_eq]
 by_cases h0 : Li.may L R M B = 0
 ·obtain ⟨u1, u2, u3⟩ := hu h0
  rw [h0] at hm
  rw [if_neg (fun h => h h0)]
  have hbl : B.length ≤ 900 := by
   unfold Li.may at h0
   split at h0
   ·cases h0
   ·split at h0
    ·cases h0
    ·split at h0
     ·cases h0
     ·rename_i hn
      simp only [Bool.or_eq_true, not_or, decide_eq_true_eq] at hn
      omega
  have t1 := lterm_d L R M B L hbl hB (by omega)
  have t2 := lterm_d L R M B R hbl hB (by omega)
  have hd := ldone_d (Li.lif B L 0) (Li.lif B R 0) (M.map (Li.arr B)) u1 u2 u3
  unfold Li.up
  dsimp only
  have hwl : (M.map (Li.arr B)).length = M.length := List.length_map ..
  have hwg := arrs_snoc B M
  generalize Li.lif B L 0 = L' at t1 hd ⊢
  generalize Li.lif B R 0 = R' at t2 hd ⊢
  generalize M.map (Li.arr B) = W at hd hwl hwg ⊢
  generalize hz : Li.done ⟨L', R', W⟩ = z at hd ⊢
  obtain ⟨⟨zl, zr, zm⟩, ze⟩ := z
  rw [eTm_eq, eTm_eq] at t1 t2
  dsimp only at hd ⊢
  rw [ePr_eq, ePr_eq] at hd
  rw [ePr_eq]
  refine calldw 0 49 [ResultVar.cell 4 45, ResultVar.tmp 5] TLB_ok Try.func32 rfl Try.ntmps32 rfl fun cx hnt hn0 => ?_
  ·skip
   refine dw_seq ?_; refine dwk [] TLB_ok hnt fun K hK => ?_; refine hK _ _ ?_; clear hK K; refine dw_seq ?_; refine dwk [] TLB_ok hnt fun K hK => ?_; refine hK _ _ ?_; clear hK K; refine dw_seq ?_; refine dw_seq ?_; refine dwk [] TLB_ok hnt fun K hK => ?_; refine dcl (hm) ?_; refine hK _ _ ?_; clear hK K; refine dw_seq ?_; refine dwk [] TLB_ok hnt fun K hK => ?_; refine hK _ _ ?_; clear hK K; refine dw_cond (t := false) rfl ?_
   rw [if_neg (by simp)]; refine dw_skip ?_; refine dw_seq ?_; refine dwkD [] TLB_ok hnt fun K hK => ?_; refine dcl (t1) ?_; refine dcl (t2) ?_; refine hK _ _ (by kernel_rfl) ?_; clear hK K
   refine DW.vs (VS.row (k := 22) (off := 8) 52 2 rfl) ?_
   refine dw_seq ?_; refine dw_seq ?_; refine dwk [(31, .v (.int .i64 (↑M.length)))] TLB_ok hnt fun K hK => ?_; refine And.intro (dintE (by rw [eTys_len])) ?_; refine hK _ _ ?_; clear hK K; refine dw_block ?_
   refine dw_loop (ι := { j : Nat // j ≤ M.length }) (fun j => [(.t 1, .sl 2 (eTys B) none), (.t 4, .p 1 0), (.t 8, .p 22 0), (.t 30, .sl 2 (eTys M) none), (.t 31, .v (.int .i64 ↑M.length)), (.t 32, .v (.int .i64 ↑j.1)), (.c 1 0, .v (.slice none 0 0)), (.c 1 1, .v (.int .i64 0)), (.c 1 2, .v (.int .i64 0)), (.c 1 3, .v (.slice none 0 0)), (.c 1 4, .v (.slice none 0 0)), (.c 1 5, .v (.int .i64 0)), (.c 1 6, .v (.int .i64 0)), (.c 1 7, .v (.slice none 0 0)), (.c 1 8, .v (.slice none 0 0)), (.c 22 0, .sl 2 (eTys L'.binds) none), (.c 22 1, .v (.int .i64 L'.kind)), (.c 22 2, .v (.int .i64 L'.index)), (.c 22 3, .sl 4 (eTms L'.args) none), (.c 22 4, .sl 2 (eTys R'.binds) none), (.c 22 5, .v (.int .i64 R'.kind)), (.c 22 6, .v (.int .i64 R'.index)), (.c 22 7, .sl 4 (eTms R'.args) none), (.c 22 8, .sl 2 (eTys (W.take j.1)) (some 24)), (.r 24, .rw 52 2 j.1)]) 25 (fun j => M.length - j.1) (⟨0, Nat.zero_le _⟩) (VS.toA) fun j => ?_
   obtain ⟨j, hj⟩ := j
   dsimp only
   by_cases hlt : j < M.length
   ·have hc := arrow_d M[j] B (hM _ (List.getElem_mem hlt))
    have hsn := hwg j hlt
    rw [show Ty.mk (B ++ M[j].args) M[j].base = Li.arr B M[j] from rfl, eTy_eq, eTy_eq] at hc
    have hl1 : (eTys (W.take j)).length = j := by rw [eTys_len, List.length_take]; omega
    have hl2 : (eTys (W.take (j + 1))).length = j + 1 := by rw [eTys_len, List.length_take]; omega
    refine dw_seq ?_; refine dwk [(33, .v (.bool true))] TLB_ok hnt fun K hK => ?_; refine And.intro auT ?_; refine hK _ _ ?_; clear hK K; refine dw_seq ?_; refine dw_cond (t := true) rfl ?_; rw [if_pos rfl]; refine dw_skip ?_; refine dw_seq ?_; refine dw_block ?_; refine dw_seq ?_; refine dwk [(34, .q [.sl 2 (eTys M[j].args) none, .v (.int .i64 M[j].base)])] TLB_ok hnt fun K hK => ?_; refine And.intro (elo (eTys_len M)) ?_
    refine And.intro (elv (eTys_getD M j) (eTy_eq _)) ?_; refine hK _ _ ?_; clear hK K; refine dwkD [] TLB_ok hnt fun K hK => ?_; refine dcl (hc) ?_; refine And.intro (⟨by omega, by rw [hl1]; simp; omega⟩) ?_; refine hK _ _ (by kernel_rfl) ?_; clear hK K
    rw [hsn, hl2]
    refine dwk [(44, .v (.int .i64 (↑(j + 1))))] TLB_ok hnt fun K hK => ?_; refine And.intro auI ?_; refine hK _ _ ?_; clear hK K
    refine ⟨⟨j + 1, hlt⟩, by first | omega | (dsimp only; omega), VS.toA⟩
   ·rw [List.take_of_length_le (by omega)]
    refine dw_seq ?_; refine dwk [(33, .v (.bool false))] TLB_ok hnt fun K hK => ?_; refine And.intro auF ?_; refine hK _ _ ?_; clear hK K; refine dw_seq ?_; refine dw_cond (t := false) rfl ?_; rw [if_neg (by simp)]; refine dw_exit ?_; refine dw_seq ?_; refine dwk [(45, .ag [.sl 2 (eTys L'.binds) none, .v (.int .i64 L'.kind), .v (.int .i64 L'.index), .sl 4 (eTms L'.args) none, .sl 2 (eTys R'.binds) none, .v (.int .i64 R'.kind), .v (.int .i64 R'.index), .sl 4 (eTms R'.args) none, .sl 2 (eTys W) none])] TLB_ok hnt fun K hK => ?_
    refine And.intro (auV) ?_; refine dcl (hd) ?_; refine hK _ _ ?_; clear hK K; refine dw_ret ?_
    exact reta rfl
 ·rw [if_pos h0, ePr_z]
  generalize Li.may L R M B = e at hm h0 ⊢
  refine calldw 0 49 [ResultVar.cell 4 45, ResultVar.tmp 5] TLB_ok Try.func32 rfl Try.ntmps32 rfl fun cx hnt hn0 => ?_
  ·skip
   refine dw_seq ?_; refine dwk [] TLB_ok hnt fun K hK => ?_; refine hK _ _ ?_; clear hK K; refine dw_seq ?_; refine dwk [] TLB_ok hnt fun K hK => ?_; refine hK _ _ ?_; clear hK K; refine dw_seq ?_; refine dw_seq ?_; refine dwk [] TLB_ok hnt fun K hK => ?_; refine dcl (hm) ?_; refine hK _ _ ?_; clear hK K; refine dw_seq ?_; refine dwk [(17, .v (.bool true))] TLB_ok hnt fun K hK => ?_; refine And.intro (bneT h0) ?_
   refine hK _ _ ?_; clear hK K; refine dw_cond (t := true) rfl ?_; rw [if_pos rfl]; refine dw_seq ?_; refine dwk [] TLB_ok hnt fun K hK => ?_; refine hK _ _ ?_; clear hK K; refine dw_ret ?_
   exact reta rfl
set_option maxHeartbeats 1000000 in
theorem lclosed_d (L R : Tm) (M B : List Ty) (hL : L.full ≤ 90000 ∧ L.Fit) (hR : R.full ≤ 90000 ∧ R.Fit) (hM : ∀ m ∈ M, Ty.sizes B + m.size ≤ 900000) (hMl : M.length ≤ 900000) (hB : ∀ b ∈ B, b.size ≤ 1000)
  (hu : Li.may L R M B = 0 → ((Li.lif B L 0).full ≤ 4400000 ∧ (Li.lif B L 0).Fit ∧ (Li.rt (Li.lif B L 0) = true → (Li.lif B L 0).full ≤ 900000)) ∧ ((Li.lif B R 0).full ≤ 4400000 ∧ (Li.lif B R 0).Fit ∧ (Li.rt (Li.lif B R 0) = true → (Li.lif B R 0).full ≤ 900000)) ∧ Ty.sizes (M.map (Li.arr B)) ≤ 800000)
  (hv : (Li.over ⟨L, R, M⟩ B).2 = 0 → ∀ p, (Li.over ⟨L, R, M⟩ B).1 = p → (Ty.sizes B + p.l.full ≤ 500000 ∧ (Li.cl p.l B).Fit) ∧ (Ty.sizes B + p.r.full ≤ 500000 ∧ (Li.cl p.r B).Fit) ∧ Ty.sizes p.m ≤ 800000) : PureC Try.prog 13 [.ag (ePr ⟨L, R, M⟩), .sl 2 (eTys B) none] (.tu [.ag (ePr (Li.closed ⟨L, R, M⟩ B).1), .v (.int .i64 (Li.closed ⟨L, R, M⟩ B).2)]) := by
 have ho := lover_d L R M B hL hR hM hMl hB hu
 unfold Li.closed
 generalize Li.over ⟨L, R, M⟩ B = o at ho hv ⊢
 obtain ⟨⟨ol, or, om⟩, oe⟩ := o
 dsimp only at ho hv ⊢
 rw [ePr_eq, ePr_eq] at ho
 rw [ePr_eq]
 by_cases h0 : oe = 0
 ·obtain ⟨⟨u1, u2⟩, ⟨u3, u4⟩, u5⟩ := hv h0 _ rfl
  dsimp only at u1 u2 u3 u4 u5
  subst h0
  rw [if_neg (by simp)]
  have c1 := lclose_d ol B (by omega) u2
  have c2 := lclose_d or B (by omega) u4
  have f1 := full_args ol
  have f2 := full_args or
  have hd := ldone_d (Li.cl ol B) (Li.cl or B) om ⟨by unfold Li.cl; rw [Tm.full_eq, Ty.sizes_append]; omega, u2, fun _ => by unfold Li.cl; rw [Tm.full_eq, Ty.sizes_append]; omega⟩ ⟨by unfold Li.cl; rw [Tm.full_eq, Ty.sizes_append]; omega, u4, fun _ => by unfold Li.cl; rw [Tm.full_eq, Ty.sizes_append]; omega⟩ u5
  unfold Li.clP
  dsimp only
  generalize Li.cl ol B = L' at c1 hd ⊢
  generalize Li.cl or B = R' at c2 hd ⊢
  generalize Li.done ⟨L', R', om⟩ = z at hd ⊢
  obtain ⟨⟨zl, zr, zm⟩, ze⟩ := z
  rw [eTm_eq, eTm_eq] at c1 c2
  dsimp only at hd ⊢
  rw [ePr_eq, ePr_eq] at hd
  rw [ePr_eq]
  refine calldw 0 32 [ResultVar.cell 4 45, ResultVar.tmp 5] TLB_ok Try.func13 rfl Try.ntmps13 rfl fun cx hnt hn0 => ?_
  ·skip
   refine dw_seq ?_; refine dwk [] TLB_ok hnt fun K hK => ?_; refine hK _ _ ?_; clear hK K; refine dw_seq ?_; refine dwk [] TLB_ok hnt fun K hK => ?_; refine dcl (ho) ?_; refine hK _ _ ?_; clear hK K; refine dw_seq ?_; refine dw_seq ?_; refine dwk [] TLB_ok hnt fun K hK => ?_; refine hK _ _ ?_; clear hK K; refine dw_cond (t := false) rfl ?_; rw [if_neg (by simp)]; refine dw_skip ?_; refine dw_seq ?_; refine dwkD [] TLB_ok hnt fun K hK => ?_
   refine dcl (c1) ?_; refine dcl (c2) ?_; refine hK _ _ (by kernel_rfl) ?_; clear hK K; refine dw_seq ?_; refine dwk [] TLB_ok hnt fun K hK => ?_; refine dcl (hd) ?_; refine hK _ _ ?_; clear hK K; refine dw_ret ?_
   exact reta rfl
 ·rw [if_pos h0, ePr_z]
  refine calldw 0 32 [ResultVar.cell 4 45, ResultVar.tmp 5] TLB_ok Try.func13 rfl Try.ntmps13 rfl fun cx hnt hn0 => ?_
  ·skip
   refine dw_seq ?_; refine dwk [] TLB_ok hnt fun K hK => ?_; refine hK _ _ ?_; clear hK K; refine dw_seq ?_; refine dwk [] TLB_ok hnt fun K hK => ?_; refine dcl (ho) ?_; refine hK _ _ ?_; clear hK K; refine dw_seq ?_; refine dw_seq ?_; refine dwk [(15, .v (.bool true))] TLB_ok hnt fun K hK => ?_; refine And.intro (bneT h0) ?_; refine hK _ _ ?_; clear hK K; refine dw_cond (t := true) rfl ?_; rw [if_pos rfl]
   refine dw_seq ?_; refine dwk [] TLB_ok hnt fun K hK => ?_; refine hK _ _ ?_; clear hK K; refine dw_ret ?_
   exact reta rfl
end Go.Proofs.Ytnpjjkeokcoedaa

namespace Go.Proofs.Ytnpjjkeokcoedaa
open Go.RowKit
def eBd (b : Pn.Bd) : List (Int × D) := b.map fun p => (p.1, .ag (eTm p.2))
@[simp] theorem eBd_ok (f g : Nat → Bool) (b : Pn.Bd) : D.okm f g (eBd b) = true := okm_map _ b fun p _ => by simp [D.ok, eTm_ok]
end Go.Proofs.Ytnpjjkeokcoedaa

namespace Go.Proofs.Ytnpjjkeokcoedaa
open Go.RowKit

namespace Pn
end Pn

end Go.Proofs.Ytnpjjkeokcoedaa

namespace Go.Proofs.Ytnpjjkeokcoedaa
open Go.RowKit

section
variable {P : Program} {T : List (Nat × TI)} {cx : Cx} {Fr : Nat → Prop} {m : Mp} {Im : Nat → Nat → Prop} {w w' : World} {a : Act} {σ σ' : List (Key × D)}
theorem St.drew (h : St cx Fr m Im w a σ) : St cx Fr m Im w.drew a σ := h.below0 (Below.refl _ _).drew
end

section
variable {P : Program} {T : List (Nat × TI)} {cx : Cx} {m : Mp} {Im : Nat → Nat → Prop} {w : World} {a : Act} {σ : List (Key × D)} {ops : Array Oper} {Q : Exit → Act → World → Prop}
end
end Go.Proofs.Ytnpjjkeokcoedaa

namespace Go.Proofs.Ytnpjjkeokcoedaa
open Go.RowKit
def ePP (p : Tm × Tm) : List D := eTm p.1 ++ eTm p.2
def ePPs (l : List (Tm × Tm)) : List (List D) := l.map ePP
theorem ePP_eq (p : Tm × Tm) : ePP p = [.sl 2 (eTys p.1.binds) none, .v (.int .i64 p.1.kind), .v (.int .i64 p.1.index), .sl 4 (eTms p.1.args) none, .sl 2 (eTys p.2.binds) none, .v (.int .i64 p.2.kind), .v (.int .i64 p.2.index), .sl 4 (eTms p.2.args) none] := by unfold ePP; rw [eTm_eq, eTm_eq]; rfl
@[simp] theorem ePPs_ok (f g : Nat → Bool) (l : List (Tm × Tm)) : D.okss f g (ePPs l) = true := D.okss_map _ l fun p _ => by simp [ePP_eq, D.oks, D.ok, eTms_ok, eTys_ok]
namespace Pn
end Pn
end Go.Proofs.Ytnpjjkeokcoedaa

namespace Go.Proofs.Ytnpjjkeokcoedaa
open Go.RowKit
/-! the examples -/
def mb (i : Int) : Tm := .mk [] 0 i []
def mc (i : Int) (l : List Tm) : Tm := .mk [] 1 i l
theorem fit_mk {b : List Ty} {k i : Int} {a : List Tm} (h1 : -1000 ≤ i) (h2 : i ≤ 1000) (h : ∀ t ∈ a, t.Fit) : (Tm.mk b k i a).Fit := Tm.fit_iff.2 ⟨by omega, by omega, h⟩
theorem fit0 (k i : Int) (h1 : -1000 ≤ i) (h2 : i ≤ 1000) (b : List Ty) : (Tm.mk b k i []).Fit := fit_mk h1 h2 nofun
theorem fit1 {k i : Int} {b : List Ty} {t : Tm} (h1 : -1000 ≤ i) (h2 : i ≤ 1000) (h : t.Fit) : (Tm.mk b k i [t]).Fit := fit_mk h1 h2 fun u hu => by rw [List.mem_singleton] at hu; subst hu; exact h
end Go.Proofs.Ytnpjjkeokcoedaa

namespace Go.Proofs.Ytnpjjkeokcoedaa
open Go.RowKit

end Go.Proofs.Ytnpjjkeokcoedaa

namespace Go.Proofs.Ytnpjjkeokcoedaa
open Go.RowKit
end Go.Proofs.Ytnpjjkeokcoedaa

namespace Go.Proofs.Ytnpjjkeokcoedaa
open Go.RowKit

end Go.Proofs.Ytnpjjkeokcoedaa

namespace Go.Proofs.Ytnpjjkeokcoedaa
open Go.RowKit
end Go.Proofs.Ytnpjjkeokcoedaa

namespace Go.Proofs.Ytnpjjkeokcoedaa
open Go.RowKit

end Go.Proofs.Ytnpjjkeokcoedaa

namespace Go.Proofs.Ytnpjjkeokcoedaa
open Go.RowKit
end Go.Proofs.Ytnpjjkeokcoedaa

namespace Go.Proofs.Ytnpjjkeokcoedaa
open Go.RowKit
def TLS_43 : TI := ⟨4, true, [Value.slice none 0 0, Value.int IntKind.i64 0, Value.int IntKind.i64 0, Value.slice none 0 0], [(0, 1, false), (1, 2, true), (3, 1, false)], none, 64, 6, none, false⟩
theorem TLS_43_ok : TypOk Try.prog 43 TLS_43 := ⟨by kernel_rfl, by kernel_rfl, by kernel_rfl, by kernel_rfl, by kernel_rfl⟩
def TLS_45 : TI := ⟨9, true, [Value.slice none 0 0, Value.int IntKind.i64 0, Value.int IntKind.i64 0, Value.slice none 0 0, Value.slice none 0 0, Value.int IntKind.i64 0, Value.int IntKind.i64 0, Value.slice none 0 0, Value.slice none 0 0], [(0, 4, true), (4, 4, true), (8, 1, false)], none, 152, 6, none, false⟩
theorem TLS_45_ok : TypOk Try.prog 45 TLS_45 := ⟨by kernel_rfl, by kernel_rfl, by kernel_rfl, by kernel_rfl, by kernel_rfl⟩
def TLS_36 : TI := ⟨1, false, [Value.slice none 0 0], [], some 52, 24, 5, none, false⟩
theorem TLS_36_ok : TypOk Try.prog 36 TLS_36 := ⟨by kernel_rfl, by kernel_rfl, by kernel_rfl, by kernel_rfl, by kernel_rfl⟩
def TLS_41 : TI := ⟨1, false, [Value.slice none 0 0], [], some 43, 24, 5, none, false⟩
theorem TLS_41_ok : TypOk Try.prog 41 TLS_41 := ⟨by kernel_rfl, by kernel_rfl, by kernel_rfl, by kernel_rfl, by kernel_rfl⟩
def TLS_3 : TI := ⟨1, false, [Value.int IntKind.i64 0], [], none, 8, 2, none, false⟩
theorem TLS_3_ok : TypOk Try.prog 3 TLS_3 := ⟨by kernel_rfl, by kernel_rfl, by kernel_rfl, by kernel_rfl, by kernel_rfl⟩
def TLS_52 : TI := ⟨2, true, [Value.slice none 0 0, Value.int IntKind.i64 0], [(0, 1, false), (1, 1, false)], none, 32, 6, none, false⟩
theorem TLS_52_ok : TypOk Try.prog 52 TLS_52 := ⟨by kernel_rfl, by kernel_rfl, by kernel_rfl, by kernel_rfl, by kernel_rfl⟩
def TLS_40 : TI := ⟨2, true, [Value.int IntKind.i64 0, Value.int IntKind.i64 0], [(0, 1, false), (1, 1, false)], none, 16, 6, none, true⟩
theorem TLS_40_ok : TypOk Try.prog 40 TLS_40 := ⟨by kernel_rfl, by kernel_rfl, by kernel_rfl, by kernel_rfl, by kernel_rfl⟩
def TLS_48 : TI := ⟨1, false, [Value.int IntKind.i64 0], [], none, 8, 2, none, false⟩
theorem TLS_48_ok : TypOk Try.prog 48 TLS_48 := ⟨by kernel_rfl, by kernel_rfl, by kernel_rfl, by kernel_rfl, by kernel_rfl⟩
def TLS : List (Nat × TI) := [(43, TLS_43), (45, TLS_45), (36, TLS_36), (41, TLS_41), (3, TLS_3), (52, TLS_52), (40, TLS_40), (48, TLS_48)]
theorem TLS_ok : TabOk Try.prog TLS := (((((((((TabOk.nil _).cons TLS_48_ok).cons TLS_40_ok).cons TLS_52_ok).cons TLS_3_ok).cons TLS_41_ok).cons TLS_36_ok).cons TLS_45_ok).cons TLS_43_ok)

/-! the example -/
namespace Li
def kA : Ty := .mk [] 0
def kX : Tm := .mk [] 2 0 []
def kC : Tm := .mk [] 1 0 [kX]
def kB : Tm := .mk [] 0 0 []
def kP : Pr := ⟨.mk [kA] 1 0 [.mk [] 2 0 [kB]], .mk [kA] 2 0 [kB], [.mk [kA] 0]⟩
theorem kSort : sortU [0, 0] = [0] := (sortU_twice [0]).trans (by unfold sortU; rw [List.mergeSort_singleton]; rfl)
theorem kMay : may kC kX [kA] [kA] = 0 := by unfold may; rw [show metasL [kC, kX] = [0, 0] by decide +kernel, kSort]; decide +kernel
theorem kOver : over ⟨kC, kX, [kA]⟩ [kA] = (⟨.mk [] 1 0 [.mk [] 2 0 [kB]], .mk [] 2 0 [kB], [.mk [kA] 0]⟩, 0) := by unfold over; rw [if_neg (fun h => h kMay)]; kernel_rfl
theorem kClosed : closed ⟨kC, kX, [kA]⟩ [kA] = (kP, 0) := by unfold closed; rw [kOver]; kernel_rfl
end Li
theorem lexample_d : PureC Try.prog 13 [.ag [.sl 2 [] none, .v (.int .i64 1), .v (.int .i64 0), .sl 4 (eTms [Li.kX]) none, .sl 2 [] none, .v (.int .i64 2), .v (.int .i64 0), .sl 4 [] none, .sl 2 (eTys [Li.kA]) none], .sl 2 (eTys [Li.kA]) none] (.tu [.ag [.sl 2 (eTys [Li.kA]) none, .v (.int .i64 1), .v (.int .i64 0), .sl 4 (eTms [.mk [] 2 0 [Li.kB]]) none, .sl 2 (eTys [Li.kA]) none, .v (.int .i64 2), .v (.int .i64 0), .sl 4 (eTms [Li.kB]) none, .sl 2 (eTys [.mk [Li.kA] 0]) none], .v (.int .i64 0)]) := by
  have h := lclosed_d Li.kC Li.kX [Li.kA] [Li.kA] ⟨by decide, fit1 (by decide) (by decide) (fit0 _ _ (by decide) (by decide) _)⟩ ⟨by decide, fit0 _ _ (by decide) (by decide) _⟩ (by decide) (by decide) (by decide)
    (fun _ => ⟨⟨by decide, fit1 (by decide) (by decide) (fit1 (by decide) (by decide) (fit0 _ _ (by decide) (by decide) _)), fun _ => by decide⟩, ⟨by decide, fit1 (by decide) (by decide) (fit0 _ _ (by decide) (by decide) _), fun _ => by decide⟩, by decide⟩)
    (fun _ p hp => by
      rw [Li.kOver] at hp
      subst hp
      exact ⟨⟨by decide, fit1 (by decide) (by decide) (fit1 (by decide) (by decide) (fit0 _ _ (by decide) (by decide) _))⟩, ⟨by decide, fit1 (by decide) (by decide) (fit0 _ _ (by decide) (by decide) _)⟩, by decide⟩)
  rw [Li.kClosed] at h
  exact h
theorem kOf0_d : PureC Try.prog 25 [.v (.int .i64 0), .v (.slice none 0 0)] (.ag [.sl 2 [] none, .v (.int .i64 0)]) := CallC.vle (kOf_d 0 [] (by simp [Ty.sizes])) (.cons (VLe.refl _) (.cons (VLe.nil _) .nil)) (VLe.refl _)
set_option maxHeartbeats 2000000 in
theorem known22_d : PureC Try.prog 7 [] (.v (.bool true)) := by
 have ho := kOf0_d
 have hc := lexample_d
 refine calldw 0 78 [ResultVar.tmp 0] TLS_ok Try.func7 rfl Try.ntmps7 rfl fun cx hnt hn0 => ?_
 ·skip
  refine dw_seq ?_; refine dwk [] TLS_ok hnt fun K hK => ?_; refine hK _ _ ?_; clear hK K; refine dw_seq ?_; refine dwk [] TLS_ok hnt fun K hK => ?_; refine dcl (ho) ?_; refine hK _ _ ?_; clear hK K; refine dw_seq ?_; refine dwk [] TLS_ok hnt fun K hK => ?_; refine hK _ _ ?_; clear hK K; refine dw_seq ?_; refine dwk [(10, .ag (eTm Li.kX)), (11, .sl 4 (eTms [Li.kX]) none), (14, .ag (eTy Li.kA)), (15, .sl 2 (eTys [Li.kA]) none)] TLS_ok hnt fun K hK => ?_
  refine And.intro (auV) ?_; refine And.intro (VLe.untag _ _ _) ?_; refine And.intro (auV) ?_; refine And.intro (VLe.untag _ _ _) ?_; refine hK _ _ ?_; clear hK K; refine dw_seq ?_; refine dwk [(18, .ag [.sl 2 [] none, .v (.int .i64 1), .v (.int .i64 0), .sl 4 (eTms [Li.kX]) none, .sl 2 [] none, .v (.int .i64 2), .v (.int .i64 0), .sl 4 [] none, .sl 2 (eTys [Li.kA]) none]), (19, .ag (eTy Li.kA)), (20, .sl 2 (eTys [Li.kA]) none)] TLS_ok hnt fun K hK => ?_
  refine And.intro (auV) ?_; refine And.intro (auV) ?_; refine And.intro (VLe.untag _ _ _) ?_; refine dcl (hc) ?_; refine hK _ _ ?_; clear hK K; refine dw_seq ?_; refine dwk [(25, .v (.bool true)), (29, .v (.int .i64 (1))), (30, .v (.bool true)), (35, .q [.sl 2 (eTys [Li.kA]) none, .v (.int .i64 0)]), (38, .v (.int .i64 (1))), (39, .v (.bool true)), (45, .v (.int .i64 (1))), (46, .v (.bool true)), (52, .v (.int .i64 (1))), (53, .v (.bool true)), (59, .q [.sl 2 [] none, .v (.int .i64 2), .v (.int .i64 0), .sl 4 (eTms [Li.kB]) none]), (62, .v (.int .i64 (1))), (63, .v (.bool true)), (69, .q [.sl 2 [] none, .v (.int .i64 2), .v (.int .i64 0), .sl 4 (eTms [Li.kB]) none]), (72, .q [.sl 2 [] none, .v (.int .i64 0), .v (.int .i64 0), .sl 4 [] none])] TLS_ok hnt fun K hK => ?_
  refine And.intro (VLe.refl _) ?_; refine And.intro (dintE (by rfl)) ?_; refine And.intro (VLe.refl _) ?_; refine And.intro (⟨by decide, by decide⟩) ?_; refine And.intro (VLe.of_eq rfl) ?_; refine And.intro (dintE (by rfl)) ?_; refine And.intro (VLe.refl _) ?_; refine And.intro (dintE (by rfl)) ?_; refine And.intro (VLe.refl _) ?_; refine And.intro (dintE (by rfl)) ?_; refine And.intro (VLe.refl _) ?_
  refine And.intro (⟨by decide, by decide⟩) ?_; refine And.intro (VLe.of_eq rfl) ?_; refine And.intro (dintE (by rfl)) ?_; refine And.intro (VLe.refl _) ?_; refine And.intro (⟨by decide, by decide⟩) ?_; refine And.intro (VLe.of_eq rfl) ?_; refine And.intro (⟨by decide, by decide⟩) ?_; refine And.intro (VLe.of_eq rfl) ?_; refine hK _ _ ?_; clear hK K; refine dw_ret ?_
  exact reta rfl
/-! the law -/
theorem sizes_le22 {l : List Ty} {n : Nat} (h : ∀ t ∈ l, t.size ≤ n) : Ty.sizes l ≤ l.length * n := by
  induction l with
  | nil => simp [Ty.sizes]
  | cons t l ih =>
    have h1 := h t (by simp)
    have h2 := ih fun u hu => h u (by simp [hu])
    rw [Ty.sizes, List.length_cons, Nat.add_mul]; omega
end Go.Proofs.Ytnpjjkeokcoedaa

namespace Go.Proofs.Ytnpjjkeokcoedaa
open Go.RowKit

theorem full_etas {l : List Ty} (h : ∀ t ∈ l, ∀ k i, (Ty.eta t k i).full ≤ t.size * t.size) : Tm.fulls (Ty.etas l) ≤ Ty.sizes l * Ty.sizes l := by
  induction l with
  | nil => simp [Ty.etas, Tm.fulls]
  | cons t l ih =>
    have h1 := h t (by simp) 0 (l.length : Nat)
    have h2 := ih fun u hu => h u (by simp [hu])
    simp only [Ty.etas, Tm.fulls, Ty.sizes]
    have e : (t.size + Ty.sizes l) * (t.size + Ty.sizes l) = t.size * t.size + Ty.sizes l * Ty.sizes l + 2 * (t.size * Ty.sizes l) := by
      rw [Nat.add_mul, Nat.mul_add, Nat.mul_add, Nat.mul_comm (Ty.sizes l) t.size]; omega
    rw [e]; omega
theorem full_eta (t : Ty) : ∀ k i, (Ty.eta t k i).full ≤ t.size * t.size := by
  induction t using Ty.ind with
  | h l b ih =>
    intro k i
    have h := full_etas ih
    rw [Ty.eta_eq, Tm.full_eq, Ty.size_eq]
    have e : (Ty.sizes l + 1) * (Ty.sizes l + 1) = Ty.sizes l * Ty.sizes l + 2 * Ty.sizes l + 1 := by
      rw [Nat.add_mul, Nat.mul_add]; omega
    rw [e]; omega
theorem fit_etas {l : List Ty} (h : ∀ t ∈ l, ∀ k i, (k = 0 → 0 ≤ i ∧ i ≤ 1000000) → (k ≠ 0 → -9223372036854775808 ≤ i ∧ i ≤ 9223372036854775807) → (Ty.eta t k i).Fit) (hl : l.length ≤ 1000000) : ∀ t ∈ Ty.etas l, t.Fit := by
  induction l with
  | nil => simp [Ty.etas]
  | cons t l ih =>
    intro u hu
    simp only [Ty.etas, List.mem_cons] at hu
    simp only [List.length_cons] at hl
    rcases hu with rfl | hu
    · exact h t (by simp) 0 _ (fun _ => by omega) (fun h => absurd rfl h)
    · exact ih (fun u hu => h u (by simp [hu])) (by omega) u hu
theorem fit_eta (t : Ty) (hs : t.size ≤ 1000000) : ∀ k i, (k = 0 → 0 ≤ i ∧ i ≤ 1000000) → (k ≠ 0 → -9223372036854775808 ≤ i ∧ i ≤ 9223372036854775807) → (Ty.eta t k i).Fit := by
  induction t using Ty.ind with
  | h l b ih =>
    intro k i h1 h2
    have hl := Ty.le_sizes l
    rw [Ty.size_eq] at hs
    rw [Ty.eta_eq, Tm.fit_iff]
    refine ⟨?_, ?_, fit_etas (fun t ht k i => ih t ht (by have := Ty.size_mem ht; omega) k i) (by omega)⟩
    · by_cases hk : k = 0
      · rw [if_pos hk]; have := h1 hk; omega
      · rw [if_neg hk]; exact (h2 hk).1
    · by_cases hk : k = 0
      · rw [if_pos hk]; have := h1 hk; omega
      · rw [if_neg hk]; exact (h2 hk).2
theorem fit_Eta (t : Ty) (hs : t.size ≤ 60) (k i : Int) (hi : -9223372036854775808 ≤ i ∧ i ≤ 9223372036854775807) : (Ty.Eta t k i).Fit := by
  unfold Ty.Eta
  by_cases hc : k = 0 ∧ (i < 0 ∨ 1000 < i)
  · rw [if_pos hc]; simp [Tm.zero, Tm.fit_iff]
  · rw [if_neg hc]; exact fit_eta t (by omega) k i (fun hk => by omega) (fun _ => hi)
theorem full_Eta (t : Ty) (hs : t.size ≤ 60) (k i : Int) : (Ty.Eta t k i).full ≤ 3600 := by
  unfold Ty.Eta
  split
  · simp [Tm.zero, Tm.full, Tm.fulls, Ty.sizes]
  · have h := full_eta t k i
    have : t.size * t.size ≤ 60 * 60 := Nat.mul_le_mul hs hs
    omega
end Go.Proofs.Ytnpjjkeokcoedaa

namespace Go.Proofs.Ytnpjjkeokcoedaa
open Go.RowKit
namespace Li
theorem wide_list {l : List Tm} {m : Nat} (h : ∀ t ∈ l, t.full ≤ m * t.size) : Tm.fulls l ≤ m * Tm.sizes l := by
  induction l with
  | nil => simp [Tm.fulls]
  | cons t l ih =>
    have h1 := h t (by simp)
    have h2 := ih fun u hu => h u (by simp [hu])
    simp only [Tm.fulls, Tm.sizes]
    rw [Nat.mul_add]; omega
theorem full_list {l : List Tm} {m : Nat} (h : ∀ t ∈ l, t.full ≤ m) : Tm.fulls l ≤ m * l.length := by
  induction l with
  | nil => simp [Tm.fulls]
  | cons t l ih =>
    have h1 := h t (by simp)
    have h2 := ih fun u hu => h u (by simp [hu])
    simp only [Tm.fulls, List.length_cons]
    rw [Nat.mul_add]; omega
theorem wide_etas {l : List Ty} {m : Nat} (h : ∀ t ∈ l, ∀ k i, (Ty.eta t k i).full ≤ m * (Ty.eta t k i).size) : Tm.fulls (Ty.etas l) ≤ m * Tm.sizes (Ty.etas l) := by
  induction l with
  | nil => simp [Ty.etas, Tm.fulls]
  | cons t l ih =>
    have h1 := h t (by simp) 0 (l.length : Nat)
    have h2 := ih fun u hu => h u (by simp [hu])
    simp only [Ty.etas, Tm.fulls, Tm.sizes]
    rw [Nat.mul_add]; omega
theorem wide_eta {m : Nat} (t : Ty) : t.size ≤ m → ∀ k i, (Ty.eta t k i).full ≤ m * (Ty.eta t k i).size := by
  induction t using Ty.ind with
  | h l b ih =>
    intro hs k i
    rw [Ty.size_eq] at hs
    have h := wide_etas (m := m) fun t ht => ih t ht (by have := Ty.size_mem ht; omega)
    rw [Ty.eta_eq, Tm.full_eq, Tm.size_eq, Nat.mul_add]; omega
theorem wide_Eta (t : Ty) (hs : t.size ≤ 60) (k i : Int) : (Ty.Eta t k i).full ≤ 60 * (Ty.Eta t k i).size := by
  unfold Ty.Eta
  split
  · simp [Tm.zero, Tm.full, Tm.fulls, Tm.size, Tm.sizes, Ty.sizes]
  · exact wide_eta t hs k i
theorem vars_mem {B : List Ty} {n : Int} {u : Tm} (h : u ∈ vars B n) : ∃ (j : Nat) (hj : j < B.length), u = Ty.Eta B[j] 0 (n + B.length - 1 - j) := by
  obtain ⟨j, hj, rfl⟩ := List.getElem_of_mem h
  have hj2 : j < B.length := by rw [vars_len] at hj; exact hj
  exact ⟨j, hj2, vars_get B n j hj2⟩
theorem lif_wide {B : List Ty} (hB : ∀ b ∈ B, b.size ≤ 60) : ∀ (t : Tm) (n : Int), (lif B t n).full ≤ 60 * (lif B t n).size + t.full := by
  intro t
  induction t using Tm.ind with
  | h b k i a ih =>
  intro n
  have key : ∀ (l : List Tm) (m : Int), (∀ t ∈ l, ∀ n, (lif B t n).full ≤ 60 * (lif B t n).size + t.full) → Tm.fulls (lifs B l m) ≤ 60 * Tm.sizes (lifs B l m) + Tm.fulls l := by
    intro l m
    induction l with
    | nil => intro _; simp [lifs, Tm.fulls]
    | cons t l ihl =>
      intro h
      have h1 := h t (by simp) m
      have h2 := ihl fun u hu => h u (by simp [hu])
      rw [lifs]
      simp only [Tm.fulls, Tm.sizes]
      rw [Nat.mul_add]; omega
  have h1 := key a (n + b.length) ih
  have h2 : Tm.fulls (if k = 2 then vars B (n + b.length) else []) ≤ 60 * Tm.sizes (if k = 2 then vars B (n + b.length) else []) := by
    split
    · refine wide_list fun u hu => ?_
      obtain ⟨j, hj, rfl⟩ := vars_mem hu
      exact wide_Eta _ (hB _ (List.getElem_mem hj)) _ _
    · simp [Tm.fulls]
  rw [lif_eq, Tm.full_eq, Tm.size_eq, Tm.full_eq, Tm.fulls_append, Tm.sizes_append]
  rw [Nat.mul_add, Nat.mul_add]; omega
theorem lif_full {B : List Ty} (hB : ∀ b ∈ B, b.size ≤ 60) (hl : B.length ≤ 8) : ∀ (t : Tm) (n : Int), (lif B t n).full ≤ 28801 * t.full := by
  intro t
  induction t using Tm.ind with
  | h b k i a ih =>
  intro n
  have key : ∀ (l : List Tm) (m : Int), (∀ t ∈ l, ∀ n, (lif B t n).full ≤ 28801 * t.full) → Tm.fulls (lifs B l m) ≤ 28801 * Tm.fulls l := by
    intro l m
    induction l with
    | nil => intro _; simp [lifs, Tm.fulls]
    | cons t l ihl =>
      intro h
      have h1 := h t (by simp) m
      have h2 := ihl fun u hu => h u (by simp [hu])
      rw [lifs]
      simp only [Tm.fulls]
      rw [Nat.mul_add]; omega
  have h1 := key a (n + b.length) ih
  have h2 : Tm.fulls (if k = 2 then vars B (n + b.length) else []) ≤ 28800 := by
    split
    · have := full_list (l := vars B (n + b.length)) (m := 3600) fun u hu => by
        obtain ⟨j, hj, rfl⟩ := vars_mem hu
        exact full_Eta _ (hB _ (List.getElem_mem hj)) _ _
      rw [vars_len] at this; omega
    · simp [Tm.fulls]
  rw [lif_eq, Tm.full_eq, Tm.full_eq, Tm.fulls_append]
  rw [Nat.mul_add, Nat.mul_add]; omega
theorem lif_fit {B : List Ty} (hB : ∀ b ∈ B, b.size ≤ 60) (hl : B.length ≤ 1000) : ∀ (t : Tm) (n : Int), 0 ≤ n → n + t.full ≤ 1000000 → t.Fit → (lif B t n).Fit := by
  intro t
  induction t using Tm.ind with
  | h b k i a ih =>
  intro n h0 hz hf
  rw [Tm.full_eq] at hz
  have hbl := Ty.le_sizes b
  obtain ⟨f1, f2, f3⟩ := Tm.fit_iff.1 hf
  rw [lif_eq]
  refine Tm.fit_iff.2 ⟨f1, f2, fun u hu => ?_⟩
  rcases List.mem_append.1 hu with hu | hu
  · split at hu
    · obtain ⟨j, hj, rfl⟩ := vars_mem hu
      exact fit_Eta _ (hB _ (List.getElem_mem hj)) _ _ (by omega)
    · cases hu
  · rw [lifs_map] at hu
    obtain ⟨t, ht, rfl⟩ := List.mem_map.1 hu
    have hsz := Tm.full_mem ht
    exact ih t ht _ (by omega) (by omega) (f3 t ht)
end Li
end Go.Proofs.Ytnpjjkeokcoedaa

namespace Go.Proofs.Ytnpjjkeokcoedaa
open Go.RowKit
namespace Pn
end Pn
end Go.Proofs.Ytnpjjkeokcoedaa

namespace Go.Proofs.Ytnpjjkeokcoedaa
open Go.RowKit

end Go.Proofs.Ytnpjjkeokcoedaa

namespace Go.Proofs.Ytnpjjkeokcoedaa
open Go.RowKit

end Go.Proofs.Ytnpjjkeokcoedaa

namespace Go.Proofs.Ytnpjjkeokcoedaa
open Go.RowKit
def eHs (l : List (Int × Int)) : List (List D) := l.map fun h => [.v (.int .i64 h.1), .v (.int .i64 h.2)]
@[simp] theorem eHs_ok (f g : Nat → Bool) (l : List (Int × Int)) : D.okss f g (eHs l) = true := D.okss_map _ l fun _ _ => rfl
end Go.Proofs.Ytnpjjkeokcoedaa

namespace Go.Proofs.Ytnpjjkeokcoedaa
open Go.RowKit

def sgn (x y : Int) : Int := if x < y then -1 else if y < x then 1 else 0
def orl (a b : Int) : Int := if a = 0 then b else a
@[simp] theorem orl_zero (b : Int) : orl 0 b = b := by simp [orl]
@[simp] theorem orl_zero_right (a : Int) : orl a 0 = a := by unfold orl; split <;> simp_all
namespace Ty
mutual
def cmp : Ty → Ty → Int
  | .mk l b, .mk l' b' => orl (orl (orl (sgn (Ty.sizes l + 1 : Nat) (Ty.sizes l' + 1 : Nat)) (sgn (l.length : Nat) (l'.length : Nat))) (cmps l l')) (sgn b b')
def cmps : List Ty → List Ty → Int
  | [], _ => 0
  | _ :: _, [] => 0
  | t :: l, u :: l' => orl (cmp t u) (cmps l l')
end
@[simp] theorem cmps_nil (l : List Ty) : cmps [] l = 0 := by rw [cmps]

end Ty
end Go.Proofs.Ytnpjjkeokcoedaa

namespace Go.Proofs.Ytnpjjkeokcoedaa
open Go.RowKit

namespace Tm
def cmpB (l l' : List Ty) : Int := orl (sgn (l.length : Nat) (l'.length : Nat)) (Ty.cmps l l')
mutual
def cmp : Tm → Tm → Int
  | .mk b k i a, .mk b' k' i' a' => orl (sgn (Tm.sizes a + 1 : Nat) (Tm.sizes a' + 1 : Nat)) (orl (cmpB b b') (orl (sgn k k') (orl (sgn i i') (orl (sgn (a.length : Nat) (a'.length : Nat)) (cmps a a')))))
def cmps : List Tm → List Tm → Int
  | [], _ => 0
  | _ :: _, [] => 0
  | t :: l, u :: l' => orl (cmp t u) (cmps l l')
end
@[simp] theorem cmps_nil (l : List Tm) : cmps [] l = 0 := by rw [cmps]
end Tm
end Go.Proofs.Ytnpjjkeokcoedaa

namespace Go.Proofs.Ytnpjjkeokcoedaa
open Go.RowKit

end Go.Proofs.Ytnpjjkeokcoedaa

namespace Go.Proofs.Ytnpjjkeokcoedaa
open Go.RowKit

namespace Ty
end Ty

end Go.Proofs.Ytnpjjkeokcoedaa

namespace Go.Proofs.Ytnpjjkeokcoedaa
open Go.RowKit

set_option maxRecDepth 100000 in
theorem size6_r : ∀ t : Tm, ∀ {F : Nat → Prop} {w0 : World} {b k i a : Value} (_ : IsTm F w0 b k i a t) (w : World), t.size ≤ 1000000 → Keep F w0 w → Calls Try.prog 22 #[.agg #[b, k, i, a]] w (RetI t.size w) := Tm.ind fun binds k0 i0 args ih => by
  intro F w0 b k i a ht w hsz hw
  obtain ⟨pa, pc, qa, qc, rfl, rfl, rfl, rfl⟩ := ht.shape
  simp only [Tm.binds, Tm.kind, Tm.index, Tm.args] at ht ⊢
  obtain ⟨_, _, _, hsl⟩ := ht.inv
  simp only [Tm.args] at hsl
  obtain ⟨_, hm, bl, off, PA, A, PN, PC, N', C, Kd, Ix, ha, h1, h2, h3, h4, h5⟩ := sl_cells6 hsl
  clear ht hsl hm
  have hlen : args.length ≤ 1000000 := by have := Tm.len_sizes args; rw [Tm.size_eq] at hsz; omega
  have Hsz : Hid (∀ i (h : i < args.length), args[i].size ≤ 1000000 ∧ Tm.sizes (args.take i) + args[i].size ≤ 1000000) := fun i h => by
    have := Tm.sizes_take args i h; have := Tm.sizes_take_le args (i + 1); rw [Tm.size_eq] at hsz; omega
  have Hend : Hid ((Tm.mk binds k0 i0 args).size = Tm.sizes args + 1) := Tm.size_eq _ _ _ _
  have Hih := Lib.hid ih; clear ih hsz
  go_enter Try.func22, Try.ntmps22
  go_wp2_with fail
  go_loopw [3, 4] (fun x i wr => ∃ k : Nat, i = .int .i64 k ∧ x = .int .i64 ((Tm.sizes (args.take k) : Int) + 1) ∧ k ≤ args.length ∧ Below w.heap.size w wr ∧ Blk wr w.heap.size #[.slice pa binds.length pc, .int .i64 k0, .int .i64 i0, .slice qa args.length qc] 29) (fun _ i _ => args.length - (intOf i).toNat)
  case atStart => exact ⟨0, rfl, rfl, by omega, (Below.refl _ _).alloc (Nat.le_refl _) _, Blk.new _ _ _ rfl⟩
  case round =>
    obtain ⟨k, rfl, rfl, hk, hb, hbox⟩ := hrel
    have c0 : wr.cell? ⟨w.heap.size, 3, none⟩ = some (.slice qa args.length qc) := hbox.cell rfl
    have hlt0 := hbox.lt
    by_cases hlt : k < args.length
    · obtain ⟨rfl, hF⟩ := ha (by omega)
      have e1 := (hw.below hb) _ _ _ hF (h1 k hlt)
      have e2 := (hw.below hb) _ _ _ hF (h2 k hlt)
      have e3 := (hw.below hb) _ _ _ hF (h3 k hlt)
      have e4 := (hw.below hb) _ _ _ hF (h4 k hlt)
      have hs : Tm.sizes (args.take k) ≤ 1000000 ∧ args[k].size ≤ 1000000 := by have := Hsz.out k hlt; omega
      go_wp2_with fail
      refine (Hih.out _ (List.getElem_mem hlt) (h5 k hlt) _ (Hsz.out k hlt).1 (hw.below hb)).mono ?_
      rintro e w1 ⟨rfl, hb1⟩
      go_wp2_with fail
      go_roundw
      case rel => exact ⟨k + 1, by go_num, by rw [Tm.sizes_take _ _ hlt]; go_num, by omega, hb.trans (hb1.mono (by omega)), hbox.below hb1⟩
      case measure => simp [intOf]; omega
    · go_wp2_with fail
      go_ret
      refine ⟨?_, hb⟩
      rw [Hend.out, List.take_of_length_le (by omega)]; rfl

end Go.Proofs.Ytnpjjkeokcoedaa

namespace Go.Proofs.Ytnpjjkeokcoedaa
open Go.RowKit

def headTy (C M X : List Ty) (k i : Int) : Option Ty :=
  if i < 0 then none else if k = 0 then X.reverse[i.toNat]? else if k = 1 then C[i.toNat]? else if k = 2 then M[i.toNat]? else none
theorem headTy_neg {C M X : List Ty} {k i : Int} (h : i < 0) : headTy C M X k i = none := by rw [headTy, if_pos h]
theorem headTy_0 {C M X : List Ty} (i : Nat) : headTy C M X 0 i = X.reverse[i]? := by rw [headTy, if_neg (by omega), if_pos rfl]; rfl
theorem headTy_1 {C M X : List Ty} (i : Nat) : headTy C M X 1 i = C[i]? := by rw [headTy, if_neg (by omega), if_neg (by decide), if_pos rfl]; rfl
theorem headTy_2 {C M X : List Ty} (i : Nat) : headTy C M X 2 i = M[i]? := by rw [headTy, if_neg (by omega), if_neg (by decide), if_neg (by decide), if_pos rfl]; rfl
theorem headTy_o {C M X : List Ty} {k i : Int} (h0 : k ≠ 0) (h1 : k ≠ 1) (h2 : k ≠ 2) : headTy C M X k i = none := by
  rw [headTy, if_neg h0, if_neg h1, if_neg h2]; split <;> rfl

def tyZ : Ty := .mk [] 0
theorem sl_at {G F : Nat → Prop} {w : World} {a : Option Addr} {n c : Nat} {l : List Ty} (h : IsSl2 rpTy G F w (.slice a n c) l) (j : Nat) (hj : j < l.length) : ∃ bl off A N C B, a = some ⟨bl, off, none⟩ ∧ G bl ∧
    w.cell? ⟨bl, off + j * 2, none⟩ = some (.slice A N C) ∧ w.cell? ⟨bl, off + j * 2 + 1, none⟩ = some (.int .i64 B) ∧ IsTy F w (.slice A N C) (.int .i64 B) l[j] := by
  obtain ⟨a', c', bl, off, X, hv, _, ha, h1, h2⟩ := h
  cases hv
  obtain ⟨ha, hG⟩ := ha (by omega)
  obtain ⟨s, b, hx, ht⟩ := h2 j hj
  obtain ⟨sa, sc, rfl, rfl⟩ := ht.shape
  exact ⟨bl, off, _, _, _, _, ha, hG, h1 j 0 _ hj (by rw [hx]; rfl), h1 j 1 _ hj (by rw [hx]; rfl), ht⟩

end Go.Proofs.Ytnpjjkeokcoedaa

namespace Go.Proofs.Ytnpjjkeokcoedaa
open Go.RowKit

end Go.Proofs.Ytnpjjkeokcoedaa

namespace Go.Proofs.Ytnpjjkeokcoedaa
open Go.RowKit

mutual
def IsOf (C M : List Ty) : Tm → List Ty → Ty → Prop
  | .mk b k i a, X, u => b = u.args ∧ ∃ h, headTy C M (X ++ b) k i = some h ∧ h.base = u.base ∧ IsOfs C M a (X ++ b) h.args
def IsOfs (C M : List Ty) : List Tm → List Ty → List Ty → Prop
  | [], _, [] => True
  | [], _, _ :: _ => False
  | _ :: _, _, [] => False
  | t :: l, X, u :: l' => IsOf C M t X u ∧ IsOfs C M l X l'
end
theorem isOf_mk {C M : List Ty} {b : List Ty} {k i : Int} {a : List Tm} {X : List Ty} {u : Ty} : IsOf C M (.mk b k i a) X u ↔ b = u.args ∧ ∃ h, headTy C M (X ++ b) k i = some h ∧ h.base = u.base ∧ IsOfs C M a (X ++ b) h.args := by rw [IsOf]
theorem isOfs_iff {C M : List Ty} {X : List Ty} : ∀ {l : List Tm} {l' : List Ty}, IsOfs C M l X l' ↔ l'.length = l.length ∧ ∀ i (h : i < l.length) (h' : i < l'.length), IsOf C M l[i] X l'[i]
  | [], [] => by simp [IsOfs]
  | [], _ :: _ => by simp [IsOfs]
  | _ :: _, [] => by simp [IsOfs]
  | t :: l, u :: l' => by
    rw [IsOfs, isOfs_iff]
    constructor
    · rintro ⟨h1, h2, h3⟩
      refine ⟨by simp [h2], fun i h h' => ?_⟩
      cases i with
      | zero => exact h1
      | succ i => exact h3 i (by simpa using h) (by simpa using h')
    · rintro ⟨h1, h2⟩
      exact ⟨h2 0 (by simp) (by simp), by simpa using h1, fun i h h' => h2 (i + 1) (by simpa using h) (by simpa using h')⟩
end Go.Proofs.Ytnpjjkeokcoedaa

namespace Go.Proofs.Ytnpjjkeokcoedaa
open Go.RowKit

theorem IsSl.bel {α : Type} {r : Rp α} {F : Nat → Prop} {w w' : World} {v : Value} {l : List α} (h : IsSl r F w v l) (hb : Below w.heap.size w w') : IsSl r F w' v l := h.keep ((Keep.refl _ _).below hb)
end Go.Proofs.Ytnpjjkeokcoedaa

namespace Go.Proofs.Ytnpjjkeokcoedaa
open Go.RowKit

end Go.Proofs.Ytnpjjkeokcoedaa

namespace Go.Proofs.Ytnpjjkeokcoedaa
open Go.RowKit

end Go.Proofs.Ytnpjjkeokcoedaa

namespace Go.Proofs.Ytnpjjkeokcoedaa
open Go.RowKit

def checkCode (C M : List Ty) (t : Tm) (X : List Ty) (u : Ty) (c : Int) : Prop := (¬ (t.size ≤ 5000 ∧ t.depth ≤ 60) ∧ c = 2) ∨ ((t.size ≤ 5000 ∧ t.depth ≤ 60) ∧ ¬ IsOf C M t X u ∧ c = 5) ∨ ((t.size ≤ 5000 ∧ t.depth ≤ 60) ∧ IsOf C M t X u ∧ c = 0)
end Go.Proofs.Ytnpjjkeokcoedaa

namespace Go.Proofs.Ytnpjjkeokcoedaa
open Go.RowKit
namespace Li
def bad (M : List Ty) (x : Int) : Bool := decide (x < 0 ∨ (M.length : Int) ≤ x)
end Li
end Go.Proofs.Ytnpjjkeokcoedaa

namespace Go.Proofs.Ytnpjjkeokcoedaa
open Go.RowKit

end Go.Proofs.Ytnpjjkeokcoedaa

namespace Go.Proofs.Ytnpjjkeokcoedaa
open Go.RowKit

end Go.Proofs.Ytnpjjkeokcoedaa

namespace Go.Proofs.Ytnpjjkeokcoedaa
open Go.RowKit

end Go.Proofs.Ytnpjjkeokcoedaa

namespace Go.Proofs.Ytnpjjkeokcoedaa
open Go.RowKit

def RightTy (bases : Int) (t : Ty) : Prop := t.size ≤ 1000 ∧ t.depth ≤ 60 ∧ Ty.Low bases t

set_option maxRecDepth 100000 in
theorem rightWorld1_k {F : Nat → Prop} {w : World} {s d : Value} {t : Ty} {b : Int} {B : Nat} (ht : IsTy F w s d t) (hz : t.size ≤ 400000) (hB : w.cell? ⟨B, 0, none⟩ = some (.int .i64 b)) :
    Calls Try.prog 47 #[.agg #[s, d], .pointer (some ⟨B, 0, none⟩)] w (RetB (¬ RightTy b t) w) := by
  have Hr := Lib.hid fun (w' : World) (hb : Below w.heap.size w w') => right_k (ht.bel hb) b (by omega)
  obtain ⟨a, c, rfl, rfl⟩ := ht.shape
  clear ht
  obtain ⟨n1, hn1⟩ : ∃ n, t.args.length = n := ⟨_, rfl⟩
  obtain ⟨n2, hn2⟩ : ∃ n, t.base = n := ⟨_, rfl⟩
  rw [hn1, hn2] at Hr ⊢
  clear hn1 hn2
  have hl := Keep.lt hB
  go_enter Try.func47, Try.ntmps47
  go_wp2_with fail
  have hb1 : Below w.heap.size w (w.alloc (.cells #[.slice a n1 c, .int .i64 n2] 52)) := (Below.refl _ _).alloc (Nat.le_refl _) _
  refine (Hr.out _ hb1).mono ?_
  intro e w2 h
  obtain ⟨r, Hq, rfl, hb2⟩ := of_retB' h
  clear h
  go_wp2_with fail
  go_ret
  exact ⟨_, by have := Hq.out; unfold RightTy; cases r <;> simp_all, rfl, hb1.trans (hb2.mono hb1.size)⟩

set_option maxRecDepth 100000 in
theorem indexFunc_k {G F : Nat → Prop} {w : World} {v : Value} {l : List Ty} {b : Int} {B : Nat} (h : IsSl2 rpTy G F w v l) (hz : ∀ t ∈ l, t.size ≤ 400000) (hB : w.cell? ⟨B, 0, none⟩ = some (.int .i64 b)) :
    Calls Try.prog 58 #[v, .func (.func 47) #[] #[.pointer (some ⟨B, 0, none⟩)]] w fun e w' => ∃ i : Int, Hid (0 ≤ i ↔ ∃ t ∈ l, ¬ RightTy b t) ∧ e = .returned (.int .i64 i) ∧ Below w.heap.size w w' := by
  obtain ⟨a, c, rfl⟩ := h.shape
  have Hat := Lib.hid (sl_at h)
  have hl : (l.length : Int) ≤ 9223372036854775807 := by obtain ⟨_, _, _, _, _, _, hm, _⟩ := h; unfold maxLen at hm; omega
  clear h
  have Hz := Lib.hid hz; clear hz
  go_enter Try.func58, Try.ntmps58
  go_wp2_with fail
  go_loopw [5, 8] (fun _ i wr => ∃ k : Nat, i = .int .i64 k ∧ k ≤ l.length ∧ Hid (∀ m (h : m < l.length), m < k → RightTy b l[m]) ∧ Below w.heap.size w wr) (fun _ i _ => l.length - (intOf i).toNat)
  case atStart => exact ⟨0, rfl, by omega, fun m _ h => absurd h (by omega), Below.refl _ _⟩
  case round =>
    obtain ⟨k, rfl, hk, hrel, hb⟩ := hrel
    by_cases hlt : k < l.length
    · obtain ⟨bl, off, A, N, C, Bb, rfl, _, e1, e2, hT⟩ := Hat.out k hlt
      have hkx : Keep (fun _ => True) w wr := (Keep.refl _ _).below hb
      have e1 := hkx _ _ _ trivial e1
      have e2 := hkx _ _ _ trivial e2
      have HT := Lib.hid (hT.bel hb); clear hT
      have i1 : (k : Int) < (l.length : Int) := by omega
      have HB := Lib.hid (hkx _ _ _ trivial hB)
      clear hkx
      go_wp2_with fail
      refine (rightWorld1_k HT.out (Hz.out _ (List.getElem_mem hlt)) HB.out).mono ?_
      intro e w2 h
      obtain ⟨r, Hq, rfl, hb2⟩ := of_retB' h
      clear h e1 e2
      cases r
      · have Hq2 := Lib.hid (no_of Hq.out)
        go_wp2_with fail
        go_roundw
        case rel => exact ⟨k + 1, by go_num, by omega, fun m h hm => by
          by_cases hmk : m < k
          · exact hrel.out m h hmk
          · obtain rfl : m = k := by omega
            exact Classical.not_not.1 Hq2.out, hb.trans (hb2.mono hb.size)⟩
        case measure => simp [intOf]; omega
      · have Hq2 := Lib.hid (yes_of Hq.out)
        go_wp2_with fail
        go_ret
        exact ⟨_, ⟨fun _ => ⟨_, List.getElem_mem hlt, Hq2.out⟩, fun _ => by omega⟩, rfl, hb.trans (hb2.mono hb.size)⟩
    · go_wp2_with fail
      go_ret
      refine ⟨_, ⟨fun h => absurd h (by omega), fun ⟨t, ht, hn⟩ => ?_⟩, rfl, hb⟩
      obtain ⟨m, hm, rfl⟩ := List.getElem_of_mem ht
      exact absurd (hrel.out m hm (by omega)) hn

set_option maxRecDepth 100000 in
theorem containsFunc_k {G F : Nat → Prop} {w : World} {v : Value} {l : List Ty} {b : Int} {B : Nat} (h : IsSl2 rpTy G F w v l) (hz : ∀ t ∈ l, t.size ≤ 400000) (hB : w.cell? ⟨B, 0, none⟩ = some (.int .i64 b)) :
    Calls Try.prog 45 #[v, .func (.func 47) #[] #[.pointer (some ⟨B, 0, none⟩)]] w (RetB (∃ t ∈ l, ¬ RightTy b t) w) := by
  have Hi := Lib.hid (indexFunc_k h hz hB)
  obtain ⟨a, c, rfl⟩ := h.shape
  clear h hz hB
  go_enter Try.func45, Try.ntmps45
  go_wp2_with fail
  refine Hi.out.mono ?_
  rintro e w1 ⟨i, hi, rfl, hb⟩
  go_wp2_with fail
  go_ret
  exact ⟨_, by rw [← hi.out]; simp, rfl, hb⟩

def RightWd (b : Int) (C M : List Ty) : Prop := C.length + M.length ≤ 1000 ∧ ∀ t ∈ C ++ M, RightTy b t

set_option maxRecDepth 100000 in
set_option maxHeartbeats 1000000 in
theorem RightWorld_k {F : Nat → Prop} {w : World} {b : Int} {cv mv : Value} {C M : List Ty} (hc : IsSl rpTy F w cv C) (hm : IsSl rpTy F w mv M) (hz : ∀ t ∈ C ++ M, t.size ≤ 400000) :
    Calls Try.prog 28 #[.agg #[.int .i64 b, cv, mv]] w (RetB (RightWd b C M) w) := by
  obtain ⟨ca, cc, rfl⟩ := hc.shape
  obtain ⟨ma, mc, rfl⟩ := hm.shape
  have hlc : (C.length : Int) ≤ 9223372036854775807 := by obtain ⟨_, _, _, _, _, _, h, _⟩ := hc; unfold maxLen at h; omega
  have hlm : (M.length : Int) ≤ 9223372036854775807 := by obtain ⟨_, _, _, _, _, _, h, _⟩ := hm; unfold maxLen at h; omega
  have Hc := Lib.hid hc; have Hm := Lib.hid hm; have Hz := Lib.hid hz
  clear hc hm hz
  by_cases g1 : (1000 : Int) < (C.length : Int)
  · skip
    go_enter Try.func28, Try.ntmps28
    go_wp2_with fail
    go_ret
    exact ⟨false, by unfold RightWd; simp; omega, rfl, (Below.refl _ _).alloc (Nat.le_refl _) _⟩
  have hq : IntKind.i64.wrap (1000 - (C.length : Int)) = 1000 - (C.length : Int) := IntWalk.i64_in _ (by omega)
  by_cases g2 : 1000 - (C.length : Int) < (M.length : Int)
  · skip
    go_enter Try.func28, Try.ntmps28
    go_wp2_with fail
    go_ret
    exact ⟨false, by unfold RightWd; simp; omega, rfl, (Below.refl _ _).alloc (Nat.le_refl _) _⟩
  go_enter Try.func28, Try.ntmps28
  go_wp2_with fail
  obtain ⟨w2, hw2⟩ : ∃ w2, (w.alloc (.cells #[.int .i64 b, .slice ca C.length cc, .slice ma M.length mc] 38)).alloc (.cells #[.slice ca C.length cc, .slice ma M.length mc] 36) = w2 := ⟨_, rfl⟩
  have B2 : Below w.heap.size w w2 := by rw [← hw2]; exact ((Below.refl _ _).alloc (Nat.le_refl _) _).alloc (by simp) _
  have x0 : Blk w2 w.heap.size #[.int .i64 b, .slice ca C.length cc, .slice ma M.length mc] 38 := by rw [← hw2]; exact (Blk.new _ _ _ rfl).alloc _
  have x1 : Blk w2 (w.heap.size + 1) #[.slice ca C.length cc, .slice ma M.length mc] 36 := by rw [← hw2]; exact Blk.new _ _ _ (by simp)
  rw [hw2]
  clear hw2
  refine (concat_any2 x1 (IsSl2.of (Hc.out.bel B2)) (IsSl2.of (Hm.out.bel B2)) (by omega)).mono ?_
  rintro e w3 ⟨a3, c3, rfl, hT, hb3⟩
  have HT := Lib.hid hT; clear hT
  have x0' := x0.below hb3
  have B3 := B2.trans (hb3.mono B2.size)
  obtain ⟨Y, hY⟩ : ∃ Y, C ++ M = Y := ⟨_, rfl⟩
  have HY := Lib.hid hY
  rw [hY] at HT Hz ⊢
  clear hY
  go_wp2_with fail
  refine (containsFunc_k HT.out Hz.out (x0'.cell rfl)).mono ?_
  intro e w4 h
  obtain ⟨r, Hq, rfl, hb4⟩ := of_retB' h
  clear h
  go_wp2_with fail
  go_ret
  refine ⟨_, ?_, rfl, B3.trans (hb4.mono B3.size)⟩
  have h2 : (r = true ↔ ∃ t ∈ Y, ¬ RightTy b t) := Hq.out
  have h3 : C.length + M.length ≤ 1000 := by omega
  unfold RightWd
  rw [HY.out]
  cases r
  · simp only [Bool.not_false, true_iff]
    refine ⟨h3, fun t ht => Classical.not_not.1 fun hn => ?_⟩
    exact absurd (h2.2 ⟨t, ht, hn⟩) (by simp)
  · simp only [Bool.not_true, Bool.false_eq_true, false_iff]
    rintro ⟨_, h⟩
    obtain ⟨t, ht, hn⟩ := h2.1 rfl
    exact hn (h t ht)
end Go.Proofs.Ytnpjjkeokcoedaa

namespace Go.Proofs.Ytnpjjkeokcoedaa
open Go.RowKit

end Go.Proofs.Ytnpjjkeokcoedaa

namespace Go.Proofs.Ytnpjjkeokcoedaa
open Go.RowKit

section
variable {w : World} {b : Int} {cv mv xv tb tk ti ta s ub : Value} {C M X : List Ty} {t : Tm} {u : Ty}
end
end Go.Proofs.Ytnpjjkeokcoedaa

namespace Go.Proofs.Ytnpjjkeokcoedaa
open Go.RowKit

theorem isTrue {F : Nat → Prop} {w : World} {v : Value} {l : List Ty} (h : IsSl rpTy F w v l) : IsSl rpTy (fun _ => True) w v l := h.weaken (by decide) fun _ _ _ => trivial
theorem slTy9 {m : Mp} {Im : Nat → Nat → Prop} {w : World} {v : Value} {l : List Ty} (h : Rel m Im w v (.sl 2 (eTys l) none)) : IsSl rpTy (fun _ => True) w v l :=
  isTrue (sl_of_rel (r := rpTy) (e := eTy) eTy_len (fun x t hx _ => ty_of_rel t hx) (by decide) (by rw [eTys_map] at h; exact h))
theorem agWorld {m : Mp} {Im : Nat → Nat → Prop} {w : World} {x : Value} {b : Int} {C M : List Ty} (h : Rel m Im w x (.ag [.v (.int .i64 b), .sl 2 (eTys C) none, .sl 2 (eTys M) none])) : ∃ cv mv, x = .agg #[.int .i64 b, cv, mv] ∧ IsSl rpTy (fun _ => True) w cv C ∧ IsSl rpTy (fun _ => True) w mv M := by
  obtain ⟨cs, rfl, hr⟩ := rel_ag.1 h
  match cs, hr with
  | [x, y, z], hr =>
    have := rel_v.1 hr.1; subst this
    exact ⟨y, z, rfl, slTy9 hr.2.1, slTy9 hr.2.2.1⟩
theorem tyZ_eq : eTy tyZ = [.sl 2 [] none, .v (.int .i64 0)] := rfl
end Go.Proofs.Ytnpjjkeokcoedaa

namespace Go.Proofs.Ytnpjjkeokcoedaa
open Go.RowKit
def TRT6_52 : TI := ⟨2, true, [Value.slice none 0 0, Value.int IntKind.i64 0], [(0, 1, false), (1, 1, false)], none, 32, 6, none, false⟩
theorem TRT6_52_ok : TypOk Try.prog 52 TRT6_52 := ⟨by kernel_rfl, by kernel_rfl, by kernel_rfl, by kernel_rfl, by kernel_rfl⟩
def TRT6_36 : TI := ⟨1, false, [Value.slice none 0 0], [], some 52, 24, 5, none, false⟩
theorem TRT6_36_ok : TypOk Try.prog 36 TRT6_36 := ⟨by kernel_rfl, by kernel_rfl, by kernel_rfl, by kernel_rfl, by kernel_rfl⟩
def TRT6_3 : TI := ⟨1, false, [Value.int IntKind.i64 0], [], none, 8, 2, none, false⟩
theorem TRT6_3_ok : TypOk Try.prog 3 TRT6_3 := ⟨by kernel_rfl, by kernel_rfl, by kernel_rfl, by kernel_rfl, by kernel_rfl⟩
def TRT6_43 : TI := ⟨4, true, [Value.slice none 0 0, Value.int IntKind.i64 0, Value.int IntKind.i64 0, Value.slice none 0 0], [(0, 1, false), (1, 2, true), (3, 1, false)], none, 64, 6, none, false⟩
theorem TRT6_43_ok : TypOk Try.prog 43 TRT6_43 := ⟨by kernel_rfl, by kernel_rfl, by kernel_rfl, by kernel_rfl, by kernel_rfl⟩
def TRT6_38 : TI := ⟨3, true, [Value.int IntKind.i64 0, Value.slice none 0 0, Value.slice none 0 0], [(0, 1, false), (1, 1, false), (2, 1, false)], none, 56, 6, none, false⟩
theorem TRT6_38_ok : TypOk Try.prog 38 TRT6_38 := ⟨by kernel_rfl, by kernel_rfl, by kernel_rfl, by kernel_rfl, by kernel_rfl⟩
def TRT6_40 : TI := ⟨2, true, [Value.int IntKind.i64 0, Value.int IntKind.i64 0], [(0, 1, false), (1, 1, false)], none, 16, 6, none, true⟩
theorem TRT6_40_ok : TypOk Try.prog 40 TRT6_40 := ⟨by kernel_rfl, by kernel_rfl, by kernel_rfl, by kernel_rfl, by kernel_rfl⟩
def TRT6_41 : TI := ⟨1, false, [Value.slice none 0 0], [], some 43, 24, 5, none, false⟩
theorem TRT6_41_ok : TypOk Try.prog 41 TRT6_41 := ⟨by kernel_rfl, by kernel_rfl, by kernel_rfl, by kernel_rfl, by kernel_rfl⟩
def TRT6_111 : TI := ⟨1, false, [Value.slice none 0 0], [], some 36, 24, 5, none, false⟩
theorem TRT6_111_ok : TypOk Try.prog 111 TRT6_111 := ⟨by kernel_rfl, by kernel_rfl, by kernel_rfl, by kernel_rfl, by kernel_rfl⟩
def TRT6_59 : TI := ⟨1, false, [Value.nilFunc], [], none, 8, 8, none, false⟩
theorem TRT6_59_ok : TypOk Try.prog 59 TRT6_59 := ⟨by kernel_rfl, by kernel_rfl, by kernel_rfl, by kernel_rfl, by kernel_rfl⟩
def TRT6 : List (Nat × TI) := [(52, TRT6_52), (36, TRT6_36), (3, TRT6_3), (43, TRT6_43), (38, TRT6_38), (40, TRT6_40), (41, TRT6_41), (111, TRT6_111), (59, TRT6_59)]
theorem TRT6_ok : TabOk Try.prog TRT6 := ((((((((((TabOk.nil _).cons TRT6_59_ok).cons TRT6_111_ok).cons TRT6_41_ok).cons TRT6_40_ok).cons TRT6_38_ok).cons TRT6_43_ok).cons TRT6_3_ok).cons TRT6_36_ok).cons TRT6_52_ok)
def tyOf (C M : List Ty) (t : Tm) : Option Ty := (headTy C M ([] ++ t.binds) t.kind t.index).map fun h => .mk t.binds h.base
theorem isOf_no {C M X : List Ty} {b : List Ty} {k i : Int} {a : List Tm} {u : Ty} (h : ∀ x, headTy C M (X ++ b) k i = some x → b = u.args → x.base = u.base → x.args.length = a.length → False) : ¬ IsOf C M (.mk b k i a) X u := fun hi => by
  obtain ⟨h1, x, h2, h3, h4⟩ := isOf_mk.1 hi
  exact h x h2 h1 h3 (isOfs_iff.1 h4).1
theorem within_d (l r : List Ty) (h : l.length + r.length ≤ 800000) : PureC Try.prog 37 [.sl 2 (eTys l) none, .sl 2 (eTys r) none] (.sl 2 (eTys (l ++ r)) none) := by
 have hcat := concat_d [l, r] (by simp [lens]; omega) (by simp)
 simp only [List.flatten_cons, List.flatten_nil, List.append_nil] at hcat
 refine calldw 0 9 [ResultVar.tmp 4] TRT6_ok Try.func37 rfl Try.ntmps37 rfl fun cx hnt hn0 => ?_
 ·skip
  refine dw_seq ?_; refine dwk [] TRT6_ok hnt fun K hK => ?_; refine hK _ _ ?_; clear hK K; refine dw_seq ?_; refine dwk [(7, .sl 1 (eTyss [l, r]) none)] TRT6_ok hnt fun K hK => ?_; refine And.intro (VLe.untag _ _ _) ?_; refine dcl (hcat) ?_; refine hK _ _ ?_; clear hK K; refine dw_ret ?_
  exact reta rfl
set_option maxHeartbeats 2000000 in
theorem theadA_d (b : Int) (C M X : List Ty) (k i : Int) (hi : i ≤ 9223372036854775807) (hC : C.length ≤ 1000000) (hM : M.length ≤ 1000000) (hX : X.length ≤ 1000000) : PureC Try.prog 36 [.ag [.v (.int .i64 b), .sl 2 (eTys C) none, .sl 2 (eTys M) none], .sl 2 (eTys X) none, .ag [.v (.int .i64 k), .v (.int .i64 i)]] (.tu [.ag (eTy ((headTy C M X k i).getD tyZ)), .v (.bool (headTy C M X k i).isSome)]) := by
 by_cases k1 : k = 1
 ·skip
  subst k1
  by_cases hn : i < 0
  ·rw [headTy_neg hn]
   simp only [Option.getD_none, Option.isSome_none]
   rw [tyZ_eq]
   refine calldw 0 51 [ResultVar.cell 6 52, ResultVar.tmp 7] TRT6_ok Try.func36 rfl Try.ntmps36 rfl fun cx hnt hn0 => ?_
   ·skip
    refine dw_seq ?_; refine dwk [] TRT6_ok hnt fun K hK => ?_; refine hK _ _ ?_; clear hK K; refine dw_seq ?_; refine dwk [] TRT6_ok hnt fun K hK => ?_; refine hK _ _ ?_; clear hK K; refine dw_seq ?_; refine dwk [] TRT6_ok hnt fun K hK => ?_; refine hK _ _ ?_; clear hK K; refine dw_seq ?_; refine dw_seq ?_; refine dwk [] TRT6_ok hnt fun K hK => ?_; refine hK _ _ ?_; clear hK K; refine dw_block ?_; refine dw_seq ?_
    refine dwk [(21, .v (.bool true))] TRT6_ok hnt fun K hK => ?_; refine And.intro (VLe.refl _) ?_; refine hK _ _ ?_; clear hK K; refine dw_cond (t := true) rfl ?_; rw [if_pos rfl]; refine dwkD [] TRT6_ok hnt fun K hK => ?_; refine hK _ _ (by kernel_rfl) ?_; clear hK K; refine dw_seq ?_; refine dw_seq ?_; refine dwk [(39, .v (.bool true))] TRT6_ok hnt fun K hK => ?_; refine And.intro auT ?_; refine hK _ _ ?_; clear hK K
    refine dw_cond (t := true) rfl ?_; rw [if_pos rfl]; refine dw_seq ?_; refine dwk [] TRT6_ok hnt fun K hK => ?_; refine hK _ _ ?_; clear hK K; refine dw_ret ?_
    exact reta rfl
  ·obtain ⟨n, rfl⟩ := Int.eq_ofNat_of_zero_le (Int.not_lt.1 hn)
   rw [headTy_1]
   by_cases hl : n < C.length
   ·rw [List.getElem?_eq_getElem hl]
    simp only [Option.getD_some, Option.isSome_some]
    rw [eTy_eq]
    refine calldw 0 51 [ResultVar.cell 6 52, ResultVar.tmp 7] TRT6_ok Try.func36 rfl Try.ntmps36 rfl fun cx hnt hn0 => ?_
    ·skip
     refine dw_seq ?_; refine dwk [] TRT6_ok hnt fun K hK => ?_; refine hK _ _ ?_; clear hK K; refine dw_seq ?_; refine dwk [] TRT6_ok hnt fun K hK => ?_; refine hK _ _ ?_; clear hK K; refine dw_seq ?_; refine dwk [] TRT6_ok hnt fun K hK => ?_; refine hK _ _ ?_; clear hK K; refine dw_seq ?_; refine dw_seq ?_; refine dwk [] TRT6_ok hnt fun K hK => ?_; refine hK _ _ ?_; clear hK K; refine dw_block ?_; refine dw_seq ?_
     refine dwk [(21, .v (.bool true))] TRT6_ok hnt fun K hK => ?_; refine And.intro (VLe.refl _) ?_; refine hK _ _ ?_; clear hK K; refine dw_cond (t := true) rfl ?_; rw [if_pos rfl]; refine dwkD [] TRT6_ok hnt fun K hK => ?_; refine hK _ _ (by kernel_rfl) ?_; clear hK K; refine dw_seq ?_; refine dw_seq ?_; refine dwk [(39, .v (.bool false)), (43, .v (.int .i64 (↑C.length))), (44, .v (.bool false))] TRT6_ok hnt fun K hK => ?_
     refine And.intro auF ?_; refine And.intro (dintE (by rw [eTys_len])) ?_; refine And.intro auF ?_; refine hK _ _ ?_; clear hK K; refine dw_cond (t := false) rfl ?_; rw [if_neg (by simp)]; refine dw_skip ?_; refine dw_seq ?_; refine dwk [(49, .q [.sl 2 (eTys C[n].args) none, .v (.int .i64 C[n].base)])] TRT6_ok hnt fun K hK => ?_; refine And.intro (elo (eTys_len C)) ?_; refine And.intro (elv (eTys_getD C n) (eTy_eq _)) ?_
     refine hK _ _ ?_; clear hK K; refine dw_ret ?_
     exact reta rfl
   ·rw [List.getElem?_eq_none (by omega)]
    simp only [Option.getD_none, Option.isSome_none]
    rw [tyZ_eq]
    refine calldw 0 51 [ResultVar.cell 6 52, ResultVar.tmp 7] TRT6_ok Try.func36 rfl Try.ntmps36 rfl fun cx hnt hn0 => ?_
    ·skip
     refine dw_seq ?_; refine dwk [] TRT6_ok hnt fun K hK => ?_; refine hK _ _ ?_; clear hK K; refine dw_seq ?_; refine dwk [] TRT6_ok hnt fun K hK => ?_; refine hK _ _ ?_; clear hK K; refine dw_seq ?_; refine dwk [] TRT6_ok hnt fun K hK => ?_; refine hK _ _ ?_; clear hK K; refine dw_seq ?_; refine dw_seq ?_; refine dwk [] TRT6_ok hnt fun K hK => ?_; refine hK _ _ ?_; clear hK K; refine dw_block ?_; refine dw_seq ?_
     refine dwk [(21, .v (.bool true))] TRT6_ok hnt fun K hK => ?_; refine And.intro (VLe.refl _) ?_; refine hK _ _ ?_; clear hK K; refine dw_cond (t := true) rfl ?_; rw [if_pos rfl]; refine dwkD [] TRT6_ok hnt fun K hK => ?_; refine hK _ _ (by kernel_rfl) ?_; clear hK K; refine dw_seq ?_; refine dw_seq ?_; refine dwk [(39, .v (.bool false)), (43, .v (.int .i64 (↑C.length))), (44, .v (.bool true))] TRT6_ok hnt fun K hK => ?_
     refine And.intro auF ?_; refine And.intro (dintE (by rw [eTys_len])) ?_; refine And.intro auT ?_; refine hK _ _ ?_; clear hK K; refine dw_cond (t := true) rfl ?_; rw [if_pos rfl]; refine dw_seq ?_; refine dwk [] TRT6_ok hnt fun K hK => ?_; refine hK _ _ ?_; clear hK K; refine dw_ret ?_
     exact reta rfl
 by_cases k2 : k = 2
 ·skip
  subst k2
  by_cases hn : i < 0
  ·rw [headTy_neg hn]
   simp only [Option.getD_none, Option.isSome_none]
   rw [tyZ_eq]
   refine calldw 0 51 [ResultVar.cell 6 52, ResultVar.tmp 7] TRT6_ok Try.func36 rfl Try.ntmps36 rfl fun cx hnt hn0 => ?_
   ·skip
    refine dw_seq ?_; refine dwk [] TRT6_ok hnt fun K hK => ?_; refine hK _ _ ?_; clear hK K; refine dw_seq ?_; refine dwk [] TRT6_ok hnt fun K hK => ?_; refine hK _ _ ?_; clear hK K; refine dw_seq ?_; refine dwk [] TRT6_ok hnt fun K hK => ?_; refine hK _ _ ?_; clear hK K; refine dw_seq ?_; refine dw_seq ?_; refine dwk [] TRT6_ok hnt fun K hK => ?_; refine hK _ _ ?_; clear hK K; refine dw_block ?_; refine dw_seq ?_
    refine dwk [(21, .v (.bool false))] TRT6_ok hnt fun K hK => ?_; refine And.intro (VLe.refl _) ?_; refine hK _ _ ?_; clear hK K; refine dw_cond (t := false) rfl ?_; rw [if_neg (by simp)]; refine dw_seq ?_; refine dwk [(27, .v (.bool true))] TRT6_ok hnt fun K hK => ?_; refine And.intro (VLe.refl _) ?_; refine hK _ _ ?_; clear hK K; refine dw_cond (t := true) rfl ?_; rw [if_pos rfl]; refine dwkD [] TRT6_ok hnt fun K hK => ?_
    refine hK _ _ (by kernel_rfl) ?_; clear hK K; refine dw_seq ?_; refine dw_seq ?_; refine dwk [(39, .v (.bool true))] TRT6_ok hnt fun K hK => ?_; refine And.intro auT ?_; refine hK _ _ ?_; clear hK K; refine dw_cond (t := true) rfl ?_; rw [if_pos rfl]; refine dw_seq ?_; refine dwk [] TRT6_ok hnt fun K hK => ?_; refine hK _ _ ?_; clear hK K; refine dw_ret ?_
    exact reta rfl
  ·obtain ⟨n, rfl⟩ := Int.eq_ofNat_of_zero_le (Int.not_lt.1 hn)
   rw [headTy_2]
   by_cases hl : n < M.length
   ·rw [List.getElem?_eq_getElem hl]
    simp only [Option.getD_some, Option.isSome_some]
    rw [eTy_eq]
    refine calldw 0 51 [ResultVar.cell 6 52, ResultVar.tmp 7] TRT6_ok Try.func36 rfl Try.ntmps36 rfl fun cx hnt hn0 => ?_
    ·skip
     refine dw_seq ?_; refine dwk [] TRT6_ok hnt fun K hK => ?_; refine hK _ _ ?_; clear hK K; refine dw_seq ?_; refine dwk [] TRT6_ok hnt fun K hK => ?_; refine hK _ _ ?_; clear hK K; refine dw_seq ?_; refine dwk [] TRT6_ok hnt fun K hK => ?_; refine hK _ _ ?_; clear hK K; refine dw_seq ?_; refine dw_seq ?_; refine dwk [] TRT6_ok hnt fun K hK => ?_; refine hK _ _ ?_; clear hK K; refine dw_block ?_; refine dw_seq ?_
     refine dwk [(21, .v (.bool false))] TRT6_ok hnt fun K hK => ?_; refine And.intro (VLe.refl _) ?_; refine hK _ _ ?_; clear hK K; refine dw_cond (t := false) rfl ?_; rw [if_neg (by simp)]; refine dw_seq ?_; refine dwk [(27, .v (.bool true))] TRT6_ok hnt fun K hK => ?_; refine And.intro (VLe.refl _) ?_; refine hK _ _ ?_; clear hK K; refine dw_cond (t := true) rfl ?_; rw [if_pos rfl]; refine dwkD [] TRT6_ok hnt fun K hK => ?_
     refine hK _ _ (by kernel_rfl) ?_; clear hK K; refine dw_seq ?_; refine dw_seq ?_; refine dwk [(39, .v (.bool false)), (43, .v (.int .i64 (↑M.length))), (44, .v (.bool false))] TRT6_ok hnt fun K hK => ?_; refine And.intro auF ?_; refine And.intro (dintE (by rw [eTys_len])) ?_; refine And.intro auF ?_; refine hK _ _ ?_; clear hK K; refine dw_cond (t := false) rfl ?_; rw [if_neg (by simp)]; refine dw_skip ?_
     refine dw_seq ?_; refine dwk [(49, .q [.sl 2 (eTys M[n].args) none, .v (.int .i64 M[n].base)])] TRT6_ok hnt fun K hK => ?_; refine And.intro (elo (eTys_len M)) ?_; refine And.intro (elv (eTys_getD M n) (eTy_eq _)) ?_; refine hK _ _ ?_; clear hK K; refine dw_ret ?_
     exact reta rfl
   ·rw [List.getElem?_eq_none (by omega)]
    simp only [Option.getD_none, Option.isSome_none]
    rw [tyZ_eq]
    refine calldw 0 51 [ResultVar.cell 6 52, ResultVar.tmp 7] TRT6_ok Try.func36 rfl Try.ntmps36 rfl fun cx hnt hn0 => ?_
    ·skip
     refine dw_seq ?_; refine dwk [] TRT6_ok hnt fun K hK => ?_; refine hK _ _ ?_; clear hK K; refine dw_seq ?_; refine dwk [] TRT6_ok hnt fun K hK => ?_; refine hK _ _ ?_; clear hK K; refine dw_seq ?_; refine dwk [] TRT6_ok hnt fun K hK => ?_; refine hK _ _ ?_; clear hK K; refine dw_seq ?_; refine dw_seq ?_; refine dwk [] TRT6_ok hnt fun K hK => ?_; refine hK _ _ ?_; clear hK K; refine dw_block ?_; refine dw_seq ?_
     refine dwk [(21, .v (.bool false))] TRT6_ok hnt fun K hK => ?_; refine And.intro (VLe.refl _) ?_; refine hK _ _ ?_; clear hK K; refine dw_cond (t := false) rfl ?_; rw [if_neg (by simp)]; refine dw_seq ?_; refine dwk [(27, .v (.bool true))] TRT6_ok hnt fun K hK => ?_; refine And.intro (VLe.refl _) ?_; refine hK _ _ ?_; clear hK K; refine dw_cond (t := true) rfl ?_; rw [if_pos rfl]; refine dwkD [] TRT6_ok hnt fun K hK => ?_
     refine hK _ _ (by kernel_rfl) ?_; clear hK K; refine dw_seq ?_; refine dw_seq ?_; refine dwk [(39, .v (.bool false)), (43, .v (.int .i64 (↑M.length))), (44, .v (.bool true))] TRT6_ok hnt fun K hK => ?_; refine And.intro auF ?_; refine And.intro (dintE (by rw [eTys_len])) ?_; refine And.intro auT ?_; refine hK _ _ ?_; clear hK K; refine dw_cond (t := true) rfl ?_; rw [if_pos rfl]; refine dw_seq ?_; refine dwk [] TRT6_ok hnt fun K hK => ?_
     refine hK _ _ ?_; clear hK K; refine dw_ret ?_
     exact reta rfl
 by_cases k0 : k = 0
 ·subst k0
  by_cases hn : i < 0
  ·rw [headTy_neg hn]
   simp only [Option.getD_none, Option.isSome_none]
   rw [tyZ_eq]
   refine calldw 0 51 [ResultVar.cell 6 52, ResultVar.tmp 7] TRT6_ok Try.func36 rfl Try.ntmps36 rfl fun cx hnt hn0 => ?_
   ·skip
    refine dw_seq ?_; refine dwk [] TRT6_ok hnt fun K hK => ?_; refine hK _ _ ?_; clear hK K; refine dw_seq ?_; refine dwk [] TRT6_ok hnt fun K hK => ?_; refine hK _ _ ?_; clear hK K; refine dw_seq ?_; refine dwk [] TRT6_ok hnt fun K hK => ?_; refine hK _ _ ?_; clear hK K; refine dw_seq ?_; refine dw_seq ?_; refine dwk [] TRT6_ok hnt fun K hK => ?_; refine hK _ _ ?_; clear hK K; refine dw_block ?_; refine dw_seq ?_
    refine dwk [(21, .v (.bool false))] TRT6_ok hnt fun K hK => ?_; refine And.intro (VLe.refl _) ?_; refine hK _ _ ?_; clear hK K; refine dw_cond (t := false) rfl ?_; rw [if_neg (by simp)]; refine dw_seq ?_; refine dwk [(27, .v (.bool false))] TRT6_ok hnt fun K hK => ?_; refine And.intro (VLe.refl _) ?_; refine hK _ _ ?_; clear hK K; refine dw_cond (t := false) rfl ?_; rw [if_neg (by simp)]; refine dw_seq ?_
    refine dwk [(33, .v (.bool true))] TRT6_ok hnt fun K hK => ?_; refine And.intro (VLe.refl _) ?_; refine hK _ _ ?_; clear hK K; refine dw_cond (t := true) rfl ?_; rw [if_pos rfl]; refine dw_seq ?_; refine dwk [(36, .v (.bool true))] TRT6_ok hnt fun K hK => ?_; refine And.intro auT ?_; refine hK _ _ ?_; clear hK K; refine dw_cond (t := true) rfl ?_; rw [if_pos rfl]; refine dw_seq ?_; refine dwk [] TRT6_ok hnt fun K hK => ?_
    refine hK _ _ ?_; clear hK K; refine dw_ret ?_
    exact reta rfl
  ·obtain ⟨n, rfl⟩ := Int.eq_ofNat_of_zero_le (Int.not_lt.1 hn)
   rw [headTy_0]
   by_cases hl : n < X.length
   ·have hx : X.length - 1 - n < X.length := by omega
    rw [List.getElem?_reverse (by omega), List.getElem?_eq_getElem hx]
    simp only [Option.getD_some, Option.isSome_some]
    rw [eTy_eq]
    have hg : (eTys X).getD ((X.length : Int) - 1 - (n : Int)).toNat [] = [.sl 2 (eTys (X[X.length - 1 - n]).args) none, .v (.int .i64 (X[X.length - 1 - n]).base)] := by rw [show ((X.length : Int) - 1 - (n : Int)).toNat = X.length - 1 - n by omega, eTys_getD X _ hx, eTy_eq]
    refine calldw 0 51 [ResultVar.cell 6 52, ResultVar.tmp 7] TRT6_ok Try.func36 rfl Try.ntmps36 rfl fun cx hnt hn0 => ?_
    ·skip
     refine dw_seq ?_; refine dwk [] TRT6_ok hnt fun K hK => ?_; refine hK _ _ ?_; clear hK K; refine dw_seq ?_; refine dwk [] TRT6_ok hnt fun K hK => ?_; refine hK _ _ ?_; clear hK K; refine dw_seq ?_; refine dwk [(12, .v (.int .i64 (↑X.length))), (13, .v (.int .i64 ((↑X.length - 1)))), (16, .v (.int .i64 ((↑X.length - 1 - ↑n))))] TRT6_ok hnt fun K hK => ?_; refine And.intro (dintE (by rw [eTys_len])) ?_
     refine And.intro auI ?_; refine And.intro auI ?_; refine hK _ _ ?_; clear hK K; refine dw_seq ?_; refine dw_seq ?_; refine dwk [] TRT6_ok hnt fun K hK => ?_; refine hK _ _ ?_; clear hK K; refine dw_block ?_; refine dw_seq ?_; refine dwk [(21, .v (.bool false))] TRT6_ok hnt fun K hK => ?_; refine And.intro (VLe.refl _) ?_; refine hK _ _ ?_; clear hK K; refine dw_cond (t := false) rfl ?_; rw [if_neg (by simp)]
     refine dw_seq ?_; refine dwk [(27, .v (.bool false))] TRT6_ok hnt fun K hK => ?_; refine And.intro (VLe.refl _) ?_; refine hK _ _ ?_; clear hK K; refine dw_cond (t := false) rfl ?_; rw [if_neg (by simp)]; refine dw_seq ?_; refine dwk [(33, .v (.bool true))] TRT6_ok hnt fun K hK => ?_; refine And.intro (VLe.refl _) ?_; refine hK _ _ ?_; clear hK K; refine dw_cond (t := true) rfl ?_; rw [if_pos rfl]
     refine dw_seq ?_; refine dwk [(36, .v (.bool false))] TRT6_ok hnt fun K hK => ?_; refine And.intro auF ?_; refine hK _ _ ?_; clear hK K; refine dw_cond (t := false) rfl ?_; rw [if_neg (by simp)]; refine dw_skip ?_; refine dw_seq ?_; refine dw_seq ?_; refine dwk [(39, .v (.bool false)), (43, .v (.int .i64 (↑X.length))), (44, .v (.bool false))] TRT6_ok hnt fun K hK => ?_; refine And.intro auF ?_; refine And.intro (dintE (by rw [eTys_len])) ?_
     refine And.intro auF ?_; refine hK _ _ ?_; clear hK K; refine dw_cond (t := false) rfl ?_; rw [if_neg (by simp)]; refine dw_skip ?_; refine dw_seq ?_; refine dwk [(49, .q [.sl 2 (eTys (X[X.length - 1 - n]).args) none, .v (.int .i64 (X[X.length - 1 - n]).base)])] TRT6_ok hnt fun K hK => ?_; refine And.intro (⟨by omega, by rw [eTys_len]; omega⟩) ?_; refine And.intro (VLe.of_eq (by rw [hg])) ?_; refine hK _ _ ?_; clear hK K
     refine dw_ret ?_
     exact reta rfl
   ·rw [List.getElem?_eq_none (by simp; omega)]
    simp only [Option.getD_none, Option.isSome_none]
    rw [tyZ_eq]
    refine calldw 0 51 [ResultVar.cell 6 52, ResultVar.tmp 7] TRT6_ok Try.func36 rfl Try.ntmps36 rfl fun cx hnt hn0 => ?_
    ·skip
     refine dw_seq ?_; refine dwk [] TRT6_ok hnt fun K hK => ?_; refine hK _ _ ?_; clear hK K; refine dw_seq ?_; refine dwk [] TRT6_ok hnt fun K hK => ?_; refine hK _ _ ?_; clear hK K; refine dw_seq ?_; refine dwk [(12, .v (.int .i64 (↑X.length))), (13, .v (.int .i64 ((↑X.length - 1)))), (16, .v (.int .i64 ((↑X.length - 1 - ↑n))))] TRT6_ok hnt fun K hK => ?_; refine And.intro (dintE (by rw [eTys_len])) ?_
     refine And.intro auI ?_; refine And.intro auI ?_; refine hK _ _ ?_; clear hK K; refine dw_seq ?_; refine dw_seq ?_; refine dwk [] TRT6_ok hnt fun K hK => ?_; refine hK _ _ ?_; clear hK K; refine dw_block ?_; refine dw_seq ?_; refine dwk [(21, .v (.bool false))] TRT6_ok hnt fun K hK => ?_; refine And.intro (VLe.refl _) ?_; refine hK _ _ ?_; clear hK K; refine dw_cond (t := false) rfl ?_; rw [if_neg (by simp)]
     refine dw_seq ?_; refine dwk [(27, .v (.bool false))] TRT6_ok hnt fun K hK => ?_; refine And.intro (VLe.refl _) ?_; refine hK _ _ ?_; clear hK K; refine dw_cond (t := false) rfl ?_; rw [if_neg (by simp)]; refine dw_seq ?_; refine dwk [(33, .v (.bool true))] TRT6_ok hnt fun K hK => ?_; refine And.intro (VLe.refl _) ?_; refine hK _ _ ?_; clear hK K; refine dw_cond (t := true) rfl ?_; rw [if_pos rfl]
     refine dw_seq ?_; refine dwk [(36, .v (.bool false))] TRT6_ok hnt fun K hK => ?_; refine And.intro auF ?_; refine hK _ _ ?_; clear hK K; refine dw_cond (t := false) rfl ?_; rw [if_neg (by simp)]; refine dw_skip ?_; refine dw_seq ?_; refine dw_seq ?_; refine dwk [(39, .v (.bool true))] TRT6_ok hnt fun K hK => ?_; refine And.intro auT ?_; refine hK _ _ ?_; clear hK K; refine dw_cond (t := true) rfl ?_
     rw [if_pos rfl]; refine dw_seq ?_; refine dwk [] TRT6_ok hnt fun K hK => ?_; refine hK _ _ ?_; clear hK K; refine dw_ret ?_
     exact reta rfl
 ·rw [headTy_o k0 k1 k2]
  simp only [Option.getD_none, Option.isSome_none]
  rw [tyZ_eq]
  refine calldw 0 51 [ResultVar.cell 6 52, ResultVar.tmp 7] TRT6_ok Try.func36 rfl Try.ntmps36 rfl fun cx hnt hn0 => ?_
  ·skip
   refine dw_seq ?_; refine dwk [] TRT6_ok hnt fun K hK => ?_; refine hK _ _ ?_; clear hK K; refine dw_seq ?_; refine dwk [] TRT6_ok hnt fun K hK => ?_; refine hK _ _ ?_; clear hK K; refine dw_seq ?_; refine dwk [] TRT6_ok hnt fun K hK => ?_; refine hK _ _ ?_; clear hK K; refine dw_seq ?_; refine dw_seq ?_; refine dwk [] TRT6_ok hnt fun K hK => ?_; refine hK _ _ ?_; clear hK K; refine dw_block ?_; refine dw_seq ?_
   refine dwk [(21, .v (.bool false))] TRT6_ok hnt fun K hK => ?_; refine And.intro (beqF k1) ?_; refine hK _ _ ?_; clear hK K; refine dw_cond (t := false) rfl ?_; rw [if_neg (by simp)]; refine dw_seq ?_; refine dwk [(27, .v (.bool false))] TRT6_ok hnt fun K hK => ?_; refine And.intro (beqF k2) ?_; refine hK _ _ ?_; clear hK K; refine dw_cond (t := false) rfl ?_; rw [if_neg (by simp)]; refine dw_seq ?_
   refine dwk [(33, .v (.bool false))] TRT6_ok hnt fun K hK => ?_; refine And.intro (beqF k0) ?_; refine hK _ _ ?_; clear hK K; refine dw_cond (t := false) rfl ?_; rw [if_neg (by simp)]; refine dw_seq ?_; refine dwk [] TRT6_ok hnt fun K hK => ?_; refine hK _ _ ?_; clear hK K; refine dw_ret ?_
   exact reta rfl
theorem ttype_d (b : Int) (C M : List Ty) (t : Tm) (hi : t.index ≤ 9223372036854775807) (hC : C.length ≤ 1000000) (hM : M.length ≤ 1000000) (hz : t.full ≤ 700000) :
  PureC Try.prog 15 [.ag [.v (.int .i64 b), .sl 2 (eTys C) none, .sl 2 (eTys M) none], .v (.slice none 0 0), .ag (eTm t)] (.tu [.ag (eTy ((tyOf C M t).getD tyZ)), .v (.int .i64 (if (tyOf C M t).isSome then 0 else 10))]) := by
 have hbl := Ty.le_sizes t.binds
 have hfl := full_args t
 have hbe : PureC Try.prog 37 [.v (.slice none 0 0), .sl 2 (eTys t.binds) none] (.sl 2 (eTys ([] ++ t.binds)) none) := CallC.vle (within_d [] t.binds (by simp; omega)) (.cons (VLe.nil _) (.cons (VLe.refl _) .nil)) (VLe.refl _)
 have hh := theadA_d b C M ([] ++ t.binds) t.kind t.index hi hC hM (by simp; omega)
 unfold tyOf
 obtain ⟨o, ho⟩ : ∃ o, headTy C M ([] ++ t.binds) t.kind t.index = o := ⟨_, rfl⟩
 obtain ⟨X, hX⟩ : ∃ X, [] ++ t.binds = X := ⟨_, rfl⟩
 rw [hX] at hh hbe ho ⊢
 rw [ho] at hh ⊢
 rw [eTm_eq]
 cases o with
 | none =>
  simp only [Option.map_none, Option.getD_none, Option.isSome_none, Bool.false_eq_true, if_false] at hh ⊢
  rw [tyZ_eq] at hh ⊢
  refine calldw 0 29 [ResultVar.cell 6 52, ResultVar.tmp 7] TRT6_ok Try.func15 rfl Try.ntmps15 rfl fun cx hnt hn0 => ?_
  ·skip
   refine dw_seq ?_; refine dwk [] TRT6_ok hnt fun K hK => ?_; refine hK _ _ ?_; clear hK K; refine dw_seq ?_; refine dwkD [] TRT6_ok hnt fun K hK => ?_; refine dcl (hbe) ?_; refine dcl (hh) ?_; refine hK _ _ (by kernel_rfl) ?_; clear hK K; refine dw_seq ?_; refine dw_seq ?_; refine dwk [] TRT6_ok hnt fun K hK => ?_; refine hK _ _ ?_; clear hK K; refine dw_cond (t := true) rfl ?_; rw [if_pos rfl]; refine dw_seq ?_
   refine dwk [] TRT6_ok hnt fun K hK => ?_; refine hK _ _ ?_; clear hK K; refine dw_ret ?_
   exact reta rfl
 | some h =>
  simp only [Option.map_some, Option.getD_some, Option.isSome_some, if_true] at hh ⊢
  have hk := kOf_d h.base t.binds (by omega)
  rw [eTy_eq] at hh hk ⊢
  simp only [args_mk', base_mk'] at hk ⊢
  refine calldw 0 29 [ResultVar.cell 6 52, ResultVar.tmp 7] TRT6_ok Try.func15 rfl Try.ntmps15 rfl fun cx hnt hn0 => ?_
  ·skip
   refine dw_seq ?_; refine dwk [] TRT6_ok hnt fun K hK => ?_; refine hK _ _ ?_; clear hK K; refine dw_seq ?_; refine dwkD [] TRT6_ok hnt fun K hK => ?_; refine dcl (hbe) ?_; refine dcl (hh) ?_; refine hK _ _ (by kernel_rfl) ?_; clear hK K; refine dw_seq ?_; refine dw_seq ?_; refine dwk [] TRT6_ok hnt fun K hK => ?_; refine hK _ _ ?_; clear hK K; refine dw_cond (t := false) rfl ?_; rw [if_neg (by simp)]
   refine dw_skip ?_; refine dw_seq ?_; refine dwk [] TRT6_ok hnt fun K hK => ?_; refine dcl (hk) ?_; refine hK _ _ ?_; clear hK K; refine dw_ret ?_
   exact reta rfl
set_option maxHeartbeats 4000000 in
theorem tisX_d (b : Int) (C M : List Ty) (hC : C.length ≤ 1000000) (hM : M.length ≤ 1000000) : ∀ (t : Tm) (X : List Ty) (u : Ty) (c : Bool), (c = true ↔ IsOf C M t X u) → X.length + t.full ≤ 700000 → t.Fit →
  PureC Try.prog 40 [.ag [.v (.int .i64 b), .sl 2 (eTys C) none, .sl 2 (eTys M) none], .sl 2 (eTys X) none, .ag (eTm t), .ag (eTy u)] (.v (.bool c)) := by
 intro t
 induction t using Tm.ind with
 | h bs k i a ih =>
 intro X u c hc hz hf
 obtain ⟨_, f2, f3⟩ := Tm.fit_iff.1 hf
 rw [Tm.full_eq] at hz
 have hal := cFulls_len a
 have hbl := Ty.le_sizes bs
 have hbe := within_d X bs (by omega)
 have hh := theadA_d b C M (X ++ bs) k i f2 hC hM (by simp; omega)
 obtain ⟨o, ho⟩ : ∃ o, headTy C M (X ++ bs) k i = o := ⟨_, rfl⟩
 obtain ⟨Y, hY⟩ : ∃ Y, X ++ bs = Y := ⟨_, rfl⟩
 have hYl : Y.length = X.length + bs.length := by rw [← hY]; simp
 have hty := eqTys_d bs u.args 17 rfl
 have no : ∀ (h : ∀ x, headTy C M (X ++ bs) k i = some x → bs = u.args → x.base = u.base → x.args.length = a.length → False), c = false := fun h => by
  rw [Bool.eq_false_iff]; exact fun hc1 => isOf_no h (hc.1 hc1)
 rw [ho] at hh no
 rw [eTm_eq, eTy_eq]
 simp only [bindsT, kindT, indexT, argsTm]
 rw [hY] at hbe hh
 by_cases hb : bs = u.args
 ·rw [decide_eq_true hb] at hty
  cases o with
  | none =>
   simp only [Option.getD_none, Option.isSome_none] at hh
   rw [tyZ_eq] at hh
   rw [no (fun x h => by cases h)]
   refine calldw 0 69 [ResultVar.tmp 8] TRT6_ok Try.func40 rfl Try.ntmps40 rfl fun cx hnt hn0 => ?_
   ·skip
    refine dw_seq ?_; refine dwk [] TRT6_ok hnt fun K hK => ?_; refine hK _ _ ?_; clear hK K; refine dw_seq ?_; refine dw_seq ?_; refine dwk [] TRT6_ok hnt fun K hK => ?_; refine dcl (hty) ?_; refine hK _ _ ?_; clear hK K; refine dw_cond (t := false) rfl ?_; rw [if_neg (by simp)]; refine dw_skip ?_; refine dw_seq ?_; refine dwk [] TRT6_ok hnt fun K hK => ?_; refine dcl (hbe) ?_; refine hK _ _ ?_; clear hK K
    refine dw_seq ?_; refine dwk [] TRT6_ok hnt fun K hK => ?_; refine dcl (hh) ?_; refine hK _ _ ?_; clear hK K; refine dw_seq ?_; refine dw_seq ?_; refine dwk [] TRT6_ok hnt fun K hK => ?_; refine hK _ _ ?_; clear hK K; refine dw_cond (t := true) rfl ?_; rw [if_pos rfl]; refine dw_seq ?_; refine dwk [] TRT6_ok hnt fun K hK => ?_; refine hK _ _ ?_; clear hK K; refine dw_ret ?_
    exact reta rfl
  | some h =>
  simp only [Option.getD_some, Option.isSome_some] at hh
  rw [eTy_eq] at hh
  by_cases hbs : h.base = u.base
  ·by_cases hln : h.args.length = a.length
   ·have hIff : c = true ↔ ∀ j (h1 : j < a.length) (h2 : j < h.args.length), IsOf C M a[j] Y h.args[j] := by
     rw [hc, isOf_mk, hY]
     constructor
     ·rintro ⟨_, x, h2, _, h4⟩ j j1 j2
      rw [← hY, ho] at h2; cases h2
      exact (isOfs_iff.1 h4).2 j j1 j2
     ·intro hall
      exact ⟨hb, h, by rw [← hY, ho], hbs, isOfs_iff.2 ⟨hln, hall⟩⟩
    have hI : ∀ j (h1 : j < a.length) (h2 : j < h.args.length) (d : Bool), (d = true ↔ IsOf C M a[j] Y h.args[j]) → PureC Try.prog 40 [.ag [.v (.int .i64 b), .sl 2 (eTys C) none, .sl 2 (eTys M) none], .sl 2 (eTys Y) none, .ag (eTm a[j]), .ag (eTy h.args[j])] (.v (.bool d)) := fun j h1 h2 d hd => ih _ (List.getElem_mem h1) Y _ d hd (by have := Tm.full_mem (List.getElem_mem h1); omega) (f3 _ (List.getElem_mem h1))
    clear ih no hc
    refine calldw 0 69 [ResultVar.tmp 8] TRT6_ok Try.func40 rfl Try.ntmps40 rfl fun cx hnt hn0 => ?_
    ·skip
     refine dw_seq ?_; refine dwk [] TRT6_ok hnt fun K hK => ?_; refine hK _ _ ?_; clear hK K; refine dw_seq ?_; refine dw_seq ?_; refine dwk [] TRT6_ok hnt fun K hK => ?_; refine dcl (hty) ?_; refine hK _ _ ?_; clear hK K; refine dw_cond (t := false) rfl ?_; rw [if_neg (by simp)]; refine dw_skip ?_; refine dw_seq ?_; refine dwk [] TRT6_ok hnt fun K hK => ?_; refine dcl (hbe) ?_; refine hK _ _ ?_; clear hK K
     refine dw_seq ?_; refine dwk [] TRT6_ok hnt fun K hK => ?_; refine dcl (hh) ?_; refine hK _ _ ?_; clear hK K; refine dw_seq ?_; refine dw_seq ?_; refine dwk [(39, .v (.bool false)), (44, .v (.int .i64 (↑h.args.length))), (47, .v (.int .i64 (↑a.length))), (48, .v (.bool false))] TRT6_ok hnt fun K hK => ?_; refine And.intro (bneF hbs) ?_; refine And.intro (dintE (by rw [eTys_len])) ?_; refine And.intro (dintE (by rw [eTms_len])) ?_
     refine And.intro (bneF (by omega)) ?_; refine hK _ _ ?_; clear hK K; refine dw_cond (t := false) rfl ?_; rw [if_neg (by simp)]; refine dw_skip ?_; refine dw_seq ?_; refine dw_seq ?_; refine dwk [(52, .v (.int .i64 (↑a.length)))] TRT6_ok hnt fun K hK => ?_; refine And.intro (dintE (by rw [eTms_len])) ?_; refine hK _ _ ?_; clear hK K; refine dw_block ?_
     refine dw_loop (ι := { j : Nat // ∀ i (h1 : i < a.length) (h2 : i < h.args.length), i < j → IsOf C M a[i] Y h.args[i] }) (fun j => [(.t 4, .p 0 0), (.t 6, .p 1 0), (.t 7, .p 2 0), (.t 9, .sl 2 (eTys Y) none), (.t 10, .p 23 0), (.t 51, .sl 4 (eTms a) none), (.t 52, .v (.int .i64 ↑a.length)), (.t 53, .v (.int .i64 ↑j.1)), (.c 0 0, .v (.int .i64 b)), (.c 0 1, .sl 2 (eTys C) none), (.c 0 2, .sl 2 (eTys M) none), (.c 23 0, .sl 2 (eTys h.args) none), (.c 23 1, .v (.int .i64 h.base))]) 24 (fun j => a.length - j.1) (⟨0, fun i h1 h2 h3 => by omega⟩) (VS.toA) fun j => ?_
     obtain ⟨j, hj⟩ := j
     dsimp only
     by_cases hlt : j < a.length
     ·have hlt2 : j < h.args.length := by omega
      by_cases hio : IsOf C M a[j] Y h.args[j]
      ·have hi := hI j hlt hlt2 true (by simp [hio])
       rw [eTm_eq, eTy_eq] at hi
       refine dw_seq ?_; refine dwk [(54, .v (.bool true))] TRT6_ok hnt fun K hK => ?_; refine And.intro auT ?_; refine hK _ _ ?_; clear hK K; refine dw_seq ?_; refine dw_cond (t := true) rfl ?_; rw [if_pos rfl]; refine dw_skip ?_; refine dw_seq ?_; refine dw_block ?_; refine dw_seq ?_; refine dwk [(56, .q [.sl 2 (eTys a[j].binds) none, .v (.int .i64 a[j].kind), .v (.int .i64 a[j].index), .sl 4 (eTms a[j].args) none])] TRT6_ok hnt fun K hK => ?_
       refine And.intro (elo (eTms_len a)) ?_; refine And.intro (elv (eTms_getD a j) (eTm_eq _)) ?_; refine hK _ _ ?_; clear hK K; refine dw_seq ?_; refine dwkD [(64, .q [.sl 2 (eTys h.args[j].args) none, .v (.int .i64 h.args[j].base)])] TRT6_ok hnt fun K hK => ?_; refine And.intro (elo (eTys_len h.args)) ?_; refine And.intro (elv (eTys_getD h.args j) (eTy_eq _)) ?_; refine dcl (hi) ?_; refine hK _ _ (by kernel_rfl) ?_; clear hK K
       refine dw_cond (t := false) rfl ?_; rw [if_neg (by simp)]; refine dw_skip ?_; refine dwk [(68, .v (.int .i64 (↑(j + 1))))] TRT6_ok hnt fun K hK => ?_; refine And.intro auI ?_; refine hK _ _ ?_; clear hK K
       refine ⟨⟨j + 1, fun q h1 h2 h3 => if e : q = j then by subst e; exact hio else hj q h1 h2 (by omega)⟩, by first | omega | (dsimp only; omega), VS.toA⟩
      ·have hi := hI j hlt hlt2 false (by simp [hio])
       rw [eTm_eq, eTy_eq] at hi
       have hcf : c = false := by rw [Bool.eq_false_iff]; exact fun h1 => hio (hIff.1 h1 j hlt hlt2)
       rw [hcf]
       refine dw_seq ?_; refine dwk [(54, .v (.bool true))] TRT6_ok hnt fun K hK => ?_; refine And.intro auT ?_; refine hK _ _ ?_; clear hK K; refine dw_seq ?_; refine dw_cond (t := true) rfl ?_; rw [if_pos rfl]; refine dw_skip ?_; refine dw_seq ?_; refine dw_block ?_; refine dw_seq ?_; refine dwk [(56, .q [.sl 2 (eTys a[j].binds) none, .v (.int .i64 a[j].kind), .v (.int .i64 a[j].index), .sl 4 (eTms a[j].args) none])] TRT6_ok hnt fun K hK => ?_
       refine And.intro (elo (eTms_len a)) ?_; refine And.intro (elv (eTms_getD a j) (eTm_eq _)) ?_; refine hK _ _ ?_; clear hK K; refine dw_seq ?_; refine dwkD [(64, .q [.sl 2 (eTys h.args[j].args) none, .v (.int .i64 h.args[j].base)])] TRT6_ok hnt fun K hK => ?_; refine And.intro (elo (eTys_len h.args)) ?_; refine And.intro (elv (eTys_getD h.args j) (eTy_eq _)) ?_; refine dcl (hi) ?_; refine hK _ _ (by kernel_rfl) ?_; clear hK K
       refine dw_cond (t := true) rfl ?_; rw [if_pos rfl]; refine dw_seq ?_; refine dwk [] TRT6_ok hnt fun K hK => ?_; refine hK _ _ ?_; clear hK K; refine dw_ret ?_
       exact reta rfl
     ·rw [hIff.2 fun q h1 h2 => hj q h1 h2 (by omega)]
      refine dw_seq ?_; refine dwk [(54, .v (.bool false))] TRT6_ok hnt fun K hK => ?_; refine And.intro auF ?_; refine hK _ _ ?_; clear hK K; refine dw_seq ?_; refine dw_cond (t := false) rfl ?_; rw [if_neg (by simp)]; refine dw_exit ?_; refine dw_seq ?_; refine dwk [] TRT6_ok hnt fun K hK => ?_; refine hK _ _ ?_; clear hK K; refine dw_ret ?_
      exact reta rfl
   ·rw [no (fun x h1 _ _ h4 => by cases h1; exact hln h4)]
    refine calldw 0 69 [ResultVar.tmp 8] TRT6_ok Try.func40 rfl Try.ntmps40 rfl fun cx hnt hn0 => ?_
    ·skip
     refine dw_seq ?_; refine dwk [] TRT6_ok hnt fun K hK => ?_; refine hK _ _ ?_; clear hK K; refine dw_seq ?_; refine dw_seq ?_; refine dwk [] TRT6_ok hnt fun K hK => ?_; refine dcl (hty) ?_; refine hK _ _ ?_; clear hK K; refine dw_cond (t := false) rfl ?_; rw [if_neg (by simp)]; refine dw_skip ?_; refine dw_seq ?_; refine dwk [] TRT6_ok hnt fun K hK => ?_; refine dcl (hbe) ?_; refine hK _ _ ?_; clear hK K
     refine dw_seq ?_; refine dwk [] TRT6_ok hnt fun K hK => ?_; refine dcl (hh) ?_; refine hK _ _ ?_; clear hK K; refine dw_seq ?_; refine dw_seq ?_; refine dwk [(39, .v (.bool false)), (44, .v (.int .i64 (↑h.args.length))), (47, .v (.int .i64 (↑a.length))), (48, .v (.bool true))] TRT6_ok hnt fun K hK => ?_; refine And.intro (bneF hbs) ?_; refine And.intro (dintE (by rw [eTys_len])) ?_; refine And.intro (dintE (by rw [eTms_len])) ?_
     refine And.intro (bneT (by omega)) ?_; refine hK _ _ ?_; clear hK K; refine dw_cond (t := true) rfl ?_; rw [if_pos rfl]; refine dw_seq ?_; refine dwk [] TRT6_ok hnt fun K hK => ?_; refine hK _ _ ?_; clear hK K; refine dw_ret ?_
     exact reta rfl
  ·rw [no (fun x h1 _ h3 _ => by cases h1; exact hbs h3)]
   refine calldw 0 69 [ResultVar.tmp 8] TRT6_ok Try.func40 rfl Try.ntmps40 rfl fun cx hnt hn0 => ?_
   ·skip
    refine dw_seq ?_; refine dwk [] TRT6_ok hnt fun K hK => ?_; refine hK _ _ ?_; clear hK K; refine dw_seq ?_; refine dw_seq ?_; refine dwk [] TRT6_ok hnt fun K hK => ?_; refine dcl (hty) ?_; refine hK _ _ ?_; clear hK K; refine dw_cond (t := false) rfl ?_; rw [if_neg (by simp)]; refine dw_skip ?_; refine dw_seq ?_; refine dwk [] TRT6_ok hnt fun K hK => ?_; refine dcl (hbe) ?_; refine hK _ _ ?_; clear hK K
    refine dw_seq ?_; refine dwk [] TRT6_ok hnt fun K hK => ?_; refine dcl (hh) ?_; refine hK _ _ ?_; clear hK K; refine dw_seq ?_; refine dw_seq ?_; refine dwk [(39, .v (.bool true))] TRT6_ok hnt fun K hK => ?_; refine And.intro (bneT hbs) ?_; refine hK _ _ ?_; clear hK K; refine dw_cond (t := true) rfl ?_; rw [if_pos rfl]; refine dw_seq ?_; refine dwk [] TRT6_ok hnt fun K hK => ?_; refine hK _ _ ?_; clear hK K
    refine dw_ret ?_
    exact reta rfl
 ·rw [decide_eq_false hb] at hty
  rw [no (fun x _ h2 _ _ => hb h2)]
  refine calldw 0 69 [ResultVar.tmp 8] TRT6_ok Try.func40 rfl Try.ntmps40 rfl fun cx hnt hn0 => ?_
  ·skip
   refine dw_seq ?_; refine dwk [] TRT6_ok hnt fun K hK => ?_; refine hK _ _ ?_; clear hK K; refine dw_seq ?_; refine dw_seq ?_; refine dwk [] TRT6_ok hnt fun K hK => ?_; refine dcl (hty) ?_; refine hK _ _ ?_; clear hK K; refine dw_cond (t := true) rfl ?_; rw [if_pos rfl]; refine dw_seq ?_; refine dwk [] TRT6_ok hnt fun K hK => ?_; refine hK _ _ ?_; clear hK K; refine dw_ret ?_
   exact reta rfl
theorem tcheckX_d (b : Int) (C M X : List Ty) (t : Tm) (u : Ty) (c : Int) (hC : C.length ≤ 1000000) (hM : M.length ≤ 1000000) (hc : checkCode C M t X u c) (hz : X.length + t.full ≤ 700000) (hf : t.Fit) :
  PureC Try.prog 18 [.ag [.v (.int .i64 b), .sl 2 (eTys C) none, .sl 2 (eTys M) none], .sl 2 (eTys X) none, .ag (eTm t), .ag (eTy u)] (.v (.int .i64 c)) := by
 have hr := right_d t (by omega)
 have hi := fun d hd => tisX_d b C M hC hM t X u d hd hz hf
 rw [eTm_eq, eTy_eq] at hi
 rw [eTm_eq] at hr
 rw [eTm_eq, eTy_eq]
 rcases hc with ⟨h1, rfl⟩ | ⟨h1, h2, rfl⟩ | ⟨h1, h2, rfl⟩
 ·rw [decide_eq_false h1] at hr
  refine calldw 0 20 [ResultVar.tmp 8] TRT6_ok Try.func18 rfl Try.ntmps18 rfl fun cx hnt hn0 => ?_
  ·skip
   refine dw_seq ?_; refine dwk [] TRT6_ok hnt fun K hK => ?_; refine hK _ _ ?_; clear hK K; refine dw_seq ?_; refine dw_block ?_; refine dw_seq ?_; refine dwk [] TRT6_ok hnt fun K hK => ?_; refine dcl (hr) ?_; refine hK _ _ ?_; clear hK K; refine dw_cond (t := true) rfl ?_; rw [if_pos rfl]; refine dw_seq ?_; refine dwk [] TRT6_ok hnt fun K hK => ?_; refine hK _ _ ?_; clear hK K; refine dw_ret ?_
   exact reta rfl
 ·rw [decide_eq_true h1] at hr
  have hi := hi false (by simp [h2])
  refine calldw 0 20 [ResultVar.tmp 8] TRT6_ok Try.func18 rfl Try.ntmps18 rfl fun cx hnt hn0 => ?_
  ·skip
   refine dw_seq ?_; refine dwk [] TRT6_ok hnt fun K hK => ?_; refine hK _ _ ?_; clear hK K; refine dw_seq ?_; refine dw_block ?_; refine dw_seq ?_; refine dwk [] TRT6_ok hnt fun K hK => ?_; refine dcl (hr) ?_; refine hK _ _ ?_; clear hK K; refine dw_cond (t := false) rfl ?_; rw [if_neg (by simp)]; refine dw_seq ?_; refine dwk [] TRT6_ok hnt fun K hK => ?_; refine dcl (hi) ?_; refine hK _ _ ?_; clear hK K
   refine dw_cond (t := true) rfl ?_; rw [if_pos rfl]; refine dw_seq ?_; refine dwk [] TRT6_ok hnt fun K hK => ?_; refine hK _ _ ?_; clear hK K; refine dw_ret ?_
   exact reta rfl
 ·rw [decide_eq_true h1] at hr
  have hi := hi true (by simp [h2])
  refine calldw 0 20 [ResultVar.tmp 8] TRT6_ok Try.func18 rfl Try.ntmps18 rfl fun cx hnt hn0 => ?_
  ·skip
   refine dw_seq ?_; refine dwk [] TRT6_ok hnt fun K hK => ?_; refine hK _ _ ?_; clear hK K; refine dw_seq ?_; refine dw_block ?_; refine dw_seq ?_; refine dwk [] TRT6_ok hnt fun K hK => ?_; refine dcl (hr) ?_; refine hK _ _ ?_; clear hK K; refine dw_cond (t := false) rfl ?_; rw [if_neg (by simp)]; refine dw_seq ?_; refine dwk [] TRT6_ok hnt fun K hK => ?_; refine dcl (hi) ?_; refine hK _ _ ?_; clear hK K
   refine dw_cond (t := false) rfl ?_; rw [if_neg (by simp)]; refine dw_skip ?_; refine dw_seq ?_; refine dwk [] TRT6_ok hnt fun K hK => ?_; refine hK _ _ ?_; clear hK K; refine dw_ret ?_
   exact reta rfl
theorem tcheck_d (b : Int) (C M : List Ty) (t : Tm) (u : Ty) (c : Int) (hC : C.length ≤ 1000000) (hM : M.length ≤ 1000000) (hc : checkCode C M t [] u c) (hz : t.full ≤ 600000) (hfit : t.Fit) :
    PureC Try.prog 18 [.ag [.v (.int .i64 b), .sl 2 (eTys C) none, .sl 2 (eTys M) none], .v (.slice none 0 0), .ag (eTm t), .ag (eTy u)] (.v (.int .i64 c)) :=
  CallC.vle (tcheckX_d b C M [] t u c hC hM hc (by simp; omega) hfit) (.cons (VLe.refl _) (.cons (VLe.nil _) (.cons (VLe.refl _) (.cons (VLe.refl _) .nil)))) (VLe.refl _)
end Go.Proofs.Ytnpjjkeokcoedaa

namespace Go.Proofs.Ytnpjjkeokcoedaa
open Go.RowKit
theorem tworld_d (b : Int) (C M : List Ty) (c : Bool) (hc : c = true ↔ RightWd b C M) (hz : ∀ t ∈ C ++ M, t.size ≤ 400000) : PureC Try.prog 28 [.ag [.v (.int .i64 b), .sl 2 (eTys C) none, .sl 2 (eTys M) none]] (.v (.bool c)) := by
  refine pure_below (by kernel_rfl) fun m Im w vs hv => ?_
  match vs, hv with
  | [x1], hv =>
    obtain ⟨cv, mv, rfl, h1, h2⟩ := agWorld hv.1
    refine (RightWorld_k h1 h2 hz).mono ?_
    rintro e w' ⟨c', hc', rfl, hb⟩
    have : c' = c := by rw [Bool.eq_iff_iff, hc', hc]
    subst this
    exact ⟨_, rfl, hb, fun _ _ _ => .v _⟩
end Go.Proofs.Ytnpjjkeokcoedaa

namespace Go.Proofs.Ytnpjjkeokcoedaa
open Go.RowKit
def TRF_43 : TI := ⟨4, true, [Value.slice none 0 0, Value.int IntKind.i64 0, Value.int IntKind.i64 0, Value.slice none 0 0], [(0, 1, false), (1, 2, true), (3, 1, false)], none, 64, 6, none, false⟩
theorem TRF_43_ok : TypOk Try.prog 43 TRF_43 := ⟨by kernel_rfl, by kernel_rfl, by kernel_rfl, by kernel_rfl, by kernel_rfl⟩
def TRF_38 : TI := ⟨3, true, [Value.int IntKind.i64 0, Value.slice none 0 0, Value.slice none 0 0], [(0, 1, false), (1, 1, false), (2, 1, false)], none, 56, 6, none, false⟩
theorem TRF_38_ok : TypOk Try.prog 38 TRF_38 := ⟨by kernel_rfl, by kernel_rfl, by kernel_rfl, by kernel_rfl, by kernel_rfl⟩
def TRF_45 : TI := ⟨9, true, [Value.slice none 0 0, Value.int IntKind.i64 0, Value.int IntKind.i64 0, Value.slice none 0 0, Value.slice none 0 0, Value.int IntKind.i64 0, Value.int IntKind.i64 0, Value.slice none 0 0, Value.slice none 0 0], [(0, 4, true), (4, 4, true), (8, 1, false)], none, 152, 6, none, false⟩
theorem TRF_45_ok : TypOk Try.prog 45 TRF_45 := ⟨by kernel_rfl, by kernel_rfl, by kernel_rfl, by kernel_rfl, by kernel_rfl⟩
def TRF_3 : TI := ⟨1, false, [Value.int IntKind.i64 0], [], none, 8, 2, none, false⟩
theorem TRF_3_ok : TypOk Try.prog 3 TRF_3 := ⟨by kernel_rfl, by kernel_rfl, by kernel_rfl, by kernel_rfl, by kernel_rfl⟩
def TRF_36 : TI := ⟨1, false, [Value.slice none 0 0], [], some 52, 24, 5, none, false⟩
theorem TRF_36_ok : TypOk Try.prog 36 TRF_36 := ⟨by kernel_rfl, by kernel_rfl, by kernel_rfl, by kernel_rfl, by kernel_rfl⟩
def TRF_52 : TI := ⟨2, true, [Value.slice none 0 0, Value.int IntKind.i64 0], [(0, 1, false), (1, 1, false)], none, 32, 6, none, false⟩
theorem TRF_52_ok : TypOk Try.prog 52 TRF_52 := ⟨by kernel_rfl, by kernel_rfl, by kernel_rfl, by kernel_rfl, by kernel_rfl⟩
def TRF_114 : TI := ⟨1, false, [Value.slice none 0 0], [], some 3, 24, 5, none, false⟩
theorem TRF_114_ok : TypOk Try.prog 114 TRF_114 := ⟨by kernel_rfl, by kernel_rfl, by kernel_rfl, by kernel_rfl, by kernel_rfl⟩
def TRF_48 : TI := ⟨1, false, [Value.int IntKind.i64 0], [], none, 8, 2, none, false⟩
theorem TRF_48_ok : TypOk Try.prog 48 TRF_48 := ⟨by kernel_rfl, by kernel_rfl, by kernel_rfl, by kernel_rfl, by kernel_rfl⟩
def TRF_116 : TI := ⟨1, false, [Value.nilFunc], [], none, 8, 8, none, false⟩
theorem TRF_116_ok : TypOk Try.prog 116 TRF_116 := ⟨by kernel_rfl, by kernel_rfl, by kernel_rfl, by kernel_rfl, by kernel_rfl⟩
def TRF : List (Nat × TI) := [(43, TRF_43), (38, TRF_38), (45, TRF_45), (3, TRF_3), (36, TRF_36), (52, TRF_52), (114, TRF_114), (48, TRF_48), (116, TRF_116)]
theorem TRF_ok : TabOk Try.prog TRF := ((((((((((TabOk.nil _).cons TRF_116_ok).cons TRF_48_ok).cons TRF_114_ok).cons TRF_52_ok).cons TRF_36_ok).cons TRF_3_ok).cons TRF_45_ok).cons TRF_38_ok).cons TRF_43_ok)
namespace Ru
structure Good (b : Int) (C : List Ty) (p : Li.Pr) : Prop where
  w : RightWd b C p.m
  l : Li.rt p.l = true
  r : Li.rt p.r = true
  u : ∃ u, tyOf C p.m p.l = some u ∧ u.args = [] ∧ IsOf C p.m p.l [] u ∧ IsOf C p.m p.r [] u
end Ru
theorem ruclos_d (b : Int) (C M : List Ty) (u : Ty) (t : Tm) (c : Int) (hC : C.length ≤ 1000000) (hM : M.length ≤ 1000000) (hc : checkCode C M t [] u c) (hz : t.full ≤ 90000) (hf : t.Fit) :
  CallC Try.prog 30 [.ag (eTm t), .p 10 0, .p 34 0] [(.c 10 0, .v (.int .i64 b)), (.c 10 1, .sl 2 (eTys C) none), (.c 10 2, .sl 2 (eTys M) none), (.c 34 0, .sl 2 (eTys u.args) none), (.c 34 1, .v (.int .i64 u.base))] [(.c 10 0, .v (.int .i64 b)), (.c 10 1, .sl 2 (eTys C) none), (.c 10 2, .sl 2 (eTys M) none), (.c 34 0, .sl 2 (eTys u.args) none), (.c 34 1, .v (.int .i64 u.base))] (.v (.bool (decide (c = 0)))) := by
 have h := tcheck_d b C M t u c hC hM hc (by omega) hf
 rw [eTm_eq, eTy_eq] at h
 rw [eTm_eq]
 refine calldw 35 10 [ResultVar.tmp 4] TRF_ok Try.func30 rfl Try.ntmps30 rfl fun cx hnt hn0 => ?_
 ·skip
  refine dw_seq ?_; refine dwk [] TRF_ok hnt fun K hK => ?_; refine hK _ _ ?_; clear hK K; refine dw_seq ?_; refine dwk [(9, .v (.bool (decide (c = 0))))] TRF_ok hnt fun K hK => ?_; refine dcl (h) ?_; refine And.intro (VLe.of_eq (by by_cases h : c = 0 <;> simp [h])) ?_; refine hK _ _ ?_; clear hK K; refine dw_ret ?_
  exact reta rfl
theorem checkYes {C M : List Ty} {t : Tm} {u : Ty} (h1 : Li.rt t = true) (h2 : IsOf C M t [] u) : checkCode C M t [] u 0 := by
  unfold Li.rt at h1; rw [decide_eq_true_eq] at h1
  exact .inr (.inr ⟨h1, h2, rfl⟩)
theorem checkNo {C M : List Ty} {t : Tm} {u : Ty} (h1 : Li.rt t = true) (h2 : ¬ IsOf C M t [] u) : checkCode C M t [] u 5 := by
  unfold Li.rt at h1; rw [decide_eq_true_eq] at h1
  exact .inr (.inl ⟨h1, h2, rfl⟩)
end Go.Proofs.Ytnpjjkeokcoedaa

namespace Go.Proofs.Ytnpjjkeokcoedaa
open Go.RowKit
namespace Ru
def ms (t : Tm) : List Int := sortU (metasL [t])
def chk (p : Li.Pr) : Int := if p.l.kind ≠ 1 then 6 else if (Pn.uses p.l [] []).2 = false then 6 else if ((ms p.r).any fun x => !((ms p.l).contains x)) = true then 7 else 0
end Ru
end Go.Proofs.Ytnpjjkeokcoedaa

namespace Go.Proofs.Ytnpjjkeokcoedaa
open Go.RowKit
namespace Ru
def kA : Ty := .mk [] 0
def kC : List Ty := [.mk [kA, kA] 0, .mk [kA] 0]
end Ru
end Go.Proofs.Ytnpjjkeokcoedaa

namespace Go.Proofs.Ytnpjjkeokcoedaa
open Go.RowKit
namespace Ru
structure Sm (p : Li.Pr) : Prop where
  l : p.l.full ≤ 150 ∧ p.l.Fit
  r : p.r.full ≤ 150 ∧ p.r.Fit
  ml : p.m.length ≤ 300
  m : ∀ t ∈ p.m, t.size ≤ 60
theorem mt_size {M : List Ty} (h : ∀ t ∈ M, t.size ≤ 60) (x : Int) : (mt M x).size ≤ 60 := by
  unfold mt
  rw [List.getD_eq_getElem?_getD]
  cases hx : M[x.toNat]? with
  | none => simp [Ty.size, Ty.sizes]
  | some t => exact h t (List.mem_of_getElem? hx)
theorem Sm.own {p : Li.Pr} (h : Sm p) : Sm (own p).1 := by
  by_cases hb : (tr p.r (tr p.l []).1).1.any (bad p.m) = true
  · have : Ru.own p = (.z, 10) := by unfold Ru.own; rw [if_pos hb]
    rw [this]
    exact ⟨⟨by decide, Tm.fit_iff.2 ⟨by decide, by decide, nofun⟩⟩, ⟨by decide, Tm.fit_iff.2 ⟨by decide, by decide, nofun⟩⟩, by decide, nofun⟩
  · have e : Ru.own p = (⟨(tr p.l []).2, (tr p.r (tr p.l []).1).2, (tr p.r (tr p.l []).1).1.map (mt p.m)⟩, 0) := by unfold Ru.own; rw [if_neg hb]
    rw [e]
    have g1 := tr_grow p.l []
    have g2 := tr_grow p.r (tr p.l []).1
    have := h.l.1
    have := h.r.1
    simp only [List.length_nil, Nat.zero_add] at g1
    refine ⟨⟨?_, ?_⟩, ⟨?_, ?_⟩, ?_, fun t ht => ?_⟩
    · show (tr p.l []).2.full ≤ 150
      rw [tr_full]; exact h.l.1
    · exact tr_fit p.l [] (by simp; omega) h.l.2
    · show (tr p.r (tr p.l []).1).2.full ≤ 150
      rw [tr_full]; exact h.r.1
    · exact tr_fit p.r _ (by omega) h.r.2
    · show (List.map _ _).length ≤ 300
      rw [List.length_map]; omega
    · obtain ⟨x, _, rfl⟩ := List.mem_map.1 ht
      exact mt_size h.m x
theorem Sm.sizes {p : Li.Pr} (h : Sm p) : Ty.sizes p.m ≤ 18000 := by
  have := sizes_le22 h.m
  have := h.ml
  omega
theorem Sm.of {p : Li.Pr} (h : fewP p = true) (hf : p.l.Fit ∧ p.r.Fit) : Sm p := by
  obtain ⟨h1, h2, h3⟩ := fewP_ok h
  exact ⟨⟨h1.1, hf.1⟩, ⟨h1.2, hf.2⟩, by omega, h3⟩
end Ru
end Go.Proofs.Ytnpjjkeokcoedaa

namespace Go.Proofs.Ytnpjjkeokcoedaa
open Go.RowKit
namespace Ru
/-! metavariables -/
mutual
def AllIn (o : List Int) : Tm → Prop
  | .mk _ k i a => (k = 2 → i ∈ o) ∧ AllIns o a
def AllIns (o : List Int) : List Tm → Prop
  | [] => True
  | t :: l => AllIn o t ∧ AllIns o l
end
/-! typed -/
variable {C M : List Ty} {o : List Int}
/-! patterns -/
mutual
def K0 : Tm → Prop
  | .mk _ k _ a => k ≠ 2 ∧ K0s a
def K0s : List Tm → Prop
  | [] => True
  | t :: l => K0 t ∧ K0s l
end
theorem k0_eq (b : List Ty) (k i : Int) (a : List Tm) : K0 (.mk b k i a) ↔ k ≠ 2 ∧ K0s a := by rw [K0]
theorem etas_k0_of {l : List Ty} (h : ∀ t ∈ l, ∀ i, K0 (Ty.eta t 0 i)) : K0s (Ty.etas l) := by
  induction l with
  | nil => simp [Ty.etas, K0s]
  | cons t l ih =>
    rw [Ty.etas, K0s]
    exact ⟨h t (by simp) _, ih fun u hu => h u (by simp [hu])⟩
theorem eta_k0 (t : Ty) : ∀ i, K0 (Ty.eta t 0 i) := by
  induction t using Ty.ind with
  | h l b ih =>
    intro i
    rw [Ty.eta_eq, k0_eq]
    exact ⟨by decide, etas_k0_of ih⟩
/-! which metavariables -/
def g (f : List Int) (x : Int) : Int := if x ∈ f then (ix x f : Int) else x
theorem metasP_app (a b : List (Nat × Nat × Tm)) : metasP (a ++ b) = metasP a ++ metasP b := List.filterMap_append ..
end Ru
end Go.Proofs.Ytnpjjkeokcoedaa

namespace Go.Proofs.Ytnpjjkeokcoedaa
open Go.RowKit

theorem headTy_cons {C M X Y : List Ty} {k i : Int} (h : k ≠ 0) : headTy C M X k i = headTy C M Y k i := by
  unfold headTy
  simp [h]
theorem headTy_0i {C M X : List Ty} {i : Int} (h : 0 ≤ i) : headTy C M X 0 i = X.reverse[i.toNat]? := by
  rw [headTy, if_neg (by omega), if_pos rfl]
theorem headTy_beyond {C M X l : List Ty} {i : Int} (h : 0 ≤ i) : headTy C M (X ++ l) 0 (i + l.length) = headTy C M X 0 i := by
  rw [headTy_0i (by omega), headTy_0i h, List.reverse_append, List.getElem?_append_right (by simp; omega)]
  congr 1
  simp; omega
theorem headTy_last {C M X l : List Ty} {i : Int} (h : 0 ≤ i) (hl : i < l.length) : headTy C M (X ++ l) 0 i = headTy C M l 0 i := by
  rw [headTy_0i h, headTy_0i h, List.reverse_append, List.getElem?_append_left (by simp; omega)]

theorem eta_isOf {C M : List Ty} (a : Ty) : ∀ (X : List Ty) (k i : Int), headTy C M X k i = some a → IsOf C M (Ty.eta a k i) X a := by
  induction a using Ty.ind with
  | h l b ih =>
    intro X k i hh
    rw [Ty.eta_eq, isOf_mk]
    have hi : 0 ≤ i := by
      rcases Int.lt_or_le i 0 with h | h
      · rw [headTy_neg h] at hh; cases hh
      · exact h
    refine ⟨rfl, .mk l b, ?_, rfl, ?_⟩
    · by_cases hk : k = 0
      · subst hk
        rw [if_pos rfl, headTy_beyond hi, hh]
      · rw [if_neg hk, headTy_cons (Y := X) hk, hh]
    · rw [isOfs_iff]
      refine ⟨by rw [Ty.etas_len]; rfl, fun j h h' => ?_⟩
      have hj : j < l.length := by rw [Ty.etas_len] at h; exact h
      rw [Ty.etas_get l j hj]
      refine ih _ (List.getElem_mem hj) _ _ _ ?_
      rw [headTy_last (by omega) (by omega), headTy_0i (by omega), show ((l.length : Int) - 1 - (j : Int)).toNat = l.length - 1 - j by omega, List.getElem?_reverse (by omega), show l.length - 1 - (l.length - 1 - j) = j by omega, List.getElem?_eq_getElem hj]

theorem isOf_loose {C M X : List Ty} (t : Tm) : ∀ (Y : List Ty) (u : Ty), IsOf C M t (X ++ Y) u → ∀ x ∈ t.looses Y.length, x < X.length := by
  induction t using Tm.ind with
  | h b k i a ih =>
    intro Y u h x hx
    rw [isOf_mk] at h
    obtain ⟨rfl, h1, hh, _, hs⟩ := h
    rw [Tm.looses_eq _ _ _ _ _ ((Y ++ u.args).length : Int) (by simp)] at hx
    rcases List.mem_append.1 hx with h5 | hx
    · by_cases hc : k = 0 ∧ ((Y ++ u.args).length : Int) ≤ i
      · obtain ⟨rfl, hi⟩ := hc
        rw [if_pos ⟨rfl, hi⟩] at h5
        have h6 : x = i - ((Y ++ u.args).length : Int) := List.mem_singleton.1 h5
        rw [h6]
        rw [List.append_assoc, headTy_0i (by omega)] at hh
        have := (List.getElem?_eq_some_iff.1 hh).1
        rw [List.length_reverse, List.length_append] at this
        omega
      · rw [if_neg hc] at h5; cases h5
    · rw [isOfs_iff] at hs
      have key : ∀ (l : List Tm), (∀ t ∈ l, t ∈ a ∧ ∃ u', IsOf C M t ((X ++ Y) ++ u.args) u') → ∀ x ∈ Tm.loosess l ((Y ++ u.args).length : Int), x < X.length := by
        intro l
        induction l with
        | nil => intro _ x hx; simp [Tm.loosess] at hx
        | cons t l ihl =>
          intro hl x hx
          rw [Tm.loosess] at hx
          rcases List.mem_append.1 hx with hx | hx
          · obtain ⟨hm, u', hu'⟩ := hl t (by simp)
            rw [List.append_assoc] at hu'
            exact ih t hm (Y ++ u.args) u' hu' x hx
          · exact ihl (fun t ht => hl t (by simp [ht])) x hx
      refine key a (fun t ht => ⟨ht, ?_⟩) x hx
      obtain ⟨j, hj, rfl⟩ := List.getElem_of_mem ht
      exact ⟨_, hs.2 j hj (by omega)⟩

end Go.Proofs.Ytnpjjkeokcoedaa

namespace Go.Proofs.Ytnpjjkeokcoedaa
open Go.RowKit
namespace Li
variable {C M B : List Ty}
theorem arr_args (B : List Ty) (t : Ty) : (arr B t).args = B ++ t.args := rfl
theorem head_lif {Y : List Ty} {k i : Int} {h : Ty} (hh : headTy C M Y k i = some h) : headTy C (M.map (arr B)) (B ++ Y) k i = some (if k = 2 then arr B h else h) := by
  by_cases hn : i < 0
  · rw [headTy_neg hn] at hh; cases hh
  · by_cases h0 : k = 0
    · subst h0
      rw [if_neg (by decide)]
      have hl : i < Y.length := by
        rw [headTy_0i (by omega)] at hh
        have := (List.getElem?_eq_some_iff.1 hh).1
        rw [List.length_reverse] at this; omega
      rw [headTy_last (by omega) hl]
      rw [← hh, headTy_0i (by omega), headTy_0i (by omega)]
    · by_cases h1 : k = 1
      · subst h1
        rw [if_neg (by decide)]
        obtain ⟨n, rfl⟩ := Int.eq_ofNat_of_zero_le (Int.not_lt.1 hn)
        rw [headTy_1] at hh ⊢
        exact hh
      · by_cases h2 : k = 2
        · subst h2
          rw [if_pos rfl]
          obtain ⟨n, rfl⟩ := Int.eq_ofNat_of_zero_le (Int.not_lt.1 hn)
          rw [headTy_2] at hh ⊢
          rw [List.getElem?_map, hh]; rfl
        · rw [headTy_o h0 h1 h2] at hh; cases hh
theorem var_isOf (hB : (B.length : Int) ≤ 1000) {Y : List Ty} (hY : (Y.length : Int) + B.length ≤ 1000) (j : Nat) (hj : j < B.length) : IsOf C M (Ty.Eta B[j] 0 ((Y.length : Int) + B.length - 1 - j)) (B ++ Y) B[j] := by
  unfold Ty.Eta
  rw [if_neg (by omega)]
  refine eta_isOf B[j] (B ++ Y) 0 _ ?_
  rw [headTy_0i (by omega), List.getElem?_reverse (by simp; omega)]
  rw [show (B ++ Y).length - 1 - ((Y.length : Int) + B.length - 1 - j).toNat = j by rw [List.length_append]; omega]
  rw [List.getElem?_append_left hj, List.getElem?_eq_getElem hj]
theorem isOfs_app {X : List Ty} : ∀ {l r : List Tm} {l' r' : List Ty}, IsOfs C M l X l' → IsOfs C M r X r' → IsOfs C M (l ++ r) X (l' ++ r')
  | [], r, [], r', _, h => h
  | [], _, _ :: _, _, h, _ => by simp [IsOfs] at h
  | _ :: _, _, [], _, h, _ => by simp [IsOfs] at h
  | t :: l, r, u :: l', r', h, h2 => by
    rw [IsOfs] at h
    rw [List.cons_append, List.cons_append, IsOfs]
    exact ⟨h.1, isOfs_app h.2 h2⟩
theorem vars_isOf {Y : List Ty} (hY : (Y.length : Int) + B.length ≤ 1000) : IsOfs C M (vars B Y.length) (B ++ Y) B := by
  rw [isOfs_iff]
  refine ⟨(vars_len B _).symm, fun i h h' => ?_⟩
  rw [vars_get B _ i h']
  exact var_isOf (by omega) hY i h'
theorem isOfs_lif_of {l : List Tm} (h : ∀ t ∈ l, ∀ X u, (X.length : Int) + t.full + B.length ≤ 1000 → IsOf C M t X u → IsOf C (M.map (arr B)) (lif B t X.length) (B ++ X) u) : ∀ X us, (X.length : Int) + Tm.fulls l + B.length ≤ 1000 → IsOfs C M l X us → IsOfs C (M.map (arr B)) (lifs B l X.length) (B ++ X) us := by
  induction l with
  | nil =>
    intro X us _ hu
    rw [lifs]
    cases us with
    | nil => rw [IsOfs]; trivial
    | cons u us => rw [IsOfs] at hu; exact hu.elim
  | cons t l ih =>
    intro X us hz hu
    rw [Tm.fulls] at hz
    rw [lifs]
    cases us with
    | nil => rw [IsOfs] at hu; exact hu.elim
    | cons u us =>
      rw [IsOfs] at hu ⊢
      exact ⟨h t (by simp) X u (by omega) hu.1, ih (fun v hv => h v (by simp [hv])) X us (by omega) hu.2⟩
theorem lif_isOf (t : Tm) : ∀ (X : List Ty) (u : Ty), (X.length : Int) + t.full + B.length ≤ 1000 → IsOf C M t X u → IsOf C (M.map (arr B)) (lif B t X.length) (B ++ X) u := by
  induction t using Tm.ind with
  | h b k i a ih =>
    intro X u hz hu
    rw [Tm.full_eq] at hz
    have hbl := Ty.le_sizes b
    obtain ⟨h1, h, h2, h3, h4⟩ := isOf_mk.1 hu
    have e : ((X.length : Int) + (b.length : Int)) = ((X ++ b).length : Nat) := by rw [List.length_append]; omega
    have hl : ((X ++ b).length : Nat) = X.length + b.length := List.length_append
    have h5 := isOfs_lif_of ih (X ++ b) h.args (by omega) h4
    rw [lif_eq, e]
    refine isOf_mk.2 ⟨h1, _, by rw [List.append_assoc]; exact head_lif h2, ?_, ?_⟩
    · rw [← h3]; split <;> rfl
    · rw [List.append_assoc]
      by_cases hk : k = 2
      · rw [if_pos hk, if_pos hk, arr_args]
        exact isOfs_app (vars_isOf (by omega)) h5
      · rw [if_neg hk, if_neg hk, List.nil_append]; exact h5
theorem cl_isOf {t : Tm} {u : Ty} (h : IsOf C M t B u) : IsOf C M (cl t B) [] (arr B u) := by
  obtain ⟨b, k, i, a⟩ := t
  obtain ⟨h1, h, h2, h3, h4⟩ := isOf_mk.1 h
  unfold cl
  refine isOf_mk.2 ⟨?_, h, ?_, h3, ?_⟩
  · show B ++ b = _
    rw [h1]; rfl
  · show headTy C M ([] ++ (B ++ b)) k i = some h
    rw [List.nil_append]; exact h2
  · show IsOfs C M a ([] ++ (B ++ b)) h.args
    rw [List.nil_append]; exact h4
/-! metavariables are there -/
theorem metas_in_of {l : List Tm} (h : ∀ t ∈ l, ∀ X u, IsOf C M t X u → ∀ s d, ∀ x ∈ metasP (t.pre s d), 0 ≤ x ∧ x < M.length) : ∀ X us, IsOfs C M l X us → ∀ s d, ∀ x ∈ metasP (Tm.pres l s d), 0 ≤ x ∧ x < M.length := by
  induction l with
  | nil => intro X us _ s d x hx; simp [Tm.pres, metasP] at hx
  | cons t l ih =>
    intro X us hu s d x hx
    cases us with
    | nil => rw [IsOfs] at hu; exact hu.elim
    | cons u us =>
      rw [IsOfs] at hu
      rw [Tm.pres, Ru.metasP_app] at hx
      rcases List.mem_append.1 hx with hx | hx
      · exact h t (by simp) X u hu.1 s d x hx
      · exact ih (fun v hv => h v (by simp [hv])) X us hu.2 s d x hx
theorem metas_in (t : Tm) : ∀ X u, IsOf C M t X u → ∀ s d, ∀ x ∈ metasP (t.pre s d), 0 ≤ x ∧ x < M.length := by
  induction t using Tm.ind with
  | h b k i a ih =>
    intro X u hu s d x hx
    obtain ⟨h1, h, h2, h3, h4⟩ := isOf_mk.1 hu
    have hr := metas_in_of ih _ _ h4 (s + b.length) (d + 1)
    rw [Tm.pre_eq] at hx
    unfold metasP at hx hr
    rw [List.filterMap_cons] at hx
    by_cases hk : k = 2
    · simp only [kindT, indexT, hk, if_true, List.mem_cons] at hx
      rcases hx with rfl | hx
      · subst hk
        by_cases hn : x < 0
        · rw [headTy_neg hn] at h2; cases h2
        · obtain ⟨n, rfl⟩ := Int.eq_ofNat_of_zero_le (Int.not_lt.1 hn)
          rw [headTy_2] at h2
          have := (List.getElem?_eq_some_iff.1 h2).1
          omega
      · exact hr x hx
    · simp only [kindT, hk, if_false] at hx
      exact hr x hx
/-! patterns -/
theorem long_Eta (t : Ty) (i : Int) (h : 0 ≤ i ∧ i ≤ 1000) : longB (Ty.Eta t 0 i) = true ∧ (Ty.Eta t 0 i).kind = 0 ∧ (Ty.Eta t 0 i).headIx = i := by
  unfold Ty.Eta
  rw [if_neg (by omega)]
  obtain ⟨l, b⟩ := t
  rw [Ty.eta_eq, if_pos rfl]
  refine ⟨?_, rfl, ?_⟩
  · unfold longB
    show (decide (Ty.etas l = Ty.etas l) && (!decide ((0 : Int) = 0) || decide ((l.length : Int) ≤ i + l.length))) = true
    simp; omega
  · show (if (0 : Int) = 0 then i + (l.length : Nat) - (l.length : Nat) else i + (l.length : Nat)) = i
    rw [if_pos rfl]; omega
theorem lifs_k0_of {B : List Ty} {l : List Tm} (h : ∀ t ∈ l, ∀ n, Ru.K0 t → lif B t n = t) : ∀ n, Ru.K0s l → lifs B l n = l := by
  induction l with
  | nil => intro n _; rw [lifs]
  | cons t l ih =>
    intro n hk
    rw [Ru.K0s] at hk
    rw [lifs, h t (by simp) n hk.1, ih (fun u hu => h u (by simp [hu])) n hk.2]
theorem lif_k0 (B : List Ty) (t : Tm) : ∀ n, Ru.K0 t → lif B t n = t := by
  induction t using Tm.ind with
  | h b k i a ih =>
    intro n hk
    rw [Ru.k0_eq] at hk
    rw [lif_eq, if_neg hk.1, List.nil_append, lifs_k0_of ih _ hk.2]
theorem k0s_lif_of {B : List Ty} {l : List Tm} (h : ∀ t ∈ l, ∀ n, Ru.K0 (lif B t n) → Ru.K0 t) : ∀ n, Ru.K0s (lifs B l n) → Ru.K0s l := by
  induction l with
  | nil => intro n _; rw [Ru.K0s]; trivial
  | cons t l ih =>
    intro n hk
    rw [lifs, Ru.K0s] at hk
    rw [Ru.K0s]
    exact ⟨h t (by simp) n hk.1, ih (fun u hu => h u (by simp [hu])) n hk.2⟩
theorem k0_lif (B : List Ty) (t : Tm) : ∀ n, Ru.K0 (lif B t n) → Ru.K0 t := by
  induction t using Tm.ind with
  | h b k i a ih =>
    intro n hk
    rw [lif_eq, Ru.k0_eq] at hk
    rw [if_neg hk.1, List.nil_append] at hk
    exact (Ru.k0_eq ..).2 ⟨hk.1, k0s_lif_of ih _ hk.2⟩
theorem lifs_etas (B : List Ty) (a : List Tm) (n : Int) (b : List Ty) : lifs B a n = Ty.etas b ↔ a = Ty.etas b := by
  constructor
  · intro h
    have h1 : Ru.K0s (lifs B a n) := by rw [h]; exact Ru.etas_k0_of fun t _ => Ru.eta_k0 t
    rw [← lifs_k0_of (fun t _ => lif_k0 B t) n (k0s_lif_of (fun t _ => k0_lif B t) n h1), h]
  · rintro rfl; exact lifs_k0_of (fun t _ => lif_k0 B t) n (Ru.etas_k0_of fun t _ => Ru.eta_k0 t)
def ixs (m b : Int) (j : Nat) : List Int := (List.range j).map fun i => m + b - 1 - (i : Nat)
theorem ixs_succ (m b : Int) (j : Nat) : ixs m b (j + 1) = ixs m b j ++ [m + b - 1 - (j : Nat)] := by unfold ixs; rw [List.range_succ, List.map_append]; rfl
theorem ixs_mem {m b : Int} {j : Nat} {x : Int} (h : x ∈ ixs m b j) : m + b - 1 - j < x ∧ x ≤ m + b - 1 := by
  unfold ixs at h
  obtain ⟨i, hi, rfl⟩ := List.mem_map.1 h
  have := List.mem_range.1 hi
  omega
theorem varsL_vars (B : List Ty) (m : Nat) (hm : (m : Int) + B.length ≤ 1000) : ∀ j, j ≤ B.length → Pn.varsL (m + B.length : Nat) ((vars B m).take j) [] = some (ixs m B.length j)
  | 0, _ => by simp [Pn.varsL, ixs]
  | j + 1, h => by
    have hl : j < (vars B (m : Int)).length := by rw [vars_len]; omega
    have ih := varsL_vars B m hm j (by omega)
    rw [Pn.varsL_take _ _ j hl ih, vars_get B m j (by omega)]
    obtain ⟨h1, h2, h3⟩ := long_Eta B[j] ((m : Int) + B.length - 1 - j) (by omega)
    have hv : Pn.isVar (m + B.length : Nat) (ixs m B.length j) (Ty.Eta B[j] 0 ((m : Int) + B.length - 1 - j)) = true := by
      unfold Pn.isVar
      rw [h1, h2, h3, Bool.true_and, decide_eq_true rfl, Bool.true_and, Bool.and_eq_true, decide_eq_true_eq]
      refine ⟨by omega, ?_⟩
      rw [Bool.not_eq_true', Bool.eq_false_iff]
      intro hc
      have := ixs_mem (List.contains_iff_mem.1 hc)
      omega
    rw [if_pos hv, h3, ixs_succ]
theorem isVar_lif {Y : List Ty} {acc : List Int} {t : Tm} {u : Ty} (hu : IsOf C M t Y u) (hb : (Y.length : Int) + B.length ≤ 1000) :
    Pn.isVar (Y.length + B.length : Nat) (ixs Y.length B.length B.length ++ acc) (lif B t Y.length) = Pn.isVar (Y.length : Nat) acc t ∧ (Pn.isVar (Y.length : Nat) acc t = true → (lif B t Y.length).headIx = t.headIx) := by
  obtain ⟨b, k, i, a⟩ := t
  rw [lif_eq]
  by_cases hk : k = 0
  · subst hk
    rw [if_neg (by decide), List.nil_append]
    obtain ⟨h1, h, h2, _⟩ := isOf_mk.1 hu
    refine ⟨?_, fun _ => rfl⟩
    have e : longB (.mk b 0 i (lifs B a (Y.length + b.length))) = longB (.mk b 0 i a) := by
      unfold longB
      have : decide (lifs B a (Y.length + b.length) = Ty.etas b) = decide (a = Ty.etas b) := by rw [decide_eq_decide]; exact lifs_etas B a _ b
      show (decide (lifs B a (Y.length + b.length) = Ty.etas b) && _) = (decide (a = Ty.etas b) && _)
      rw [this]; rfl
    have hx : i - b.length < Y.length := by
      by_cases hn : i < 0
      · rw [headTy_neg hn] at h2; cases h2
      · rw [headTy_0i (by omega)] at h2
        have := (List.getElem?_eq_some_iff.1 h2).1
        rw [List.length_reverse, List.length_append] at this; omega
    have hH : ∀ c, (Tm.mk b 0 i c).headIx = i - b.length := fun c => by show (if (0 : Int) = 0 then _ else _) = _; rw [if_pos rfl]; rfl
    unfold Pn.isVar
    rw [e, hH, hH]
    have d1 : decide (i - (b.length : Int) < (Y.length + B.length : Nat)) = true := decide_eq_true (by omega)
    have d2 : decide (i - (b.length : Int) < (Y.length : Nat)) = true := decide_eq_true (by omega)
    have d3 : (ixs Y.length B.length B.length ++ acc).contains (i - (b.length : Int)) = acc.contains (i - (b.length : Int)) := by
      rw [Bool.eq_iff_iff, List.contains_iff_mem, List.contains_iff_mem, List.mem_append]
      constructor
      · rintro (h | h)
        · have := ixs_mem h; omega
        · exact h
      · exact .inr
    rw [d1, d2, d3]; rfl
  · have h1 : ∀ (n x : Int) (acc : List Int) (c : List Tm), Pn.isVar n acc (.mk b k x c) = false := fun n x acc c => by
      unfold Pn.isVar
      rw [show decide ((Tm.mk b k x c).kind = 0) = false from decide_eq_false hk, Bool.false_and, Bool.and_false]
    rw [h1, h1]
    exact ⟨rfl, fun h => by cases h⟩
theorem varsL_lif {Y : List Ty} (hb : (Y.length : Int) + B.length ≤ 1000) : ∀ (l : List Tm) (us : List Ty) (acc : List Int), IsOfs C M l Y us → (Pn.varsL (Y.length + B.length : Nat) (lifs B l Y.length) (ixs Y.length B.length B.length ++ acc)).isSome = (Pn.varsL (Y.length : Nat) l acc).isSome
  | [], _, _, _ => by rw [lifs, Pn.varsL, Pn.varsL]; first | done | rfl
  | _ :: _, [], _, h => by rw [IsOfs] at h; exact h.elim
  | t :: l, u :: us, acc, h => by
    rw [IsOfs] at h
    obtain ⟨h1, h2⟩ := isVar_lif (acc := acc) h.1 hb
    rw [lifs, Pn.varsL, Pn.varsL, h1]
    by_cases hv : Pn.isVar (Y.length : Nat) acc t = true
    · rw [if_pos hv, if_pos hv, h2 hv, List.append_assoc, varsL_lif hb l us _ h.2]
    · rw [if_neg hv, if_neg hv]
theorem usess_lif_of {l : List Tm} (h : ∀ t ∈ l, ∀ X u, (X.length : Int) + t.full + B.length ≤ 1000 → IsOf C M t X u → ∀ p, (Pn.uses (lif B t X.length) (B ++ X) p).2 = (Pn.uses t X p).2) : ∀ X us, (X.length : Int) + Tm.fulls l + B.length ≤ 1000 → IsOfs C M l X us → ∀ p j, (Pn.usess (lifs B l X.length) (B ++ X) p j).2 = (Pn.usess l X p j).2 := by
  induction l with
  | nil => intro X us _ _ p j; rw [lifs, Pn.usess, Pn.usess]
  | cons t l ih =>
    intro X us hz hu p j
    rw [Tm.fulls] at hz
    cases us with
    | nil => rw [IsOfs] at hu; exact hu.elim
    | cons u us =>
      rw [IsOfs] at hu
      rw [lifs, Pn.usess, Pn.usess, h t (by simp) X u (by omega) hu.1]
      split
      · exact ih (fun v hv => h v (by simp [hv])) X us (by omega) hu.2 p (j + 1)
      · rfl
theorem uses_lif (t : Tm) : ∀ (X : List Ty) (u : Ty), (X.length : Int) + t.full + B.length ≤ 1000 → IsOf C M t X u → ∀ p, (Pn.uses (lif B t X.length) (B ++ X) p).2 = (Pn.uses t X p).2 := by
  induction t using Tm.ind with
  | h b k i a ih =>
    intro X u hz hu p
    rw [Tm.full_eq] at hz
    have hbl := Ty.le_sizes b
    obtain ⟨h1, h, h2, h3, h4⟩ := isOf_mk.1 hu
    have e : ((X.length : Int) + (b.length : Int)) = ((X ++ b).length : Nat) := by rw [List.length_append]; omega
    have hl : ((X ++ b).length : Nat) = X.length + b.length := List.length_append
    rw [lif_eq, e, Pn.uses_eq, Pn.uses_eq]
    by_cases hk : k = 2
    · rw [if_pos hk, if_pos hk, if_pos hk]
      have hv := varsL_lif (C := C) (M := M) (B := B) (Y := X ++ b) (by omega) a h.args [] h4
      rw [List.append_nil] at hv
      have hw := varsL_vars B (X ++ b).length (by omega) B.length (Nat.le_refl _)
      rw [List.take_of_length_le (by rw [vars_len]; exact Nat.le_refl _)] at hw
      have en : ((B ++ X ++ b).length : Nat) = (X ++ b).length + B.length := by simp only [List.length_append]; omega
      rw [en, Pn.varsL_app, hw, Option.bind_some]
      have key : ∀ (o : Option (List Int)) (f g : List Int → List Pn.Use), (match o with | some v => (f v, true) | none => (g [], false)).2 = o.isSome := fun o f g => by cases o <;> rfl
      cases h5 : Pn.varsL ((X ++ b).length + B.length : Nat) (lifs B a ((X ++ b).length : Nat)) (ixs ((X ++ b).length : Nat) B.length B.length) with
      | none =>
        rw [h5] at hv
        cases h6 : Pn.varsL ((X ++ b).length : Nat) a [] with
        | none => rfl
        | some v => rw [h6] at hv; cases hv
      | some w =>
        rw [h5] at hv
        cases h6 : Pn.varsL ((X ++ b).length : Nat) a [] with
        | none => rw [h6] at hv; cases hv
        | some v => rfl
    · rw [if_neg hk, if_neg hk, if_neg hk, List.nil_append, List.append_assoc]
      exact usess_lif_of ih (X ++ b) h.args (by omega) h4 p 0
theorem uses_cl (t : Tm) (B : List Ty) : (Pn.uses (cl t B) [] []).2 = (Pn.uses t B []).2 := by
  obtain ⟨b, k, i, a⟩ := t
  unfold cl
  show (Pn.uses (.mk (B ++ b) k i a) [] []).2 = _
  rw [Pn.uses_eq, Pn.uses_eq, List.nil_append]
theorem uses_closed {t : Tm} {u : Ty} (hz : (t.full : Int) + B.length ≤ 1000) (hu : IsOf C M t [] u) : (Pn.uses (cl (lif B t 0) B) [] []).2 = (Pn.uses t [] []).2 := by
  have h := uses_lif (B := B) t [] u (by simpa using hz) hu []
  rw [List.append_nil] at h
  rw [uses_cl]
  exact h
end Li
end Go.Proofs.Ytnpjjkeokcoedaa

namespace Go.Proofs.Ytnpjjkeokcoedaa
open Go.RowKit
namespace Li
theorem over_at {p : Pr} {B : List Ty} (h : (over p B).2 = 0) : may p.l p.r p.m B = 0 ∧ (over p B).1 = up p B ∧ (rt (lif B p.l 0) && rt (lif B p.r 0)) = true := by
  unfold over at h ⊢
  by_cases hm : may p.l p.r p.m B = 0
  · rw [if_neg (fun h => h hm)] at h ⊢
    refine ⟨hm, ?_⟩
    unfold done at h ⊢
    by_cases hr : (rt (up p B).l && rt (up p B).r) = true
    · rw [if_pos hr]; exact ⟨rfl, hr⟩
    · rw [if_neg hr] at h; cases h
  · rw [if_pos hm] at h; exact absurd h hm
def Sm (p : Pr) : Prop := p.l.full ≤ 400000 ∧ p.r.full ≤ 400000 ∧ Ty.sizes p.m ≤ 800000
theorem z_sm : Sm .z := ⟨by decide, by decide, by decide⟩
structure In (p : Pr) (B : List Ty) : Prop where
  l : p.l.full ≤ 150 ∧ p.l.Fit
  r : p.r.full ≤ 150 ∧ p.r.Fit
  ml : p.m.length ≤ 20
  m : ∀ t ∈ p.m, t.size ≤ 60
  bl : B.length ≤ 8
  b : ∀ t ∈ B, t.size ≤ 60
variable {p : Pr} {B : List Ty}
theorem In.bs (h : In p B) : Ty.sizes B ≤ 480 := by have := sizes_le22 h.b; have := h.bl; omega
theorem In.fullL (h : In p B) : (lif B p.l 0).full ≤ 4400000 := by have := lif_full h.b h.bl p.l 0; have := h.l.1; omega
theorem In.fullR (h : In p B) : (lif B p.r 0).full ≤ 4400000 := by have := lif_full h.b h.bl p.r 0; have := h.r.1; omega
theorem In.rtL (h : In p B) (hr : rt (lif B p.l 0) = true) : (lif B p.l 0).full ≤ 300150 := by
  have h1 := lif_wide h.b p.l 0
  have := h.l.1
  unfold rt at hr
  rw [decide_eq_true_eq] at hr
  omega
theorem In.rtR (h : In p B) (hr : rt (lif B p.r 0) = true) : (lif B p.r 0).full ≤ 300150 := by
  have h1 := lif_wide h.b p.r 0
  have := h.r.1
  unfold rt at hr
  rw [decide_eq_true_eq] at hr
  omega
theorem In.fitL (h : In p B) : (lif B p.l 0).Fit := lif_fit h.b (by have := h.bl; omega) p.l 0 (by omega) (by have := h.l.1; omega) h.l.2
theorem In.fitR (h : In p B) : (lif B p.r 0).Fit := lif_fit h.b (by have := h.bl; omega) p.r 0 (by omega) (by have := h.r.1; omega) h.r.2
theorem In.ms (h : In p B) : Ty.sizes (p.m.map (arr B)) ≤ 800000 := by
  have h1 : ∀ t ∈ p.m.map (arr B), t.size ≤ 540 := fun t ht => by
    obtain ⟨u, hu, rfl⟩ := List.mem_map.1 ht
    have h1 := h.m u hu
    have h2 := h.bs
    obtain ⟨a, b⟩ := u
    rw [ty_size] at h1
    unfold arr
    rw [ty_size, Ty.sizes_append]
    simp only [args_mk']; omega
  have := sizes_le22 h1
  rw [List.length_map] at this
  have := h.ml; omega
theorem cl_full (t : Tm) (B : List Ty) : (cl t B).full = Ty.sizes B + t.full := by
  obtain ⟨b, k, i, a⟩ := t
  unfold cl
  rw [Tm.full_eq, Tm.full_eq, Ty.sizes_append]
  simp only [bindsT, argsTm]; omega
theorem cl_fit {t : Tm} (h : t.Fit) (B : List Ty) : (cl t B).Fit := by
  obtain ⟨b, k, i, a⟩ := t
  exact Tm.fit_iff.2 (Tm.fit_iff.1 h)
theorem In.closed_sm (h : In p B) : Sm (closed p B).1 := by
  unfold closed
  by_cases he : (over p B).2 = 0
  · rw [if_neg (fun h => h he)]
    obtain ⟨_, h2, h3⟩ := over_at he
    rw [Bool.and_eq_true] at h3
    unfold done
    split
    · rw [h2]
      have hb := h.bs
      exact ⟨by have := h.rtL h3.1; show (cl (lif B p.l 0) B).full ≤ _; rw [cl_full]; omega, by have := h.rtR h3.2; show (cl (lif B p.r 0) B).full ≤ _; rw [cl_full]; omega, h.ms⟩
    · exact z_sm
  · rw [if_pos he]; exact z_sm
end Li
end Go.Proofs.Ytnpjjkeokcoedaa

namespace Go.Proofs.Ytnpjjkeokcoedaa
open Go.RowKit
def TRS_52 : TI := ⟨2, true, [Value.slice none 0 0, Value.int IntKind.i64 0], [(0, 1, false), (1, 1, false)], none, 32, 6, none, false⟩
theorem TRS_52_ok : TypOk Try.prog 52 TRS_52 := ⟨by kernel_rfl, by kernel_rfl, by kernel_rfl, by kernel_rfl, by kernel_rfl⟩
def TRS_36 : TI := ⟨1, false, [Value.slice none 0 0], [], some 52, 24, 5, none, false⟩
theorem TRS_36_ok : TypOk Try.prog 36 TRS_36 := ⟨by kernel_rfl, by kernel_rfl, by kernel_rfl, by kernel_rfl, by kernel_rfl⟩
def TRS : List (Nat × TI) := [(52, TRS_52), (36, TRS_36)]
theorem TRS_ok : TabOk Try.prog TRS := (((TabOk.nil _).cons TRS_36_ok).cons TRS_52_ok)
namespace Ru
end Ru
theorem rutypes_d (M : List Ty) (h : Ty.sizes M ≤ 800000) : PureC Try.prog 35 [.sl 2 (eTys M) none] (.sl 2 (eTys M) none) := by
 have ha := arrow_d (.mk [] 0) M (by rw [ty_size]; simp [Ty.sizes]; omega)
 simp only [eTy_eq, args_mk', base_mk', List.append_nil] at ha
 refine calldw 0 7 [ResultVar.tmp 2] TRS_ok Try.func35 rfl Try.ntmps35 rfl fun cx hnt hn0 => ?_
 ·skip
  refine dw_seq ?_; refine dwk [] TRS_ok hnt fun K hK => ?_; refine hK _ _ ?_; clear hK K; refine dw_seq ?_; refine dwk [(3, .ag [.sl 2 (eTys []) none, .v (.int .i64 0)])] TRS_ok hnt fun K hK => ?_; refine And.intro (auV) ?_; refine dcl (ha) ?_; refine hK _ _ ?_; clear hK K; refine dw_ret ?_
  exact reta rfl
end Go.Proofs.Ytnpjjkeokcoedaa

namespace Go.Proofs.Ytnpjjkeokcoedaa
open Go.RowKit
def TRM_38 : TI := ⟨3, true, [Value.int IntKind.i64 0, Value.slice none 0 0, Value.slice none 0 0], [(0, 1, false), (1, 1, false), (2, 1, false)], none, 56, 6, none, false⟩
theorem TRM_38_ok : TypOk Try.prog 38 TRM_38 := ⟨by kernel_rfl, by kernel_rfl, by kernel_rfl, by kernel_rfl, by kernel_rfl⟩
def TRM_36 : TI := ⟨1, false, [Value.slice none 0 0], [], some 52, 24, 5, none, false⟩
theorem TRM_36_ok : TypOk Try.prog 36 TRM_36 := ⟨by kernel_rfl, by kernel_rfl, by kernel_rfl, by kernel_rfl, by kernel_rfl⟩
def TRM_24 : TI := ⟨3, true, [Value.int IntKind.i64 0, Value.slice none 0 0, Value.slice none 0 0], [(0, 1, false), (1, 1, false), (2, 1, false)], none, 56, 6, none, false⟩
theorem TRM_24_ok : TypOk Try.prog 24 TRM_24 := ⟨by kernel_rfl, by kernel_rfl, by kernel_rfl, by kernel_rfl, by kernel_rfl⟩
def TRM_22 : TI := ⟨1, false, [Value.slice none 0 0], [], some 69, 24, 5, none, false⟩
theorem TRM_22_ok : TypOk Try.prog 22 TRM_22 := ⟨by kernel_rfl, by kernel_rfl, by kernel_rfl, by kernel_rfl, by kernel_rfl⟩
def TRM_45 : TI := ⟨9, true, [Value.slice none 0 0, Value.int IntKind.i64 0, Value.int IntKind.i64 0, Value.slice none 0 0, Value.slice none 0 0, Value.int IntKind.i64 0, Value.int IntKind.i64 0, Value.slice none 0 0, Value.slice none 0 0], [(0, 4, true), (4, 4, true), (8, 1, false)], none, 152, 6, none, false⟩
theorem TRM_45_ok : TypOk Try.prog 45 TRM_45 := ⟨by kernel_rfl, by kernel_rfl, by kernel_rfl, by kernel_rfl, by kernel_rfl⟩
def TRM_3 : TI := ⟨1, false, [Value.int IntKind.i64 0], [], none, 8, 2, none, false⟩
theorem TRM_3_ok : TypOk Try.prog 3 TRM_3 := ⟨by kernel_rfl, by kernel_rfl, by kernel_rfl, by kernel_rfl, by kernel_rfl⟩
def TRM_69 : TI := ⟨2, true, [Value.slice none 0 0, Value.int IntKind.i64 0], [(0, 1, false), (1, 1, false)], none, 32, 6, none, false⟩
theorem TRM_69_ok : TypOk Try.prog 69 TRM_69 := ⟨by kernel_rfl, by kernel_rfl, by kernel_rfl, by kernel_rfl, by kernel_rfl⟩
def TRM_52 : TI := ⟨2, true, [Value.slice none 0 0, Value.int IntKind.i64 0], [(0, 1, false), (1, 1, false)], none, 32, 6, none, false⟩
theorem TRM_52_ok : TypOk Try.prog 52 TRM_52 := ⟨by kernel_rfl, by kernel_rfl, by kernel_rfl, by kernel_rfl, by kernel_rfl⟩
def TRM : List (Nat × TI) := [(38, TRM_38), (36, TRM_36), (24, TRM_24), (22, TRM_22), (45, TRM_45), (3, TRM_3), (69, TRM_69), (52, TRM_52)]
theorem TRM_ok : TabOk Try.prog TRM := (((((((((TabOk.nil _).cons TRM_52_ok).cons TRM_69_ok).cons TRM_3_ok).cons TRM_45_ok).cons TRM_22_ok).cons TRM_24_ok).cons TRM_36_ok).cons TRM_38_ok)
namespace Ru
end Ru
theorem twd_d (b : Int) (C M : List Ty) (h1 : Ty.sizes C ≤ 900000) (h2 : Ty.sizes M ≤ 900000) : PureC Try.prog 8 [.ag [.v (.int .i64 b), .sl 2 (eTys C) none, .sl 2 (eTys M) none]] (.ag [.v (.int .i64 b), .sl 2 (eTys C) none, .sl 2 (eTys M) none]) := by
 have hC := toTys_d C h1
 have hM := toTys_d M h2
 refine calldw 0 12 [ResultVar.cell 2 38] TRM_ok Try.func8 rfl Try.ntmps8 rfl fun cx hnt hn0 => ?_
 ·skip
  refine dw_seq ?_; refine dwk [] TRM_ok hnt fun K hK => ?_; refine hK _ _ ?_; clear hK K; refine dw_seq ?_; refine dwkD [] TRM_ok hnt fun K hK => ?_; refine dcl (hC) ?_; refine dcl (hM) ?_; refine hK _ _ (by kernel_rfl) ?_; clear hK K; refine dw_ret ?_
  exact reta rfl
theorem ruworld_d (b : Int) (C Mw : List Ty) (p : Li.Pr) (h1 : Ty.sizes C ≤ 800000) (h2 : Ty.sizes p.m ≤ 800000) : PureC Try.prog 14 [.ag [.v (.int .i64 b), .sl 2 (eTys C) none, .sl 2 (eTys Mw) none], .ag (ePr p)] (.ag [.v (.int .i64 b), .sl 2 (eTys C) none, .sl 2 (eTys p.m) none]) := by
 have hC := rutypes_d C h1
 have hM := rutypes_d p.m h2
 rw [ePr_at]
 refine calldw 0 14 [ResultVar.cell 4 38] TRM_ok Try.func14 rfl Try.ntmps14 rfl fun cx hnt hn0 => ?_
 ·skip
  refine dw_seq ?_; refine dwk [] TRM_ok hnt fun K hK => ?_; refine hK _ _ ?_; clear hK K; refine dw_seq ?_; refine dwkD [] TRM_ok hnt fun K hK => ?_; refine dcl (hC) ?_; refine dcl (hM) ?_; refine hK _ _ (by kernel_rfl) ?_; clear hK K; refine dw_ret ?_
  exact reta rfl
end Go.Proofs.Ytnpjjkeokcoedaa

namespace Go.Proofs.Ytnpjjkeokcoedaa
open Go.RowKit

end Go.Proofs.Ytnpjjkeokcoedaa

namespace Go.Proofs.Ytnpjjkeokcoedaa
open Go.RowKit

end Go.Proofs.Ytnpjjkeokcoedaa

namespace Go.Proofs.Ytnpjjkeokcoedaa
open Go.RowKit

end Go.Proofs.Ytnpjjkeokcoedaa

namespace Go.Proofs.Ytnpjjkeokcoedaa
open Go.RowKit
def TRJ_29 : TI := ⟨4, true, [Value.slice none 0 0, Value.int IntKind.i64 0, Value.int IntKind.i64 0, Value.slice none 0 0], [(0, 1, false), (1, 2, true), (3, 1, false)], none, 64, 6, none, false⟩
theorem TRJ_29_ok : TypOk Try.prog 29 TRJ_29 := ⟨by kernel_rfl, by kernel_rfl, by kernel_rfl, by kernel_rfl, by kernel_rfl⟩
def TRJ_31 : TI := ⟨9, true, [Value.slice none 0 0, Value.int IntKind.i64 0, Value.int IntKind.i64 0, Value.slice none 0 0, Value.slice none 0 0, Value.int IntKind.i64 0, Value.int IntKind.i64 0, Value.slice none 0 0, Value.slice none 0 0], [(0, 4, true), (4, 4, true), (8, 1, false)], none, 152, 6, none, false⟩
theorem TRJ_31_ok : TypOk Try.prog 31 TRJ_31 := ⟨by kernel_rfl, by kernel_rfl, by kernel_rfl, by kernel_rfl, by kernel_rfl⟩
def TRJ_52 : TI := ⟨2, true, [Value.slice none 0 0, Value.int IntKind.i64 0], [(0, 1, false), (1, 1, false)], none, 32, 6, none, false⟩
theorem TRJ_52_ok : TypOk Try.prog 52 TRJ_52 := ⟨by kernel_rfl, by kernel_rfl, by kernel_rfl, by kernel_rfl, by kernel_rfl⟩
def TRJ_3 : TI := ⟨1, false, [Value.int IntKind.i64 0], [], none, 8, 2, none, false⟩
theorem TRJ_3_ok : TypOk Try.prog 3 TRJ_3 := ⟨by kernel_rfl, by kernel_rfl, by kernel_rfl, by kernel_rfl, by kernel_rfl⟩
def TRJ_36 : TI := ⟨1, false, [Value.slice none 0 0], [], some 52, 24, 5, none, false⟩
theorem TRJ_36_ok : TypOk Try.prog 36 TRJ_36 := ⟨by kernel_rfl, by kernel_rfl, by kernel_rfl, by kernel_rfl, by kernel_rfl⟩
def TRJ : List (Nat × TI) := [(29, TRJ_29), (31, TRJ_31), (52, TRJ_52), (3, TRJ_3), (36, TRJ_36)]
theorem TRJ_ok : TabOk Try.prog TRJ := ((((((TabOk.nil _).cons TRJ_36_ok).cons TRJ_3_ok).cons TRJ_52_ok).cons TRJ_31_ok).cons TRJ_29_ok)

theorem rsize_d (t : Tm) (h : t.full ≤ 400000) : PureC Try.prog 22 [.ag (eTm t)] (.v (.int .i64 t.size)) := by
  refine pure_below (by kernel_rfl) fun m Im w vs hv => ?_
  match vs, hv with
  | [x1], hv =>
    obtain ⟨b, k, i, a, rfl, ht⟩ := agTm hv.1
    refine (size6_r t ht w (by have := Tm.size_le_full t; omega) (Keep.refl _ _)).mono ?_
    rintro e w' ⟨rfl, hb⟩
    exact ⟨_, rfl, hb, fun _ _ _ => .v _⟩
namespace Ru
def wt (p : Li.Pr) : Int := (p.l.size : Int) + (p.r.size : Int)
def cmp (a b : Li.Pr) : Int := orl (sgn (wt a) (wt b)) (orl (Tm.cmp a.l b.l) (orl (Tm.cmp a.r b.r) (Tm.cmpB a.m b.m)))
end Ru
theorem rwt_d (p : Li.Pr) (h1 : p.l.full ≤ 400000) (h2 : p.r.full ≤ 400000) : PureC Try.prog 5 [.ag (ePr p)] (.v (.int .i64 (Ru.wt p))) := by
 have c1 := rsize_d p.l h1
 have c2 := rsize_d p.r h2
 have z1 := Tm.size_le_full p.l
 have z2 := Tm.size_le_full p.r
 rw [ePr_at]
 rw [eTm_eq] at c1 c2
 unfold Ru.wt
 refine calldw 0 10 [ResultVar.tmp 2] TRJ_ok Try.func5 rfl Try.ntmps5 rfl fun cx hnt hn0 => ?_
 ·skip
  refine dw_seq ?_; refine dwk [] TRJ_ok hnt fun K hK => ?_; refine hK _ _ ?_; clear hK K; refine dw_seq ?_; refine dwkD [(9, .v (.int .i64 (((p.l.size) + (p.r.size)))))] TRJ_ok hnt fun K hK => ?_; refine dcl (c1) ?_; refine dcl (c2) ?_; refine And.intro auI ?_; refine hK _ _ (by kernel_rfl) ?_; clear hK K; refine dw_ret ?_
  exact reta rfl
end Go.Proofs.Ytnpjjkeokcoedaa

