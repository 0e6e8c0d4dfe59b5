/-
  Package pattern, walked in the deep way: uses, Uses, Is. Deep values: rows that nothing else reads: how they begin, how they are handed on. Sorting that keeps the order of equal keys, in plain words. Places, uses and matching in plain Lean: the document's answer and the program's are one. Package slices' stable sort of pairs, walked in the deep way: insertion, swaps, rotation. Package slices' stable sort of pairs, walked in the deep way: the merge. Package slices' stable sort of pairs, walked in the deep way: the merge of many. Package slices' stable sort of pairs, walked in the deep way: the whole; subst.sorted, subst.Of. Package subst's lists, walked in the deep way: Without, Set, Domain, Get. The document's places and uses, walked in the deep way: All, At, Has, Vars, Uses; loose indexes. How many types and terms: exactly what the reference counts. How many terms: exactly what the reference counts; the laws' Few. What the laws' Few tells of a term. The laws' Small (seats without Chk9). Types and terms of the laws, there and back, walked in the deep way. Pairs of terms with the types of their metavariables (rule.Pair, filigreeref17.Pair), and the laws' helpers for them: To, Of, Same, Few. The readings of a row's arguments that are pairs of terms with their metavariables' types.
-/
import Derived.Test.YtdmiekaeodcehaaGreatRowRuleChecksp5
set_option maxRecDepth 100000
set_option maxHeartbeats 1000000
set_option linter.unusedVariables false
set_option linter.unusedSimpArgs false
namespace Go.Proofs.YtdmiekaeodcehaaGreat
open Go.RowKit
def TP3_36 : TI := ⟨4, true, [Value.slice none 0 0, Value.int IntKind.i64 0, Value.int IntKind.i64 0, Value.slice none 0 0], [(0, 1, false), (1, 2, true), (3, 1, false)], none, 64, 6, none, false⟩
theorem TP3_36_ok : TypOk Tryz.prog 36 TP3_36 := ⟨by kernel_rfl, by kernel_rfl, by kernel_rfl, by kernel_rfl, by kernel_rfl⟩
def TP3_82 : TI := ⟨1, false, [Value.slice none 0 0], [], some 3, 24, 5, none, false⟩
theorem TP3_82_ok : TypOk Tryz.prog 82 TP3_82 := ⟨by kernel_rfl, by kernel_rfl, by kernel_rfl, by kernel_rfl, by kernel_rfl⟩
def TP3_32 : TI := ⟨1, false, [Value.slice none 0 0], [], some 75, 24, 5, none, false⟩
theorem TP3_32_ok : TypOk Tryz.prog 32 TP3_32 := ⟨by kernel_rfl, by kernel_rfl, by kernel_rfl, by kernel_rfl, by kernel_rfl⟩
def TP3_156 : TI := ⟨1, false, [Value.slice none 0 0], [], some 195, 24, 5, none, false⟩
theorem TP3_156_ok : TypOk Tryz.prog 156 TP3_156 := ⟨by kernel_rfl, by kernel_rfl, by kernel_rfl, by kernel_rfl, by kernel_rfl⟩
def TP3_3 : TI := ⟨1, false, [Value.int IntKind.i64 0], [], none, 8, 2, none, false⟩
theorem TP3_3_ok : TypOk Tryz.prog 3 TP3_3 := ⟨by kernel_rfl, by kernel_rfl, by kernel_rfl, by kernel_rfl, by kernel_rfl⟩
def TP3_75 : TI := ⟨2, true, [Value.slice none 0 0, Value.int IntKind.i64 0], [(0, 1, false), (1, 1, false)], none, 32, 6, none, false⟩
theorem TP3_75_ok : TypOk Tryz.prog 75 TP3_75 := ⟨by kernel_rfl, by kernel_rfl, by kernel_rfl, by kernel_rfl, by kernel_rfl⟩
def TP3_34 : TI := ⟨1, false, [Value.slice none 0 0], [], some 36, 24, 5, none, false⟩
theorem TP3_34_ok : TypOk Tryz.prog 34 TP3_34 := ⟨by kernel_rfl, by kernel_rfl, by kernel_rfl, by kernel_rfl, by kernel_rfl⟩
def TP3_39 : TI := ⟨1, false, [Value.int IntKind.i64 0], [], none, 8, 2, none, false⟩
theorem TP3_39_ok : TypOk Tryz.prog 39 TP3_39 := ⟨by kernel_rfl, by kernel_rfl, by kernel_rfl, by kernel_rfl, by kernel_rfl⟩
def TP3_175 : TI := ⟨1, false, [Value.slice none 0 0], [], some 32, 24, 5, none, false⟩
theorem TP3_175_ok : TypOk Tryz.prog 175 TP3_175 := ⟨by kernel_rfl, by kernel_rfl, by kernel_rfl, by kernel_rfl, by kernel_rfl⟩
def TP3_33 : TI := ⟨2, true, [Value.int IntKind.i64 0, Value.int IntKind.i64 0], [(0, 1, false), (1, 1, false)], none, 16, 6, none, true⟩
theorem TP3_33_ok : TypOk Tryz.prog 33 TP3_33 := ⟨by kernel_rfl, by kernel_rfl, by kernel_rfl, by kernel_rfl, by kernel_rfl⟩
def TP3_195 : TI := ⟨4, true, [Value.int IntKind.i64 0, Value.slice none 0 0, Value.slice none 0 0, Value.slice none 0 0], [(0, 1, false), (1, 1, false), (2, 1, false), (3, 1, false)], none, 80, 6, none, false⟩
theorem TP3_195_ok : TypOk Tryz.prog 195 TP3_195 := ⟨by kernel_rfl, by kernel_rfl, by kernel_rfl, by kernel_rfl, by kernel_rfl⟩
def TP3 : List (Nat × TI) := [(36, TP3_36), (82, TP3_82), (32, TP3_32), (156, TP3_156), (3, TP3_3), (75, TP3_75), (34, TP3_34), (39, TP3_39), (175, TP3_175), (33, TP3_33), (195, TP3_195)]
theorem TP3_ok : TabOk Tryz.prog TP3 := ((((((((((((TabOk.nil _).cons TP3_195_ok).cons TP3_33_ok).cons TP3_175_ok).cons TP3_39_ok).cons TP3_34_ok).cons TP3_75_ok).cons TP3_3_ok).cons TP3_156_ok).cons TP3_32_ok).cons TP3_82_ok).cons TP3_36_ok)

def eUse (u : Pn.Use) : List D := [.v (.int .i64 u.mt), .sl 1 (eIs u.vars) none, .sl 2 (eTys u.binds) none, .sl 1 (eIs u.path) none]
def eUses (l : List Pn.Use) : List (List D) := l.map eUse
theorem eUses_len (l : List Pn.Use) : (eUses l).length = l.length := List.length_map ..
theorem eUses_append (l r : List Pn.Use) : eUses (l ++ r) = eUses l ++ eUses r := List.map_append ..
@[simp] theorem eUses_ok (f g : Nat → Bool) (l : List Pn.Use) : D.okss f g (eUses l) = true := D.okss_map _ l fun u _ => by simp [eUse, D.oks, D.ok, eIs_ok, eTys_ok]
namespace Pn
theorem usess_app (ar : List Ty) (p : List Int) : ∀ (l r : List Tm) (k : Nat), usess (l ++ r) ar p k = if (usess l ar p k).2 then ((usess l ar p k).1 ++ (usess r ar p (k + l.length)).1, (usess r ar p (k + l.length)).2) else ((usess l ar p k).1, false)
  | [], r, k => by simp [usess]
  | t :: l, r, k => by
    simp only [List.cons_append, usess]
    rw [usess_app ar p l r (k + 1), show k + 1 + l.length = k + (t :: l).length by simp; omega]
    by_cases h : (uses t ar (p ++ [(k : Int)])).2 = true
    · simp only [h, if_true]
      by_cases h2 : (usess l ar p (k + 1)).2 = true
      · simp [h2]
      · simp [h2]
    · simp [h]
theorem usess_take (ar : List Ty) (p : List Int) (a : List Tm) (j : Nat) (hj : j < a.length) (h : (usess (a.take j) ar p 0).2 = true) :
    usess (a.take (j + 1)) ar p 0 = ((usess (a.take j) ar p 0).1 ++ (uses a[j] ar (p ++ [(j : Int)])).1, (uses a[j] ar (p ++ [(j : Int)])).2) := by
  rw [List.take_add_one, List.getElem?_eq_getElem hj]
  show usess (a.take j ++ [a[j]]) ar p 0 = _
  rw [usess_app, if_pos h, List.length_take, Nat.min_eq_left (by omega), Nat.zero_add]
  simp only [usess]
  by_cases h2 : (uses a[j] ar (p ++ [(j : Int)])).2 = true
  · simp [h2]
  · simp [h2]
theorem usess_stop (ar : List Ty) (p : List Int) (a : List Tm) (j : Nat) (h : (usess (a.take j) ar p 0).2 = false) : usess a ar p 0 = usess (a.take j) ar p 0 := by
  have h1 : usess a ar p 0 = usess (a.take j ++ a.drop j) ar p 0 := by rw [List.take_append_drop]
  rw [h1, usess_app, if_neg (by simp [h])]
  rw [← h]
theorem usess_len (ar : List Ty) (p : List Int) : ∀ (a : List Tm) (k : Nat) (_ : ∀ t ∈ a, ∀ p, (uses t ar p).1.length ≤ t.full), (usess a ar p k).1.length ≤ Tm.fulls a
  | [], k, _ => by simp [usess, Tm.fulls]
  | t :: l, k, h => by
    have h1 := h t (by simp) (p ++ [(k : Int)])
    have h2 := usess_len ar p l (k + 1) fun t ht => h t (by simp [ht])
    rw [usess, Tm.fulls]
    split
    · simp; omega
    · dsimp only; omega
theorem uses_len (t : Tm) : ∀ (ar : List Ty) (p : List Int), (uses t ar p).1.length ≤ t.full := by
  induction t using Tm.ind with
  | h bs k i a ih =>
    intro ar p
    rw [uses_eq, Tm.full_eq]
    split
    · split <;> simp
    · have := usess_len (ar ++ bs) p a 0 fun t ht p => ih t ht _ p
      omega
end Pn
def usesV (l : List Pn.Use) (r : List Pn.Use × Bool) : D := if r.2 then .tu [.sl 4 (eUses (l ++ r.1)) (some 0), .v (.int .i64 0)] else .tu [.v (.slice none 0 0), .v (.int .i64 6)]
def UsesC (t : Tm) : Prop := ∀ (ar : List Ty) (p : List Int) (l : List Pn.Use), Ty.sizes ar + t.full ≤ 10000 → p.length + t.full ≤ 10000 → l.length + t.full ≤ 100000 → t.Fit →
  CallG Tryz.prog 128 [.sl 4 (eUses l) (some 0), .ag (eTm t), .sl 2 (eTys ar) none, .sl 1 (eIs p) none] [(.r 0, .rw 195 4 l.length)] [(.r 0, .rw 195 4 (l ++ (Pn.uses t ar p).1).length)] (usesV l (Pn.uses t ar p))
set_option maxHeartbeats 4000000 in
theorem uses_body (t : Tm) (ih : ∀ u ∈ t.args, UsesC u) (ar : List Ty) (p : List Int) (l : List Pn.Use) (h1 : Ty.sizes ar + t.full ≤ 10000) (h2 : p.length + t.full ≤ 10000) (h3 : l.length + t.full ≤ 100000) (hf : t.Fit) (c : Code) (hc : Tryz.f128.body = some c)
  (cx : Cx) (hnt : cx.nt = 71) (hn0 : cx.n0 ≤ 1) : DW Tryz.prog cx c (argsT 0 [.sl 4 (eUses l) (some 0), .ag (eTm t), .sl 2 (eTys ar) none, .sl 1 (eIs p) none] [(.r 0, .rw 195 4 l.length)]) 1 (RetOk TP3 [ResultVar.tmp 8, ResultVar.tmp 9] (usesV l (Pn.uses t ar p)) [(.r 0, .rw 195 4 (l ++ (Pn.uses t ar p).1).length)]) := by
 cases hc
 have hfl := pflex_d t
 have hfu := full_args t
 have hal := fulls_len t.args
 have hbl := Ty.le_sizes t.binds
 have har := Ty.le_sizes ar
 have hcat := concat_d [ar, t.binds] (by simp [lens]; omega) (by simp)
 simp only [List.flatten_cons, List.flatten_nil, List.append_nil] at hcat
 have hva := pvars_d t ((ar ++ t.binds).length : Nat) (by omega) hf
 have hue : Pn.uses t ar p = if t.kind = 2 then (match Pn.varsL ((ar ++ t.binds).length : Nat) t.args [] with | some v => ([⟨t.index, v, ar ++ t.binds, p⟩], true) | none => ([], false)) else Pn.usess t.args (ar ++ t.binds) p 0 := by obtain ⟨b, k, i, a⟩ := t; exact Pn.uses_eq ..
 have hs1 : (Ty.mk [] 0).size = 1 := by simp [Ty.size, Ty.sizes]
 have harr := arrow_d (.mk [] 0) (ar ++ t.binds) (by rw [Ty.sizes_append]; omega)
 have hclo := clone_d p (by omega)
 have hcli := clip_d p
 dsimp only [Ty.args, Ty.base] at harr
 rw [List.append_nil] at harr
 rw [eTm_eq] at hfl hva ⊢
 rw [eTy_eq, eTy_eq] at harr
 dsimp only [Ty.args, Ty.base, eTys] at harr
 refine dw_seq ?_; refine dwk [] TP3_ok hnt fun K hK => ?_; refine hK _ _ ?_; clear hK K; refine dw_seq ?_; refine dwk [(18, .sl 1 (eTyss [ar, t.binds]) none)] TP3_ok hnt fun K hK => ?_; refine And.intro (VLe.untag _ _ _) ?_; refine dcl (hcat) ?_; refine hK _ _ ?_; clear hK K
 by_cases hk : t.kind = 2
 ·rw [decide_eq_true hk] at hfl
  rw [if_pos hk] at hue; refine dw_seq ?_; refine dw_seq ?_; refine dwk [] TP3_ok hnt fun K hK => ?_; refine dcl (hfl) ?_; refine hK _ _ ?_; clear hK K; refine dw_cond (t := true) rfl ?_; rw [if_pos rfl]
  have hvv : Pn.vars t ((ar ++ t.binds).length : Nat) = match Pn.varsL ((ar ++ t.binds).length : Nat) t.args [] with | some l => (l, 0) | none => ([], 6) := by unfold Pn.vars; exact if_neg (by simp [hk]; omega)
  rw [hvv] at hva
  cases hvl : Pn.varsL ((ar ++ t.binds).length : Nat) t.args [] with
  | none =>
   rw [hvl] at hva hue
   rw [hue]
   refine dw_seq ?_; refine dwk [(25, .v (.int .i64 (↑(ar ++ t.binds).length)))] TP3_ok hnt fun K hK => ?_; refine And.intro (dintE (by rw [eTys_len])) ?_; refine dcl (hva) ?_; refine hK _ _ ?_; clear hK K; refine dw_seq ?_; refine dw_seq ?_; refine dwk [(30, .v (.bool true))] TP3_ok hnt fun K hK => ?_; refine And.intro auT ?_; refine hK _ _ ?_; clear hK K; refine dw_cond (t := true) rfl ?_; rw [if_pos rfl]
   refine dw_seq ?_; refine dwk [] TP3_ok hnt fun K hK => ?_; refine hK _ _ ?_; clear hK K; refine dw_ret ?_
   exact reta rfl ((by refine And.intro ?_ trivial; simp [get, Key.eq, argsT]))
  | some v =>
   rw [hvl] at hva hue
   rw [hue]
   have hvlen := Pn.varsL_len _ _ _ _ hvl
   refine dw_seq ?_; refine dwk [(25, .v (.int .i64 (↑(ar ++ t.binds).length)))] TP3_ok hnt fun K hK => ?_; refine And.intro (dintE (by rw [eTys_len])) ?_; refine dcl (hva) ?_; refine hK _ _ ?_; clear hK K; refine dw_seq ?_; refine dw_seq ?_; refine dwk [(30, .v (.bool false))] TP3_ok hnt fun K hK => ?_; refine And.intro auF ?_; refine hK _ _ ?_; clear hK K; refine dw_cond (t := false) rfl ?_; rw [if_neg (by simp)]
   refine dw_skip ?_; refine dw_seq ?_; refine dwkD [(37, .ag [.sl 2 [] none, .v (.int .i64 0)]), (45, .sl 4 (eUses (l ++ [⟨t.index, v, ar ++ t.binds, p⟩])) (some 0))] TP3_ok hnt fun K hK => ?_; refine And.intro (auV) ?_; refine dcl (harr) ?_; refine dcl (hclo) ?_; refine And.intro (⟨by rw [eUses_len], by rw [eUses_len]; simp; omega⟩) ?_; refine And.intro (VLe.of_eq (by rw [eUses_append]; rfl)) ?_; refine hK _ _ (by kernel_rfl) ?_; clear hK K
   refine dw_ret ?_
   exact reta rfl ((by refine And.intro ?_ trivial; simp [get, Key.eq, eUses_len]))
 ·rw [decide_eq_false hk] at hfl
  rw [if_neg hk] at hue; refine dw_seq ?_; refine dw_seq ?_; refine dwk [] TP3_ok hnt fun K hK => ?_; refine dcl (hfl) ?_; refine hK _ _ ?_; clear hK K; refine dw_cond (t := false) rfl ?_; rw [if_neg (by simp)]; refine dw_skip ?_; refine dw_seq ?_; refine dw_seq ?_; refine dwk [(48, .v (.int .i64 (↑t.args.length)))] TP3_ok hnt fun K hK => ?_; refine And.intro (dintE (by rw [eTms_len])) ?_; refine hK _ _ ?_; clear hK K
  refine dw_block ?_
  refine dw_loop (ι := { j : Nat // (Pn.usess (t.args.take j) (ar ++ t.binds) p 0).2 = true }) (fun j => [(.t 0, .sl 4 (eUses (l ++ (Pn.usess (t.args.take j.1) (ar ++ t.binds) p 0).1)) (some 0)), (.r 0, .rw 195 4 (l ++ (Pn.usess (t.args.take j.1) (ar ++ t.binds) p 0).1).length), (.t 2, .sl 2 (eTys (ar ++ t.binds)) none), (.t 3, .sl 1 (eIs p) none), (.t 47, .sl 4 (eTms t.args) none), (.t 48, .v (.int .i64 ↑t.args.length)), (.t 49, .v (.int .i64 ↑j.1))]) 1 (fun j => t.args.length - j.1) (⟨0, rfl⟩) ((by simp only [List.take_zero, Pn.usess, List.append_nil]; exact VS.toA)) fun j => ?_
  obtain ⟨j, hj⟩ := j
  dsimp only
  by_cases hlt : j < t.args.length
  ·have hst := Pn.usess_take (ar ++ t.binds) p t.args j hlt hj
   have hmem := List.getElem_mem hlt
   have hfm := full_mem hmem
   have hdl := Pn.usess_len (ar ++ t.binds) p (t.args.take j) 0 fun t _ p => Pn.uses_len t _ p
   have hft := Tm.fulls_take t.args j hlt
   have hfj := Tm.fulls_take_le t.args (j + 1)
   obtain ⟨done, hdone⟩ : ∃ d, (Pn.usess (t.args.take j) (ar ++ t.binds) p 0).1 = d := ⟨_, rfl⟩
   have hih := ih _ hmem (ar ++ t.binds) (p ++ [(j : Int)]) (l ++ done) (by rw [Ty.sizes_append]; omega) (by simp; omega) (by rw [← hdone]; simp; omega) (fit_args hf _ hmem)
   obtain ⟨p2, hp2⟩ : ∃ q, p ++ [(j : Int)] = q := ⟨_, rfl⟩
   rw [hp2] at hst hih
   rw [hdone] at hst ⊢
   obtain ⟨r, hr⟩ : ∃ r, Pn.uses t.args[j] (ar ++ t.binds) p2 = r := ⟨_, rfl⟩
   rw [hr] at hst hih
   obtain ⟨us, ok⟩ := r
   rw [eTm_eq] at hih
   unfold usesV at hih
   dsimp only at hst hih
   refine dw_seq ?_; refine dwk [(50, .v (.bool true))] TP3_ok hnt fun K hK => ?_; refine And.intro auT ?_; refine hK _ _ ?_; clear hK K; refine dw_seq ?_; refine dw_cond (t := true) rfl ?_; rw [if_pos rfl]; refine dw_skip ?_; refine dw_seq ?_; refine dw_block ?_; refine dw_seq ?_; refine dwk [(52, .q [.sl 2 (eTys t.args[j].binds) none, .v (.int .i64 t.args[j].kind), .v (.int .i64 t.args[j].index), .sl 4 (eTms t.args[j].args) none])] TP3_ok hnt fun K hK => ?_
   refine And.intro (elo (eTms_len t.args)) ?_; refine And.intro (elv (eTms_getD t.args j) (eTm_eq _)) ?_; refine hK _ _ ?_; clear hK K; refine dw_seq ?_; refine dwk [] TP3_ok hnt fun K hK => ?_; refine hK _ _ ?_; clear hK K
   cases ok with
   | true =>
    rw [if_pos rfl] at hih; refine dw_seq ?_; refine dwkD [(62, .sl 1 (eIs p2) none)] TP3_ok hnt fun K hK => ?_; refine dcl (hcli) ?_; refine And.intro (⟨Nat.one_pos, by rw [eIs_len]; simp; omega⟩) ?_; refine And.intro ((by rw [← hp2, eIs_append]; exact VLe.untag _ _ _)) ?_; refine dcn (CallG.n (hih) _) ?_; refine hK _ _ (by kernel_rfl) ?_; clear hK K; refine dw_seq ?_; refine dwk [(67, .v (.bool false))] TP3_ok hnt fun K hK => ?_
    refine And.intro auF ?_; refine hK _ _ ?_; clear hK K; refine dw_cond (t := false) rfl ?_; rw [if_neg (by simp)]; refine dw_skip ?_; refine dwk [(69, .v (.int .i64 (↑(j + 1))))] TP3_ok hnt fun K hK => ?_; refine And.intro auI ?_; refine hK _ _ ?_; clear hK K
    have hd2 : (Pn.usess (t.args.take (j + 1)) (ar ++ t.binds) p 0).1 = done ++ us := by rw [hst]
    have hd3 : l ++ done ++ us = l ++ (Pn.usess (t.args.take (j + 1)) (ar ++ t.binds) p 0).1 := by rw [hd2, List.append_assoc]
    rw [hd3]
    refine ⟨⟨j + 1, by rw [hst]⟩, by first | omega | (dsimp only; omega), VS.toA⟩
   | false =>
    rw [if_neg (by simp)] at hih
    have hwh := Pn.usess_stop (ar ++ t.binds) p t.args (j + 1) (by rw [hst])
    rw [hue, hwh, hst]
    refine dw_seq ?_; refine dwkD [(62, .sl 1 (eIs p2) none)] TP3_ok hnt fun K hK => ?_; refine dcl (hcli) ?_; refine And.intro (⟨Nat.one_pos, by rw [eIs_len]; simp; omega⟩) ?_; refine And.intro ((by rw [← hp2, eIs_append]; exact VLe.untag _ _ _)) ?_; refine dcn (CallG.n (hih) _) ?_; refine hK _ _ (by kernel_rfl) ?_; clear hK K; refine dw_seq ?_; refine dwk [(67, .v (.bool true))] TP3_ok hnt fun K hK => ?_
    refine And.intro auT ?_; refine hK _ _ ?_; clear hK K; refine dw_cond (t := true) rfl ?_; rw [if_pos rfl]; refine dw_seq ?_; refine dwk [] TP3_ok hnt fun K hK => ?_; refine hK _ _ ?_; clear hK K; refine dw_ret ?_
    exact reta rfl ((by refine And.intro ?_ trivial; simp [get, Key.eq, List.append_assoc]))
  ·rw [List.take_of_length_le (by omega)] at hj ⊢
   rw [hue]
   unfold usesV
   rw [if_pos hj]; refine dw_seq ?_; refine dwk [(50, .v (.bool false))] TP3_ok hnt fun K hK => ?_; refine And.intro auF ?_; refine hK _ _ ?_; clear hK K; refine dw_seq ?_; refine dw_cond (t := false) rfl ?_; rw [if_neg (by simp)]; refine dw_exit ?_; refine dw_seq ?_; refine dwk [] TP3_ok hnt fun K hK => ?_; refine hK _ _ ?_; clear hK K; refine dw_ret ?_
   exact reta rfl
theorem uses_g : ∀ t : Tm, UsesC t := by
  intro t
  induction t using Tm.ind with
  | h bs k i a ih =>
    intro ar p l h1 h2 h3 hf
    refine callG_of_dw 1 71 [ResultVar.tmp 8, ResultVar.tmp 9] TP3_ok (by kernel_rfl) Tryz.func128 rfl Tryz.ntmps128 rfl (by simp) ?_ fun cx hnt hn0 => uses_body (.mk bs k i a) (fun u hu => ih u hu) ar p l h1 h2 h3 hf _ rfl cx hnt (by omega)
    unfold usesV
    split <;> simp [wordsG, rowN, rowsR, gkey, Key.eq, D.ok, D.oks, D.okss, rnames, inN, eUses_ok, eTm_ok, eTys_ok, eIs_ok]
theorem uses_nil (t : Tm) (h1 : t.full ≤ 10000) (hf : t.Fit) : PureC Tryz.prog 128 [.v (.slice none 0 0), .ag (eTm t), .v (.slice none 0 0), .v (.slice none 0 0)] (.tu [.sl 4 (if (Pn.uses t [] []).2 then eUses (Pn.uses t [] []).1 else []) none, .v (.int .i64 (if (Pn.uses t [] []).2 then 0 else 6))]) := by
  refine CallC.vle (args := [.v (.slice none 0 0), .ag (eTm t), .sl 2 (eTys []) none, .sl 1 (eIs []) none]) ?_ (.cons (VLe.refl _) (.cons (VLe.refl _) (.cons (VLe.nil _) (.cons (VLe.nil _) .nil)))) (VLe.refl _)
  refine call_of_dw 0 71 [ResultVar.tmp 8, ResultVar.tmp 9] TP3_ok (by kernel_rfl) Tryz.func128 rfl Tryz.ntmps128 rfl (by simp) ?_ fun cx hnt hn0 => ?_
  · split <;> simp [wordsOk, D.ok, D.oks, D.okss, rnames, inN, ckey, eUses_ok, eTm_ok, eTys_ok, eIs_ok]
  · have hb := uses_body t (fun u _ => uses_g u) [] [] [] (by simp [Ty.sizes]; omega) (by simp; omega) (by simp; omega) hf _ rfl cx hnt (by omega)
    refine DW.vs (VS.trans (VS.rowT (x := 0) (by rw [hnt]; decide) 195 4 rfl) ?_) (DW.mono hb fun e σ N' h => ⟨h.1, ?_, nofun⟩)
    · exact (VS.toK (by omega) (by repeat first | exact trivial | refine And.intro (And.intro (by first | rfl | simp [D.ok, D.oks, D.okss, D.okm, upto, keyOk, eUses]) (by first | exact Or.inl rfl | exact Or.inr ⟨_, rfl, (by repeat first | exact VLe.refl _ | exact VLe.nil _ | exact VLe.untag _ _ _ | refine VLe.ag ?_ | refine VLe.tu ?_ | refine VLeL.cons ?_ ?_ | exact VLeL.nil), trivial⟩ | simp [get, Key.eq, eUses])) ?_))
    · obtain ⟨V', q1, q2⟩ := h.2.1
      refine ⟨V', q1, q2.trans ?_⟩
      unfold usesV
      split
      · exact VLe.tu (.cons (VLe.untag _ _ _) (.cons (VLe.refl _) .nil))
      · exact VLe.tu (.cons (VLe.nil _) (.cons (VLe.refl _) .nil))
theorem is_d (t : Tm) (h1 : t.full ≤ 10000) (hf : t.Fit) : PureC Tryz.prog 65 [.ag (eTm t)] (.v (.bool (Pn.uses t [] []).2)) := by
 have hu := uses_nil t h1 hf
 have hU : PureC Tryz.prog 107 [.ag (eTm t)] (.tu [.sl 4 (if (Pn.uses t [] []).2 then eUses (Pn.uses t [] []).1 else []) none, .v (.int .i64 (if (Pn.uses t [] []).2 then 0 else 6))]) := by
  rw [eTm_eq] at hu ⊢
  refine call_of_dw 0 8 [ResultVar.tmp 2, ResultVar.tmp 3] TP3_ok (by kernel_rfl) Tryz.func107 rfl Tryz.ntmps107 rfl (by simp) ?dwords ?dbody
  case dwords => simp [wordsOk, D.ok, D.oks, D.okss, rnames, inN, ckey, eUses_ok, eTms_ok, eTys_ok, apply_ite]
  case dbody =>
   intro cx hnt hn0
   refine dw_seq ?_; refine dwk [] TP3_ok hnt fun K hK => ?_; refine hK _ _ ?_; clear hK K; refine dw_seq ?_; refine dwk [] TP3_ok hnt fun K hK => ?_; refine dcl (hu) ?_; refine hK _ _ ?_; clear hK K; refine dw_ret ?_
   exact reta rfl
 rw [eTm_eq] at hU ⊢
 cases h : (Pn.uses t [] []).2 with
 | true =>
  rw [h] at hU
  refine calldw 0 12 [ResultVar.tmp 2] TP3_ok Tryz.func65 rfl Tryz.ntmps65 rfl fun cx hnt hn0 => ?_
  ·skip
   refine dw_seq ?_; refine dwk [] TP3_ok hnt fun K hK => ?_; refine hK _ _ ?_; clear hK K; refine dw_seq ?_; refine dwk [] TP3_ok hnt fun K hK => ?_; refine dcl (hU) ?_; refine hK _ _ ?_; clear hK K; refine dw_seq ?_; refine dwk [(11, .v (.bool true))] TP3_ok hnt fun K hK => ?_; refine And.intro auT ?_; refine hK _ _ ?_; clear hK K; refine dw_ret ?_
   exact reta rfl
 | false =>
  rw [h] at hU
  refine calldw 0 12 [ResultVar.tmp 2] TP3_ok Tryz.func65 rfl Tryz.ntmps65 rfl fun cx hnt hn0 => ?_
  ·skip
   refine dw_seq ?_; refine dwk [] TP3_ok hnt fun K hK => ?_; refine hK _ _ ?_; clear hK K; refine dw_seq ?_; refine dwk [] TP3_ok hnt fun K hK => ?_; refine dcl (hU) ?_; refine hK _ _ ?_; clear hK K; refine dw_seq ?_; refine dwk [(11, .v (.bool false))] TP3_ok hnt fun K hK => ?_; refine And.intro auF ?_; refine hK _ _ ?_; clear hK K; refine dw_ret ?_
   exact reta rfl
end Go.Proofs.YtdmiekaeodcehaaGreat

namespace Go.Proofs.YtdmiekaeodcehaaGreat
open Go.RowKit

section
variable {P : Program} {T : List (Nat × TI)} {cx : Cx} {Fr Fr' : Nat → Prop} {m m' : Mp} {Im Im' : Nat → Nat → Prop} {w w' : World} {a : Act} {σ σ' τ : List (Key × D)} {N N' : Nat} {Q : Exit → List (Key × D) → Nat → Prop}
theorem cut_any (m m' : Mp) : (m.cut (fun _ => false) noR).le m' := ⟨fun k b h => by simp [Mp.cut] at h, fun g R h => by simp [Mp.cut, noR] at h, fun k b h => by simp [Mp.cut] at h⟩
theorem St.adopt {cx' : Cx} {a' : Act} (hs : St cx Fr m Im w a σ) {nm : Nat} (hnm : Fr nm) (hs' : St cx' Fr' m' Im' w' a' σ') (c3 : cx'.w0 = w) (c4 : ∀ b, ¬ cx'.C b) (c5 : cx'.Im0 = Im) {g : Nat} {R : RowM} {d : D} (hR : m'.row g = some R) (hro : RoOk m' Im' w' R d) (hd : d.ok (fun _ => false) noR = true) :
    St cx (minus Fr nm) (m.setR nm R) Im' w' a (put1 (.r nm) d σ) ∧ m.le (m.setR nm R) ∧ KeepI Im w w' ∧ ∀ b o, Im b o → Im' b o := by
  have hbl : Below w.heap.size w w' := by
    have ho := hs'.mem.off
    rw [c3] at ho
    exact ⟨ho.os, ho.tape, ho.output, ho.size, fun b hb => ho.block b hb (c4 b)⟩
  have hi : ∀ b o, Im b o → Im' b o := fun b o h => hs'.mem.im0 b o (by rw [c5]; exact h)
  have hib : ∀ b o, Im' b o → Im b o ∨ w.heap.size ≤ b := fun b o h => by
    rcases hs'.mem.imb b o h with h1 | h1 | h1
    · left; rw [c5] at h1; exact h1
    · right; rw [c3] at h1; exact h1
    · exact absurd (cx'.hCR b h1) (c4 b)
  have h1 := hs.below hbl hi hib hs'.mem.im
  have hle : m.le (m.setR nm R) := Mp.setR_le fun R0 h0 => by rw [(hs.mem.fr nm hnm).2.1] at h0; cases h0
  have hnew : ∀ b, R.hv.ownBlock = some b → w.heap.size ≤ b := fun b hb => by
    rcases hs'.mem.rown g R b hR hb with h1 | h1
    · rw [c3] at h1; exact h1
    · exact absurd (cx'.hCR b h1) (c4 b)
  have hcase : ∀ {x R0}, (m.setR nm R).row x = some R0 → (x = nm ∧ R0 = R) ∨ (x ≠ nm ∧ m.row x = some R0) := fun {x R0} hx => by
    by_cases e : x = nm
    · left; simp [Mp.setR, e] at hx; exact ⟨e, hx.symm⟩
    · right; simp [Mp.setR, e] at hx; exact ⟨e, hx⟩
  have hro2 : RoOk (m.setR nm R) Im' w' R d := (hro.cut hd).mono (fun _ _ => rfl) (cut_any _ _) (KeepI.refl _ _) (fun _ _ h => h) fun _ _ _ h => h
  refine ⟨?_, hle, KeepI.below hbl, hi⟩
  refine ⟨{ h1.mem with row := ?_, rIm := ?_, rblk := ?_, rinj := ?_, fr := ?_, rown := ?_, m0r := hs.mem.m0r_le hle, orow := ?_ }, h1.df, h1.nt, fun x d hx => (h1.tm x d (by rw [get_put1, if_neg (by simp [Key.eq])] at hx; exact hx)).mono hle (KeepI.refl _ _) (fun _ _ h => h), fun x off d hx => ?_, fun x d hx => ?_, fun d hd => ?_, fun x d hd => ?_⟩
  · intro x R0 hx
    rcases hcase hx with ⟨_, rfl⟩ | ⟨_, hx⟩
    · exact hs'.mem.row g R0 hR
    · exact h1.mem.row x R0 hx
  · intro x R0 b o hx
    rcases hcase hx with ⟨_, rfl⟩ | ⟨_, hx⟩
    · exact hs'.mem.rIm g R0 b o hR
    · exact h1.mem.rIm x R0 b o hx
  · intro x R0 b k hx
    rcases hcase hx with ⟨_, rfl⟩ | ⟨_, hx⟩
    · intro e hk; have := hs.mem.lt k _ hk; have := hnew b e; omega
    · exact h1.mem.rblk x R0 b k hx
  · intro x y R0 R1 b hx hy ho ho'
    rcases hcase hx with ⟨e1, e2⟩ | ⟨_, hx⟩ <;> rcases hcase hy with ⟨e3, e4⟩ | ⟨_, hy⟩
    · rw [e1, e3]
    · rw [e2] at ho; have := hnew b ho; have := hs.mem.rlt hy ho'; omega
    · rw [e4] at ho'; have := hnew b ho'; have := hs.mem.rlt hx ho; omega
    · exact h1.mem.rinj x y R0 R1 b hx hy ho ho'
  · intro x hx; refine ⟨(hs.mem.fr x hx.1).1, ?_, (hs.mem.fr x hx.1).2.2⟩; simp [Mp.setR, hx.2, (hs.mem.fr x hx.1).2.1]
  · intro x y R0 b hx hy
    rcases hcase hy with ⟨_, rfl⟩ | ⟨_, hy⟩
    · intro e; have := hs.mem.olt x _ hx; have := hnew b e; omega
    · exact h1.mem.orow x y R0 b hx hy
  · intro x R0 b hx ho
    rcases hcase hx with ⟨_, rfl⟩ | ⟨_, hx⟩
    · exact .inl (Nat.le_trans hs.mem.off.size (hnew b ho))
    · exact h1.mem.rown x R0 b hx ho
  · rw [get_put1, if_neg (by simp [Key.eq])] at hx
    obtain ⟨c, v, q1, q2, q3⟩ := h1.ce x off d hx
    exact ⟨c, v, q1, q2, q3.mono hle (KeepI.refl _ _) (fun _ _ h => h)⟩
  · rw [get_put1] at hx
    by_cases he : Key.eq (.r nm) (.r x) = true
    · rw [if_pos he] at hx
      cases hx
      have := Key.eq_iff.1 he
      cases this
      exact ⟨R, by simp [Mp.setR], hro2⟩
    · rw [if_neg he] at hx
      obtain ⟨R0, q1, q2⟩ := h1.ro x d hx
      have hne : x ≠ nm := fun e => he (by rw [e]; exact Key.eq_refl _)
      exact ⟨R0, by simp [Mp.setR, hne, q1], q2.mono (fun _ _ => rfl) hle (KeepI.refl _ _) (fun _ _ h => h) fun _ _ _ h => h⟩
  · rw [get_put1, if_neg (by simp [Key.eq])] at hd
    obtain ⟨X, J, e, hX⟩ := h1.jk d hd
    obtain ⟨X0, J0, e0, hX0⟩ := hs.jk d hd
    rw [e] at e0; cases e0
    refine ⟨X, J, e, { hX with row := fun b x R0 hb hx ho => ?_ }⟩
    rcases hcase hx with ⟨_, rfl⟩ | ⟨_, hx⟩
    · have := hX0.lt b hb; have := hnew b ho; omega
    · exact hX.row b x R0 hb hx ho
  · rw [get_put1, if_neg (by simp [Key.eq])] at hd
    obtain ⟨b, q1, q2⟩ := h1.ok x d hd
    exact ⟨b, q1, q2.mono rfl hle (KeepI.refl _ _) fun _ _ h => h⟩
theorem callRow_of_dw {f : FuncId} {fn : Func} {c : Code} {args : List D} {n E len : Nat} {l : List (List D)} (nt : Nat) (rs : List ResultVar) (hT : TabOk P T) (hen : entersB P f = true) (hf : P.funcs[f]? = some fn) (hb : fn.body = some c) (hnt : fn.ntmps = nt) (hrs : fn.results.toList = rs)
    (hal : args.length ≤ nt) (ha : args.all (fun d => d.ok (fun _ => false) noR) = true) (hlo : D.okss (fun _ => false) noR l = true)
    (h : ∀ cx : Cx, cx.nt = nt → cx.n0 = 0 → DW P cx c (argsT 0 args []) 0 (fun e σ _ => (e = .normal ∨ e = .ret) ∧ ∃ g, resD T σ rs = some (.sl n l (some g)) ∧ get σ (.r g) = some (.rw E n len))) (nm : Nat) :
    CallN P f args [] nm [(.r nm, .rw E n len)] (.sl n l (some nm)) := by
  refine ⟨hen, fun cx Fr m Im w a σ vs hnm hs hargs _ => ?_⟩
  refine calls_of_wp hf hb ?_
  obtain ⟨cx', c1, c2, c3, c4, c5, hst⟩ := entry0 hs.mem hargs ha nt hal hnt
  refine Code.wp_mono (fun e a' w' ⟨σ', N', m', Im', ⟨hq1, g, hq2, hq3⟩, hs'⟩ => ?_) (h cx' c1 c2 _ Im w _ hst)
  obtain ⟨v, r1, r2⟩ := resD_run (P := P) (fn := fn) hT hs' (by rw [hrs]; exact hq2)
  obtain ⟨R, hR, hro⟩ := hs'.ro g _ hq3
  obtain ⟨s1, s2, s3, s4⟩ := hs.adopt hnm hs' c3 c4 c5 hR hro rfl
  have hv : Rel (m.setR nm R) Im' w' v (.sl n l (some nm)) := by
    cases r2 with
    | sl a0 c0 bl off n X l r h1 ha hc hn ho hr hg =>
      refine .sl a0 c0 bl off n X l (some nm) h1 ha hc hn ho (fun i hi j hj => ((hr i hi j hj).cut (D.oks_get (D.okss_get hlo i hi) j hj)).mono (cut_any _ _) (KeepI.refl _ _) fun _ _ h => h) fun r e => ?_
      cases e
      obtain ⟨R0, q1, q2, q3⟩ := hg g rfl
      rw [hR] at q1; cases q1
      exact ⟨R, by simp [Mp.setR], q2, q3⟩
  have hfin : ∃ v' m2 Im2, Ending.returned v = .returned v' ∧ St cx (minus Fr nm) m2 Im2 w' a (puts (dropT [] σ) [(.r nm, .rw E n len)]) ∧ Rel m2 Im2 w' v' (.sl n l (some nm)) := by
    rw [dropT_nil]
    exact ⟨v, _, Im', rfl, s1, hv⟩
  rcases hq1 with rfl | rfl
  · exact ⟨hs'.df, v, r1, hfin⟩
  · exact ⟨hs'.df, v, r1, hfin⟩
end
end Go.Proofs.YtdmiekaeodcehaaGreat

namespace Go.Proofs.YtdmiekaeodcehaaGreat
open Go.RowKit
namespace So
variable {α : Type} {l l' r r' : List (Int × α)}
def ins (x : Int × α) : List (Int × α) → List (Int × α)
  | [] => [x]
  | y :: l => if y.1 ≤ x.1 then y :: ins x l else x :: y :: l
def ssr : List (Int × α) → List (Int × α)
  | [] => []
  | x :: l => ins x (ssr l)
def ss (l : List (Int × α)) : List (Int × α) := ssr l.reverse
end So
end Go.Proofs.YtdmiekaeodcehaaGreat

namespace Go.Proofs.YtdmiekaeodcehaaGreat
open Go.RowKit

theorem binds_mk' (b : List Ty) (k i : Int) (a : List Tm) : (Tm.mk b k i a).binds = b := rfl
theorem kind_mk' (b : List Ty) (k i : Int) (a : List Tm) : (Tm.mk b k i a).kind = k := rfl
theorem index_mk' (b : List Ty) (k i : Int) (a : List Tm) : (Tm.mk b k i a).index = i := rfl
theorem args_mkT (b : List Ty) (k i : Int) (a : List Tm) : (Tm.mk b k i a).args = a := rfl
namespace Pn
abbrev Spot := Tm × List Ty × List Int
mutual
def subs : Tm → List Ty → List Int → List Spot
  | .mk bs k i a, ar, p => (.mk bs k i a, ar ++ bs, p) :: subss a (ar ++ bs) p 0
def subss : List Tm → List Ty → List Int → Nat → List Spot
  | [], _, _, _ => []
  | t :: l, ar, p, j => subs t ar (p ++ [(j : Int)]) ++ subss l ar p (j + 1)
end
theorem subs_eq (bs : List Ty) (k i : Int) (a : List Tm) (ar : List Ty) (p : List Int) : subs (.mk bs k i a) ar p = (.mk bs k i a, ar ++ bs, p) :: subss a (ar ++ bs) p 0 := by rw [subs]
def useL : List Spot → List Use × Bool
  | [] => ([], true)
  | s :: l => if s.1.kind = 2 then (match varsL (s.2.1.length : Nat) s.1.args [] with | some v => (⟨s.1.index, v, s.2.1, s.2.2⟩ :: (useL l).1, (useL l).2) | none => ([], false)) else useL l
theorem useL_other {s : Spot} (l : List Spot) (h : s.1.kind ≠ 2) : useL (s :: l) = useL l := by rw [useL]; exact if_neg h
theorem useL_use {s : Spot} (l : List Spot) (h : s.1.kind = 2) {v : List Int} (hv : varsL (s.2.1.length : Nat) s.1.args [] = some v) : useL (s :: l) = (⟨s.1.index, v, s.2.1, s.2.2⟩ :: (useL l).1, (useL l).2) := by
  rw [useL]; refine (if_pos h).trans ?_; rw [hv]
theorem useL_bad {s : Spot} (l : List Spot) (h : s.1.kind = 2) (hv : varsL (s.2.1.length : Nat) s.1.args [] = none) : useL (s :: l) = ([], false) := by
  rw [useL]; refine (if_pos h).trans ?_; rw [hv]
theorem useL_app (l r : List Spot) : useL (l ++ r) = if (useL l).2 then ((useL l).1 ++ (useL r).1, (useL r).2) else useL l := by
  induction l with
  | nil => simp [useL]
  | cons s l ih =>
    simp only [List.cons_append]
    by_cases hk : s.1.kind = 2
    · cases hv : varsL (s.2.1.length : Nat) s.1.args [] with
      | none => rw [useL_bad _ hk hv, useL_bad _ hk hv]; simp
      | some v =>
        rw [useL_use _ hk hv, useL_use _ hk hv, ih]
        by_cases h : (useL l).2 = true
        · simp [h]
        · simp [h]
    · rw [useL_other _ hk, useL_other _ hk, ih]
theorem useL_none {l : List Spot} (h : ∀ s ∈ l, s.1.kind ≠ 2) : useL l = ([], true) := by
  induction l with
  | nil => rfl
  | cons s l ih => rw [useL_other _ (h s (by simp)), ih fun x hx => h x (by simp [hx])]
theorem etas_kind {n : Nat} : ∀ (l : List Ty) (_ : Ty.sizes l ≤ n), ∀ u ∈ Ty.etas l, ∀ ar p, ∀ s ∈ subs u ar p, s.1.kind = 0 := by
  induction n with
  | zero =>
    intro l hl u hu
    cases l with
    | nil => simp [Ty.etas] at hu
    | cons t l => have : 0 < t.size := Ty.size_pos t; simp [Ty.sizes] at hl; omega
  | succ n ih =>
    intro l
    induction l with
    | nil => intro _ u hu; simp [Ty.etas] at hu
    | cons t l ihl =>
      intro hl u hu ar p s hs
      obtain ⟨a, b⟩ := t
      have hsz : (Ty.mk a b).size = Ty.sizes a + 1 := by simp [Ty.size]
      simp only [Ty.sizes, hsz] at hl
      rw [Ty.etas] at hu
      rcases List.mem_cons.1 hu with rfl | hu
      · rw [Ty.eta_eq, subs_eq] at hs
        rcases List.mem_cons.1 hs with rfl | hs
        · rfl
        · have key : ∀ (m : List Tm) (j : Nat), (∀ u ∈ m, u ∈ Ty.etas a) → ∀ s ∈ subss m (ar ++ a) p j, s.1.kind = 0 := by
            intro m
            induction m with
            | nil => intro j _ s hs; simp [subss] at hs
            | cons x m ihm =>
              intro j hm s hs
              rw [subss] at hs
              rcases List.mem_append.1 hs with hs | hs
              · exact ih a (by omega) x (hm x (by simp)) _ _ s hs
              · exact ihm (j + 1) (fun u hu => hm u (by simp [hu])) s hs
          exact key _ 0 (fun u hu => hu) s hs
      · exact ihl (by omega) u hu ar p s hs
theorem varsL_mem (n : Int) : ∀ (l : List Tm) (acc r : List Int), varsL n l acc = some r → ∀ x ∈ l, longB x = true ∧ x.kind = 0
  | [], _, _, _, x, hx => by cases hx
  | b :: l, acc, r, h, x, hx => by
    rw [varsL] at h
    split at h
    · rename_i hv
      rcases List.mem_cons.1 hx with rfl | hx
      · unfold isVar at hv
        simp only [Bool.and_eq_true, decide_eq_true_eq] at hv
        exact ⟨hv.1, hv.2.1⟩
      · exact varsL_mem n l _ _ h x hx
    · cases h
theorem long_kind {u : Tm} (h : longB u = true) (hk : u.kind = 0) (ar : List Ty) (p : List Int) : ∀ s ∈ subs u ar p, s.1.kind = 0 := by
  obtain ⟨b, k, i, a⟩ := u
  have ha : a = Ty.etas b := ((longB_iff _).1 h).1
  intro s hs
  rw [subs_eq] at hs
  rcases List.mem_cons.1 hs with rfl | hs
  · exact hk
  · have key : ∀ (m : List Tm) (j : Nat), (∀ u ∈ m, u ∈ Ty.etas b) → ∀ s ∈ subss m (ar ++ b) p j, s.1.kind = 0 := by
      intro m
      induction m with
      | nil => intro j _ s hs; simp [subss] at hs
      | cons x m ihm =>
        intro j hm s hs
        rw [subss] at hs
        rcases List.mem_append.1 hs with hs | hs
        · exact etas_kind b (Nat.le_refl _) x (hm x (by simp)) _ _ s hs
        · exact ihm (j + 1) (fun u hu => hm u (by simp [hu])) s hs
    exact key a 0 (fun u hu => ha ▸ hu) s hs
theorem subss_all {q : Spot → Prop} (ar : List Ty) (p : List Int) : ∀ (a : List Tm) (j : Nat), (∀ u ∈ a, ∀ p, ∀ s ∈ subs u ar p, q s) → ∀ s ∈ subss a ar p j, q s
  | [], _, _, s, hs => by simp [subss] at hs
  | x :: a, j, h, s, hs => by
    rw [subss] at hs
    rcases List.mem_append.1 hs with hs | hs
    · exact h x (by simp) _ s hs
    · exact subss_all ar p a (j + 1) (fun u hu => h u (by simp [hu])) s hs
theorem useL_subss (ar : List Ty) (p : List Int) : ∀ (a : List Tm) (j : Nat), (∀ t ∈ a, ∀ p, useL (subs t ar p) = uses t ar p) → useL (subss a ar p j) = usess a ar p j
  | [], _, _ => by simp [subss, useL, usess]
  | t :: a, j, h => by
    rw [subss, useL_app, h t (by simp), usess, useL_subss ar p a (j + 1) fun u hu => h u (by simp [hu])]
    split
    · rfl
    · rename_i hx
      have : (uses t ar (p ++ [(j : Int)])).2 = false := by simpa using hx
      rw [← this]
theorem useL_subs (t : Tm) : ∀ (ar : List Ty) (p : List Int), useL (subs t ar p) = uses t ar p := by
  induction t using Tm.ind with
  | h bs k i a ih =>
    intro ar p
    rw [subs_eq, uses_eq]
    by_cases hk : k = 2
    · rw [if_pos hk]
      cases hv : varsL ((ar ++ bs).length : Nat) a [] with
      | none => exact useL_bad (s := (.mk bs k i a, ar ++ bs, p)) _ hk hv
      | some v =>
        have hm := varsL_mem _ _ _ _ hv
        have : useL (subss a (ar ++ bs) p 0) = ([], true) := useL_none (subss_all _ _ a 0 fun u hu p s hs => by
          rw [long_kind (hm u hu).1 (hm u hu).2 _ _ s hs]; decide)
        refine (useL_use (s := (.mk bs k i a, ar ++ bs, p)) _ hk hv).trans ?_
        rw [this]; rfl
    · rw [if_neg hk]
      exact (useL_other (s := (.mk bs k i a, ar ++ bs, p)) _ hk).trans (useL_subss _ _ a 0 fun t ht p => ih t ht _ p)

def atP : List Int → Tm → Option (Tm × List Ty)
  | [], t => some (t, t.binds)
  | j :: p, t => if 0 ≤ j ∧ j < (t.args.length : Int) then (atP p (t.args.getD j.toNat Tm.zero)).map fun r => (r.1, t.binds ++ r.2) else none
theorem atP_app : ∀ (p q : List Int) (T : Tm), atP (p ++ q) T = (atP p T).bind fun r => (atP q r.1).map fun r' => (r'.1, r.2 ++ r'.2.drop r.1.binds.length)
  | [], q, T => by
    rw [List.nil_append, atP]
    show _ = (atP q T).map _
    cases h : atP q T with
    | none => rfl
    | some r =>
      obtain ⟨x, l⟩ := r
      have : ∃ l', l = T.binds ++ l' := by
        cases q with
        | nil => rw [atP] at h; cases h; exact ⟨[], by simp⟩
        | cons j q =>
          rw [atP] at h
          split at h
          · cases h2 : atP q (T.args.getD j.toNat Tm.zero) with
            | none => rw [h2] at h; cases h
            | some r => rw [h2] at h; cases h; exact ⟨_, rfl⟩
          · cases h
      obtain ⟨l', rfl⟩ := this
      simp
  | j :: p, q, T => by
    rw [List.cons_append, atP, atP]
    split
    · rw [atP_app p q]
      cases h : atP p (T.args.getD j.toNat Tm.zero) with
      | none => rfl
      | some r =>
        show ((atP q r.1).map _).map _ = (atP q r.1).map _
        cases h2 : atP q r.1 with
        | none => rfl
        | some r' => simp
    · rfl
theorem atP_snoc {p : List Int} {T x : Tm} {l : List Ty} (h : atP p T = some (x, l)) {j : Nat} (hj : j < x.args.length) : atP (p ++ [(j : Int)]) T = some (x.args[j], l ++ x.args[j].binds) := by
  rw [atP_app, h]
  show (atP [(j : Int)] x).map _ = _
  rw [atP, if_pos (by omega), atP]
  simp [List.getD_eq_getElem?_getD, List.getElem?_eq_getElem hj]
theorem subss_mem {s : Spot} (ar : List Ty) (p : List Int) : ∀ (a : List Tm) (j : Nat), s ∈ subss a ar p j → ∃ i, ∃ h : i < a.length, s ∈ subs a[i] ar (p ++ [((j + i : Nat) : Int)])
  | [], _, hs => by simp [subss] at hs
  | x :: a, j, hs => by
    rw [subss] at hs
    rcases List.mem_append.1 hs with hs | hs
    · exact ⟨0, by simp, hs⟩
    · obtain ⟨i, h, hs⟩ := subss_mem ar p a (j + 1) hs
      exact ⟨i + 1, by simpa using h, by rw [show j + (i + 1) = j + 1 + i by omega]; exact hs⟩
theorem subs_at (t : Tm) : ∀ (ar : List Ty) (p : List Int) (T : Tm) (b : List Ty), ar ++ t.binds = b → atP p T = some (t, b) → ∀ s ∈ subs t ar p, atP s.2.2 T = some (s.1, s.2.1) := by
  induction t using Tm.ind with
  | h bs k i a ih =>
    intro ar p T b hb hT s hs
    dsimp only [Tm.binds] at hb
    subst hb
    rw [subs_eq] at hs
    rcases List.mem_cons.1 hs with rfl | hs
    · exact hT
    · obtain ⟨j, hj, hs⟩ := subss_mem _ _ _ _ hs
      rw [Nat.zero_add] at hs
      exact ih a[j] (List.getElem_mem hj) (ar ++ bs) _ T _ rfl (atP_snoc hT (by exact hj)) s hs
theorem subs_len (t : Tm) : ∀ (ar : List Ty) (p : List Int), (subs t ar p).length = t.size := by
  induction t using Tm.ind with
  | h bs k i a ih =>
    intro ar p
    rw [subs_eq, Tm.size_eq, List.length_cons]
    have key : ∀ (l : List Tm) (j : Nat), (∀ t ∈ l, t ∈ a) → (subss l (ar ++ bs) p j).length = Tm.sizes l := by
      intro l
      induction l with
      | nil => intro j _; simp [subss, Tm.sizes]
      | cons t l ihl => intro j hl; rw [subss, List.length_append, ih t (hl t (by simp)), ihl _ fun u hu => hl u (by simp [hu])]; simp [Tm.sizes]
    rw [key a 0 fun t ht => ht]

mutual
def rigB : Tm → Tm → Bool
  | .mk bs k i a, t => decide (bs = t.binds) && (decide (k = 2) || ((decide (k = t.kind) && decide (i = t.index)) && (decide (a.length = t.args.length) && rigBs a t.args)))
def rigBs : List Tm → List Tm → Bool
  | [], _ => true
  | p :: l, ts => rigB p (ts.headD Tm.zero) && rigBs l ts.tail
end
end Pn
end Go.Proofs.YtdmiekaeodcehaaGreat

namespace Go.Proofs.YtdmiekaeodcehaaGreat
open Go.RowKit
end Go.Proofs.YtdmiekaeodcehaaGreat

namespace Go.Proofs.YtdmiekaeodcehaaGreat
open Go.RowKit

namespace So
end So
end Go.Proofs.YtdmiekaeodcehaaGreat

namespace Go.Proofs.YtdmiekaeodcehaaGreat
open Go.RowKit

end Go.Proofs.YtdmiekaeodcehaaGreat

namespace Go.Proofs.YtdmiekaeodcehaaGreat
open Go.RowKit
namespace So
end So
end Go.Proofs.YtdmiekaeodcehaaGreat

namespace Go.Proofs.YtdmiekaeodcehaaGreat
open Go.RowKit
def TSL_3 : TI := ⟨1, false, [Value.int IntKind.i64 0], [], none, 8, 2, none, false⟩
theorem TSL_3_ok : TypOk Tryz.prog 3 TSL_3 := ⟨by kernel_rfl, by kernel_rfl, by kernel_rfl, by kernel_rfl, by kernel_rfl⟩
def TSL_82 : TI := ⟨1, false, [Value.slice none 0 0], [], some 3, 24, 5, none, false⟩
theorem TSL_82_ok : TypOk Tryz.prog 82 TSL_82 := ⟨by kernel_rfl, by kernel_rfl, by kernel_rfl, by kernel_rfl, by kernel_rfl⟩
def TSL : List (Nat × TI) := [(3, TSL_3), (82, TSL_82)]
theorem TSL_ok : TabOk Tryz.prog TSL := (((TabOk.nil _).cons TSL_82_ok).cons TSL_3_ok)

namespace So
def ixB {α : Type} (f : α → Bool) : List α → Nat → Int
  | [], _ => -1
  | x :: l, k => if f x then k else ixB f l (k + 1)
variable {α : Type} {f : α → Bool} {l : List α} {j : Nat}
theorem ixB_miss (h : j < l.length) (hf : f l[j] = false) : ixB f (l.drop j) j = ixB f (l.drop (j + 1)) (j + 1) := by rw [List.drop_eq_getElem_cons h, ixB, if_neg (by simp [hf])]
theorem ixB_hit (h : j < l.length) (hf : f l[j] = true) : ixB f (l.drop j) j = j := by rw [List.drop_eq_getElem_cons h, ixB, if_pos hf]
theorem ixB_end (h : l.length ≤ j) : ixB f (l.drop j) j = -1 := by rw [List.drop_of_length_le h]; rfl
theorem ixB_ge : ∀ (l : List α) (k : Nat), 0 ≤ ixB f l k ↔ l.any f = true
  | [], k => by simp [ixB]
  | x :: l, k => by
    rw [ixB, List.any_cons]
    by_cases h : f x = true
    · simp [h]
    · simp only [h, if_false, Bool.false_or]
      exact ixB_ge l (k + 1)
end So
theorem index_d (v : Int) (l : List Int) (hl : l.length ≤ 1000000) : PureC Tryz.prog 111 [.sl 1 (eIs l) none, .v (.int .i64 v)] (.v (.int .i64 (So.ixB (fun x => decide (x = v)) l 0))) := by
 obtain ⟨f, hf⟩ : ∃ f : Int → Bool, f = fun x => decide (x = v) := ⟨_, rfl⟩
 rw [← hf]
 refine calldw 0 19 [ResultVar.tmp 4] TSL_ok Tryz.func111 rfl Tryz.ntmps111 rfl fun cx hnt hn0 => ?_
 ·skip
  refine dw_seq ?_; refine dwk [] TSL_ok hnt fun K hK => ?_; refine hK _ _ ?_; clear hK K; refine dw_seq ?_; refine dw_seq ?_; refine dwk [(7, .v (.int .i64 (↑l.length)))] TSL_ok hnt fun K hK => ?_; refine And.intro (dintE (by rw [eIs_len])) ?_; refine hK _ _ ?_; clear hK K; refine dw_block ?_
  refine dw_loop (ι := { j : Nat // So.ixB f l 0 = So.ixB f (l.drop j) j }) (fun j => [(.t 0, .sl 1 (eIs l) none), (.t 1, .v (.int .i64 v)), (.t 7, .v (.int .i64 ↑l.length)), (.t 8, .v (.int .i64 ↑j.1))]) 0 (fun j => l.length - j.1) (⟨0, rfl⟩) ((VS.toK (by omega) (by repeat first | exact trivial | refine And.intro (And.intro (by first | rfl | simp [D.ok, D.oks, D.okss, D.okm, upto, keyOk, argsT]) (by first | exact Or.inl rfl | exact Or.inr ⟨_, rfl, (by repeat first | exact VLe.refl _ | exact VLe.nil _ | exact VLe.untag _ _ _ | refine VLe.ag ?_ | refine VLe.tu ?_ | refine VLeL.cons ?_ ?_ | exact VLeL.nil), trivial⟩ | simp [get, Key.eq, argsT])) ?_))) fun j => ?_
  obtain ⟨j, hj⟩ := j
  dsimp only
  rw [hj]
  by_cases hlt : j < l.length
  ·by_cases hv : l[j] = v
   ·rw [So.ixB_hit hlt (by rw [hf]; simpa using hv)]
    refine dw_seq ?_; refine dwk [(9, .v (.bool true))] TSL_ok hnt fun K hK => ?_; refine And.intro auT ?_; refine hK _ _ ?_; clear hK K; refine dw_seq ?_; refine dw_cond (t := true) rfl ?_; rw [if_pos rfl]; refine dw_skip ?_; refine dw_seq ?_; refine dw_block ?_; refine dw_seq ?_; refine dwk [] TSL_ok hnt fun K hK => ?_; refine hK _ _ ?_; clear hK K; refine dw_seq ?_; refine dwk [(14, .q [.v (.int .i64 (l[j]))]), (16, .v (.bool true))] TSL_ok hnt fun K hK => ?_
    refine And.intro (elo (eIs_len l)) ?_; refine And.intro (elv (eIs_getD l j) rfl) ?_; refine And.intro (beqT hv.symm) ?_; refine hK _ _ ?_; clear hK K; refine dw_cond (t := true) rfl ?_; rw [if_pos rfl]; refine dw_seq ?_; refine dwk [] TSL_ok hnt fun K hK => ?_; refine hK _ _ ?_; clear hK K; refine dw_ret ?_
    exact reta rfl
   ·have hm := So.ixB_miss hlt (f := f) (by rw [hf]; simpa using hv)
    refine dw_seq ?_; refine dwk [(9, .v (.bool true))] TSL_ok hnt fun K hK => ?_; refine And.intro auT ?_; refine hK _ _ ?_; clear hK K; refine dw_seq ?_; refine dw_cond (t := true) rfl ?_; rw [if_pos rfl]; refine dw_skip ?_; refine dw_seq ?_; refine dw_block ?_; refine dw_seq ?_; refine dwk [] TSL_ok hnt fun K hK => ?_; refine hK _ _ ?_; clear hK K; refine dw_seq ?_; refine dwk [(14, .q [.v (.int .i64 (l[j]))]), (16, .v (.bool false))] TSL_ok hnt fun K hK => ?_
    refine And.intro (elo (eIs_len l)) ?_; refine And.intro (elv (eIs_getD l j) rfl) ?_; refine And.intro (beqF (fun h => hv h.symm)) ?_; refine hK _ _ ?_; clear hK K; refine dw_cond (t := false) rfl ?_; rw [if_neg (by simp)]; refine dw_skip ?_; refine dwk [(18, .v (.int .i64 (↑(j + 1))))] TSL_ok hnt fun K hK => ?_; refine And.intro auI ?_; refine hK _ _ ?_; clear hK K
    rw [hm]
    refine ⟨⟨j + 1, rfl⟩, by first | omega | (dsimp only; omega), VS.toA⟩
  ·rw [So.ixB_end (by omega)]
   refine dw_seq ?_; refine dwk [(9, .v (.bool false))] TSL_ok hnt fun K hK => ?_; refine And.intro auF ?_; refine hK _ _ ?_; clear hK K; refine dw_seq ?_; refine dw_cond (t := false) rfl ?_; rw [if_neg (by simp)]; refine dw_exit ?_; refine dw_seq ?_; refine dwk [] TSL_ok hnt fun K hK => ?_; refine hK _ _ ?_; clear hK K; refine dw_ret ?_
   exact reta rfl
theorem contains_d (v : Int) (l : List Int) (hl : l.length ≤ 1000000) : PureC Tryz.prog 69 [.sl 1 (eIs l) none, .v (.int .i64 v)] (.v (.bool (l.any fun x => decide (x = v)))) := by
 have hi := index_d v l hl
 have hg := So.ixB_ge (f := fun x => decide (x = v)) l 0
 refine calldw 0 9 [ResultVar.tmp 4] TSL_ok Tryz.func69 rfl Tryz.ntmps69 rfl fun cx hnt hn0 => ?_
 ·skip
  refine dw_seq ?_; refine dwk [] TSL_ok hnt fun K hK => ?_; refine hK _ _ ?_; clear hK K; refine dw_seq ?_; refine dwk [(8, .v (.bool (l.any fun x => decide (x = v))))] TSL_ok hnt fun K hK => ?_; refine dcl (hi) ?_; refine And.intro (VLe.of_eq (by congr 2; rw [Bool.eq_iff_iff]; simpa using hg)) ?_; refine hK _ _ ?_; clear hK K; refine dw_ret ?_
  exact reta rfl
def del (m : List Int) (p : Int × Tm) : Bool := m.any fun x => decide (x = p.1)
def kept (m : List Int) (l : List (Int × Tm)) : List (Int × Tm) := l.filter fun p => !del m p
end Go.Proofs.YtdmiekaeodcehaaGreat

namespace Go.Proofs.YtdmiekaeodcehaaGreat
open Go.RowKit
def TRP_27 : TI := ⟨4, true, [Value.slice none 0 0, Value.int IntKind.i64 0, Value.int IntKind.i64 0, Value.slice none 0 0], [(0, 1, false), (1, 2, true), (3, 1, false)], none, 64, 6, none, false⟩
theorem TRP_27_ok : TypOk Tryz.prog 27 TRP_27 := ⟨by kernel_rfl, by kernel_rfl, by kernel_rfl, by kernel_rfl, by kernel_rfl⟩
def TRP_3 : TI := ⟨1, false, [Value.int IntKind.i64 0], [], none, 8, 2, none, false⟩
theorem TRP_3_ok : TypOk Tryz.prog 3 TRP_3 := ⟨by kernel_rfl, by kernel_rfl, by kernel_rfl, by kernel_rfl, by kernel_rfl⟩
def TRP_82 : TI := ⟨1, false, [Value.slice none 0 0], [], some 3, 24, 5, none, false⟩
theorem TRP_82_ok : TypOk Tryz.prog 82 TRP_82 := ⟨by kernel_rfl, by kernel_rfl, by kernel_rfl, by kernel_rfl, by kernel_rfl⟩
def TRP_25 : TI := ⟨1, false, [Value.slice none 0 0], [], some 27, 24, 5, none, false⟩
theorem TRP_25_ok : TypOk Tryz.prog 25 TRP_25 := ⟨by kernel_rfl, by kernel_rfl, by kernel_rfl, by kernel_rfl, by kernel_rfl⟩
def TRP_22 : TI := ⟨1, false, [Value.slice none 0 0], [], some 91, 24, 5, none, false⟩
theorem TRP_22_ok : TypOk Tryz.prog 22 TRP_22 := ⟨by kernel_rfl, by kernel_rfl, by kernel_rfl, by kernel_rfl, by kernel_rfl⟩
def TRP_24 : TI := ⟨2, true, [Value.int IntKind.i64 0, Value.int IntKind.i64 0], [(0, 1, false), (1, 1, false)], none, 16, 6, none, true⟩
theorem TRP_24_ok : TypOk Tryz.prog 24 TRP_24 := ⟨by kernel_rfl, by kernel_rfl, by kernel_rfl, by kernel_rfl, by kernel_rfl⟩
def TRP_135 : TI := ⟨1, false, [Value.slice none 0 0], [], some 82, 24, 5, none, false⟩
theorem TRP_135_ok : TypOk Tryz.prog 135 TRP_135 := ⟨by kernel_rfl, by kernel_rfl, by kernel_rfl, by kernel_rfl, by kernel_rfl⟩
def TRP_116 : TI := ⟨1, false, [Value.slice none 0 0], [], some 166, 24, 5, none, false⟩
theorem TRP_116_ok : TypOk Tryz.prog 116 TRP_116 := ⟨by kernel_rfl, by kernel_rfl, by kernel_rfl, by kernel_rfl, by kernel_rfl⟩
def TRP_166 : TI := ⟨4, true, [Value.int IntKind.i64 0, Value.slice none 0 0, Value.slice none 0 0, Value.slice none 0 0], [(0, 1, false), (1, 1, false), (2, 1, false), (3, 1, false)], none, 80, 6, none, false⟩
theorem TRP_166_ok : TypOk Tryz.prog 166 TRP_166 := ⟨by kernel_rfl, by kernel_rfl, by kernel_rfl, by kernel_rfl, by kernel_rfl⟩
def TRP_91 : TI := ⟨2, true, [Value.slice none 0 0, Value.int IntKind.i64 0], [(0, 1, false), (1, 1, false)], none, 32, 6, none, false⟩
theorem TRP_91_ok : TypOk Tryz.prog 91 TRP_91 := ⟨by kernel_rfl, by kernel_rfl, by kernel_rfl, by kernel_rfl, by kernel_rfl⟩
def TRP : List (Nat × TI) := [(27, TRP_27), (3, TRP_3), (82, TRP_82), (25, TRP_25), (22, TRP_22), (24, TRP_24), (135, TRP_135), (116, TRP_116), (166, TRP_166), (91, TRP_91)]
theorem TRP_ok : TabOk Tryz.prog TRP := (((((((((((TabOk.nil _).cons TRP_91_ok).cons TRP_166_ok).cons TRP_116_ok).cons TRP_135_ok).cons TRP_24_ok).cons TRP_22_ok).cons TRP_25_ok).cons TRP_82_ok).cons TRP_3_ok).cons TRP_27_ok)

namespace Pn
mutual
def pth : Tm → List Int → List (List Int)
  | .mk _ _ _ a, p => p :: pths a p 0
def pths : List Tm → List Int → Nat → List (List Int)
  | [], _, _ => []
  | t :: l, p, j => pth t (p ++ [(j : Int)]) ++ pths l p (j + 1)
end
theorem pth_eq (b : List Ty) (k i : Int) (a : List Tm) (p : List Int) : pth (.mk b k i a) p = p :: pths a p 0 := by rw [pth]
theorem pths_app (p : List Int) : ∀ (l r : List Tm) (j : Nat), pths (l ++ r) p j = pths l p j ++ pths r p (j + l.length)
  | [], r, j => by simp [pths]
  | t :: l, r, j => by rw [List.cons_append, pths, pths, pths_app p l r (j + 1), List.append_assoc, List.length_cons, show j + 1 + l.length = j + (l.length + 1) by omega]
theorem pths_take (p : List Int) (a : List Tm) (j : Nat) (h : j < a.length) : pths (a.take (j + 1)) p 0 = pths (a.take j) p 0 ++ pth a[j] (p ++ [(j : Int)]) := by
  rw [List.take_add_one, List.getElem?_eq_getElem h, pths_app, List.length_take, Nat.min_eq_left (by omega), Nat.zero_add, Option.toList_some, pths, pths, List.append_nil]
theorem subs_pth (t : Tm) : ∀ (ar : List Ty) (p : List Int), (subs t ar p).map (·.2.2) = pth t p := by
  induction t using Tm.ind with
  | h bs k i a ih =>
    intro ar p
    rw [subs_eq, pth_eq, List.map_cons]
    have key : ∀ (l : List Tm) (j : Nat), (∀ t ∈ l, t ∈ a) → (subss l (ar ++ bs) p j).map (·.2.2) = pths l p j := by
      intro l
      induction l with
      | nil => intro j _; simp [subss, pths]
      | cons t l ihl => intro j hl; rw [subss, pths, List.map_append, ih t (hl t (by simp)), ihl _ fun u hu => hl u (by simp [hu])]
    rw [key a 0 fun t ht => ht]
theorem pth_len (t : Tm) (p : List Int) : (pth t p).length = t.size := by rw [← subs_pth t [] p, List.length_map, subs_len]
theorem pths_len (p : List Int) : ∀ (l : List Tm) (j : Nat), (pths l p j).length = Tm.sizes l
  | [], _ => by simp [pths, Tm.sizes]
  | t :: l, j => by rw [pths, List.length_append, pth_len, pths_len p l]; simp [Tm.sizes]
end Pn
theorem sizes_le_fulls (a : List Tm) : Tm.sizes a ≤ Tm.fulls a := by
  induction a with
  | nil => simp [Tm.sizes]
  | cons t l ih => have := Tm.size_le_full t; simp only [Tm.sizes, Tm.fulls]; omega
def ePaths (l : List (List Int)) : List (List D) := l.map fun p => [.sl 1 (eIs p) none]
theorem ePaths_len (l : List (List Int)) : (ePaths l).length = l.length := List.length_map ..
theorem ePaths_append (l r : List (List Int)) : ePaths (l ++ r) = ePaths l ++ ePaths r := List.map_append ..
theorem ePaths_getD (l : List (List Int)) (i : Nat) (h : i < l.length) : (ePaths l).getD i [] = [.sl 1 (eIs l[i]) none] := by
  rw [ePaths, List.getD_eq_getElem?_getD, List.getElem?_map, List.getElem?_eq_getElem h]; rfl
@[simp] theorem ePaths_ok (f g : Nat → Bool) (l : List (List Int)) : D.okss f g (ePaths l) = true := D.okss_map _ l fun l _ => by simp [D.oks, D.ok, eIs_ok]
set_option maxHeartbeats 1000000 in
theorem rall_d : ∀ (t : Tm) (p : List Int), t.full + p.length ≤ 100000 → PureC Tryz.prog 92 [.ag (eTm t), .sl 1 (eIs p) none] (.sl 1 (ePaths (Pn.pth t p)) none) := by
 intro t
 induction t using Tm.ind with
 | h bs k i a ih =>
 intro p hz
 rw [Tm.full_eq] at hz
 have hal := fulls_len a
 rw [Pn.pth_eq, eTm_eq]
 simp only [binds_mk', kind_mk', index_mk', args_mkT]
 refine calldw 0 34 [ResultVar.tmp 4] TRP_ok Tryz.func92 rfl Tryz.ntmps92 rfl fun cx hnt hn0 => ?_
 ·skip
  refine dw_seq ?_; refine dwk [] TRP_ok hnt fun K hK => ?_; refine hK _ _ ?_; clear hK K; refine dw_seq ?_; refine dwk [] TRP_ok hnt fun K hK => ?_; refine hK _ _ ?_; clear hK K; refine dw_seq ?_; refine dw_seq ?_; refine dwk [] TRP_ok hnt fun K hK => ?_; refine hK _ _ ?_; clear hK K; refine dw_block ?_
  refine dw_loop (ι := { j : Nat // j ≤ a.length }) (fun j => [(.t 1, .sl 1 (eIs p) none), (.t 2, .p 0 0), (.t 5, .sl 1 (ePaths (p :: Pn.pths (a.take j.1) p 0)) (some 3)), (.r 3, .rw 82 1 (Pn.pths (a.take j.1) p 0).length.succ), (.t 6, .v (.int .i64 ↑j.1)), (.c 0 3, .sl 4 (eTms a) none)]) 4 (fun j => a.length - j.1) (⟨0, Nat.zero_le _⟩) ((VS.toK (by omega) (by repeat first | exact trivial | refine And.intro (And.intro (by first | rfl | simp [D.ok, D.oks, D.okss, D.okm, upto, keyOk, ePaths, Pn.pths]) (by first | exact Or.inl rfl | exact Or.inr ⟨_, rfl, (by repeat first | exact VLe.refl _ | exact VLe.nil _ | exact VLe.untag _ _ _ | refine VLe.ag ?_ | refine VLe.tu ?_ | refine VLeL.cons ?_ ?_ | exact VLeL.nil), trivial⟩ | simp [get, Key.eq, ePaths, Pn.pths])) ?_))) fun j => ?_
  obtain ⟨j, hj⟩ := j
  dsimp only
  by_cases hlt : j < a.length
  ·have hmem := List.getElem_mem hlt
   have hfm := full_mem hmem
   have hih := ih a[j] hmem (p ++ [(j : Int)]) (by simp; omega)
   have hst := Pn.pths_take p a j hlt
   have hl1 := Pn.pths_len p (a.take j) 0
   have hl2 := Tm.sizes_take_le a j
   have hl3 := sizes_le_fulls a
   have hl4 := Pn.pth_len a[j] (p ++ [(j : Int)])
   have hl5 := Tm.size_le_full a[j]
   rw [eTm_eq] at hih
   obtain ⟨p2, hp2⟩ : ∃ q, p ++ [(j : Int)] = q := ⟨_, rfl⟩
   rw [hp2] at hih hst hl4
   refine dw_seq ?_; refine dw_seq ?_; refine dwk [(13, .v (.int .i64 (↑a.length))), (14, .v (.bool true))] TRP_ok hnt fun K hK => ?_; refine And.intro (dintE (by rw [eTms_len])) ?_; refine And.intro auT ?_; refine hK _ _ ?_; clear hK K; refine dw_cond (t := true) rfl ?_; rw [if_pos rfl]; refine dw_skip ?_; refine dw_seq ?_; refine dw_block ?_; refine dw_seq ?_; refine dwk [] TRP_ok hnt fun K hK => ?_
   refine hK _ _ ?_; clear hK K; refine dw_seq ?_; refine dwk [] TRP_ok hnt fun K hK => ?_; refine And.intro (by rw [eIs_len]; omega) ?_; refine hK _ _ ?_; clear hK K; refine dw_seq ?_; refine dwk [] TRP_ok hnt fun K hK => ?_; refine And.intro (⟨rfl, by rw [eIs_len]; simp; omega⟩) ?_; refine hK _ _ ?_; clear hK K; refine dwk [(28, .q [.sl 2 (eTys a[j].binds) none, .v (.int .i64 a[j].kind), .v (.int .i64 a[j].index), .sl 4 (eTms a[j].args) none]), (30, .sl 1 (eIs p2) none), (32, .sl 1 (ePaths (p :: Pn.pths (a.take (j + 1)) p 0)) (some 3))] TRP_ok hnt fun K hK => ?_
   refine And.intro (elo (eTms_len a)) ?_; refine And.intro (elv (eTms_getD a j) (eTm_eq _)) ?_; refine And.intro ((by rw [← hp2, eIs_append]; exact VLe.untag _ _ _)) ?_; refine dcl (hih) ?_; refine And.intro (⟨by rw [ePaths_len]; rfl, by rw [ePaths_len, ePaths_len]; simp; omega⟩) ?_; refine And.intro (VLe.of_eq (by rw [hst, ← List.cons_append, ePaths_append])) ?_; refine hK _ _ ?_; clear hK K; refine dwk [(16, .v (.int .i64 (↑(j + 1))))] TRP_ok hnt fun K hK => ?_
   refine And.intro auI ?_; refine hK _ _ ?_; clear hK K
   have hl6 : (ePaths (p :: Pn.pths (a.take j) p 0) ++ ePaths (Pn.pth a[j] p2)).length = (Pn.pths (a.take (j + 1)) p 0).length + 1 := by rw [← ePaths_append, ePaths_len, hst]; rfl
   refine ⟨⟨j + 1, by omega⟩, by first | omega | (dsimp only; omega), (by try simp only [List.length_append, List.length_take, List.length_cons, List.length_nil, Nat.zero_add, hl6]; exact VS.toA)⟩
  ·rw [List.take_of_length_le (by omega)]
   refine dw_seq ?_; refine dw_seq ?_; refine dwk [(13, .v (.int .i64 (↑a.length))), (14, .v (.bool false))] TRP_ok hnt fun K hK => ?_; refine And.intro (dintE (by rw [eTms_len])) ?_; refine And.intro auF ?_; refine hK _ _ ?_; clear hK K; refine dw_cond (t := false) rfl ?_; rw [if_neg (by simp)]; refine dw_exit ?_; refine dw_seq ?_; refine dwk [] TRP_ok hnt fun K hK => ?_; refine hK _ _ ?_; clear hK K
   refine dw_ret ?_
   exact reta rfl
theorem rbehind_d (l r : List Ty) (h : l.length + r.length ≤ 900000) : PureC Tryz.prog 53 [.sl 2 (eTys l) none, .sl 2 (eTys r) none] (.sl 2 (eTys (l ++ r)) none) := by
 rw [eTys_append]
 have e1 := eTys_len l
 have e2 := eTys_len r
 refine call_of_dw 0 12 [ResultVar.tmp 4] TRP_ok (by kernel_rfl) Tryz.func53 rfl Tryz.ntmps53 rfl (by simp) ?dwords ?dbody
 case dwords => simp [wordsOk, D.ok, D.oks, D.okss, rnames, inN, ckey, eTys_ok, ← eTys_append]
 case dbody =>
  intro cx hnt hn0
  refine dw_seq ?_; refine dwk [] TRP_ok hnt fun K hK => ?_; refine hK _ _ ?_; clear hK K; refine dw_seq ?_; refine dwk [] TRP_ok hnt fun K hK => ?_; refine hK _ _ ?_; clear hK K; refine dw_seq ?_; refine dwk [] TRP_ok hnt fun K hK => ?_; refine And.intro (by omega) ?_; refine hK _ _ ?_; clear hK K; refine dw_seq ?_; refine dwk [] TRP_ok hnt fun K hK => ?_; refine And.intro (⟨rfl, by omega⟩) ?_; refine hK _ _ ?_; clear hK K
  refine dw_ret ?_
  exact reta rfl
def atV (r : Option (Tm × List Ty)) : D := match r with
  | some r => .tu [.ag (eTm r.1), .sl 2 (eTys r.2) none, .v (.bool true)]
  | none => .tu [.ag (eTm Tm.zero), .sl 2 [] none, .v (.bool false)]
theorem atP_sizes : ∀ (p : List Int) (t : Tm) (r : Tm × List Ty), Pn.atP p t = some r → r.2.length + r.1.full ≤ t.full + r.1.binds.length ∧ r.1.full ≤ t.full ∧ r.2.length ≤ t.full ∧ Ty.sizes r.2 ≤ t.full
  | [], t, r, h => by
    rw [Pn.atP] at h; cases h
    have := full_args t
    have h2 := Ty.le_sizes t.binds
    dsimp only; omega
  | j :: p, t, r, h => by
    rw [Pn.atP] at h
    split at h
    · rename_i hj
      cases h2 : Pn.atP p (t.args.getD j.toNat Tm.zero) with
      | none => rw [h2] at h; cases h
      | some r' =>
        rw [h2] at h; cases h
        have hlt : j.toNat < t.args.length := by omega
        have e : t.args.getD j.toNat Tm.zero = t.args[j.toNat] := by rw [List.getD_eq_getElem?_getD, List.getElem?_eq_getElem hlt]; rfl
        rw [e] at h2
        have ih := atP_sizes p _ r' h2
        have hm := full_mem (List.getElem_mem hlt)
        have := full_args t
        have h3 := Ty.le_sizes t.binds
        dsimp only
        rw [List.length_append, Ty.sizes_append]
        omega
    · cases h
set_option maxHeartbeats 1000000 in
theorem rat_d : ∀ (p : List Int) (t : Tm), t.full ≤ 100000 → p.length ≤ 100000 → (∀ x ∈ p, -1000000000 ≤ x ∧ x ≤ 1000000000) → PureC Tryz.prog 93 [.ag (eTm t), .sl 1 (eIs p) none] (atV (Pn.atP p t))
 | [], t, hz, hp, hr => by
  rw [Pn.atP]
  unfold atV
  dsimp only
  rw [eTm_eq]
  refine calldw 0 50 [ResultVar.cell 4 27, ResultVar.tmp 5, ResultVar.tmp 6] TRP_ok Tryz.func93 rfl Tryz.ntmps93 rfl fun cx hnt hn0 => ?_
  ·skip
   refine dw_seq ?_; refine dwk [] TRP_ok hnt fun K hK => ?_; refine hK _ _ ?_; clear hK K; refine dw_seq ?_; refine dw_seq ?_; refine dwk [(13, .v (.bool true))] TRP_ok hnt fun K hK => ?_; refine And.intro (VLe.refl _) ?_; refine hK _ _ ?_; clear hK K; refine dw_cond (t := true) rfl ?_; rw [if_pos rfl]; refine dw_seq ?_; refine dwkD [] TRP_ok hnt fun K hK => ?_; refine hK _ _ (by kernel_rfl) ?_; clear hK K
   refine dw_ret ?_
   exact reta rfl
 | j :: q, t, hz, hp, hr => by
  rw [Pn.atP]
  have hj := hr j (by simp)
  by_cases hc : 0 ≤ j ∧ j < (t.args.length : Int)
  ·rw [if_pos hc]
   have hlt : j.toNat < t.args.length := by omega
   have e : t.args.getD j.toNat Tm.zero = t.args[j.toNat] := by rw [List.getD_eq_getElem?_getD, List.getElem?_eq_getElem hlt]; rfl
   rw [e]
   have hm := full_mem (List.getElem_mem hlt)
   have hft := full_args t
   have hih := rat_d q t.args[j.toNat] (by omega) (by simp at hp; omega) (fun x hx => hr x (by simp [hx]))
   have hsz := atP_sizes q t.args[j.toNat]
   have hbl := Ty.le_sizes t.binds
   obtain ⟨n, hn⟩ : ∃ n : Nat, j = n := ⟨j.toNat, by omega⟩
   subst hn
   rw [Int.toNat_natCast] at hlt
   obtain ⟨u, hu⟩ : ∃ u, t.args[(n : Int).toNat] = u := ⟨_, rfl⟩
   have hu' : t.args[n] = u := by rw [← hu]; simp
   rw [hu] at hih hsz hm ⊢
   cases ha : Pn.atP q u with
   | none =>
    rw [ha] at hih
    unfold atV at hih ⊢
    dsimp only [Option.map_none] at hih ⊢
    rw [eTm_eq, eTm_eq] at hih
    rw [eTm_eq, eTm_eq]
    refine calldw 0 50 [ResultVar.cell 4 27, ResultVar.tmp 5, ResultVar.tmp 6] TRP_ok Tryz.func93 rfl Tryz.ntmps93 rfl fun cx hnt hn0 => ?_
    ·skip
     refine dw_seq ?_; refine dwk [] TRP_ok hnt fun K hK => ?_; refine hK _ _ ?_; clear hK K; refine dw_seq ?_; refine dw_seq ?_; refine dwk [(12, .v (.int .i64 (↑(q.length + 1)))), (13, .v (.bool false))] TRP_ok hnt fun K hK => ?_; refine And.intro (dintE (by rw [eIs_len]; rfl)) ?_; refine And.intro (beqF (by omega)) ?_; refine hK _ _ ?_; clear hK K; refine dw_cond (t := false) rfl ?_; rw [if_neg (by simp)]
     refine dw_skip ?_; refine dw_seq ?_; refine dwk [(18, .q [.v (.int .i64 ↑n)])] TRP_ok hnt fun K hK => ?_; refine And.intro (⟨by omega, by rw [eIs_len, List.length_cons]; omega⟩) ?_; refine And.intro (VLe.of_eq (by simp [eIs])) ?_; refine hK _ _ ?_; clear hK K; refine dw_seq ?_; refine dw_seq ?_; refine dwk [(21, .v (.bool false)), (26, .v (.int .i64 (↑t.args.length))), (27, .v (.bool false))] TRP_ok hnt fun K hK => ?_
     refine And.intro auF ?_; refine And.intro (dintE (by rw [eTms_len])) ?_; refine And.intro auF ?_; refine hK _ _ ?_; clear hK K; refine dw_cond (t := false) rfl ?_; rw [if_neg (by simp)]; refine dw_skip ?_; refine dw_seq ?_; refine dwkD [(34, .q [.sl 2 (eTys u.binds) none, .v (.int .i64 u.kind), .v (.int .i64 u.index), .sl 4 (eTms u.args) none]), (37, .sl 1 (eIs q) none)] TRP_ok hnt fun K hK => ?_; refine And.intro (⟨by omega, by rw [eTms_len]; omega⟩) ?_
     refine And.intro (VLe.of_eq (by rw [Int.toNat_natCast, eTms_getD t.args n hlt, hu', eTm_eq])) ?_; refine And.intro (⟨by decide, by rw [eIs_len]; simp; omega⟩) ?_; refine And.intro (VLe.of_eq (by simp [eIs, List.take_of_length_le])) ?_; refine dcl (hih) ?_; refine hK _ _ (by kernel_rfl) ?_; clear hK K; refine dw_seq ?_; refine dw_seq ?_; refine dwk [] TRP_ok hnt fun K hK => ?_; refine hK _ _ ?_; clear hK K
     refine dw_cond (t := true) rfl ?_; rw [if_pos rfl]; refine dw_seq ?_; refine dwk [] TRP_ok hnt fun K hK => ?_; refine hK _ _ ?_; clear hK K; refine dw_ret ?_
     exact reta rfl
   | some r =>
    obtain ⟨x, l⟩ := r
    have hsz := hsz _ ha
    have hbh := rbehind_d t.binds l (by dsimp only at hsz; omega)
    rw [ha] at hih
    unfold atV at hih ⊢
    dsimp only [Option.map_some] at hih ⊢
    rw [eTm_eq, eTm_eq] at hih
    rw [eTm_eq, eTm_eq]
    refine calldw 0 50 [ResultVar.cell 4 27, ResultVar.tmp 5, ResultVar.tmp 6] TRP_ok Tryz.func93 rfl Tryz.ntmps93 rfl fun cx hnt hn0 => ?_
    ·skip
     refine dw_seq ?_; refine dwk [] TRP_ok hnt fun K hK => ?_; refine hK _ _ ?_; clear hK K; refine dw_seq ?_; refine dw_seq ?_; refine dwk [(12, .v (.int .i64 (↑(q.length + 1)))), (13, .v (.bool false))] TRP_ok hnt fun K hK => ?_; refine And.intro (dintE (by rw [eIs_len]; rfl)) ?_; refine And.intro (beqF (by omega)) ?_; refine hK _ _ ?_; clear hK K; refine dw_cond (t := false) rfl ?_; rw [if_neg (by simp)]
     refine dw_skip ?_; refine dw_seq ?_; refine dwk [(18, .q [.v (.int .i64 ↑n)])] TRP_ok hnt fun K hK => ?_; refine And.intro (⟨by omega, by rw [eIs_len, List.length_cons]; omega⟩) ?_; refine And.intro (VLe.of_eq (by simp [eIs])) ?_; refine hK _ _ ?_; clear hK K; refine dw_seq ?_; refine dw_seq ?_; refine dwk [(21, .v (.bool false)), (26, .v (.int .i64 (↑t.args.length))), (27, .v (.bool false))] TRP_ok hnt fun K hK => ?_
     refine And.intro auF ?_; refine And.intro (dintE (by rw [eTms_len])) ?_; refine And.intro auF ?_; refine hK _ _ ?_; clear hK K; refine dw_cond (t := false) rfl ?_; rw [if_neg (by simp)]; refine dw_skip ?_; refine dw_seq ?_; refine dwkD [(34, .q [.sl 2 (eTys u.binds) none, .v (.int .i64 u.kind), .v (.int .i64 u.index), .sl 4 (eTms u.args) none]), (37, .sl 1 (eIs q) none)] TRP_ok hnt fun K hK => ?_; refine And.intro (⟨by omega, by rw [eTms_len]; omega⟩) ?_
     refine And.intro (VLe.of_eq (by rw [Int.toNat_natCast, eTms_getD t.args n hlt, hu', eTm_eq])) ?_; refine And.intro (⟨by decide, by rw [eIs_len]; simp; omega⟩) ?_; refine And.intro (VLe.of_eq (by simp [eIs, List.take_of_length_le])) ?_; refine dcl (hih) ?_; refine hK _ _ (by kernel_rfl) ?_; clear hK K; refine dw_seq ?_; refine dw_seq ?_; refine dwk [] TRP_ok hnt fun K hK => ?_; refine hK _ _ ?_; clear hK K
     refine dw_cond (t := false) rfl ?_; rw [if_neg (by simp)]; refine dw_skip ?_; refine dw_seq ?_; refine dwkD [] TRP_ok hnt fun K hK => ?_; refine dcl (hbh) ?_; refine hK _ _ (by kernel_rfl) ?_; clear hK K; refine dw_ret ?_
     exact reta rfl
  ·rw [if_neg hc]
   unfold atV
   dsimp only
   rw [eTm_eq, eTm_eq]
   by_cases h0 : j < 0
   ·skip
    refine calldw 0 50 [ResultVar.cell 4 27, ResultVar.tmp 5, ResultVar.tmp 6] TRP_ok Tryz.func93 rfl Tryz.ntmps93 rfl fun cx hnt hn0 => ?_
    ·skip
     refine dw_seq ?_; refine dwk [] TRP_ok hnt fun K hK => ?_; refine hK _ _ ?_; clear hK K; refine dw_seq ?_; refine dw_seq ?_; refine dwk [(12, .v (.int .i64 (↑(q.length + 1)))), (13, .v (.bool false))] TRP_ok hnt fun K hK => ?_; refine And.intro (dintE (by rw [eIs_len]; rfl)) ?_; refine And.intro (beqF (by omega)) ?_; refine hK _ _ ?_; clear hK K; refine dw_cond (t := false) rfl ?_; rw [if_neg (by simp)]
     refine dw_skip ?_; refine dw_seq ?_; refine dwk [(18, .q [.v (.int .i64 j)])] TRP_ok hnt fun K hK => ?_; refine And.intro (⟨by omega, by rw [eIs_len, List.length_cons]; omega⟩) ?_; refine And.intro (VLe.of_eq (by simp [eIs])) ?_; refine hK _ _ ?_; clear hK K; refine dw_seq ?_; refine dw_seq ?_; refine dwk [(21, .v (.bool true))] TRP_ok hnt fun K hK => ?_; refine And.intro auT ?_; refine hK _ _ ?_; clear hK K
     refine dw_cond (t := true) rfl ?_; rw [if_pos rfl]; refine dw_seq ?_; refine dwk [] TRP_ok hnt fun K hK => ?_; refine hK _ _ ?_; clear hK K; refine dw_ret ?_
     exact reta rfl
   ·skip
    refine calldw 0 50 [ResultVar.cell 4 27, ResultVar.tmp 5, ResultVar.tmp 6] TRP_ok Tryz.func93 rfl Tryz.ntmps93 rfl fun cx hnt hn0 => ?_
    ·skip
     refine dw_seq ?_; refine dwk [] TRP_ok hnt fun K hK => ?_; refine hK _ _ ?_; clear hK K; refine dw_seq ?_; refine dw_seq ?_; refine dwk [(12, .v (.int .i64 (↑(q.length + 1)))), (13, .v (.bool false))] TRP_ok hnt fun K hK => ?_; refine And.intro (dintE (by rw [eIs_len]; rfl)) ?_; refine And.intro (beqF (by omega)) ?_; refine hK _ _ ?_; clear hK K; refine dw_cond (t := false) rfl ?_; rw [if_neg (by simp)]
     refine dw_skip ?_; refine dw_seq ?_; refine dwk [(18, .q [.v (.int .i64 j)])] TRP_ok hnt fun K hK => ?_; refine And.intro (⟨by omega, by rw [eIs_len, List.length_cons]; omega⟩) ?_; refine And.intro (VLe.of_eq (by simp [eIs])) ?_; refine hK _ _ ?_; clear hK K; refine dw_seq ?_; refine dw_seq ?_; refine dwk [(21, .v (.bool false)), (26, .v (.int .i64 (↑t.args.length))), (27, .v (.bool true))] TRP_ok hnt fun K hK => ?_
     refine And.intro auF ?_; refine And.intro (dintE (by rw [eTms_len])) ?_; refine And.intro auT ?_; refine hK _ _ ?_; clear hK K; refine dw_cond (t := true) rfl ?_; rw [if_pos rfl]; refine dw_seq ?_; refine dwk [] TRP_ok hnt fun K hK => ?_; refine hK _ _ ?_; clear hK K; refine dw_ret ?_
     exact reta rfl
theorem contains_take {l : List Int} {j : Nat} {n : Int} (hlt : j < l.length) (hj : (l.take j).contains n = false) (he : l[j] ≠ n) : (l.take (j + 1)).contains n = false := by
  rw [Bool.eq_false_iff, ne_eq, List.contains_iff_mem, List.take_add_one, List.getElem?_eq_getElem hlt, List.mem_append]
  rintro (h | h)
  · rw [← List.contains_iff_mem, hj] at h; cases h
  · rw [Option.toList_some, List.mem_singleton] at h; exact he h.symm
theorem rhas_d (l : List Int) (n : Int) (hl : l.length ≤ 1000000) : PureC Tryz.prog 72 [.sl 1 (eIs l) none, .v (.int .i64 n)] (.v (.bool (l.contains n))) := by
 refine calldw 0 18 [ResultVar.tmp 4] TRP_ok Tryz.func72 rfl Tryz.ntmps72 rfl fun cx hnt hn0 => ?_
 ·skip
  refine dw_seq ?_; refine dwk [] TRP_ok hnt fun K hK => ?_; refine hK _ _ ?_; clear hK K; refine dw_seq ?_; refine dw_seq ?_; refine dwk [] TRP_ok hnt fun K hK => ?_; refine hK _ _ ?_; clear hK K; refine dw_block ?_
  refine dw_loop (ι := { j : Nat // (l.take j).contains n = false }) (fun j => [(.t 0, .sl 1 (eIs l) none), (.t 1, .v (.int .i64 n)), (.t 5, .v (.int .i64 ↑j.1))]) 0 (fun j => l.length - j.1) (⟨0, rfl⟩) ((VS.toK (by omega) (by repeat first | exact trivial | refine And.intro (And.intro (by first | rfl | simp [D.ok, D.oks, D.okss, D.okm, upto, keyOk, argsT]) (by first | exact Or.inl rfl | exact Or.inr ⟨_, rfl, (by repeat first | exact VLe.refl _ | exact VLe.nil _ | exact VLe.untag _ _ _ | refine VLe.ag ?_ | refine VLe.tu ?_ | refine VLeL.cons ?_ ?_ | exact VLeL.nil), trivial⟩ | simp [get, Key.eq, argsT])) ?_))) fun j => ?_
  obtain ⟨j, hj⟩ := j
  dsimp only
  by_cases hlt : j < l.length
  ·by_cases he : l[j] = n
   ·have hc : l.contains n = true := by rw [List.contains_iff_mem, ← he]; exact List.getElem_mem hlt
    rw [hc]
    refine dw_seq ?_; refine dw_seq ?_; refine dwk [(8, .v (.int .i64 (↑l.length))), (9, .v (.bool true))] TRP_ok hnt fun K hK => ?_; refine And.intro (dintE (by rw [eIs_len])) ?_; refine And.intro auT ?_; refine hK _ _ ?_; clear hK K; refine dw_cond (t := true) rfl ?_; rw [if_pos rfl]; refine dw_skip ?_; refine dw_seq ?_; refine dw_block ?_; refine dw_seq ?_; refine dwk [(14, .q [.v (.int .i64 (l[j]))]), (17, .v (.bool true))] TRP_ok hnt fun K hK => ?_
    refine And.intro (elo (eIs_len l)) ?_; refine And.intro (elv (eIs_getD l j) rfl) ?_; refine And.intro (beqT he) ?_; refine hK _ _ ?_; clear hK K; refine dw_cond (t := true) rfl ?_; rw [if_pos rfl]; refine dw_seq ?_; refine dwk [] TRP_ok hnt fun K hK => ?_; refine hK _ _ ?_; clear hK K; refine dw_ret ?_
    exact reta rfl
   ·skip
    refine dw_seq ?_; refine dw_seq ?_; refine dwk [(8, .v (.int .i64 (↑l.length))), (9, .v (.bool true))] TRP_ok hnt fun K hK => ?_; refine And.intro (dintE (by rw [eIs_len])) ?_; refine And.intro auT ?_; refine hK _ _ ?_; clear hK K; refine dw_cond (t := true) rfl ?_; rw [if_pos rfl]; refine dw_skip ?_; refine dw_seq ?_; refine dw_block ?_; refine dw_seq ?_; refine dwk [(14, .q [.v (.int .i64 (l[j]))]), (17, .v (.bool false))] TRP_ok hnt fun K hK => ?_
    refine And.intro (elo (eIs_len l)) ?_; refine And.intro (elv (eIs_getD l j) rfl) ?_; refine And.intro (beqF he) ?_; refine hK _ _ ?_; clear hK K; refine dw_cond (t := false) rfl ?_; rw [if_neg (by simp)]; refine dw_skip ?_; refine dwk [(11, .v (.int .i64 (↑(j + 1))))] TRP_ok hnt fun K hK => ?_; refine And.intro auI ?_; refine hK _ _ ?_; clear hK K
    refine ⟨⟨j + 1, contains_take hlt hj he⟩, by first | omega | (dsimp only; omega), VS.toA⟩
  ·rw [List.take_of_length_le (by omega)] at hj
   rw [hj]
   refine dw_seq ?_; refine dw_seq ?_; refine dwk [(8, .v (.int .i64 (↑l.length))), (9, .v (.bool false))] TRP_ok hnt fun K hK => ?_; refine And.intro (dintE (by rw [eIs_len])) ?_; refine And.intro auF ?_; refine hK _ _ ?_; clear hK K; refine dw_cond (t := false) rfl ?_; rw [if_neg (by simp)]; refine dw_exit ?_; refine dw_seq ?_; refine dwk [] TRP_ok hnt fun K hK => ?_; refine hK _ _ ?_; clear hK K; refine dw_ret ?_
   exact reta rfl
end Go.Proofs.YtdmiekaeodcehaaGreat

namespace Go.Proofs.YtdmiekaeodcehaaGreat
open Go.RowKit
def TF4_3 : TI := ⟨1, false, [Value.int IntKind.i64 0], [], none, 8, 2, none, false⟩
theorem TF4_3_ok : TypOk Tryz.prog 3 TF4_3 := ⟨by kernel_rfl, by kernel_rfl, by kernel_rfl, by kernel_rfl, by kernel_rfl⟩
def TF4_91 : TI := ⟨2, true, [Value.slice none 0 0, Value.int IntKind.i64 0], [(0, 1, false), (1, 1, false)], none, 32, 6, none, false⟩
theorem TF4_91_ok : TypOk Tryz.prog 91 TF4_91 := ⟨by kernel_rfl, by kernel_rfl, by kernel_rfl, by kernel_rfl, by kernel_rfl⟩
def TF4_22 : TI := ⟨1, false, [Value.slice none 0 0], [], some 91, 24, 5, none, false⟩
theorem TF4_22_ok : TypOk Tryz.prog 22 TF4_22 := ⟨by kernel_rfl, by kernel_rfl, by kernel_rfl, by kernel_rfl, by kernel_rfl⟩
def TF4 : List (Nat × TI) := [(3, TF4_3), (91, TF4_91), (22, TF4_22)]
theorem TF4_ok : TabOk Tryz.prog TF4 := ((((TabOk.nil _).cons TF4_22_ok).cons TF4_91_ok).cons TF4_3_ok)

mutual
def fewT (most : Int) : Ty → Int → Int
  | .mk a _, d => if d ≤ 0 then most + 1 else fewTs most a (d - 1) 1
def fewTs (most : Int) : List Ty → Int → Int → Int
  | [], _, n => n
  | t :: l, d, n => if n ≤ most then fewTs most l d (n + fewT most t d) else n
end
theorem fewTs_le {most : Int} (hm : 0 ≤ most) {B : Int} (hB : 0 ≤ B) : ∀ (l : List Ty) (d n : Int), (∀ t ∈ l, 1 ≤ fewT most t d ∧ fewT most t d ≤ B) → 1 ≤ n → n ≤ most + B → 1 ≤ fewTs most l d n ∧ fewTs most l d n ≤ most + B
  | [], d, n, _, h0, h1 => by rw [fewTs]; exact ⟨h0, h1⟩
  | t :: l, d, n, h, h0, h1 => by
    rw [fewTs]
    split
    · have := h t (by simp)
      exact fewTs_le hm hB l d _ (fun u hu => h u (by simp [hu])) (by omega) (by omega)
    · exact ⟨h0, h1⟩
theorem fewT_le {most : Int} (hm : 1 ≤ most) : ∀ (k : Nat) (t : Ty) (d : Int), d ≤ k → 1 ≤ fewT most t d ∧ fewT most t d ≤ most * k + most + 1
  | 0, .mk a b, d, hd => by
    rw [fewT, if_pos (by omega)]
    have e : most * ((0 : Nat) : Int) = 0 := Int.mul_zero _
    rw [e]; omega
  | k + 1, .mk a b, d, hd => by
    rw [fewT]
    have e : most * ((k + 1 : Nat) : Int) = most * (k : Int) + most := by rw [Int.natCast_add, Int.mul_add]; simp
    have h0 : 0 ≤ most * (k : Int) := Int.mul_nonneg (by omega) (by omega)
    split
    · rw [e]; omega
    · have := fewTs_le (most := most) (by omega) (B := most * k + most + 1) (by omega) a (d - 1) 1 (fun t _ => fewT_le hm k t (d - 1) (by omega)) (by omega) (by omega)
      rw [e]; omega
set_option maxHeartbeats 1000000 in
theorem few4_d (most : Int) (h1 : 1 ≤ most) (h2 : most ≤ 1000) : ∀ (t : Ty) (d : Int), -1000 ≤ d → d ≤ 1000 → PureC Tryz.prog 96 [.ag (eTy t), .v (.int .i64 most), .v (.int .i64 d)] (.v (.int .i64 (fewT most t d))) := by
 intro t
 induction t using Ty.ind with
 | h a b ih =>
 intro d hd1 hd2
 refine call_of_dw 0 37 [ResultVar.tmp 6] TF4_ok (by kernel_rfl) Tryz.func96 rfl Tryz.ntmps96 rfl (by simp) ?dwords ?dbody
 case dwords => simp [wordsOk, D.ok, D.oks, rnames, eTy_ok]
 case dbody =>
  intro cx hnt hn0
  refine dw_seq ?_; refine dwk [] TF4_ok hnt fun K hK => ?_; refine hK _ _ ?_; clear hK K; refine dw_seq (dw_seq ?_)
  by_cases hd : d ≤ 0
  ·have hf : fewT most (.mk a b) d = most + 1 := by rw [fewT, if_pos hd]
   rw [hf]
   refine dwk [(10, .v (.bool true))] TF4_ok hnt fun K hK => ?_; refine And.intro (dtrue hd) ?_; refine hK _ _ ?_; clear hK K; refine dw_cond (t := true) rfl ?_; rw [if_pos rfl]; refine dw_seq ?_; refine dwk [(12, .v (.int .i64 (most + 1)))] TF4_ok hnt fun K hK => ?_; refine And.intro (dintE (IntWalk.i64_in _ (by omega))) ?_; refine hK _ _ ?_; clear hK K; refine dw_ret ?_
   exact retv (N := 0) (.inr rfl) rfl (VLe.refl _) trivial
  ·have hf : fewT most (.mk a b) d = fewTs most a (d - 1) 1 := by rw [fewT, if_neg hd]
   rw [hf]
   refine dwk [(10, .v (.bool false))] TF4_ok hnt fun K hK => ?_; refine And.intro (dfalse hd) ?_; refine hK _ _ ?_; clear hK K; refine dw_cond (t := false) rfl ?_; rw [if_neg (by simp)]; refine dw_skip ?_; refine dw_seq ?_; refine dwk [] TF4_ok hnt fun K hK => ?_; refine hK _ _ ?_; clear hK K; refine dw_seq (dw_seq ?_); refine dwk [] TF4_ok hnt fun K hK => ?_; refine hK _ _ ?_; clear hK K; refine dw_block ?_
   refine dw_loop (ι := { p : Nat × Int // fewTs most (a.drop p.1) (d - 1) p.2 = fewTs most a (d - 1) 1 ∧ (p.1 : Int) + 1 ≤ p.2 ∧ p.2 ≤ 2000000 ∧ p.1 ≤ a.length }) (fun p => [(.t 1, .v (.int .i64 most)), (.t 2, .v (.int .i64 d)), (.t 3, .p 0 0), (.t 7, .v (.int .i64 p.1.2)), (.t 8, .v (.int .i64 (p.1.1 : Int))), (.c 0 0, .sl 2 (eTys a) none), (.c 0 1, .v (.int .i64 b))]) 1 (fun p => a.length - p.1.1) ⟨(0, 1), by simp, by simp, by simp, by simp⟩ VS.toA fun p => ?_
   obtain ⟨⟨j, n⟩, hj1, hj2, hj3, hj4⟩ := p
   dsimp only at hj1 hj2 hj3 hj4 ⊢
   refine dw_seq (dw_seq ?_)
   by_cases hlt : j < a.length
   ·have hdr : a.drop j = a[j] :: a.drop (j + 1) := List.drop_eq_getElem_cons hlt
    rw [hdr, fewTs] at hj1
    by_cases hn : n ≤ most
    ·rw [if_pos hn] at hj1
     have hih := ih a[j] (List.getElem_mem hlt) (d - 1) (by omega) (by omega)
     rw [eTy_eq] at hih
     have hbd := fewT_le h1 1000 a[j] (d - 1) (by omega)
     have hbd2 : most * ((1000 : Nat) : Int) ≤ 1000000 := by
      have : most * ((1000 : Nat) : Int) = 1000 * most := by rw [Int.mul_comm]; rfl
      omega
     refine dwk [(17, .v (.bool true)), (21, .v (.bool true))] TF4_ok hnt fun K hK => ?_; refine And.intro (dtrue (by rw [eTys_len]; omega)) ?_; refine And.intro (dtrue hn) ?_; refine hK _ _ ?_; clear hK K; refine dw_cond (t := true) rfl ?_; rw [if_pos rfl]; refine dw_skip ?_; refine dw_seq (dw_block ?_); refine dwk [(29, .q [.sl 2 (eTys a[j].args) none, .v (.int .i64 a[j].base)]), (33, .v (.int .i64 (d - 1))), (35, .v (.int .i64 (n + fewT most a[j] (d - 1))))] TF4_ok hnt fun K hK => ?_
     refine And.intro (⟨by omega, by rw [eTys_len]; omega⟩) ?_; refine And.intro (VLe.of_eq (by rw [Int.toNat_natCast, eTys_getD a j hlt, eTy_eq])) ?_; refine And.intro (dintE (IntWalk.i64_in _ (by omega))) ?_; refine dcl (hih) ?_; refine And.intro (dintE (IntWalk.i64_in _ (by omega))) ?_; refine hK _ _ ?_; clear hK K; refine dwk [(24, .v (.int .i64 ((j + 1 : Nat) : Int)))] TF4_ok hnt fun K hK => ?_; refine And.intro (dintE (by rw [IntWalk.i64_in _ (by omega)]; omega)) ?_
     refine hK _ _ ?_; clear hK K
     exact ⟨⟨(j + 1, n + fewT most a[j] (d - 1)), hj1, by dsimp only; omega, by dsimp only; omega, hlt⟩, by dsimp only; omega, VS.toA⟩
    ·rw [if_neg hn] at hj1
     rw [← hj1]
     refine dwk [(17, .v (.bool true)), (21, .v (.bool false))] TF4_ok hnt fun K hK => ?_; refine And.intro (dtrue (by rw [eTys_len]; omega)) ?_; refine And.intro (dfalse hn) ?_; refine hK _ _ ?_; clear hK K; refine dw_cond (t := false) rfl ?_; rw [if_neg (by simp)]; refine dw_exit ?_; refine dw_seq ?_; refine dwk [] TF4_ok hnt fun K hK => ?_; refine hK _ _ ?_; clear hK K; refine dw_ret ?_
     exact retv (N := 0) (.inr rfl) rfl (VLe.refl _) trivial
   ·rw [List.drop_eq_nil_of_le (by omega), fewTs] at hj1
    rw [← hj1]
    refine dwk [(17, .v (.bool false))] TF4_ok hnt fun K hK => ?_; refine And.intro (dfalse (by rw [eTys_len]; omega)) ?_; refine hK _ _ ?_; clear hK K; refine dw_cond (t := false) rfl ?_; rw [if_neg (by simp)]; refine dw_exit ?_; refine dw_seq ?_; refine dwk [] TF4_ok hnt fun K hK => ?_; refine hK _ _ ?_; clear hK K; refine dw_ret ?_
    exact retv (N := 0) (.inr rfl) rfl (VLe.refl _) trivial
theorem fewTs_size {most : Int} : ∀ (l : List Ty) (d n : Int), (∀ t ∈ l, fewT most t d ≤ most → (t.size : Int) = fewT most t d) → (∀ t ∈ l, 1 ≤ fewT most t d) → 1 ≤ n → fewTs most l d n ≤ most → fewTs most l d n = n + Ty.sizes l
  | [], d, n, _, _, _, _ => by rw [fewTs]; simp [Ty.sizes]
  | t :: l, d, n, h, h1, hn, hf => by
    rw [fewTs] at hf ⊢
    split at hf
    · rename_i hm
      rw [if_pos hm]
      have h2 := h1 t (by simp)
      have h3 := fewTs_size l d _ (fun u hu => h u (by simp [hu])) (fun u hu => h1 u (by simp [hu])) (by omega) hf
      have h4 : fewT most t d ≤ most := by omega
      have h5 := h t (by simp) h4
      rw [h3, Ty.sizes]; omega
    · rename_i hm; omega
theorem fewT_size {most : Int} (hm : 1 ≤ most) : ∀ (k : Nat) (t : Ty) (d : Int), d ≤ k → fewT most t d ≤ most → (t.size : Int) = fewT most t d
  | 0, .mk a b, d, hd, h => by rw [fewT, if_pos (by omega)] at h; omega
  | k + 1, .mk a b, d, hd, h => by
    rw [fewT] at h ⊢
    split at h
    · omega
    · rename_i hp
      rw [if_neg hp]
      have := fewTs_size a (d - 1) 1 (fun t _ => fewT_size hm k t (d - 1) (by omega)) (fun t _ => (fewT_le hm k t (d - 1) (by omega)).1) (by omega) h
      rw [this, Ty.size_eq]; omega
theorem Few4_d (most : Int) (h1 : 1 ≤ most) (h2 : most ≤ 1000) (t : Ty) (d : Int) (h3 : -1000 ≤ d) (h4 : d ≤ 1000) : PureC Tryz.prog 54 [.ag (eTy t), .v (.int .i64 most), .v (.int .i64 d)] (.v (.bool (decide (fewT most t d ≤ most)))) := by
 have h := few4_d most h1 h2 t d h3 h4
 rw [eTy_eq] at h ⊢
 refine call_of_dw 0 13 [ResultVar.tmp 6] TF4_ok (by kernel_rfl) Tryz.func54 rfl Tryz.ntmps54 rfl (by simp) ?dwords ?dbody
 case dwords => simp [wordsOk, D.ok, D.oks, rnames, eTys_ok]
 case dbody =>
  intro cx hnt hn0
  refine dw_seq ?_; refine dwk [] TF4_ok hnt fun K hK => ?_; refine hK _ _ ?_; clear hK K; refine dw_seq ?_; refine dwk [] TF4_ok hnt fun K hK => ?_; refine dcl (h) ?_; refine hK _ _ ?_; clear hK K; refine dw_ret ?_
  exact retv (N := 0) (.inr rfl) rfl (VLe.refl _) trivial
set_option maxHeartbeats 1000000 in
theorem Size4_d : ∀ (t : Ty) (_ : t.size ≤ 1000000), PureC Tryz.prog 119 [.ag (eTy t)] (.v (.int .i64 (t.size : Int))) := by
 intro t
 induction t using Ty.ind with
 | h a b ih =>
 intro hsz
 have hsz2 := Ty.size_eq a b
 refine call_of_dw 0 21 [ResultVar.tmp 2] TF4_ok (by kernel_rfl) Tryz.func119 rfl Tryz.ntmps119 rfl (by simp) ?dwords ?dbody
 case dwords => simp [wordsOk, D.ok, D.oks, rnames, eTy_ok]
 case dbody =>
  intro cx hnt hn0
  refine dw_seq ?_; refine dwk [] TF4_ok hnt fun K hK => ?_; refine hK _ _ ?_; clear hK K; refine dw_seq ?_; refine dwk [] TF4_ok hnt fun K hK => ?_; refine hK _ _ ?_; clear hK K; refine dw_seq (dw_seq ?_); refine dwk [] TF4_ok hnt fun K hK => ?_; refine hK _ _ ?_; clear hK K; refine dw_block ?_
  refine dw_loop (ι := { j : Nat // j ≤ a.length }) (fun j => [(.t 1, .p 0 0), (.t 3, .v (.int .i64 ((Ty.sizes (a.take j.1) : Int) + 1))), (.t 4, .v (.int .i64 (j.1 : Int))), (.c 0 0, .sl 2 (eTys a) none), (.c 0 1, .v (.int .i64 b))]) 1 (fun j => a.length - j.1) ⟨0, Nat.zero_le _⟩ VS.toA fun j => ?_
  obtain ⟨j, hj⟩ := j
  dsimp only
  have hst := Ty.sizes_take_le a j
  have hst2 := Ty.sizes_take_le a (j + 1)
  have hla := Ty.le_sizes a
  refine dw_seq (dw_seq ?_)
  by_cases hlt : j < a.length
  ·have hih := ih a[j] (List.getElem_mem hlt) (by have := Ty.size_get (b := b) j hlt; omega)
   rw [eTy_eq] at hih
   have htk := Ty.sizes_take a j hlt
   refine dwk [(9, .v (.bool true))] TF4_ok hnt fun K hK => ?_; refine And.intro (dtrue (by rw [eTys_len]; omega)) ?_; refine hK _ _ ?_; clear hK K; refine dw_cond (t := true) rfl ?_; rw [if_pos rfl]; refine dw_skip ?_; refine dw_seq (dw_block ?_); refine dwk [(16, .q [.sl 2 (eTys a[j].args) none, .v (.int .i64 a[j].base)]), (19, .v (.int .i64 ((Ty.sizes (a.take (j + 1)) : Int) + 1)))] TF4_ok hnt fun K hK => ?_
   refine And.intro (⟨by omega, by rw [eTys_len]; omega⟩) ?_; refine And.intro (VLe.of_eq (by rw [Int.toNat_natCast, eTys_getD a j hlt, eTy_eq])) ?_; refine dcl (hih) ?_; refine And.intro (dintE (by rw [IntWalk.i64_in _ (by omega), htk]; omega)) ?_; refine hK _ _ ?_; clear hK K; refine dwk [(11, .v (.int .i64 ((j + 1 : Nat) : Int)))] TF4_ok hnt fun K hK => ?_; refine And.intro (dintE (by rw [IntWalk.i64_in _ (by omega)]; omega)) ?_
   refine hK _ _ ?_; clear hK K
   exact ⟨⟨j + 1, hlt⟩, by dsimp only; omega, VS.toA⟩
  ·skip
   refine dwk [(9, .v (.bool false))] TF4_ok hnt fun K hK => ?_; refine And.intro (dfalse (by rw [eTys_len]; omega)) ?_; refine hK _ _ ?_; clear hK K; refine dw_cond (t := false) rfl ?_; rw [if_neg (by simp)]; refine dw_exit ?_; refine dw_seq ?_
   have hsz3 : ((Ty.mk a b).size : Int) = (Ty.sizes (a.take j) : Int) + 1 := by rw [List.take_of_length_le (by omega), hsz2]; omega
   rw [hsz3]
   refine dwk [] TF4_ok hnt fun K hK => ?_; refine hK _ _ ?_; clear hK K; refine dw_ret ?_
   exact retv (N := 0) (.inr rfl) rfl (VLe.refl _) trivial
end Go.Proofs.YtdmiekaeodcehaaGreat

namespace Go.Proofs.YtdmiekaeodcehaaGreat
open Go.RowKit
def TF6_3 : TI := ⟨1, false, [Value.int IntKind.i64 0], [], none, 8, 2, none, false⟩
theorem TF6_3_ok : TypOk Tryz.prog 3 TF6_3 := ⟨by kernel_rfl, by kernel_rfl, by kernel_rfl, by kernel_rfl, by kernel_rfl⟩
def TF6_27 : TI := ⟨4, true, [Value.slice none 0 0, Value.int IntKind.i64 0, Value.int IntKind.i64 0, Value.slice none 0 0], [(0, 1, false), (1, 2, true), (3, 1, false)], none, 64, 6, none, false⟩
theorem TF6_27_ok : TypOk Tryz.prog 27 TF6_27 := ⟨by kernel_rfl, by kernel_rfl, by kernel_rfl, by kernel_rfl, by kernel_rfl⟩
def TF6_22 : TI := ⟨1, false, [Value.slice none 0 0], [], some 91, 24, 5, none, false⟩
theorem TF6_22_ok : TypOk Tryz.prog 22 TF6_22 := ⟨by kernel_rfl, by kernel_rfl, by kernel_rfl, by kernel_rfl, by kernel_rfl⟩
def TF6_25 : TI := ⟨1, false, [Value.slice none 0 0], [], some 27, 24, 5, none, false⟩
theorem TF6_25_ok : TypOk Tryz.prog 25 TF6_25 := ⟨by kernel_rfl, by kernel_rfl, by kernel_rfl, by kernel_rfl, by kernel_rfl⟩
def TF6_91 : TI := ⟨2, true, [Value.slice none 0 0, Value.int IntKind.i64 0], [(0, 1, false), (1, 1, false)], none, 32, 6, none, false⟩
theorem TF6_91_ok : TypOk Tryz.prog 91 TF6_91 := ⟨by kernel_rfl, by kernel_rfl, by kernel_rfl, by kernel_rfl, by kernel_rfl⟩
def TF6 : List (Nat × TI) := [(3, TF6_3), (27, TF6_27), (22, TF6_22), (25, TF6_25), (91, TF6_91)]
theorem TF6_ok : TabOk Tryz.prog TF6 := ((((((TabOk.nil _).cons TF6_91_ok).cons TF6_25_ok).cons TF6_22_ok).cons TF6_27_ok).cons TF6_3_ok)

def fewB1 (most d : Int) : List Ty → Int → Option Int
  | [], n => some n
  | t :: l, n => if n ≤ most then (if fewT most t d ≤ most then fewB1 most d l (n + t.size) else none) else some n
mutual
def fewM (most : Int) : Tm → Int → Int
  | .mk bs _ _ a, d => if d ≤ 0 then most + 1 else match fewB1 most d bs 1 with
    | none => most + 1
    | some n => fewMs most a (d - 1) n
def fewMs (most : Int) : List Tm → Int → Int → Int
  | [], _, n => n
  | t :: l, d, n => if n ≤ most then fewMs most l d (n + fewM most t d) else n
end
theorem fewB1_le {most d : Int} (hm : 1 ≤ most) (hd : d ≤ 1000) : ∀ (l : List Ty) (n : Int), 1 ≤ n → n ≤ 2 * most → ∀ r, fewB1 most d l n = some r → 1 ≤ r ∧ r ≤ 2 * most
  | [], n, h0, h1, r, h => by rw [fewB1] at h; cases h; exact ⟨h0, h1⟩
  | t :: l, n, h0, h1, r, h => by
    rw [fewB1] at h
    split at h
    · split at h
      · rename_i h2
        have := fewT_size hm 1000 t d hd h2
        have := (fewT_le hm 1000 t d hd).1
        exact fewB1_le hm hd l _ (by omega) (by omega) r h
      · cases h
    · cases h; exact ⟨h0, h1⟩
theorem fewMs_le {most : Int} (hm : 1 ≤ most) {B : Int} (hB : most ≤ B) : ∀ (l : List Tm) (d n : Int), (∀ t ∈ l, 1 ≤ fewM most t d ∧ fewM most t d ≤ B) → 1 ≤ n → n ≤ most + B → 1 ≤ fewMs most l d n ∧ fewMs most l d n ≤ most + B
  | [], d, n, _, h0, h1 => by rw [fewMs]; exact ⟨h0, h1⟩
  | t :: l, d, n, h, h0, h1 => by
    rw [fewMs]
    split
    · have := h t (by simp)
      exact fewMs_le hm hB l d _ (fun u hu => h u (by simp [hu])) (by omega) (by omega)
    · exact ⟨h0, h1⟩
theorem fewM_le {most : Int} (hm : 1 ≤ most) : ∀ (k : Nat) (t : Tm) (d : Int), k ≤ 1000 → d ≤ k → 1 ≤ fewM most t d ∧ fewM most t d ≤ most * k + most + 1
  | 0, .mk bs kd i a, d, hk, hd => by
    rw [fewM, if_pos (by omega)]
    have e : most * ((0 : Nat) : Int) = 0 := Int.mul_zero _
    rw [e]; omega
  | k + 1, .mk bs kd i a, d, hk, hd => by
    rw [fewM]
    have e : most * ((k + 1 : Nat) : Int) = most * (k : Int) + most := by rw [Int.natCast_add, Int.mul_add]; simp
    have h0 : 0 ≤ most * (k : Int) := Int.mul_nonneg (by omega) (by omega)
    rw [e]
    split
    · omega
    · cases hb : fewB1 most d bs 1 with
      | none => dsimp only; omega
      | some n =>
        have hn := fewB1_le hm (by omega) bs 1 (by omega) (by omega) n hb
        have := fewMs_le hm (B := most * k + most + 1) (by omega) a (d - 1) n (fun t _ => fewM_le hm k t (d - 1) (by omega) (by omega)) hn.1 (by omega)
        dsimp only
        omega
set_option maxHeartbeats 4000000 in
theorem few6_d (most : Int) (h1 : 1 ≤ most) (h2 : most ≤ 1000) : ∀ (t : Tm) (d : Int), -1000 ≤ d → d ≤ 1000 → PureC Tryz.prog 121 [.ag (eTm t), .v (.int .i64 most), .v (.int .i64 d)] (.v (.int .i64 (fewM most t d))) := by
 intro t
 induction t using Tm.ind with
 | h bs k i a ih =>
 intro d hd1 hd2
 obtain ⟨V, hV⟩ : ∃ V, fewM most (.mk bs k i a) d = V := ⟨_, rfl⟩
 rw [hV]
 rw [fewM] at hV
 refine call_of_dw 0 69 [ResultVar.tmp 6] TF6_ok (by kernel_rfl) Tryz.func121 rfl Tryz.ntmps121 rfl (by simp) ?dwords ?dbody
 case dwords => simp [wordsOk, D.ok, D.oks, rnames, eTm_ok]
 case dbody =>
  intro cx hnt hn0
  refine dw_seq ?_; refine dwk [] TF6_ok hnt fun K hK => ?_; refine hK _ _ ?_; clear hK K; refine dw_seq (dw_seq ?_)
  by_cases hd : d ≤ 0
  ·rw [if_pos hd] at hV
   subst hV
   refine dwk [(11, .v (.bool true))] TF6_ok hnt fun K hK => ?_; refine And.intro (dtrue hd) ?_; refine hK _ _ ?_; clear hK K; refine dw_cond (t := true) rfl ?_; rw [if_pos rfl]; refine dw_seq ?_; refine dwk [(13, .v (.int .i64 (most + 1)))] TF6_ok hnt fun K hK => ?_; refine And.intro (dintE (IntWalk.i64_in _ (by omega))) ?_; refine hK _ _ ?_; clear hK K; refine dw_ret ?_
   exact retv (N := 0) (.inr rfl) rfl (VLe.refl _) trivial
  ·rw [if_neg hd] at hV; refine dwk [(11, .v (.bool false))] TF6_ok hnt fun K hK => ?_; refine And.intro (dfalse hd) ?_; refine hK _ _ ?_; clear hK K; refine dw_cond (t := false) rfl ?_; rw [if_neg (by simp)]; refine dw_skip ?_; refine dw_seq ?_; refine dwk [] TF6_ok hnt fun K hK => ?_; refine hK _ _ ?_; clear hK K
   refine dw_cutE (ι := { n : Int // 1 ≤ n ∧ n ≤ 2 * most ∧ V = fewMs most a (d - 1) n }) (fun n => [(.t 1, .v (.int .i64 most)), (.t 2, .v (.int .i64 d)), (.t 3, .p 0 0), (.t 7, .v (.int .i64 n.1)), (.c 0 0, .sl 2 (eTys bs) none), (.c 0 1, .v (.int .i64 k)), (.c 0 2, .v (.int .i64 i)), (.c 0 3, .sl 4 (eTms a) none)]) 1 ?_ fun n => ?_
   ·refine dw_seq ?_; refine dwk [] TF6_ok hnt fun K hK => ?_; refine hK _ _ ?_; clear hK K; refine dw_block ?_
    refine dw_loop (ι := { p : Nat × Int // fewB1 most d (bs.drop p.1) p.2 = fewB1 most d bs 1 ∧ (p.1 : Int) + 1 ≤ p.2 ∧ p.2 ≤ 2 * most ∧ p.1 ≤ bs.length }) (fun p => [(.t 1, .v (.int .i64 most)), (.t 2, .v (.int .i64 d)), (.t 3, .p 0 0), (.t 7, .v (.int .i64 p.1.2)), (.t 8, .v (.int .i64 (p.1.1 : Int))), (.c 0 0, .sl 2 (eTys bs) none), (.c 0 1, .v (.int .i64 k)), (.c 0 2, .v (.int .i64 i)), (.c 0 3, .sl 4 (eTms a) none)]) 1 (fun p => bs.length - p.1.1) ⟨(0, 1), by simp, by simp, by dsimp only; omega, by simp⟩ VS.toA fun p => ?_
    obtain ⟨⟨j, n⟩, hj1, hj2, hj3, hj4⟩ := p
    dsimp only at hj1 hj2 hj3 hj4 ⊢
    refine dw_seq (dw_seq ?_)
    by_cases hlt : j < bs.length
    ·have hdr : bs.drop j = bs[j] :: bs.drop (j + 1) := List.drop_eq_getElem_cons hlt
     rw [hdr, fewB1] at hj1
     by_cases hn : n ≤ most
     ·rw [if_pos hn] at hj1
      have hF := Few4_d most h1 h2 bs[j] d hd1 hd2
      rw [eTy_eq] at hF
      have hq : (eTys bs).getD (j : Int).toNat [] = [.sl 2 (eTys bs[j].args) none, .v (.int .i64 bs[j].base)] := by rw [Int.toNat_natCast, eTys_getD bs j hlt, eTy_eq]
      have hb : (0 : Int) ≤ (j : Int) ∧ (j : Int) < ((eTys bs).length : Int) := ⟨by omega, by rw [eTys_len]; omega⟩
      refine dwk [(18, .v (.bool true)), (22, .v (.bool true))] TF6_ok hnt fun K hK => ?_; refine And.intro (dtrue (by rw [eTys_len]; omega)) ?_; refine And.intro (dtrue hn) ?_; refine hK _ _ ?_; clear hK K; refine dw_cond (t := true) rfl ?_; rw [if_pos rfl]; refine dw_skip ?_; refine dw_seq (dw_block ?_); refine dw_seq (dw_seq ?_)
      by_cases hff : fewT most bs[j] d ≤ most
      ·rw [if_pos hff] at hj1
       rw [decide_eq_true hff] at hF
       have hs1 := fewT_size h1 1000 bs[j] d (by omega) hff
       have hs2 := (fewT_le h1 1000 bs[j] d (by omega)).1
       have hS := Size4_d bs[j] (by omega)
       rw [eTy_eq] at hS
       refine dwk [(29, .q [.sl 2 (eTys bs[j].args) none, .v (.int .i64 bs[j].base)])] TF6_ok hnt fun K hK => ?_; refine And.intro (hb) ?_; refine And.intro (VLe.of_eq (by rw [hq])) ?_; refine dcl (hF) ?_; refine hK _ _ ?_; clear hK K; refine dw_cond (t := false) rfl ?_; rw [if_neg (by simp)]; refine dw_skip ?_; refine dwk [(41, .q [.sl 2 (eTys bs[j].args) none, .v (.int .i64 bs[j].base)]), (44, .v (.int .i64 (n + (bs[j].size : Int))))] TF6_ok hnt fun K hK => ?_
       refine And.intro (hb) ?_; refine And.intro (VLe.of_eq (by rw [hq])) ?_; refine dcl (hS) ?_; refine And.intro (dintE (IntWalk.i64_in _ (by omega))) ?_; refine hK _ _ ?_; clear hK K; refine dwk [(25, .v (.int .i64 ((j + 1 : Nat) : Int)))] TF6_ok hnt fun K hK => ?_; refine And.intro (dintE (by rw [IntWalk.i64_in _ (by omega)]; omega)) ?_; refine hK _ _ ?_; clear hK K
       exact ⟨⟨(j + 1, n + (bs[j].size : Int)), hj1, by dsimp only; omega, by dsimp only; omega, hlt⟩, by dsimp only; omega, VS.toA⟩
      ·rw [if_neg hff] at hj1
       rw [decide_eq_false hff] at hF
       rw [← hj1] at hV
       dsimp only at hV
       subst hV
       refine dwk [(29, .q [.sl 2 (eTys bs[j].args) none, .v (.int .i64 bs[j].base)])] TF6_ok hnt fun K hK => ?_; refine And.intro (hb) ?_; refine And.intro (VLe.of_eq (by rw [hq])) ?_; refine dcl (hF) ?_; refine hK _ _ ?_; clear hK K; refine dw_cond (t := true) rfl ?_; rw [if_pos rfl]; refine dw_seq ?_; refine dwk [(36, .v (.int .i64 (most + 1)))] TF6_ok hnt fun K hK => ?_; refine And.intro (dintE (IntWalk.i64_in _ (by omega))) ?_
       refine hK _ _ ?_; clear hK K; refine dw_ret ?_
       exact retv (N := 0) (.inr rfl) rfl (VLe.refl _) trivial
     ·rw [if_neg hn] at hj1
      rw [← hj1] at hV
      dsimp only at hV
      refine dwk [(18, .v (.bool true)), (22, .v (.bool false))] TF6_ok hnt fun K hK => ?_; refine And.intro (dtrue (by rw [eTys_len]; omega)) ?_; refine And.intro (dfalse hn) ?_; refine hK _ _ ?_; clear hK K; refine dw_cond (t := false) rfl ?_; rw [if_neg (by simp)]; refine dw_exit ?_
      exact cutE_ok (Q := RetOk TF6 [ResultVar.tmp 6] (.v (.int .i64 V)) []) ⟨n, by omega, hj3, hV.symm⟩ VS.toA
    ·rw [List.drop_eq_nil_of_le (by omega), fewB1] at hj1
     rw [← hj1] at hV
     dsimp only at hV
     refine dwk [(18, .v (.bool false))] TF6_ok hnt fun K hK => ?_; refine And.intro (dfalse (by rw [eTys_len]; omega)) ?_; refine hK _ _ ?_; clear hK K; refine dw_cond (t := false) rfl ?_; rw [if_neg (by simp)]; refine dw_exit ?_
     exact cutE_ok (Q := RetOk TF6 [ResultVar.tmp 6] (.v (.int .i64 V)) []) ⟨n, by omega, hj3, hV.symm⟩ VS.toA
   ·obtain ⟨n0, hn1, hn2, hVn⟩ := n
    dsimp only
    rw [hVn]
    refine dw_seq (dw_seq ?_); refine dwk [] TF6_ok hnt fun K hK => ?_; refine hK _ _ ?_; clear hK K; refine dw_block ?_
    refine dw_loop (ι := { p : Nat × Int // fewMs most (a.drop p.1) (d - 1) p.2 = fewMs most a (d - 1) n0 ∧ (p.1 : Int) + 1 ≤ p.2 ∧ p.2 ≤ 2000000 ∧ p.1 ≤ a.length }) (fun p => [(.t 1, .v (.int .i64 most)), (.t 2, .v (.int .i64 d)), (.t 3, .p 0 0), (.t 7, .v (.int .i64 p.1.2)), (.t 9, .v (.int .i64 (p.1.1 : Int))), (.c 0 0, .sl 2 (eTys bs) none), (.c 0 1, .v (.int .i64 k)), (.c 0 2, .v (.int .i64 i)), (.c 0 3, .sl 4 (eTms a) none)]) 1 (fun p => a.length - p.1.1) ⟨(0, n0), by simp, by dsimp only; omega, by dsimp only; omega, by simp⟩ VS.toA fun p => ?_
    obtain ⟨⟨j, n⟩, hj1, hj2, hj3, hj4⟩ := p
    dsimp only at hj1 hj2 hj3 hj4 ⊢
    refine dw_seq (dw_seq ?_)
    by_cases hlt : j < a.length
    ·have hdr : a.drop j = a[j] :: a.drop (j + 1) := List.drop_eq_getElem_cons hlt
     rw [hdr, fewMs] at hj1
     by_cases hn : n ≤ most
     ·rw [if_pos hn] at hj1
      have hih := ih a[j] (List.getElem_mem hlt) (d - 1) (by omega) (by omega)
      rw [eTm_eq] at hih
      have hbd := fewM_le h1 1000 a[j] (d - 1) (by omega) (by omega)
      have hbd2 : most * ((1000 : Nat) : Int) ≤ 1000000 := by
       have : most * ((1000 : Nat) : Int) = 1000 * most := by rw [Int.mul_comm]; rfl
       omega
      refine dwk [(49, .v (.bool true)), (53, .v (.bool true))] TF6_ok hnt fun K hK => ?_; refine And.intro (dtrue (by rw [eTms_len]; omega)) ?_; refine And.intro (dtrue hn) ?_; refine hK _ _ ?_; clear hK K; refine dw_cond (t := true) rfl ?_; rw [if_pos rfl]; refine dw_skip ?_; refine dw_seq (dw_block ?_); refine dwk [(61, .q [.sl 2 (eTys a[j].binds) none, .v (.int .i64 a[j].kind), .v (.int .i64 a[j].index), .sl 4 (eTms a[j].args) none]), (65, .v (.int .i64 (d - 1))), (67, .v (.int .i64 (n + fewM most a[j] (d - 1))))] TF6_ok hnt fun K hK => ?_
      refine And.intro (⟨by omega, by rw [eTms_len]; omega⟩) ?_; refine And.intro (VLe.of_eq (by rw [Int.toNat_natCast, eTms_getD a j hlt, eTm_eq])) ?_; refine And.intro (dintE (IntWalk.i64_in _ (by omega))) ?_; refine dcl (hih) ?_; refine And.intro (dintE (IntWalk.i64_in _ (by omega))) ?_; refine hK _ _ ?_; clear hK K; refine dwk [(56, .v (.int .i64 ((j + 1 : Nat) : Int)))] TF6_ok hnt fun K hK => ?_; refine And.intro (dintE (by rw [IntWalk.i64_in _ (by omega)]; omega)) ?_
      refine hK _ _ ?_; clear hK K
      exact ⟨⟨(j + 1, n + fewM most a[j] (d - 1)), hj1, by dsimp only; omega, by dsimp only; omega, hlt⟩, by dsimp only; omega, VS.toA⟩
     ·rw [if_neg hn] at hj1
      rw [← hj1]
      refine dwk [(49, .v (.bool true)), (53, .v (.bool false))] TF6_ok hnt fun K hK => ?_; refine And.intro (dtrue (by rw [eTms_len]; omega)) ?_; refine And.intro (dfalse hn) ?_; refine hK _ _ ?_; clear hK K; refine dw_cond (t := false) rfl ?_; rw [if_neg (by simp)]; refine dw_exit ?_; refine dw_seq ?_; refine dwk [] TF6_ok hnt fun K hK => ?_; refine hK _ _ ?_; clear hK K; refine dw_ret ?_
      exact retv (N := 0) (.inr rfl) rfl (VLe.refl _) trivial
    ·rw [List.drop_eq_nil_of_le (by omega), fewMs] at hj1
     rw [← hj1]
     refine dwk [(49, .v (.bool false))] TF6_ok hnt fun K hK => ?_; refine And.intro (dfalse (by rw [eTms_len]; omega)) ?_; refine hK _ _ ?_; clear hK K; refine dw_cond (t := false) rfl ?_; rw [if_neg (by simp)]; refine dw_exit ?_; refine dw_seq ?_; refine dwk [] TF6_ok hnt fun K hK => ?_; refine hK _ _ ?_; clear hK K; refine dw_ret ?_
     exact retv (N := 0) (.inr rfl) rfl (VLe.refl _) trivial
theorem Few6_d (most : Int) (h1 : 1 ≤ most) (h2 : most ≤ 1000) (t : Tm) (d : Int) (h3 : -1000 ≤ d) (h4 : d ≤ 1000) : PureC Tryz.prog 84 [.ag (eTm t), .v (.int .i64 most), .v (.int .i64 d)] (.v (.bool (decide (fewM most t d ≤ most)))) := by
 have h := few6_d most h1 h2 t d h3 h4
 rw [eTm_eq] at h ⊢
 refine call_of_dw 0 13 [ResultVar.tmp 6] TF6_ok (by kernel_rfl) Tryz.func84 rfl Tryz.ntmps84 rfl (by simp) ?dwords ?dbody
 case dwords => simp [wordsOk, D.ok, D.oks, rnames, eTys_ok, eTms_ok]
 case dbody =>
  intro cx hnt hn0
  refine dw_seq ?_; refine dwk [] TF6_ok hnt fun K hK => ?_; refine hK _ _ ?_; clear hK K; refine dw_seq ?_; refine dwk [] TF6_ok hnt fun K hK => ?_; refine dcl (h) ?_; refine hK _ _ ?_; clear hK K; refine dw_ret ?_
  exact retv (N := 0) (.inr rfl) rfl (VLe.refl _) trivial
def fewB (t : Tm) : Bool := decide (fewM 150 t 70 ≤ 150)
set_option maxHeartbeats 1000000 in
theorem lawFew_d (l : List Tm) (hl : l.length ≤ 1000000) : PureC Tryz.prog 36 [.sl 4 (eTms l) none] (.v (.bool (l.all fewB))) := by
 refine call_of_dw 0 16 [ResultVar.tmp 2] TF6_ok (by kernel_rfl) Tryz.func36 rfl Tryz.ntmps36 rfl (by simp) ?dwords ?dbody
 case dwords => simp [wordsOk, D.ok, D.oks, rnames, eTms_ok]
 case dbody =>
  intro cx hnt hn0
  refine dw_seq ?_; refine dwk [] TF6_ok hnt fun K hK => ?_; refine hK _ _ ?_; clear hK K; refine dw_seq (dw_seq ?_); refine dwk [] TF6_ok hnt fun K hK => ?_; refine hK _ _ ?_; clear hK K; refine dw_block ?_
  refine dw_loop (ι := { j : Nat // ∀ i (h : i < l.length), i < j → fewB l[i] = true }) (fun j => [(.t 0, .sl 4 (eTms l) none), (.t 3, .v (.int .i64 (j.1 : Int)))]) 1 (fun j => l.length - j.1) ⟨0, fun i h1 h2 => by omega⟩ VS.toA fun j => ?_
  obtain ⟨j, hj⟩ := j
  dsimp only
  refine dw_seq (dw_seq ?_)
  by_cases hlt : j < l.length
  ·have hi := Few6_d 150 (by decide) (by decide) l[j] 70 (by decide) (by decide)
   rw [eTm_eq] at hi
   have hq : (eTms l).getD (j : Int).toNat [] = [.sl 2 (eTys l[j].binds) none, .v (.int .i64 l[j].kind), .v (.int .i64 l[j].index), .sl 4 (eTms l[j].args) none] := by rw [Int.toNat_natCast, eTms_getD l j hlt, eTm_eq]
   have hb : (0 : Int) ≤ (j : Int) ∧ (j : Int) < ((eTms l).length : Int) := ⟨by omega, by rw [eTms_len]; omega⟩
   refine dwk [(7, .v (.bool true))] TF6_ok hnt fun K hK => ?_; refine And.intro (dtrue (by rw [eTms_len]; omega)) ?_; refine hK _ _ ?_; clear hK K; refine dw_cond (t := true) rfl ?_; rw [if_pos rfl]; refine dw_skip ?_; refine dw_seq (dw_block (dw_seq ?_))
   cases hf : fewB l[j] with
   | true =>
    have hf2 := hf
    unfold fewB at hf2
    rw [hf2] at hi
    refine dwk [(12, .q [.sl 2 (eTys l[j].binds) none, .v (.int .i64 l[j].kind), .v (.int .i64 l[j].index), .sl 4 (eTms l[j].args) none])] TF6_ok hnt fun K hK => ?_; refine And.intro (hb) ?_; refine And.intro (VLe.of_eq (by rw [hq])) ?_; refine dcl (hi) ?_; refine hK _ _ ?_; clear hK K; refine dw_cond (t := false) rfl ?_; rw [if_neg (by simp)]; refine dw_skip ?_; refine dwk [(9, .v (.int .i64 ((j + 1 : Nat) : Int)))] TF6_ok hnt fun K hK => ?_
    refine And.intro (dintE (by rw [IntWalk.i64_in _ (by omega)]; omega)) ?_; refine hK _ _ ?_; clear hK K
    refine ⟨⟨j + 1, fun i h1 h2 => ?_⟩, by dsimp only; omega, VS.toA⟩
    by_cases he : i = j
    ·subst he; exact hf
    ·exact hj i h1 (by omega)
   | false =>
    have hf2 := hf
    unfold fewB at hf2
    rw [hf2] at hi
    have ha : l.all fewB = false := by rw [List.all_eq_false]; exact ⟨l[j], List.getElem_mem hlt, by rw [hf]; simp⟩
    rw [ha]
    refine dwk [(12, .q [.sl 2 (eTys l[j].binds) none, .v (.int .i64 l[j].kind), .v (.int .i64 l[j].index), .sl 4 (eTms l[j].args) none])] TF6_ok hnt fun K hK => ?_; refine And.intro (hb) ?_; refine And.intro (VLe.of_eq (by rw [hq])) ?_; refine dcl (hi) ?_; refine hK _ _ ?_; clear hK K; refine dw_cond (t := true) rfl ?_; rw [if_pos rfl]; refine dw_seq ?_; refine dwk [] TF6_ok hnt fun K hK => ?_; refine hK _ _ ?_; clear hK K
    refine dw_ret ?_
    exact retv (N := 0) (.inr rfl) rfl (VLe.refl _) trivial
  ·have ha : l.all fewB = true := by
    rw [List.all_eq_true]
    intro t ht
    obtain ⟨i, hi, rfl⟩ := List.getElem_of_mem ht
    exact hj i hi (by omega)
   rw [ha]
   refine dwk [(7, .v (.bool false))] TF6_ok hnt fun K hK => ?_; refine And.intro (dfalse (by rw [eTms_len]; omega)) ?_; refine hK _ _ ?_; clear hK K; refine dw_cond (t := false) rfl ?_; rw [if_neg (by simp)]; refine dw_exit ?_; refine dw_seq ?_; refine dwk [] TF6_ok hnt fun K hK => ?_; refine hK _ _ ?_; clear hK K; refine dw_ret ?_
   exact retv (N := 0) (.inr rfl) rfl (VLe.refl _) trivial
end Go.Proofs.YtdmiekaeodcehaaGreat

namespace Go.Proofs.YtdmiekaeodcehaaGreat
open Go.RowKit

theorem fewB1_full {most d : Int} (hm : 1 ≤ most) (hd : d ≤ 1000) : ∀ (l : List Ty) (n r : Int), fewB1 most d l n = some r → r ≤ most → r = n + Ty.sizes l
  | [], n, r, h, _ => by rw [fewB1] at h; cases h; simp [Ty.sizes]
  | t :: l, n, r, h, hr => by
    rw [fewB1] at h
    split at h
    · split at h
      · have := fewB1_full hm hd l _ r h hr
        rw [this, Ty.sizes]; omega
      · cases h
    · cases h; omega
theorem fewMs_full {most : Int} : ∀ (l : List Tm) (d n : Int), (∀ t ∈ l, fewM most t d ≤ most → (t.full : Int) = fewM most t d ∧ (t.depth : Int) ≤ d) → (∀ t ∈ l, 1 ≤ fewM most t d) → 1 ≤ n → fewMs most l d n ≤ most → fewMs most l d n = n + Tm.fulls l ∧ (∀ t ∈ l, (t.depth : Int) ≤ d) ∧ n ≤ most
  | [], d, n, _, _, _, h => by rw [fewMs] at h ⊢; exact ⟨by simp [Tm.fulls], nofun, h⟩
  | t :: l, d, n, h, h1, hn, hf => by
    rw [fewMs] at hf ⊢
    split at hf
    · rename_i hm
      rw [if_pos hm]
      have h2 := h1 t (by simp)
      obtain ⟨h3, h4, h5⟩ := fewMs_full l d _ (fun u hu => h u (by simp [hu])) (fun u hu => h1 u (by simp [hu])) (by omega) hf
      obtain ⟨h6, h7⟩ := h t (by simp) (by omega)
      refine ⟨by rw [h3, Tm.fulls]; omega, fun u hu => ?_, hm⟩
      rcases List.mem_cons.1 hu with rfl | hu
      · exact h7
      · exact h4 u hu
    · rename_i hm; omega
theorem depths_max {d : Int} (hd : 0 ≤ d) : ∀ (l : List Tm), (∀ t ∈ l, (t.depth : Int) ≤ d) → (Tm.depths l : Int) ≤ d
  | [], _ => by simp [Tm.depths]; exact hd
  | t :: l, h => by
    have h1 := h t (by simp)
    have h2 := depths_max hd l fun u hu => h u (by simp [hu])
    simp only [Tm.depths]; omega
theorem fewM_full {most : Int} (hm : 1 ≤ most) : ∀ (k : Nat) (t : Tm) (d : Int), k ≤ 1000 → d ≤ k → fewM most t d ≤ most → (t.full : Int) = fewM most t d ∧ (t.depth : Int) ≤ d
  | 0, .mk bs kd i a, d, hk, hd, h => by rw [fewM, if_pos (by omega)] at h; omega
  | k + 1, .mk bs kd i a, d, hk, hd, h => by
    rw [fewM] at h ⊢
    split at h
    · omega
    · rename_i hp
      rw [if_neg hp]
      cases hb : fewB1 most d bs 1 with
      | none => rw [hb] at h; dsimp only at h; omega
      | some n =>
        rw [hb] at h
        dsimp only at h ⊢
        have hn := fewB1_le hm (by omega) bs 1 (by omega) (by omega) n hb
        obtain ⟨h3, h4, h5⟩ := fewMs_full a (d - 1) n (fun t _ => fewM_full hm k t (d - 1) (by omega) (by omega)) (fun t _ => (fewM_le hm k t (d - 1) (by omega) (by omega)).1) hn.1 h
        have h6 := fewB1_full hm (by omega) bs 1 n hb h5
        have h7 := depths_max (by omega) a h4
        rw [Tm.full_eq, Tm.depth_eq]
        constructor
        · omega
        · omega
theorem fewB_full {t : Tm} (h : fewB t = true) : t.full ≤ 150 ∧ t.depth ≤ 70 := by
  unfold fewB at h
  rw [decide_eq_true_eq] at h
  obtain ⟨h1, h2⟩ := fewM_full (by decide) 1000 t 70 (by decide) (by decide) h
  omega
end Go.Proofs.YtdmiekaeodcehaaGreat

namespace Go.Proofs.YtdmiekaeodcehaaGreat
open Go.RowKit
def TS9_22 : TI := ⟨1, false, [Value.slice none 0 0], [], some 91, 24, 5, none, false⟩
theorem TS9_22_ok : TypOk Tryz.prog 22 TS9_22 := ⟨by kernel_rfl, by kernel_rfl, by kernel_rfl, by kernel_rfl, by kernel_rfl⟩
def TS9_3 : TI := ⟨1, false, [Value.int IntKind.i64 0], [], none, 8, 2, none, false⟩
theorem TS9_3_ok : TypOk Tryz.prog 3 TS9_3 := ⟨by kernel_rfl, by kernel_rfl, by kernel_rfl, by kernel_rfl, by kernel_rfl⟩
def TS9_54 : TI := ⟨3, true, [Value.int IntKind.i64 0, Value.slice none 0 0, Value.slice none 0 0], [(0, 1, false), (1, 1, false), (2, 1, false)], none, 56, 6, none, false⟩
theorem TS9_54_ok : TypOk Tryz.prog 54 TS9_54 := ⟨by kernel_rfl, by kernel_rfl, by kernel_rfl, by kernel_rfl, by kernel_rfl⟩
def TS9_91 : TI := ⟨2, true, [Value.slice none 0 0, Value.int IntKind.i64 0], [(0, 1, false), (1, 1, false)], none, 32, 6, none, false⟩
theorem TS9_91_ok : TypOk Tryz.prog 91 TS9_91 := ⟨by kernel_rfl, by kernel_rfl, by kernel_rfl, by kernel_rfl, by kernel_rfl⟩
def TS9 : List (Nat × TI) := [(22, TS9_22), (3, TS9_3), (54, TS9_54), (91, TS9_91)]
theorem TS9_ok : TabOk Tryz.prog TS9 := (((((TabOk.nil _).cons TS9_91_ok).cons TS9_54_ok).cons TS9_3_ok).cons TS9_22_ok)
def few4B (t : Ty) : Bool := decide (fewT 60 t 60 ≤ 60)
theorem fewT60 {t : Ty} (h : few4B t = true) : t.size ≤ 60 := by
  unfold few4B at h
  rw [decide_eq_true_eq] at h
  have := fewT_size (by decide) 1000 t 60 (by decide) h
  omega
set_option maxHeartbeats 1000000 in
theorem small_d (b : Int) (C M X : List Ty) (h1 : C.length ≤ 20) (h2 : M.length ≤ 20) (h3 : X.length ≤ 20) : PureC Tryz.prog 19 [.ag [.v (.int .i64 b), .sl 2 (eTys C) none, .sl 2 (eTys M) none], .sl 2 (eTys X) none] (.v (.bool (((C ++ M) ++ X).all few4B))) := by
 have hB := rbehind_d C M (by omega)
 have hB2 := rbehind_d (C ++ M) X (by simp; omega)
 obtain ⟨l, hl⟩ : ∃ l, (C ++ M) ++ X = l := ⟨_, rfl⟩
 rw [hl] at hB2 ⊢
 have hll : l.length ≤ 60 := by rw [← hl]; simp; omega
 refine call_of_dw 0 41 [ResultVar.tmp 4] TS9_ok (by kernel_rfl) Tryz.func19 rfl Tryz.ntmps19 rfl (by simp) ?dwords ?dbody
 case dwords => simp [wordsOk, D.ok, D.oks, rnames, eTys_ok]
 case dbody =>
  intro cx hnt hn0
  refine dw_seq ?_; refine dwk [] TS9_ok hnt fun K hK => ?_; refine hK _ _ ?_; clear hK K; refine dw_seq (dw_seq ?_); refine dwk [(10, .v (.bool false)), (15, .v (.bool false)), (20, .v (.bool false))] TS9_ok hnt fun K hK => ?_; refine And.intro (dfalse (by rw [eTys_len]; omega)) ?_; refine And.intro (dfalse (by rw [eTys_len]; omega)) ?_; refine And.intro (dfalse (by rw [eTys_len]; omega)) ?_; refine hK _ _ ?_; clear hK K
  refine dw_cond (t := false) rfl ?_; rw [if_neg (by simp)]; refine dw_skip ?_; refine dw_seq ?_; refine dwk [] TS9_ok hnt fun K hK => ?_; refine dcl (hB) ?_; refine dcl (hB2) ?_; refine hK _ _ ?_; clear hK K; refine dw_seq (dw_seq ?_); refine dwk [] TS9_ok hnt fun K hK => ?_; refine hK _ _ ?_; clear hK K; refine dw_block ?_
  refine dw_loop (ι := { j : Nat // ∀ i (h : i < l.length), i < j → few4B l[i] = true }) (fun j => [(.t 5, .sl 2 (eTys l) none), (.t 6, .v (.int .i64 (j.1 : Int)))]) 1 (fun j => l.length - j.1) ⟨0, fun i h1 h2 => by omega⟩ VS.toA fun j => ?_
  obtain ⟨j, hj⟩ := j
  dsimp only
  refine dw_seq (dw_seq ?_)
  by_cases hlt : j < l.length
  ·have hi := Few4_d 60 (by decide) (by decide) l[j] 60 (by decide) (by decide)
   rw [eTy_eq] at hi
   have hq : (eTys l).getD (j : Int).toNat [] = [.sl 2 (eTys l[j].args) none, .v (.int .i64 l[j].base)] := by rw [Int.toNat_natCast, eTys_getD l j hlt, eTy_eq]
   have hb : (0 : Int) ≤ (j : Int) ∧ (j : Int) < ((eTys l).length : Int) := ⟨by omega, by rw [eTys_len]; omega⟩
   refine dwk [(32, .v (.bool true))] TS9_ok hnt fun K hK => ?_; refine And.intro (dtrue (by rw [eTys_len]; omega)) ?_; refine hK _ _ ?_; clear hK K; refine dw_cond (t := true) rfl ?_; rw [if_pos rfl]; refine dw_skip ?_; refine dw_seq (dw_block (dw_seq ?_))
   cases hf : few4B l[j] with
   | true =>
    have hf2 := hf
    unfold few4B at hf2
    rw [hf2] at hi
    refine dwk [(37, .q [.sl 2 (eTys l[j].args) none, .v (.int .i64 l[j].base)])] TS9_ok hnt fun K hK => ?_; refine And.intro (hb) ?_; refine And.intro (VLe.of_eq (by rw [hq])) ?_; refine dcl (hi) ?_; refine hK _ _ ?_; clear hK K; refine dw_cond (t := false) rfl ?_; rw [if_neg (by simp)]; refine dw_skip ?_; refine dwk [(34, .v (.int .i64 ((j + 1 : Nat) : Int)))] TS9_ok hnt fun K hK => ?_; refine And.intro (dintE (by rw [IntWalk.i64_in _ (by omega)]; omega)) ?_
    refine hK _ _ ?_; clear hK K
    refine ⟨⟨j + 1, fun i h1 h2 => ?_⟩, by dsimp only; omega, VS.toA⟩
    by_cases he : i = j
    ·subst he; exact hf
    ·exact hj i h1 (by omega)
   | false =>
    have hf2 := hf
    unfold few4B at hf2
    rw [hf2] at hi
    have ha : l.all few4B = false := by rw [List.all_eq_false]; exact ⟨l[j], List.getElem_mem hlt, by rw [hf]; simp⟩
    rw [ha]
    refine dwk [(37, .q [.sl 2 (eTys l[j].args) none, .v (.int .i64 l[j].base)])] TS9_ok hnt fun K hK => ?_; refine And.intro (hb) ?_; refine And.intro (VLe.of_eq (by rw [hq])) ?_; refine dcl (hi) ?_; refine hK _ _ ?_; clear hK K; refine dw_cond (t := true) rfl ?_; rw [if_pos rfl]; refine dw_seq ?_; refine dwk [] TS9_ok hnt fun K hK => ?_; refine hK _ _ ?_; clear hK K; refine dw_ret ?_
    exact retv (N := 0) (.inr rfl) rfl (VLe.refl _) trivial
  ·have ha : l.all few4B = true := by
    rw [List.all_eq_true]
    intro t ht
    obtain ⟨i, hi, rfl⟩ := List.getElem_of_mem ht
    exact hj i hi (by omega)
   rw [ha]
   refine dwk [(32, .v (.bool false))] TS9_ok hnt fun K hK => ?_; refine And.intro (dfalse (by rw [eTys_len]; omega)) ?_; refine hK _ _ ?_; clear hK K; refine dw_cond (t := false) rfl ?_; rw [if_neg (by simp)]; refine dw_exit ?_; refine dw_seq ?_; refine dwk [] TS9_ok hnt fun K hK => ?_; refine hK _ _ ?_; clear hK K; refine dw_ret ?_
   exact retv (N := 0) (.inr rfl) rfl (VLe.refl _) trivial
set_option maxHeartbeats 1000000 in
theorem small_no (b : Int) (C M X : List Ty) (h : ¬ (C.length ≤ 20 ∧ M.length ≤ 20 ∧ X.length ≤ 20)) : PureC Tryz.prog 19 [.ag [.v (.int .i64 b), .sl 2 (eTys C) none, .sl 2 (eTys M) none], .sl 2 (eTys X) none] (.v (.bool false)) := by
 refine call_of_dw 0 41 [ResultVar.tmp 4] TS9_ok (by kernel_rfl) Tryz.func19 rfl Tryz.ntmps19 rfl (by simp) ?dwords ?dbody
 case dwords => simp [wordsOk, D.ok, D.oks, rnames, eTys_ok]
 case dbody =>
  intro cx hnt hn0
  refine dw_seq ?_; refine dwk [] TS9_ok hnt fun K hK => ?_; refine hK _ _ ?_; clear hK K; refine dw_seq (dw_seq ?_)
  by_cases h1 : C.length ≤ 20
  ·by_cases h2 : M.length ≤ 20
   ·skip
    refine dwk [(10, .v (.bool false)), (15, .v (.bool false)), (20, .v (.bool true))] TS9_ok hnt fun K hK => ?_; refine And.intro (dfalse (by rw [eTys_len]; omega)) ?_; refine And.intro (dfalse (by rw [eTys_len]; omega)) ?_; refine And.intro (dtrue (by rw [eTys_len]; omega)) ?_; refine hK _ _ ?_; clear hK K; refine dw_cond (t := true) rfl ?_; rw [if_pos rfl]; refine dw_seq ?_; refine dwk [] TS9_ok hnt fun K hK => ?_
    refine hK _ _ ?_; clear hK K; refine dw_ret ?_
    exact retv (N := 0) (.inr rfl) rfl (VLe.refl _) trivial
   ·skip
    refine dwk [(10, .v (.bool false)), (15, .v (.bool true))] TS9_ok hnt fun K hK => ?_; refine And.intro (dfalse (by rw [eTys_len]; omega)) ?_; refine And.intro (dtrue (by rw [eTys_len]; omega)) ?_; refine hK _ _ ?_; clear hK K; refine dw_cond (t := true) rfl ?_; rw [if_pos rfl]; refine dw_seq ?_; refine dwk [] TS9_ok hnt fun K hK => ?_; refine hK _ _ ?_; clear hK K; refine dw_ret ?_
    exact retv (N := 0) (.inr rfl) rfl (VLe.refl _) trivial
  ·skip
   refine dwk [(10, .v (.bool true))] TS9_ok hnt fun K hK => ?_; refine And.intro (dtrue (by rw [eTys_len]; omega)) ?_; refine hK _ _ ?_; clear hK K; refine dw_cond (t := true) rfl ?_; rw [if_pos rfl]; refine dw_seq ?_; refine dwk [] TS9_ok hnt fun K hK => ?_; refine hK _ _ ?_; clear hK K; refine dw_ret ?_
   exact retv (N := 0) (.inr rfl) rfl (VLe.refl _) trivial
end Go.Proofs.YtdmiekaeodcehaaGreat

namespace Go.Proofs.YtdmiekaeodcehaaGreat
open Go.RowKit
def TTO_3 : TI := ⟨1, false, [Value.int IntKind.i64 0], [], none, 8, 2, none, false⟩
theorem TTO_3_ok : TypOk Tryz.prog 3 TTO_3 := ⟨by kernel_rfl, by kernel_rfl, by kernel_rfl, by kernel_rfl, by kernel_rfl⟩
def TTO_91 : TI := ⟨2, true, [Value.slice none 0 0, Value.int IntKind.i64 0], [(0, 1, false), (1, 1, false)], none, 32, 6, none, false⟩
theorem TTO_91_ok : TypOk Tryz.prog 91 TTO_91 := ⟨by kernel_rfl, by kernel_rfl, by kernel_rfl, by kernel_rfl, by kernel_rfl⟩
def TTO_75 : TI := ⟨2, true, [Value.slice none 0 0, Value.int IntKind.i64 0], [(0, 1, false), (1, 1, false)], none, 32, 6, none, false⟩
theorem TTO_75_ok : TypOk Tryz.prog 75 TTO_75 := ⟨by kernel_rfl, by kernel_rfl, by kernel_rfl, by kernel_rfl, by kernel_rfl⟩
def TTO_27 : TI := ⟨4, true, [Value.slice none 0 0, Value.int IntKind.i64 0, Value.int IntKind.i64 0, Value.slice none 0 0], [(0, 1, false), (1, 2, true), (3, 1, false)], none, 64, 6, none, false⟩
theorem TTO_27_ok : TypOk Tryz.prog 27 TTO_27 := ⟨by kernel_rfl, by kernel_rfl, by kernel_rfl, by kernel_rfl, by kernel_rfl⟩
def TTO_36 : TI := ⟨4, true, [Value.slice none 0 0, Value.int IntKind.i64 0, Value.int IntKind.i64 0, Value.slice none 0 0], [(0, 1, false), (1, 2, true), (3, 1, false)], none, 64, 6, none, false⟩
theorem TTO_36_ok : TypOk Tryz.prog 36 TTO_36 := ⟨by kernel_rfl, by kernel_rfl, by kernel_rfl, by kernel_rfl, by kernel_rfl⟩
def TTO_22 : TI := ⟨1, false, [Value.slice none 0 0], [], some 91, 24, 5, none, false⟩
theorem TTO_22_ok : TypOk Tryz.prog 22 TTO_22 := ⟨by kernel_rfl, by kernel_rfl, by kernel_rfl, by kernel_rfl, by kernel_rfl⟩
def TTO_32 : TI := ⟨1, false, [Value.slice none 0 0], [], some 75, 24, 5, none, false⟩
theorem TTO_32_ok : TypOk Tryz.prog 32 TTO_32 := ⟨by kernel_rfl, by kernel_rfl, by kernel_rfl, by kernel_rfl, by kernel_rfl⟩
def TTO_25 : TI := ⟨1, false, [Value.slice none 0 0], [], some 27, 24, 5, none, false⟩
theorem TTO_25_ok : TypOk Tryz.prog 25 TTO_25 := ⟨by kernel_rfl, by kernel_rfl, by kernel_rfl, by kernel_rfl, by kernel_rfl⟩
def TTO_34 : TI := ⟨1, false, [Value.slice none 0 0], [], some 36, 24, 5, none, false⟩
theorem TTO_34_ok : TypOk Tryz.prog 34 TTO_34 := ⟨by kernel_rfl, by kernel_rfl, by kernel_rfl, by kernel_rfl, by kernel_rfl⟩
def TTO_24 : TI := ⟨2, true, [Value.int IntKind.i64 0, Value.int IntKind.i64 0], [(0, 1, false), (1, 1, false)], none, 16, 6, none, true⟩
theorem TTO_24_ok : TypOk Tryz.prog 24 TTO_24 := ⟨by kernel_rfl, by kernel_rfl, by kernel_rfl, by kernel_rfl, by kernel_rfl⟩
def TTO_33 : TI := ⟨2, true, [Value.int IntKind.i64 0, Value.int IntKind.i64 0], [(0, 1, false), (1, 1, false)], none, 16, 6, none, true⟩
theorem TTO_33_ok : TypOk Tryz.prog 33 TTO_33 := ⟨by kernel_rfl, by kernel_rfl, by kernel_rfl, by kernel_rfl, by kernel_rfl⟩
def TTO : List (Nat × TI) := [(3, TTO_3), (91, TTO_91), (75, TTO_75), (27, TTO_27), (36, TTO_36), (22, TTO_22), (32, TTO_32), (25, TTO_25), (34, TTO_34), (24, TTO_24), (33, TTO_33)]
theorem TTO_ok : TabOk Tryz.prog TTO := ((((((((((((TabOk.nil _).cons TTO_33_ok).cons TTO_24_ok).cons TTO_34_ok).cons TTO_25_ok).cons TTO_32_ok).cons TTO_22_ok).cons TTO_36_ok).cons TTO_27_ok).cons TTO_75_ok).cons TTO_91_ok).cons TTO_3_ok)
theorem eTys_tlen (l : List Ty) (j : Nat) (h : j ≤ l.length) : (eTys (l.take j)).length = j := by rw [eTys_len, List.length_take]; omega
theorem eTms_tlen (l : List Tm) (j : Nat) (h : j ≤ l.length) : (eTms (l.take j)).length = j := by rw [eTms_len, List.length_take]; omega
theorem to4D_d : ∀ t : Ty, t.size ≤ 900000 → PureC Tryz.prog 47 [.ag (eTy t)] (.ag (eTy t)) := by
 intro t
 induction t using Ty.ind with
 | h ar base ih =>
  intro hz
  rw [Ty.size_eq] at hz
  have hal := Ty.le_sizes ar
  rw [eTy_eq]
  dsimp only [Ty.args, Ty.base]
  refine calldw 0 27 [ResultVar.cell 2 75] TTO_ok Tryz.func47 rfl Tryz.ntmps47 rfl fun cx hnt hn0 => ?_
  ·skip
   refine dw_seq ?_; refine dwk [] TTO_ok hnt fun K hK => ?_; refine hK _ _ ?_; clear hK K; refine dw_seq ?_; refine dwk [] TTO_ok hnt fun K hK => ?_; refine hK _ _ ?_; clear hK K
   refine DW.vs (VS.row (k := 5) (off := 0) 75 2 rfl) ?_
   refine dw_seq ?_; refine dw_seq ?_; refine dwk [] TTO_ok hnt fun K hK => ?_; refine hK _ _ ?_; clear hK K; refine dw_block ?_
   refine dw_loop (ι := { j : Nat // j ≤ ar.length }) (fun j => [(.t 1, .p 0 0), (.t 2, .p 1 0), (.t 3, .p 5 0), (.t 4, .v (.int .i64 ↑j.1)), (.c 0 0, .sl 2 (eTys ar) none), (.c 0 1, .v (.int .i64 base)), (.c 1 0, .v (.slice none 0 0)), (.c 1 1, .v (.int .i64 0)), (.c 5 0, .sl 2 (eTys (ar.take j.1)) (some 7)), (.c 5 1, .v (.int .i64 base)), (.r 7, .rw 75 2 j.1)]) 8 (fun j => ar.length - j.1) (⟨0, Nat.zero_le _⟩) ((VS.toK (by omega) (by repeat first | exact trivial | refine And.intro (And.intro (by first | rfl | simp [D.ok, D.oks, D.okss, D.okm, upto, keyOk, argsT]) (by first | exact Or.inl rfl | exact Or.inr ⟨_, rfl, (by repeat first | exact VLe.refl _ | exact VLe.nil _ | exact VLe.untag _ _ _ | refine VLe.ag ?_ | refine VLe.tu ?_ | refine VLeL.cons ?_ ?_ | exact VLeL.nil), trivial⟩ | simp [get, Key.eq, argsT])) ?_))) fun j => ?_
   obtain ⟨j, hj⟩ := j
   dsimp only
   by_cases hlt : j < ar.length
   ·have hmem := List.getElem_mem hlt
    have hsz := Ty.size_mem hmem
    have hc := ih _ hmem (by omega)
    rw [eTy_eq] at hc
    have hl1 := eTys_tlen ar j hj
    have hl2 := eTys_tlen ar (j + 1) hlt
    refine dw_seq ?_; refine dw_seq ?_; refine dwk [(11, .v (.int .i64 (↑ar.length))), (12, .v (.bool true))] TTO_ok hnt fun K hK => ?_; refine And.intro (dintE (by rw [eTys_len])) ?_; refine And.intro auT ?_; refine hK _ _ ?_; clear hK K; refine dw_cond (t := true) rfl ?_; rw [if_pos rfl]; refine dw_skip ?_; refine dw_seq ?_; refine dw_block ?_; refine dwkD [(20, .q [.sl 2 (eTys ar[j].args) none, .v (.int .i64 ar[j].base)])] TTO_ok hnt fun K hK => ?_
    refine And.intro (elo (eTys_len ar)) ?_; refine And.intro (elv (eTys_getD ar j) (eTy_eq _)) ?_; refine dcl (hc) ?_; refine And.intro (⟨by omega, by rw [hl1]; simp; omega⟩) ?_; refine hK _ _ (by kernel_rfl) ?_; clear hK K
    rw [eTys_snoc ar j hlt, hl2]
    refine dwk [(14, .v (.int .i64 (↑(j + 1))))] TTO_ok hnt fun K hK => ?_; refine And.intro auI ?_; refine hK _ _ ?_; clear hK K
    refine ⟨⟨j + 1, hlt⟩, by first | omega | (dsimp only; omega), VS.toA⟩
   ·rw [List.take_of_length_le (by omega)]
    refine dw_seq ?_; refine dw_seq ?_; refine dwk [(11, .v (.int .i64 (↑ar.length))), (12, .v (.bool false))] TTO_ok hnt fun K hK => ?_; refine And.intro (dintE (by rw [eTys_len])) ?_; refine And.intro auF ?_; refine hK _ _ ?_; clear hK K; refine dw_cond (t := false) rfl ?_; rw [if_neg (by simp)]; refine dw_exit ?_; refine dw_seq ?_; refine dwk [] TTO_ok hnt fun K hK => ?_; refine hK _ _ ?_; clear hK K
    refine dw_ret ?_
    exact reta rfl
theorem of4D_d : ∀ t : Ty, t.size ≤ 900000 → PureC Tryz.prog 95 [.ag (eTy t)] (.ag (eTy t)) := by
 intro t
 induction t using Ty.ind with
 | h ar base ih =>
  intro hz
  rw [Ty.size_eq] at hz
  have hal := Ty.le_sizes ar
  rw [eTy_eq]
  dsimp only [Ty.args, Ty.base]
  refine calldw 0 27 [ResultVar.cell 2 91] TTO_ok Tryz.func95 rfl Tryz.ntmps95 rfl fun cx hnt hn0 => ?_
  ·skip
   refine dw_seq ?_; refine dwk [] TTO_ok hnt fun K hK => ?_; refine hK _ _ ?_; clear hK K; refine dw_seq ?_; refine dwk [] TTO_ok hnt fun K hK => ?_; refine hK _ _ ?_; clear hK K
   refine DW.vs (VS.row (k := 5) (off := 0) 91 2 rfl) ?_
   refine dw_seq ?_; refine dw_seq ?_; refine dwk [] TTO_ok hnt fun K hK => ?_; refine hK _ _ ?_; clear hK K; refine dw_block ?_
   refine dw_loop (ι := { j : Nat // j ≤ ar.length }) (fun j => [(.t 1, .p 0 0), (.t 2, .p 1 0), (.t 3, .p 5 0), (.t 4, .v (.int .i64 ↑j.1)), (.c 0 0, .sl 2 (eTys ar) none), (.c 0 1, .v (.int .i64 base)), (.c 1 0, .v (.slice none 0 0)), (.c 1 1, .v (.int .i64 0)), (.c 5 0, .sl 2 (eTys (ar.take j.1)) (some 7)), (.c 5 1, .v (.int .i64 base)), (.r 7, .rw 91 2 j.1)]) 8 (fun j => ar.length - j.1) (⟨0, Nat.zero_le _⟩) ((VS.toK (by omega) (by repeat first | exact trivial | refine And.intro (And.intro (by first | rfl | simp [D.ok, D.oks, D.okss, D.okm, upto, keyOk, argsT]) (by first | exact Or.inl rfl | exact Or.inr ⟨_, rfl, (by repeat first | exact VLe.refl _ | exact VLe.nil _ | exact VLe.untag _ _ _ | refine VLe.ag ?_ | refine VLe.tu ?_ | refine VLeL.cons ?_ ?_ | exact VLeL.nil), trivial⟩ | simp [get, Key.eq, argsT])) ?_))) fun j => ?_
   obtain ⟨j, hj⟩ := j
   dsimp only
   by_cases hlt : j < ar.length
   ·have hmem := List.getElem_mem hlt
    have hsz := Ty.size_mem hmem
    have hc := ih _ hmem (by omega)
    rw [eTy_eq] at hc
    have hl1 := eTys_tlen ar j hj
    have hl2 := eTys_tlen ar (j + 1) hlt
    refine dw_seq ?_; refine dw_seq ?_; refine dwk [(11, .v (.int .i64 (↑ar.length))), (12, .v (.bool true))] TTO_ok hnt fun K hK => ?_; refine And.intro (dintE (by rw [eTys_len])) ?_; refine And.intro auT ?_; refine hK _ _ ?_; clear hK K; refine dw_cond (t := true) rfl ?_; rw [if_pos rfl]; refine dw_skip ?_; refine dw_seq ?_; refine dw_block ?_; refine dwkD [(20, .q [.sl 2 (eTys ar[j].args) none, .v (.int .i64 ar[j].base)])] TTO_ok hnt fun K hK => ?_
    refine And.intro (elo (eTys_len ar)) ?_; refine And.intro (elv (eTys_getD ar j) (eTy_eq _)) ?_; refine dcl (hc) ?_; refine And.intro (⟨by omega, by rw [hl1]; simp; omega⟩) ?_; refine hK _ _ (by kernel_rfl) ?_; clear hK K
    rw [eTys_snoc ar j hlt, hl2]
    refine dwk [(14, .v (.int .i64 (↑(j + 1))))] TTO_ok hnt fun K hK => ?_; refine And.intro auI ?_; refine hK _ _ ?_; clear hK K
    refine ⟨⟨j + 1, hlt⟩, by first | omega | (dsimp only; omega), VS.toA⟩
   ·rw [List.take_of_length_le (by omega)]
    refine dw_seq ?_; refine dw_seq ?_; refine dwk [(11, .v (.int .i64 (↑ar.length))), (12, .v (.bool false))] TTO_ok hnt fun K hK => ?_; refine And.intro (dintE (by rw [eTys_len])) ?_; refine And.intro auF ?_; refine hK _ _ ?_; clear hK K; refine dw_cond (t := false) rfl ?_; rw [if_neg (by simp)]; refine dw_exit ?_; refine dw_seq ?_; refine dwk [] TTO_ok hnt fun K hK => ?_; refine hK _ _ ?_; clear hK K
    refine dw_ret ?_
    exact reta rfl
theorem toTys_d (l : List Ty) (hz : Ty.sizes l ≤ 900000) : PureC Tryz.prog 12 [.sl 2 (eTys l) none] (.sl 2 (eTys l) none) := by
 have hal := Ty.le_sizes l
 refine calldw 0 20 [ResultVar.tmp 2] TTO_ok Tryz.func12 rfl Tryz.ntmps12 rfl fun cx hnt hn0 => ?_
 ·skip
  refine dw_seq ?_; refine dwk [] TTO_ok hnt fun K hK => ?_; refine hK _ _ ?_; clear hK K
  refine dw_cut (τ := [(.t 0, .sl 2 (eTys l) none), (.t 3, .v (.slice none 0 0))]) (N1 := 0) ?_ ?_
  ·skip
   refine dwk [] TTO_ok hnt fun K hK => ?_; refine hK _ _ ?_; clear hK K
   exact cut_ok (VS.toK (by omega) (by repeat first | exact trivial | refine And.intro (And.intro (by first | rfl | simp [D.ok, D.oks, D.okss, D.okm, upto, keyOk, argsT]) (by first | exact Or.inl rfl | exact Or.inr ⟨_, rfl, (by repeat first | exact VLe.refl _ | exact VLe.nil _ | exact VLe.untag _ _ _ | refine VLe.ag ?_ | refine VLe.tu ?_ | refine VLeL.cons ?_ ?_ | exact VLeL.nil), trivial⟩ | simp [get, Key.eq, argsT])) ?_))
  ·refine DW.vs (VS.rowT (x := 3) (by rw [hnt]; decide) 75 2 rfl) ?_
   refine dw_seq ?_; refine dw_seq ?_; refine dwk [] TTO_ok hnt fun K hK => ?_; refine hK _ _ ?_; clear hK K; refine dw_block ?_
   refine dw_loop (ι := { j : Nat // j ≤ l.length }) (fun j => [(.t 0, .sl 2 (eTys l) none), (.t 3, .sl 2 (eTys (l.take j.1)) (some 0)), (.t 4, .v (.int .i64 ↑j.1)), (.r 0, .rw 75 2 j.1)]) 1 (fun j => l.length - j.1) (⟨0, Nat.zero_le _⟩) ((VS.toK (by omega) (by repeat first | exact trivial | refine And.intro (And.intro (by first | rfl | simp [D.ok, D.oks, D.okss, D.okm, upto, keyOk, argsT]) (by first | exact Or.inl rfl | exact Or.inr ⟨_, rfl, (by repeat first | exact VLe.refl _ | exact VLe.nil _ | exact VLe.untag _ _ _ | refine VLe.ag ?_ | refine VLe.tu ?_ | refine VLeL.cons ?_ ?_ | exact VLeL.nil), trivial⟩ | simp [get, Key.eq, argsT])) ?_))) fun j => ?_
   obtain ⟨j, hj⟩ := j
   dsimp only
   by_cases hlt : j < l.length
   ·have hsz := Ty.size_mem (List.getElem_mem hlt)
    have hc := to4D_d l[j] (by omega)
    rw [eTy_eq] at hc
    have hl1 := eTys_tlen l j hj
    have hl2 := eTys_tlen l (j + 1) hlt
    refine dw_seq ?_; refine dw_seq ?_; refine dwk [(7, .v (.int .i64 (↑l.length))), (8, .v (.bool true))] TTO_ok hnt fun K hK => ?_; refine And.intro (dintE (by rw [eTys_len])) ?_; refine And.intro auT ?_; refine hK _ _ ?_; clear hK K; refine dw_cond (t := true) rfl ?_; rw [if_pos rfl]; refine dw_skip ?_; refine dw_seq ?_; refine dw_block ?_; refine dwk [(14, .q [.sl 2 (eTys l[j].args) none, .v (.int .i64 l[j].base)])] TTO_ok hnt fun K hK => ?_
    refine And.intro (elo (eTys_len l)) ?_; refine And.intro (elv (eTys_getD l j) (eTy_eq _)) ?_; refine dcl (hc) ?_; refine And.intro (⟨by omega, by rw [hl1]; simp; omega⟩) ?_; refine hK _ _ ?_; clear hK K
    rw [eTys_snoc l j hlt, hl2]
    refine dwk [(10, .v (.int .i64 (↑(j + 1))))] TTO_ok hnt fun K hK => ?_; refine And.intro auI ?_; refine hK _ _ ?_; clear hK K
    refine ⟨⟨j + 1, hlt⟩, by first | omega | (dsimp only; omega), VS.toA⟩
   ·rw [List.take_of_length_le (by omega)]
    refine dw_seq ?_; refine dw_seq ?_; refine dwk [(7, .v (.int .i64 (↑l.length))), (8, .v (.bool false))] TTO_ok hnt fun K hK => ?_; refine And.intro (dintE (by rw [eTys_len])) ?_; refine And.intro auF ?_; refine hK _ _ ?_; clear hK K; refine dw_cond (t := false) rfl ?_; rw [if_neg (by simp)]; refine dw_exit ?_; refine dw_seq ?_; refine dwk [] TTO_ok hnt fun K hK => ?_; refine hK _ _ ?_; clear hK K; refine dw_ret ?_
    exact reta rfl
theorem ofTys_d (l : List Ty) (hz : Ty.sizes l ≤ 900000) : PureC Tryz.prog 50 [.sl 2 (eTys l) none] (.sl 2 (eTys l) none) := by
 have hal := Ty.le_sizes l
 refine calldw 0 20 [ResultVar.tmp 2] TTO_ok Tryz.func50 rfl Tryz.ntmps50 rfl fun cx hnt hn0 => ?_
 ·skip
  refine dw_seq ?_; refine dwk [] TTO_ok hnt fun K hK => ?_; refine hK _ _ ?_; clear hK K
  refine dw_cut (τ := [(.t 0, .sl 2 (eTys l) none), (.t 3, .v (.slice none 0 0))]) (N1 := 0) ?_ ?_
  ·skip
   refine dwk [] TTO_ok hnt fun K hK => ?_; refine hK _ _ ?_; clear hK K
   exact cut_ok (VS.toK (by omega) (by repeat first | exact trivial | refine And.intro (And.intro (by first | rfl | simp [D.ok, D.oks, D.okss, D.okm, upto, keyOk, argsT]) (by first | exact Or.inl rfl | exact Or.inr ⟨_, rfl, (by repeat first | exact VLe.refl _ | exact VLe.nil _ | exact VLe.untag _ _ _ | refine VLe.ag ?_ | refine VLe.tu ?_ | refine VLeL.cons ?_ ?_ | exact VLeL.nil), trivial⟩ | simp [get, Key.eq, argsT])) ?_))
  ·refine DW.vs (VS.rowT (x := 3) (by rw [hnt]; decide) 91 2 rfl) ?_
   refine dw_seq ?_; refine dw_seq ?_; refine dwk [] TTO_ok hnt fun K hK => ?_; refine hK _ _ ?_; clear hK K; refine dw_block ?_
   refine dw_loop (ι := { j : Nat // j ≤ l.length }) (fun j => [(.t 0, .sl 2 (eTys l) none), (.t 3, .sl 2 (eTys (l.take j.1)) (some 0)), (.t 4, .v (.int .i64 ↑j.1)), (.r 0, .rw 91 2 j.1)]) 1 (fun j => l.length - j.1) (⟨0, Nat.zero_le _⟩) ((VS.toK (by omega) (by repeat first | exact trivial | refine And.intro (And.intro (by first | rfl | simp [D.ok, D.oks, D.okss, D.okm, upto, keyOk, argsT]) (by first | exact Or.inl rfl | exact Or.inr ⟨_, rfl, (by repeat first | exact VLe.refl _ | exact VLe.nil _ | exact VLe.untag _ _ _ | refine VLe.ag ?_ | refine VLe.tu ?_ | refine VLeL.cons ?_ ?_ | exact VLeL.nil), trivial⟩ | simp [get, Key.eq, argsT])) ?_))) fun j => ?_
   obtain ⟨j, hj⟩ := j
   dsimp only
   by_cases hlt : j < l.length
   ·have hsz := Ty.size_mem (List.getElem_mem hlt)
    have hc := of4D_d l[j] (by omega)
    rw [eTy_eq] at hc
    have hl1 := eTys_tlen l j hj
    have hl2 := eTys_tlen l (j + 1) hlt
    refine dw_seq ?_; refine dw_seq ?_; refine dwk [(7, .v (.int .i64 (↑l.length))), (8, .v (.bool true))] TTO_ok hnt fun K hK => ?_; refine And.intro (dintE (by rw [eTys_len])) ?_; refine And.intro auT ?_; refine hK _ _ ?_; clear hK K; refine dw_cond (t := true) rfl ?_; rw [if_pos rfl]; refine dw_skip ?_; refine dw_seq ?_; refine dw_block ?_; refine dwk [(14, .q [.sl 2 (eTys l[j].args) none, .v (.int .i64 l[j].base)])] TTO_ok hnt fun K hK => ?_
    refine And.intro (elo (eTys_len l)) ?_; refine And.intro (elv (eTys_getD l j) (eTy_eq _)) ?_; refine dcl (hc) ?_; refine And.intro (⟨by omega, by rw [hl1]; simp; omega⟩) ?_; refine hK _ _ ?_; clear hK K
    rw [eTys_snoc l j hlt, hl2]
    refine dwk [(10, .v (.int .i64 (↑(j + 1))))] TTO_ok hnt fun K hK => ?_; refine And.intro auI ?_; refine hK _ _ ?_; clear hK K
    refine ⟨⟨j + 1, hlt⟩, by first | omega | (dsimp only; omega), VS.toA⟩
   ·rw [List.take_of_length_le (by omega)]
    refine dw_seq ?_; refine dw_seq ?_; refine dwk [(7, .v (.int .i64 (↑l.length))), (8, .v (.bool false))] TTO_ok hnt fun K hK => ?_; refine And.intro (dintE (by rw [eTys_len])) ?_; refine And.intro auF ?_; refine hK _ _ ?_; clear hK K; refine dw_cond (t := false) rfl ?_; rw [if_neg (by simp)]; refine dw_exit ?_; refine dw_seq ?_; refine dwk [] TTO_ok hnt fun K hK => ?_; refine hK _ _ ?_; clear hK K; refine dw_ret ?_
    exact reta rfl
theorem to6D_d : ∀ t : Tm, t.full ≤ 900000 → PureC Tryz.prog 13 [.ag (eTm t)] (.ag (eTm t)) := by
  intro t
  induction t using Tm.ind with
  | h bs k i ar ih =>
    intro hz
    rw [Tm.full_eq] at hz
    have hbs := toTys_d bs (by omega)
    have hal : ar.length ≤ Tm.fulls ar := by
      clear ih hz
      induction ar with
      | nil => simp
      | cons u l ih => have : 1 ≤ u.full := by obtain ⟨b, k, i, a⟩ := u; rw [Tm.full_eq]; omega
                       simp only [List.length_cons, Tm.fulls]; omega
    rw [eTm_eq]
    dsimp only [Tm.binds, Tm.kind, Tm.index, Tm.args]
    refine calldw 0 35 [ResultVar.cell 2 36] TTO_ok Tryz.func13 rfl Tryz.ntmps13 rfl fun cx hnt hn0 => ?_
    · skip
      refine dw_seq ?_
      refine dwk [] TTO_ok hnt fun K hK => ?_
      refine hK _ _ ?_; clear hK K
      refine dw_seq ?_
      refine dwkD [] TTO_ok hnt fun K hK => ?_
      refine dcl (hbs) ?_
      refine hK _ _ (by kernel_rfl) ?_; clear hK K
      refine DW.vs (VS.row (k := 13) (off := 3) 36 4 rfl) ?_
      refine dw_seq ?_
      refine dw_seq ?_
      refine dwk [] TTO_ok hnt fun K hK => ?_
      refine hK _ _ ?_; clear hK K
      refine dw_block ?_
      refine dw_loop (ι := { j : Nat // j ≤ ar.length }) (fun j => [(.t 1, .p 0 0), (.t 2, .p 1 0), (.t 3, .p 13 0), (.t 4, .v (.int .i64 ↑j.1)), (.c 0 0, .sl 2 (eTys bs) none), (.c 0 1, .v (.int .i64 k)), (.c 0 2, .v (.int .i64 i)), (.c 0 3, .sl 4 (eTms ar) none), (.c 1 0, .v (.slice none 0 0)), (.c 1 1, .v (.int .i64 0)), (.c 1 2, .v (.int .i64 0)), (.c 1 3, .v (.slice none 0 0)), (.c 13 0, .sl 2 (eTys bs) none), (.c 13 1, .v (.int .i64 k)), (.c 13 2, .v (.int .i64 i)), (.c 13 3, .sl 4 (eTms (ar.take j.1)) (some 15)), (.r 15, .rw 36 4 j.1)]) 16 (fun j => ar.length - j.1) (⟨0, Nat.zero_le _⟩) ((VS.toK (by omega) (by repeat first | exact trivial | refine And.intro (And.intro (by first | rfl | simp [D.ok, D.oks, D.okss, D.okm, upto, keyOk, argsT]) (by first | exact Or.inl rfl | exact Or.inr ⟨_, rfl, (by repeat first | exact VLe.refl _ | exact VLe.nil _ | exact VLe.untag _ _ _ | refine VLe.ag ?_ | refine VLe.tu ?_ | refine VLeL.cons ?_ ?_ | exact VLeL.nil), trivial⟩ | simp [get, Key.eq, argsT])) ?_))) fun j => ?_
      obtain ⟨j, hj⟩ := j
      dsimp only
      by_cases hlt : j < ar.length
      · have hmem := List.getElem_mem hlt
        have hsz := Tm.full_mem hmem
        have hc := ih _ hmem (by omega)
        rw [eTm_eq] at hc
        have hl1 := eTms_tlen ar j hj
        have hl2 := eTms_tlen ar (j + 1) hlt
        refine dw_seq ?_
        refine dw_seq ?_
        refine dwk [(19, .v (.int .i64 (↑ar.length))), (20, .v (.bool true))] TTO_ok hnt fun K hK => ?_
        refine And.intro (dintE (by rw [eTms_len])) ?_
        refine And.intro auT ?_
        refine hK _ _ ?_; clear hK K
        refine dw_cond (t := true) rfl ?_
        rw [if_pos rfl]
        refine dw_skip ?_
        refine dw_seq ?_
        refine dw_block ?_
        refine dwkD [(28, .q [.sl 2 (eTys ar[j].binds) none, .v (.int .i64 ar[j].kind), .v (.int .i64 ar[j].index), .sl 4 (eTms ar[j].args) none])] TTO_ok hnt fun K hK => ?_
        refine And.intro (elo (eTms_len ar)) ?_
        refine And.intro (elv (eTms_getD ar j) (eTm_eq _)) ?_
        refine dcl (hc) ?_
        refine And.intro (⟨by omega, by rw [hl1]; simp; omega⟩) ?_
        refine hK _ _ (by kernel_rfl) ?_; clear hK K
        rw [eTms_snoc ar j hlt, hl2]
        refine dwk [(22, .v (.int .i64 (↑(j + 1))))] TTO_ok hnt fun K hK => ?_
        refine And.intro auI ?_
        refine hK _ _ ?_; clear hK K
        refine ⟨⟨j + 1, hlt⟩, by first | omega | (dsimp only; omega), VS.toA⟩
      · rw [List.take_of_length_le (by omega)]
        refine dw_seq ?_
        refine dw_seq ?_
        refine dwk [(19, .v (.int .i64 (↑ar.length))), (20, .v (.bool false))] TTO_ok hnt fun K hK => ?_
        refine And.intro (dintE (by rw [eTms_len])) ?_
        refine And.intro auF ?_
        refine hK _ _ ?_; clear hK K
        refine dw_cond (t := false) rfl ?_
        rw [if_neg (by simp)]
        refine dw_exit ?_
        refine dw_seq ?_
        refine dwk [] TTO_ok hnt fun K hK => ?_
        refine hK _ _ ?_; clear hK K
        refine dw_ret ?_
        exact reta rfl
theorem of6D_d : ∀ t : Tm, t.full ≤ 900000 → PureC Tryz.prog 49 [.ag (eTm t)] (.ag (eTm t)) := by
  intro t
  induction t using Tm.ind with
  | h bs k i ar ih =>
    intro hz
    rw [Tm.full_eq] at hz
    have hbs := ofTys_d bs (by omega)
    have hal : ar.length ≤ Tm.fulls ar := by
      clear ih hz
      induction ar with
      | nil => simp
      | cons u l ih => have : 1 ≤ u.full := by obtain ⟨b, k, i, a⟩ := u; rw [Tm.full_eq]; omega
                       simp only [List.length_cons, Tm.fulls]; omega
    rw [eTm_eq]
    dsimp only [Tm.binds, Tm.kind, Tm.index, Tm.args]
    refine calldw 0 35 [ResultVar.cell 2 27] TTO_ok Tryz.func49 rfl Tryz.ntmps49 rfl fun cx hnt hn0 => ?_
    · skip
      refine dw_seq ?_
      refine dwk [] TTO_ok hnt fun K hK => ?_
      refine hK _ _ ?_; clear hK K
      refine dw_seq ?_
      refine dwkD [] TTO_ok hnt fun K hK => ?_
      refine dcl (hbs) ?_
      refine hK _ _ (by kernel_rfl) ?_; clear hK K
      refine DW.vs (VS.row (k := 13) (off := 3) 27 4 rfl) ?_
      refine dw_seq ?_
      refine dw_seq ?_
      refine dwk [] TTO_ok hnt fun K hK => ?_
      refine hK _ _ ?_; clear hK K
      refine dw_block ?_
      refine dw_loop (ι := { j : Nat // j ≤ ar.length }) (fun j => [(.t 1, .p 0 0), (.t 2, .p 1 0), (.t 3, .p 13 0), (.t 4, .v (.int .i64 ↑j.1)), (.c 0 0, .sl 2 (eTys bs) none), (.c 0 1, .v (.int .i64 k)), (.c 0 2, .v (.int .i64 i)), (.c 0 3, .sl 4 (eTms ar) none), (.c 1 0, .v (.slice none 0 0)), (.c 1 1, .v (.int .i64 0)), (.c 1 2, .v (.int .i64 0)), (.c 1 3, .v (.slice none 0 0)), (.c 13 0, .sl 2 (eTys bs) none), (.c 13 1, .v (.int .i64 k)), (.c 13 2, .v (.int .i64 i)), (.c 13 3, .sl 4 (eTms (ar.take j.1)) (some 15)), (.r 15, .rw 27 4 j.1)]) 16 (fun j => ar.length - j.1) (⟨0, Nat.zero_le _⟩) ((VS.toK (by omega) (by repeat first | exact trivial | refine And.intro (And.intro (by first | rfl | simp [D.ok, D.oks, D.okss, D.okm, upto, keyOk, argsT]) (by first | exact Or.inl rfl | exact Or.inr ⟨_, rfl, (by repeat first | exact VLe.refl _ | exact VLe.nil _ | exact VLe.untag _ _ _ | refine VLe.ag ?_ | refine VLe.tu ?_ | refine VLeL.cons ?_ ?_ | exact VLeL.nil), trivial⟩ | simp [get, Key.eq, argsT])) ?_))) fun j => ?_
      obtain ⟨j, hj⟩ := j
      dsimp only
      by_cases hlt : j < ar.length
      · have hmem := List.getElem_mem hlt
        have hsz := Tm.full_mem hmem
        have hc := ih _ hmem (by omega)
        rw [eTm_eq] at hc
        have hl1 := eTms_tlen ar j hj
        have hl2 := eTms_tlen ar (j + 1) hlt
        refine dw_seq ?_
        refine dw_seq ?_
        refine dwk [(19, .v (.int .i64 (↑ar.length))), (20, .v (.bool true))] TTO_ok hnt fun K hK => ?_
        refine And.intro (dintE (by rw [eTms_len])) ?_
        refine And.intro auT ?_
        refine hK _ _ ?_; clear hK K
        refine dw_cond (t := true) rfl ?_
        rw [if_pos rfl]
        refine dw_skip ?_
        refine dw_seq ?_
        refine dw_block ?_
        refine dwkD [(28, .q [.sl 2 (eTys ar[j].binds) none, .v (.int .i64 ar[j].kind), .v (.int .i64 ar[j].index), .sl 4 (eTms ar[j].args) none])] TTO_ok hnt fun K hK => ?_
        refine And.intro (elo (eTms_len ar)) ?_
        refine And.intro (elv (eTms_getD ar j) (eTm_eq _)) ?_
        refine dcl (hc) ?_
        refine And.intro (⟨by omega, by rw [hl1]; simp; omega⟩) ?_
        refine hK _ _ (by kernel_rfl) ?_; clear hK K
        rw [eTms_snoc ar j hlt, hl2]
        refine dwk [(22, .v (.int .i64 (↑(j + 1))))] TTO_ok hnt fun K hK => ?_
        refine And.intro auI ?_
        refine hK _ _ ?_; clear hK K
        refine ⟨⟨j + 1, hlt⟩, by first | omega | (dsimp only; omega), VS.toA⟩
      · rw [List.take_of_length_le (by omega)]
        refine dw_seq ?_
        refine dw_seq ?_
        refine dwk [(19, .v (.int .i64 (↑ar.length))), (20, .v (.bool false))] TTO_ok hnt fun K hK => ?_
        refine And.intro (dintE (by rw [eTms_len])) ?_
        refine And.intro auF ?_
        refine hK _ _ ?_; clear hK K
        refine dw_cond (t := false) rfl ?_
        rw [if_neg (by simp)]
        refine dw_exit ?_
        refine dw_seq ?_
        refine dwk [] TTO_ok hnt fun K hK => ?_
        refine hK _ _ ?_; clear hK K
        refine dw_ret ?_
        exact reta rfl

end Go.Proofs.YtdmiekaeodcehaaGreat

namespace Go.Proofs.YtdmiekaeodcehaaGreat
open Go.RowKit
def TPR_29 : TI := ⟨9, true, [Value.slice none 0 0, Value.int IntKind.i64 0, Value.int IntKind.i64 0, Value.slice none 0 0, Value.slice none 0 0, Value.int IntKind.i64 0, Value.int IntKind.i64 0, Value.slice none 0 0, Value.slice none 0 0], [(0, 4, true), (4, 4, true), (8, 1, false)], none, 152, 6, none, false⟩
theorem TPR_29_ok : TypOk Tryz.prog 29 TPR_29 := ⟨by kernel_rfl, by kernel_rfl, by kernel_rfl, by kernel_rfl, by kernel_rfl⟩
def TPR_27 : TI := ⟨4, true, [Value.slice none 0 0, Value.int IntKind.i64 0, Value.int IntKind.i64 0, Value.slice none 0 0], [(0, 1, false), (1, 2, true), (3, 1, false)], none, 64, 6, none, false⟩
theorem TPR_27_ok : TypOk Tryz.prog 27 TPR_27 := ⟨by kernel_rfl, by kernel_rfl, by kernel_rfl, by kernel_rfl, by kernel_rfl⟩
def TPR_22 : TI := ⟨1, false, [Value.slice none 0 0], [], some 91, 24, 5, none, false⟩
theorem TPR_22_ok : TypOk Tryz.prog 22 TPR_22 := ⟨by kernel_rfl, by kernel_rfl, by kernel_rfl, by kernel_rfl, by kernel_rfl⟩
def TPR_38 : TI := ⟨9, true, [Value.slice none 0 0, Value.int IntKind.i64 0, Value.int IntKind.i64 0, Value.slice none 0 0, Value.slice none 0 0, Value.int IntKind.i64 0, Value.int IntKind.i64 0, Value.slice none 0 0, Value.slice none 0 0], [(0, 4, true), (4, 4, true), (8, 1, false)], none, 152, 6, none, false⟩
theorem TPR_38_ok : TypOk Tryz.prog 38 TPR_38 := ⟨by kernel_rfl, by kernel_rfl, by kernel_rfl, by kernel_rfl, by kernel_rfl⟩
def TPR_59 : TI := ⟨1, false, [Value.slice none 0 0], [], some 29, 24, 5, none, false⟩
theorem TPR_59_ok : TypOk Tryz.prog 59 TPR_59 := ⟨by kernel_rfl, by kernel_rfl, by kernel_rfl, by kernel_rfl, by kernel_rfl⟩
def TPR_3 : TI := ⟨1, false, [Value.int IntKind.i64 0], [], none, 8, 2, none, false⟩
theorem TPR_3_ok : TypOk Tryz.prog 3 TPR_3 := ⟨by kernel_rfl, by kernel_rfl, by kernel_rfl, by kernel_rfl, by kernel_rfl⟩
def TPR_36 : TI := ⟨4, true, [Value.slice none 0 0, Value.int IntKind.i64 0, Value.int IntKind.i64 0, Value.slice none 0 0], [(0, 1, false), (1, 2, true), (3, 1, false)], none, 64, 6, none, false⟩
theorem TPR_36_ok : TypOk Tryz.prog 36 TPR_36 := ⟨by kernel_rfl, by kernel_rfl, by kernel_rfl, by kernel_rfl, by kernel_rfl⟩
def TPR_25 : TI := ⟨1, false, [Value.slice none 0 0], [], some 27, 24, 5, none, false⟩
theorem TPR_25_ok : TypOk Tryz.prog 25 TPR_25 := ⟨by kernel_rfl, by kernel_rfl, by kernel_rfl, by kernel_rfl, by kernel_rfl⟩
def TPR_91 : TI := ⟨2, true, [Value.slice none 0 0, Value.int IntKind.i64 0], [(0, 1, false), (1, 1, false)], none, 32, 6, none, false⟩
theorem TPR_91_ok : TypOk Tryz.prog 91 TPR_91 := ⟨by kernel_rfl, by kernel_rfl, by kernel_rfl, by kernel_rfl, by kernel_rfl⟩
def TPR_32 : TI := ⟨1, false, [Value.slice none 0 0], [], some 75, 24, 5, none, false⟩
theorem TPR_32_ok : TypOk Tryz.prog 32 TPR_32 := ⟨by kernel_rfl, by kernel_rfl, by kernel_rfl, by kernel_rfl, by kernel_rfl⟩
def TPR_54 : TI := ⟨3, true, [Value.int IntKind.i64 0, Value.slice none 0 0, Value.slice none 0 0], [(0, 1, false), (1, 1, false), (2, 1, false)], none, 56, 6, none, false⟩
theorem TPR_54_ok : TypOk Tryz.prog 54 TPR_54 := ⟨by kernel_rfl, by kernel_rfl, by kernel_rfl, by kernel_rfl, by kernel_rfl⟩
def TPR_75 : TI := ⟨2, true, [Value.slice none 0 0, Value.int IntKind.i64 0], [(0, 1, false), (1, 1, false)], none, 32, 6, none, false⟩
theorem TPR_75_ok : TypOk Tryz.prog 75 TPR_75 := ⟨by kernel_rfl, by kernel_rfl, by kernel_rfl, by kernel_rfl, by kernel_rfl⟩
def TPR : List (Nat × TI) := [(29, TPR_29), (27, TPR_27), (22, TPR_22), (38, TPR_38), (59, TPR_59), (3, TPR_3), (36, TPR_36), (25, TPR_25), (91, TPR_91), (32, TPR_32), (54, TPR_54), (75, TPR_75)]
theorem TPR_ok : TabOk Tryz.prog TPR := (((((((((((((TabOk.nil _).cons TPR_75_ok).cons TPR_54_ok).cons TPR_32_ok).cons TPR_91_ok).cons TPR_25_ok).cons TPR_36_ok).cons TPR_3_ok).cons TPR_59_ok).cons TPR_38_ok).cons TPR_22_ok).cons TPR_27_ok).cons TPR_29_ok)
namespace Li
structure Pr where
  l : Tm
  r : Tm
  m : List Ty
instance : DecidableEq Pr := fun p q => decidable_of_iff (p.l = q.l ∧ p.r = q.r ∧ p.m = q.m) (by cases p; cases q; simp)
def Pr.z : Pr := ⟨Tm.zero, Tm.zero, []⟩
end Li
def ePr (p : Li.Pr) : List D := [.sl 2 (eTys p.l.binds) none, .v (.int .i64 p.l.kind), .v (.int .i64 p.l.index), .sl 4 (eTms p.l.args) none, .sl 2 (eTys p.r.binds) none, .v (.int .i64 p.r.kind), .v (.int .i64 p.r.index), .sl 4 (eTms p.r.args) none, .sl 2 (eTys p.m) none]
theorem ePr_eq (L R : Tm) (M : List Ty) : ePr ⟨L, R, M⟩ = [.sl 2 (eTys L.binds) none, .v (.int .i64 L.kind), .v (.int .i64 L.index), .sl 4 (eTms L.args) none, .sl 2 (eTys R.binds) none, .v (.int .i64 R.kind), .v (.int .i64 R.index), .sl 4 (eTms R.args) none, .sl 2 (eTys M) none] := rfl
theorem ePr_at (p : Li.Pr) : ePr p = [.sl 2 (eTys p.l.binds) none, .v (.int .i64 p.l.kind), .v (.int .i64 p.l.index), .sl 4 (eTms p.l.args) none, .sl 2 (eTys p.r.binds) none, .v (.int .i64 p.r.kind), .v (.int .i64 p.r.index), .sl 4 (eTms p.r.args) none, .sl 2 (eTys p.m) none] := rfl
theorem ePr_z : ePr .z = [.sl 2 [] none, .v (.int .i64 0), .v (.int .i64 0), .sl 4 [] none, .sl 2 [] none, .v (.int .i64 0), .v (.int .i64 0), .sl 4 [] none, .sl 2 [] none] := rfl
@[simp] theorem ePr_ok (f g : Nat → Bool) (p : Li.Pr) : D.oks f g (ePr p) = true := by simp [ePr, D.oks, D.ok]
def ePrs (l : List Li.Pr) : List (List D) := l.map ePr
theorem ePrs_len (l : List Li.Pr) : (ePrs l).length = l.length := List.length_map ..
theorem ePrs_getD (l : List Li.Pr) (i : Nat) (h : i < l.length) : (ePrs l).getD i [] = ePr l[i] := by
  rw [ePrs, List.getD_eq_getElem?_getD, List.getElem?_map, List.getElem?_eq_getElem h]; rfl
@[simp] theorem ePrs_ok (f g : Nat → Bool) (l : List Li.Pr) : D.okss f g (ePrs l) = true := D.okss_map _ l fun l _ => ePr_ok f g l
theorem to17_d (p : Li.Pr) (h1 : p.l.full ≤ 900000) (h2 : p.r.full ≤ 900000) (h3 : Ty.sizes p.m ≤ 900000) : PureC Tryz.prog 9 [.ag (ePr p)] (.ag (ePr p)) := by
 obtain ⟨L, R, M⟩ := p
 have c1 := to6D_d L h1
 have c2 := to6D_d R h2
 have c3 := toTys_d M h3
 rw [eTm_eq] at c1 c2
 rw [ePr_eq]
 refine calldw 0 13 [ResultVar.cell 2 38] TPR_ok Tryz.func9 rfl Tryz.ntmps9 rfl fun cx hnt hn0 => ?_
 ·skip
  refine dw_seq ?_; refine dwk [] TPR_ok hnt fun K hK => ?_; refine hK _ _ ?_; clear hK K; refine dw_seq ?_; refine dwkD [] TPR_ok hnt fun K hK => ?_; refine dcl (c1) ?_; refine dcl (c2) ?_; refine dcl (c3) ?_; refine hK _ _ (by kernel_rfl) ?_; clear hK K; refine dw_ret ?_
  exact reta rfl
theorem of17_d (p : Li.Pr) (h1 : p.l.full ≤ 900000) (h2 : p.r.full ≤ 900000) (h3 : Ty.sizes p.m ≤ 900000) : PureC Tryz.prog 15 [.ag (ePr p)] (.ag (ePr p)) := by
 obtain ⟨L, R, M⟩ := p
 have c1 := of6D_d L h1
 have c2 := of6D_d R h2
 have c3 := ofTys_d M h3
 rw [eTm_eq] at c1 c2
 rw [ePr_eq]
 refine calldw 0 13 [ResultVar.cell 2 29] TPR_ok Tryz.func15 rfl Tryz.ntmps15 rfl fun cx hnt hn0 => ?_
 ·skip
  refine dw_seq ?_; refine dwk [] TPR_ok hnt fun K hK => ?_; refine hK _ _ ?_; clear hK K; refine dw_seq ?_; refine dwkD [] TPR_ok hnt fun K hK => ?_; refine dcl (c1) ?_; refine dcl (c2) ?_; refine dcl (c3) ?_; refine hK _ _ (by kernel_rfl) ?_; clear hK K; refine dw_ret ?_
  exact reta rfl
theorem types17_d (l r : List Ty) (hl : l.length ≤ 1000000) (hr : r.length ≤ 1000000) : PureC Tryz.prog 48 [.sl 2 (eTys l) none, .sl 2 (eTys r) none] (.v (.bool (decide (l = r)))) := by
 by_cases hlr : l.length = r.length
 ·skip
  refine calldw 0 27 [ResultVar.tmp 4] TPR_ok Tryz.func48 rfl Tryz.ntmps48 rfl fun cx hnt hn0 => ?_
  ·skip
   refine dw_seq ?_; refine dwk [] TPR_ok hnt fun K hK => ?_; refine hK _ _ ?_; clear hK K; refine dw_seq ?_; refine dw_seq ?_; refine dwk [(7, .v (.int .i64 (↑l.length))), (9, .v (.int .i64 (↑r.length))), (10, .v (.bool false))] TPR_ok hnt fun K hK => ?_; refine And.intro (dintE (by rw [eTys_len])) ?_; refine And.intro (dintE (by rw [eTys_len])) ?_; refine And.intro (bneF (by omega)) ?_; refine hK _ _ ?_; clear hK K
   refine dw_cond (t := false) rfl ?_; rw [if_neg (by simp)]; refine dw_skip ?_; refine dw_seq ?_; refine dw_seq ?_; refine dwk [] TPR_ok hnt fun K hK => ?_; refine hK _ _ ?_; clear hK K; refine dw_block ?_
   refine dw_loop (ι := { j : Nat // l.take j = r.take j }) (fun j => [(.t 0, .sl 2 (eTys l) none), (.t 1, .sl 2 (eTys r) none), (.t 5, .v (.int .i64 ↑j.1))]) 2 (fun j => l.length - j.1) (⟨0, rfl⟩) (VS.toA) fun j => ?_
   obtain ⟨j, hj⟩ := j
   dsimp only
   by_cases hlt : j < l.length
   ·have hlt2 : j < r.length := by omega
    have hq := rsame4_d l[j] r[j]
    rw [eTy_eq, eTy_eq] at hq
    by_cases he : l[j] = r[j]
    ·rw [decide_eq_true he] at hq
     refine dw_seq ?_; refine dw_seq ?_; refine dwk [(13, .v (.int .i64 (↑l.length))), (14, .v (.bool true))] TPR_ok hnt fun K hK => ?_; refine And.intro (dintE (by rw [eTys_len])) ?_; refine And.intro auT ?_; refine hK _ _ ?_; clear hK K; refine dw_cond (t := true) rfl ?_; rw [if_pos rfl]; refine dw_skip ?_; refine dw_seq ?_; refine dw_block ?_; refine dw_seq ?_; refine dwkD [(19, .q [.sl 2 (eTys l[j].args) none, .v (.int .i64 l[j].base)]), (23, .q [.sl 2 (eTys r[j].args) none, .v (.int .i64 r[j].base)])] TPR_ok hnt fun K hK => ?_
     refine And.intro (elo (eTys_len l)) ?_; refine And.intro (elv (eTys_getD l j) (eTy_eq _)) ?_; refine And.intro (elo (eTys_len r)) ?_; refine And.intro (elv (eTys_getD r j) (eTy_eq _)) ?_; refine dcl (hq) ?_; refine hK _ _ (by kernel_rfl) ?_; clear hK K; refine dw_cond (t := false) rfl ?_; rw [if_neg (by simp)]; refine dw_skip ?_; refine dwk [(16, .v (.int .i64 (↑(j + 1))))] TPR_ok hnt fun K hK => ?_
     refine And.intro auI ?_; refine hK _ _ ?_; clear hK K
     refine ⟨⟨j + 1, take_succ_eq hj hlt hlt2 he⟩, by first | omega | (dsimp only; omega), VS.toA⟩
    ·rw [decide_eq_false he] at hq
     rw [decide_eq_false (ne_at hlt hlt2 he)]
     refine dw_seq ?_; refine dw_seq ?_; refine dwk [(13, .v (.int .i64 (↑l.length))), (14, .v (.bool true))] TPR_ok hnt fun K hK => ?_; refine And.intro (dintE (by rw [eTys_len])) ?_; refine And.intro auT ?_; refine hK _ _ ?_; clear hK K; refine dw_cond (t := true) rfl ?_; rw [if_pos rfl]; refine dw_skip ?_; refine dw_seq ?_; refine dw_block ?_; refine dw_seq ?_; refine dwkD [(19, .q [.sl 2 (eTys l[j].args) none, .v (.int .i64 l[j].base)]), (23, .q [.sl 2 (eTys r[j].args) none, .v (.int .i64 r[j].base)])] TPR_ok hnt fun K hK => ?_
     refine And.intro (elo (eTys_len l)) ?_; refine And.intro (elv (eTys_getD l j) (eTy_eq _)) ?_; refine And.intro (elo (eTys_len r)) ?_; refine And.intro (elv (eTys_getD r j) (eTy_eq _)) ?_; refine dcl (hq) ?_; refine hK _ _ (by kernel_rfl) ?_; clear hK K; refine dw_cond (t := true) rfl ?_; rw [if_pos rfl]; refine dw_seq ?_; refine dwk [] TPR_ok hnt fun K hK => ?_; refine hK _ _ ?_; clear hK K; refine dw_ret ?_
     exact reta rfl
   ·rw [decide_eq_true (eq_of_take hj (by omega) (by omega))]
    refine dw_seq ?_; refine dw_seq ?_; refine dwk [(13, .v (.int .i64 (↑l.length))), (14, .v (.bool false))] TPR_ok hnt fun K hK => ?_; refine And.intro (dintE (by rw [eTys_len])) ?_; refine And.intro auF ?_; refine hK _ _ ?_; clear hK K; refine dw_cond (t := false) rfl ?_; rw [if_neg (by simp)]; refine dw_exit ?_; refine dw_seq ?_; refine dwk [] TPR_ok hnt fun K hK => ?_; refine hK _ _ ?_; clear hK K
    refine dw_ret ?_
    exact reta rfl
 ·rw [decide_eq_false (fun e => hlr (by rw [e]))]
  refine calldw 0 27 [ResultVar.tmp 4] TPR_ok Tryz.func48 rfl Tryz.ntmps48 rfl fun cx hnt hn0 => ?_
  ·skip
   refine dw_seq ?_; refine dwk [] TPR_ok hnt fun K hK => ?_; refine hK _ _ ?_; clear hK K; refine dw_seq ?_; refine dw_seq ?_; refine dwk [(7, .v (.int .i64 (↑l.length))), (9, .v (.int .i64 (↑r.length))), (10, .v (.bool true))] TPR_ok hnt fun K hK => ?_; refine And.intro (dintE (by rw [eTys_len])) ?_; refine And.intro (dintE (by rw [eTys_len])) ?_; refine And.intro (bneT (by omega)) ?_; refine hK _ _ ?_; clear hK K
   refine dw_cond (t := true) rfl ?_; rw [if_pos rfl]; refine dw_seq ?_; refine dwk [] TPR_ok hnt fun K hK => ?_; refine hK _ _ ?_; clear hK K; refine dw_ret ?_
   exact reta rfl
theorem same17_d (p q : Li.Pr) (h1 : p.m.length ≤ 1000000) (h2 : q.m.length ≤ 1000000) : PureC Tryz.prog 14 [.ag (ePr p), .ag (ePr q)] (.v (.bool (decide (p = q)))) := by
 obtain ⟨L, R, M⟩ := p
 obtain ⟨L', R', M'⟩ := q
 have c1 := same2_d L L'
 have c2 := same2_d R R'
 have c3 := types17_d M M' h1 h2
 have e : decide ((⟨L, R, M⟩ : Li.Pr) = ⟨L', R', M'⟩) = ((decide (L = L') && decide (R = R')) && decide (M = M')) := by
  rw [Bool.eq_iff_iff]; simp [and_assoc]
 rw [e]
 rw [eTm_eq L, eTm_eq L'] at c1
 rw [eTm_eq R, eTm_eq R'] at c2
 rw [ePr_eq, ePr_eq]
 cases hA : decide (L = L') with
 | false =>
  rw [hA] at c1
  rw [Bool.false_and, Bool.false_and]
  refine calldw 0 24 [ResultVar.tmp 4] TPR_ok Tryz.func14 rfl Tryz.ntmps14 rfl fun cx hnt hn0 => ?_
  ·skip
   refine dw_seq ?_; refine dwk [] TPR_ok hnt fun K hK => ?_; refine hK _ _ ?_; clear hK K; refine dw_seq ?_; refine dwk [] TPR_ok hnt fun K hK => ?_; refine dcl (c1) ?_; refine hK _ _ ?_; clear hK K; refine dw_ret ?_
   exact reta rfl
 | true =>
  rw [hA] at c1
  cases hB : decide (R = R') with
  | false =>
   rw [hB] at c2
   rw [Bool.and_false, Bool.false_and]
   refine calldw 0 24 [ResultVar.tmp 4] TPR_ok Tryz.func14 rfl Tryz.ntmps14 rfl fun cx hnt hn0 => ?_
   ·skip
    refine dw_seq ?_; refine dwk [] TPR_ok hnt fun K hK => ?_; refine hK _ _ ?_; clear hK K; refine dw_seq ?_; refine dwk [] TPR_ok hnt fun K hK => ?_; refine dcl (c1) ?_; refine dcl (c2) ?_; refine hK _ _ ?_; clear hK K; refine dw_ret ?_
    exact reta rfl
  | true =>
   rw [hB] at c2
   rw [Bool.and_true, Bool.true_and]
   refine calldw 0 24 [ResultVar.tmp 4] TPR_ok Tryz.func14 rfl Tryz.ntmps14 rfl fun cx hnt hn0 => ?_
   ·skip
    refine dw_seq ?_; refine dwk [] TPR_ok hnt fun K hK => ?_; refine hK _ _ ?_; clear hK K; refine dw_seq ?_; refine dwk [] TPR_ok hnt fun K hK => ?_; refine dcl (c1) ?_; refine dcl (c2) ?_; refine dcl (c3) ?_; refine hK _ _ ?_; clear hK K; refine dw_ret ?_
    exact reta rfl
/-! Few -/
def fewP (p : Li.Pr) : Bool := (([p.l, p.r].all fewB) && (decide (p.m.length ≤ 20) && p.m.all few4B)) && lowsB [p.l, p.r]
theorem smallP_d (X : List Ty) : PureC Tryz.prog 19 [.ag [.v (.int .i64 0), .sl 2 (eTys []) none, .sl 2 (eTys []) none], .sl 2 (eTys X) none] (.v (.bool (decide (X.length ≤ 20) && X.all few4B))) := by
  by_cases h : X.length ≤ 20
  · have := small_d 0 [] [] X (by simp) (by simp) h
    rw [List.append_nil, List.nil_append] at this
    rw [decide_eq_true h, Bool.true_and]; exact this
  · rw [decide_eq_false h, Bool.false_and]
    exact small_no 0 [] [] X (fun h2 => h h2.2.2)
theorem fewP_ok {p : Li.Pr} (h : fewP p = true) : (p.l.full ≤ 150 ∧ p.r.full ≤ 150) ∧ p.m.length ≤ 20 ∧ (∀ t ∈ p.m, t.size ≤ 60) := by
  unfold fewP at h
  simp only [Bool.and_eq_true, List.all_cons, List.all_nil, and_true, decide_eq_true_eq] at h
  exact ⟨⟨(fewB_full h.1.1.1).1, (fewB_full h.1.1.2).1⟩, h.1.2.1, fun t ht => fewT60 (List.all_eq_true.1 h.1.2.2 t ht)⟩
set_option maxHeartbeats 2000000 in
theorem few17_d (l : List Li.Pr) (hl : l.length ≤ 1000000) : PureC Tryz.prog 6 [.sl 9 (ePrs l) none] (.v (.bool (l.all fewP))) := by
 refine calldw 0 48 [ResultVar.tmp 2] TPR_ok Tryz.func6 rfl Tryz.ntmps6 rfl fun cx hnt hn0 => ?_
 ·skip
  refine dw_seq ?_; refine dwk [] TPR_ok hnt fun K hK => ?_; refine hK _ _ ?_; clear hK K; refine dw_seq ?_; refine dw_seq ?_; refine dwk [] TPR_ok hnt fun K hK => ?_; refine hK _ _ ?_; clear hK K; refine dw_block ?_
  refine dw_loop (ι := { j : Nat // ∀ i (h : i < l.length), i < j → fewP l[i] = true }) (fun j => [(.t 0, .sl 9 (ePrs l) none), (.t 3, .v (.int .i64 ↑j.1))]) 1 (fun j => l.length - j.1) (⟨0, fun i h1 h2 => by omega⟩) (VS.toA) fun j => ?_
  obtain ⟨j, hj⟩ := j
  dsimp only
  by_cases hlt : j < l.length
  ·obtain ⟨p, hp⟩ : ∃ p, l[j] = p := ⟨_, rfl⟩
   have hgd : (ePrs l).getD j [] = [.sl 2 (eTys p.l.binds) none, .v (.int .i64 p.l.kind), .v (.int .i64 p.l.index), .sl 4 (eTms p.l.args) none, .sl 2 (eTys p.r.binds) none, .v (.int .i64 p.r.kind), .v (.int .i64 p.r.index), .sl 4 (eTms p.r.args) none, .sl 2 (eTys p.m) none] := by rw [ePrs_getD l j hlt, hp, ePr_at]
   have hF := lawFew_d [p.l, p.r] (by simp)
   have hS := smallP_d p.m
   have hbad : fewP p = false → l.all fewP = false := fun h => by rw [List.all_eq_false]; exact ⟨l[j], List.getElem_mem hlt, by rw [hp, h]; simp⟩
   have e2 : eTms [p.l, p.r] = [[.sl 2 (eTys p.l.binds) none, .v (.int .i64 p.l.kind), .v (.int .i64 p.l.index), .sl 4 (eTms p.l.args) none], [.sl 2 (eTys p.r.binds) none, .v (.int .i64 p.r.kind), .v (.int .i64 p.r.index), .sl 4 (eTms p.r.args) none]] := by rw [← eTm_eq, ← eTm_eq]; rfl
   cases h1 : [p.l, p.r].all fewB with
   | false =>
    rw [h1] at hF
    rw [hbad (by rw [fewP, h1]; rfl)]
    refine dw_seq ?_; refine dw_seq ?_; refine dwk [(6, .v (.int .i64 (↑l.length))), (7, .v (.bool true))] TPR_ok hnt fun K hK => ?_; refine And.intro (dintE (by rw [ePrs_len])) ?_; refine And.intro auT ?_; refine hK _ _ ?_; clear hK K; refine dw_cond (t := true) rfl ?_; rw [if_pos rfl]; refine dw_skip ?_; refine dw_seq ?_; refine dw_block ?_; refine dw_seq ?_; refine dwkD [(12, .q [.sl 2 (eTys p.l.binds) none, .v (.int .i64 p.l.kind), .v (.int .i64 p.l.index), .sl 4 (eTms p.l.args) none, .sl 2 (eTys p.r.binds) none, .v (.int .i64 p.r.kind), .v (.int .i64 p.r.index), .sl 4 (eTms p.r.args) none, .sl 2 (eTys p.m) none]), (17, .q [.sl 2 (eTys p.l.binds) none, .v (.int .i64 p.l.kind), .v (.int .i64 p.l.index), .sl 4 (eTms p.l.args) none, .sl 2 (eTys p.r.binds) none, .v (.int .i64 p.r.kind), .v (.int .i64 p.r.index), .sl 4 (eTms p.r.args) none, .sl 2 (eTys p.m) none]), (20, .sl 4 (eTms [p.l, p.r]) none)] TPR_ok hnt fun K hK => ?_
    refine And.intro (⟨by omega, by rw [ePrs_len]; omega⟩) ?_; refine And.intro (VLe.of_eq (by rw [Int.toNat_natCast, hgd])) ?_; refine And.intro (⟨by omega, by rw [ePrs_len]; omega⟩) ?_; refine And.intro (VLe.of_eq (by rw [Int.toNat_natCast, hgd])) ?_; refine And.intro ((by rw [e2]; exact VLe.untag _ _ _)) ?_; refine dcl (hF) ?_; refine hK _ _ (by kernel_rfl) ?_; clear hK K; refine dw_cond (t := true) rfl ?_
    rw [if_pos rfl]; refine dw_seq ?_; refine dwk [] TPR_ok hnt fun K hK => ?_; refine hK _ _ ?_; clear hK K; refine dw_ret ?_
    exact reta rfl
   | true =>
    rw [h1] at hF
    cases h2 : (decide (p.m.length ≤ 20) && p.m.all few4B) with
    | false =>
     rw [h2] at hS
     rw [hbad (by rw [fewP, h1, h2]; rfl)]
     refine dw_seq ?_; refine dw_seq ?_; refine dwk [(6, .v (.int .i64 (↑l.length))), (7, .v (.bool true))] TPR_ok hnt fun K hK => ?_; refine And.intro (dintE (by rw [ePrs_len])) ?_; refine And.intro auT ?_; refine hK _ _ ?_; clear hK K; refine dw_cond (t := true) rfl ?_; rw [if_pos rfl]; refine dw_skip ?_; refine dw_seq ?_; refine dw_block ?_; refine dw_seq ?_; refine dwkD [(12, .q [.sl 2 (eTys p.l.binds) none, .v (.int .i64 p.l.kind), .v (.int .i64 p.l.index), .sl 4 (eTms p.l.args) none, .sl 2 (eTys p.r.binds) none, .v (.int .i64 p.r.kind), .v (.int .i64 p.r.index), .sl 4 (eTms p.r.args) none, .sl 2 (eTys p.m) none]), (17, .q [.sl 2 (eTys p.l.binds) none, .v (.int .i64 p.l.kind), .v (.int .i64 p.l.index), .sl 4 (eTms p.l.args) none, .sl 2 (eTys p.r.binds) none, .v (.int .i64 p.r.kind), .v (.int .i64 p.r.index), .sl 4 (eTms p.r.args) none, .sl 2 (eTys p.m) none]), (20, .sl 4 (eTms [p.l, p.r]) none), (24, .ag [.v (.int .i64 0), .sl 2 (eTys []) none, .sl 2 (eTys []) none]), (27, .q [.sl 2 (eTys p.l.binds) none, .v (.int .i64 p.l.kind), .v (.int .i64 p.l.index), .sl 4 (eTms p.l.args) none, .sl 2 (eTys p.r.binds) none, .v (.int .i64 p.r.kind), .v (.int .i64 p.r.index), .sl 4 (eTms p.r.args) none, .sl 2 (eTys p.m) none])] TPR_ok hnt fun K hK => ?_
     refine And.intro (⟨by omega, by rw [ePrs_len]; omega⟩) ?_; refine And.intro (VLe.of_eq (by rw [Int.toNat_natCast, hgd])) ?_; refine And.intro (⟨by omega, by rw [ePrs_len]; omega⟩) ?_; refine And.intro (VLe.of_eq (by rw [Int.toNat_natCast, hgd])) ?_; refine And.intro ((by rw [e2]; exact VLe.untag _ _ _)) ?_; refine dcl (hF) ?_; refine And.intro (auV) ?_; refine And.intro (⟨by omega, by rw [ePrs_len]; omega⟩) ?_
     refine And.intro (VLe.of_eq (by rw [Int.toNat_natCast, hgd])) ?_; refine dcl (hS) ?_; refine hK _ _ (by kernel_rfl) ?_; clear hK K; refine dw_cond (t := true) rfl ?_; rw [if_pos rfl]; refine dw_seq ?_; refine dwk [] TPR_ok hnt fun K hK => ?_; refine hK _ _ ?_; clear hK K; refine dw_ret ?_
     exact reta rfl
    | true =>
     rw [h2] at hS
     have h1' := h1
     simp only [List.all_cons, List.all_nil, Bool.and_true, Bool.and_eq_true] at h1'
     have hL := low_d [p.l, p.r] (by simp) (fun t ht => by
      rcases List.mem_cons.1 ht with rfl | ht
      ·exact wide_full _ (by have := (fewB_full h1'.1).1; omega)
      ·rw [List.mem_singleton] at ht; subst ht; exact wide_full _ (by have := (fewB_full h1'.2).1; omega))
     cases h3 : lowsB [p.l, p.r] with
     | false =>
      rw [h3] at hL
      rw [hbad (by rw [fewP, h1, h2, h3]; rfl)]
      refine dw_seq ?_; refine dw_seq ?_; refine dwk [(6, .v (.int .i64 (↑l.length))), (7, .v (.bool true))] TPR_ok hnt fun K hK => ?_; refine And.intro (dintE (by rw [ePrs_len])) ?_; refine And.intro auT ?_; refine hK _ _ ?_; clear hK K; refine dw_cond (t := true) rfl ?_; rw [if_pos rfl]; refine dw_skip ?_; refine dw_seq ?_; refine dw_block ?_; refine dw_seq ?_; refine dwkD [(12, .q [.sl 2 (eTys p.l.binds) none, .v (.int .i64 p.l.kind), .v (.int .i64 p.l.index), .sl 4 (eTms p.l.args) none, .sl 2 (eTys p.r.binds) none, .v (.int .i64 p.r.kind), .v (.int .i64 p.r.index), .sl 4 (eTms p.r.args) none, .sl 2 (eTys p.m) none]), (17, .q [.sl 2 (eTys p.l.binds) none, .v (.int .i64 p.l.kind), .v (.int .i64 p.l.index), .sl 4 (eTms p.l.args) none, .sl 2 (eTys p.r.binds) none, .v (.int .i64 p.r.kind), .v (.int .i64 p.r.index), .sl 4 (eTms p.r.args) none, .sl 2 (eTys p.m) none]), (20, .sl 4 (eTms [p.l, p.r]) none), (24, .ag [.v (.int .i64 0), .sl 2 (eTys []) none, .sl 2 (eTys []) none]), (27, .q [.sl 2 (eTys p.l.binds) none, .v (.int .i64 p.l.kind), .v (.int .i64 p.l.index), .sl 4 (eTms p.l.args) none, .sl 2 (eTys p.r.binds) none, .v (.int .i64 p.r.kind), .v (.int .i64 p.r.index), .sl 4 (eTms p.r.args) none, .sl 2 (eTys p.m) none]), (36, .q [.sl 2 (eTys p.l.binds) none, .v (.int .i64 p.l.kind), .v (.int .i64 p.l.index), .sl 4 (eTms p.l.args) none, .sl 2 (eTys p.r.binds) none, .v (.int .i64 p.r.kind), .v (.int .i64 p.r.index), .sl 4 (eTms p.r.args) none, .sl 2 (eTys p.m) none]), (41, .q [.sl 2 (eTys p.l.binds) none, .v (.int .i64 p.l.kind), .v (.int .i64 p.l.index), .sl 4 (eTms p.l.args) none, .sl 2 (eTys p.r.binds) none, .v (.int .i64 p.r.kind), .v (.int .i64 p.r.index), .sl 4 (eTms p.r.args) none, .sl 2 (eTys p.m) none]), (44, .sl 4 (eTms [p.l, p.r]) none)] TPR_ok hnt fun K hK => ?_
      refine And.intro (⟨by omega, by rw [ePrs_len]; omega⟩) ?_; refine And.intro (VLe.of_eq (by rw [Int.toNat_natCast, hgd])) ?_; refine And.intro (⟨by omega, by rw [ePrs_len]; omega⟩) ?_; refine And.intro (VLe.of_eq (by rw [Int.toNat_natCast, hgd])) ?_; refine And.intro ((by rw [e2]; exact VLe.untag _ _ _)) ?_; refine dcl (hF) ?_; refine And.intro (auV) ?_; refine And.intro (⟨by omega, by rw [ePrs_len]; omega⟩) ?_
      refine And.intro (VLe.of_eq (by rw [Int.toNat_natCast, hgd])) ?_; refine dcl (hS) ?_; refine And.intro (⟨by omega, by rw [ePrs_len]; omega⟩) ?_; refine And.intro (VLe.of_eq (by rw [Int.toNat_natCast, hgd])) ?_; refine And.intro (⟨by omega, by rw [ePrs_len]; omega⟩) ?_; refine And.intro (VLe.of_eq (by rw [Int.toNat_natCast, hgd])) ?_; refine And.intro ((by rw [e2]; exact VLe.untag _ _ _)) ?_; refine dcl (hL) ?_
      refine hK _ _ (by kernel_rfl) ?_; clear hK K; refine dw_cond (t := true) rfl ?_; rw [if_pos rfl]; refine dw_seq ?_; refine dwk [] TPR_ok hnt fun K hK => ?_; refine hK _ _ ?_; clear hK K; refine dw_ret ?_
      exact reta rfl
     | true =>
      rw [h3] at hL
      refine dw_seq ?_; refine dw_seq ?_; refine dwk [(6, .v (.int .i64 (↑l.length))), (7, .v (.bool true))] TPR_ok hnt fun K hK => ?_; refine And.intro (dintE (by rw [ePrs_len])) ?_; refine And.intro auT ?_; refine hK _ _ ?_; clear hK K; refine dw_cond (t := true) rfl ?_; rw [if_pos rfl]; refine dw_skip ?_; refine dw_seq ?_; refine dw_block ?_; refine dw_seq ?_; refine dwkD [(12, .q [.sl 2 (eTys p.l.binds) none, .v (.int .i64 p.l.kind), .v (.int .i64 p.l.index), .sl 4 (eTms p.l.args) none, .sl 2 (eTys p.r.binds) none, .v (.int .i64 p.r.kind), .v (.int .i64 p.r.index), .sl 4 (eTms p.r.args) none, .sl 2 (eTys p.m) none]), (17, .q [.sl 2 (eTys p.l.binds) none, .v (.int .i64 p.l.kind), .v (.int .i64 p.l.index), .sl 4 (eTms p.l.args) none, .sl 2 (eTys p.r.binds) none, .v (.int .i64 p.r.kind), .v (.int .i64 p.r.index), .sl 4 (eTms p.r.args) none, .sl 2 (eTys p.m) none]), (20, .sl 4 (eTms [p.l, p.r]) none), (24, .ag [.v (.int .i64 0), .sl 2 (eTys []) none, .sl 2 (eTys []) none]), (27, .q [.sl 2 (eTys p.l.binds) none, .v (.int .i64 p.l.kind), .v (.int .i64 p.l.index), .sl 4 (eTms p.l.args) none, .sl 2 (eTys p.r.binds) none, .v (.int .i64 p.r.kind), .v (.int .i64 p.r.index), .sl 4 (eTms p.r.args) none, .sl 2 (eTys p.m) none]), (36, .q [.sl 2 (eTys p.l.binds) none, .v (.int .i64 p.l.kind), .v (.int .i64 p.l.index), .sl 4 (eTms p.l.args) none, .sl 2 (eTys p.r.binds) none, .v (.int .i64 p.r.kind), .v (.int .i64 p.r.index), .sl 4 (eTms p.r.args) none, .sl 2 (eTys p.m) none]), (41, .q [.sl 2 (eTys p.l.binds) none, .v (.int .i64 p.l.kind), .v (.int .i64 p.l.index), .sl 4 (eTms p.l.args) none, .sl 2 (eTys p.r.binds) none, .v (.int .i64 p.r.kind), .v (.int .i64 p.r.index), .sl 4 (eTms p.r.args) none, .sl 2 (eTys p.m) none]), (44, .sl 4 (eTms [p.l, p.r]) none)] TPR_ok hnt fun K hK => ?_
      refine And.intro (⟨by omega, by rw [ePrs_len]; omega⟩) ?_; refine And.intro (VLe.of_eq (by rw [Int.toNat_natCast, hgd])) ?_; refine And.intro (⟨by omega, by rw [ePrs_len]; omega⟩) ?_; refine And.intro (VLe.of_eq (by rw [Int.toNat_natCast, hgd])) ?_; refine And.intro ((by rw [e2]; exact VLe.untag _ _ _)) ?_; refine dcl (hF) ?_; refine And.intro (auV) ?_; refine And.intro (⟨by omega, by rw [ePrs_len]; omega⟩) ?_
      refine And.intro (VLe.of_eq (by rw [Int.toNat_natCast, hgd])) ?_; refine dcl (hS) ?_; refine And.intro (⟨by omega, by rw [ePrs_len]; omega⟩) ?_; refine And.intro (VLe.of_eq (by rw [Int.toNat_natCast, hgd])) ?_; refine And.intro (⟨by omega, by rw [ePrs_len]; omega⟩) ?_; refine And.intro (VLe.of_eq (by rw [Int.toNat_natCast, hgd])) ?_; refine And.intro ((by rw [e2]; exact VLe.untag _ _ _)) ?_; refine dcl (hL) ?_
      refine hK _ _ (by kernel_rfl) ?_; clear hK K; refine dw_cond (t := false) rfl ?_; rw [if_neg (by simp)]; refine dw_skip ?_; refine dwk [(9, .v (.int .i64 (↑(j + 1))))] TPR_ok hnt fun K hK => ?_; refine And.intro auI ?_; refine hK _ _ ?_; clear hK K
      refine ⟨⟨j + 1, fun i h1' h2' => if e : i = j then by subst e; rw [hp, fewP, h1, h2, h3]; rfl else hj i h1' (by omega)⟩, by first | omega | (dsimp only; omega), VS.toA⟩
  ·have ha : l.all fewP = true := by
    rw [List.all_eq_true]
    intro t ht
    obtain ⟨i, hi, rfl⟩ := List.getElem_of_mem ht
    exact hj i hi (by omega)
   rw [ha]
   refine dw_seq ?_; refine dw_seq ?_; refine dwk [(6, .v (.int .i64 (↑l.length))), (7, .v (.bool false))] TPR_ok hnt fun K hK => ?_; refine And.intro (dintE (by rw [ePrs_len])) ?_; refine And.intro auF ?_; refine hK _ _ ?_; clear hK K; refine dw_cond (t := false) rfl ?_; rw [if_neg (by simp)]; refine dw_exit ?_; refine dw_seq ?_; refine dwk [] TPR_ok hnt fun K hK => ?_; refine hK _ _ ?_; clear hK K; refine dw_ret ?_
   exact reta rfl
end Go.Proofs.YtdmiekaeodcehaaGreat

namespace Go.Proofs.YtdmiekaeodcehaaGreat
open Go.RowKit Go.ChangeShapes Go.WideShapes Go.ChangeAt

theorem cellsP17 : Tryz.prog.cellsOf 29 = 9 := by kernel_rfl
theorem nine_of {α : Type} {cs : List α} (h : cs.length = 9) : ∃ a b c d e f g i j, cs = [a, b, c, d, e, f, g, i, j] := by
  match cs, h with
  | [a, b, c, d, e, f, g, i, j], _ => exact ⟨a, b, c, d, e, f, g, i, j, rfl⟩
structure IsP17 (F : Nat → Prop) (w : World) (v1 v2 v3 v4 v5 v6 v7 v8 v9 : Value) (p : Li.Pr) : Prop where
  l : IsTm F w v1 v2 v3 v4 p.l
  r : IsTm F w v5 v6 v7 v8 p.r
  m : IsSl rpTy F w v9 p.m
set_option maxRecDepth 100000 in
theorem openP17 {H : Type} {enc : TypeId × Value → H} {W : World} {base : Nat} {sp : Nat → Bool} {hd : Bool} {r : Reach} {b0 : Nat} {v : Value} {d : DataW H} {p : List MemPlace}
    (hval : Value.okWide Tryz.prog W r b0 29 v) (h : DataW.Trod enc Tryz.prog W base sp hd 29 v d p) :
    ∃ v1 v2 v3 v4 v5 v6 v7 v8 v9 q, v = .agg #[v1, v2, v3, v4, v5, v6, v7, v8, v9] ∧ IsP17 (fun _ => True) W v1 v2 v3 v4 v5 v6 v7 v8 v9 q ∧ (q.l.Fit ∧ q.r.Fit) := by
  obtain ⟨n, h⟩ := h
  obtain ⟨xs, m, _, _, hl, hlen, hf⟩ := DataW.trod_struct Tryz.underlying29 h
  rw [cellsP17] at hl
  obtain ⟨v0, v1, v2, v3, v4, v5, v6, v7, v8, hv⟩ := nine_of hl
  rw [hv] at hf
  have h0 : DataW.trod enc Tryz.prog W base sp hd m 27 ([v0, v1, v2, v3, v4, v5, v6, v7, v8].take (Tryz.prog.cellsOf 27)) = xs[0]? := hf 0 _ rfl
  have h1 : DataW.trod enc Tryz.prog W base sp hd m 27 ([v4, v5, v6, v7, v8].take (Tryz.prog.cellsOf 27)) = xs[1]? := hf 1 _ rfl
  have h2 : DataW.trod enc Tryz.prog W base sp hd m 22 ([v8].take (Tryz.prog.cellsOf 22)) = xs[2]? := hf 2 _ rfl
  rw [cellsTerm] at h0 h1
  rw [cellsSR] at h2
  have hlen : xs.length = 3 := hlen
  rw [List.getElem?_eq_getElem (by omega)] at h0 h1 h2
  obtain ⟨t, ⟨b, k, j, a, hx, ht⟩, hfit⟩ := rdM enc W base sp hd m _ _ h0
  obtain ⟨t', ⟨b', k', j', a', hx', ht'⟩, hfit'⟩ := rdM enc W base sp hd m _ _ h1
  obtain ⟨ma, mn, mc, M, hmv, _, hM, _⟩ := sl_of_trod Tryz.underlying22 cellsR (by decide) (fun j hj => rdR enc W base sp hd j) h2
  have e0 : [v0, v1, v2, v3] = [b, k, j, a] := hx
  have e1 : [v4, v5, v6, v7] = [b', k', j', a'] := hx'
  have e2 : [v8] = [.slice ma mn mc] := hmv
  simp only [List.cons.injEq, and_true] at e0 e1 e2
  obtain ⟨rfl, rfl, rfl, rfl⟩ := e0
  obtain ⟨rfl, rfl, rfl, rfl⟩ := e1
  subst e2
  obtain ⟨cs, rfl, _⟩ := okWide_struct Tryz.underlying29 hval
  refine ⟨_, _, _, _, _, _, _, _, _, ⟨t, t', M⟩, ?_, ⟨ht, ht', hM⟩, hfit, hfit'⟩
  have : cs.toList = [v0, v1, v2, v3, v4, v5, v6, v7, .slice ma mn mc] := hv
  rw [← Array.toList_inj.1 (show cs.toList = (#[v0, v1, v2, v3, v4, v5, v6, v7, .slice ma mn mc] : Array Value).toList from this)]
theorem relP17 {m : Mp} {w : World} {F : Nat → Prop} {v1 v2 v3 v4 v5 v6 v7 v8 v9 : Value} {p : Li.Pr} (h : IsP17 F w v1 v2 v3 v4 v5 v6 v7 v8 v9 p) : Rel m (cellI F w) w (.agg #[v1, v2, v3, v4, v5, v6, v7, v8, v9]) (.ag (ePr p)) := by
  have e : ePr p = eTm p.l ++ (eTm p.r ++ [.sl 2 (eTys p.m) none]) := by rw [eTm_eq, eTm_eq]; rfl
  rw [e]
  exact rel_ag.2 ⟨[v1, v2, v3, v4, v5, v6, v7, v8, v9], rfl, (rel_of_tm cellI_of p.l h.l).append ((rel_of_tm cellI_of p.r h.r).append ⟨relTys h.m, trivial⟩)⟩
end Go.Proofs.YtdmiekaeodcehaaGreat

