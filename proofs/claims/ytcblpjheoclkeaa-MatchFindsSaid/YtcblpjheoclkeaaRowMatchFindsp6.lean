/-
  Package pattern, walked in the deep way: uses, Uses, Is. Terms that are the same, as deep contracts. Package match, walked in the deep way: put. Deep values: rows that nothing else reads: how they begin, how they are handed on. Sorting that keeps the order of equal keys, in plain words. Places, uses and matching in plain Lean: the document's answer and the program's are one. Package match, walked in the deep way: walk, may. Deep values: regions with steps through a map. Package slices' stable sort of pairs, walked in the deep way: insertion, swaps, rotation.
-/
import Derived.Test.YtcblpjheoclkeaaRowMatchFindsp5
import Derived.Test.YtcblpjheoclkeaaRowMatchFindsp4
import Derived.Maps.RangeRun
set_option maxRecDepth 100000
set_option maxHeartbeats 1000000
set_option linter.unusedVariables false
set_option linter.unusedSimpArgs false
namespace Go.Proofs.Ytcblpjheoclkeaa
open Go.RowKit
def TP3_34 : TI := ⟨4, true, [Value.slice none 0 0, Value.int IntKind.i64 0, Value.int IntKind.i64 0, Value.slice none 0 0], [(0, 1, false), (1, 2, true), (3, 1, false)], none, 64, 6, none, false⟩
theorem TP3_34_ok : TypOk Try.prog 34 TP3_34 := ⟨by kernel_rfl, by kernel_rfl, by kernel_rfl, by kernel_rfl, by kernel_rfl⟩
def TP3_43 : TI := ⟨1, false, [Value.slice none 0 0], [], some 3, 24, 5, none, false⟩
theorem TP3_43_ok : TypOk Try.prog 43 TP3_43 := ⟨by kernel_rfl, by kernel_rfl, by kernel_rfl, by kernel_rfl, by kernel_rfl⟩
def TP3_30 : TI := ⟨1, false, [Value.slice none 0 0], [], some 83, 24, 5, none, false⟩
theorem TP3_30_ok : TypOk Try.prog 30 TP3_30 := ⟨by kernel_rfl, by kernel_rfl, by kernel_rfl, by kernel_rfl, by kernel_rfl⟩
def TP3_215 : TI := ⟨1, false, [Value.slice none 0 0], [], some 278, 24, 5, none, false⟩
theorem TP3_215_ok : TypOk Try.prog 215 TP3_215 := ⟨by kernel_rfl, by kernel_rfl, by kernel_rfl, by kernel_rfl, by kernel_rfl⟩
def TP3_3 : TI := ⟨1, false, [Value.int IntKind.i64 0], [], none, 8, 2, none, false⟩
theorem TP3_3_ok : TypOk Try.prog 3 TP3_3 := ⟨by kernel_rfl, by kernel_rfl, by kernel_rfl, by kernel_rfl, by kernel_rfl⟩
def TP3_83 : TI := ⟨2, true, [Value.slice none 0 0, Value.int IntKind.i64 0], [(0, 1, false), (1, 1, false)], none, 32, 6, none, false⟩
theorem TP3_83_ok : TypOk Try.prog 83 TP3_83 := ⟨by kernel_rfl, by kernel_rfl, by kernel_rfl, by kernel_rfl, by kernel_rfl⟩
def TP3_32 : TI := ⟨1, false, [Value.slice none 0 0], [], some 34, 24, 5, none, false⟩
theorem TP3_32_ok : TypOk Try.prog 32 TP3_32 := ⟨by kernel_rfl, by kernel_rfl, by kernel_rfl, by kernel_rfl, by kernel_rfl⟩
def TP3_35 : TI := ⟨1, false, [Value.int IntKind.i64 0], [], none, 8, 2, none, false⟩
theorem TP3_35_ok : TypOk Try.prog 35 TP3_35 := ⟨by kernel_rfl, by kernel_rfl, by kernel_rfl, by kernel_rfl, by kernel_rfl⟩
def TP3_192 : TI := ⟨1, false, [Value.slice none 0 0], [], some 30, 24, 5, none, false⟩
theorem TP3_192_ok : TypOk Try.prog 192 TP3_192 := ⟨by kernel_rfl, by kernel_rfl, by kernel_rfl, by kernel_rfl, by kernel_rfl⟩
def TP3_31 : TI := ⟨2, true, [Value.int IntKind.i64 0, Value.int IntKind.i64 0], [(0, 1, false), (1, 1, false)], none, 16, 6, none, true⟩
theorem TP3_31_ok : TypOk Try.prog 31 TP3_31 := ⟨by kernel_rfl, by kernel_rfl, by kernel_rfl, by kernel_rfl, by kernel_rfl⟩
def TP3_278 : TI := ⟨4, true, [Value.int IntKind.i64 0, Value.slice none 0 0, Value.slice none 0 0, Value.slice none 0 0], [(0, 1, false), (1, 1, false), (2, 1, false), (3, 1, false)], none, 80, 6, none, false⟩
theorem TP3_278_ok : TypOk Try.prog 278 TP3_278 := ⟨by kernel_rfl, by kernel_rfl, by kernel_rfl, by kernel_rfl, by kernel_rfl⟩
def TP3 : List (Nat × TI) := [(34, TP3_34), (43, TP3_43), (30, TP3_30), (215, TP3_215), (3, TP3_3), (83, TP3_83), (32, TP3_32), (35, TP3_35), (192, TP3_192), (31, TP3_31), (278, TP3_278)]
theorem TP3_ok : TabOk Try.prog TP3 := ((((((((((((TabOk.nil _).cons TP3_278_ok).cons TP3_31_ok).cons TP3_192_ok).cons TP3_35_ok).cons TP3_32_ok).cons TP3_83_ok).cons TP3_3_ok).cons TP3_215_ok).cons TP3_30_ok).cons TP3_43_ok).cons TP3_34_ok)

def eUse (u : Pn.Use) : List D := [.v (.int .i64 u.mt), .sl 1 (eIs u.vars) none, .sl 2 (eTys u.binds) none, .sl 1 (eIs u.path) none]
def eUses (l : List Pn.Use) : List (List D) := l.map eUse
theorem eUses_len (l : List Pn.Use) : (eUses l).length = l.length := List.length_map ..
theorem eUses_append (l r : List Pn.Use) : eUses (l ++ r) = eUses l ++ eUses r := List.map_append ..
@[simp] theorem eUses_ok (f g : Nat → Bool) (l : List Pn.Use) : D.okss f g (eUses l) = true := D.okss_map _ l fun u _ => by simp [eUse, D.oks, D.ok, eIs_ok, eTys_ok]
namespace Pn
theorem usess_app (ar : List Ty) (p : List Int) : ∀ (l r : List Tm) (k : Nat), usess (l ++ r) ar p k = if (usess l ar p k).2 then ((usess l ar p k).1 ++ (usess r ar p (k + l.length)).1, (usess r ar p (k + l.length)).2) else ((usess l ar p k).1, false)
  | [], r, k => by simp [usess]
  | t :: l, r, k => by
    simp only [List.cons_append, usess]
    rw [usess_app ar p l r (k + 1), show k + 1 + l.length = k + (t :: l).length by simp; omega]
    by_cases h : (uses t ar (p ++ [(k : Int)])).2 = true
    · simp only [h, if_true]
      by_cases h2 : (usess l ar p (k + 1)).2 = true
      · simp [h2]
      · simp [h2]
    · simp [h]
theorem usess_take (ar : List Ty) (p : List Int) (a : List Tm) (j : Nat) (hj : j < a.length) (h : (usess (a.take j) ar p 0).2 = true) :
    usess (a.take (j + 1)) ar p 0 = ((usess (a.take j) ar p 0).1 ++ (uses a[j] ar (p ++ [(j : Int)])).1, (uses a[j] ar (p ++ [(j : Int)])).2) := by
  rw [List.take_add_one, List.getElem?_eq_getElem hj]
  show usess (a.take j ++ [a[j]]) ar p 0 = _
  rw [usess_app, if_pos h, List.length_take, Nat.min_eq_left (by omega), Nat.zero_add]
  simp only [usess]
  by_cases h2 : (uses a[j] ar (p ++ [(j : Int)])).2 = true
  · simp [h2]
  · simp [h2]
theorem usess_stop (ar : List Ty) (p : List Int) (a : List Tm) (j : Nat) (h : (usess (a.take j) ar p 0).2 = false) : usess a ar p 0 = usess (a.take j) ar p 0 := by
  have h1 : usess a ar p 0 = usess (a.take j ++ a.drop j) ar p 0 := by rw [List.take_append_drop]
  rw [h1, usess_app, if_neg (by simp [h])]
  rw [← h]
theorem usess_len (ar : List Ty) (p : List Int) : ∀ (a : List Tm) (k : Nat) (_ : ∀ t ∈ a, ∀ p, (uses t ar p).1.length ≤ t.full), (usess a ar p k).1.length ≤ Tm.fulls a
  | [], k, _ => by simp [usess, Tm.fulls]
  | t :: l, k, h => by
    have h1 := h t (by simp) (p ++ [(k : Int)])
    have h2 := usess_len ar p l (k + 1) fun t ht => h t (by simp [ht])
    rw [usess, Tm.fulls]
    split
    · simp; omega
    · dsimp only; omega
theorem uses_len (t : Tm) : ∀ (ar : List Ty) (p : List Int), (uses t ar p).1.length ≤ t.full := by
  induction t using Tm.ind with
  | h bs k i a ih =>
    intro ar p
    rw [uses_eq, Tm.full_eq]
    split
    · split <;> simp
    · have := usess_len (ar ++ bs) p a 0 fun t ht p => ih t ht _ p
      omega
end Pn
def usesV (l : List Pn.Use) (r : List Pn.Use × Bool) : D := if r.2 then .tu [.sl 4 (eUses (l ++ r.1)) (some 0), .v (.int .i64 0)] else .tu [.v (.slice none 0 0), .v (.int .i64 6)]
def UsesC (t : Tm) : Prop := ∀ (ar : List Ty) (p : List Int) (l : List Pn.Use), Ty.sizes ar + t.full ≤ 700000 → p.length + t.full ≤ 700000 → l.length + t.full ≤ 800000 → t.Fit →
  CallG Try.prog 150 [.sl 4 (eUses l) (some 0), .ag (eTm t), .sl 2 (eTys ar) none, .sl 1 (eIs p) none] [(.r 0, .rw 278 4 l.length)] [(.r 0, .rw 278 4 (l ++ (Pn.uses t ar p).1).length)] (usesV l (Pn.uses t ar p))
set_option maxHeartbeats 4000000 in
theorem uses_body (t : Tm) (ih : ∀ u ∈ t.args, UsesC u) (ar : List Ty) (p : List Int) (l : List Pn.Use) (h1 : Ty.sizes ar + t.full ≤ 700000) (h2 : p.length + t.full ≤ 700000) (h3 : l.length + t.full ≤ 800000) (hf : t.Fit) (c : Code) (hc : Try.f150.body = some c)
  (cx : Cx) (hnt : cx.nt = 71) (hn0 : cx.n0 ≤ 1) : DW Try.prog cx c (argsT 0 [.sl 4 (eUses l) (some 0), .ag (eTm t), .sl 2 (eTys ar) none, .sl 1 (eIs p) none] [(.r 0, .rw 278 4 l.length)]) 1 (RetOk TP3 [ResultVar.tmp 8, ResultVar.tmp 9] (usesV l (Pn.uses t ar p)) [(.r 0, .rw 278 4 (l ++ (Pn.uses t ar p).1).length)]) := by
 cases hc
 have hfl := pflex_d t
 have hfu := full_args t
 have hal := fulls_len t.args
 have hbl := Ty.le_sizes t.binds
 have har := Ty.le_sizes ar
 have hcat := concat_d [ar, t.binds] (by simp [lens]; omega) (by simp)
 simp only [List.flatten_cons, List.flatten_nil, List.append_nil] at hcat
 have hva := pvars_d t ((ar ++ t.binds).length : Nat) (by omega) hf
 have hue : Pn.uses t ar p = if t.kind = 2 then (match Pn.varsL ((ar ++ t.binds).length : Nat) t.args [] with | some v => ([⟨t.index, v, ar ++ t.binds, p⟩], true) | none => ([], false)) else Pn.usess t.args (ar ++ t.binds) p 0 := by obtain ⟨b, k, i, a⟩ := t; exact Pn.uses_eq ..
 have hs1 : (Ty.mk [] 0).size = 1 := by simp [Ty.size, Ty.sizes]
 have harr := arrow_d (.mk [] 0) (ar ++ t.binds) (by rw [Ty.sizes_append]; omega)
 have hclo := clone_d p (by omega)
 have hcli := clip_d p
 dsimp only [Ty.args, Ty.base] at harr
 rw [List.append_nil] at harr
 rw [eTm_eq] at hfl hva ⊢
 rw [eTy_eq, eTy_eq] at harr
 dsimp only [Ty.args, Ty.base, eTys] at harr
 refine dw_seq ?_; refine dwk [] TP3_ok hnt fun K hK => ?_; refine hK _ _ ?_; clear hK K; refine dw_seq ?_; refine dwk [(18, .sl 1 (eTyss [ar, t.binds]) none)] TP3_ok hnt fun K hK => ?_; refine And.intro (VLe.untag _ _ _) ?_; refine dcl (hcat) ?_; refine hK _ _ ?_; clear hK K
 by_cases hk : t.kind = 2
 ·rw [decide_eq_true hk] at hfl
  rw [if_pos hk] at hue; refine dw_seq ?_; refine dw_seq ?_; refine dwk [] TP3_ok hnt fun K hK => ?_; refine dcl (hfl) ?_; refine hK _ _ ?_; clear hK K; refine dw_cond (t := true) rfl ?_; rw [if_pos rfl]
  have hvv : Pn.vars t ((ar ++ t.binds).length : Nat) = match Pn.varsL ((ar ++ t.binds).length : Nat) t.args [] with | some l => (l, 0) | none => ([], 6) := by unfold Pn.vars; exact if_neg (by simp [hk]; omega)
  rw [hvv] at hva
  cases hvl : Pn.varsL ((ar ++ t.binds).length : Nat) t.args [] with
  | none =>
   rw [hvl] at hva hue
   rw [hue]
   refine dw_seq ?_; refine dwk [(25, .v (.int .i64 (↑(ar ++ t.binds).length)))] TP3_ok hnt fun K hK => ?_; refine And.intro (dintE (by rw [eTys_len])) ?_; refine dcl (hva) ?_; refine hK _ _ ?_; clear hK K; refine dw_seq ?_; refine dw_seq ?_; refine dwk [(30, .v (.bool true))] TP3_ok hnt fun K hK => ?_; refine And.intro auT ?_; refine hK _ _ ?_; clear hK K; refine dw_cond (t := true) rfl ?_; rw [if_pos rfl]
   refine dw_seq ?_; refine dwk [] TP3_ok hnt fun K hK => ?_; refine hK _ _ ?_; clear hK K; refine dw_ret ?_
   exact reta rfl ((by refine And.intro ?_ trivial; simp [get, Key.eq, argsT]))
  | some v =>
   rw [hvl] at hva hue
   rw [hue]
   have hvlen := Pn.varsL_len _ _ _ _ hvl
   refine dw_seq ?_; refine dwk [(25, .v (.int .i64 (↑(ar ++ t.binds).length)))] TP3_ok hnt fun K hK => ?_; refine And.intro (dintE (by rw [eTys_len])) ?_; refine dcl (hva) ?_; refine hK _ _ ?_; clear hK K; refine dw_seq ?_; refine dw_seq ?_; refine dwk [(30, .v (.bool false))] TP3_ok hnt fun K hK => ?_; refine And.intro auF ?_; refine hK _ _ ?_; clear hK K; refine dw_cond (t := false) rfl ?_; rw [if_neg (by simp)]
   refine dw_skip ?_; refine dw_seq ?_; refine dwkD [(37, .ag [.sl 2 [] none, .v (.int .i64 0)]), (45, .sl 4 (eUses (l ++ [⟨t.index, v, ar ++ t.binds, p⟩])) (some 0))] TP3_ok hnt fun K hK => ?_; refine And.intro (auV) ?_; refine dcl (harr) ?_; refine dcl (hclo) ?_; refine And.intro (⟨by rw [eUses_len], by rw [eUses_len]; simp; omega⟩) ?_; refine And.intro (VLe.of_eq (by rw [eUses_append]; rfl)) ?_; refine hK _ _ (by kernel_rfl) ?_; clear hK K
   refine dw_ret ?_
   exact reta rfl ((by refine And.intro ?_ trivial; simp [get, Key.eq, eUses_len]))
 ·rw [decide_eq_false hk] at hfl
  rw [if_neg hk] at hue; refine dw_seq ?_; refine dw_seq ?_; refine dwk [] TP3_ok hnt fun K hK => ?_; refine dcl (hfl) ?_; refine hK _ _ ?_; clear hK K; refine dw_cond (t := false) rfl ?_; rw [if_neg (by simp)]; refine dw_skip ?_; refine dw_seq ?_; refine dw_seq ?_; refine dwk [(48, .v (.int .i64 (↑t.args.length)))] TP3_ok hnt fun K hK => ?_; refine And.intro (dintE (by rw [eTms_len])) ?_; refine hK _ _ ?_; clear hK K
  refine dw_block ?_
  refine dw_loop (ι := { j : Nat // (Pn.usess (t.args.take j) (ar ++ t.binds) p 0).2 = true }) (fun j => [(.t 0, .sl 4 (eUses (l ++ (Pn.usess (t.args.take j.1) (ar ++ t.binds) p 0).1)) (some 0)), (.r 0, .rw 278 4 (l ++ (Pn.usess (t.args.take j.1) (ar ++ t.binds) p 0).1).length), (.t 2, .sl 2 (eTys (ar ++ t.binds)) none), (.t 3, .sl 1 (eIs p) none), (.t 47, .sl 4 (eTms t.args) none), (.t 48, .v (.int .i64 ↑t.args.length)), (.t 49, .v (.int .i64 ↑j.1))]) 1 (fun j => t.args.length - j.1) (⟨0, rfl⟩) ((by simp only [List.take_zero, Pn.usess, List.append_nil]; exact VS.toA)) fun j => ?_
  obtain ⟨j, hj⟩ := j
  dsimp only
  by_cases hlt : j < t.args.length
  ·have hst := Pn.usess_take (ar ++ t.binds) p t.args j hlt hj
   have hmem := List.getElem_mem hlt
   have hfm := full_mem hmem
   have hdl := Pn.usess_len (ar ++ t.binds) p (t.args.take j) 0 fun t _ p => Pn.uses_len t _ p
   have hft := Tm.fulls_take t.args j hlt
   have hfj := Tm.fulls_take_le t.args (j + 1)
   obtain ⟨done, hdone⟩ : ∃ d, (Pn.usess (t.args.take j) (ar ++ t.binds) p 0).1 = d := ⟨_, rfl⟩
   have hih := ih _ hmem (ar ++ t.binds) (p ++ [(j : Int)]) (l ++ done) (by rw [Ty.sizes_append]; omega) (by simp; omega) (by rw [← hdone]; simp; omega) (fit_args hf _ hmem)
   obtain ⟨p2, hp2⟩ : ∃ q, p ++ [(j : Int)] = q := ⟨_, rfl⟩
   rw [hp2] at hst hih
   rw [hdone] at hst ⊢
   obtain ⟨r, hr⟩ : ∃ r, Pn.uses t.args[j] (ar ++ t.binds) p2 = r := ⟨_, rfl⟩
   rw [hr] at hst hih
   obtain ⟨us, ok⟩ := r
   rw [eTm_eq] at hih
   unfold usesV at hih
   dsimp only at hst hih
   refine dw_seq ?_; refine dwk [(50, .v (.bool true))] TP3_ok hnt fun K hK => ?_; refine And.intro auT ?_; refine hK _ _ ?_; clear hK K; refine dw_seq ?_; refine dw_cond (t := true) rfl ?_; rw [if_pos rfl]; refine dw_skip ?_; refine dw_seq ?_; refine dw_block ?_; refine dw_seq ?_; refine dwk [(52, .q [.sl 2 (eTys t.args[j].binds) none, .v (.int .i64 t.args[j].kind), .v (.int .i64 t.args[j].index), .sl 4 (eTms t.args[j].args) none])] TP3_ok hnt fun K hK => ?_
   refine And.intro (elo (eTms_len t.args)) ?_; refine And.intro (elv (eTms_getD t.args j) (eTm_eq _)) ?_; refine hK _ _ ?_; clear hK K; refine dw_seq ?_; refine dwk [] TP3_ok hnt fun K hK => ?_; refine hK _ _ ?_; clear hK K
   cases ok with
   | true =>
    rw [if_pos rfl] at hih; refine dw_seq ?_; refine dwkD [(62, .sl 1 (eIs p2) none)] TP3_ok hnt fun K hK => ?_; refine dcl (hcli) ?_; refine And.intro (⟨Nat.one_pos, by rw [eIs_len]; simp; omega⟩) ?_; refine And.intro ((by rw [← hp2, eIs_append]; exact VLe.untag _ _ _)) ?_; refine dcn (CallG.n (hih) _) ?_; refine hK _ _ (by kernel_rfl) ?_; clear hK K; refine dw_seq ?_; refine dwk [(67, .v (.bool false))] TP3_ok hnt fun K hK => ?_
    refine And.intro auF ?_; refine hK _ _ ?_; clear hK K; refine dw_cond (t := false) rfl ?_; rw [if_neg (by simp)]; refine dw_skip ?_; refine dwk [(69, .v (.int .i64 (↑(j + 1))))] TP3_ok hnt fun K hK => ?_; refine And.intro auI ?_; refine hK _ _ ?_; clear hK K
    have hd2 : (Pn.usess (t.args.take (j + 1)) (ar ++ t.binds) p 0).1 = done ++ us := by rw [hst]
    have hd3 : l ++ done ++ us = l ++ (Pn.usess (t.args.take (j + 1)) (ar ++ t.binds) p 0).1 := by rw [hd2, List.append_assoc]
    rw [hd3]
    refine ⟨⟨j + 1, by rw [hst]⟩, by first | omega | (dsimp only; omega), VS.toA⟩
   | false =>
    rw [if_neg (by simp)] at hih
    have hwh := Pn.usess_stop (ar ++ t.binds) p t.args (j + 1) (by rw [hst])
    rw [hue, hwh, hst]
    refine dw_seq ?_; refine dwkD [(62, .sl 1 (eIs p2) none)] TP3_ok hnt fun K hK => ?_; refine dcl (hcli) ?_; refine And.intro (⟨Nat.one_pos, by rw [eIs_len]; simp; omega⟩) ?_; refine And.intro ((by rw [← hp2, eIs_append]; exact VLe.untag _ _ _)) ?_; refine dcn (CallG.n (hih) _) ?_; refine hK _ _ (by kernel_rfl) ?_; clear hK K; refine dw_seq ?_; refine dwk [(67, .v (.bool true))] TP3_ok hnt fun K hK => ?_
    refine And.intro auT ?_; refine hK _ _ ?_; clear hK K; refine dw_cond (t := true) rfl ?_; rw [if_pos rfl]; refine dw_seq ?_; refine dwk [] TP3_ok hnt fun K hK => ?_; refine hK _ _ ?_; clear hK K; refine dw_ret ?_
    exact reta rfl ((by refine And.intro ?_ trivial; simp [get, Key.eq, List.append_assoc]))
  ·rw [List.take_of_length_le (by omega)] at hj ⊢
   rw [hue]
   unfold usesV
   rw [if_pos hj]; refine dw_seq ?_; refine dwk [(50, .v (.bool false))] TP3_ok hnt fun K hK => ?_; refine And.intro auF ?_; refine hK _ _ ?_; clear hK K; refine dw_seq ?_; refine dw_cond (t := false) rfl ?_; rw [if_neg (by simp)]; refine dw_exit ?_; refine dw_seq ?_; refine dwk [] TP3_ok hnt fun K hK => ?_; refine hK _ _ ?_; clear hK K; refine dw_ret ?_
   exact reta rfl
theorem uses_g : ∀ t : Tm, UsesC t := by
  intro t
  induction t using Tm.ind with
  | h bs k i a ih =>
    intro ar p l h1 h2 h3 hf
    refine callG_of_dw 1 71 [ResultVar.tmp 8, ResultVar.tmp 9] TP3_ok (by kernel_rfl) Try.func150 rfl Try.ntmps150 rfl (by simp) ?_ fun cx hnt hn0 => uses_body (.mk bs k i a) (fun u hu => ih u hu) ar p l h1 h2 h3 hf _ rfl cx hnt (by omega)
    unfold usesV
    split <;> simp [wordsG, rowN, rowsR, gkey, Key.eq, D.ok, D.oks, D.okss, rnames, inN, eUses_ok, eTm_ok, eTys_ok, eIs_ok]
theorem uses_nil (t : Tm) (h1 : t.full ≤ 700000) (hf : t.Fit) : PureC Try.prog 150 [.v (.slice none 0 0), .ag (eTm t), .v (.slice none 0 0), .v (.slice none 0 0)] (.tu [.sl 4 (if (Pn.uses t [] []).2 then eUses (Pn.uses t [] []).1 else []) none, .v (.int .i64 (if (Pn.uses t [] []).2 then 0 else 6))]) := by
  refine CallC.vle (args := [.v (.slice none 0 0), .ag (eTm t), .sl 2 (eTys []) none, .sl 1 (eIs []) none]) ?_ (.cons (VLe.refl _) (.cons (VLe.refl _) (.cons (VLe.nil _) (.cons (VLe.nil _) .nil)))) (VLe.refl _)
  refine call_of_dw 0 71 [ResultVar.tmp 8, ResultVar.tmp 9] TP3_ok (by kernel_rfl) Try.func150 rfl Try.ntmps150 rfl (by simp) ?_ fun cx hnt hn0 => ?_
  · split <;> simp [wordsOk, D.ok, D.oks, D.okss, rnames, inN, ckey, eUses_ok, eTm_ok, eTys_ok, eIs_ok]
  · have hb := uses_body t (fun u _ => uses_g u) [] [] [] (by simp [Ty.sizes]; omega) (by simp; omega) (by simp; omega) hf _ rfl cx hnt (by omega)
    refine DW.vs (VS.trans (VS.rowT (x := 0) (by rw [hnt]; decide) 278 4 rfl) ?_) (DW.mono hb fun e σ N' h => ⟨h.1, ?_, nofun⟩)
    · exact (VS.toK (by omega) (by repeat first | exact trivial | refine And.intro (And.intro (by first | rfl | simp [D.ok, D.oks, D.okss, D.okm, upto, keyOk, eUses]) (by first | exact Or.inl rfl | exact Or.inr ⟨_, rfl, (by repeat first | exact VLe.refl _ | exact VLe.nil _ | exact VLe.untag _ _ _ | refine VLe.ag ?_ | refine VLe.tu ?_ | refine VLeL.cons ?_ ?_ | exact VLeL.nil), trivial⟩ | simp [get, Key.eq, eUses])) ?_))
    · obtain ⟨V', q1, q2⟩ := h.2.1
      refine ⟨V', q1, q2.trans ?_⟩
      unfold usesV
      split
      · exact VLe.tu (.cons (VLe.untag _ _ _) (.cons (VLe.refl _) .nil))
      · exact VLe.tu (.cons (VLe.nil _) (.cons (VLe.refl _) .nil))
theorem is_d (t : Tm) (h1 : t.full ≤ 700000) (hf : t.Fit) : PureC Try.prog 92 [.ag (eTm t)] (.v (.bool (Pn.uses t [] []).2)) := by
 have hu := uses_nil t h1 hf
 have hU : PureC Try.prog 119 [.ag (eTm t)] (.tu [.sl 4 (if (Pn.uses t [] []).2 then eUses (Pn.uses t [] []).1 else []) none, .v (.int .i64 (if (Pn.uses t [] []).2 then 0 else 6))]) := by
  rw [eTm_eq] at hu ⊢
  refine call_of_dw 0 8 [ResultVar.tmp 2, ResultVar.tmp 3] TP3_ok (by kernel_rfl) Try.func119 rfl Try.ntmps119 rfl (by simp) ?dwords ?dbody
  case dwords => simp [wordsOk, D.ok, D.oks, D.okss, rnames, inN, ckey, eUses_ok, eTms_ok, eTys_ok, apply_ite]
  case dbody =>
   intro cx hnt hn0
   refine dw_seq ?_; refine dwk [] TP3_ok hnt fun K hK => ?_; refine hK _ _ ?_; clear hK K; refine dw_seq ?_; refine dwk [] TP3_ok hnt fun K hK => ?_; refine dcl (hu) ?_; refine hK _ _ ?_; clear hK K; refine dw_ret ?_
   exact reta rfl
 rw [eTm_eq] at hU ⊢
 cases h : (Pn.uses t [] []).2 with
 | true =>
  rw [h] at hU
  refine calldw 0 12 [ResultVar.tmp 2] TP3_ok Try.func92 rfl Try.ntmps92 rfl fun cx hnt hn0 => ?_
  ·skip
   refine dw_seq ?_; refine dwk [] TP3_ok hnt fun K hK => ?_; refine hK _ _ ?_; clear hK K; refine dw_seq ?_; refine dwk [] TP3_ok hnt fun K hK => ?_; refine dcl (hU) ?_; refine hK _ _ ?_; clear hK K; refine dw_seq ?_; refine dwk [(11, .v (.bool true))] TP3_ok hnt fun K hK => ?_; refine And.intro auT ?_; refine hK _ _ ?_; clear hK K; refine dw_ret ?_
   exact reta rfl
 | false =>
  rw [h] at hU
  refine calldw 0 12 [ResultVar.tmp 2] TP3_ok Try.func92 rfl Try.ntmps92 rfl fun cx hnt hn0 => ?_
  ·skip
   refine dw_seq ?_; refine dwk [] TP3_ok hnt fun K hK => ?_; refine hK _ _ ?_; clear hK K; refine dw_seq ?_; refine dwk [] TP3_ok hnt fun K hK => ?_; refine dcl (hU) ?_; refine hK _ _ ?_; clear hK K; refine dw_seq ?_; refine dwk [(11, .v (.bool false))] TP3_ok hnt fun K hK => ?_; refine And.intro auF ?_; refine hK _ _ ?_; clear hK K; refine dw_ret ?_
   exact reta rfl
end Go.Proofs.Ytcblpjheoclkeaa

namespace Go.Proofs.Ytcblpjheoclkeaa
open Go.RowKit
end Go.Proofs.Ytcblpjheoclkeaa

namespace Go.Proofs.Ytcblpjheoclkeaa
open Go.RowKit
def TP4_34 : TI := ⟨4, true, [Value.slice none 0 0, Value.int IntKind.i64 0, Value.int IntKind.i64 0, Value.slice none 0 0], [(0, 1, false), (1, 2, true), (3, 1, false)], none, 64, 6, none, false⟩
theorem TP4_34_ok : TypOk Try.prog 34 TP4_34 := ⟨by kernel_rfl, by kernel_rfl, by kernel_rfl, by kernel_rfl, by kernel_rfl⟩
def TP4_32 : TI := ⟨1, false, [Value.slice none 0 0], [], some 34, 24, 5, none, false⟩
theorem TP4_32_ok : TypOk Try.prog 32 TP4_32 := ⟨by kernel_rfl, by kernel_rfl, by kernel_rfl, by kernel_rfl, by kernel_rfl⟩
def TP4_30 : TI := ⟨1, false, [Value.slice none 0 0], [], some 83, 24, 5, none, false⟩
theorem TP4_30_ok : TypOk Try.prog 30 TP4_30 := ⟨by kernel_rfl, by kernel_rfl, by kernel_rfl, by kernel_rfl, by kernel_rfl⟩
def TP4_173 : TI := ⟨1, true, [Value.map none], [(0, 1, false)], none, 8, 6, none, false⟩
theorem TP4_173_ok : TypOk Try.prog 173 TP4_173 := ⟨by kernel_rfl, by kernel_rfl, by kernel_rfl, by kernel_rfl, by kernel_rfl⟩
def TP4_3 : TI := ⟨1, false, [Value.int IntKind.i64 0], [], none, 8, 2, none, false⟩
theorem TP4_3_ok : TypOk Try.prog 3 TP4_3 := ⟨by kernel_rfl, by kernel_rfl, by kernel_rfl, by kernel_rfl, by kernel_rfl⟩
def TP4_31 : TI := ⟨2, true, [Value.int IntKind.i64 0, Value.int IntKind.i64 0], [(0, 1, false), (1, 1, false)], none, 16, 6, none, true⟩
theorem TP4_31_ok : TypOk Try.prog 31 TP4_31 := ⟨by kernel_rfl, by kernel_rfl, by kernel_rfl, by kernel_rfl, by kernel_rfl⟩
def TP4_171 : TI := ⟨1, false, [Value.map none], [], none, 8, 7, some 34, false⟩
theorem TP4_171_ok : TypOk Try.prog 171 TP4_171 := ⟨by kernel_rfl, by kernel_rfl, by kernel_rfl, by kernel_rfl, by kernel_rfl⟩
def TP4_35 : TI := ⟨1, false, [Value.int IntKind.i64 0], [], none, 8, 2, none, false⟩
theorem TP4_35_ok : TypOk Try.prog 35 TP4_35 := ⟨by kernel_rfl, by kernel_rfl, by kernel_rfl, by kernel_rfl, by kernel_rfl⟩
def TP4_192 : TI := ⟨1, false, [Value.slice none 0 0], [], some 30, 24, 5, none, false⟩
theorem TP4_192_ok : TypOk Try.prog 192 TP4_192 := ⟨by kernel_rfl, by kernel_rfl, by kernel_rfl, by kernel_rfl, by kernel_rfl⟩
def TP4_43 : TI := ⟨1, false, [Value.slice none 0 0], [], some 3, 24, 5, none, false⟩
theorem TP4_43_ok : TypOk Try.prog 43 TP4_43 := ⟨by kernel_rfl, by kernel_rfl, by kernel_rfl, by kernel_rfl, by kernel_rfl⟩
def TP4_161 : TI := ⟨1, false, [Value.nilFunc], [], none, 8, 8, none, false⟩
theorem TP4_161_ok : TypOk Try.prog 161 TP4_161 := ⟨by kernel_rfl, by kernel_rfl, by kernel_rfl, by kernel_rfl, by kernel_rfl⟩
def TP4_83 : TI := ⟨2, true, [Value.slice none 0 0, Value.int IntKind.i64 0], [(0, 1, false), (1, 1, false)], none, 32, 6, none, false⟩
theorem TP4_83_ok : TypOk Try.prog 83 TP4_83 := ⟨by kernel_rfl, by kernel_rfl, by kernel_rfl, by kernel_rfl, by kernel_rfl⟩
def TP4 : List (Nat × TI) := [(34, TP4_34), (32, TP4_32), (30, TP4_30), (173, TP4_173), (3, TP4_3), (31, TP4_31), (171, TP4_171), (35, TP4_35), (192, TP4_192), (43, TP4_43), (161, TP4_161), (83, TP4_83)]
theorem TP4_ok : TabOk Try.prog TP4 := (((((((((((((TabOk.nil _).cons TP4_83_ok).cons TP4_161_ok).cons TP4_43_ok).cons TP4_192_ok).cons TP4_35_ok).cons TP4_171_ok).cons TP4_31_ok).cons TP4_3_ok).cons TP4_173_ok).cons TP4_30_ok).cons TP4_32_ok).cons TP4_34_ok)

def eBd (b : Pn.Bd) : List (Int × D) := b.map fun p => (p.1, .ag (eTm p.2))
@[simp] theorem eBd_ok (f g : Nat → Bool) (b : Pn.Bd) : D.okm f g (eBd b) = true := okm_map _ b fun p _ => by simp [D.ok, eTm_ok]
theorem eBd_find (b : Pn.Bd) (m : Int) : mfind (eBd b) m = (Pn.bfind b m).map fun t => .ag (eTm t) := by
  induction b with
  | nil => rfl
  | cons p b ih =>
    show (if m = p.1 then _ else mfind (eBd b) m) = _
    unfold Pn.bfind at ih ⊢
    rw [List.find?_cons]
    by_cases h : p.1 = m
    · simp [h]
    · have h2 : (p.1 == m) = false := by simp [h]
      rw [if_neg fun e => h e.symm, h2, ih]
theorem eBd_put (b : Pn.Bd) (m : Int) (t : Tm) (h : Pn.bfind b m = none) : mput (eBd b) m (.ag (eTm t)) = eBd (b ++ [(m, t)]) := by
  induction b with
  | nil => rfl
  | cons p b ih =>
    show (if m = p.1 then _ else _ :: mput (eBd b) m _) = _
    unfold Pn.bfind at ih h
    rw [List.find?_cons] at h
    by_cases hp : p.1 = m
    · simp [hp] at h
    · have h2 : (p.1 == m) = false := by simp [hp]
      rw [h2] at h
      rw [if_neg fun e => hp e.symm, ih h]; rfl
theorem mput_d (b : Pn.Bd) (m : Int) (t : Tm) : CallC Try.prog 146 [.mo 0, .v (.int .i64 m), .ag (eTm t)] [(.o 0, .mp (eBd b))] [(.o 0, .mp (eBd (Pn.bput b m t).2))] (.v (.bool (Pn.bput b m t).1)) := by
 have hfi := eBd_find b m
 cases h : Pn.bfind b m with
 | some u =>
  have he := equal2_d t u
  have hb : Pn.bput b m t = (decide (t = u), b) := by unfold Pn.bput; rw [h]
  rw [h] at hfi
  rw [hb]
  rw [eTm_eq, eTm_eq] at he
  rw [eTm_eq]
  dsimp only
  refine calldw 1 22 [ResultVar.tmp 6] TP4_ok Try.func146 rfl Try.ntmps146 rfl fun cx hnt hn0 => ?_
  ·skip
   refine dw_seq ?_; refine dwk [] TP4_ok hnt fun K hK => ?_; refine hK _ _ ?_; clear hK K; refine dw_seq ?_; refine dw_seq ?_; refine dwk [(12, .tu [.ag [.sl 2 (eTys u.binds) none, .v (.int .i64 u.kind), .v (.int .i64 u.index), .sl 4 (eTms u.args) none], .v (.bool true)])] TP4_ok hnt fun K hK => ?_; refine And.intro (VLe.of_eq (by unfold lookD; rw [hfi, ← eTm_eq]; rfl)) ?_; refine hK _ _ ?_; clear hK K
   refine dw_seq ?_; refine dwk [] TP4_ok hnt fun K hK => ?_; refine hK _ _ ?_; clear hK K; refine dw_cond (t := true) rfl ?_; rw [if_pos rfl]; refine dw_seq ?_; refine dwk [] TP4_ok hnt fun K hK => ?_; refine dcl (he) ?_; refine hK _ _ ?_; clear hK K; refine dw_ret ?_
   exact reta rfl
 | none =>
  have hb : Pn.bput b m t = (true, b ++ [(m, t)]) := by unfold Pn.bput; rw [h]
  have hp := eBd_put b m t h
  rw [h] at hfi
  rw [hb]
  rw [eTm_eq] at hp ⊢
  dsimp only
  refine calldw 1 22 [ResultVar.tmp 6] TP4_ok Try.func146 rfl Try.ntmps146 rfl fun cx hnt hn0 => ?_
  ·skip
   refine dw_seq ?_; refine dwk [] TP4_ok hnt fun K hK => ?_; refine hK _ _ ?_; clear hK K; refine dw_seq ?_; refine dw_seq ?_; refine dwk [(12, .tu [.ag [.v (.slice none 0 0), .v (.int .i64 0), .v (.int .i64 0), .v (.slice none 0 0)], .v (.bool false)])] TP4_ok hnt fun K hK => ?_; refine And.intro (VLe.of_eq (by unfold lookD; rw [hfi]; rfl)) ?_; refine hK _ _ ?_; clear hK K; refine dw_seq ?_; refine dwk [] TP4_ok hnt fun K hK => ?_
   refine hK _ _ ?_; clear hK K; refine dw_cond (t := false) rfl ?_; rw [if_neg (by simp)]; refine dw_skip ?_; refine dw_seq ?_; refine dwk [] TP4_ok hnt fun K hK => ?_; refine hK _ _ ?_; clear hK K
   rw [hp]
   refine dw_seq ?_; refine dwk [] TP4_ok hnt fun K hK => ?_; refine hK _ _ ?_; clear hK K; refine dw_ret ?_
   exact reta rfl
theorem mflex_d (b : Pn.Bd) (p t : Tm) (ar : List Ty) (hk : p.kind = 2) (hzp : p.full ≤ 10000) (hfp : p.Fit) (har : ar.length ≤ 10000) (ht : ∀ v, Pn.varsL (ar.length : Nat) p.args [] = some v → Ty.sizes (Pn.types ar v) + (Tm.mk [] t.kind t.index t.args).full ≤ 80000) (hlow : lowB (.mk [] t.kind t.index t.args) = true) (hft : (Tm.mk [] t.kind t.index t.args).Fit) :
  CallC Try.prog 113 [.ag [.mo 0], .ag (eTm p), .ag (eTm t), .sl 2 (eTys ar) none] [(.o 0, .mp (eBd b))] [(.o 0, .mp (eBd (Pn.flex b p t ar).2))] (.v (.bool (Pn.flex b p t ar).1)) := by
 have hva := pvars_d p (ar.length : Nat) (by omega) hfp
 have hvv : Pn.vars p (ar.length : Nat) = match Pn.varsL (ar.length : Nat) p.args [] with | some l => (l, 0) | none => ([], 6) := by unfold Pn.vars; exact if_neg (by simp [hk])
 rw [hvv] at hva
 have hpl := full_args p
 have hpa := fulls_len p.args
 unfold Pn.flex
 cases hv : Pn.varsL (ar.length : Nat) p.args [] with
 | none =>
  rw [hv] at hva
  rw [eTm_eq] at hva
  rw [eTm_eq, eTm_eq]
  dsimp only at hva ⊢
  refine calldw 1 43 [ResultVar.tmp 8] TP4_ok Try.func113 rfl Try.ntmps113 rfl fun cx hnt hn0 => ?_
  ·skip
   refine dw_seq ?_; refine dwk [] TP4_ok hnt fun K hK => ?_; refine hK _ _ ?_; clear hK K; refine dw_seq ?_; refine dwk [(15, .v (.int .i64 (↑ar.length)))] TP4_ok hnt fun K hK => ?_; refine And.intro (dintE (by rw [eTys_len])) ?_; refine dcl (hva) ?_; refine hK _ _ ?_; clear hK K; refine dw_seq ?_; refine dw_seq ?_; refine dwk [(20, .v (.bool true))] TP4_ok hnt fun K hK => ?_; refine And.intro (VLe.refl _) ?_
   refine hK _ _ ?_; clear hK K; refine dw_cond (t := true) rfl ?_; rw [if_pos rfl]; refine dw_seq ?_; refine dwk [] TP4_ok hnt fun K hK => ?_; refine hK _ _ ?_; clear hK K; refine dw_ret ?_
   exact reta rfl
 | some v =>
  have hvl := Pn.varsL_len _ _ _ _ hv
  have htk := ptake_d (.mk [] t.kind t.index t.args) ar v har (by simp at hvl; omega) (ht v hv) hlow hft
  rw [hv] at hva
  rw [eTm_eq] at hva
  obtain ⟨⟨x, e⟩, hx⟩ : ∃ x, Pn.take (.mk [] t.kind t.index t.args) ar v = x := ⟨_, rfl⟩
  have hpu := mput_d b p.index x
  dsimp only
  rw [hx] at htk ⊢
  rw [eTm_eq, eTm_eq] at htk
  rw [eTm_eq] at hpu
  rw [eTm_eq, eTm_eq]
  dsimp only [Tm.binds, Tm.kind, Tm.index, Tm.args, eTys] at hva htk hpu ⊢
  by_cases he : e = 0
  ·rw [if_pos he]
   refine calldw 1 43 [ResultVar.tmp 8] TP4_ok Try.func113 rfl Try.ntmps113 rfl fun cx hnt hn0 => ?_
   ·skip
    refine dw_seq ?_; refine dwk [] TP4_ok hnt fun K hK => ?_; refine hK _ _ ?_; clear hK K; refine dw_seq ?_; refine dwk [(15, .v (.int .i64 (↑ar.length)))] TP4_ok hnt fun K hK => ?_; refine And.intro (dintE (by rw [eTys_len])) ?_; refine dcl (hva) ?_; refine hK _ _ ?_; clear hK K; refine dw_seq ?_; refine dw_seq ?_; refine dwk [(20, .v (.bool false))] TP4_ok hnt fun K hK => ?_; refine And.intro (VLe.refl _) ?_
    refine hK _ _ ?_; clear hK K; refine dw_cond (t := false) rfl ?_; rw [if_neg (by simp)]; refine dw_skip ?_; refine dw_seq ?_; refine dwk [(26, .ag [.sl 2 [] none, .v (.int .i64 t.kind), .v (.int .i64 t.index), .sl 4 (eTms t.args) none])] TP4_ok hnt fun K hK => ?_; refine And.intro (auV) ?_; refine dcl (htk) ?_; refine hK _ _ ?_; clear hK K; refine dw_seq ?_; refine dwk [(33, .v (.bool true))] TP4_ok hnt fun K hK => ?_
    refine And.intro (VLe.of_eq (by simp [he])) ?_; refine dcl (hpu) ?_; refine hK _ _ ?_; clear hK K; refine dw_ret ?_
    exact reta rfl
  ·rw [if_neg he]
   refine calldw 1 43 [ResultVar.tmp 8] TP4_ok Try.func113 rfl Try.ntmps113 rfl fun cx hnt hn0 => ?_
   ·skip
    refine dw_seq ?_; refine dwk [] TP4_ok hnt fun K hK => ?_; refine hK _ _ ?_; clear hK K; refine dw_seq ?_; refine dwk [(15, .v (.int .i64 (↑ar.length)))] TP4_ok hnt fun K hK => ?_; refine And.intro (dintE (by rw [eTys_len])) ?_; refine dcl (hva) ?_; refine hK _ _ ?_; clear hK K; refine dw_seq ?_; refine dw_seq ?_; refine dwk [(20, .v (.bool false))] TP4_ok hnt fun K hK => ?_; refine And.intro (VLe.refl _) ?_
    refine hK _ _ ?_; clear hK K; refine dw_cond (t := false) rfl ?_; rw [if_neg (by simp)]; refine dw_skip ?_; refine dw_seq ?_; refine dwk [(26, .ag [.sl 2 [] none, .v (.int .i64 t.kind), .v (.int .i64 t.index), .sl 4 (eTms t.args) none])] TP4_ok hnt fun K hK => ?_; refine And.intro (auV) ?_; refine dcl (htk) ?_; refine hK _ _ ?_; clear hK K; refine dw_seq ?_; refine dwk [(33, .v (.bool false))] TP4_ok hnt fun K hK => ?_
    refine And.intro (VLe.of_eq (by simp [he])) ?_; refine hK _ _ ?_; clear hK K; refine dw_ret ?_
    exact reta rfl
end Go.Proofs.Ytcblpjheoclkeaa

namespace Go.Proofs.Ytcblpjheoclkeaa
open Go.RowKit

theorem VLe.ps0 (n g : Nat) : VLe (.sl n [] (some g)) (.ps g 0) := fun m Im w x h => by
  cases h with
  | sl a c bl off n X l r h1 ha hc hn ho hr hg => exact .ps a c g 0 (fun h => absurd h (by omega)) (Nat.zero_le _) (hg g rfl)
section
variable {P : Program} {T : List (Nat × TI)} {cx : Cx} {Fr Fr' : Nat → Prop} {m m' : Mp} {Im Im' : Nat → Nat → Prop} {w w' : World} {a : Act} {σ σ' τ : List (Key × D)} {N N' : Nat} {Q : Exit → List (Key × D) → Nat → Prop}
theorem VS.thaw {g E n : Nat} (h : get σ (.r g) = some (.rw E n 0)) : VS cx σ N (put1 (.r g) (.rp E n []) σ) N := fun m Im w a hs => by
  obtain ⟨R, hR, hro⟩ := hs.ro g _ h
  have e := hro.rwi
  injection e with e1 e2 e3
  obtain ⟨xs, hx⟩ := hs.mem.row g R hR
  have hxs : xs = [] := by
    have := hx.1
    rw [← e3, Nat.zero_mul] at this
    exact List.length_eq_zero_iff.1 this
  subst hxs
  refine ⟨m, hs.putro hR ?_⟩
  rw [e1, e2]
  refine .rp (R := R) [] [] (by rw [← e3]; rfl) (fun i h => absurd h (by simp)) hx (fun u h => absurd h (by simp)) (fun i h => absurd h (by simp)) fun b o hb hi => ?_
  have := hs.mem.rIm g R b o hR hb hi
  rw [← e3, Nat.zero_mul] at this
  omega
theorem VS.rowPT {x : Nat} (hx : x < cx.nt) (E n : Nat) (h : get σ (.t x) = some (.v (.slice none 0 0))) : VS cx σ N (put1 (.r N) (.rp E n []) (put1 (.t x) (.ps N 0) σ)) (N + 1) := fun m Im w a hs => by
  obtain ⟨m', h'⟩ := ((VS.rowT (N := N) hx E n h).trans (VS.thaw (g := N) (E := E) (n := n) (by rw [get_put1, if_pos (Key.eq_refl _)]))) m Im w a hs
  refine ⟨m', { h' with tm := fun y d hy => ?_, ce := fun k off d hy => ?_, ro := fun g d hy => ?_, jk := fun d hy => ?_, ok := fun k d hy => ?_ }⟩
  · rw [get_put1, if_neg (by simp [Key.eq]), get_put1] at hy
    by_cases e : Key.eq (.t x) (.t y) = true
    · rw [if_pos e] at hy
      have := Key.eq_iff.1 e; cases this
      cases hy
      exact VLe.ps0 n N _ _ _ _ (h'.tm x _ (by rw [get_put1, if_neg (by simp [Key.eq]), get_put1, if_neg (by simp [Key.eq]), get_put1, if_pos (Key.eq_refl _)]))
    · rw [if_neg e] at hy
      exact h'.tm y d (by rw [get_put1, if_neg (by simp [Key.eq]), get_put1, if_neg (by simp [Key.eq]), get_put1, if_neg e]; exact hy)
  · rw [get_put1, if_neg (by simp [Key.eq]), get_put1, if_neg (by simp [Key.eq])] at hy
    exact h'.ce k off d (by rw [get_put1, if_neg (by simp [Key.eq]), get_put1, if_neg (by simp [Key.eq]), get_put1, if_neg (by simp [Key.eq])]; exact hy)
  · refine h'.ro g d ?_
    rw [get_put1] at hy ⊢
    split
    · rename_i e; rw [if_pos e] at hy; exact hy
    · rename_i e
      rw [if_neg e, get_put1, if_neg (by simp [Key.eq])] at hy
      rw [get_put1, if_neg e, get_put1, if_neg (by simp [Key.eq])]; exact hy
  · rw [get_put1, if_neg (by simp [Key.eq]), get_put1, if_neg (by simp [Key.eq])] at hy
    exact h'.jk d (by rw [get_put1, if_neg (by simp [Key.eq]), get_put1, if_neg (by simp [Key.eq]), get_put1, if_neg (by simp [Key.eq])]; exact hy)
  · rw [get_put1, if_neg (by simp [Key.eq]), get_put1, if_neg (by simp [Key.eq])] at hy
    exact h'.ok k d (by rw [get_put1, if_neg (by simp [Key.eq]), get_put1, if_neg (by simp [Key.eq]), get_put1, if_neg (by simp [Key.eq])]; exact hy)
theorem St.freeze (h : St cx Fr m Im w a σ) {g E n : Nat} {l : List (List D)} (hg : get σ (.r g) = some (.rp E n l)) :
    ∃ Im', (∀ b o, Im b o → Im' b o) ∧ St cx Fr m Im' w a (put1 (.r g) (.rw E n l.length) σ) ∧ ∀ x, Rel m Im w x (.ps g l.length) → Rel m Im' w x (.sl n l (some g)) := by
  obtain ⟨R, hR, hro⟩ := h.ro g _ hg
  cases hro with
  | rp _ xs hl hn hown h1 hrr hni =>
  have hi : ∀ b o, Im b o → Im b o ∨ (R.hv.ownBlock = some b ∧ o < R.len * R.n) := fun _ _ h => .inl h
  have hmono : ∀ {x d}, Rel m Im w x d → Rel m (fun b o => Im b o ∨ (R.hv.ownBlock = some b ∧ o < R.len * R.n)) w x d := fun hx => hx.mono (Mp.le.refl m) (KeepI.refl _ _) hi
  have hcell : ∀ b o, R.hv.ownBlock = some b → o < R.len * R.n → ∃ v, xs[o]? = some v ∧ w.cell? ⟨b, o, none⟩ = some v := fun b o hb ho => by
    have hlt : o < xs.length := by rw [hown.1]; exact ho
    have := hown.cells hb o _ (List.getElem?_eq_getElem hlt)
    rw [addr_add0] at this
    exact ⟨_, List.getElem?_eq_getElem hlt, this⟩
  refine ⟨fun b o => Im b o ∨ (R.hv.ownBlock = some b ∧ o < R.len * R.n), hi, ?_, fun x hx => ?_⟩
  · have hs : St cx Fr m (fun b o => Im b o ∨ (R.hv.ownBlock = some b ∧ o < R.len * R.n)) w a (σ.filter fun p => !Key.eq (.r g) p.1) := by
      have hf : ∀ k d, get (σ.filter fun p => !Key.eq (.r g) p.1) k = some d → Key.eq (.r g) k = false ∧ get σ k = some d := fun k d hk => by
        rw [get_filter (fun k => !Key.eq (.r g) k)] at hk
        split at hk
        · rename_i e; exact ⟨by simpa using e, hk⟩
        · cases hk
      refine ⟨{ h.mem with im := ?_, imb := ?_, im0 := ?_, nim := ?_, rIm := ?_, onim := ?_ }, h.df, h.nt, fun x d hx => hmono (h.tm x d (hf _ _ hx).2), fun k off d hx => ?_, fun x d hx => ?_, fun d hd => ?_, fun k d hx => ?_⟩
      · rintro b o (hh | ⟨hb, ho⟩)
        · exact h.mem.im b o hh
        · obtain ⟨v, _, hv⟩ := hcell b o hb ho; exact ⟨v, hv⟩
      · rintro b o (hh | ⟨hb, ho⟩)
        · exact h.mem.imb b o hh
        · exact .inr (h.mem.rown g R b hR hb)
      · intro b o hh; exact .inl (h.mem.im0 b o hh)
      · rintro k b o hk (hh | ⟨hb, ho⟩)
        · exact h.mem.nim k b o hk hh
        · exact h.mem.rblk g R b k hR hb hk
      · rintro x R0 b o hx hb0 (hh | ⟨hb, ho⟩)
        · exact h.mem.rIm x R0 b o hx hb0 hh
        · have := h.mem.rinj x g R0 R b hx hR hb0 hb
          subst this
          rw [hR] at hx; cases hx; exact ho
      · rintro k b o hk (hh | ⟨hb, ho⟩)
        · exact h.mem.onim k b o hk hh
        · exact h.mem.orow k g R b hk hR hb
      · obtain ⟨b, v, q1, q2, q3⟩ := h.ce k off d (hf _ _ hx).2
        exact ⟨b, v, q1, q2, hmono q3⟩
      · obtain ⟨e, hx⟩ := hf _ _ hx
        obtain ⟨R0, q1, q2⟩ := h.ro x d hx
        have hne : x ≠ g := fun e2 => by subst e2; rw [Key.eq_refl] at e; cases e
        refine ⟨R0, q1, q2.mono (fun _ _ => rfl) (Mp.le.refl m) (KeepI.refl _ _) hi ?_⟩
        rintro b o hb0 (hh | ⟨hb, ho⟩)
        · exact hh
        · exact absurd (h.mem.rinj x g R0 R b q1 hR hb0 hb) hne
      · obtain ⟨X, J, e, hX⟩ := h.jk d (hf _ _ hd).2
        refine ⟨X, J, e, { hX with nim := ?_ }⟩
        rintro b o hb (hh | ⟨hb2, ho⟩)
        · exact hX.nim b o hb hh
        · exact hX.row b g R hb hR hb2
      · obtain ⟨b, q1, q2⟩ := h.ok k d (hf _ _ hx).2
        exact ⟨b, q1, q2.mono rfl (Mp.le.refl m) (KeepI.refl _ _) hi⟩
    have h2 := hs.putro hR (RoOk.rw (m := m) (Im := fun b o => Im b o ∨ (R.hv.ownBlock = some b ∧ o < R.len * R.n)) (w := w) (R := R))
    rw [hl]
    refine h2.sub fun k d hk => ?_
    rw [get_put1] at hk ⊢
    split
    · rename_i e; rw [if_pos e] at hk; exact hk
    · rename_i e; rw [if_neg e] at hk
      rw [get_filter (fun k => !Key.eq (.r g) k), if_pos (by simpa using e)]; exact hk
  · cases hx with
    | ps a0 c0 _ _ ha _ hh =>
    obtain ⟨R0, p1, p2, p3⟩ := hh
    rw [hR] at p1; cases p1
    have hv := p3 hl
    have hc : l.length ≤ maxLen ∧ l.length ≤ c0 := by
      rcases hown.2 with ⟨e, h0⟩ | ⟨g', cap, cur, e, _, _, hnc, hcm, _⟩
      · rw [hl, h0]; omega
      · rw [e] at hv; injection hv with _ _ q; rw [hl, ← q]; exact ⟨by omega, hnc⟩
    have hij : ∀ i j, i < l.length → j < R.n → i * R.n + j < R.len * R.n := fun i j hi2 hj => by
      have : (i + 1) * R.n ≤ R.len * R.n := Nat.mul_le_mul_right _ (by omega)
      rw [Nat.succ_mul] at this; omega
    have hgd : ∀ i j, i < l.length → j < R.n → xs[i * R.n + j]? = some (xs.getD (i * R.n + j) undef) := fun i j hi2 hj => by
      have : i * R.n + j < xs.length := by rw [hown.1]; exact hij i j hi2 hj
      rw [List.getD_eq_getElem?_getD, List.getElem?_eq_getElem this]; rfl
    obtain ⟨bl, hbl⟩ : ∃ bl, 0 < l.length → a0 = some ⟨bl, 0, none⟩ := by
      by_cases h0 : 0 < l.length
      · obtain ⟨b, hb⟩ := ha h0; exact ⟨b, fun _ => hb⟩
      · exact ⟨0, fun h => absurd h h0⟩
    have hob : 0 < l.length → R.hv.ownBlock = some bl := fun h0 => by rw [hv, hbl h0]; rfl
    refine .sl a0 c0 bl 0 R.n (fun i j => xs.getD (i * R.n + j) undef) l (some g) hc hbl (fun i j hi2 hj => ?_) hn (fun i j hi2 hj => ?_) (fun i hi2 j hj => ?_) fun r e => ?_
    · have h0 := hob (by omega)
      obtain ⟨v, q1, q2⟩ := hcell bl _ h0 (hij i j hi2 hj)
      rw [hgd i j hi2 hj] at q1; cases q1
      rw [Nat.zero_add]
      exact ⟨q2, .inr ⟨h0, hij i j hi2 hj⟩⟩
    · exact h1 _ (List.mem_of_getElem? (hgd i j hi2 hj))
    · exact hmono (hrr i hi2 j hj)
    · cases e; exact ⟨R, hR, by omega, fun _ => hv⟩
theorem dw_freeze {c : Code} {x g E n len : Nat} {l : List (List D)} (hx : get σ (.t x) = some (.ps g len)) (hg : get σ (.r g) = some (.rp E n l)) (hl : l.length = len) (h : DW P cx c (put1 (.t x) (.sl n l (some g)) (put1 (.r g) (.rw E n l.length) σ)) N Q) : DW P cx c σ N Q := fun m Im w a hs => by
  obtain ⟨Im', hi, h2, h3⟩ := hs.freeze hg
  subst hl
  have hr := h3 _ (hs.tm x _ hx)
  refine h m Im' w a { h2 with tm := fun y d hy => ?_, ce := fun k off d hy => ?_, ro := fun k d hy => ?_, jk := fun d hy => ?_, ok := fun k d hy => ?_ }
  · rw [get_put1] at hy
    by_cases e : Key.eq (.t x) (.t y) = true
    · rw [if_pos e] at hy
      have := Key.eq_iff.1 e; cases this
      cases hy; exact hr
    · rw [if_neg e] at hy
      exact h2.tm y d hy
  · rw [get_put1, if_neg (by simp [Key.eq])] at hy; exact h2.ce k off d hy
  · rw [get_put1, if_neg (by simp [Key.eq])] at hy; exact h2.ro k d hy
  · rw [get_put1, if_neg (by simp [Key.eq])] at hy; exact h2.jk d hy
  · rw [get_put1, if_neg (by simp [Key.eq])] at hy; exact h2.ok k d hy
theorem cut_any (m m' : Mp) : (m.cut (fun _ => false) noR).le m' := ⟨fun k b h => by simp [Mp.cut] at h, fun g R h => by simp [Mp.cut, noR] at h, fun k b h => by simp [Mp.cut] at h⟩
theorem St.adopt {cx' : Cx} {a' : Act} (hs : St cx Fr m Im w a σ) {nm : Nat} (hnm : Fr nm) (hs' : St cx' Fr' m' Im' w' a' σ') (c3 : cx'.w0 = w) (c4 : ∀ b, ¬ cx'.C b) (c5 : cx'.Im0 = Im) {g : Nat} {R : RowM} {d : D} (hR : m'.row g = some R) (hro : RoOk m' Im' w' R d) (hd : d.ok (fun _ => false) noR = true) :
    St cx (minus Fr nm) (m.setR nm R) Im' w' a (put1 (.r nm) d σ) ∧ m.le (m.setR nm R) ∧ KeepI Im w w' ∧ ∀ b o, Im b o → Im' b o := by
  have hbl : Below w.heap.size w w' := by
    have ho := hs'.mem.off
    rw [c3] at ho
    exact ⟨ho.os, ho.tape, ho.output, ho.size, fun b hb => ho.block b hb (c4 b)⟩
  have hi : ∀ b o, Im b o → Im' b o := fun b o h => hs'.mem.im0 b o (by rw [c5]; exact h)
  have hib : ∀ b o, Im' b o → Im b o ∨ w.heap.size ≤ b := fun b o h => by
    rcases hs'.mem.imb b o h with h1 | h1 | h1
    · left; rw [c5] at h1; exact h1
    · right; rw [c3] at h1; exact h1
    · exact absurd (cx'.hCR b h1) (c4 b)
  have h1 := hs.below hbl hi hib hs'.mem.im
  have hle : m.le (m.setR nm R) := Mp.setR_le fun R0 h0 => by rw [(hs.mem.fr nm hnm).2.1] at h0; cases h0
  have hnew : ∀ b, R.hv.ownBlock = some b → w.heap.size ≤ b := fun b hb => by
    rcases hs'.mem.rown g R b hR hb with h1 | h1
    · rw [c3] at h1; exact h1
    · exact absurd (cx'.hCR b h1) (c4 b)
  have hcase : ∀ {x R0}, (m.setR nm R).row x = some R0 → (x = nm ∧ R0 = R) ∨ (x ≠ nm ∧ m.row x = some R0) := fun {x R0} hx => by
    by_cases e : x = nm
    · left; simp [Mp.setR, e] at hx; exact ⟨e, hx.symm⟩
    · right; simp [Mp.setR, e] at hx; exact ⟨e, hx⟩
  have hro2 : RoOk (m.setR nm R) Im' w' R d := (hro.cut hd).mono (fun _ _ => rfl) (cut_any _ _) (KeepI.refl _ _) (fun _ _ h => h) fun _ _ _ h => h
  refine ⟨?_, hle, KeepI.below hbl, hi⟩
  refine ⟨{ h1.mem with row := ?_, rIm := ?_, rblk := ?_, rinj := ?_, fr := ?_, rown := ?_, m0r := hs.mem.m0r_le hle, orow := ?_ }, h1.df, h1.nt, fun x d hx => (h1.tm x d (by rw [get_put1, if_neg (by simp [Key.eq])] at hx; exact hx)).mono hle (KeepI.refl _ _) (fun _ _ h => h), fun x off d hx => ?_, fun x d hx => ?_, fun d hd => ?_, fun x d hd => ?_⟩
  · intro x R0 hx
    rcases hcase hx with ⟨_, rfl⟩ | ⟨_, hx⟩
    · exact hs'.mem.row g R0 hR
    · exact h1.mem.row x R0 hx
  · intro x R0 b o hx
    rcases hcase hx with ⟨_, rfl⟩ | ⟨_, hx⟩
    · exact hs'.mem.rIm g R0 b o hR
    · exact h1.mem.rIm x R0 b o hx
  · intro x R0 b k hx
    rcases hcase hx with ⟨_, rfl⟩ | ⟨_, hx⟩
    · intro e hk; have := hs.mem.lt k _ hk; have := hnew b e; omega
    · exact h1.mem.rblk x R0 b k hx
  · intro x y R0 R1 b hx hy ho ho'
    rcases hcase hx with ⟨e1, e2⟩ | ⟨_, hx⟩ <;> rcases hcase hy with ⟨e3, e4⟩ | ⟨_, hy⟩
    · rw [e1, e3]
    · rw [e2] at ho; have := hnew b ho; have := hs.mem.rlt hy ho'; omega
    · rw [e4] at ho'; have := hnew b ho'; have := hs.mem.rlt hx ho; omega
    · exact h1.mem.rinj x y R0 R1 b hx hy ho ho'
  · intro x hx; refine ⟨(hs.mem.fr x hx.1).1, ?_, (hs.mem.fr x hx.1).2.2⟩; simp [Mp.setR, hx.2, (hs.mem.fr x hx.1).2.1]
  · intro x y R0 b hx hy
    rcases hcase hy with ⟨_, rfl⟩ | ⟨_, hy⟩
    · intro e; have := hs.mem.olt x _ hx; have := hnew b e; omega
    · exact h1.mem.orow x y R0 b hx hy
  · intro x R0 b hx ho
    rcases hcase hx with ⟨_, rfl⟩ | ⟨_, hx⟩
    · exact .inl (Nat.le_trans hs.mem.off.size (hnew b ho))
    · exact h1.mem.rown x R0 b hx ho
  · rw [get_put1, if_neg (by simp [Key.eq])] at hx
    obtain ⟨c, v, q1, q2, q3⟩ := h1.ce x off d hx
    exact ⟨c, v, q1, q2, q3.mono hle (KeepI.refl _ _) (fun _ _ h => h)⟩
  · rw [get_put1] at hx
    by_cases he : Key.eq (.r nm) (.r x) = true
    · rw [if_pos he] at hx
      cases hx
      have := Key.eq_iff.1 he
      cases this
      exact ⟨R, by simp [Mp.setR], hro2⟩
    · rw [if_neg he] at hx
      obtain ⟨R0, q1, q2⟩ := h1.ro x d hx
      have hne : x ≠ nm := fun e => he (by rw [e]; exact Key.eq_refl _)
      exact ⟨R0, by simp [Mp.setR, hne, q1], q2.mono (fun _ _ => rfl) hle (KeepI.refl _ _) (fun _ _ h => h) fun _ _ _ h => h⟩
  · rw [get_put1, if_neg (by simp [Key.eq])] at hd
    obtain ⟨X, J, e, hX⟩ := h1.jk d hd
    obtain ⟨X0, J0, e0, hX0⟩ := hs.jk d hd
    rw [e] at e0; cases e0
    refine ⟨X, J, e, { hX with row := fun b x R0 hb hx ho => ?_ }⟩
    rcases hcase hx with ⟨_, rfl⟩ | ⟨_, hx⟩
    · have := hX0.lt b hb; have := hnew b ho; omega
    · exact hX.row b x R0 hb hx ho
  · rw [get_put1, if_neg (by simp [Key.eq])] at hd
    obtain ⟨b, q1, q2⟩ := h1.ok x d hd
    exact ⟨b, q1, q2.mono rfl hle (KeepI.refl _ _) fun _ _ h => h⟩
theorem callRow_of_dw {f : FuncId} {fn : Func} {c : Code} {args : List D} {n E len : Nat} {l : List (List D)} (nt : Nat) (rs : List ResultVar) (hT : TabOk P T) (hen : entersB P f = true) (hf : P.funcs[f]? = some fn) (hb : fn.body = some c) (hnt : fn.ntmps = nt) (hrs : fn.results.toList = rs)
    (hal : args.length ≤ nt) (ha : args.all (fun d => d.ok (fun _ => false) noR) = true) (hlo : D.okss (fun _ => false) noR l = true)
    (h : ∀ cx : Cx, cx.nt = nt → cx.n0 = 0 → DW P cx c (argsT 0 args []) 0 (fun e σ _ => (e = .normal ∨ e = .ret) ∧ ∃ g, resD T σ rs = some (.sl n l (some g)) ∧ get σ (.r g) = some (.rw E n len))) (nm : Nat) :
    CallN P f args [] nm [(.r nm, .rw E n len)] (.sl n l (some nm)) := by
  refine ⟨hen, fun cx Fr m Im w a σ vs hnm hs hargs _ => ?_⟩
  refine calls_of_wp hf hb ?_
  obtain ⟨cx', c1, c2, c3, c4, c5, hst⟩ := entry0 hs.mem hargs ha nt hal hnt
  refine Code.wp_mono (fun e a' w' ⟨σ', N', m', Im', ⟨hq1, g, hq2, hq3⟩, hs'⟩ => ?_) (h cx' c1 c2 _ Im w _ hst)
  obtain ⟨v, r1, r2⟩ := resD_run (P := P) (fn := fn) hT hs' (by rw [hrs]; exact hq2)
  obtain ⟨R, hR, hro⟩ := hs'.ro g _ hq3
  obtain ⟨s1, s2, s3, s4⟩ := hs.adopt hnm hs' c3 c4 c5 hR hro rfl
  have hv : Rel (m.setR nm R) Im' w' v (.sl n l (some nm)) := by
    cases r2 with
    | sl a0 c0 bl off n X l r h1 ha hc hn ho hr hg =>
      refine .sl a0 c0 bl off n X l (some nm) h1 ha hc hn ho (fun i hi j hj => ((hr i hi j hj).cut (D.oks_get (D.okss_get hlo i hi) j hj)).mono (cut_any _ _) (KeepI.refl _ _) fun _ _ h => h) fun r e => ?_
      cases e
      obtain ⟨R0, q1, q2, q3⟩ := hg g rfl
      rw [hR] at q1; cases q1
      exact ⟨R, by simp [Mp.setR], q2, q3⟩
  have hfin : ∃ v' m2 Im2, Ending.returned v = .returned v' ∧ St cx (minus Fr nm) m2 Im2 w' a (puts (dropT [] σ) [(.r nm, .rw E n len)]) ∧ Rel m2 Im2 w' v' (.sl n l (some nm)) := by
    rw [dropT_nil]
    exact ⟨v, _, Im', rfl, s1, hv⟩
  rcases hq1 with rfl | rfl
  · exact ⟨hs'.df, v, r1, hfin⟩
  · exact ⟨hs'.df, v, r1, hfin⟩
theorem VS.rowAs {x k g E n len : Nat} {l : List (List D)} (τ : List (Key × D)) (h0 : cx.n0 = 0) (hx : get σ (.t x) = some (.sl n l (some k))) (hk : get σ (.r k) = some (.rw E n len)) (hgN : g < N') (hl : D.okss (upto N') noR l = true)
    (hτ : τ.all (fun p => p.2.ok (upto N') noR && (match p.1 with | .t _ => true | .c j _ => upto N' j | .o j => upto N' j | _ => false)) = true) (hs : ∀ p ∈ τ, get σ p.1 = some p.2 ∨ ∃ d, get σ p.1 = some d ∧ VLe d p.2 ∧ (match p.1 with | .o _ => False | _ => True)) :
    VS cx σ N (put1 (.t x) (.sl n l (some g)) (put1 (.r g) (.rw E n len) τ)) N' := fun m Im w a h => by
  obtain ⟨R, hR, hro⟩ := h.ro k _ hk
  have hmc := h.mem.cutN (N := N') (by omega)
  let m' : Mp := ⟨(m.cut (upto N') (upto N')).blk, fun r => if r = g then m.row k else none, (m.cut (upto N') (upto N')).obj⟩
  have hrow : ∀ {r R0}, m'.row r = some R0 → r = g ∧ R0 = R := fun {r R0} hr => by
    by_cases e : r = g
    · simp only [m', e, if_true] at hr; rw [hR] at hr; cases hr; exact ⟨e, rfl⟩
    · simp [m', e] at hr
  have hm0 : ∀ r R0, cx.m0.row r ≠ some R0 := fun r R0 hr => by have := cx.h0r r R0 hr; omega
  have hle : (m.cut (upto N') noR).le m' := ⟨fun j b hj => by simpa [Mp.cut, m'] using hj, fun r R0 hr => by simp [Mp.cut, noR] at hr, fun j b hj => by simpa [Mp.cut, m'] using hj⟩
  have hrel : ∀ {y d}, Rel m Im w y d → d.ok (upto N') noR = true → Rel m' Im w y d := fun hy hd => (hy.cut hd).mono hle (KeepI.refl _ _) fun _ _ h => h
  have hmem : MemOk cx (fun j => N' ≤ j) m' Im w := { hmc with
    row := fun r R0 hr => by obtain ⟨rfl, rfl⟩ := hrow hr; exact h.mem.row k R0 hR
    rIm := fun r R0 b o hr => by obtain ⟨rfl, rfl⟩ := hrow hr; exact h.mem.rIm k R0 b o hR
    rblk := fun r R0 b j hr hb hj => by obtain ⟨rfl, rfl⟩ := hrow hr; exact h.mem.rblk k R0 b j hR hb (Mp.cut_blk (g := upto N') hj).2
    rinj := fun r r' R0 R1 b hr hr' _ _ => by rw [(hrow hr).1, (hrow hr').1]
    fr := fun j hj => ⟨(hmc.fr j hj).1, by have : j ≠ g := fun e => by subst e; exact Nat.lt_irrefl _ (Nat.lt_of_lt_of_le hgN hj)
                                           simp [m', this], (hmc.fr j hj).2.2⟩
    orow := fun j r R0 b hj hr => by obtain ⟨rfl, rfl⟩ := hrow hr; exact h.mem.orow j k R0 b (Mp.cut_obj (g := upto N') hj).2 hR
    rown := fun r R0 b hr => by obtain ⟨rfl, rfl⟩ := hrow hr; exact h.mem.rown k R0 b hR
    m0r := fun r R0 hr => absurd hr (hm0 r R0) }
  have hok : ∀ {key d'}, get τ key = some d' → d'.ok (upto N') noR = true ∧ (match key with | .t _ => true | .c j _ => upto N' j | .o j => upto N' j | _ => false) = true ∧ (get σ key = some d' ∨ ∃ d, get σ key = some d ∧ VLe d d' ∧ (match key with | .o _ => False | _ => True)) := fun {key d'} hg => by
    have hm := mem_of_get hg
    have := List.all_eq_true.1 hτ _ hm
    simp only [Bool.and_eq_true] at this
    exact ⟨this.1, this.2, hs _ hm⟩
  refine ⟨m', hmem, h.df, h.nt, fun y d' hy => ?_, fun j off d' hy => ?_, fun r d' hy => ?_, fun d' hy => ?_, fun j d' hy => ?_⟩
  · rw [get_put1] at hy
    by_cases e : Key.eq (.t x) (.t y) = true
    · rw [if_pos e] at hy
      have := Key.eq_iff.1 e; cases this
      cases hy
      have hp := h.tm x _ hx
      generalize a.tmps.getD x undef = xv at hp ⊢
      cases hp with
      | sl a0 c0 bl off n X l r h1 ha hc hn ho hr hg =>
        refine .sl a0 c0 bl off n X l (some g) h1 ha hc hn ho (fun i hi j hj => hrel (hr i hi j hj) (D.oks_get (D.okss_get hl i hi) j hj)) fun r e => ?_
        cases e
        obtain ⟨R0, q1, q2, q3⟩ := hg k rfl
        exact ⟨R0, by simp only [m', if_true]; exact q1, q2, q3⟩
    · rw [if_neg e, get_put1, if_neg (by simp [Key.eq])] at hy
      obtain ⟨q1, _, q3⟩ := hok hy
      refine hrel ?_ q1
      rcases q3 with q3 | ⟨d, q3, e2, _⟩
      · exact h.tm y d' q3
      · exact e2 _ _ _ _ (h.tm y d q3)
  · rw [get_put1, if_neg (by simp [Key.eq]), get_put1, if_neg (by simp [Key.eq])] at hy
    obtain ⟨q1, q2, q3⟩ := hok hy
    have hj : upto N' j = true := q2
    rcases q3 with q3 | ⟨d, q3, e2, _⟩
    · obtain ⟨b, v, p1, p2, p3⟩ := h.ce j off d' q3
      exact ⟨b, v, by simp only [m', Mp.cut, hj, if_true]; exact p1, p2, hrel p3 q1⟩
    · obtain ⟨b, v, p1, p2, p3⟩ := h.ce j off d q3
      exact ⟨b, v, by simp only [m', Mp.cut, hj, if_true]; exact p1, p2, hrel (e2 _ _ _ _ p3) q1⟩
  · rw [get_put1, if_neg (by simp [Key.eq]), get_put1] at hy
    by_cases e : Key.eq (.r g) (.r r) = true
    · rw [if_pos e] at hy
      have := Key.eq_iff.1 e; cases this
      cases hy
      refine ⟨R, by simp only [m', if_true]; exact hR, ?_⟩
      rw [hro.rwi]; exact .rw
    · rw [if_neg e] at hy
      obtain ⟨_, q2, _⟩ := hok hy
      cases q2
  · rw [get_put1, if_neg (by simp [Key.eq]), get_put1, if_neg (by simp [Key.eq])] at hy
    obtain ⟨_, q2, _⟩ := hok hy
    cases q2
  · rw [get_put1, if_neg (by simp [Key.eq]), get_put1, if_neg (by simp [Key.eq])] at hy
    obtain ⟨q1, q2, q3⟩ := hok hy
    have hj : upto N' j = true := q2
    rcases q3 with q3 | ⟨d, q3, e2, hf⟩
    · obtain ⟨b, p1, p2⟩ := h.ok j d' q3
      exact ⟨b, by simp only [m', Mp.cut, hj, if_true]; exact p1, (p2.cut q1).mono rfl hle (KeepI.refl _ _) fun _ _ h => h⟩
    · exact hf.elim
end
end Go.Proofs.Ytcblpjheoclkeaa

namespace Go.Proofs.Ytcblpjheoclkeaa
open Go.RowKit
namespace So
variable {α : Type} {l l' r r' : List (Int × α)}
def Srt (l : List (Int × α)) : Prop := l.Pairwise fun a b => a.1 ≤ b.1
def Same (l l' : List (Int × α)) : Prop := ∀ k : Int, l.filter (fun a => a.1 == k) = l'.filter (fun a => a.1 == k)
theorem Same.refl (l : List (Int × α)) : Same l l := fun _ => rfl
theorem Same.symm (h : Same l l') : Same l' l := fun k => (h k).symm
theorem Same.trans {l'' : List (Int × α)} (h : Same l l') (h' : Same l' l'') : Same l l'' := fun k => (h k).trans (h' k)
theorem Same.app (h : Same l l') (h' : Same r r') : Same (l ++ r) (l' ++ r') := fun k => by rw [List.filter_append, List.filter_append, h k, h' k]
theorem Same.mem (h : Same l l') {x : Int × α} (hx : x ∈ l) : x ∈ l' := by
  have : x ∈ l.filter (fun a => a.1 == x.1) := List.mem_filter.2 ⟨hx, by simp⟩
  rw [h x.1] at this
  exact (List.mem_filter.1 this).1
theorem Same.swap (h : ∀ x ∈ l, ∀ y ∈ r, x.1 ≠ y.1) : Same (l ++ r) (r ++ l) := fun k => by
  rw [List.filter_append, List.filter_append]
  by_cases hl : l.filter (fun a => a.1 == k) = []
  · rw [hl]; simp
  · have hr : r.filter (fun a => a.1 == k) = [] := by
      rw [List.filter_eq_nil_iff]
      intro y hy e
      obtain ⟨x, hx⟩ := List.exists_mem_of_ne_nil _ hl
      have hx := List.mem_filter.1 hx
      exact h x hx.1 y hy (by have e1 := hx.2; simp at e1 e; omega)
    rw [hr]; simp
theorem srt_app : Srt (l ++ r) ↔ Srt l ∧ Srt r ∧ ∀ a ∈ l, ∀ b ∈ r, a.1 ≤ b.1 := List.pairwise_append
theorem srt_nil : Srt ([] : List (Int × α)) := List.Pairwise.nil
theorem srt_one (x : Int × α) : Srt [x] := List.pairwise_singleton _ _
theorem uniq : ∀ {l l' : List (Int × α)}, Srt l → Srt l' → Same l l' → l = l'
  | [], [], _, _, _ => rfl
  | [], y :: s, _, _, h => by have := h.symm.mem (x := y) (by simp); cases this
  | x :: t, [], _, _, h => by have := h.mem (x := x) (by simp); cases this
  | x :: t, y :: s, h1, h2, h => by
    have a1 := List.pairwise_cons.1 h1
    have a2 := List.pairwise_cons.1 h2
    have e1 : x.1 ≤ y.1 := by
      rcases List.mem_cons.1 (h.symm.mem (x := y) (by simp)) with e | e
      · rw [e]; exact Int.le_refl _
      · exact a1.1 y e
    have e2 : y.1 ≤ x.1 := by
      rcases List.mem_cons.1 (h.mem (x := x) (by simp)) with e | e
      · rw [e]; exact Int.le_refl _
      · exact a2.1 x e
    have e3 : y.1 = x.1 := by omega
    have hx := h x.1
    rw [List.filter_cons, List.filter_cons, if_pos (by simp), if_pos (by simp [e3])] at hx
    injection hx with q1 q2
    subst q1
    rw [uniq a1.2 a2.2 fun k => by
      have hk := h k
      rw [List.filter_cons, List.filter_cons] at hk
      split at hk
      · injection hk
      · exact hk]
def ins (x : Int × α) : List (Int × α) → List (Int × α)
  | [] => [x]
  | y :: l => if y.1 ≤ x.1 then y :: ins x l else x :: y :: l
def ssr : List (Int × α) → List (Int × α)
  | [] => []
  | x :: l => ins x (ssr l)
def ss (l : List (Int × α)) : List (Int × α) := ssr l.reverse
theorem ins_mem {x y : Int × α} : ∀ {l : List (Int × α)}, y ∈ ins x l ↔ y = x ∨ y ∈ l
  | [] => by simp [ins]
  | z :: l => by
    rw [ins]
    split
    · simp only [List.mem_cons, ins_mem (l := l)]
      constructor
      · rintro (h | h | h)
        · exact .inr (.inl h)
        · exact .inl h
        · exact .inr (.inr h)
      · rintro (h | h | h)
        · exact .inr (.inl h)
        · exact .inl h
        · exact .inr (.inr h)
    · simp only [List.mem_cons]
theorem ins_len (x : Int × α) : ∀ l : List (Int × α), (ins x l).length = l.length + 1
  | [] => rfl
  | z :: l => by rw [ins]; split <;> simp [ins_len x l]
theorem ins_srt (x : Int × α) : ∀ {l : List (Int × α)}, Srt l → Srt (ins x l)
  | [], _ => srt_one x
  | z :: l, h => by
    have a := List.pairwise_cons.1 h
    rw [ins]
    split
    · rename_i hz
      refine List.pairwise_cons.2 ⟨fun y hy => ?_, ins_srt x a.2⟩
      rcases ins_mem.1 hy with rfl | hy
      · exact hz
      · exact a.1 y hy
    · rename_i hz
      refine List.pairwise_cons.2 ⟨fun y hy => ?_, h⟩
      rcases List.mem_cons.1 hy with rfl | hy
      · omega
      · have := a.1 y hy; omega
theorem ins_same (x : Int × α) : ∀ {l : List (Int × α)}, Srt l → Same (ins x l) (l ++ [x])
  | [], _ => Same.refl _
  | z :: l, h => by
    have a := List.pairwise_cons.1 h
    rw [ins]
    split
    · exact Same.app (l := [z]) (l' := [z]) (Same.refl _) (ins_same x a.2)
    · rename_i hz
      refine Same.swap (l := [x]) (r := z :: l) fun u hu y hy => ?_
      rw [List.mem_singleton] at hu
      subst hu
      rcases List.mem_cons.1 hy with rfl | hy
      · omega
      · have := a.1 y hy; omega
theorem ssr_srt : ∀ l : List (Int × α), Srt (ssr l)
  | [] => srt_nil
  | x :: l => ins_srt x (ssr_srt l)
theorem ssr_same : ∀ l : List (Int × α), Same (ssr l) l.reverse
  | [] => Same.refl _
  | x :: l => by
    rw [ssr, List.reverse_cons]
    exact (ins_same x (ssr_srt l)).trans ((ssr_same l).app (Same.refl _))
theorem ssr_len : ∀ l : List (Int × α), (ssr l).length = l.length
  | [] => rfl
  | x :: l => by rw [ssr, ins_len, ssr_len l]; rfl
theorem ss_srt (l : List (Int × α)) : Srt (ss l) := ssr_srt _
theorem ss_same (l : List (Int × α)) : Same (ss l) l := by
  have := ssr_same l.reverse
  rwa [List.reverse_reverse] at this
theorem ss_len (l : List (Int × α)) : (ss l).length = l.length := by rw [ss, ssr_len, List.length_reverse]
theorem ss_eq (h : Srt l') (h2 : Same l' l) : ss l = l' := uniq (ss_srt l) h ((ss_same l).trans h2.symm)
theorem ss_self (h : Srt l) : ss l = l := ss_eq h (Same.refl _)
theorem ss_cong (h : Same l l') : ss l = ss l' := ss_eq (ss_srt l') ((ss_same l').trans h.symm)
theorem ss_nil : ss ([] : List (Int × α)) = [] := rfl
theorem ss_one (x : Int × α) : ss [x] = [x] := ss_self (srt_one x)
theorem ss_snoc {X S1 S2 : List (Int × α)} {x : Int × α} (h : S1 ++ S2 = ss X) (h1 : ∀ s ∈ S1, s.1 ≤ x.1) (h2 : ∀ s ∈ S2, x.1 < s.1) : ss (X ++ [x]) = S1 ++ x :: S2 := by
  have hs := ss_srt X
  rw [← h] at hs
  have a := srt_app.1 hs
  refine ss_eq (srt_app.2 ⟨a.1, List.pairwise_cons.2 ⟨fun s hs => Int.le_of_lt (h2 s hs), a.2.1⟩, fun s hs y hy => ?_⟩) ?_
  · rcases List.mem_cons.1 hy with rfl | hy
    · exact h1 s hs
    · exact a.2.2 s hs y hy
  · refine Same.trans (l' := (S1 ++ S2) ++ [x]) ?_ ?_
    · rw [List.append_assoc]
      refine (Same.refl S1).app (Same.swap (l := [x]) (r := S2) fun u hu y hy => ?_)
      rw [List.mem_singleton] at hu
      subst hu
      have := h2 y hy; omega
    · rw [h]; exact (ss_same X).app (Same.refl _)
theorem ss_cut {X1 X2 Y1 Y2 : List (Int × α)} (hX : Srt (X1 ++ X2)) (hY : Srt (Y1 ++ Y2)) (h1 : ∀ x ∈ X1, ∀ y ∈ Y2, x.1 ≤ y.1) (h2 : ∀ y ∈ Y1, ∀ x ∈ X2, y.1 < x.1) : ss (X1 ++ X2 ++ (Y1 ++ Y2)) = ss (X1 ++ Y1) ++ ss (X2 ++ Y2) := by
  have a := srt_app.1 hX
  have b := srt_app.1 hY
  refine ss_eq (srt_app.2 ⟨ss_srt _, ss_srt _, fun x hx y hy => ?_⟩) ?_
  · rcases List.mem_append.1 ((ss_same _).mem hx) with hx | hx <;> rcases List.mem_append.1 ((ss_same _).mem hy) with hy | hy
    · exact a.2.2 x hx y hy
    · exact h1 x hx y hy
    · exact Int.le_of_lt (h2 x hx y hy)
    · exact b.2.2 x hx y hy
  · refine ((ss_same _).app (ss_same _)).trans ?_
    rw [List.append_assoc, List.append_assoc]
    refine (Same.refl X1).app ?_
    rw [← List.append_assoc, ← List.append_assoc]
    refine Same.app ?_ (Same.refl Y2)
    exact Same.swap fun y hy x hx => by have := h2 y hy x hx; omega
inductive Ch (s : Nat) : List (Int × α) → Prop where
  | last (l : List (Int × α)) (h : l.length ≤ s) (hs : Srt l) : Ch s l
  | cons (c l : List (Int × α)) (hc : c.length = s) (hs : Srt c) (h : Ch s l) : Ch s (c ++ l)
inductive Fu (s : Nat) : List (Int × α) → Prop where
  | nil : Fu s []
  | cons (c l : List (Int × α)) (hc : c.length = s) (hs : Srt c) (h : Fu s l) : Fu s (c ++ l)
theorem Fu.snoc {s : Nat} {P c : List (Int × α)} (h : Fu s P) (hc : c.length = s) (hs : Srt c) : Fu s (P ++ c) := by
  induction h with
  | nil => have := Fu.cons c [] hc hs .nil; simpa using this
  | cons d l hd hsd h ih => rw [List.append_assoc]; exact .cons d _ hd hsd ih
theorem Fu.ch {s : Nat} {P Q : List (Int × α)} (h : Fu s P) (hQ : Ch s Q) : Ch s (P ++ Q) := by
  induction h with
  | nil => exact hQ
  | cons d l hd hsd h ih => rw [List.append_assoc]; exact .cons d _ hd hsd ih
theorem Ch.more {s : Nat} {Q : List (Int × α)} (h : Ch s Q) (hl : s < Q.length) : ∃ c l, Q = c ++ l ∧ c.length = s ∧ Srt c ∧ Ch s l := by
  cases h with
  | last l h hs => omega
  | cons c l hc hs h => exact ⟨c, l, rfl, hc, hs, h⟩
theorem Ch.one {s : Nat} {Q : List (Int × α)} (h : Ch s Q) (hl : Q.length ≤ s) (hs : 0 < s) : Srt Q := by
  cases h with
  | last l h hs => exact hs
  | cons c l hc hsc h =>
    have : l = [] := List.length_eq_zero_iff.1 (by simp at hl; omega)
    subst this; simpa using hsc
end So
end Go.Proofs.Ytcblpjheoclkeaa

namespace Go.Proofs.Ytcblpjheoclkeaa
open Go.RowKit

theorem binds_mk' (b : List Ty) (k i : Int) (a : List Tm) : (Tm.mk b k i a).binds = b := rfl
theorem kind_mk' (b : List Ty) (k i : Int) (a : List Tm) : (Tm.mk b k i a).kind = k := rfl
theorem index_mk' (b : List Ty) (k i : Int) (a : List Tm) : (Tm.mk b k i a).index = i := rfl
theorem args_mkT (b : List Ty) (k i : Int) (a : List Tm) : (Tm.mk b k i a).args = a := rfl
namespace Pn
abbrev Spot := Tm × List Ty × List Int
mutual
def subs : Tm → List Ty → List Int → List Spot
  | .mk bs k i a, ar, p => (.mk bs k i a, ar ++ bs, p) :: subss a (ar ++ bs) p 0
def subss : List Tm → List Ty → List Int → Nat → List Spot
  | [], _, _, _ => []
  | t :: l, ar, p, j => subs t ar (p ++ [(j : Int)]) ++ subss l ar p (j + 1)
end
theorem subs_eq (bs : List Ty) (k i : Int) (a : List Tm) (ar : List Ty) (p : List Int) : subs (.mk bs k i a) ar p = (.mk bs k i a, ar ++ bs, p) :: subss a (ar ++ bs) p 0 := by rw [subs]
def useL : List Spot → List Use × Bool
  | [] => ([], true)
  | s :: l => if s.1.kind = 2 then (match varsL (s.2.1.length : Nat) s.1.args [] with | some v => (⟨s.1.index, v, s.2.1, s.2.2⟩ :: (useL l).1, (useL l).2) | none => ([], false)) else useL l
theorem useL_other {s : Spot} (l : List Spot) (h : s.1.kind ≠ 2) : useL (s :: l) = useL l := by rw [useL]; exact if_neg h
theorem useL_use {s : Spot} (l : List Spot) (h : s.1.kind = 2) {v : List Int} (hv : varsL (s.2.1.length : Nat) s.1.args [] = some v) : useL (s :: l) = (⟨s.1.index, v, s.2.1, s.2.2⟩ :: (useL l).1, (useL l).2) := by
  rw [useL]; refine (if_pos h).trans ?_; rw [hv]
theorem useL_bad {s : Spot} (l : List Spot) (h : s.1.kind = 2) (hv : varsL (s.2.1.length : Nat) s.1.args [] = none) : useL (s :: l) = ([], false) := by
  rw [useL]; refine (if_pos h).trans ?_; rw [hv]
theorem useL_app (l r : List Spot) : useL (l ++ r) = if (useL l).2 then ((useL l).1 ++ (useL r).1, (useL r).2) else useL l := by
  induction l with
  | nil => simp [useL]
  | cons s l ih =>
    simp only [List.cons_append]
    by_cases hk : s.1.kind = 2
    · cases hv : varsL (s.2.1.length : Nat) s.1.args [] with
      | none => rw [useL_bad _ hk hv, useL_bad _ hk hv]; simp
      | some v =>
        rw [useL_use _ hk hv, useL_use _ hk hv, ih]
        by_cases h : (useL l).2 = true
        · simp [h]
        · simp [h]
    · rw [useL_other _ hk, useL_other _ hk, ih]
theorem useL_none {l : List Spot} (h : ∀ s ∈ l, s.1.kind ≠ 2) : useL l = ([], true) := by
  induction l with
  | nil => rfl
  | cons s l ih => rw [useL_other _ (h s (by simp)), ih fun x hx => h x (by simp [hx])]
theorem etas_kind {n : Nat} : ∀ (l : List Ty) (_ : Ty.sizes l ≤ n), ∀ u ∈ Ty.etas l, ∀ ar p, ∀ s ∈ subs u ar p, s.1.kind = 0 := by
  induction n with
  | zero =>
    intro l hl u hu
    cases l with
    | nil => simp [Ty.etas] at hu
    | cons t l => have : 0 < t.size := Ty.size_pos t; simp [Ty.sizes] at hl; omega
  | succ n ih =>
    intro l
    induction l with
    | nil => intro _ u hu; simp [Ty.etas] at hu
    | cons t l ihl =>
      intro hl u hu ar p s hs
      obtain ⟨a, b⟩ := t
      have hsz : (Ty.mk a b).size = Ty.sizes a + 1 := by simp [Ty.size]
      simp only [Ty.sizes, hsz] at hl
      rw [Ty.etas] at hu
      rcases List.mem_cons.1 hu with rfl | hu
      · rw [Ty.eta_eq, subs_eq] at hs
        rcases List.mem_cons.1 hs with rfl | hs
        · rfl
        · have key : ∀ (m : List Tm) (j : Nat), (∀ u ∈ m, u ∈ Ty.etas a) → ∀ s ∈ subss m (ar ++ a) p j, s.1.kind = 0 := by
            intro m
            induction m with
            | nil => intro j _ s hs; simp [subss] at hs
            | cons x m ihm =>
              intro j hm s hs
              rw [subss] at hs
              rcases List.mem_append.1 hs with hs | hs
              · exact ih a (by omega) x (hm x (by simp)) _ _ s hs
              · exact ihm (j + 1) (fun u hu => hm u (by simp [hu])) s hs
          exact key _ 0 (fun u hu => hu) s hs
      · exact ihl (by omega) u hu ar p s hs
theorem varsL_mem (n : Int) : ∀ (l : List Tm) (acc r : List Int), varsL n l acc = some r → ∀ x ∈ l, longB x = true ∧ x.kind = 0
  | [], _, _, _, x, hx => by cases hx
  | b :: l, acc, r, h, x, hx => by
    rw [varsL] at h
    split at h
    · rename_i hv
      rcases List.mem_cons.1 hx with rfl | hx
      · unfold isVar at hv
        simp only [Bool.and_eq_true, decide_eq_true_eq] at hv
        exact ⟨hv.1, hv.2.1⟩
      · exact varsL_mem n l _ _ h x hx
    · cases h
theorem long_kind {u : Tm} (h : longB u = true) (hk : u.kind = 0) (ar : List Ty) (p : List Int) : ∀ s ∈ subs u ar p, s.1.kind = 0 := by
  obtain ⟨b, k, i, a⟩ := u
  have ha : a = Ty.etas b := ((longB_iff _).1 h).1
  intro s hs
  rw [subs_eq] at hs
  rcases List.mem_cons.1 hs with rfl | hs
  · exact hk
  · have key : ∀ (m : List Tm) (j : Nat), (∀ u ∈ m, u ∈ Ty.etas b) → ∀ s ∈ subss m (ar ++ b) p j, s.1.kind = 0 := by
      intro m
      induction m with
      | nil => intro j _ s hs; simp [subss] at hs
      | cons x m ihm =>
        intro j hm s hs
        rw [subss] at hs
        rcases List.mem_append.1 hs with hs | hs
        · exact etas_kind b (Nat.le_refl _) x (hm x (by simp)) _ _ s hs
        · exact ihm (j + 1) (fun u hu => hm u (by simp [hu])) s hs
    exact key a 0 (fun u hu => ha ▸ hu) s hs
theorem subss_all {q : Spot → Prop} (ar : List Ty) (p : List Int) : ∀ (a : List Tm) (j : Nat), (∀ u ∈ a, ∀ p, ∀ s ∈ subs u ar p, q s) → ∀ s ∈ subss a ar p j, q s
  | [], _, _, s, hs => by simp [subss] at hs
  | x :: a, j, h, s, hs => by
    rw [subss] at hs
    rcases List.mem_append.1 hs with hs | hs
    · exact h x (by simp) _ s hs
    · exact subss_all ar p a (j + 1) (fun u hu => h u (by simp [hu])) s hs
theorem useL_subss (ar : List Ty) (p : List Int) : ∀ (a : List Tm) (j : Nat), (∀ t ∈ a, ∀ p, useL (subs t ar p) = uses t ar p) → useL (subss a ar p j) = usess a ar p j
  | [], _, _ => by simp [subss, useL, usess]
  | t :: a, j, h => by
    rw [subss, useL_app, h t (by simp), usess, useL_subss ar p a (j + 1) fun u hu => h u (by simp [hu])]
    split
    · rfl
    · rename_i hx
      have : (uses t ar (p ++ [(j : Int)])).2 = false := by simpa using hx
      rw [← this]
theorem useL_subs (t : Tm) : ∀ (ar : List Ty) (p : List Int), useL (subs t ar p) = uses t ar p := by
  induction t using Tm.ind with
  | h bs k i a ih =>
    intro ar p
    rw [subs_eq, uses_eq]
    by_cases hk : k = 2
    · rw [if_pos hk]
      cases hv : varsL ((ar ++ bs).length : Nat) a [] with
      | none => exact useL_bad (s := (.mk bs k i a, ar ++ bs, p)) _ hk hv
      | some v =>
        have hm := varsL_mem _ _ _ _ hv
        have : useL (subss a (ar ++ bs) p 0) = ([], true) := useL_none (subss_all _ _ a 0 fun u hu p s hs => by
          rw [long_kind (hm u hu).1 (hm u hu).2 _ _ s hs]; decide)
        refine (useL_use (s := (.mk bs k i a, ar ++ bs, p)) _ hk hv).trans ?_
        rw [this]; rfl
    · rw [if_neg hk]
      exact (useL_other (s := (.mk bs k i a, ar ++ bs, p)) _ hk).trans (useL_subss _ _ a 0 fun t ht p => ih t ht _ p)

def atP : List Int → Tm → Option (Tm × List Ty)
  | [], t => some (t, t.binds)
  | j :: p, t => if 0 ≤ j ∧ j < (t.args.length : Int) then (atP p (t.args.getD j.toNat Tm.zero)).map fun r => (r.1, t.binds ++ r.2) else none
theorem atP_app : ∀ (p q : List Int) (T : Tm), atP (p ++ q) T = (atP p T).bind fun r => (atP q r.1).map fun r' => (r'.1, r.2 ++ r'.2.drop r.1.binds.length)
  | [], q, T => by
    rw [List.nil_append, atP]
    show _ = (atP q T).map _
    cases h : atP q T with
    | none => rfl
    | some r =>
      obtain ⟨x, l⟩ := r
      have : ∃ l', l = T.binds ++ l' := by
        cases q with
        | nil => rw [atP] at h; cases h; exact ⟨[], by simp⟩
        | cons j q =>
          rw [atP] at h
          split at h
          · cases h2 : atP q (T.args.getD j.toNat Tm.zero) with
            | none => rw [h2] at h; cases h
            | some r => rw [h2] at h; cases h; exact ⟨_, rfl⟩
          · cases h
      obtain ⟨l', rfl⟩ := this
      simp
  | j :: p, q, T => by
    rw [List.cons_append, atP, atP]
    split
    · rw [atP_app p q]
      cases h : atP p (T.args.getD j.toNat Tm.zero) with
      | none => rfl
      | some r =>
        show ((atP q r.1).map _).map _ = (atP q r.1).map _
        cases h2 : atP q r.1 with
        | none => rfl
        | some r' => simp
    · rfl
theorem atP_snoc {p : List Int} {T x : Tm} {l : List Ty} (h : atP p T = some (x, l)) {j : Nat} (hj : j < x.args.length) : atP (p ++ [(j : Int)]) T = some (x.args[j], l ++ x.args[j].binds) := by
  rw [atP_app, h]
  show (atP [(j : Int)] x).map _ = _
  rw [atP, if_pos (by omega), atP]
  simp [List.getD_eq_getElem?_getD, List.getElem?_eq_getElem hj]
theorem subss_mem {s : Spot} (ar : List Ty) (p : List Int) : ∀ (a : List Tm) (j : Nat), s ∈ subss a ar p j → ∃ i, ∃ h : i < a.length, s ∈ subs a[i] ar (p ++ [((j + i : Nat) : Int)])
  | [], _, hs => by simp [subss] at hs
  | x :: a, j, hs => by
    rw [subss] at hs
    rcases List.mem_append.1 hs with hs | hs
    · exact ⟨0, by simp, hs⟩
    · obtain ⟨i, h, hs⟩ := subss_mem ar p a (j + 1) hs
      exact ⟨i + 1, by simpa using h, by rw [show j + (i + 1) = j + 1 + i by omega]; exact hs⟩
theorem subs_at (t : Tm) : ∀ (ar : List Ty) (p : List Int) (T : Tm) (b : List Ty), ar ++ t.binds = b → atP p T = some (t, b) → ∀ s ∈ subs t ar p, atP s.2.2 T = some (s.1, s.2.1) := by
  induction t using Tm.ind with
  | h bs k i a ih =>
    intro ar p T b hb hT s hs
    dsimp only [Tm.binds] at hb
    subst hb
    rw [subs_eq] at hs
    rcases List.mem_cons.1 hs with rfl | hs
    · exact hT
    · obtain ⟨j, hj, hs⟩ := subss_mem _ _ _ _ hs
      rw [Nat.zero_add] at hs
      exact ih a[j] (List.getElem_mem hj) (ar ++ bs) _ T _ rfl (atP_snoc hT (by exact hj)) s hs
theorem subs_len (t : Tm) : ∀ (ar : List Ty) (p : List Int), (subs t ar p).length = t.size := by
  induction t using Tm.ind with
  | h bs k i a ih =>
    intro ar p
    rw [subs_eq, Tm.size_eq, List.length_cons]
    have key : ∀ (l : List Tm) (j : Nat), (∀ t ∈ l, t ∈ a) → (subss l (ar ++ bs) p j).length = Tm.sizes l := by
      intro l
      induction l with
      | nil => intro j _; simp [subss, Tm.sizes]
      | cons t l ihl => intro j hl; rw [subss, List.length_append, ih t (hl t (by simp)), ihl _ fun u hu => hl u (by simp [hu])]; simp [Tm.sizes]
    rw [key a 0 fun t ht => ht]

mutual
def rigB : Tm → Tm → Bool
  | .mk bs k i a, t => decide (bs = t.binds) && (decide (k = 2) || ((decide (k = t.kind) && decide (i = t.index)) && (decide (a.length = t.args.length) && rigBs a t.args)))
def rigBs : List Tm → List Tm → Bool
  | [], _ => true
  | p :: l, ts => rigB p (ts.headD Tm.zero) && rigBs l ts.tail
end
def useB (T : Tm) : List Use → Bd → Option Bd
  | [], b => some b
  | u :: l, b => match (atP u.path T).map (·.1) with
    | none => none
    | some x => if (take (.mk [] x.kind x.index x.args) u.binds u.vars).2 = 0 then (if (bput b u.mt (take (.mk [] x.kind x.index x.args) u.binds u.vars).1).1 then useB T l (bput b u.mt (take (.mk [] x.kind x.index x.args) u.binds u.vars).1).2 else none) else none
theorem useB_app (T : Tm) : ∀ (l r : List Use) (b : Bd), useB T (l ++ r) b = (useB T l b).bind (useB T r)
  | [], r, b => rfl
  | u :: l, r, b => by
    rw [List.cons_append, useB, useB]
    cases (atP u.path T).map (·.1) with
    | none => rfl
    | some x =>
      dsimp only
      split
      · split
        · exact useB_app T l r _
        · rfl
      · rfl
def WalkOk (p t : Tm) (ar : List Ty) (b : Bd) (r : Bool × Bd) (pa : List Int) (T : Tm) : Prop :=
  r.1 = (rigB p t && (useB T (uses p ar pa).1 b).isSome) ∧ (r.1 = true → useB T (uses p ar pa).1 b = some r.2)
theorem walk_ok (p : Tm) : ∀ (t : Tm) (ar : List Ty) (b : Bd) (pa : List Int) (T : Tm) (l : List Ty), (uses p ar pa).2 = true → atP pa T = some (t, l) → WalkOk p t ar b (walk p t ar b) pa T := by
  induction p using Tm.ind with
  | h bs k i a ih =>
    intro t ar b pa T l hu hT
    unfold WalkOk
    rw [walk, rigB]
    by_cases hb : bs = t.binds
    · rw [if_neg (by simpa using hb), decide_eq_true hb, Bool.true_and]
      by_cases hk : k = 2
      · rw [if_pos hk, decide_eq_true hk, Bool.true_or, Bool.true_and]
        rw [uses_eq, if_pos hk] at hu ⊢
        have hfl : flex b (.mk bs k i a) t (ar ++ bs) = (match varsL ((ar ++ bs).length : Nat) a [] with | none => (false, b) | some v => if (take (.mk [] t.kind t.index t.args) (ar ++ bs) v).2 = 0 then bput b i (take (.mk [] t.kind t.index t.args) (ar ++ bs) v).1 else (false, b)) := rfl
        rw [hfl]
        cases hv : varsL ((ar ++ bs).length : Nat) a [] with
        | none => rw [hv] at hu; cases hu
        | some v =>
          dsimp only
          rw [useB, hT]
          simp only [Option.map_some]
          split
          · cases hp : (bput b i (take (.mk [] t.kind t.index t.args) (ar ++ bs) v).1).1 with
            | true => simp [useB, hp]
            | false => simp [hp]
          · simp
      · rw [if_neg hk, decide_eq_false hk, Bool.false_or]
        rw [uses_eq, if_neg hk] at hu ⊢
        by_cases hc : (k ≠ t.kind ∨ i ≠ t.index) ∨ a.length ≠ t.args.length
        · rw [if_pos hc]
          have : ((decide (k = t.kind) && decide (i = t.index)) && (decide (a.length = t.args.length) && rigBs a t.args)) = false := by
            rcases hc with (h | h) | h <;> simp [h]
          rw [this]; simp
        · rw [if_neg hc]
          have h1 : k = t.kind := by by_cases h : k = t.kind; exact h; exact absurd (.inl (.inl h)) hc
          have h2 : i = t.index := by by_cases h : i = t.index; exact h; exact absurd (.inl (.inr h)) hc
          have h3 : a.length = t.args.length := by by_cases h : a.length = t.args.length; exact h; exact absurd (.inr h) hc
          rw [decide_eq_true h1, decide_eq_true h2, decide_eq_true h3, Bool.true_and, Bool.true_and, Bool.true_and]
          have key : ∀ (m : List Tm) (j : Nat) (ts : List Tm) (b : Bd), (∀ x ∈ m, x ∈ a) → t.args.drop j = ts → m.length = ts.length → (usess m (ar ++ bs) pa j).2 = true →
              (walks m ts (ar ++ bs) b).1 = (rigBs m ts && (useB T (usess m (ar ++ bs) pa j).1 b).isSome) ∧ ((walks m ts (ar ++ bs) b).1 = true → useB T (usess m (ar ++ bs) pa j).1 b = some (walks m ts (ar ++ bs) b).2) := by
            intro m
            induction m with
            | nil => intro j ts b _ _ _ _; simp [walks, rigBs, usess, useB]
            | cons x m ihm =>
              intro j ts b hm hd hl hu
              cases ts with
              | nil => simp at hl
              | cons y ts =>
                have hj : j < t.args.length := by
                  have := congrArg List.length hd
                  rw [List.length_drop, List.length_cons] at this; omega
                rw [List.drop_eq_getElem_cons hj] at hd
                injection hd with hd1 hd2
                rw [usess] at hu ⊢
                have hux : (uses x (ar ++ bs) (pa ++ [(j : Int)])).2 = true := by
                  by_cases h : (uses x (ar ++ bs) (pa ++ [(j : Int)])).2 = true
                  · exact h
                  · rw [if_neg h] at hu; cases hu
                rw [if_pos hux] at hu ⊢
                dsimp only at hu ⊢
                have hx := ih x (hm x (by simp)) y (ar ++ bs) b (pa ++ [(j : Int)]) T _ hux (by rw [atP_snoc hT hj, hd1])
                unfold WalkOk at hx
                rw [walks, rigBs, List.headD_cons, List.tail_cons, useB_app]
                cases hw : (walk x y (ar ++ bs) b).1 with
                | true =>
                  rw [hw] at hx
                  have hx1 := hx.1.symm
                  simp only [Bool.and_eq_true] at hx1
                  rw [if_pos rfl, hx.2 rfl, hx1.1, Bool.true_and]
                  exact ihm (j + 1) ts _ (fun u hu => hm u (by simp [hu])) hd2 (by simpa using hl) hu
                | false =>
                  rw [hw] at hx
                  rw [if_neg (by simp), hw]
                  refine ⟨?_, nofun⟩
                  have hx1 := hx.1.symm
                  cases hr : rigB x y with
                  | false => simp
                  | true =>
                    rw [hr, Bool.true_and] at hx1
                    have : useB T (uses x (ar ++ bs) (pa ++ [(j : Int)])).1 b = none := by
                      cases hq : useB T (uses x (ar ++ bs) (pa ++ [(j : Int)])).1 b with
                      | none => rfl
                      | some c => rw [hq] at hx1; cases hx1
                    rw [this]; simp
          exact key a 0 t.args b (fun x hx => hx) rfl h3 hu
    · rw [if_pos (by simpa using hb), decide_eq_false hb]; simp

/-! several at once -/
def mayAll : List (Tm × Tm) → Int
  | [] => 0
  | p :: l => if may p.1 = 0 then mayAll l else may p.1
def walkL : List (Tm × Tm) → Bd → Option Bd
  | [], b => some b
  | p :: l, b => if (walk p.1 p.2 [] b).1 then walkL l (walk p.1 p.2 [] b).2 else none
def mAll (l : List (Tm × Tm)) : Bd × Int := if mayAll l = 0 then (match walkL l [] with | some b => (So.ss b, 0) | none => ([], 9)) else ([], mayAll l)
end Pn
end Go.Proofs.Ytcblpjheoclkeaa

namespace Go.Proofs.Ytcblpjheoclkeaa
open Go.RowKit

namespace Pn
theorem walks_app (ar : List Ty) : ∀ (l r ts : List Tm) (b : Bd), walks (l ++ r) ts ar b = if (walks l ts ar b).1 then walks r (ts.drop l.length) ar (walks l ts ar b).2 else walks l ts ar b
  | [], r, ts, b => by simp [walks]
  | p :: l, r, ts, b => by
    rw [List.cons_append, walks, walks]
    by_cases h : (walk p (ts.headD Tm.zero) ar b).1 = true
    · rw [if_pos h, if_pos h, walks_app ar l r]
      have : ts.tail.drop l.length = ts.drop (p :: l).length := by cases ts <;> simp
      rw [this]
    · rw [if_neg h, if_neg h, if_neg h]
theorem walks_take (ar : List Ty) (a ts : List Tm) (b b' : Bd) (j : Nat) (hj : j < a.length) (ht : j < ts.length) (h : walks (a.take j) ts ar b = (true, b')) : walks (a.take (j + 1)) ts ar b = walk a[j] ts[j] ar b' := by
  rw [List.take_add_one, List.getElem?_eq_getElem hj]
  show walks (a.take j ++ [a[j]]) ts ar b = _
  rw [walks_app, h, if_pos rfl, List.length_take, Nat.min_eq_left (by omega), walks]
  have : (ts.drop j).headD Tm.zero = ts[j] := by rw [List.drop_eq_getElem_cons ht]; rfl
  rw [this]
  dsimp only
  split
  · rename_i h; rw [walks, ← h]
  · rfl
theorem walks_stop (ar : List Ty) (a ts : List Tm) (b b' : Bd) (j : Nat) (h : walks (a.take j) ts ar b = (false, b')) : walks a ts ar b = (false, b') := by
  have h1 : walks a ts ar b = walks (a.take j ++ a.drop j) ts ar b := by rw [List.take_append_drop]
  rw [h1, walks_app, h, if_neg (by simp)]
theorem types_size (ar : List Ty) : ∀ v : List Int, Ty.sizes (types ar v) ≤ v.length * (Ty.sizes ar + 1)
  | [] => by simp [types, Ty.sizes]
  | i :: v => by
    have h := types_size ar v
    have h1 : (ar.getD ((ar.length : Int) - 1 - i).toNat (.mk [] 0)).size ≤ Ty.sizes ar + 1 := by
      rw [List.getD_eq_getElem?_getD]
      cases hx : ar[((ar.length : Int) - 1 - i).toNat]? with
      | none => simp [Ty.size, Ty.sizes]
      | some x =>
        have hm := List.mem_of_getElem? hx
        have : x.size ≤ Ty.sizes ar := by
          clear hx h
          induction ar with
          | nil => cases hm
          | cons y ar ih =>
            simp only [Ty.sizes]
            rcases List.mem_cons.1 hm with rfl | hm
            · omega
            · have := ih hm; omega
        simp; omega
    have h2 : Ty.sizes (types ar (i :: v)) = (ar.getD ((ar.length : Int) - 1 - i).toNat (.mk [] 0)).size + Ty.sizes (types ar v) := by
      show Ty.sizes (_ :: types ar v) = _
      rw [Ty.sizes]
    rw [h2, List.length_cons, Nat.succ_mul]
    omega
structure BdOk (b : Bd) : Prop where
  keys : (b.map (·.1)).Nodup
  full : ∀ p ∈ b, p.2.full ≤ 80000
  fit : ∀ p ∈ b, p.2.Fit
theorem bdOk_nil : BdOk [] := ⟨List.nodup_nil, nofun, nofun⟩
theorem bfind_none {b : Bd} {m : Int} (h : bfind b m = none) : m ∉ b.map (·.1) := by
  unfold bfind at h
  rw [Option.map_eq_none_iff, List.find?_eq_none] at h
  intro hm
  obtain ⟨p, hp, rfl⟩ := List.mem_map.1 hm
  exact h p hp (by simp)
theorem bput_ok {b : Bd} (h : BdOk b) {m : Int} {t : Tm} (h1 : t.full ≤ 80000) (h2 : t.Fit) : BdOk (bput b m t).2 := by
  unfold bput
  split
  · exact h
  · rename_i hf
    refine ⟨?_, fun p hp => ?_, fun p hp => ?_⟩
    · rw [List.map_append]
      refine List.nodup_append.2 ⟨h.keys, by simp, ?_⟩
      intro x hx y hy e
      rw [List.map_cons, List.map_nil, List.mem_singleton] at hy
      subst hy; subst e
      exact bfind_none hf hx
    · rcases List.mem_append.1 hp with hp | hp
      · exact h.full p hp
      · rw [List.mem_singleton] at hp; subst hp; exact h1
    · rcases List.mem_append.1 hp with hp | hp
      · exact h.fit p hp
      · rw [List.mem_singleton] at hp; subst hp; exact h2
abbrev nb (t : Tm) : Tm := .mk [] t.kind t.index t.args
theorem nb_full (t : Tm) : (nb t).full ≤ t.full := by have := full_args t; rw [Tm.full_eq]; simp [Ty.sizes]; omega
theorem nb_low {t : Tm} (h : lowB t = true) : lowB (nb t) = true := by obtain ⟨b, k, i, a⟩ := t; rw [lowB_eq] at h ⊢; exact h
theorem nb_fit {t : Tm} (h : t.Fit) : (nb t).Fit := by obtain ⟨b, k, i, a⟩ := t; exact Tm.fit_iff.2 (Tm.fit_iff.1 h)
theorem take_full (t : Tm) (ar : List Ty) (v : List Int) (h : (take t ar v).2 = 0) : (take t ar v).1.full = Ty.sizes (types ar v) + t.full := by
  unfold take at h ⊢
  split at h
  · rename_i h1
    split at h
    · rename_i h2
      rw [if_pos h1, if_pos h2]
      rw [Tm.full_eq, Ty.sizes_append]
      have h3 := tk_full ar.length v t 0
      have h4 := full_args (tk ar.length v t 0)
      have h5 : (tk ar.length v t 0).binds = t.binds := by obtain ⟨b, k, i, a⟩ := t; rw [tk_eq]; rfl
      rw [h5] at h4
      omega
    · cases h
  · cases h
theorem take_fit (t : Tm) (ar : List Ty) (v : List Int) (har : ar.length ≤ 10000) (hv : v.length ≤ 10000) (hz : t.full ≤ 90000) (hlow : lowB t = true) (hfit : t.Fit) : (take t ar v).1.Fit := by
  unfold take
  split
  · split
    · have := tk_fit ar.length v ⟨by omega, by omega⟩ hv t 0 (by omega) (by omega) hlow hfit
      generalize tk ar.length v t 0 = u at this ⊢
      obtain ⟨b, k, i, a⟩ := u
      exact Tm.fit_iff.2 (Tm.fit_iff.1 this)
    · exact Tm.fit_iff.2 ⟨by decide, by decide, nofun⟩
  · exact Tm.fit_iff.2 ⟨by decide, by decide, nofun⟩
theorem flex_ok {b : Bd} (h : BdOk b) (p t : Tm) (ar : List Ty) (hp : p.full ≤ 250) (har : Ty.sizes ar ≤ 250) (ht : t.full ≤ 10000) (hlow : lowB t = true) (hfit : t.Fit) : BdOk (flex b p t ar).2 := by
  unfold flex
  split
  · exact h
  · rename_i v hv
    have hvl := varsL_len _ _ _ _ hv
    have hal := full_args p
    have hpl := fulls_len p.args
    have hsz := types_size ar v
    have hle := Ty.le_sizes ar
    have hnf : (Tm.mk [] t.kind t.index t.args).full ≤ t.full := nb_full t
    split
    · rename_i h0
      refine bput_ok h ?_ (take_fit _ ar v (by omega) (by simp at hvl; omega) (by omega) (nb_low hlow) (nb_fit hfit))
      rw [take_full _ ar v h0]
      simp at hvl
      have : v.length * (Ty.sizes ar + 1) ≤ 250 * 251 := Nat.mul_le_mul (by omega) (by omega)
      omega
    · exact h
theorem low_mem {a : List Tm} (h : lowsB a = true) : ∀ t ∈ a, lowB t = true := by rw [lowsB_all, List.all_eq_true] at h; exact h
theorem walk_bd (p : Tm) : ∀ (t : Tm) (ar : List Ty) (b : Bd), BdOk b → Ty.sizes ar + p.full ≤ 250 → t.full ≤ 10000 → lowB t = true → t.Fit → BdOk (walk p t ar b).2 := by
  induction p using Tm.ind with
  | h bs k i a ih =>
    intro t ar b hb hz ht hlow hfit
    rw [Tm.full_eq] at hz
    have hfa := full_args t
    rw [walk]
    split
    · exact hb
    · split
      · exact flex_ok hb _ t _ (by rw [Tm.full_eq]; omega) (by rw [Ty.sizes_append]; omega) ht hlow hfit
      · split
        · exact hb
        · have hla : ∀ u ∈ t.args, lowB u = true := by obtain ⟨b', k', i', a'⟩ := t; rw [lowB_eq] at hlow; simp only [Bool.and_eq_true] at hlow; exact low_mem hlow.2
          have key : ∀ (m ts : List Tm) (b : Bd), (∀ x ∈ m, x ∈ a) → (∀ x ∈ ts, x ∈ t.args) → BdOk b → BdOk (walks m ts (ar ++ bs) b).2 := by
            intro m
            induction m with
            | nil => intro ts b _ _ hb; rw [walks]; exact hb
            | cons x m ihm =>
              intro ts b hm hts hb
              have hxm := full_mem (hm x (by simp))
              have hy : (ts.headD Tm.zero).full ≤ 10000 ∧ lowB (ts.headD Tm.zero) = true ∧ (ts.headD Tm.zero).Fit := by
                cases ts with
                | nil => exact ⟨by decide, by decide, Tm.fit_iff.2 ⟨by decide, by decide, nofun⟩⟩
                | cons y ts =>
                  have h1 := hts y (by simp)
                  have := full_mem h1
                  exact ⟨by show y.full ≤ _; omega, hla y h1, fit_args hfit y h1⟩
              have h1 := ih x (hm x (by simp)) (ts.headD Tm.zero) (ar ++ bs) b hb (by rw [Ty.sizes_append]; omega) hy.1 hy.2.1 hy.2.2
              rw [walks]
              split
              · exact ihm ts.tail _ (fun y hy => hm y (by simp [hy])) (fun y hy => hts y (List.mem_of_mem_tail hy)) h1
              · exact h1
          exact key a t.args b (fun _ h => h) (fun _ h => h) hb
end Pn

theorem mwalk_flex (b : Pn.Bd) (p t : Tm) (ar : List Ty) (hk : p.kind = 2) (hz : Ty.sizes ar ≤ 250) (hzp : p.full ≤ 250) (hfp : p.Fit) (ht : t.full ≤ 10000) (hlow : lowB t = true) (hft : t.Fit) :
    CallC Try.prog 113 [.ag [.mo 0], .ag (eTm p), .ag (eTm t), .sl 2 (eTys ar) none] [(.o 0, .mp (eBd b))] [(.o 0, .mp (eBd (Pn.flex b p t ar).2))] (.v (.bool (Pn.flex b p t ar).1)) := by
  have hle := Ty.le_sizes ar
  have hnf : (Tm.mk [] t.kind t.index t.args).full ≤ t.full := Pn.nb_full t
  refine mflex_d b p t ar hk (by omega) hfp (by omega) (fun v hv => ?_) (Pn.nb_low hlow) (Pn.nb_fit hft)
  have hvl := Pn.varsL_len _ _ _ _ hv
  have hal := full_args p
  have hpl := fulls_len p.args
  have hsz := Pn.types_size ar v
  simp at hvl
  have : v.length * (Ty.sizes ar + 1) ≤ 250 * 251 := Nat.mul_le_mul (by omega) (by omega)
  omega
set_option maxHeartbeats 4000000 in
theorem mwalk_d : ∀ (p t : Tm) (ar : List Ty) (b : Pn.Bd), Ty.sizes ar + p.full ≤ 250 → p.Fit → t.full ≤ 10000 → lowB t = true → t.Fit →
  CallC Try.prog 84 [.ag [.mo 0], .ag (eTm p), .ag (eTm t), .sl 2 (eTys ar) none] [(.o 0, .mp (eBd b))] [(.o 0, .mp (eBd (Pn.walk p t ar b).2))] (.v (.bool (Pn.walk p t ar b).1)) := by
 intro p
 induction p using Tm.ind with
 | h bs k i a ih =>
 intro t ar b hz hfp hzt hlow hft
 rw [Tm.full_eq] at hz
 have hft2 := fit_args hfp
 dsimp only [Tm.args] at hft2
 have hfa := full_args t
 have hal := fulls_len a
 have htl := fulls_len t.args
 have hla : ∀ u ∈ t.args, lowB u = true := by obtain ⟨b', k', i', a'⟩ := t; rw [lowB_eq] at hlow; simp only [Bool.and_eq_true] at hlow; exact Pn.low_mem hlow.2
 have heq := eqTys_d bs t.binds 76 rfl
 have hcat := concat_d [ar, bs] (by simp [lens]; have := Ty.le_sizes ar; have := Ty.le_sizes bs; omega) (by simp)
 simp only [List.flatten_cons, List.flatten_nil, List.append_nil] at hcat
 have hfl : PureC Try.prog 112 [.ag (eTm (.mk bs k i a))] (.v (.bool (decide (k = 2)))) := pflex_d (.mk bs k i a)
 have hcl := mwalk_flex b (.mk bs k i a) t (ar ++ bs)
 rw [Pn.walk]
 rw [eTm_eq, eTm_eq]
 rw [eTm_eq] at hfl
 rw [eTm_eq, eTm_eq] at hcl
 simp only [binds_mk', kind_mk', index_mk', args_mkT] at hfl hcl ⊢
 by_cases hb : bs = t.binds
 ·rw [if_neg (by simpa using hb)]
  rw [decide_eq_true hb] at heq
  by_cases hk : k = 2
  ·rw [if_pos hk]
   rw [decide_eq_true hk] at hfl
   have hcl := hcl hk (by rw [Ty.sizes_append]; omega) (by rw [Tm.full_eq]; omega) hfp hzt hlow hft
   refine calldw 1 62 [ResultVar.tmp 8] TP4_ok Try.func84 rfl Try.ntmps84 rfl fun cx hnt hn0 => ?_
   ·skip
    refine dw_seq ?_; refine dwk [] TP4_ok hnt fun K hK => ?_; refine hK _ _ ?_; clear hK K; refine dw_seq ?_; refine dw_seq ?_; refine dwk [] TP4_ok hnt fun K hK => ?_; refine dcl (heq) ?_; refine hK _ _ ?_; clear hK K; refine dw_cond (t := false) rfl ?_; rw [if_neg (by simp)]; refine dw_skip ?_; refine dw_seq ?_; refine dwk [(20, .sl 1 (eTyss [ar, bs]) none)] TP4_ok hnt fun K hK => ?_; refine And.intro (VLe.untag _ _ _) ?_
    refine dcl (hcat) ?_; refine hK _ _ ?_; clear hK K; refine dw_seq ?_; refine dw_seq ?_; refine dwk [] TP4_ok hnt fun K hK => ?_; refine dcl (hfl) ?_; refine hK _ _ ?_; clear hK K; refine dw_cond (t := true) rfl ?_; rw [if_pos rfl]; refine dw_seq ?_; refine dwk [] TP4_ok hnt fun K hK => ?_; refine dcl (hcl) ?_; refine hK _ _ ?_; clear hK K; refine dw_ret ?_
    exact reta rfl
  ·rw [if_neg hk]
   rw [decide_eq_false hk] at hfl
   by_cases hc : (k ≠ t.kind ∨ i ≠ t.index) ∨ a.length ≠ t.args.length
   ·rw [if_pos hc]
    by_cases hc1 : k ≠ t.kind ∨ i ≠ t.index
    ·skip
     refine calldw 1 62 [ResultVar.tmp 8] TP4_ok Try.func84 rfl Try.ntmps84 rfl fun cx hnt hn0 => ?_
     ·skip
      refine dw_seq ?_; refine dwk [] TP4_ok hnt fun K hK => ?_; refine hK _ _ ?_; clear hK K; refine dw_seq ?_; refine dw_seq ?_; refine dwk [] TP4_ok hnt fun K hK => ?_; refine dcl (heq) ?_; refine hK _ _ ?_; clear hK K; refine dw_cond (t := false) rfl ?_; rw [if_neg (by simp)]; refine dw_skip ?_; refine dw_seq ?_; refine dwk [(20, .sl 1 (eTyss [ar, bs]) none)] TP4_ok hnt fun K hK => ?_; refine And.intro (VLe.untag _ _ _) ?_
      refine dcl (hcat) ?_; refine hK _ _ ?_; clear hK K; refine dw_seq ?_; refine dw_seq ?_; refine dwk [] TP4_ok hnt fun K hK => ?_; refine dcl (hfl) ?_; refine hK _ _ ?_; clear hK K; refine dw_cond (t := false) rfl ?_; rw [if_neg (by simp)]; refine dw_skip ?_; refine dw_seq ?_; refine dw_seq ?_; refine dwk [(33, .v (.bool true))] TP4_ok hnt fun K hK => ?_; refine And.intro (VLe.of_eq (by congr 2; rcases hc1 with h | h <;> simp [h])) ?_
      refine hK _ _ ?_; clear hK K; refine dw_cond (t := true) rfl ?_; rw [if_pos rfl]; refine dw_seq ?_; refine dwk [] TP4_ok hnt fun K hK => ?_; refine hK _ _ ?_; clear hK K; refine dw_ret ?_
      exact reta rfl
    ·have hc2 : a.length ≠ t.args.length := by rcases hc with h | h; exact absurd h hc1; exact h
     refine calldw 1 62 [ResultVar.tmp 8] TP4_ok Try.func84 rfl Try.ntmps84 rfl fun cx hnt hn0 => ?_
     ·skip
      refine dw_seq ?_; refine dwk [] TP4_ok hnt fun K hK => ?_; refine hK _ _ ?_; clear hK K; refine dw_seq ?_; refine dw_seq ?_; refine dwk [] TP4_ok hnt fun K hK => ?_; refine dcl (heq) ?_; refine hK _ _ ?_; clear hK K; refine dw_cond (t := false) rfl ?_; rw [if_neg (by simp)]; refine dw_skip ?_; refine dw_seq ?_; refine dwk [(20, .sl 1 (eTyss [ar, bs]) none)] TP4_ok hnt fun K hK => ?_; refine And.intro (VLe.untag _ _ _) ?_
      refine dcl (hcat) ?_; refine hK _ _ ?_; clear hK K; refine dw_seq ?_; refine dw_seq ?_; refine dwk [] TP4_ok hnt fun K hK => ?_; refine dcl (hfl) ?_; refine hK _ _ ?_; clear hK K; refine dw_cond (t := false) rfl ?_; rw [if_neg (by simp)]; refine dw_skip ?_; refine dw_seq ?_; refine dw_seq ?_; refine dwk [(33, .v (.bool false)), (37, .v (.int .i64 (↑a.length))), (40, .v (.int .i64 (↑t.args.length))), (41, .v (.bool true))] TP4_ok hnt fun K hK => ?_
      refine And.intro (VLe.of_eq (by congr 2; simp at hc1; simp [hc1])) ?_; refine And.intro (dintE (by rw [eTms_len])) ?_; refine And.intro (dintE (by rw [eTms_len])) ?_; refine And.intro (VLe.of_eq (by congr 2; simp; omega)) ?_; refine hK _ _ ?_; clear hK K; refine dw_cond (t := true) rfl ?_; rw [if_pos rfl]; refine dw_seq ?_; refine dwk [] TP4_ok hnt fun K hK => ?_; refine hK _ _ ?_; clear hK K; refine dw_ret ?_
      exact reta rfl
   ·rw [if_neg hc]
    have hc1 : ¬ (k ≠ t.kind ∨ i ≠ t.index) := fun h => hc (.inl h)
    have hc2 : a.length = t.args.length := by by_cases h : a.length = t.args.length; exact h; exact absurd (.inr h) hc
    refine calldw 1 62 [ResultVar.tmp 8] TP4_ok Try.func84 rfl Try.ntmps84 rfl fun cx hnt hn0 => ?_
    ·skip
     refine dw_seq ?_; refine dwk [] TP4_ok hnt fun K hK => ?_; refine hK _ _ ?_; clear hK K; refine dw_seq ?_; refine dw_seq ?_; refine dwk [] TP4_ok hnt fun K hK => ?_; refine dcl (heq) ?_; refine hK _ _ ?_; clear hK K; refine dw_cond (t := false) rfl ?_; rw [if_neg (by simp)]; refine dw_skip ?_; refine dw_seq ?_; refine dwk [(20, .sl 1 (eTyss [ar, bs]) none)] TP4_ok hnt fun K hK => ?_; refine And.intro (VLe.untag _ _ _) ?_
     refine dcl (hcat) ?_; refine hK _ _ ?_; clear hK K; refine dw_seq ?_; refine dw_seq ?_; refine dwk [] TP4_ok hnt fun K hK => ?_; refine dcl (hfl) ?_; refine hK _ _ ?_; clear hK K; refine dw_cond (t := false) rfl ?_; rw [if_neg (by simp)]; refine dw_skip ?_; refine dw_seq ?_; refine dw_seq ?_; refine dwk [(33, .v (.bool false)), (37, .v (.int .i64 (↑a.length))), (40, .v (.int .i64 (↑t.args.length))), (41, .v (.bool false))] TP4_ok hnt fun K hK => ?_
     refine And.intro (VLe.of_eq (by congr 2; simp at hc1; simp [hc1])) ?_; refine And.intro (dintE (by rw [eTms_len])) ?_; refine And.intro (dintE (by rw [eTms_len])) ?_; refine And.intro (VLe.of_eq (by congr 2; simp; omega)) ?_; refine hK _ _ ?_; clear hK K; refine dw_cond (t := false) rfl ?_; rw [if_neg (by simp)]; refine dw_skip ?_; refine dw_seq ?_; refine dw_seq ?_; refine dwk [(45, .v (.int .i64 (↑a.length)))] TP4_ok hnt fun K hK => ?_
     refine And.intro (dintE (by rw [eTms_len])) ?_; refine hK _ _ ?_; clear hK K; refine dw_block ?_
     refine dw_loop (ι := { q : Nat × Pn.Bd // Pn.walks (a.take q.1) t.args (ar ++ bs) b = (true, q.2) }) (fun q => [(.t 3, .sl 2 (eTys (ar ++ bs)) none), (.t 4, .p 1 0), (.t 6, .p 3 0), (.t 44, .sl 4 (eTms a) none), (.t 45, .v (.int .i64 ↑a.length)), (.t 46, .v (.int .i64 ↑q.1.1)), (.c 1 0, .mo 0), (.c 3 0, .sl 2 (eTys t.binds) none), (.c 3 1, .v (.int .i64 t.kind)), (.c 3 2, .v (.int .i64 t.index)), (.c 3 3, .sl 4 (eTms t.args) none), (.o 0, .mp (eBd q.1.2))]) 4 (fun q => a.length - q.1.1) (⟨(0, b), by rw [List.take_zero, Pn.walks]⟩) (VS.toA) fun q => ?_
     obtain ⟨⟨j, bj⟩, hq⟩ := q
     dsimp only at hq ⊢
     by_cases hlt : j < a.length
     ·have hjt : j < t.args.length := by omega
      have hst := Pn.walks_take (ar ++ bs) a t.args b bj j hlt hjt hq
      have hmem := List.getElem_mem hlt
      have hmet := List.getElem_mem hjt
      have hm1 := full_mem hmem
      have hm2 := full_mem hmet
      have hih := ih a[j] hmem t.args[j] (ar ++ bs) bj (by rw [Ty.sizes_append]; omega) (hft2 _ hmem) (by omega) (hla _ hmet) (fit_args hft _ hmet)
      obtain ⟨⟨wb, wl⟩, hw⟩ : ∃ r, Pn.walk a[j] t.args[j] (ar ++ bs) bj = r := ⟨_, rfl⟩
      rw [hw] at hih hst
      rw [eTm_eq, eTm_eq] at hih
      dsimp only at hih
      refine dw_seq ?_; refine dwk [(47, .v (.bool true))] TP4_ok hnt fun K hK => ?_; refine And.intro auT ?_; refine hK _ _ ?_; clear hK K; refine dw_seq ?_; refine dw_cond (t := true) rfl ?_; rw [if_pos rfl]; refine dw_skip ?_; refine dw_seq ?_; refine dw_block ?_; refine dw_seq ?_; refine dwk [(49, .q [.sl 2 (eTys a[j].binds) none, .v (.int .i64 a[j].kind), .v (.int .i64 a[j].index), .sl 4 (eTms a[j].args) none])] TP4_ok hnt fun K hK => ?_
      refine And.intro (elo (eTms_len a)) ?_; refine And.intro (elv (eTms_getD a j) (eTm_eq _)) ?_; refine hK _ _ ?_; clear hK K
      cases wb with
      | true =>
       refine dw_seq ?_; refine dwkD [(56, .q [.sl 2 (eTys t.args[j].binds) none, .v (.int .i64 t.args[j].kind), .v (.int .i64 t.args[j].index), .sl 4 (eTms t.args[j].args) none])] TP4_ok hnt fun K hK => ?_; refine And.intro (elo (eTms_len t.args)) ?_; refine And.intro (elv (eTms_getD t.args j) (eTm_eq _)) ?_; refine dcl (hih) ?_; refine hK _ _ (by kernel_rfl) ?_; clear hK K; refine dw_cond (t := false) rfl ?_
       rw [if_neg (by simp)]; refine dw_skip ?_; refine dwk [(61, .v (.int .i64 (↑(j + 1))))] TP4_ok hnt fun K hK => ?_; refine And.intro auI ?_; refine hK _ _ ?_; clear hK K
       refine ⟨⟨(j + 1, wl), hst⟩, by first | omega | (dsimp only; omega), VS.toA⟩
      | false =>
       rw [Pn.walks_stop (ar ++ bs) a t.args b wl (j + 1) hst]
       refine dw_seq ?_; refine dwkD [(56, .q [.sl 2 (eTys t.args[j].binds) none, .v (.int .i64 t.args[j].kind), .v (.int .i64 t.args[j].index), .sl 4 (eTms t.args[j].args) none])] TP4_ok hnt fun K hK => ?_; refine And.intro (elo (eTms_len t.args)) ?_; refine And.intro (elv (eTms_getD t.args j) (eTm_eq _)) ?_; refine dcl (hih) ?_; refine hK _ _ (by kernel_rfl) ?_; clear hK K; refine dw_cond (t := true) rfl ?_
       rw [if_pos rfl]; refine dw_seq ?_; refine dwk [] TP4_ok hnt fun K hK => ?_; refine hK _ _ ?_; clear hK K; refine dw_ret ?_
       exact reta rfl
     ·rw [List.take_of_length_le (by omega)] at hq
      rw [hq]
      refine dw_seq ?_; refine dwk [(47, .v (.bool false))] TP4_ok hnt fun K hK => ?_; refine And.intro auF ?_; refine hK _ _ ?_; clear hK K; refine dw_seq ?_; refine dw_cond (t := false) rfl ?_; rw [if_neg (by simp)]; refine dw_exit ?_; refine dw_seq ?_; refine dwk [] TP4_ok hnt fun K hK => ?_; refine hK _ _ ?_; clear hK K; refine dw_ret ?_
      exact reta rfl
 ·rw [if_pos (by simpa using hb)]
  rw [decide_eq_false hb] at heq
  refine calldw 1 62 [ResultVar.tmp 8] TP4_ok Try.func84 rfl Try.ntmps84 rfl fun cx hnt hn0 => ?_
  ·skip
   refine dw_seq ?_; refine dwk [] TP4_ok hnt fun K hK => ?_; refine hK _ _ ?_; clear hK K; refine dw_seq ?_; refine dw_seq ?_; refine dwk [] TP4_ok hnt fun K hK => ?_; refine dcl (heq) ?_; refine hK _ _ ?_; clear hK K; refine dw_cond (t := true) rfl ?_; rw [if_pos rfl]; refine dw_seq ?_; refine dwk [] TP4_ok hnt fun K hK => ?_; refine hK _ _ ?_; clear hK K; refine dw_ret ?_
   exact reta rfl

theorem looses_pos (t : Tm) : ∀ n : Int, ∀ x ∈ t.looses n, 0 ≤ x := by
  induction t using Tm.ind with
  | h b k i a ih =>
    intro n x hx
    rw [Tm.looses_eq _ _ _ _ _ _ rfl] at hx
    rcases List.mem_append.1 hx with hx | hx
    · split at hx
      · rename_i h; rw [List.mem_singleton] at hx; subst hx; omega
      · cases hx
    · have key : ∀ (l : List Tm), (∀ t ∈ l, t ∈ a) → ∀ n, ∀ x ∈ Tm.loosess l n, 0 ≤ x := by
        intro l
        induction l with
        | nil => intro _ n x hx; simp [Tm.loosess] at hx
        | cons t l ihl =>
          intro hl n x hx
          rw [Tm.loosess] at hx
          rcases List.mem_append.1 hx with hx | hx
          · exact ih t (hl t (by simp)) n x hx
          · exact ihl (fun u hu => hl u (by simp [hu])) n x hx
      exact key a (fun _ h => h) _ x hx
theorem mmay_d (p : Tm) (h1 : p.full ≤ 10000) (hf : p.Fit) : PureC Try.prog 53 [.ag (eTm p)] (.v (.int .i64 (Pn.may p))) := by
 have hl := loose_d p (by omega) hf
 have hi := is_d p (by omega) hf
 have hp := looseL_pos (looses_pos p 0)
 unfold Pn.may
 obtain ⟨n, hn⟩ : ∃ n, (p.looses 0).foldl looseL 0 = n := ⟨_, rfl⟩
 rw [hn] at hl hp
 rw [eTm_eq] at hl hi ⊢
 by_cases hL : p.looses 0 = []
 ·rw [if_neg (by simp [hL])]
  have hn0 : ¬ 0 < n := fun h => hp.1 h hL
  cases hu : (Pn.uses p [] []).2 with
  | true =>
   rw [hu] at hi
   rw [if_neg (by simp)]
   refine calldw 0 11 [ResultVar.tmp 2] TP4_ok Try.func53 rfl Try.ntmps53 rfl fun cx hnt hn0 => ?_
   ·skip
    refine dw_seq ?_; refine dwk [] TP4_ok hnt fun K hK => ?_; refine hK _ _ ?_; clear hK K; refine dw_seq ?_; refine dw_block ?_; refine dw_seq ?_; refine dwk [(6, .v (.bool false)), (3, .v (.bool false))] TP4_ok hnt fun K hK => ?_; refine dcl (hl) ?_; refine And.intro auF ?_; refine And.intro auF ?_; refine hK _ _ ?_; clear hK K; refine dw_cond (t := false) rfl ?_; rw [if_neg (by simp)]; refine dw_seq ?_
    refine dwk [] TP4_ok hnt fun K hK => ?_; refine dcl (hi) ?_; refine hK _ _ ?_; clear hK K; refine dw_cond (t := false) rfl ?_; rw [if_neg (by simp)]; refine dw_skip ?_; refine dw_seq ?_; refine dwk [] TP4_ok hnt fun K hK => ?_; refine hK _ _ ?_; clear hK K; refine dw_ret ?_
    exact reta rfl
  | false =>
   rw [hu] at hi
   rw [if_pos rfl]
   refine calldw 0 11 [ResultVar.tmp 2] TP4_ok Try.func53 rfl Try.ntmps53 rfl fun cx hnt hn0 => ?_
   ·skip
    refine dw_seq ?_; refine dwk [] TP4_ok hnt fun K hK => ?_; refine hK _ _ ?_; clear hK K; refine dw_seq ?_; refine dw_block ?_; refine dw_seq ?_; refine dwk [(6, .v (.bool false)), (3, .v (.bool false))] TP4_ok hnt fun K hK => ?_; refine dcl (hl) ?_; refine And.intro auF ?_; refine And.intro auF ?_; refine hK _ _ ?_; clear hK K; refine dw_cond (t := false) rfl ?_; rw [if_neg (by simp)]; refine dw_seq ?_
    refine dwk [] TP4_ok hnt fun K hK => ?_; refine dcl (hi) ?_; refine hK _ _ ?_; clear hK K; refine dw_cond (t := true) rfl ?_; rw [if_pos rfl]; refine dw_seq ?_; refine dwk [] TP4_ok hnt fun K hK => ?_; refine hK _ _ ?_; clear hK K; refine dw_ret ?_
    exact reta rfl
 ·rw [if_pos hL]
  have hn0 : 0 < n := hp.2 hL
  refine calldw 0 11 [ResultVar.tmp 2] TP4_ok Try.func53 rfl Try.ntmps53 rfl fun cx hnt hn0 => ?_
  ·skip
   refine dw_seq ?_; refine dwk [] TP4_ok hnt fun K hK => ?_; refine hK _ _ ?_; clear hK K; refine dw_seq ?_; refine dw_block ?_; refine dw_seq ?_; refine dwk [(6, .v (.bool true)), (3, .v (.bool true))] TP4_ok hnt fun K hK => ?_; refine dcl (hl) ?_; refine And.intro auT ?_; refine And.intro auT ?_; refine hK _ _ ?_; clear hK K; refine dw_cond (t := true) rfl ?_; rw [if_pos rfl]; refine dw_seq ?_; refine dwk [] TP4_ok hnt fun K hK => ?_
   refine hK _ _ ?_; clear hK K; refine dw_ret ?_
   exact reta rfl
end Go.Proofs.Ytcblpjheoclkeaa

namespace Go.Proofs.Ytcblpjheoclkeaa
open Go.RowKit

def kitM (T : List (Nat × TI)) (σ : Env) (nm : Nat) (o : Op) (c : D → List (Key × D) → Prop) : Prop := match o with
  | .range t x => kT T t fun ti => kev σ x fun d => (match d, ti.mv with
    | .mo k, some _ => kget σ (.o k) fun d => (match d with
      | .mp l => ∀ bm es clock, es.size = l.length → c (.o nm) [(.o nm, .it k bm es clock (List.range l.length) none), (.o k, .mq bm es clock l)]
      | _ => False)
    | _, _ => False)
  | .next x false => kev σ x fun d => (match d with
    | .o ki => kget σ (.o ki) fun d => (match d with
      | .it k bm es clock rem _ => kget σ (.o k) fun d => (match d with
        | .mq _ es' clock' l => (es' = es ∧ clock' = clock) ∧ ((rem = [] ∧ c (.tu [.v (.bool false)]) []) ∨ (rem ≠ [] ∧ ∀ i (_ : i ∈ rem) (hl : i < l.length), c (.tu [.v (.bool true), .v (.int .i64 l[i].1), l[i].2]) [(.o ki, .it k bm es clock (rem.erase i) (some i))]))
        | _ => False)
      | _ => False)
    | _ => False)
  | .entry x => kev σ x fun d => (match d with
    | .o ki => kget σ (.o ki) fun d => (match d with
      | .it k _ es clock _ (some i) => kget σ (.o k) fun d => (match d with
        | .mq _ es' clock' l => (es' = es ∧ clock' = clock) ∧ ∃ hl : i < l.length, c (.tu [.v (.int .i64 l[i].1), l[i].2]) []
        | _ => False)
      | _ => False)
    | _ => False)
  | _ => False

section
variable {P : Program} {T : List (Nat × TI)} {cx : Cx} {Fr : Nat → Prop} {m : Mp} {Im : Nat → Nat → Prop} {w w' : World} {a : Act} {σ σ' : List (Key × D)}
theorem St.drew (h : St cx Fr m Im w a σ) : St cx Fr m Im w.drew a σ := h.below0 (Below.refl _ _).drew
theorem obOk_mq {b bm clock : Nat} {es : Array MapEntry} {l : List (Int × D)} (h : ObOk m Im w b (.mq bm es clock l)) :
    b = bm ∧ w.heap[b]? = some (.map es clock) ∧ es.size = l.length ∧ (∀ i (h : i < l.length), (es[i]?).map (·.key) = some (.int .i64 l[i].1)) ∧ (∀ i (h : i < l.length) v, (es[i]?).map (·.val) = some v → Rel m Im w v l[i].2) ∧ BornOk es clock := by
  cases h with
  | mq es clock l h1 h2 h3 h4 h5 => exact ⟨rfl, h1, h2, h3, h4, h5⟩
theorem obOk_it {b k bm clock : Nat} {es : Array MapEntry} {rem : List Nat} {last : Option Nat} (h : ObOk m Im w b (.it k bm es clock rem last)) :
    ∃ seen : Array Nat, m.obj k = some bm ∧ w.heap[b]? = some (.mapIter (some bm) clock seen clock) ∧ rem.Nodup ∧ (∀ i e, es[i]? = some e → (i ∈ rem ↔ seen.contains e.born = false)) ∧ (∀ i ∈ rem, i < es.size) ∧ (∀ i, last = some i → ∃ (e : MapEntry) (s0 : Array Nat), es[i]? = some e ∧ seen = s0.push e.born) := by
  cases h with
  | it k bm es clock rem last seen h1 h2 h3 h4 h5 h6 => exact ⟨seen, h1, h2, h3, h4, h5, h6⟩
theorem born_inj {es : Array MapEntry} {clock : Nat} (h : BornOk es clock) {i j : Nat} {e f : MapEntry} (hi : es[i]? = some e) (hj : es[j]? = some f) (hb : e.born = f.born) : i = j := by
  have hn := h.1
  obtain ⟨hi1, hi2⟩ := Array.getElem?_eq_some_iff.1 hi
  obtain ⟨hj1, hj2⟩ := Array.getElem?_eq_some_iff.1 hj
  have key : ∀ (i j : Nat) (e f : MapEntry), es[i]? = some e → es[j]? = some f → e.born = f.born → ¬ i < j := fun i j e f hi hj hb hij => by
    obtain ⟨hi1, hi2⟩ := Array.getElem?_eq_some_iff.1 hi
    obtain ⟨hj1, hj2⟩ := Array.getElem?_eq_some_iff.1 hj
    refine (List.pairwise_iff_getElem.1 hn) i j (by simpa using hi1) (by simpa using hj1) hij ?_
    simp only [List.getElem_map, Array.getElem_toList]; rw [hi2, hj2]; exact hb
  have h1 := key i j e f hi hj hb
  have h2 := key j i f e hj hi hb.symm
  omega
theorem kitM_run (hT : TabOk P T) (h : St cx Fr m Im w a σ) {nm : Nat} (hn : Fr nm) {o : Oper} {c : D → List (Key × D) → Prop} (hk : kitM T σ nm o.op c) :
    ∃ v w' m' V W, (execOp a.eval o).run P w = .ok (.value v) w' ∧ Rel m' Im w' v V ∧ St cx (minus Fr nm) m' Im w' a (puts σ W) ∧ c V W := by
  unfold kitM at hk
  unfold execOp
  split at hk
  · -- range
    rename_i t x ho
    simp only [ho]
    obtain ⟨ti, ht, hk⟩ := kT_some hk
    obtain ⟨d, hx, hk⟩ := kev_some hk
    split at hk
    · rename_i k e hmv
      obtain ⟨d, hg, hk⟩ := kget_some hk
      split at hk
      · rename_i l
        obtain ⟨kt, g1, g2⟩ := (hT t ti ht).map hmv
        obtain ⟨b, h1, h2⟩ := h.ok k _ hg
        obtain ⟨es, clock, h3, h4, h5, h6, hbn⟩ : ∃ (es : Array MapEntry) (clock : Nat), w.heap[b]? = some (.map es clock) ∧ es.size = l.length ∧ (∀ i (h : i < l.length), (es[i]?).map (·.key) = some (.int .i64 l[i].1)) ∧ (∀ i (h : i < l.length) v, (es[i]?).map (·.val) = some v → Rel m Im w v l[i].2) ∧ BornOk es clock := by
          cases h2 with
          | mp es clock l h1 h2 h3 h4 h5 => exact ⟨es, clock, h1, h2, h3, h4, h5⟩
        have hxb : a.eval x = .map (some b) := by
          have hr := h.ev hx
          generalize a.eval x = y at hr
          cases hr with
          | mo k b' hb => rw [h1] at hb; cases hb; rfl
        have hlt := h.mem.olt k b h1
        have hq : ∀ (m' : Mp) (w' : World), m'.obj k = some b → w'.heap[w.heap.size]? = some (.mapIter (some b) clock #[] clock) → ObOk m' Im w' w.heap.size (.it k b es clock (List.range l.length) none) := fun m' w' hm hb =>
          .it k b es clock _ none #[] hm hb List.nodup_range (fun i e he => by
            obtain ⟨hi, _⟩ := Array.getElem?_eq_some_iff.1 he
            rw [h4] at hi
            simp [hi]) (fun i hi => by rw [h4]; simpa using hi) nofun
        have h0 : St cx Fr m Im w a (put1 (.o k) (.mq b es clock l) σ) := h.puto h1 (.mq es clock l h3 h4 h5 h6 hbn)
        have hbl : Below w.heap.size w (w.alloc (.mapIter (some b) clock #[] clock)) := (Below.refl _ _).alloc (Nat.le_refl _) _
        have hne : nm ≠ k := fun e => by
          subst e
          have := (h.mem.fr _ hn).2.2
          rw [this] at h1; cases h1
        have hmk : (m.setO nm w.heap.size).obj k = some b := by simp [Mp.setO, Ne.symm hne, h1]
        obtain ⟨s1, s2⟩ := h0.newObjB (d := .ob fun _ _ => True) hn hbl (Nat.le_refl _) (by simp) fun _ => .ob _ trivial fun _ _ => trivial
        have s3 := s1.puto (k := nm) (b := w.heap.size) (by simp [Mp.setO]) (hq _ _ hmk (heap_alloc_new w _))
        refine ⟨.pointer (some ⟨w.heap.size, 0, none⟩), w.alloc (.mapIter (some b) clock #[] clock), m.setO nm w.heap.size, _, _, ?_, .o nm w.heap.size (by simp [Mp.setO]), ?_, hk b es clock h4⟩
        · simp only [Instr.range, hxb, Sem.run_bind, run_underlying g1, Result.andThen_ok, getObj, Sem.run, h3, newObj]
          rfl
        · simp only [puts]
          refine s3.sub fun k' d hd => ?_
          rw [get_put1, get_put1] at hd
          rw [get_put1, get_put1, get_put1]
          by_cases e1 : Key.eq (.o k) k' = true
          · rw [if_pos e1] at hd
            have := Key.eq_iff.1 e1
            subst this
            rw [if_neg (by rw [Key.eq_iff]; simpa using hne), if_neg (by rw [Key.eq_iff]; simpa using hne), if_pos e1]; exact hd
          · rw [if_neg e1] at hd
            by_cases e2 : Key.eq (.o nm) k' = true
            · rw [if_pos e2] at hd ⊢; exact hd
            · rw [if_neg e2] at hd
              rw [if_neg e2, if_neg e2, if_neg e1]; exact hd
      · exact hk.elim
    · exact hk.elim
  · -- next
    rename_i x ho
    simp only [ho]
    obtain ⟨d, hx, hk⟩ := kev_some hk
    split at hk
    · rename_i ki
      obtain ⟨d, hg, hk⟩ := kget_some hk
      split at hk
      · rename_i k bm es clock rem last
        obtain ⟨d, hg2, hk⟩ := kget_some hk
        split at hk
        · rename_i bm' es' clock' l
          obtain ⟨⟨rfl, rfl⟩, hk⟩ := hk
          obtain ⟨r, i1, i2⟩ := h.ok ki _ hg
          obtain ⟨seen, j1, j2, j3, j4, j5, j6⟩ := obOk_it i2
          obtain ⟨b, m1, m2⟩ := h.ok k _ hg2
          obtain ⟨rfl, q1, q2, q3, q4, q5⟩ := obOk_mq m2
          have : b = bm := by rw [j1] at m1; cases m1; rfl
          subst this
          have hxr : a.eval x = .pointer (some ⟨r, 0, none⟩) := by
            have hr := h.ev hx
            generalize a.eval x = y at hr
            cases hr with
            | o k b' hb => rw [i1] at hb; cases hb; rfl
          have hleft : ∀ e, e ∈ (leftOf es' seen).toList ↔ ∃ i ∈ rem, es'[i]? = some e := fun e => by
            constructor
            · intro he
              obtain ⟨e1, e2⟩ := mem_left he
              obtain ⟨i, hi, hie⟩ := List.getElem_of_mem e1
              have hi' : es'[i]? = some e := by rw [Array.getElem?_eq_getElem (by simpa using hi)]; simpa using hie
              exact ⟨i, (j4 i e hi').2 e2, hi'⟩
            · rintro ⟨i, hi, he⟩
              have := (j4 i e he).1 hi
              unfold leftOf
              obtain ⟨hi1, hi2⟩ := Array.getElem?_eq_some_iff.1 he
              simp only [Array.toList_filter, List.mem_filter]
              exact ⟨hi2 ▸ (by simp), by rw [this]; rfl⟩
          rcases run_next_at (P := P) w o.type r b clock' clock' seen es' clock' j2 q1 q5.2 (Nat.le_refl _) with ⟨hl0, hrun⟩ | ⟨e, he, w1, hw1, hrun⟩
          · have hrem : rem = [] := by
              cases rem with
              | nil => rfl
              | cons i r' =>
                have hi := j5 i (by simp)
                have := (hleft es'[i]).2 ⟨i, by simp, by simp [hi]⟩
                rw [List.eq_nil_of_length_eq_zero (by simpa using hl0 : (leftOf es' seen).toList.length = 0)] at this
                cases this
            rcases hk with ⟨_, hk⟩ | ⟨hne, _⟩
            · refine ⟨.tuple #[.bool false], w, m, .tu [.v (.bool false)], [], ?_, rel_tu.2 ⟨[.bool false], rfl, .v _, trivial⟩, h.less fun x hx => hx.1, hk⟩
              simp only [hxr, Sem.run_bind, hrun]
              rfl
            · exact absurd hrem hne
          · obtain ⟨i, hi, hie⟩ := (hleft e).1 he
            have hil : i < l.length := by have := j5 i hi; omega
            rcases hk with ⟨hrem, _⟩ | ⟨_, hk⟩
            · rw [hrem] at hi; cases hi
            · have hs1 : St cx Fr m Im w1 a σ := by rcases hw1 with rfl | rfl; exact h; exact h.drew
              have s2 := hs1.setObj (k := ki) (o := .mapIter (some b) clock' (seen.push e.born) clock') (d := .it k b es' clock' (rem.erase i) (some i)) i1 fun w' hb hki => by
                refine .it k b es' clock' _ _ (seen.push e.born) j1 hb (j3.erase i) (fun i' e' he' => ?_) (fun i' hi' => j5 i' (List.mem_of_mem_erase hi')) fun i' e' => ?_
                · rw [j3.mem_erase_iff, j4 i' e' he']
                  rw [Array.contains_push]
                  by_cases hii : i' = i
                  · subst hii
                    rw [hie] at he'; cases he'
                    simp
                  · have : e'.born ≠ e.born := fun hb => hii (born_inj q5 he' hie hb)
                    simp [hii, this]
                · cases e'; exact ⟨e, seen, hie, rfl⟩
              have hkey : e.key = .int .i64 l[i].1 := by
                have := q3 i hil
                rw [hie] at this
                simpa using this
              have hval : Rel m Im w e.val l[i].2 := q4 i hil e.val (by rw [hie]; rfl)
              have hki1 : KeepI Im w (ChangeMaps.setBlock w1 r (.mapIter (some b) clock' (seen.push e.born) clock')) := fun c y u hic hu => by
                have hu1 : w1.cell? ⟨c, y, none⟩ = some u := by rcases hw1 with rfl | rfl <;> exact hu
                refine (World.cell?_of_block (w := w1) (a := ⟨c, y, none⟩) ?_).trans hu1
                exact Array.getElem?_setIfInBounds_ne (by rintro rfl; exact h.mem.onim ki _ y i1 hic)
              refine ⟨.tuple #[.bool true, e.key, e.val], ChangeMaps.setBlock w1 r (.mapIter (some b) clock' (seen.push e.born) clock'), m, _, _, ?_, ?_, ?_, hk i hi hil⟩
              · simp only [hxr, Sem.run_bind, hrun]
                rfl
              · refine rel_tu.2 ⟨[.bool true, e.key, e.val], rfl, .v _, ?_, ?_, trivial⟩
                · rw [hkey]; exact .v _
                · exact hval.mono (Mp.le.refl m) hki1 fun _ _ h => h
              · exact s2.less fun x hx => hx.1
        · exact hk.elim
      · exact hk.elim
    · exact hk.elim
  · -- entry
    rename_i x ho
    simp only [ho]
    obtain ⟨d, hx, hk⟩ := kev_some hk
    split at hk
    · rename_i ki
      obtain ⟨d, hg, hk⟩ := kget_some hk
      split at hk
      · rename_i k bm es clock rem i
        obtain ⟨d, hg2, hk⟩ := kget_some hk
        split at hk
        · rename_i bm' es' clock' l
          obtain ⟨⟨rfl, rfl⟩, hil, hk⟩ := hk
          obtain ⟨r, i1, i2⟩ := h.ok ki _ hg
          obtain ⟨seen, j1, j2, j3, j4, j5, j6⟩ := obOk_it i2
          obtain ⟨b, m1, m2⟩ := h.ok k _ hg2
          obtain ⟨rfl, q1, q2, q3, q4, q5⟩ := obOk_mq m2
          have : b = bm := by rw [j1] at m1; cases m1; rfl
          subst this
          obtain ⟨e, s0, he, rfl⟩ := j6 i rfl
          have hxr : a.eval x = .pointer (some ⟨r, 0, none⟩) := by
            have hr := h.ev hx
            generalize a.eval x = y at hr
            cases hr with
            | o k b' hb => rw [i1] at hb; cases hb; rfl
          have hem : e ∈ es'.toList := by
            obtain ⟨hi1, hi2⟩ := Array.getElem?_eq_some_iff.1 he
            exact hi2 ▸ (by simp)
          have hrun := run_entry_at (P := P) w r b clock' s0 es' clock' e j2 q1 hem q5.1
          have hkey : e.key = .int .i64 l[i].1 := by
            have := q3 i hil
            rw [he] at this
            simpa using this
          have hval : Rel m Im w e.val l[i].2 := q4 i hil e.val (by rw [he]; rfl)
          refine ⟨.tuple #[e.key, e.val], w, m, _, _, ?_, ?_, h.less fun x hx => hx.1, hk⟩
          · simp only [hxr, Sem.run_bind, hrun]
            rfl
          · refine rel_tu.2 ⟨[e.key, e.val], rfl, ?_, hval, trivial⟩
            rw [hkey]; exact .v _
        · exact hk.elim
      · exact hk.elim
    · exact hk.elim
  · exact hk.elim
end

def DRq (P : Program) (T : List (Nat × TI)) (ops : Array Oper) (nm : Nat) (ov : List (Nat × D)) : List Oper → Nat → Env → (Env → Prop) → Prop
  | [], _, σ, K => K σ
  | o :: r, i, σ, K =>
    match gd ops σ o.guard with
    | none => False
    | some false => kdst σ o.dst (.v undef) fun σ' => DRq P T ops nm ov r (i + 1) σ' K
    | some true =>
      kval T σ o.op (fun V => kov ov o.dst V fun V => kdst σ o.dst V fun σ' => DRq P T ops nm ov r (i + 1) σ' K)
        (knat (nm + i) fun k => kmop T σ k o.op (fun V W _ => kov ov o.dst V fun V => kputs σ W fun σ1 => kdst σ1 o.dst V fun σ' => DRq P T ops nm ov r (i + 1) σ' K)
          (match Oper.op o with
          | .call _ => kcall σ o.op fun f ars => ∃ R W V, CallX P f ars R k W V ∧ kR σ R ∧ kov ov o.dst V fun V => kdropT R σ fun σ0 => kputs σ0 W fun σ1 => kdst σ1 o.dst V fun σ' => DRq P T ops nm ov r (i + 1) σ' K
          | _ => kitM T σ k o.op fun V W => kov ov o.dst V fun V => kputs σ W fun σ1 => kdst σ1 o.dst V fun σ' => DRq P T ops nm ov r (i + 1) σ' K))
section
variable {P : Program} {T : List (Nat × TI)} {cx : Cx} {m : Mp} {Im : Nat → Nat → Prop} {w : World} {a : Act} {σ : List (Key × D)} {ops : Array Oper} {Q : Exit → Act → World → Prop}
theorem drq_run (hT : TabOk P T) {nm : Nat} {ov : List (Nat × D)} (hdst : ∀ o ∈ ops.toList, ∀ d, o.dst = some d → d < cx.nt) {K : Env → Prop} (hK : ∀ m Im w a σ', K σ' → St cx (fun k => nm + ops.size ≤ k) m Im w a σ' → Q .normal a w) :
    ∀ (os : List Oper) (i : Nat) {m : Mp} {Im : Nat → Nat → Prop} {w : World} {a : Act} {σ : Env}, i ≤ ops.size → ops.toList.drop i = os → DRq P T ops nm ov os i σ K → St cx (fun k => nm + i ≤ k) m Im w a σ → wpOps P ops Q (List.range' i os.length) a w
  | [], i, m, Im, w, a, σ, hi, hd, h, hs => by
    have : ops.size ≤ i := by simpa using hd
    exact hK m Im w a σ h (hs.less fun k hk => by omega)
  | o :: r, i, m, Im, w, a, σ, hi, hd, h, hs => by
    have hlt : i < ops.size := by
      rcases Nat.lt_or_ge i ops.size with h' | h'
      · exact h'
      · rw [List.drop_eq_nil_of_le (by simpa using h')] at hd; cases hd
    have hoi : ops[i]? = some o := by
      have := congrArg (·[0]?) hd
      simpa using this
    have hr : ops.toList.drop (i + 1) = r := by
      have := congrArg List.tail hd
      simpa using this
    have hdo := hdst o (by rw [← Array.getElem?_toList] at hoi; exact List.mem_of_getElem? hoi)
    rw [List.length_cons, List.range'_succ, wpOps_cons]
    refine wpOp_step (o := o) hoi fun K' hK' => ?_
    have go : ∀ {m' Im' w' a' σ'}, DRq P T ops nm ov r (i + 1) σ' K → St cx (minus (fun k => nm + i ≤ k) (nm + i)) m' Im' w' a' σ' → K' a' w' := fun {m' Im' w' a' σ'} h1 h2 =>
      hK' _ _ (drq_run hT hdst hK r (i + 1) (by omega) hr h1 (h2.less fun k hk => ⟨by omega, by omega⟩))
    rw [DRq] at h
    cases hg : gd ops σ o.guard with
    | none => rw [hg] at h; exact h.elim
    | some b =>
      rw [hg] at h
      cases b with
      | false => exact opT_skip (P := P) (Q := Q) hdo hg _ m Im w a σ (by show nm + i ≤ nm + i; omega) hs vals_get K' fun m' Im' w' a' h' => go (kdst_some h) (by simpa [RStep.ap, dropT_nil] using h')
      | true =>
        simp only at h
        rcases kval_some h with ⟨V, h1, h⟩ | h
        · obtain ⟨V', hle, h⟩ := kov_some h
          exact opT_pval (Q := Q) hT hdo hg h1 hle _ m Im w a σ (by show nm + i ≤ nm + i; omega) hs vals_get K' fun m' Im' w' a' h' => go (kdst_some h) (by simpa [RStep.ap, dropT_nil] using h')
        · rcases kmop_some (knat_some h) with ⟨V, W, R, h1, h⟩ | h
          · obtain ⟨V', hle, h⟩ := kov_some h
            exact opT_mop (Q := Q) hT hdo hg h1 hle _ m Im w a σ (by show nm + i ≤ nm + i; omega) hs vals_get K' fun m' Im' w' a' h' => go (kdst_some (kputs_some h)) (by simpa [RStep.ap, dropT_nil, puts_append] using h')
          · split at h
            · obtain ⟨f, ars, h1, h⟩ := kcall_some h
              obtain ⟨R, W, V, h2, h3, h⟩ := h
              obtain ⟨V', hle, h⟩ := kov_some h
              exact opT_call (Q := Q) hdo hg h1 h2 hle (kR_all h3) _ m Im w a σ (by show nm + i ≤ nm + i; omega) hs vals_get K' fun m' Im' w' a' h' => go (kdst_some (kputs_some (kdropT_some h))) (by simpa [RStep.ap, puts_append] using h')
            · obtain ⟨v, w', m', V, W, r1, r2, r3, h⟩ := kitM_run hT hs (by show nm + i ≤ nm + i; omega) h
              obtain ⟨V', hle, h⟩ := kov_some h
              rw [gd_run hs hg, if_pos rfl]
              unfold Oper.wp
              rw [r1]
              exact go (kdst_some (kputs_some h)) (r3.putO hdo (hle _ _ _ _ r2))
theorem dw_q {cx : Cx} {σ : List (Key × D)} {N nt N1 : Nat} {Q : Exit → List (Key × D) → Nat → Prop} (ov : List (Nat × D)) (hT : TabOk P T) (hm : P.follows .mixedOrders = true) (hnt : cx.nt = nt) {id : Nat} {ops : Array Oper} (hd : dstOk nt ops = true) (hN : N + ops.size = N1) (h : ∀ K : Env → Prop, (∀ σ', Q .normal σ' N1 → K σ') → DRq P T ops N ov ops.toList 0 σ K) : DW P cx (.region id ops false) σ N Q := fun m Im w a hs => by
  refine wp_region ?_
  rw [List.range_eq_range', show ops.size = ops.toList.length by simp]
  have hd' : ∀ o ∈ ops.toList, ∀ d, o.dst = some d → d < cx.nt := fun o ho d e => by
    rw [← hnt] at hd
    have := (Array.all_eq_true'.1 hd) o (by simpa using ho)
    rw [e] at this; simpa using this
  exact drq_run hT (nm := N) hd' (K := fun σ' => Q .normal σ' N1) (fun m Im w a σ' hq hs' => ⟨σ', N1, m, Im, hq, hN ▸ hs'⟩) ops.toList 0 (Nat.zero_le _) rfl (h _ fun _ h => h) (hs.less fun k hk => (show N ≤ k from by simpa using hk))
end
end Go.Proofs.Ytcblpjheoclkeaa

namespace Go.Proofs.Ytcblpjheoclkeaa
open Go.RowKit
def TSO_3 : TI := ⟨1, false, [Value.int IntKind.i64 0], [], none, 8, 2, none, false⟩
theorem TSO_3_ok : TypOk Try.prog 3 TSO_3 := ⟨by kernel_rfl, by kernel_rfl, by kernel_rfl, by kernel_rfl, by kernel_rfl⟩
def TSO_46 : TI := ⟨1, false, [Value.slice none 0 0], [], some 88, 24, 5, none, false⟩
theorem TSO_46_ok : TypOk Try.prog 46 TSO_46 := ⟨by kernel_rfl, by kernel_rfl, by kernel_rfl, by kernel_rfl, by kernel_rfl⟩
def TSO_88 : TI := ⟨5, true, [Value.int IntKind.i64 0, Value.slice none 0 0, Value.int IntKind.i64 0, Value.int IntKind.i64 0, Value.slice none 0 0], [(0, 1, false), (1, 4, true)], none, 72, 6, none, false⟩
theorem TSO_88_ok : TypOk Try.prog 88 TSO_88 := ⟨by kernel_rfl, by kernel_rfl, by kernel_rfl, by kernel_rfl, by kernel_rfl⟩
def TSO_198 : TI := ⟨1, false, [Value.int IntKind.u64 0], [], none, 8, 2, none, false⟩
theorem TSO_198_ok : TypOk Try.prog 198 TSO_198 := ⟨by kernel_rfl, by kernel_rfl, by kernel_rfl, by kernel_rfl, by kernel_rfl⟩
def TSO_200 : TI := ⟨1, false, [Value.nilFunc], [], none, 8, 8, none, false⟩
theorem TSO_200_ok : TypOk Try.prog 200 TSO_200 := ⟨by kernel_rfl, by kernel_rfl, by kernel_rfl, by kernel_rfl, by kernel_rfl⟩
def TSO_47 : TI := ⟨1, false, [Value.slice none 0 0], [], some 88, 24, 5, none, false⟩
theorem TSO_47_ok : TypOk Try.prog 47 TSO_47 := ⟨by kernel_rfl, by kernel_rfl, by kernel_rfl, by kernel_rfl, by kernel_rfl⟩
def TSO : List (Nat × TI) := [(3, TSO_3), (46, TSO_46), (88, TSO_88), (198, TSO_198), (200, TSO_200), (47, TSO_47)]
theorem TSO_ok : TabOk Try.prog TSO := (((((((TabOk.nil _).cons TSO_47_ok).cons TSO_200_ok).cons TSO_198_ok).cons TSO_88_ok).cons TSO_46_ok).cons TSO_3_ok)

theorem at_ {α : Type} {P R L : List α} {x : α} {i : Nat} (h : L = P ++ x :: R) (hi : P.length = i) : L[i]? = some x := by subst h; subst hi; simp
theorem pl_ok {L : List (Int × Tm)} {n i : Nat} {x : Int × Tm} (hn : L.length = n) (h : L[i]? = some x) : (ePairs L).length = n ∧ i < n ∧ ((ePairs L).getD i []).length = 5 := by
  have hi : i < L.length := by
    rcases Nat.lt_or_ge i L.length with h' | h'
    · exact h'
    · rw [List.getElem?_eq_none h'] at h; cases h
  exact ⟨by rw [ePairs_len, hn], by omega, by rw [ePairs_getD L i hi, ePair_eq]; rfl⟩
theorem pl_eq {L : List (Int × Tm)} {i : Nat} {x : Int × Tm} (h : L[i]? = some x) : VLe (.ag ((ePairs L).getD i [])) (.ag [.v (.int .i64 x.1), .sl 2 (eTys x.2.binds) none, .v (.int .i64 x.2.kind), .v (.int .i64 x.2.index), .sl 4 (eTms x.2.args) none]) := by
  have hi : i < L.length := by
    rcases Nat.lt_or_ge i L.length with h' | h'
    · exact h'
    · rw [List.getElem?_eq_none h'] at h; cases h
  rw [List.getElem?_eq_getElem hi] at h
  cases h
  exact VLe.of_eq (by rw [ePairs_getD L i hi, ePair_eq])
theorem pl_lt {α : Type} {L : List α} {n i : Nat} {x : α} (hn : L.length = n) (h : L[i]? = some x) : i < n := by
  rcases Nat.lt_or_ge i L.length with h' | h'
  · omega
  · rw [List.getElem?_eq_none h'] at h; cases h
theorem rowPut5 (r : List D) (a b c d e : D) : rowPut r 0 5 [a, b, c, d, e] = [a, b, c, d, e] := if_pos ⟨rfl, rfl⟩
theorem eP_set (L : List (Int × Tm)) (i : Nat) (x : Int × Tm) (r : List D) : (ePairs L).set i (rowPut r 0 5 [.v (.int .i64 x.1), .sl 2 (eTys x.2.binds) none, .v (.int .i64 x.2.kind), .v (.int .i64 x.2.index), .sl 4 (eTms x.2.args) none]) = ePairs (L.set i x) := by
  rw [rowPut5, ← ePair_eq, ePairs, ePairs, List.map_set]
theorem set_two {α : Type} {P Q R : List α} {x y : α} {i j : Nat} (hi : P.length = i) (hj : i + 1 + Q.length = j) : ((P ++ x :: (Q ++ y :: R)).set i y).set j x = P ++ y :: (Q ++ x :: R) := by
  subst hi hj
  rw [List.set_append_right _ _ (Nat.le_refl _), Nat.sub_self, List.set_cons_zero, List.set_append_right _ _ (by omega), show P.length + 1 + Q.length - P.length = Q.length + 1 by omega, List.set_cons_succ, List.set_append_right _ _ (Nat.le_refl _), Nat.sub_self, List.set_cons_zero]
theorem eP_swap {P Q R L L' : List (Int × Tm)} {x y : Int × Tm} {i j : Nat} (hL : L = P ++ x :: (Q ++ y :: R)) (hi : P.length = i) (hj : i + 1 + Q.length = j) (hL' : L' = P ++ y :: (Q ++ x :: R)) :
    ((ePairs L).set i (rowPut ((ePairs L).getD i []) 0 5 [.v (.int .i64 y.1), .sl 2 (eTys y.2.binds) none, .v (.int .i64 y.2.kind), .v (.int .i64 y.2.index), .sl 4 (eTms y.2.args) none])).set j (rowPut (((ePairs L).set i (rowPut ((ePairs L).getD i []) 0 5 [.v (.int .i64 y.1), .sl 2 (eTys y.2.binds) none, .v (.int .i64 y.2.kind), .v (.int .i64 y.2.index), .sl 4 (eTms y.2.args) none])).getD j []) 0 5 [.v (.int .i64 x.1), .sl 2 (eTys x.2.binds) none, .v (.int .i64 x.2.kind), .v (.int .i64 x.2.index), .sl 4 (eTms x.2.args) none]) = ePairs L' := by
  rw [eP_set, eP_set, hL, hL', set_two hi hj]
theorem eP_swap' {P Q R L L' : List (Int × Tm)} {x y : Int × Tm} {i j : Nat} (hL : L = P ++ x :: (Q ++ y :: R)) (hi : P.length = i) (hj : i + 1 + Q.length = j) (hL' : L' = P ++ y :: (Q ++ x :: R)) :
    ((ePairs L).set j (rowPut ((ePairs L).getD j []) 0 5 [.v (.int .i64 x.1), .sl 2 (eTys x.2.binds) none, .v (.int .i64 x.2.kind), .v (.int .i64 x.2.index), .sl 4 (eTms x.2.args) none])).set i (rowPut (((ePairs L).set j (rowPut ((ePairs L).getD j []) 0 5 [.v (.int .i64 x.1), .sl 2 (eTys x.2.binds) none, .v (.int .i64 x.2.kind), .v (.int .i64 x.2.index), .sl 4 (eTms x.2.args) none])).getD i []) 0 5 [.v (.int .i64 y.1), .sl 2 (eTys y.2.binds) none, .v (.int .i64 y.2.kind), .v (.int .i64 y.2.index), .sl 4 (eTms y.2.args) none]) = ePairs L' := by
  rw [eP_set, eP_set, hL, hL', List.set_comm _ _ (by omega), set_two hi hj]
theorem st_ok {L : List (Int × Tm)} {n i : Nat} {x : Int × Tm} (hn : L.length = n) (h : L[i]? = some x) : (ePairs L).length = n ∧ i < n := ⟨(pl_ok hn h).1, (pl_ok hn h).2.1⟩
theorem st_ok2 {L : List (Int × Tm)} {n i j : Nat} {x : Int × Tm} {r : List D} (hn : L.length = n) (h : L[i]? = some x) : ((ePairs L).set j r).length = n ∧ i < n := ⟨by rw [List.length_set]; exact (pl_ok hn h).1, (pl_ok hn h).2.1⟩

theorem swapR_d (A U M V Z : List (Int × Tm)) (n a b k : Nat) (hn : (A ++ U ++ M ++ V ++ Z).length = n) (ha : A.length = a) (hb : a + U.length + M.length = b) (hk : U.length = k) (hv : V.length = k) (hM : n ≤ 1000000) :
  CallG Try.prog 209 [.ps 0 n, .v (.int .i64 ↑a), .v (.int .i64 ↑b), .v (.int .i64 ↑k), .fn 106 []] [(.r 0, .rp 88 5 (ePairs (A ++ U ++ M ++ V ++ Z)))] [(.r 0, .rp 88 5 (ePairs (A ++ V ++ M ++ U ++ Z)))] (.tu []) := by
 refine callG_of_dw 1 38 [] TSO_ok (by kernel_rfl) Try.func209 rfl Try.ntmps209 rfl (by simp) ?dwords ?dbody
 case dwords => simp [wordsG, rowN, rowsR, gkey, Key.eq, D.ok, D.oks, D.okss, rnames, inN, ckey, ePairs_ok]
 case dbody =>
  intro cx hnt hn0
  refine dw_seq ?_; refine dwk [] TSO_ok hnt fun K hK => ?_; refine hK _ _ ?_; clear hK K; refine dw_block ?_
  refine dw_loop (ι := { p : List (Int × Tm) × List (Int × Tm) × List (Int × Tm) × List (Int × Tm) // p.1 ++ p.2.1 = U ∧ p.2.2.1 ++ p.2.2.2 = V ∧ p.1.length = p.2.2.1.length }) (fun p => [(.t 0, .ps 0 n), (.t 1, .v (.int .i64 ↑a)), (.t 2, .v (.int .i64 ↑b)), (.t 3, .v (.int .i64 ↑k)), (.t 10, .v (.int .i64 ↑p.1.1.length)), (.r 0, .rp 88 5 (ePairs (A ++ p.1.2.2.1 ++ p.1.2.1 ++ M ++ p.1.1 ++ p.1.2.2.2 ++ Z)))]) 1 (fun p => p.1.2.1.length) (⟨([], U, [], V), rfl, rfl, rfl⟩) ((VS.toK (by omega) (by repeat first | exact trivial | refine And.intro (And.intro (by first | rfl | simp [D.ok, D.oks, D.okss, D.okm, upto, keyOk, argsT]) (by first | exact Or.inl rfl | exact Or.inr ⟨_, rfl, (by repeat first | exact VLe.refl _ | exact VLe.nil _ | exact VLe.untag _ _ _ | refine VLe.ag ?_ | refine VLe.tu ?_ | refine VLeL.cons ?_ ?_ | exact VLeL.nil), trivial⟩ | simp [get, Key.eq, argsT])) ?_))) fun j => ?_
  obtain ⟨⟨U1, U2, V1, V2⟩, hU, hV, hl⟩ := j
  dsimp only at hU hV hl ⊢
  obtain ⟨L, hL⟩ : ∃ L, A ++ V1 ++ U2 ++ M ++ U1 ++ V2 ++ Z = L := ⟨_, rfl⟩
  have hnL : L.length = n := by rw [← hL, ← hn, ← hU, ← hV]; simp; omega
  rw [hL]
  have hUl : U1.length + U2.length = k := by rw [← hk, ← hU]; simp
  have hVl : V1.length + V2.length = k := by rw [← hv, ← hV]; simp
  cases U2 with
  | nil =>
   have h0 : V2 = [] := List.length_eq_zero_iff.1 (by simp at hUl; omega)
   subst h0
   simp only [List.append_nil] at hU hV
   subst hU hV
   simp only [List.append_nil] at hL
   rw [← hL]
   refine dw_seq ?_; refine dw_seq ?_; refine dwk [(13, .v (.bool false))] TSO_ok hnt fun K hK => ?_; refine And.intro auF ?_; refine hK _ _ ?_; clear hK K; refine dw_cond (t := false) rfl ?_; rw [if_neg (by simp)]; refine dw_exit ?_
   exact reta rfl
  | cons x U2 =>
   cases V2 with
   | nil => simp at hUl hVl; omega
   | cons y V2 =>
    simp at hUl hVl
    have hx : L[a + U1.length]? = some x := at_ (P := A ++ V1) (R := U2 ++ M ++ U1 ++ y :: V2 ++ Z) (by rw [← hL]; simp) (by simp; omega)
    have hy : L[b + U1.length]? = some y := at_ (P := A ++ V1 ++ x :: U2 ++ M ++ U1) (R := V2 ++ Z) (by rw [← hL]; simp) (by simp; omega)
    have lx := pl_lt hnL hx
    have ly := pl_lt hnL hy
    refine dw_seq ?_; refine dw_seq ?_; refine dwk [(13, .v (.bool true))] TSO_ok hnt fun K hK => ?_; refine And.intro auT ?_; refine hK _ _ ?_; clear hK K; refine dw_cond (t := true) rfl ?_; rw [if_pos rfl]; refine dw_skip ?_; refine dw_seq ?_; refine dw_block ?_; refine dwkD [(19, .v (.int .i64 (↑(a + U1.length)))), (23, .v (.int .i64 (↑(b + U1.length)))), (27, .v (.int .i64 (↑(b + U1.length)))), (28, .pr 0 n 5 ((b + U1.length)) 0), (29, .ag [.v (.int .i64 y.1), .sl 2 (eTys y.2.binds) none, .v (.int .i64 y.2.kind), .v (.int .i64 y.2.index), .sl 4 (eTms y.2.args) none]), (33, .v (.int .i64 (↑(a + U1.length)))), (34, .pr 0 n 5 ((a + U1.length)) 0), (35, .ag [.v (.int .i64 x.1), .sl 2 (eTys x.2.binds) none, .v (.int .i64 x.2.kind), .v (.int .i64 x.2.index), .sl 4 (eTms x.2.args) none]), (36, .pr 0 n 5 ((a + U1.length)) 0), (37, .pr 0 n 5 ((b + U1.length)) 0)] TSO_ok hnt fun K hK => ?_
    refine And.intro auI ?_; refine And.intro auI ?_; refine And.intro auI ?_; refine And.intro (by constructor <;> omega) ?_; refine And.intro (by first | rfl | exact VLe.of_eq (by simp)) ?_; refine And.intro (pl_ok hnL hy) ?_; refine And.intro (pl_eq hy) ?_; refine And.intro auI ?_; refine And.intro (by constructor <;> omega) ?_; refine And.intro (by first | rfl | exact VLe.of_eq (by simp)) ?_; refine And.intro (pl_ok hnL hx) ?_
    refine And.intro (pl_eq hx) ?_; refine And.intro (by constructor <;> omega) ?_; refine And.intro (by first | rfl | exact VLe.of_eq (by simp)) ?_; refine And.intro (st_ok hnL hx) ?_; refine And.intro (by constructor <;> omega) ?_; refine And.intro (by first | rfl | exact VLe.of_eq (by simp)) ?_; refine And.intro (st_ok2 hnL hy) ?_; refine hK _ _ (by kernel_rfl) ?_; clear hK K
    rw [eP_swap (P := A ++ V1) (Q := U2 ++ M ++ U1) (R := V2 ++ Z) (L' := A ++ (V1 ++ [y]) ++ U2 ++ M ++ (U1 ++ [x]) ++ V2 ++ Z) (by rw [← hL]; simp) (by simp; omega) (by simp; omega) (by simp)]
    refine dwk [(15, .v (.int .i64 (↑(U1 ++ [x]).length)))] TSO_ok hnt fun K hK => ?_; refine And.intro (dintE (by rw [IntWalk.i64_in _ (by omega)]; simp)) ?_; refine hK _ _ ?_; clear hK K
    refine ⟨⟨(U1 ++ [x], U2, V1 ++ [y], V2), by rw [← hU]; simp, by rw [← hV]; simp, by simp; omega⟩, by simp, VS.toA⟩
theorem cmpI_lt {a b : Int} : cmpI a b < 0 ↔ a < b := by
  unfold cmpI
  split
  · simp [*]
  · split <;> simp [*]
theorem snoc_cases {α : Type} (l : List α) : l = [] ∨ ∃ L b, l = L ++ [b] := by
  rcases List.eq_nil_or_concat l with h | ⟨L, b, h⟩
  · exact .inl h
  · exact .inr ⟨L, b, by rw [h, List.concat_eq_append]⟩
theorem rotate_d (A X Y Z : List (Int × Tm)) (n a m b : Nat) (hn : (A ++ X ++ Y ++ Z).length = n) (ha : A.length = a) (hm : a + X.length = m) (hb : m + Y.length = b) (hX : 0 < X.length) (hY : 0 < Y.length) (hM : n ≤ 1000000) :
  CallG Try.prog 200 [.ps 0 n, .v (.int .i64 ↑a), .v (.int .i64 ↑m), .v (.int .i64 ↑b), .fn 106 []] [(.r 0, .rp 88 5 (ePairs (A ++ X ++ Y ++ Z)))] [(.r 0, .rp 88 5 (ePairs (A ++ Y ++ X ++ Z)))] (.tu []) := by
 have hbn : b ≤ n := by simp at hn; omega
 refine callG_of_dw 1 58 [] TSO_ok (by kernel_rfl) Try.func200 rfl Try.ntmps200 rfl (by simp) ?dwords ?dbody
 case dwords => simp [wordsG, rowN, rowsR, gkey, Key.eq, D.ok, D.oks, D.okss, rnames, inN, ckey, ePairs_ok]
 case dbody =>
  intro cx hnt hn0
  refine dw_seq ?_; refine dwk [(14, .v (.int .i64 (↑X.length)))] TSO_ok hnt fun K hK => ?_; refine And.intro auI ?_; refine hK _ _ ?_; clear hK K; refine dw_seq ?_; refine dwk [(17, .v (.int .i64 (↑Y.length)))] TSO_ok hnt fun K hK => ?_; refine And.intro auI ?_; refine hK _ _ ?_; clear hK K; refine dw_seq ?_; refine dw_block ?_
  refine dw_loop (ι := { p : List (Int × Tm) × List (Int × Tm) × List (Int × Tm) × List (Int × Tm) // p.1 ++ p.2.2.1 ++ p.2.1 ++ p.2.2.2 = A ++ Y ++ X ++ Z ∧ p.1.length + p.2.1.length = m ∧ 0 < p.2.1.length ∧ 0 < p.2.2.1.length }) (fun p => [(.t 0, .ps 0 n), (.t 2, .v (.int .i64 ↑m)), (.t 4, .fn 106 []), (.t 10, .v (.int .i64 ↑p.1.2.1.length)), (.t 11, .v (.int .i64 ↑p.1.2.2.1.length)), (.r 0, .rp 88 5 (ePairs (p.1.1 ++ p.1.2.1 ++ p.1.2.2.1 ++ p.1.2.2.2)))]) 1 (fun p => p.1.2.1.length + p.1.2.2.1.length) (⟨(A, X, Y, Z), rfl, by dsimp only; omega, hX, hY⟩) ((VS.toK (by omega) (by repeat first | exact trivial | refine And.intro (And.intro (by first | rfl | simp [D.ok, D.oks, D.okss, D.okm, upto, keyOk, argsT]) (by first | exact Or.inl rfl | exact Or.inr ⟨_, rfl, (by repeat first | exact VLe.refl _ | exact VLe.nil _ | exact VLe.untag _ _ _ | refine VLe.ag ?_ | refine VLe.tu ?_ | refine VLeL.cons ?_ ?_ | exact VLeL.nil), trivial⟩ | simp [get, Key.eq, argsT])) ?_))) fun j => ?_
  obtain ⟨⟨P, X', Y', Q⟩, hs, hp, h1, h2⟩ := j
  dsimp only at hs hp h1 h2 ⊢
  have hnn : (P ++ X' ++ Y' ++ Q).length = n := by
   have := congrArg List.length hs
   simp at this hn ⊢; omega
  have hmn : m ≤ n := by omega
  have hln : P.length + X'.length + Y'.length + Q.length = n := by rw [← hnn]; simp; omega
  by_cases hne : X'.length = Y'.length
  ·have hsw := swapR_d P X' [] Y' Q n P.length m X'.length (by rw [List.append_nil]; exact hnn) rfl (by simp; omega) rfl hne.symm hM
   rw [List.append_nil, List.append_nil, hs] at hsw
   refine dw_seq ?_; refine dw_seq ?_; refine dwk [(20, .v (.bool false))] TSO_ok hnt fun K hK => ?_; refine And.intro (bneF (by omega)) ?_; refine hK _ _ ?_; clear hK K; refine dw_cond (t := false) rfl ?_; rw [if_neg (by simp)]; refine dw_exit ?_; refine dwk [(53, .v (.int .i64 (↑P.length)))] TSO_ok hnt fun K hK => ?_; refine And.intro auI ?_; refine dcn (CallG.n (hsw) _) ?_; refine hK _ _ ?_; clear hK K
   exact reta rfl
  ·by_cases hgt : Y'.length < X'.length
   ·obtain ⟨S, T, hST, hS⟩ : ∃ S T, X' = S ++ T ∧ S.length = Y'.length := ⟨X'.take Y'.length, X'.drop Y'.length, (List.take_append_drop _ _).symm, by simp; omega⟩
    have hL : P ++ X' ++ Y' ++ Q = P ++ S ++ T ++ Y' ++ Q := by rw [hST]; simp
    have hXl : X'.length = S.length + T.length := by rw [hST]; simp
    have hsw := swapR_d P S T Y' Q n P.length m Y'.length (by rw [← hL]; exact hnn) rfl (by omega) hS rfl hM
    rw [hL]
    refine dw_seq ?_; refine dw_seq ?_; refine dwk [(20, .v (.bool true))] TSO_ok hnt fun K hK => ?_; refine And.intro (bneT (by omega)) ?_; refine hK _ _ ?_; clear hK K; refine dw_cond (t := true) rfl ?_; rw [if_pos rfl]; refine dw_skip ?_; refine dw_block ?_; refine dw_seq ?_; refine dwk [(23, .v (.bool true))] TSO_ok hnt fun K hK => ?_; refine And.intro auT ?_; refine hK _ _ ?_; clear hK K; refine dw_cond (t := true) rfl ?_
    rw [if_pos rfl]; refine dw_seq ?_; refine dwk [(27, .v (.int .i64 (↑P.length)))] TSO_ok hnt fun K hK => ?_; refine And.intro auI ?_; refine dcn (CallG.n (hsw) _) ?_; refine hK _ _ ?_; clear hK K; refine dwk [(34, .v (.int .i64 (↑T.length)))] TSO_ok hnt fun K hK => ?_; refine And.intro auI ?_; refine hK _ _ ?_; clear hK K
    rw [← hS]
    refine ⟨⟨(P ++ Y', T, S, Q), by rw [← hs, hST]; simp, by simp; omega, by dsimp only; omega, by dsimp only; omega⟩, by first | omega | (dsimp only; omega), VS.toA⟩
   ·obtain ⟨S, T, hST, hT⟩ : ∃ S T, Y' = S ++ T ∧ T.length = X'.length := ⟨Y'.take (Y'.length - X'.length), Y'.drop (Y'.length - X'.length), (List.take_append_drop _ _).symm, by simp; omega⟩
    have hL : P ++ X' ++ Y' ++ Q = P ++ X' ++ S ++ T ++ Q := by rw [hST]; simp
    have hYl : Y'.length = S.length + T.length := by rw [hST]; simp
    have hsw := swapR_d P X' S T Q n P.length (m + S.length) X'.length (by rw [← hL]; exact hnn) rfl (by omega) rfl hT hM
    rw [hL]
    refine dw_seq ?_; refine dw_seq ?_; refine dwk [(20, .v (.bool true))] TSO_ok hnt fun K hK => ?_; refine And.intro (bneT (by omega)) ?_; refine hK _ _ ?_; clear hK K; refine dw_cond (t := true) rfl ?_; rw [if_pos rfl]; refine dw_skip ?_; refine dw_block ?_; refine dw_seq ?_; refine dwk [(23, .v (.bool false))] TSO_ok hnt fun K hK => ?_; refine And.intro auF ?_; refine hK _ _ ?_; clear hK K; refine dw_cond (t := false) rfl ?_
    rw [if_neg (by simp)]; refine dw_seq ?_; refine dwk [(38, .v (.int .i64 (↑P.length))), (41, .v (.int .i64 (↑(m + Y'.length)))), (43, .v (.int .i64 (↑(m + S.length))))] TSO_ok hnt fun K hK => ?_; refine And.intro auI ?_; refine And.intro auI ?_; refine And.intro auI ?_; refine dcn (CallG.n (hsw) _) ?_; refine hK _ _ ?_; clear hK K; refine dwk [(49, .v (.int .i64 (↑S.length)))] TSO_ok hnt fun K hK => ?_
    refine And.intro auI ?_; refine hK _ _ ?_; clear hK K
    rw [← hT]
    refine ⟨⟨(P, T, S, X' ++ Q), by rw [← hs, hST]; simp, by dsimp only; omega, by dsimp only; omega, by dsimp only; omega⟩, by first | omega | (dsimp only; omega), VS.toA⟩
theorem insSort_d (A X Z : List (Int × Tm)) (n a b : Nat) (hn : (A ++ X ++ Z).length = n) (ha : A.length = a) (hb : a + X.length = b) (hM : n ≤ 1000000) :
  CallG Try.prog 195 [.ps 0 n, .v (.int .i64 ↑a), .v (.int .i64 ↑b), .fn 106 []] [(.r 0, .rp 88 5 (ePairs (A ++ X ++ Z)))] [(.r 0, .rp 88 5 (ePairs (A ++ So.ss X ++ Z)))] (.tu []) := by
 have hln : A.length + X.length + Z.length = n := by rw [← hn]; simp; omega
 obtain ⟨X1, X2, rfl, h0, hs⟩ : ∃ X1 X2, X = X1 ++ X2 ∧ (X2 = [] ∧ b ≤ a + 1 ∨ a + 1 = a + X1.length ∧ 0 < X1.length) ∧ So.ss X1 = X1 := by
  cases X with
  | nil => exact ⟨[], [], rfl, .inl ⟨rfl, by simp at hb; omega⟩, rfl⟩
  | cons x X => exact ⟨[x], X, rfl, .inr ⟨rfl, Nat.one_pos⟩, So.ss_one x⟩
 obtain ⟨X, hXX⟩ : ∃ X, X1 ++ X2 = X := ⟨_, rfl⟩
 rw [hXX] at hb hln
 refine callG_of_dw 1 53 [] TSO_ok (by kernel_rfl) Try.func195 rfl Try.ntmps195 rfl (by simp) ?dwords ?dbody
 case dwords => simp [wordsG, rowN, rowsR, gkey, Key.eq, D.ok, D.oks, D.okss, rnames, inN, ckey, ePairs_ok]
 case dbody =>
  intro cx hnt hn0
  refine dw_seq ?_; refine dwk [(11, .v (.int .i64 (↑(a + 1))))] TSO_ok hnt fun K hK => ?_; refine And.intro auI ?_; refine hK _ _ ?_; clear hK K; refine dw_block ?_
  refine dw_loop (ι := { p : List (Int × Tm) × List (Int × Tm) × Nat // p.1 ++ p.2.1 = X ∧ (p.2.1 = [] ∧ b ≤ p.2.2 ∨ p.2.2 = a + p.1.length ∧ 0 < p.1.length) }) (fun p => [(.t 0, .ps 0 n), (.t 1, .v (.int .i64 ↑a)), (.t 2, .v (.int .i64 ↑b)), (.t 3, .fn 106 []), (.t 8, .v (.int .i64 ↑p.1.2.2)), (.r 0, .rp 88 5 (ePairs (A ++ So.ss p.1.1 ++ p.1.2.1 ++ Z)))]) 1 (fun p => p.1.2.1.length) (⟨(X1, X2, a + 1), hXX, h0⟩) ((VS.toK (by omega) (by repeat first | exact trivial | refine And.intro (And.intro (by first | rfl | simp [D.ok, D.oks, D.okss, D.okm, upto, keyOk, argsT, hs]) (by first | exact Or.inl rfl | exact Or.inr ⟨_, rfl, (by repeat first | exact VLe.refl _ | exact VLe.nil _ | exact VLe.untag _ _ _ | refine VLe.ag ?_ | refine VLe.tu ?_ | refine VLeL.cons ?_ ?_ | exact VLeL.nil), trivial⟩ | simp [get, Key.eq, argsT, hs])) ?_))) fun j => ?_
  obtain ⟨⟨Y1, Y2, i⟩, hY, hi⟩ := j
  dsimp only at hY hi ⊢
  have hYl : X.length = Y1.length + Y2.length := by rw [← hY]; simp
  cases Y2 with
  | nil =>
   have hib : b ≤ i := by
    rcases hi with hi | hi
    ·exact hi.2
    ·rw [List.length_nil] at hYl; omega
   rw [List.append_nil] at hY ⊢
   subst hY
   rw [hXX]
   refine dw_seq ?_; refine dw_seq ?_; refine dwk [(14, .v (.bool false))] TSO_ok hnt fun K hK => ?_; refine And.intro auF ?_; refine hK _ _ ?_; clear hK K; refine dw_cond (t := false) rfl ?_; rw [if_neg (by simp)]; refine dw_exit ?_
   exact reta rfl
  | cons x Y2 =>
   have hi2 : i = a + Y1.length := by
    rcases hi with hi | hi
    ·cases hi.1
    ·exact hi.1
   rw [List.length_cons] at hYl
   refine dw_seq ?_; refine dw_seq ?_; refine dwk [(14, .v (.bool true))] TSO_ok hnt fun K hK => ?_; refine And.intro auT ?_; refine hK _ _ ?_; clear hK K; refine dw_cond (t := true) rfl ?_; rw [if_pos rfl]; refine dw_skip ?_; refine dw_seq ?_; refine dw_block ?_; refine dw_seq ?_; refine dwk [(9, .v (.int .i64 ↑(a + (So.ss Y1).length)))] TSO_ok hnt fun K hK => ?_; refine And.intro (VLe.of_eq (by rw [So.ss_len, hi2])) ?_
   refine hK _ _ ?_; clear hK K; refine dw_block ?_
   refine dw_loop (ι := { p : List (Int × Tm) × List (Int × Tm) // p.1 ++ p.2 = So.ss Y1 ∧ ∀ s ∈ p.2, x.1 < s.1 }) (fun p => [(.t 0, .ps 0 n), (.t 1, .v (.int .i64 ↑a)), (.t 2, .v (.int .i64 ↑b)), (.t 3, .fn 106 []), (.t 8, .v (.int .i64 ↑i)), (.t 9, .v (.int .i64 ↑(a + p.1.1.length))), (.r 0, .rp 88 5 (ePairs (A ++ p.1.1 ++ x :: p.1.2 ++ Y2 ++ Z)))]) 1 (fun p => p.1.1.length) (⟨(So.ss Y1, []), by simp, by simp⟩) (VS.toA) fun j => ?_
   obtain ⟨⟨S1, S2⟩, hS, hg⟩ := j
   dsimp only at hS hg ⊢
   have hSl : S1.length + S2.length = Y1.length := by rw [← So.ss_len Y1, ← hS]; simp
   obtain ⟨L, hL⟩ : ∃ L, A ++ S1 ++ x :: S2 ++ Y2 ++ Z = L := ⟨_, rfl⟩
   have hnL : L.length = n := by rw [← hL]; simp; omega
   rw [hL]
   have hdone : ∀ h1 : (∀ s ∈ S1, s.1 ≤ x.1), L = A ++ So.ss (Y1 ++ [x]) ++ Y2 ++ Z := fun h1 => by
    rw [So.ss_snoc hS h1 hg, ← hL]; simp
   rcases snoc_cases S1 with rfl | ⟨S, s, rfl⟩
   ·rw [hdone (by simp)]
    refine dw_seq ?_; refine dw_seq ?_; refine dwkD [(20, .v (.bool false))] TSO_ok hnt fun K hK => ?_; refine And.intro (by first | exact dfalse (by simp) | exact VLe.of_eq (by simp)) ?_; refine hK _ _ (by kernel_rfl) ?_; clear hK K; refine dw_cond (t := false) rfl ?_; rw [if_neg (by simp)]; refine dw_exit ?_; refine dwk [(16, .v (.int .i64 (↑(i + 1))))] TSO_ok hnt fun K hK => ?_; refine And.intro (dintE (by rw [IntWalk.i64_in _ (by omega)]; omega)) ?_
    refine hK _ _ ?_; clear hK K
    refine ⟨⟨(Y1 ++ [x], Y2, i + 1), by rw [← hY]; simp, .inr ⟨by simp; omega, by simp⟩⟩, by simp, VS.toA⟩
   ·have hj : a + (S ++ [s]).length = a + S.length + 1 := by simp; omega
    rw [hj]
    simp at hSl
    have hx : L[a + S.length + 1]? = some x := at_ (P := A ++ S ++ [s]) (R := S2 ++ Y2 ++ Z) (by rw [← hL]; simp) (by simp; omega)
    have hy : L[a + S.length]? = some s := at_ (P := A ++ S) (R := x :: S2 ++ Y2 ++ Z) (by rw [← hL]; simp) (by simp; omega)
    have lx := pl_lt hnL hx
    have ho := sorder_d x s
    rw [ePair_eq, ePair_eq] at ho
    by_cases hlt : x.1 < s.1
    ·skip
     refine dw_seq ?_; refine dw_seq ?_; refine dwkD [(20, .v (.bool true)), (25, .pr 0 n 5 ((a + S.length + 1)) 0), (26, .ag [.v (.int .i64 x.1), .sl 2 (eTys x.2.binds) none, .v (.int .i64 x.2.kind), .v (.int .i64 x.2.index), .sl 4 (eTms x.2.args) none]), (29, .v (.int .i64 (↑(a + S.length)))), (30, .pr 0 n 5 ((a + S.length)) 0), (31, .ag [.v (.int .i64 s.1), .sl 2 (eTys s.2.binds) none, .v (.int .i64 s.2.kind), .v (.int .i64 s.2.index), .sl 4 (eTms s.2.args) none]), (33, .v (.bool true))] TSO_ok hnt fun K hK => ?_
     refine And.intro (by first | exact dtrue (by simp; omega) | exact VLe.of_eq (by simp; omega)) ?_; refine And.intro (by constructor <;> omega) ?_; refine And.intro (by first | rfl | exact VLe.of_eq (by simp)) ?_; refine And.intro (pl_ok hnL hx) ?_; refine And.intro (pl_eq hx) ?_; refine And.intro auI ?_; refine And.intro (by constructor <;> omega) ?_; refine And.intro (by first | rfl | exact VLe.of_eq (by simp)) ?_
     refine And.intro (pl_ok hnL hy) ?_; refine And.intro (pl_eq hy) ?_; refine dcl (ho) ?_; refine And.intro (dtrue (cmpI_lt.2 hlt)) ?_; refine hK _ _ (by kernel_rfl) ?_; clear hK K; refine dw_cond (t := true) rfl ?_; rw [if_pos rfl]; refine dw_skip ?_; refine dw_seq ?_; refine dw_block ?_; refine dwkD [(41, .v (.int .i64 (↑(a + S.length)))), (44, .v (.int .i64 (↑(a + S.length)))), (45, .pr 0 n 5 ((a + S.length)) 0), (46, .ag [.v (.int .i64 s.1), .sl 2 (eTys s.2.binds) none, .v (.int .i64 s.2.kind), .v (.int .i64 s.2.index), .sl 4 (eTms s.2.args) none]), (49, .pr 0 n 5 ((a + S.length + 1)) 0), (50, .ag [.v (.int .i64 x.1), .sl 2 (eTys x.2.binds) none, .v (.int .i64 x.2.kind), .v (.int .i64 x.2.index), .sl 4 (eTms x.2.args) none]), (51, .pr 0 n 5 ((a + S.length + 1)) 0), (52, .pr 0 n 5 ((a + S.length)) 0)] TSO_ok hnt fun K hK => ?_
     refine And.intro auI ?_; refine And.intro auI ?_; refine And.intro (by constructor <;> omega) ?_; refine And.intro (by first | rfl | exact VLe.of_eq (by simp)) ?_; refine And.intro (pl_ok hnL hy) ?_; refine And.intro (pl_eq hy) ?_; refine And.intro (by constructor <;> omega) ?_; refine And.intro (by first | rfl | exact VLe.of_eq (by simp)) ?_; refine And.intro (pl_ok hnL hx) ?_; refine And.intro (pl_eq hx) ?_
     refine And.intro (by constructor <;> omega) ?_; refine And.intro (by first | rfl | exact VLe.of_eq (by simp)) ?_; refine And.intro (st_ok hnL hx) ?_; refine And.intro (by constructor <;> omega) ?_; refine And.intro (by first | rfl | exact VLe.of_eq (by simp)) ?_; refine And.intro (st_ok2 hnL hy) ?_; refine hK _ _ (by kernel_rfl) ?_; clear hK K
     rw [eP_swap' (P := A ++ S) (Q := []) (R := S2 ++ Y2 ++ Z) (L' := A ++ S ++ x :: (s :: S2) ++ Y2 ++ Z) (by rw [← hL]; simp) (by simp; omega) (by simp) (by simp)]
     refine dwk [(36, .v (.int .i64 (↑(a + S.length))))] TSO_ok hnt fun K hK => ?_; refine And.intro auI ?_; refine hK _ _ ?_; clear hK K
     refine ⟨⟨(S, s :: S2), by rw [← hS]; simp, fun u hu => (List.mem_cons.1 hu).elim (fun e => e ▸ hlt) (hg u)⟩, by simp, VS.toA⟩
    ·have hsrt := So.ss_srt Y1
     rw [← hS] at hsrt
     have hall : ∀ u ∈ S ++ [s], u.1 ≤ x.1 := fun u hu => by
      rcases List.mem_append.1 hu with hu | hu
      ·have := (So.srt_app.1 (So.srt_app.1 hsrt).1).2.2 u hu s (by simp); omega
      ·rw [List.mem_singleton] at hu; subst hu; omega
     refine dw_seq ?_; refine dw_seq ?_; refine dwkD [(20, .v (.bool true)), (25, .pr 0 n 5 ((a + S.length + 1)) 0), (26, .ag [.v (.int .i64 x.1), .sl 2 (eTys x.2.binds) none, .v (.int .i64 x.2.kind), .v (.int .i64 x.2.index), .sl 4 (eTms x.2.args) none]), (29, .v (.int .i64 (↑(a + S.length)))), (30, .pr 0 n 5 ((a + S.length)) 0), (31, .ag [.v (.int .i64 s.1), .sl 2 (eTys s.2.binds) none, .v (.int .i64 s.2.kind), .v (.int .i64 s.2.index), .sl 4 (eTms s.2.args) none]), (33, .v (.bool false))] TSO_ok hnt fun K hK => ?_
     refine And.intro (by first | exact dtrue (by simp; omega) | exact VLe.of_eq (by simp; omega)) ?_; refine And.intro (by constructor <;> omega) ?_; refine And.intro (by first | rfl | exact VLe.of_eq (by simp)) ?_; refine And.intro (pl_ok hnL hx) ?_; refine And.intro (pl_eq hx) ?_; refine And.intro auI ?_; refine And.intro (by constructor <;> omega) ?_; refine And.intro (by first | rfl | exact VLe.of_eq (by simp)) ?_
     refine And.intro (pl_ok hnL hy) ?_; refine And.intro (pl_eq hy) ?_; refine dcl (ho) ?_; refine And.intro (dfalse (fun h => hlt (cmpI_lt.1 h))) ?_; refine hK _ _ (by kernel_rfl) ?_; clear hK K; refine dw_cond (t := false) rfl ?_; rw [if_neg (by simp)]
     rw [hdone hall]
     refine dw_exit ?_; refine dwk [(16, .v (.int .i64 (↑(i + 1))))] TSO_ok hnt fun K hK => ?_; refine And.intro auI ?_; refine hK _ _ ?_; clear hK K
     refine ⟨⟨(Y1 ++ [x], Y2, i + 1), by rw [← hY]; simp, .inr ⟨by simp; omega, by simp⟩⟩, by simp, VS.toA⟩
end Go.Proofs.Ytcblpjheoclkeaa

