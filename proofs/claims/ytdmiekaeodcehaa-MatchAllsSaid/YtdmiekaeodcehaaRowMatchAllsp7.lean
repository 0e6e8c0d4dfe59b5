/-
  Package match, walked in the deep way: walk, may. Deep values: regions with steps through a map. Package slices' stable sort of pairs, walked in the deep way: insertion, swaps, rotation. Package slices' stable sort of pairs, walked in the deep way: the merge. Package slices' stable sort of pairs, walked in the deep way: the merge of many. Package slices' stable sort of pairs, walked in the deep way: the whole; subst.sorted, subst.Of. Package match, walked in the deep way: what was found as a substitution; several at once. The readings of a row's arguments that are pairs of a pattern and a term.
-/
import Derived.Test.YtdmiekaeodcehaaRowMatchAllsp6
import Derived.Test.YtdmiekaeodcehaaRowMatchAllsp4
import Derived.Maps.RangeRun
import Derived.Test.YtdmiekaeodcehaaRowMatchAllsp5
set_option maxRecDepth 100000
set_option maxHeartbeats 1000000
set_option linter.unusedVariables false
set_option linter.unusedSimpArgs false
namespace Go.Proofs.Ytdmiekaeodcehaa
open Go.RowKit

namespace Pn
theorem walks_app (ar : List Ty) : ∀ (l r ts : List Tm) (b : Bd), walks (l ++ r) ts ar b = if (walks l ts ar b).1 then walks r (ts.drop l.length) ar (walks l ts ar b).2 else walks l ts ar b
  | [], r, ts, b => by simp [walks]
  | p :: l, r, ts, b => by
    rw [List.cons_append, walks, walks]
    by_cases h : (walk p (ts.headD Tm.zero) ar b).1 = true
    · rw [if_pos h, if_pos h, walks_app ar l r]
      have : ts.tail.drop l.length = ts.drop (p :: l).length := by cases ts <;> simp
      rw [this]
    · rw [if_neg h, if_neg h, if_neg h]
theorem walks_take (ar : List Ty) (a ts : List Tm) (b b' : Bd) (j : Nat) (hj : j < a.length) (ht : j < ts.length) (h : walks (a.take j) ts ar b = (true, b')) : walks (a.take (j + 1)) ts ar b = walk a[j] ts[j] ar b' := by
  rw [List.take_add_one, List.getElem?_eq_getElem hj]
  show walks (a.take j ++ [a[j]]) ts ar b = _
  rw [walks_app, h, if_pos rfl, List.length_take, Nat.min_eq_left (by omega), walks]
  have : (ts.drop j).headD Tm.zero = ts[j] := by rw [List.drop_eq_getElem_cons ht]; rfl
  rw [this]
  dsimp only
  split
  · rename_i h; rw [walks, ← h]
  · rfl
theorem walks_stop (ar : List Ty) (a ts : List Tm) (b b' : Bd) (j : Nat) (h : walks (a.take j) ts ar b = (false, b')) : walks a ts ar b = (false, b') := by
  have h1 : walks a ts ar b = walks (a.take j ++ a.drop j) ts ar b := by rw [List.take_append_drop]
  rw [h1, walks_app, h, if_neg (by simp)]
theorem types_size (ar : List Ty) : ∀ v : List Int, Ty.sizes (types ar v) ≤ v.length * (Ty.sizes ar + 1)
  | [] => by simp [types, Ty.sizes]
  | i :: v => by
    have h := types_size ar v
    have h1 : (ar.getD ((ar.length : Int) - 1 - i).toNat (.mk [] 0)).size ≤ Ty.sizes ar + 1 := by
      rw [List.getD_eq_getElem?_getD]
      cases hx : ar[((ar.length : Int) - 1 - i).toNat]? with
      | none => simp [Ty.size, Ty.sizes]
      | some x =>
        have hm := List.mem_of_getElem? hx
        have : x.size ≤ Ty.sizes ar := by
          clear hx h
          induction ar with
          | nil => cases hm
          | cons y ar ih =>
            simp only [Ty.sizes]
            rcases List.mem_cons.1 hm with rfl | hm
            · omega
            · have := ih hm; omega
        simp; omega
    have h2 : Ty.sizes (types ar (i :: v)) = (ar.getD ((ar.length : Int) - 1 - i).toNat (.mk [] 0)).size + Ty.sizes (types ar v) := by
      show Ty.sizes (_ :: types ar v) = _
      rw [Ty.sizes]
    rw [h2, List.length_cons, Nat.succ_mul]
    omega
structure BdOk (b : Bd) : Prop where
  keys : (b.map (·.1)).Nodup
  full : ∀ p ∈ b, p.2.full ≤ 80000
  fit : ∀ p ∈ b, p.2.Fit
theorem bdOk_nil : BdOk [] := ⟨List.nodup_nil, nofun, nofun⟩
theorem bfind_none {b : Bd} {m : Int} (h : bfind b m = none) : m ∉ b.map (·.1) := by
  unfold bfind at h
  rw [Option.map_eq_none_iff, List.find?_eq_none] at h
  intro hm
  obtain ⟨p, hp, rfl⟩ := List.mem_map.1 hm
  exact h p hp (by simp)
theorem bput_ok {b : Bd} (h : BdOk b) {m : Int} {t : Tm} (h1 : t.full ≤ 80000) (h2 : t.Fit) : BdOk (bput b m t).2 := by
  unfold bput
  split
  · exact h
  · rename_i hf
    refine ⟨?_, fun p hp => ?_, fun p hp => ?_⟩
    · rw [List.map_append]
      refine List.nodup_append.2 ⟨h.keys, by simp, ?_⟩
      intro x hx y hy e
      rw [List.map_cons, List.map_nil, List.mem_singleton] at hy
      subst hy; subst e
      exact bfind_none hf hx
    · rcases List.mem_append.1 hp with hp | hp
      · exact h.full p hp
      · rw [List.mem_singleton] at hp; subst hp; exact h1
    · rcases List.mem_append.1 hp with hp | hp
      · exact h.fit p hp
      · rw [List.mem_singleton] at hp; subst hp; exact h2
abbrev nb (t : Tm) : Tm := .mk [] t.kind t.index t.args
theorem nb_full (t : Tm) : (nb t).full ≤ t.full := by have := full_args t; rw [Tm.full_eq]; simp [Ty.sizes]; omega
theorem nb_low {t : Tm} (h : lowB t = true) : lowB (nb t) = true := by obtain ⟨b, k, i, a⟩ := t; rw [lowB_eq] at h ⊢; exact h
theorem nb_fit {t : Tm} (h : t.Fit) : (nb t).Fit := by obtain ⟨b, k, i, a⟩ := t; exact Tm.fit_iff.2 (Tm.fit_iff.1 h)
theorem take_full (t : Tm) (ar : List Ty) (v : List Int) (h : (take t ar v).2 = 0) : (take t ar v).1.full = Ty.sizes (types ar v) + t.full := by
  unfold take at h ⊢
  split at h
  · rename_i h1
    split at h
    · rename_i h2
      rw [if_pos h1, if_pos h2]
      rw [Tm.full_eq, Ty.sizes_append]
      have h3 := tk_full ar.length v t 0
      have h4 := full_args (tk ar.length v t 0)
      have h5 : (tk ar.length v t 0).binds = t.binds := by obtain ⟨b, k, i, a⟩ := t; rw [tk_eq]; rfl
      rw [h5] at h4
      omega
    · cases h
  · cases h
theorem take_fit (t : Tm) (ar : List Ty) (v : List Int) (har : ar.length ≤ 10000) (hv : v.length ≤ 10000) (hz : t.full ≤ 90000) (hlow : lowB t = true) (hfit : t.Fit) : (take t ar v).1.Fit := by
  unfold take
  split
  · split
    · have := tk_fit ar.length v ⟨by omega, by omega⟩ hv t 0 (by omega) (by omega) hlow hfit
      generalize tk ar.length v t 0 = u at this ⊢
      obtain ⟨b, k, i, a⟩ := u
      exact Tm.fit_iff.2 (Tm.fit_iff.1 this)
    · exact Tm.fit_iff.2 ⟨by decide, by decide, nofun⟩
  · exact Tm.fit_iff.2 ⟨by decide, by decide, nofun⟩
theorem flex_ok {b : Bd} (h : BdOk b) (p t : Tm) (ar : List Ty) (hp : p.full ≤ 250) (har : Ty.sizes ar ≤ 250) (ht : t.full ≤ 10000) (hlow : lowB t = true) (hfit : t.Fit) : BdOk (flex b p t ar).2 := by
  unfold flex
  split
  · exact h
  · rename_i v hv
    have hvl := varsL_len _ _ _ _ hv
    have hal := full_args p
    have hpl := fulls_len p.args
    have hsz := types_size ar v
    have hle := Ty.le_sizes ar
    have hnf : (Tm.mk [] t.kind t.index t.args).full ≤ t.full := nb_full t
    split
    · rename_i h0
      refine bput_ok h ?_ (take_fit _ ar v (by omega) (by simp at hvl; omega) (by omega) (nb_low hlow) (nb_fit hfit))
      rw [take_full _ ar v h0]
      simp at hvl
      have : v.length * (Ty.sizes ar + 1) ≤ 250 * 251 := Nat.mul_le_mul (by omega) (by omega)
      omega
    · exact h
theorem low_mem {a : List Tm} (h : lowsB a = true) : ∀ t ∈ a, lowB t = true := by rw [lowsB_all, List.all_eq_true] at h; exact h
theorem walk_bd (p : Tm) : ∀ (t : Tm) (ar : List Ty) (b : Bd), BdOk b → Ty.sizes ar + p.full ≤ 250 → t.full ≤ 10000 → lowB t = true → t.Fit → BdOk (walk p t ar b).2 := by
  induction p using Tm.ind with
  | h bs k i a ih =>
    intro t ar b hb hz ht hlow hfit
    rw [Tm.full_eq] at hz
    have hfa := full_args t
    rw [walk]
    split
    · exact hb
    · split
      · exact flex_ok hb _ t _ (by rw [Tm.full_eq]; omega) (by rw [Ty.sizes_append]; omega) ht hlow hfit
      · split
        · exact hb
        · have hla : ∀ u ∈ t.args, lowB u = true := by obtain ⟨b', k', i', a'⟩ := t; rw [lowB_eq] at hlow; simp only [Bool.and_eq_true] at hlow; exact low_mem hlow.2
          have key : ∀ (m ts : List Tm) (b : Bd), (∀ x ∈ m, x ∈ a) → (∀ x ∈ ts, x ∈ t.args) → BdOk b → BdOk (walks m ts (ar ++ bs) b).2 := by
            intro m
            induction m with
            | nil => intro ts b _ _ hb; rw [walks]; exact hb
            | cons x m ihm =>
              intro ts b hm hts hb
              have hxm := full_mem (hm x (by simp))
              have hy : (ts.headD Tm.zero).full ≤ 10000 ∧ lowB (ts.headD Tm.zero) = true ∧ (ts.headD Tm.zero).Fit := by
                cases ts with
                | nil => exact ⟨by decide, by decide, Tm.fit_iff.2 ⟨by decide, by decide, nofun⟩⟩
                | cons y ts =>
                  have h1 := hts y (by simp)
                  have := full_mem h1
                  exact ⟨by show y.full ≤ _; omega, hla y h1, fit_args hfit y h1⟩
              have h1 := ih x (hm x (by simp)) (ts.headD Tm.zero) (ar ++ bs) b hb (by rw [Ty.sizes_append]; omega) hy.1 hy.2.1 hy.2.2
              rw [walks]
              split
              · exact ihm ts.tail _ (fun y hy => hm y (by simp [hy])) (fun y hy => hts y (List.mem_of_mem_tail hy)) h1
              · exact h1
          exact key a t.args b (fun _ h => h) (fun _ h => h) hb
end Pn

theorem mwalk_flex (b : Pn.Bd) (p t : Tm) (ar : List Ty) (hk : p.kind = 2) (hz : Ty.sizes ar ≤ 250) (hzp : p.full ≤ 250) (hfp : p.Fit) (ht : t.full ≤ 10000) (hlow : lowB t = true) (hft : t.Fit) :
    CallC Try.prog 120 [.ag [.mo 0], .ag (eTm p), .ag (eTm t), .sl 2 (eTys ar) none] [(.o 0, .mp (eBd b))] [(.o 0, .mp (eBd (Pn.flex b p t ar).2))] (.v (.bool (Pn.flex b p t ar).1)) := by
  have hle := Ty.le_sizes ar
  have hnf : (Tm.mk [] t.kind t.index t.args).full ≤ t.full := Pn.nb_full t
  refine mflex_d b p t ar hk (by omega) hfp (by omega) (fun v hv => ?_) (Pn.nb_low hlow) (Pn.nb_fit hft)
  have hvl := Pn.varsL_len _ _ _ _ hv
  have hal := full_args p
  have hpl := fulls_len p.args
  have hsz := Pn.types_size ar v
  simp at hvl
  have : v.length * (Ty.sizes ar + 1) ≤ 250 * 251 := Nat.mul_le_mul (by omega) (by omega)
  omega
set_option maxHeartbeats 4000000 in
theorem mwalk_d : ∀ (p t : Tm) (ar : List Ty) (b : Pn.Bd), Ty.sizes ar + p.full ≤ 250 → p.Fit → t.full ≤ 10000 → lowB t = true → t.Fit →
  CallC Try.prog 70 [.ag [.mo 0], .ag (eTm p), .ag (eTm t), .sl 2 (eTys ar) none] [(.o 0, .mp (eBd b))] [(.o 0, .mp (eBd (Pn.walk p t ar b).2))] (.v (.bool (Pn.walk p t ar b).1)) := by
 intro p
 induction p using Tm.ind with
 | h bs k i a ih =>
 intro t ar b hz hfp hzt hlow hft
 rw [Tm.full_eq] at hz
 have hft2 := fit_args hfp
 dsimp only [Tm.args] at hft2
 have hfa := full_args t
 have hal := fulls_len a
 have htl := fulls_len t.args
 have hla : ∀ u ∈ t.args, lowB u = true := by obtain ⟨b', k', i', a'⟩ := t; rw [lowB_eq] at hlow; simp only [Bool.and_eq_true] at hlow; exact Pn.low_mem hlow.2
 have heq := eqTys_d bs t.binds 109 rfl
 have hcat := concat_d [ar, bs] (by simp [lens]; have := Ty.le_sizes ar; have := Ty.le_sizes bs; omega) (by simp)
 simp only [List.flatten_cons, List.flatten_nil, List.append_nil] at hcat
 have hfl : PureC Try.prog 119 [.ag (eTm (.mk bs k i a))] (.v (.bool (decide (k = 2)))) := pflex_d (.mk bs k i a)
 have hcl := mwalk_flex b (.mk bs k i a) t (ar ++ bs)
 rw [Pn.walk]
 rw [eTm_eq, eTm_eq]
 rw [eTm_eq] at hfl
 rw [eTm_eq, eTm_eq] at hcl
 simp only [binds_mk', kind_mk', index_mk', args_mkT] at hfl hcl ⊢
 by_cases hb : bs = t.binds
 ·rw [if_neg (by simpa using hb)]
  rw [decide_eq_true hb] at heq
  by_cases hk : k = 2
  ·rw [if_pos hk]
   rw [decide_eq_true hk] at hfl
   have hcl := hcl hk (by rw [Ty.sizes_append]; omega) (by rw [Tm.full_eq]; omega) hfp hzt hlow hft
   refine calldw 1 62 [ResultVar.tmp 8] TP4_ok Try.func70 rfl Try.ntmps70 rfl fun cx hnt hn0 => ?_
   ·skip
    refine dw_seq ?_; refine dwk [] TP4_ok hnt fun K hK => ?_; refine hK _ _ ?_; clear hK K; refine dw_seq ?_; refine dw_seq ?_; refine dwk [] TP4_ok hnt fun K hK => ?_; refine dcl (heq) ?_; refine hK _ _ ?_; clear hK K; refine dw_cond (t := false) rfl ?_; rw [if_neg (by simp)]; refine dw_skip ?_; refine dw_seq ?_; refine dwk [(20, .sl 1 (eTyss [ar, bs]) none)] TP4_ok hnt fun K hK => ?_; refine And.intro (VLe.untag _ _ _) ?_
    refine dcl (hcat) ?_; refine hK _ _ ?_; clear hK K; refine dw_seq ?_; refine dw_seq ?_; refine dwk [] TP4_ok hnt fun K hK => ?_; refine dcl (hfl) ?_; refine hK _ _ ?_; clear hK K; refine dw_cond (t := true) rfl ?_; rw [if_pos rfl]; refine dw_seq ?_; refine dwk [] TP4_ok hnt fun K hK => ?_; refine dcl (hcl) ?_; refine hK _ _ ?_; clear hK K; refine dw_ret ?_
    exact reta rfl
  ·rw [if_neg hk]
   rw [decide_eq_false hk] at hfl
   by_cases hc : (k ≠ t.kind ∨ i ≠ t.index) ∨ a.length ≠ t.args.length
   ·rw [if_pos hc]
    by_cases hc1 : k ≠ t.kind ∨ i ≠ t.index
    ·skip
     refine calldw 1 62 [ResultVar.tmp 8] TP4_ok Try.func70 rfl Try.ntmps70 rfl fun cx hnt hn0 => ?_
     ·skip
      refine dw_seq ?_; refine dwk [] TP4_ok hnt fun K hK => ?_; refine hK _ _ ?_; clear hK K; refine dw_seq ?_; refine dw_seq ?_; refine dwk [] TP4_ok hnt fun K hK => ?_; refine dcl (heq) ?_; refine hK _ _ ?_; clear hK K; refine dw_cond (t := false) rfl ?_; rw [if_neg (by simp)]; refine dw_skip ?_; refine dw_seq ?_; refine dwk [(20, .sl 1 (eTyss [ar, bs]) none)] TP4_ok hnt fun K hK => ?_; refine And.intro (VLe.untag _ _ _) ?_
      refine dcl (hcat) ?_; refine hK _ _ ?_; clear hK K; refine dw_seq ?_; refine dw_seq ?_; refine dwk [] TP4_ok hnt fun K hK => ?_; refine dcl (hfl) ?_; refine hK _ _ ?_; clear hK K; refine dw_cond (t := false) rfl ?_; rw [if_neg (by simp)]; refine dw_skip ?_; refine dw_seq ?_; refine dw_seq ?_; refine dwk [(33, .v (.bool true))] TP4_ok hnt fun K hK => ?_; refine And.intro (VLe.of_eq (by congr 2; rcases hc1 with h | h <;> simp [h])) ?_
      refine hK _ _ ?_; clear hK K; refine dw_cond (t := true) rfl ?_; rw [if_pos rfl]; refine dw_seq ?_; refine dwk [] TP4_ok hnt fun K hK => ?_; refine hK _ _ ?_; clear hK K; refine dw_ret ?_
      exact reta rfl
    ·have hc2 : a.length ≠ t.args.length := by rcases hc with h | h; exact absurd h hc1; exact h
     refine calldw 1 62 [ResultVar.tmp 8] TP4_ok Try.func70 rfl Try.ntmps70 rfl fun cx hnt hn0 => ?_
     ·skip
      refine dw_seq ?_; refine dwk [] TP4_ok hnt fun K hK => ?_; refine hK _ _ ?_; clear hK K; refine dw_seq ?_; refine dw_seq ?_; refine dwk [] TP4_ok hnt fun K hK => ?_; refine dcl (heq) ?_; refine hK _ _ ?_; clear hK K; refine dw_cond (t := false) rfl ?_; rw [if_neg (by simp)]; refine dw_skip ?_; refine dw_seq ?_; refine dwk [(20, .sl 1 (eTyss [ar, bs]) none)] TP4_ok hnt fun K hK => ?_; refine And.intro (VLe.untag _ _ _) ?_
      refine dcl (hcat) ?_; refine hK _ _ ?_; clear hK K; refine dw_seq ?_; refine dw_seq ?_; refine dwk [] TP4_ok hnt fun K hK => ?_; refine dcl (hfl) ?_; refine hK _ _ ?_; clear hK K; refine dw_cond (t := false) rfl ?_; rw [if_neg (by simp)]; refine dw_skip ?_; refine dw_seq ?_; refine dw_seq ?_; refine dwk [(33, .v (.bool false)), (37, .v (.int .i64 (↑a.length))), (40, .v (.int .i64 (↑t.args.length))), (41, .v (.bool true))] TP4_ok hnt fun K hK => ?_
      refine And.intro (VLe.of_eq (by congr 2; simp at hc1; simp [hc1])) ?_; refine And.intro (dintE (by rw [eTms_len])) ?_; refine And.intro (dintE (by rw [eTms_len])) ?_; refine And.intro (VLe.of_eq (by congr 2; simp; omega)) ?_; refine hK _ _ ?_; clear hK K; refine dw_cond (t := true) rfl ?_; rw [if_pos rfl]; refine dw_seq ?_; refine dwk [] TP4_ok hnt fun K hK => ?_; refine hK _ _ ?_; clear hK K; refine dw_ret ?_
      exact reta rfl
   ·rw [if_neg hc]
    have hc1 : ¬ (k ≠ t.kind ∨ i ≠ t.index) := fun h => hc (.inl h)
    have hc2 : a.length = t.args.length := by by_cases h : a.length = t.args.length; exact h; exact absurd (.inr h) hc
    refine calldw 1 62 [ResultVar.tmp 8] TP4_ok Try.func70 rfl Try.ntmps70 rfl fun cx hnt hn0 => ?_
    ·skip
     refine dw_seq ?_; refine dwk [] TP4_ok hnt fun K hK => ?_; refine hK _ _ ?_; clear hK K; refine dw_seq ?_; refine dw_seq ?_; refine dwk [] TP4_ok hnt fun K hK => ?_; refine dcl (heq) ?_; refine hK _ _ ?_; clear hK K; refine dw_cond (t := false) rfl ?_; rw [if_neg (by simp)]; refine dw_skip ?_; refine dw_seq ?_; refine dwk [(20, .sl 1 (eTyss [ar, bs]) none)] TP4_ok hnt fun K hK => ?_; refine And.intro (VLe.untag _ _ _) ?_
     refine dcl (hcat) ?_; refine hK _ _ ?_; clear hK K; refine dw_seq ?_; refine dw_seq ?_; refine dwk [] TP4_ok hnt fun K hK => ?_; refine dcl (hfl) ?_; refine hK _ _ ?_; clear hK K; refine dw_cond (t := false) rfl ?_; rw [if_neg (by simp)]; refine dw_skip ?_; refine dw_seq ?_; refine dw_seq ?_; refine dwk [(33, .v (.bool false)), (37, .v (.int .i64 (↑a.length))), (40, .v (.int .i64 (↑t.args.length))), (41, .v (.bool false))] TP4_ok hnt fun K hK => ?_
     refine And.intro (VLe.of_eq (by congr 2; simp at hc1; simp [hc1])) ?_; refine And.intro (dintE (by rw [eTms_len])) ?_; refine And.intro (dintE (by rw [eTms_len])) ?_; refine And.intro (VLe.of_eq (by congr 2; simp; omega)) ?_; refine hK _ _ ?_; clear hK K; refine dw_cond (t := false) rfl ?_; rw [if_neg (by simp)]; refine dw_skip ?_; refine dw_seq ?_; refine dw_seq ?_; refine dwk [(45, .v (.int .i64 (↑a.length)))] TP4_ok hnt fun K hK => ?_
     refine And.intro (dintE (by rw [eTms_len])) ?_; refine hK _ _ ?_; clear hK K; refine dw_block ?_
     refine dw_loop (ι := { q : Nat × Pn.Bd // Pn.walks (a.take q.1) t.args (ar ++ bs) b = (true, q.2) }) (fun q => [(.t 3, .sl 2 (eTys (ar ++ bs)) none), (.t 4, .p 1 0), (.t 6, .p 3 0), (.t 44, .sl 4 (eTms a) none), (.t 45, .v (.int .i64 ↑a.length)), (.t 46, .v (.int .i64 ↑q.1.1)), (.c 1 0, .mo 0), (.c 3 0, .sl 2 (eTys t.binds) none), (.c 3 1, .v (.int .i64 t.kind)), (.c 3 2, .v (.int .i64 t.index)), (.c 3 3, .sl 4 (eTms t.args) none), (.o 0, .mp (eBd q.1.2))]) 4 (fun q => a.length - q.1.1) (⟨(0, b), by rw [List.take_zero, Pn.walks]⟩) (VS.toA) fun q => ?_
     obtain ⟨⟨j, bj⟩, hq⟩ := q
     dsimp only at hq ⊢
     by_cases hlt : j < a.length
     ·have hjt : j < t.args.length := by omega
      have hst := Pn.walks_take (ar ++ bs) a t.args b bj j hlt hjt hq
      have hmem := List.getElem_mem hlt
      have hmet := List.getElem_mem hjt
      have hm1 := full_mem hmem
      have hm2 := full_mem hmet
      have hih := ih a[j] hmem t.args[j] (ar ++ bs) bj (by rw [Ty.sizes_append]; omega) (hft2 _ hmem) (by omega) (hla _ hmet) (fit_args hft _ hmet)
      obtain ⟨⟨wb, wl⟩, hw⟩ : ∃ r, Pn.walk a[j] t.args[j] (ar ++ bs) bj = r := ⟨_, rfl⟩
      rw [hw] at hih hst
      rw [eTm_eq, eTm_eq] at hih
      dsimp only at hih
      refine dw_seq ?_; refine dwk [(47, .v (.bool true))] TP4_ok hnt fun K hK => ?_; refine And.intro auT ?_; refine hK _ _ ?_; clear hK K; refine dw_seq ?_; refine dw_cond (t := true) rfl ?_; rw [if_pos rfl]; refine dw_skip ?_; refine dw_seq ?_; refine dw_block ?_; refine dw_seq ?_; refine dwk [(49, .q [.sl 2 (eTys a[j].binds) none, .v (.int .i64 a[j].kind), .v (.int .i64 a[j].index), .sl 4 (eTms a[j].args) none])] TP4_ok hnt fun K hK => ?_
      refine And.intro (elo (eTms_len a)) ?_; refine And.intro (elv (eTms_getD a j) (eTm_eq _)) ?_; refine hK _ _ ?_; clear hK K
      cases wb with
      | true =>
       refine dw_seq ?_; refine dwkD [(56, .q [.sl 2 (eTys t.args[j].binds) none, .v (.int .i64 t.args[j].kind), .v (.int .i64 t.args[j].index), .sl 4 (eTms t.args[j].args) none])] TP4_ok hnt fun K hK => ?_; refine And.intro (elo (eTms_len t.args)) ?_; refine And.intro (elv (eTms_getD t.args j) (eTm_eq _)) ?_; refine dcl (hih) ?_; refine hK _ _ (by kernel_rfl) ?_; clear hK K; refine dw_cond (t := false) rfl ?_
       rw [if_neg (by simp)]; refine dw_skip ?_; refine dwk [(61, .v (.int .i64 (↑(j + 1))))] TP4_ok hnt fun K hK => ?_; refine And.intro auI ?_; refine hK _ _ ?_; clear hK K
       refine ⟨⟨(j + 1, wl), hst⟩, by first | omega | (dsimp only; omega), VS.toA⟩
      | false =>
       rw [Pn.walks_stop (ar ++ bs) a t.args b wl (j + 1) hst]
       refine dw_seq ?_; refine dwkD [(56, .q [.sl 2 (eTys t.args[j].binds) none, .v (.int .i64 t.args[j].kind), .v (.int .i64 t.args[j].index), .sl 4 (eTms t.args[j].args) none])] TP4_ok hnt fun K hK => ?_; refine And.intro (elo (eTms_len t.args)) ?_; refine And.intro (elv (eTms_getD t.args j) (eTm_eq _)) ?_; refine dcl (hih) ?_; refine hK _ _ (by kernel_rfl) ?_; clear hK K; refine dw_cond (t := true) rfl ?_
       rw [if_pos rfl]; refine dw_seq ?_; refine dwk [] TP4_ok hnt fun K hK => ?_; refine hK _ _ ?_; clear hK K; refine dw_ret ?_
       exact reta rfl
     ·rw [List.take_of_length_le (by omega)] at hq
      rw [hq]
      refine dw_seq ?_; refine dwk [(47, .v (.bool false))] TP4_ok hnt fun K hK => ?_; refine And.intro auF ?_; refine hK _ _ ?_; clear hK K; refine dw_seq ?_; refine dw_cond (t := false) rfl ?_; rw [if_neg (by simp)]; refine dw_exit ?_; refine dw_seq ?_; refine dwk [] TP4_ok hnt fun K hK => ?_; refine hK _ _ ?_; clear hK K; refine dw_ret ?_
      exact reta rfl
 ·rw [if_pos (by simpa using hb)]
  rw [decide_eq_false hb] at heq
  refine calldw 1 62 [ResultVar.tmp 8] TP4_ok Try.func70 rfl Try.ntmps70 rfl fun cx hnt hn0 => ?_
  ·skip
   refine dw_seq ?_; refine dwk [] TP4_ok hnt fun K hK => ?_; refine hK _ _ ?_; clear hK K; refine dw_seq ?_; refine dw_seq ?_; refine dwk [] TP4_ok hnt fun K hK => ?_; refine dcl (heq) ?_; refine hK _ _ ?_; clear hK K; refine dw_cond (t := true) rfl ?_; rw [if_pos rfl]; refine dw_seq ?_; refine dwk [] TP4_ok hnt fun K hK => ?_; refine hK _ _ ?_; clear hK K; refine dw_ret ?_
   exact reta rfl

theorem looses_pos (t : Tm) : ∀ n : Int, ∀ x ∈ t.looses n, 0 ≤ x := by
  induction t using Tm.ind with
  | h b k i a ih =>
    intro n x hx
    rw [Tm.looses_eq _ _ _ _ _ _ rfl] at hx
    rcases List.mem_append.1 hx with hx | hx
    · split at hx
      · rename_i h; rw [List.mem_singleton] at hx; subst hx; omega
      · cases hx
    · have key : ∀ (l : List Tm), (∀ t ∈ l, t ∈ a) → ∀ n, ∀ x ∈ Tm.loosess l n, 0 ≤ x := by
        intro l
        induction l with
        | nil => intro _ n x hx; simp [Tm.loosess] at hx
        | cons t l ihl =>
          intro hl n x hx
          rw [Tm.loosess] at hx
          rcases List.mem_append.1 hx with hx | hx
          · exact ih t (hl t (by simp)) n x hx
          · exact ihl (fun u hu => hl u (by simp [hu])) n x hx
      exact key a (fun _ h => h) _ x hx
theorem mmay_d (p : Tm) (h1 : p.full ≤ 10000) (hf : p.Fit) : PureC Try.prog 69 [.ag (eTm p)] (.v (.int .i64 (Pn.may p))) := by
 have hl := loose_d p (by omega) hf
 have hi := is_d p h1 hf
 have hp := looseL_pos (looses_pos p 0)
 unfold Pn.may
 obtain ⟨n, hn⟩ : ∃ n, (p.looses 0).foldl looseL 0 = n := ⟨_, rfl⟩
 rw [hn] at hl hp
 rw [eTm_eq] at hl hi ⊢
 by_cases hL : p.looses 0 = []
 ·rw [if_neg (by simp [hL])]
  have hn0 : ¬ 0 < n := fun h => hp.1 h hL
  cases hu : (Pn.uses p [] []).2 with
  | true =>
   rw [hu] at hi
   rw [if_neg (by simp)]
   refine calldw 0 11 [ResultVar.tmp 2] TP4_ok Try.func69 rfl Try.ntmps69 rfl fun cx hnt hn0 => ?_
   ·skip
    refine dw_seq ?_; refine dwk [] TP4_ok hnt fun K hK => ?_; refine hK _ _ ?_; clear hK K; refine dw_seq ?_; refine dw_block ?_; refine dw_seq ?_; refine dwk [(6, .v (.bool false)), (3, .v (.bool false))] TP4_ok hnt fun K hK => ?_; refine dcl (hl) ?_; refine And.intro auF ?_; refine And.intro auF ?_; refine hK _ _ ?_; clear hK K; refine dw_cond (t := false) rfl ?_; rw [if_neg (by simp)]; refine dw_seq ?_
    refine dwk [] TP4_ok hnt fun K hK => ?_; refine dcl (hi) ?_; refine hK _ _ ?_; clear hK K; refine dw_cond (t := false) rfl ?_; rw [if_neg (by simp)]; refine dw_skip ?_; refine dw_seq ?_; refine dwk [] TP4_ok hnt fun K hK => ?_; refine hK _ _ ?_; clear hK K; refine dw_ret ?_
    exact reta rfl
  | false =>
   rw [hu] at hi
   rw [if_pos rfl]
   refine calldw 0 11 [ResultVar.tmp 2] TP4_ok Try.func69 rfl Try.ntmps69 rfl fun cx hnt hn0 => ?_
   ·skip
    refine dw_seq ?_; refine dwk [] TP4_ok hnt fun K hK => ?_; refine hK _ _ ?_; clear hK K; refine dw_seq ?_; refine dw_block ?_; refine dw_seq ?_; refine dwk [(6, .v (.bool false)), (3, .v (.bool false))] TP4_ok hnt fun K hK => ?_; refine dcl (hl) ?_; refine And.intro auF ?_; refine And.intro auF ?_; refine hK _ _ ?_; clear hK K; refine dw_cond (t := false) rfl ?_; rw [if_neg (by simp)]; refine dw_seq ?_
    refine dwk [] TP4_ok hnt fun K hK => ?_; refine dcl (hi) ?_; refine hK _ _ ?_; clear hK K; refine dw_cond (t := true) rfl ?_; rw [if_pos rfl]; refine dw_seq ?_; refine dwk [] TP4_ok hnt fun K hK => ?_; refine hK _ _ ?_; clear hK K; refine dw_ret ?_
    exact reta rfl
 ·rw [if_pos hL]
  have hn0 : 0 < n := hp.2 hL
  refine calldw 0 11 [ResultVar.tmp 2] TP4_ok Try.func69 rfl Try.ntmps69 rfl fun cx hnt hn0 => ?_
  ·skip
   refine dw_seq ?_; refine dwk [] TP4_ok hnt fun K hK => ?_; refine hK _ _ ?_; clear hK K; refine dw_seq ?_; refine dw_block ?_; refine dw_seq ?_; refine dwk [(6, .v (.bool true)), (3, .v (.bool true))] TP4_ok hnt fun K hK => ?_; refine dcl (hl) ?_; refine And.intro auT ?_; refine And.intro auT ?_; refine hK _ _ ?_; clear hK K; refine dw_cond (t := true) rfl ?_; rw [if_pos rfl]; refine dw_seq ?_; refine dwk [] TP4_ok hnt fun K hK => ?_
   refine hK _ _ ?_; clear hK K; refine dw_ret ?_
   exact reta rfl
end Go.Proofs.Ytdmiekaeodcehaa

namespace Go.Proofs.Ytdmiekaeodcehaa
open Go.RowKit

def kitM (T : List (Nat × TI)) (σ : Env) (nm : Nat) (o : Op) (c : D → List (Key × D) → Prop) : Prop := match o with
  | .range t x => kT T t fun ti => kev σ x fun d => (match d, ti.mv with
    | .mo k, some _ => kget σ (.o k) fun d => (match d with
      | .mp l => ∀ bm es clock, es.size = l.length → c (.o nm) [(.o nm, .it k bm es clock (List.range l.length) none), (.o k, .mq bm es clock l)]
      | _ => False)
    | _, _ => False)
  | .next x false => kev σ x fun d => (match d with
    | .o ki => kget σ (.o ki) fun d => (match d with
      | .it k bm es clock rem _ => kget σ (.o k) fun d => (match d with
        | .mq _ es' clock' l => (es' = es ∧ clock' = clock) ∧ ((rem = [] ∧ c (.tu [.v (.bool false)]) []) ∨ (rem ≠ [] ∧ ∀ i (_ : i ∈ rem) (hl : i < l.length), c (.tu [.v (.bool true), .v (.int .i64 l[i].1), l[i].2]) [(.o ki, .it k bm es clock (rem.erase i) (some i))]))
        | _ => False)
      | _ => False)
    | _ => False)
  | .entry x => kev σ x fun d => (match d with
    | .o ki => kget σ (.o ki) fun d => (match d with
      | .it k _ es clock _ (some i) => kget σ (.o k) fun d => (match d with
        | .mq _ es' clock' l => (es' = es ∧ clock' = clock) ∧ ∃ hl : i < l.length, c (.tu [.v (.int .i64 l[i].1), l[i].2]) []
        | _ => False)
      | _ => False)
    | _ => False)
  | _ => False

section
variable {P : Program} {T : List (Nat × TI)} {cx : Cx} {Fr : Nat → Prop} {m : Mp} {Im : Nat → Nat → Prop} {w w' : World} {a : Act} {σ σ' : List (Key × D)}
theorem St.drew (h : St cx Fr m Im w a σ) : St cx Fr m Im w.drew a σ := h.below0 (Below.refl _ _).drew
theorem obOk_mq {b bm clock : Nat} {es : Array MapEntry} {l : List (Int × D)} (h : ObOk m Im w b (.mq bm es clock l)) :
    b = bm ∧ w.heap[b]? = some (.map es clock) ∧ es.size = l.length ∧ (∀ i (h : i < l.length), (es[i]?).map (·.key) = some (.int .i64 l[i].1)) ∧ (∀ i (h : i < l.length) v, (es[i]?).map (·.val) = some v → Rel m Im w v l[i].2) ∧ BornOk es clock := by
  cases h with
  | mq es clock l h1 h2 h3 h4 h5 => exact ⟨rfl, h1, h2, h3, h4, h5⟩
theorem obOk_it {b k bm clock : Nat} {es : Array MapEntry} {rem : List Nat} {last : Option Nat} (h : ObOk m Im w b (.it k bm es clock rem last)) :
    ∃ seen : Array Nat, m.obj k = some bm ∧ w.heap[b]? = some (.mapIter (some bm) clock seen clock) ∧ rem.Nodup ∧ (∀ i e, es[i]? = some e → (i ∈ rem ↔ seen.contains e.born = false)) ∧ (∀ i ∈ rem, i < es.size) ∧ (∀ i, last = some i → ∃ (e : MapEntry) (s0 : Array Nat), es[i]? = some e ∧ seen = s0.push e.born) := by
  cases h with
  | it k bm es clock rem last seen h1 h2 h3 h4 h5 h6 => exact ⟨seen, h1, h2, h3, h4, h5, h6⟩
theorem born_inj {es : Array MapEntry} {clock : Nat} (h : BornOk es clock) {i j : Nat} {e f : MapEntry} (hi : es[i]? = some e) (hj : es[j]? = some f) (hb : e.born = f.born) : i = j := by
  have hn := h.1
  obtain ⟨hi1, hi2⟩ := Array.getElem?_eq_some_iff.1 hi
  obtain ⟨hj1, hj2⟩ := Array.getElem?_eq_some_iff.1 hj
  have key : ∀ (i j : Nat) (e f : MapEntry), es[i]? = some e → es[j]? = some f → e.born = f.born → ¬ i < j := fun i j e f hi hj hb hij => by
    obtain ⟨hi1, hi2⟩ := Array.getElem?_eq_some_iff.1 hi
    obtain ⟨hj1, hj2⟩ := Array.getElem?_eq_some_iff.1 hj
    refine (List.pairwise_iff_getElem.1 hn) i j (by simpa using hi1) (by simpa using hj1) hij ?_
    simp only [List.getElem_map, Array.getElem_toList]; rw [hi2, hj2]; exact hb
  have h1 := key i j e f hi hj hb
  have h2 := key j i f e hj hi hb.symm
  omega
theorem kitM_run (hT : TabOk P T) (h : St cx Fr m Im w a σ) {nm : Nat} (hn : Fr nm) {o : Oper} {c : D → List (Key × D) → Prop} (hk : kitM T σ nm o.op c) :
    ∃ v w' m' V W, (execOp a.eval o).run P w = .ok (.value v) w' ∧ Rel m' Im w' v V ∧ St cx (minus Fr nm) m' Im w' a (puts σ W) ∧ c V W := by
  unfold kitM at hk
  unfold execOp
  split at hk
  · -- range
    rename_i t x ho
    simp only [ho]
    obtain ⟨ti, ht, hk⟩ := kT_some hk
    obtain ⟨d, hx, hk⟩ := kev_some hk
    split at hk
    · rename_i k e hmv
      obtain ⟨d, hg, hk⟩ := kget_some hk
      split at hk
      · rename_i l
        obtain ⟨kt, g1, g2⟩ := (hT t ti ht).map hmv
        obtain ⟨b, h1, h2⟩ := h.ok k _ hg
        obtain ⟨es, clock, h3, h4, h5, h6, hbn⟩ : ∃ (es : Array MapEntry) (clock : Nat), w.heap[b]? = some (.map es clock) ∧ es.size = l.length ∧ (∀ i (h : i < l.length), (es[i]?).map (·.key) = some (.int .i64 l[i].1)) ∧ (∀ i (h : i < l.length) v, (es[i]?).map (·.val) = some v → Rel m Im w v l[i].2) ∧ BornOk es clock := by
          cases h2 with
          | mp es clock l h1 h2 h3 h4 h5 => exact ⟨es, clock, h1, h2, h3, h4, h5⟩
        have hxb : a.eval x = .map (some b) := by
          have hr := h.ev hx
          generalize a.eval x = y at hr
          cases hr with
          | mo k b' hb => rw [h1] at hb; cases hb; rfl
        have hlt := h.mem.olt k b h1
        have hq : ∀ (m' : Mp) (w' : World), m'.obj k = some b → w'.heap[w.heap.size]? = some (.mapIter (some b) clock #[] clock) → ObOk m' Im w' w.heap.size (.it k b es clock (List.range l.length) none) := fun m' w' hm hb =>
          .it k b es clock _ none #[] hm hb List.nodup_range (fun i e he => by
            obtain ⟨hi, _⟩ := Array.getElem?_eq_some_iff.1 he
            rw [h4] at hi
            simp [hi]) (fun i hi => by rw [h4]; simpa using hi) nofun
        have h0 : St cx Fr m Im w a (put1 (.o k) (.mq b es clock l) σ) := h.puto h1 (.mq es clock l h3 h4 h5 h6 hbn)
        have hbl : Below w.heap.size w (w.alloc (.mapIter (some b) clock #[] clock)) := (Below.refl _ _).alloc (Nat.le_refl _) _
        have hne : nm ≠ k := fun e => by
          subst e
          have := (h.mem.fr _ hn).2.2
          rw [this] at h1; cases h1
        have hmk : (m.setO nm w.heap.size).obj k = some b := by simp [Mp.setO, Ne.symm hne, h1]
        obtain ⟨s1, s2⟩ := h0.newObjB (d := .ob fun _ _ => True) hn hbl (Nat.le_refl _) (by simp) fun _ => .ob _ trivial fun _ _ => trivial
        have s3 := s1.puto (k := nm) (b := w.heap.size) (by simp [Mp.setO]) (hq _ _ hmk (heap_alloc_new w _))
        refine ⟨.pointer (some ⟨w.heap.size, 0, none⟩), w.alloc (.mapIter (some b) clock #[] clock), m.setO nm w.heap.size, _, _, ?_, .o nm w.heap.size (by simp [Mp.setO]), ?_, hk b es clock h4⟩
        · simp only [Instr.range, hxb, Sem.run_bind, run_underlying g1, Result.andThen_ok, getObj, Sem.run, h3, newObj]
          rfl
        · simp only [puts]
          refine s3.sub fun k' d hd => ?_
          rw [get_put1, get_put1] at hd
          rw [get_put1, get_put1, get_put1]
          by_cases e1 : Key.eq (.o k) k' = true
          · rw [if_pos e1] at hd
            have := Key.eq_iff.1 e1
            subst this
            rw [if_neg (by rw [Key.eq_iff]; simpa using hne), if_neg (by rw [Key.eq_iff]; simpa using hne), if_pos e1]; exact hd
          · rw [if_neg e1] at hd
            by_cases e2 : Key.eq (.o nm) k' = true
            · rw [if_pos e2] at hd ⊢; exact hd
            · rw [if_neg e2] at hd
              rw [if_neg e2, if_neg e2, if_neg e1]; exact hd
      · exact hk.elim
    · exact hk.elim
  · -- next
    rename_i x ho
    simp only [ho]
    obtain ⟨d, hx, hk⟩ := kev_some hk
    split at hk
    · rename_i ki
      obtain ⟨d, hg, hk⟩ := kget_some hk
      split at hk
      · rename_i k bm es clock rem last
        obtain ⟨d, hg2, hk⟩ := kget_some hk
        split at hk
        · rename_i bm' es' clock' l
          obtain ⟨⟨rfl, rfl⟩, hk⟩ := hk
          obtain ⟨r, i1, i2⟩ := h.ok ki _ hg
          obtain ⟨seen, j1, j2, j3, j4, j5, j6⟩ := obOk_it i2
          obtain ⟨b, m1, m2⟩ := h.ok k _ hg2
          obtain ⟨rfl, q1, q2, q3, q4, q5⟩ := obOk_mq m2
          have : b = bm := by rw [j1] at m1; cases m1; rfl
          subst this
          have hxr : a.eval x = .pointer (some ⟨r, 0, none⟩) := by
            have hr := h.ev hx
            generalize a.eval x = y at hr
            cases hr with
            | o k b' hb => rw [i1] at hb; cases hb; rfl
          have hleft : ∀ e, e ∈ (leftOf es' seen).toList ↔ ∃ i ∈ rem, es'[i]? = some e := fun e => by
            constructor
            · intro he
              obtain ⟨e1, e2⟩ := mem_left he
              obtain ⟨i, hi, hie⟩ := List.getElem_of_mem e1
              have hi' : es'[i]? = some e := by rw [Array.getElem?_eq_getElem (by simpa using hi)]; simpa using hie
              exact ⟨i, (j4 i e hi').2 e2, hi'⟩
            · rintro ⟨i, hi, he⟩
              have := (j4 i e he).1 hi
              unfold leftOf
              obtain ⟨hi1, hi2⟩ := Array.getElem?_eq_some_iff.1 he
              simp only [Array.toList_filter, List.mem_filter]
              exact ⟨hi2 ▸ (by simp), by rw [this]; rfl⟩
          rcases run_next_at (P := P) w o.type r b clock' clock' seen es' clock' j2 q1 q5.2 (Nat.le_refl _) with ⟨hl0, hrun⟩ | ⟨e, he, w1, hw1, hrun⟩
          · have hrem : rem = [] := by
              cases rem with
              | nil => rfl
              | cons i r' =>
                have hi := j5 i (by simp)
                have := (hleft es'[i]).2 ⟨i, by simp, by simp [hi]⟩
                rw [List.eq_nil_of_length_eq_zero (by simpa using hl0 : (leftOf es' seen).toList.length = 0)] at this
                cases this
            rcases hk with ⟨_, hk⟩ | ⟨hne, _⟩
            · refine ⟨.tuple #[.bool false], w, m, .tu [.v (.bool false)], [], ?_, rel_tu.2 ⟨[.bool false], rfl, .v _, trivial⟩, h.less fun x hx => hx.1, hk⟩
              simp only [hxr, Sem.run_bind, hrun]
              rfl
            · exact absurd hrem hne
          · obtain ⟨i, hi, hie⟩ := (hleft e).1 he
            have hil : i < l.length := by have := j5 i hi; omega
            rcases hk with ⟨hrem, _⟩ | ⟨_, hk⟩
            · rw [hrem] at hi; cases hi
            · have hs1 : St cx Fr m Im w1 a σ := by rcases hw1 with rfl | rfl; exact h; exact h.drew
              have s2 := hs1.setObj (k := ki) (o := .mapIter (some b) clock' (seen.push e.born) clock') (d := .it k b es' clock' (rem.erase i) (some i)) i1 fun w' hb hki => by
                refine .it k b es' clock' _ _ (seen.push e.born) j1 hb (j3.erase i) (fun i' e' he' => ?_) (fun i' hi' => j5 i' (List.mem_of_mem_erase hi')) fun i' e' => ?_
                · rw [j3.mem_erase_iff, j4 i' e' he']
                  rw [Array.contains_push]
                  by_cases hii : i' = i
                  · subst hii
                    rw [hie] at he'; cases he'
                    simp
                  · have : e'.born ≠ e.born := fun hb => hii (born_inj q5 he' hie hb)
                    simp [hii, this]
                · cases e'; exact ⟨e, seen, hie, rfl⟩
              have hkey : e.key = .int .i64 l[i].1 := by
                have := q3 i hil
                rw [hie] at this
                simpa using this
              have hval : Rel m Im w e.val l[i].2 := q4 i hil e.val (by rw [hie]; rfl)
              have hki1 : KeepI Im w (ChangeMaps.setBlock w1 r (.mapIter (some b) clock' (seen.push e.born) clock')) := fun c y u hic hu => by
                have hu1 : w1.cell? ⟨c, y, none⟩ = some u := by rcases hw1 with rfl | rfl <;> exact hu
                refine (World.cell?_of_block (w := w1) (a := ⟨c, y, none⟩) ?_).trans hu1
                exact Array.getElem?_setIfInBounds_ne (by rintro rfl; exact h.mem.onim ki _ y i1 hic)
              refine ⟨.tuple #[.bool true, e.key, e.val], ChangeMaps.setBlock w1 r (.mapIter (some b) clock' (seen.push e.born) clock'), m, _, _, ?_, ?_, ?_, hk i hi hil⟩
              · simp only [hxr, Sem.run_bind, hrun]
                rfl
              · refine rel_tu.2 ⟨[.bool true, e.key, e.val], rfl, .v _, ?_, ?_, trivial⟩
                · rw [hkey]; exact .v _
                · exact hval.mono (Mp.le.refl m) hki1 fun _ _ h => h
              · exact s2.less fun x hx => hx.1
        · exact hk.elim
      · exact hk.elim
    · exact hk.elim
  · -- entry
    rename_i x ho
    simp only [ho]
    obtain ⟨d, hx, hk⟩ := kev_some hk
    split at hk
    · rename_i ki
      obtain ⟨d, hg, hk⟩ := kget_some hk
      split at hk
      · rename_i k bm es clock rem i
        obtain ⟨d, hg2, hk⟩ := kget_some hk
        split at hk
        · rename_i bm' es' clock' l
          obtain ⟨⟨rfl, rfl⟩, hil, hk⟩ := hk
          obtain ⟨r, i1, i2⟩ := h.ok ki _ hg
          obtain ⟨seen, j1, j2, j3, j4, j5, j6⟩ := obOk_it i2
          obtain ⟨b, m1, m2⟩ := h.ok k _ hg2
          obtain ⟨rfl, q1, q2, q3, q4, q5⟩ := obOk_mq m2
          have : b = bm := by rw [j1] at m1; cases m1; rfl
          subst this
          obtain ⟨e, s0, he, rfl⟩ := j6 i rfl
          have hxr : a.eval x = .pointer (some ⟨r, 0, none⟩) := by
            have hr := h.ev hx
            generalize a.eval x = y at hr
            cases hr with
            | o k b' hb => rw [i1] at hb; cases hb; rfl
          have hem : e ∈ es'.toList := by
            obtain ⟨hi1, hi2⟩ := Array.getElem?_eq_some_iff.1 he
            exact hi2 ▸ (by simp)
          have hrun := run_entry_at (P := P) w r b clock' s0 es' clock' e j2 q1 hem q5.1
          have hkey : e.key = .int .i64 l[i].1 := by
            have := q3 i hil
            rw [he] at this
            simpa using this
          have hval : Rel m Im w e.val l[i].2 := q4 i hil e.val (by rw [he]; rfl)
          refine ⟨.tuple #[e.key, e.val], w, m, _, _, ?_, ?_, h.less fun x hx => hx.1, hk⟩
          · simp only [hxr, Sem.run_bind, hrun]
            rfl
          · refine rel_tu.2 ⟨[e.key, e.val], rfl, ?_, hval, trivial⟩
            rw [hkey]; exact .v _
        · exact hk.elim
      · exact hk.elim
    · exact hk.elim
  · exact hk.elim
end

def DRq (P : Program) (T : List (Nat × TI)) (ops : Array Oper) (nm : Nat) (ov : List (Nat × D)) : List Oper → Nat → Env → (Env → Prop) → Prop
  | [], _, σ, K => K σ
  | o :: r, i, σ, K =>
    match gd ops σ o.guard with
    | none => False
    | some false => kdst σ o.dst (.v undef) fun σ' => DRq P T ops nm ov r (i + 1) σ' K
    | some true =>
      kval T σ o.op (fun V => kov ov o.dst V fun V => kdst σ o.dst V fun σ' => DRq P T ops nm ov r (i + 1) σ' K)
        (knat (nm + i) fun k => kmop T σ k o.op (fun V W _ => kov ov o.dst V fun V => kputs σ W fun σ1 => kdst σ1 o.dst V fun σ' => DRq P T ops nm ov r (i + 1) σ' K)
          (match Oper.op o with
          | .call _ => kcall σ o.op fun f ars => ∃ R W V, CallX P f ars R k W V ∧ kR σ R ∧ kov ov o.dst V fun V => kdropT R σ fun σ0 => kputs σ0 W fun σ1 => kdst σ1 o.dst V fun σ' => DRq P T ops nm ov r (i + 1) σ' K
          | _ => kitM T σ k o.op fun V W => kov ov o.dst V fun V => kputs σ W fun σ1 => kdst σ1 o.dst V fun σ' => DRq P T ops nm ov r (i + 1) σ' K))
section
variable {P : Program} {T : List (Nat × TI)} {cx : Cx} {m : Mp} {Im : Nat → Nat → Prop} {w : World} {a : Act} {σ : List (Key × D)} {ops : Array Oper} {Q : Exit → Act → World → Prop}
theorem drq_run (hT : TabOk P T) {nm : Nat} {ov : List (Nat × D)} (hdst : ∀ o ∈ ops.toList, ∀ d, o.dst = some d → d < cx.nt) {K : Env → Prop} (hK : ∀ m Im w a σ', K σ' → St cx (fun k => nm + ops.size ≤ k) m Im w a σ' → Q .normal a w) :
    ∀ (os : List Oper) (i : Nat) {m : Mp} {Im : Nat → Nat → Prop} {w : World} {a : Act} {σ : Env}, i ≤ ops.size → ops.toList.drop i = os → DRq P T ops nm ov os i σ K → St cx (fun k => nm + i ≤ k) m Im w a σ → wpOps P ops Q (List.range' i os.length) a w
  | [], i, m, Im, w, a, σ, hi, hd, h, hs => by
    have : ops.size ≤ i := by simpa using hd
    exact hK m Im w a σ h (hs.less fun k hk => by omega)
  | o :: r, i, m, Im, w, a, σ, hi, hd, h, hs => by
    have hlt : i < ops.size := by
      rcases Nat.lt_or_ge i ops.size with h' | h'
      · exact h'
      · rw [List.drop_eq_nil_of_le (by simpa using h')] at hd; cases hd
    have hoi : ops[i]? = some o := by
      have := congrArg (·[0]?) hd
      simpa using this
    have hr : ops.toList.drop (i + 1) = r := by
      have := congrArg List.tail hd
      simpa using this
    have hdo := hdst o (by rw [← Array.getElem?_toList] at hoi; exact List.mem_of_getElem? hoi)
    rw [List.length_cons, List.range'_succ, wpOps_cons]
    refine wpOp_step (o := o) hoi fun K' hK' => ?_
    have go : ∀ {m' Im' w' a' σ'}, DRq P T ops nm ov r (i + 1) σ' K → St cx (minus (fun k => nm + i ≤ k) (nm + i)) m' Im' w' a' σ' → K' a' w' := fun {m' Im' w' a' σ'} h1 h2 =>
      hK' _ _ (drq_run hT hdst hK r (i + 1) (by omega) hr h1 (h2.less fun k hk => ⟨by omega, by omega⟩))
    rw [DRq] at h
    cases hg : gd ops σ o.guard with
    | none => rw [hg] at h; exact h.elim
    | some b =>
      rw [hg] at h
      cases b with
      | false => exact opT_skip (P := P) (Q := Q) hdo hg _ m Im w a σ (by show nm + i ≤ nm + i; omega) hs vals_get K' fun m' Im' w' a' h' => go (kdst_some h) (by simpa [RStep.ap, dropT_nil] using h')
      | true =>
        simp only at h
        rcases kval_some h with ⟨V, h1, h⟩ | h
        · obtain ⟨V', hle, h⟩ := kov_some h
          exact opT_pval (Q := Q) hT hdo hg h1 hle _ m Im w a σ (by show nm + i ≤ nm + i; omega) hs vals_get K' fun m' Im' w' a' h' => go (kdst_some h) (by simpa [RStep.ap, dropT_nil] using h')
        · rcases kmop_some (knat_some h) with ⟨V, W, R, h1, h⟩ | h
          · obtain ⟨V', hle, h⟩ := kov_some h
            exact opT_mop (Q := Q) hT hdo hg h1 hle _ m Im w a σ (by show nm + i ≤ nm + i; omega) hs vals_get K' fun m' Im' w' a' h' => go (kdst_some (kputs_some h)) (by simpa [RStep.ap, dropT_nil, puts_append] using h')
          · split at h
            · obtain ⟨f, ars, h1, h⟩ := kcall_some h
              obtain ⟨R, W, V, h2, h3, h⟩ := h
              obtain ⟨V', hle, h⟩ := kov_some h
              exact opT_call (Q := Q) hdo hg h1 h2 hle (kR_all h3) _ m Im w a σ (by show nm + i ≤ nm + i; omega) hs vals_get K' fun m' Im' w' a' h' => go (kdst_some (kputs_some (kdropT_some h))) (by simpa [RStep.ap, puts_append] using h')
            · obtain ⟨v, w', m', V, W, r1, r2, r3, h⟩ := kitM_run hT hs (by show nm + i ≤ nm + i; omega) h
              obtain ⟨V', hle, h⟩ := kov_some h
              rw [gd_run hs hg, if_pos rfl]
              unfold Oper.wp
              rw [r1]
              exact go (kdst_some (kputs_some h)) (r3.putO hdo (hle _ _ _ _ r2))
theorem dw_q {cx : Cx} {σ : List (Key × D)} {N nt N1 : Nat} {Q : Exit → List (Key × D) → Nat → Prop} (ov : List (Nat × D)) (hT : TabOk P T) (hm : P.follows .mixedOrders = true) (hnt : cx.nt = nt) {id : Nat} {ops : Array Oper} (hd : dstOk nt ops = true) (hN : N + ops.size = N1) (h : ∀ K : Env → Prop, (∀ σ', Q .normal σ' N1 → K σ') → DRq P T ops N ov ops.toList 0 σ K) : DW P cx (.region id ops false) σ N Q := fun m Im w a hs => by
  refine wp_region ?_
  rw [List.range_eq_range', show ops.size = ops.toList.length by simp]
  have hd' : ∀ o ∈ ops.toList, ∀ d, o.dst = some d → d < cx.nt := fun o ho d e => by
    rw [← hnt] at hd
    have := (Array.all_eq_true'.1 hd) o (by simpa using ho)
    rw [e] at this; simpa using this
  exact drq_run hT (nm := N) hd' (K := fun σ' => Q .normal σ' N1) (fun m Im w a σ' hq hs' => ⟨σ', N1, m, Im, hq, hN ▸ hs'⟩) ops.toList 0 (Nat.zero_le _) rfl (h _ fun _ h => h) (hs.less fun k hk => (show N ≤ k from by simpa using hk))
end
end Go.Proofs.Ytdmiekaeodcehaa

namespace Go.Proofs.Ytdmiekaeodcehaa
open Go.RowKit
def TSO_3 : TI := ⟨1, false, [Value.int IntKind.i64 0], [], none, 8, 2, none, false⟩
theorem TSO_3_ok : TypOk Try.prog 3 TSO_3 := ⟨by kernel_rfl, by kernel_rfl, by kernel_rfl, by kernel_rfl, by kernel_rfl⟩
def TSO_52 : TI := ⟨1, false, [Value.slice none 0 0], [], some 105, 24, 5, none, false⟩
theorem TSO_52_ok : TypOk Try.prog 52 TSO_52 := ⟨by kernel_rfl, by kernel_rfl, by kernel_rfl, by kernel_rfl, by kernel_rfl⟩
def TSO_105 : TI := ⟨5, true, [Value.int IntKind.i64 0, Value.slice none 0 0, Value.int IntKind.i64 0, Value.int IntKind.i64 0, Value.slice none 0 0], [(0, 1, false), (1, 4, true)], none, 72, 6, none, false⟩
theorem TSO_105_ok : TypOk Try.prog 105 TSO_105 := ⟨by kernel_rfl, by kernel_rfl, by kernel_rfl, by kernel_rfl, by kernel_rfl⟩
def TSO_231 : TI := ⟨1, false, [Value.int IntKind.u64 0], [], none, 8, 2, none, false⟩
theorem TSO_231_ok : TypOk Try.prog 231 TSO_231 := ⟨by kernel_rfl, by kernel_rfl, by kernel_rfl, by kernel_rfl, by kernel_rfl⟩
def TSO_232 : TI := ⟨1, false, [Value.nilFunc], [], none, 8, 8, none, false⟩
theorem TSO_232_ok : TypOk Try.prog 232 TSO_232 := ⟨by kernel_rfl, by kernel_rfl, by kernel_rfl, by kernel_rfl, by kernel_rfl⟩
def TSO_53 : TI := ⟨1, false, [Value.slice none 0 0], [], some 105, 24, 5, none, false⟩
theorem TSO_53_ok : TypOk Try.prog 53 TSO_53 := ⟨by kernel_rfl, by kernel_rfl, by kernel_rfl, by kernel_rfl, by kernel_rfl⟩
def TSO : List (Nat × TI) := [(3, TSO_3), (52, TSO_52), (105, TSO_105), (231, TSO_231), (232, TSO_232), (53, TSO_53)]
theorem TSO_ok : TabOk Try.prog TSO := (((((((TabOk.nil _).cons TSO_53_ok).cons TSO_232_ok).cons TSO_231_ok).cons TSO_105_ok).cons TSO_52_ok).cons TSO_3_ok)

theorem at_ {α : Type} {P R L : List α} {x : α} {i : Nat} (h : L = P ++ x :: R) (hi : P.length = i) : L[i]? = some x := by subst h; subst hi; simp
theorem pl_ok {L : List (Int × Tm)} {n i : Nat} {x : Int × Tm} (hn : L.length = n) (h : L[i]? = some x) : (ePairs L).length = n ∧ i < n ∧ ((ePairs L).getD i []).length = 5 := by
  have hi : i < L.length := by
    rcases Nat.lt_or_ge i L.length with h' | h'
    · exact h'
    · rw [List.getElem?_eq_none h'] at h; cases h
  exact ⟨by rw [ePairs_len, hn], by omega, by rw [ePairs_getD L i hi, ePair_eq]; rfl⟩
theorem pl_eq {L : List (Int × Tm)} {i : Nat} {x : Int × Tm} (h : L[i]? = some x) : VLe (.ag ((ePairs L).getD i [])) (.ag [.v (.int .i64 x.1), .sl 2 (eTys x.2.binds) none, .v (.int .i64 x.2.kind), .v (.int .i64 x.2.index), .sl 4 (eTms x.2.args) none]) := by
  have hi : i < L.length := by
    rcases Nat.lt_or_ge i L.length with h' | h'
    · exact h'
    · rw [List.getElem?_eq_none h'] at h; cases h
  rw [List.getElem?_eq_getElem hi] at h
  cases h
  exact VLe.of_eq (by rw [ePairs_getD L i hi, ePair_eq])
theorem pl_lt {α : Type} {L : List α} {n i : Nat} {x : α} (hn : L.length = n) (h : L[i]? = some x) : i < n := by
  rcases Nat.lt_or_ge i L.length with h' | h'
  · omega
  · rw [List.getElem?_eq_none h'] at h; cases h
theorem rowPut5 (r : List D) (a b c d e : D) : rowPut r 0 5 [a, b, c, d, e] = [a, b, c, d, e] := if_pos ⟨rfl, rfl⟩
theorem eP_set (L : List (Int × Tm)) (i : Nat) (x : Int × Tm) (r : List D) : (ePairs L).set i (rowPut r 0 5 [.v (.int .i64 x.1), .sl 2 (eTys x.2.binds) none, .v (.int .i64 x.2.kind), .v (.int .i64 x.2.index), .sl 4 (eTms x.2.args) none]) = ePairs (L.set i x) := by
  rw [rowPut5, ← ePair_eq, ePairs, ePairs, List.map_set]
theorem set_two {α : Type} {P Q R : List α} {x y : α} {i j : Nat} (hi : P.length = i) (hj : i + 1 + Q.length = j) : ((P ++ x :: (Q ++ y :: R)).set i y).set j x = P ++ y :: (Q ++ x :: R) := by
  subst hi hj
  rw [List.set_append_right _ _ (Nat.le_refl _), Nat.sub_self, List.set_cons_zero, List.set_append_right _ _ (by omega), show P.length + 1 + Q.length - P.length = Q.length + 1 by omega, List.set_cons_succ, List.set_append_right _ _ (Nat.le_refl _), Nat.sub_self, List.set_cons_zero]
theorem eP_swap {P Q R L L' : List (Int × Tm)} {x y : Int × Tm} {i j : Nat} (hL : L = P ++ x :: (Q ++ y :: R)) (hi : P.length = i) (hj : i + 1 + Q.length = j) (hL' : L' = P ++ y :: (Q ++ x :: R)) :
    ((ePairs L).set i (rowPut ((ePairs L).getD i []) 0 5 [.v (.int .i64 y.1), .sl 2 (eTys y.2.binds) none, .v (.int .i64 y.2.kind), .v (.int .i64 y.2.index), .sl 4 (eTms y.2.args) none])).set j (rowPut (((ePairs L).set i (rowPut ((ePairs L).getD i []) 0 5 [.v (.int .i64 y.1), .sl 2 (eTys y.2.binds) none, .v (.int .i64 y.2.kind), .v (.int .i64 y.2.index), .sl 4 (eTms y.2.args) none])).getD j []) 0 5 [.v (.int .i64 x.1), .sl 2 (eTys x.2.binds) none, .v (.int .i64 x.2.kind), .v (.int .i64 x.2.index), .sl 4 (eTms x.2.args) none]) = ePairs L' := by
  rw [eP_set, eP_set, hL, hL', set_two hi hj]
theorem eP_swap' {P Q R L L' : List (Int × Tm)} {x y : Int × Tm} {i j : Nat} (hL : L = P ++ x :: (Q ++ y :: R)) (hi : P.length = i) (hj : i + 1 + Q.length = j) (hL' : L' = P ++ y :: (Q ++ x :: R)) :
    ((ePairs L).set j (rowPut ((ePairs L).getD j []) 0 5 [.v (.int .i64 x.1), .sl 2 (eTys x.2.binds) none, .v (.int .i64 x.2.kind), .v (.int .i64 x.2.index), .sl 4 (eTms x.2.args) none])).set i (rowPut (((ePairs L).set j (rowPut ((ePairs L).getD j []) 0 5 [.v (.int .i64 x.1), .sl 2 (eTys x.2.binds) none, .v (.int .i64 x.2.kind), .v (.int .i64 x.2.index), .sl 4 (eTms x.2.args) none])).getD i []) 0 5 [.v (.int .i64 y.1), .sl 2 (eTys y.2.binds) none, .v (.int .i64 y.2.kind), .v (.int .i64 y.2.index), .sl 4 (eTms y.2.args) none]) = ePairs L' := by
  rw [eP_set, eP_set, hL, hL', List.set_comm _ _ (by omega), set_two hi hj]
theorem st_ok {L : List (Int × Tm)} {n i : Nat} {x : Int × Tm} (hn : L.length = n) (h : L[i]? = some x) : (ePairs L).length = n ∧ i < n := ⟨(pl_ok hn h).1, (pl_ok hn h).2.1⟩
theorem st_ok2 {L : List (Int × Tm)} {n i j : Nat} {x : Int × Tm} {r : List D} (hn : L.length = n) (h : L[i]? = some x) : ((ePairs L).set j r).length = n ∧ i < n := ⟨by rw [List.length_set]; exact (pl_ok hn h).1, (pl_ok hn h).2.1⟩

theorem swapR_d (A U M V Z : List (Int × Tm)) (n a b k : Nat) (hn : (A ++ U ++ M ++ V ++ Z).length = n) (ha : A.length = a) (hb : a + U.length + M.length = b) (hk : U.length = k) (hv : V.length = k) (hM : n ≤ 1000000) :
  CallG Try.prog 221 [.ps 0 n, .v (.int .i64 ↑a), .v (.int .i64 ↑b), .v (.int .i64 ↑k), .fn 145 []] [(.r 0, .rp 105 5 (ePairs (A ++ U ++ M ++ V ++ Z)))] [(.r 0, .rp 105 5 (ePairs (A ++ V ++ M ++ U ++ Z)))] (.tu []) := by
 refine callG_of_dw 1 38 [] TSO_ok (by kernel_rfl) Try.func221 rfl Try.ntmps221 rfl (by simp) ?dwords ?dbody
 case dwords => simp [wordsG, rowN, rowsR, gkey, Key.eq, D.ok, D.oks, D.okss, rnames, inN, ckey, ePairs_ok]
 case dbody =>
  intro cx hnt hn0
  refine dw_seq ?_; refine dwk [] TSO_ok hnt fun K hK => ?_; refine hK _ _ ?_; clear hK K; refine dw_block ?_
  refine dw_loop (ι := { p : List (Int × Tm) × List (Int × Tm) × List (Int × Tm) × List (Int × Tm) // p.1 ++ p.2.1 = U ∧ p.2.2.1 ++ p.2.2.2 = V ∧ p.1.length = p.2.2.1.length }) (fun p => [(.t 0, .ps 0 n), (.t 1, .v (.int .i64 ↑a)), (.t 2, .v (.int .i64 ↑b)), (.t 3, .v (.int .i64 ↑k)), (.t 10, .v (.int .i64 ↑p.1.1.length)), (.r 0, .rp 105 5 (ePairs (A ++ p.1.2.2.1 ++ p.1.2.1 ++ M ++ p.1.1 ++ p.1.2.2.2 ++ Z)))]) 1 (fun p => p.1.2.1.length) (⟨([], U, [], V), rfl, rfl, rfl⟩) ((VS.toK (by omega) (by repeat first | exact trivial | refine And.intro (And.intro (by first | rfl | simp [D.ok, D.oks, D.okss, D.okm, upto, keyOk, argsT]) (by first | exact Or.inl rfl | exact Or.inr ⟨_, rfl, (by repeat first | exact VLe.refl _ | exact VLe.nil _ | exact VLe.untag _ _ _ | refine VLe.ag ?_ | refine VLe.tu ?_ | refine VLeL.cons ?_ ?_ | exact VLeL.nil), trivial⟩ | simp [get, Key.eq, argsT])) ?_))) fun j => ?_
  obtain ⟨⟨U1, U2, V1, V2⟩, hU, hV, hl⟩ := j
  dsimp only at hU hV hl ⊢
  obtain ⟨L, hL⟩ : ∃ L, A ++ V1 ++ U2 ++ M ++ U1 ++ V2 ++ Z = L := ⟨_, rfl⟩
  have hnL : L.length = n := by rw [← hL, ← hn, ← hU, ← hV]; simp; omega
  rw [hL]
  have hUl : U1.length + U2.length = k := by rw [← hk, ← hU]; simp
  have hVl : V1.length + V2.length = k := by rw [← hv, ← hV]; simp
  cases U2 with
  | nil =>
   have h0 : V2 = [] := List.length_eq_zero_iff.1 (by simp at hUl; omega)
   subst h0
   simp only [List.append_nil] at hU hV
   subst hU hV
   simp only [List.append_nil] at hL
   rw [← hL]
   refine dw_seq ?_; refine dw_seq ?_; refine dwk [(13, .v (.bool false))] TSO_ok hnt fun K hK => ?_; refine And.intro auF ?_; refine hK _ _ ?_; clear hK K; refine dw_cond (t := false) rfl ?_; rw [if_neg (by simp)]; refine dw_exit ?_
   exact reta rfl
  | cons x U2 =>
   cases V2 with
   | nil => simp at hUl hVl; omega
   | cons y V2 =>
    simp at hUl hVl
    have hx : L[a + U1.length]? = some x := at_ (P := A ++ V1) (R := U2 ++ M ++ U1 ++ y :: V2 ++ Z) (by rw [← hL]; simp) (by simp; omega)
    have hy : L[b + U1.length]? = some y := at_ (P := A ++ V1 ++ x :: U2 ++ M ++ U1) (R := V2 ++ Z) (by rw [← hL]; simp) (by simp; omega)
    have lx := pl_lt hnL hx
    have ly := pl_lt hnL hy
    refine dw_seq ?_; refine dw_seq ?_; refine dwk [(13, .v (.bool true))] TSO_ok hnt fun K hK => ?_; refine And.intro auT ?_; refine hK _ _ ?_; clear hK K; refine dw_cond (t := true) rfl ?_; rw [if_pos rfl]; refine dw_skip ?_; refine dw_seq ?_; refine dw_block ?_; refine dwkD [(19, .v (.int .i64 (↑(a + U1.length)))), (23, .v (.int .i64 (↑(b + U1.length)))), (27, .v (.int .i64 (↑(b + U1.length)))), (28, .pr 0 n 5 ((b + U1.length)) 0), (29, .ag [.v (.int .i64 y.1), .sl 2 (eTys y.2.binds) none, .v (.int .i64 y.2.kind), .v (.int .i64 y.2.index), .sl 4 (eTms y.2.args) none]), (33, .v (.int .i64 (↑(a + U1.length)))), (34, .pr 0 n 5 ((a + U1.length)) 0), (35, .ag [.v (.int .i64 x.1), .sl 2 (eTys x.2.binds) none, .v (.int .i64 x.2.kind), .v (.int .i64 x.2.index), .sl 4 (eTms x.2.args) none]), (36, .pr 0 n 5 ((a + U1.length)) 0), (37, .pr 0 n 5 ((b + U1.length)) 0)] TSO_ok hnt fun K hK => ?_
    refine And.intro auI ?_; refine And.intro auI ?_; refine And.intro auI ?_; refine And.intro (by constructor <;> omega) ?_; refine And.intro (by first | rfl | exact VLe.of_eq (by simp)) ?_; refine And.intro (pl_ok hnL hy) ?_; refine And.intro (pl_eq hy) ?_; refine And.intro auI ?_; refine And.intro (by constructor <;> omega) ?_; refine And.intro (by first | rfl | exact VLe.of_eq (by simp)) ?_; refine And.intro (pl_ok hnL hx) ?_
    refine And.intro (pl_eq hx) ?_; refine And.intro (by constructor <;> omega) ?_; refine And.intro (by first | rfl | exact VLe.of_eq (by simp)) ?_; refine And.intro (st_ok hnL hx) ?_; refine And.intro (by constructor <;> omega) ?_; refine And.intro (by first | rfl | exact VLe.of_eq (by simp)) ?_; refine And.intro (st_ok2 hnL hy) ?_; refine hK _ _ (by kernel_rfl) ?_; clear hK K
    rw [eP_swap (P := A ++ V1) (Q := U2 ++ M ++ U1) (R := V2 ++ Z) (L' := A ++ (V1 ++ [y]) ++ U2 ++ M ++ (U1 ++ [x]) ++ V2 ++ Z) (by rw [← hL]; simp) (by simp; omega) (by simp; omega) (by simp)]
    refine dwk [(15, .v (.int .i64 (↑(U1 ++ [x]).length)))] TSO_ok hnt fun K hK => ?_; refine And.intro (dintE (by rw [IntWalk.i64_in _ (by omega)]; simp)) ?_; refine hK _ _ ?_; clear hK K
    refine ⟨⟨(U1 ++ [x], U2, V1 ++ [y], V2), by rw [← hU]; simp, by rw [← hV]; simp, by simp; omega⟩, by simp, VS.toA⟩
theorem bneT {a b : Int} (h : a ≠ b) : VLe (.v (.bool (a != b))) (.v (.bool true)) := VLe.of_eq (by simp [h])
theorem bneF {a b : Int} (h : a = b) : VLe (.v (.bool (a != b))) (.v (.bool false)) := VLe.of_eq (by simp [h])
theorem cmpI_lt {a b : Int} : cmpI a b < 0 ↔ a < b := by
  unfold cmpI
  split
  · simp [*]
  · split <;> simp [*]
theorem snoc_cases {α : Type} (l : List α) : l = [] ∨ ∃ L b, l = L ++ [b] := by
  rcases List.eq_nil_or_concat l with h | ⟨L, b, h⟩
  · exact .inl h
  · exact .inr ⟨L, b, by rw [h, List.concat_eq_append]⟩
theorem rotate_d (A X Y Z : List (Int × Tm)) (n a m b : Nat) (hn : (A ++ X ++ Y ++ Z).length = n) (ha : A.length = a) (hm : a + X.length = m) (hb : m + Y.length = b) (hX : 0 < X.length) (hY : 0 < Y.length) (hM : n ≤ 1000000) :
  CallG Try.prog 216 [.ps 0 n, .v (.int .i64 ↑a), .v (.int .i64 ↑m), .v (.int .i64 ↑b), .fn 145 []] [(.r 0, .rp 105 5 (ePairs (A ++ X ++ Y ++ Z)))] [(.r 0, .rp 105 5 (ePairs (A ++ Y ++ X ++ Z)))] (.tu []) := by
 have hbn : b ≤ n := by simp at hn; omega
 refine callG_of_dw 1 58 [] TSO_ok (by kernel_rfl) Try.func216 rfl Try.ntmps216 rfl (by simp) ?dwords ?dbody
 case dwords => simp [wordsG, rowN, rowsR, gkey, Key.eq, D.ok, D.oks, D.okss, rnames, inN, ckey, ePairs_ok]
 case dbody =>
  intro cx hnt hn0
  refine dw_seq ?_; refine dwk [(14, .v (.int .i64 (↑X.length)))] TSO_ok hnt fun K hK => ?_; refine And.intro auI ?_; refine hK _ _ ?_; clear hK K; refine dw_seq ?_; refine dwk [(17, .v (.int .i64 (↑Y.length)))] TSO_ok hnt fun K hK => ?_; refine And.intro auI ?_; refine hK _ _ ?_; clear hK K; refine dw_seq ?_; refine dw_block ?_
  refine dw_loop (ι := { p : List (Int × Tm) × List (Int × Tm) × List (Int × Tm) × List (Int × Tm) // p.1 ++ p.2.2.1 ++ p.2.1 ++ p.2.2.2 = A ++ Y ++ X ++ Z ∧ p.1.length + p.2.1.length = m ∧ 0 < p.2.1.length ∧ 0 < p.2.2.1.length }) (fun p => [(.t 0, .ps 0 n), (.t 2, .v (.int .i64 ↑m)), (.t 4, .fn 145 []), (.t 10, .v (.int .i64 ↑p.1.2.1.length)), (.t 11, .v (.int .i64 ↑p.1.2.2.1.length)), (.r 0, .rp 105 5 (ePairs (p.1.1 ++ p.1.2.1 ++ p.1.2.2.1 ++ p.1.2.2.2)))]) 1 (fun p => p.1.2.1.length + p.1.2.2.1.length) (⟨(A, X, Y, Z), rfl, by dsimp only; omega, hX, hY⟩) ((VS.toK (by omega) (by repeat first | exact trivial | refine And.intro (And.intro (by first | rfl | simp [D.ok, D.oks, D.okss, D.okm, upto, keyOk, argsT]) (by first | exact Or.inl rfl | exact Or.inr ⟨_, rfl, (by repeat first | exact VLe.refl _ | exact VLe.nil _ | exact VLe.untag _ _ _ | refine VLe.ag ?_ | refine VLe.tu ?_ | refine VLeL.cons ?_ ?_ | exact VLeL.nil), trivial⟩ | simp [get, Key.eq, argsT])) ?_))) fun j => ?_
  obtain ⟨⟨P, X', Y', Q⟩, hs, hp, h1, h2⟩ := j
  dsimp only at hs hp h1 h2 ⊢
  have hnn : (P ++ X' ++ Y' ++ Q).length = n := by
   have := congrArg List.length hs
   simp at this hn ⊢; omega
  have hmn : m ≤ n := by omega
  have hln : P.length + X'.length + Y'.length + Q.length = n := by rw [← hnn]; simp; omega
  by_cases hne : X'.length = Y'.length
  ·have hsw := swapR_d P X' [] Y' Q n P.length m X'.length (by rw [List.append_nil]; exact hnn) rfl (by simp; omega) rfl hne.symm hM
   rw [List.append_nil, List.append_nil, hs] at hsw
   refine dw_seq ?_; refine dw_seq ?_; refine dwk [(20, .v (.bool false))] TSO_ok hnt fun K hK => ?_; refine And.intro (bneF (by omega)) ?_; refine hK _ _ ?_; clear hK K; refine dw_cond (t := false) rfl ?_; rw [if_neg (by simp)]; refine dw_exit ?_; refine dwk [(53, .v (.int .i64 (↑P.length)))] TSO_ok hnt fun K hK => ?_; refine And.intro auI ?_; refine dcn (CallG.n (hsw) _) ?_; refine hK _ _ ?_; clear hK K
   exact reta rfl
  ·by_cases hgt : Y'.length < X'.length
   ·obtain ⟨S, T, hST, hS⟩ : ∃ S T, X' = S ++ T ∧ S.length = Y'.length := ⟨X'.take Y'.length, X'.drop Y'.length, (List.take_append_drop _ _).symm, by simp; omega⟩
    have hL : P ++ X' ++ Y' ++ Q = P ++ S ++ T ++ Y' ++ Q := by rw [hST]; simp
    have hXl : X'.length = S.length + T.length := by rw [hST]; simp
    have hsw := swapR_d P S T Y' Q n P.length m Y'.length (by rw [← hL]; exact hnn) rfl (by omega) hS rfl hM
    rw [hL]
    refine dw_seq ?_; refine dw_seq ?_; refine dwk [(20, .v (.bool true))] TSO_ok hnt fun K hK => ?_; refine And.intro (bneT (by omega)) ?_; refine hK _ _ ?_; clear hK K; refine dw_cond (t := true) rfl ?_; rw [if_pos rfl]; refine dw_skip ?_; refine dw_block ?_; refine dw_seq ?_; refine dwk [(23, .v (.bool true))] TSO_ok hnt fun K hK => ?_; refine And.intro auT ?_; refine hK _ _ ?_; clear hK K; refine dw_cond (t := true) rfl ?_
    rw [if_pos rfl]; refine dw_seq ?_; refine dwk [(27, .v (.int .i64 (↑P.length)))] TSO_ok hnt fun K hK => ?_; refine And.intro auI ?_; refine dcn (CallG.n (hsw) _) ?_; refine hK _ _ ?_; clear hK K; refine dwk [(34, .v (.int .i64 (↑T.length)))] TSO_ok hnt fun K hK => ?_; refine And.intro auI ?_; refine hK _ _ ?_; clear hK K
    rw [← hS]
    refine ⟨⟨(P ++ Y', T, S, Q), by rw [← hs, hST]; simp, by simp; omega, by dsimp only; omega, by dsimp only; omega⟩, by first | omega | (dsimp only; omega), VS.toA⟩
   ·obtain ⟨S, T, hST, hT⟩ : ∃ S T, Y' = S ++ T ∧ T.length = X'.length := ⟨Y'.take (Y'.length - X'.length), Y'.drop (Y'.length - X'.length), (List.take_append_drop _ _).symm, by simp; omega⟩
    have hL : P ++ X' ++ Y' ++ Q = P ++ X' ++ S ++ T ++ Q := by rw [hST]; simp
    have hYl : Y'.length = S.length + T.length := by rw [hST]; simp
    have hsw := swapR_d P X' S T Q n P.length (m + S.length) X'.length (by rw [← hL]; exact hnn) rfl (by omega) rfl hT hM
    rw [hL]
    refine dw_seq ?_; refine dw_seq ?_; refine dwk [(20, .v (.bool true))] TSO_ok hnt fun K hK => ?_; refine And.intro (bneT (by omega)) ?_; refine hK _ _ ?_; clear hK K; refine dw_cond (t := true) rfl ?_; rw [if_pos rfl]; refine dw_skip ?_; refine dw_block ?_; refine dw_seq ?_; refine dwk [(23, .v (.bool false))] TSO_ok hnt fun K hK => ?_; refine And.intro auF ?_; refine hK _ _ ?_; clear hK K; refine dw_cond (t := false) rfl ?_
    rw [if_neg (by simp)]; refine dw_seq ?_; refine dwk [(38, .v (.int .i64 (↑P.length))), (41, .v (.int .i64 (↑(m + Y'.length)))), (43, .v (.int .i64 (↑(m + S.length))))] TSO_ok hnt fun K hK => ?_; refine And.intro auI ?_; refine And.intro auI ?_; refine And.intro auI ?_; refine dcn (CallG.n (hsw) _) ?_; refine hK _ _ ?_; clear hK K; refine dwk [(49, .v (.int .i64 (↑S.length)))] TSO_ok hnt fun K hK => ?_
    refine And.intro auI ?_; refine hK _ _ ?_; clear hK K
    rw [← hT]
    refine ⟨⟨(P, T, S, X' ++ Q), by rw [← hs, hST]; simp, by dsimp only; omega, by dsimp only; omega, by dsimp only; omega⟩, by first | omega | (dsimp only; omega), VS.toA⟩
theorem insSort_d (A X Z : List (Int × Tm)) (n a b : Nat) (hn : (A ++ X ++ Z).length = n) (ha : A.length = a) (hb : a + X.length = b) (hM : n ≤ 1000000) :
  CallG Try.prog 206 [.ps 0 n, .v (.int .i64 ↑a), .v (.int .i64 ↑b), .fn 145 []] [(.r 0, .rp 105 5 (ePairs (A ++ X ++ Z)))] [(.r 0, .rp 105 5 (ePairs (A ++ So.ss X ++ Z)))] (.tu []) := by
 have hln : A.length + X.length + Z.length = n := by rw [← hn]; simp; omega
 obtain ⟨X1, X2, rfl, h0, hs⟩ : ∃ X1 X2, X = X1 ++ X2 ∧ (X2 = [] ∧ b ≤ a + 1 ∨ a + 1 = a + X1.length ∧ 0 < X1.length) ∧ So.ss X1 = X1 := by
  cases X with
  | nil => exact ⟨[], [], rfl, .inl ⟨rfl, by simp at hb; omega⟩, rfl⟩
  | cons x X => exact ⟨[x], X, rfl, .inr ⟨rfl, Nat.one_pos⟩, So.ss_one x⟩
 obtain ⟨X, hXX⟩ : ∃ X, X1 ++ X2 = X := ⟨_, rfl⟩
 rw [hXX] at hb hln
 refine callG_of_dw 1 53 [] TSO_ok (by kernel_rfl) Try.func206 rfl Try.ntmps206 rfl (by simp) ?dwords ?dbody
 case dwords => simp [wordsG, rowN, rowsR, gkey, Key.eq, D.ok, D.oks, D.okss, rnames, inN, ckey, ePairs_ok]
 case dbody =>
  intro cx hnt hn0
  refine dw_seq ?_; refine dwk [(11, .v (.int .i64 (↑(a + 1))))] TSO_ok hnt fun K hK => ?_; refine And.intro auI ?_; refine hK _ _ ?_; clear hK K; refine dw_block ?_
  refine dw_loop (ι := { p : List (Int × Tm) × List (Int × Tm) × Nat // p.1 ++ p.2.1 = X ∧ (p.2.1 = [] ∧ b ≤ p.2.2 ∨ p.2.2 = a + p.1.length ∧ 0 < p.1.length) }) (fun p => [(.t 0, .ps 0 n), (.t 1, .v (.int .i64 ↑a)), (.t 2, .v (.int .i64 ↑b)), (.t 3, .fn 145 []), (.t 8, .v (.int .i64 ↑p.1.2.2)), (.r 0, .rp 105 5 (ePairs (A ++ So.ss p.1.1 ++ p.1.2.1 ++ Z)))]) 1 (fun p => p.1.2.1.length) (⟨(X1, X2, a + 1), hXX, h0⟩) ((VS.toK (by omega) (by repeat first | exact trivial | refine And.intro (And.intro (by first | rfl | simp [D.ok, D.oks, D.okss, D.okm, upto, keyOk, argsT, hs]) (by first | exact Or.inl rfl | exact Or.inr ⟨_, rfl, (by repeat first | exact VLe.refl _ | exact VLe.nil _ | exact VLe.untag _ _ _ | refine VLe.ag ?_ | refine VLe.tu ?_ | refine VLeL.cons ?_ ?_ | exact VLeL.nil), trivial⟩ | simp [get, Key.eq, argsT, hs])) ?_))) fun j => ?_
  obtain ⟨⟨Y1, Y2, i⟩, hY, hi⟩ := j
  dsimp only at hY hi ⊢
  have hYl : X.length = Y1.length + Y2.length := by rw [← hY]; simp
  cases Y2 with
  | nil =>
   have hib : b ≤ i := by
    rcases hi with hi | hi
    ·exact hi.2
    ·rw [List.length_nil] at hYl; omega
   rw [List.append_nil] at hY ⊢
   subst hY
   rw [hXX]
   refine dw_seq ?_; refine dw_seq ?_; refine dwk [(14, .v (.bool false))] TSO_ok hnt fun K hK => ?_; refine And.intro auF ?_; refine hK _ _ ?_; clear hK K; refine dw_cond (t := false) rfl ?_; rw [if_neg (by simp)]; refine dw_exit ?_
   exact reta rfl
  | cons x Y2 =>
   have hi2 : i = a + Y1.length := by
    rcases hi with hi | hi
    ·cases hi.1
    ·exact hi.1
   rw [List.length_cons] at hYl
   refine dw_seq ?_; refine dw_seq ?_; refine dwk [(14, .v (.bool true))] TSO_ok hnt fun K hK => ?_; refine And.intro auT ?_; refine hK _ _ ?_; clear hK K; refine dw_cond (t := true) rfl ?_; rw [if_pos rfl]; refine dw_skip ?_; refine dw_seq ?_; refine dw_block ?_; refine dw_seq ?_; refine dwk [(9, .v (.int .i64 ↑(a + (So.ss Y1).length)))] TSO_ok hnt fun K hK => ?_; refine And.intro (VLe.of_eq (by rw [So.ss_len, hi2])) ?_
   refine hK _ _ ?_; clear hK K; refine dw_block ?_
   refine dw_loop (ι := { p : List (Int × Tm) × List (Int × Tm) // p.1 ++ p.2 = So.ss Y1 ∧ ∀ s ∈ p.2, x.1 < s.1 }) (fun p => [(.t 0, .ps 0 n), (.t 1, .v (.int .i64 ↑a)), (.t 2, .v (.int .i64 ↑b)), (.t 3, .fn 145 []), (.t 8, .v (.int .i64 ↑i)), (.t 9, .v (.int .i64 ↑(a + p.1.1.length))), (.r 0, .rp 105 5 (ePairs (A ++ p.1.1 ++ x :: p.1.2 ++ Y2 ++ Z)))]) 1 (fun p => p.1.1.length) (⟨(So.ss Y1, []), by simp, by simp⟩) (VS.toA) fun j => ?_
   obtain ⟨⟨S1, S2⟩, hS, hg⟩ := j
   dsimp only at hS hg ⊢
   have hSl : S1.length + S2.length = Y1.length := by rw [← So.ss_len Y1, ← hS]; simp
   obtain ⟨L, hL⟩ : ∃ L, A ++ S1 ++ x :: S2 ++ Y2 ++ Z = L := ⟨_, rfl⟩
   have hnL : L.length = n := by rw [← hL]; simp; omega
   rw [hL]
   have hdone : ∀ h1 : (∀ s ∈ S1, s.1 ≤ x.1), L = A ++ So.ss (Y1 ++ [x]) ++ Y2 ++ Z := fun h1 => by
    rw [So.ss_snoc hS h1 hg, ← hL]; simp
   rcases snoc_cases S1 with rfl | ⟨S, s, rfl⟩
   ·rw [hdone (by simp)]
    refine dw_seq ?_; refine dw_seq ?_; refine dwkD [(20, .v (.bool false))] TSO_ok hnt fun K hK => ?_; refine And.intro (by first | exact dfalse (by simp) | exact VLe.of_eq (by simp)) ?_; refine hK _ _ (by kernel_rfl) ?_; clear hK K; refine dw_cond (t := false) rfl ?_; rw [if_neg (by simp)]; refine dw_exit ?_; refine dwk [(16, .v (.int .i64 (↑(i + 1))))] TSO_ok hnt fun K hK => ?_; refine And.intro (dintE (by rw [IntWalk.i64_in _ (by omega)]; omega)) ?_
    refine hK _ _ ?_; clear hK K
    refine ⟨⟨(Y1 ++ [x], Y2, i + 1), by rw [← hY]; simp, .inr ⟨by simp; omega, by simp⟩⟩, by simp, VS.toA⟩
   ·have hj : a + (S ++ [s]).length = a + S.length + 1 := by simp; omega
    rw [hj]
    simp at hSl
    have hx : L[a + S.length + 1]? = some x := at_ (P := A ++ S ++ [s]) (R := S2 ++ Y2 ++ Z) (by rw [← hL]; simp) (by simp; omega)
    have hy : L[a + S.length]? = some s := at_ (P := A ++ S) (R := x :: S2 ++ Y2 ++ Z) (by rw [← hL]; simp) (by simp; omega)
    have lx := pl_lt hnL hx
    have ho := sorder_d x s
    rw [ePair_eq, ePair_eq] at ho
    by_cases hlt : x.1 < s.1
    ·skip
     refine dw_seq ?_; refine dw_seq ?_; refine dwkD [(20, .v (.bool true)), (25, .pr 0 n 5 ((a + S.length + 1)) 0), (26, .ag [.v (.int .i64 x.1), .sl 2 (eTys x.2.binds) none, .v (.int .i64 x.2.kind), .v (.int .i64 x.2.index), .sl 4 (eTms x.2.args) none]), (29, .v (.int .i64 (↑(a + S.length)))), (30, .pr 0 n 5 ((a + S.length)) 0), (31, .ag [.v (.int .i64 s.1), .sl 2 (eTys s.2.binds) none, .v (.int .i64 s.2.kind), .v (.int .i64 s.2.index), .sl 4 (eTms s.2.args) none]), (33, .v (.bool true))] TSO_ok hnt fun K hK => ?_
     refine And.intro (by first | exact dtrue (by simp; omega) | exact VLe.of_eq (by simp; omega)) ?_; refine And.intro (by constructor <;> omega) ?_; refine And.intro (by first | rfl | exact VLe.of_eq (by simp)) ?_; refine And.intro (pl_ok hnL hx) ?_; refine And.intro (pl_eq hx) ?_; refine And.intro auI ?_; refine And.intro (by constructor <;> omega) ?_; refine And.intro (by first | rfl | exact VLe.of_eq (by simp)) ?_
     refine And.intro (pl_ok hnL hy) ?_; refine And.intro (pl_eq hy) ?_; refine dcl (ho) ?_; refine And.intro (dtrue (cmpI_lt.2 hlt)) ?_; refine hK _ _ (by kernel_rfl) ?_; clear hK K; refine dw_cond (t := true) rfl ?_; rw [if_pos rfl]; refine dw_skip ?_; refine dw_seq ?_; refine dw_block ?_; refine dwkD [(41, .v (.int .i64 (↑(a + S.length)))), (44, .v (.int .i64 (↑(a + S.length)))), (45, .pr 0 n 5 ((a + S.length)) 0), (46, .ag [.v (.int .i64 s.1), .sl 2 (eTys s.2.binds) none, .v (.int .i64 s.2.kind), .v (.int .i64 s.2.index), .sl 4 (eTms s.2.args) none]), (49, .pr 0 n 5 ((a + S.length + 1)) 0), (50, .ag [.v (.int .i64 x.1), .sl 2 (eTys x.2.binds) none, .v (.int .i64 x.2.kind), .v (.int .i64 x.2.index), .sl 4 (eTms x.2.args) none]), (51, .pr 0 n 5 ((a + S.length + 1)) 0), (52, .pr 0 n 5 ((a + S.length)) 0)] TSO_ok hnt fun K hK => ?_
     refine And.intro auI ?_; refine And.intro auI ?_; refine And.intro (by constructor <;> omega) ?_; refine And.intro (by first | rfl | exact VLe.of_eq (by simp)) ?_; refine And.intro (pl_ok hnL hy) ?_; refine And.intro (pl_eq hy) ?_; refine And.intro (by constructor <;> omega) ?_; refine And.intro (by first | rfl | exact VLe.of_eq (by simp)) ?_; refine And.intro (pl_ok hnL hx) ?_; refine And.intro (pl_eq hx) ?_
     refine And.intro (by constructor <;> omega) ?_; refine And.intro (by first | rfl | exact VLe.of_eq (by simp)) ?_; refine And.intro (st_ok hnL hx) ?_; refine And.intro (by constructor <;> omega) ?_; refine And.intro (by first | rfl | exact VLe.of_eq (by simp)) ?_; refine And.intro (st_ok2 hnL hy) ?_; refine hK _ _ (by kernel_rfl) ?_; clear hK K
     rw [eP_swap' (P := A ++ S) (Q := []) (R := S2 ++ Y2 ++ Z) (L' := A ++ S ++ x :: (s :: S2) ++ Y2 ++ Z) (by rw [← hL]; simp) (by simp; omega) (by simp) (by simp)]
     refine dwk [(36, .v (.int .i64 (↑(a + S.length))))] TSO_ok hnt fun K hK => ?_; refine And.intro auI ?_; refine hK _ _ ?_; clear hK K
     refine ⟨⟨(S, s :: S2), by rw [← hS]; simp, fun u hu => (List.mem_cons.1 hu).elim (fun e => e ▸ hlt) (hg u)⟩, by simp, VS.toA⟩
    ·have hsrt := So.ss_srt Y1
     rw [← hS] at hsrt
     have hall : ∀ u ∈ S ++ [s], u.1 ≤ x.1 := fun u hu => by
      rcases List.mem_append.1 hu with hu | hu
      ·have := (So.srt_app.1 (So.srt_app.1 hsrt).1).2.2 u hu s (by simp); omega
      ·rw [List.mem_singleton] at hu; subst hu; omega
     refine dw_seq ?_; refine dw_seq ?_; refine dwkD [(20, .v (.bool true)), (25, .pr 0 n 5 ((a + S.length + 1)) 0), (26, .ag [.v (.int .i64 x.1), .sl 2 (eTys x.2.binds) none, .v (.int .i64 x.2.kind), .v (.int .i64 x.2.index), .sl 4 (eTms x.2.args) none]), (29, .v (.int .i64 (↑(a + S.length)))), (30, .pr 0 n 5 ((a + S.length)) 0), (31, .ag [.v (.int .i64 s.1), .sl 2 (eTys s.2.binds) none, .v (.int .i64 s.2.kind), .v (.int .i64 s.2.index), .sl 4 (eTms s.2.args) none]), (33, .v (.bool false))] TSO_ok hnt fun K hK => ?_
     refine And.intro (by first | exact dtrue (by simp; omega) | exact VLe.of_eq (by simp; omega)) ?_; refine And.intro (by constructor <;> omega) ?_; refine And.intro (by first | rfl | exact VLe.of_eq (by simp)) ?_; refine And.intro (pl_ok hnL hx) ?_; refine And.intro (pl_eq hx) ?_; refine And.intro auI ?_; refine And.intro (by constructor <;> omega) ?_; refine And.intro (by first | rfl | exact VLe.of_eq (by simp)) ?_
     refine And.intro (pl_ok hnL hy) ?_; refine And.intro (pl_eq hy) ?_; refine dcl (ho) ?_; refine And.intro (dfalse (fun h => hlt (cmpI_lt.1 h))) ?_; refine hK _ _ (by kernel_rfl) ?_; clear hK K; refine dw_cond (t := false) rfl ?_; rw [if_neg (by simp)]
     rw [hdone hall]
     refine dw_exit ?_; refine dwk [(16, .v (.int .i64 (↑(i + 1))))] TSO_ok hnt fun K hK => ?_; refine And.intro auI ?_; refine hK _ _ ?_; clear hK K
     refine ⟨⟨(Y1 ++ [x], Y2, i + 1), by rw [← hY]; simp, .inr ⟨by simp; omega, by simp⟩⟩, by simp, VS.toA⟩
end Go.Proofs.Ytdmiekaeodcehaa

namespace Go.Proofs.Ytdmiekaeodcehaa
open Go.RowKit

theorem beqT {a b : Int} (h : a = b) : VLe (.v (.bool (a == b))) (.v (.bool true)) := VLe.of_eq (by simp [h])
theorem beqF {a b : Int} (h : a ≠ b) : VLe (.v (.bool (a == b))) (.v (.bool false)) := VLe.of_eq (by simp [h])
theorem half_i (k : Nat) (h : k < 4611686018427387904) : IntKind.i64.wrap ((IntKind.u64.wrap (↑k : Int)).fdiv 2) = ((k / 2 : Nat) : Int) := by
  have e1 : IntKind.u64.wrap (↑k : Int) = ↑k := by
    simp only [IntKind.wrap, IntKind.bits, IntKind.signed]
    simp
    omega
  rw [e1, Int.fdiv_eq_ediv_of_nonneg _ (by omega), IntWalk.i64_in _ (by omega)]
  omega
namespace So
def ky (L : List (Int × Tm)) (i : Nat) : Int := ((L[i]?).map (·.1)).getD 0
theorem ky_at {L : List (Int × Tm)} {i : Nat} {x : Int × Tm} (h : L[i]? = some x) : ky L i = x.1 := by simp [ky, h]
theorem at_ex {α : Type} {L : List α} {n i : Nat} (hn : L.length = n) (hi : i < n) : ∃ x, L[i]? = some x := ⟨L[i]'(by omega), List.getElem?_eq_getElem (by omega)⟩
theorem left_one {x : Int × Tm} {Y1 Y2 : List (Int × Tm)} (hY : Srt (Y1 ++ Y2)) (h1 : ∀ y ∈ Y1, y.1 < x.1) (h2 : ∀ y ∈ Y2, x.1 ≤ y.1) : ss ([x] ++ (Y1 ++ Y2)) = Y1 ++ x :: Y2 := by
  have a := srt_app.1 hY
  have h := ss_cut (X1 := []) (X2 := [x]) (Y1 := Y1) (Y2 := Y2) (srt_one x) hY (fun _ h => by cases h) (fun y hy u hu => by rw [List.mem_singleton] at hu; subst hu; exact h1 y hy)
  rw [List.nil_append, List.nil_append, ss_self a.1, ss_self (l := [x] ++ Y2) (List.pairwise_cons.2 ⟨h2, a.2.1⟩)] at h
  exact h
theorem right_one {y : Int × Tm} {X1 X2 : List (Int × Tm)} (hX : Srt (X1 ++ X2)) (h1 : ∀ x ∈ X1, x.1 ≤ y.1) (h2 : ∀ x ∈ X2, y.1 < x.1) : ss (X1 ++ X2 ++ [y]) = X1 ++ y :: X2 := ss_snoc (ss_self hX).symm h1 h2
theorem sym_cut {A X Y Z L : List (Int × Tm)} {a m b mid s : Nat} (hX : Srt X) (hY : Srt Y) (hL : L = A ++ X ++ Y ++ Z) (ha : A.length = a) (hm : a + X.length = m) (hb : m + Y.length = b) (q1 : a ≤ s) (q2 : s ≤ m) (q3 : s ≤ mid) (q4 : mid + m ≤ s + b)
    (h1 : s = a ∨ mid + m = s + b ∨ ky L (s - 1) ≤ ky L (mid + m - s)) (h2 : s = mid ∨ s = m ∨ ky L (mid + m - 1 - s) < ky L s) :
    ∃ X1 X2 Y1 Y2, X = X1 ++ X2 ∧ Y = Y1 ++ Y2 ∧ a + X1.length = s ∧ s + Y1.length = mid ∧ (∀ x ∈ X1, ∀ y ∈ Y2, x.1 ≤ y.1) ∧ (∀ y ∈ Y1, ∀ x ∈ X2, y.1 < x.1) := by
  obtain ⟨X1, X2, rfl, hx⟩ : ∃ X1 X2, X = X1 ++ X2 ∧ a + X1.length = s := ⟨X.take (s - a), X.drop (s - a), (List.take_append_drop _ _).symm, by simp; omega⟩
  obtain ⟨Y1, Y2, rfl, hy⟩ : ∃ Y1 Y2, Y = Y1 ++ Y2 ∧ s + Y1.length = mid := ⟨Y.take (mid - s), Y.drop (mid - s), (List.take_append_drop _ _).symm, by simp; omega⟩
  rw [List.length_append] at hm hb
  have sx := srt_app.1 hX
  have sy := srt_app.1 hY
  refine ⟨X1, X2, Y1, Y2, rfl, rfl, hx, hy, fun x hxm y hym => ?_, fun y hym x hxm => ?_⟩
  · rcases snoc_cases X1 with rfl | ⟨U, u, rfl⟩
    · cases hxm
    cases Y2 with
    | nil => cases hym
    | cons v V =>
      simp at hx hm hb
      have e1 : L[s - 1]? = some u := at_ (P := A ++ U) (R := X2 ++ (Y1 ++ v :: V) ++ Z) (by rw [hL]; simp) (by simp; omega)
      have e2 : L[mid + m - s]? = some v := at_ (P := A ++ (U ++ [u] ++ X2) ++ Y1) (R := V ++ Z) (by rw [hL]; simp) (by simp; omega)
      rcases h1 with h1 | h1 | h1
      · omega
      · omega
      · rw [ky_at e1, ky_at e2] at h1
        have a1 : x.1 ≤ u.1 := by
          rcases List.mem_append.1 hxm with h | h
          · exact (srt_app.1 sx.1).2.2 x h u (by simp)
          · rw [List.mem_singleton] at h; rw [h]; exact Int.le_refl _
        have a2 : v.1 ≤ y.1 := by
          rcases List.mem_cons.1 hym with h | h
          · rw [h]; exact Int.le_refl _
          · exact (List.pairwise_cons.1 sy.2.1).1 y h
        omega
  · rcases snoc_cases Y1 with rfl | ⟨U, u, rfl⟩
    · cases hym
    cases X2 with
    | nil => cases hxm
    | cons v V =>
      simp at hy hm hb
      have e1 : L[mid + m - 1 - s]? = some u := at_ (P := A ++ (X1 ++ v :: V) ++ U) (R := Y2 ++ Z) (by rw [hL]; simp) (by simp; omega)
      have e2 : L[s]? = some v := at_ (P := A ++ X1) (R := V ++ (U ++ [u] ++ Y2) ++ Z) (by rw [hL]; simp) (by simp; omega)
      rcases h2 with h2 | h2 | h2
      · omega
      · omega
      · rw [ky_at e1, ky_at e2] at h2
        have a1 : y.1 ≤ u.1 := by
          rcases List.mem_append.1 hym with h | h
          · exact (srt_app.1 sy.1).2.2 y h u (by simp)
          · rw [List.mem_singleton] at h; rw [h]; exact Int.le_refl _
        have a2 : v.1 ≤ x.1 := by
          rcases List.mem_cons.1 hxm with h | h
          · rw [h]; exact Int.le_refl _
          · exact (List.pairwise_cons.1 sx.2.1).1 x h
        omega
end So
abbrev symIn (n a m b : Nat) : List D := [.ps 0 n, .v (.int .i64 ↑a), .v (.int .i64 ↑m), .v (.int .i64 ↑b), .fn 145 []]
abbrev symR (L : List (Int × Tm)) : List (Key × D) := [(.r 0, .rp 105 5 (ePairs L))]
theorem sym_left (A : List (Int × Tm)) (x : Int × Tm) (Y Z : List (Int × Tm)) (n a m b : Nat) (hn : (A ++ [x] ++ Y ++ Z).length = n) (ha : A.length = a) (hm : a + 1 = m) (hb : m + Y.length = b) (hY : So.Srt Y) (hM : n ≤ 1000000) :
  CallG Try.prog 207 (symIn n a m b) (symR (A ++ [x] ++ Y ++ Z)) (symR (A ++ So.ss ([x] ++ Y) ++ Z)) (.tu []) := by
 have hbn : b ≤ n := by simp at hn; omega
 obtain ⟨L, hL⟩ : ∃ L, A ++ [x] ++ Y ++ Z = L := ⟨_, rfl⟩
 rw [hL] at hn ⊢
 have hx : L[a]? = some x := at_ (P := A) (R := Y ++ Z) (by rw [← hL]; simp) ha
 have lx := pl_lt hn hx
 subst hb
 refine callG_of_dw 1 220 [] TSO_ok (by kernel_rfl) Try.func207 rfl Try.ntmps207 rfl (by simp) ?dwords ?dbody
 case dwords => simp [wordsG, rowN, rowsR, gkey, Key.eq, D.ok, D.oks, D.okss, rnames, inN, ckey, ePairs_ok]
 case dbody =>
  intro cx hnt hn0
  refine dw_seq ?_; refine dw_seq ?_; refine dwk [(27, .v (.int .i64 (↑1))), (28, .v (.bool true))] TSO_ok hnt fun K hK => ?_; refine And.intro auI ?_; refine And.intro (beqT rfl) ?_; refine hK _ _ ?_; clear hK K; refine dw_cond (t := true) rfl ?_; rw [if_pos rfl]; refine dw_seq ?_; refine dwk [] TSO_ok hnt fun K hK => ?_; refine hK _ _ ?_; clear hK K; refine dw_seq ?_; refine dwk [] TSO_ok hnt fun K hK => ?_
  refine hK _ _ ?_; clear hK K; refine dw_seq ?_; refine dw_block ?_
  refine dw_loop (ι := { p : List (Int × Tm) × List (Int × Tm) × List (Int × Tm) // p.1 ++ p.2.1 ++ p.2.2 = Y ∧ (∀ y ∈ p.1, y.1 < x.1) ∧ (∀ y ∈ p.2.2, x.1 ≤ y.1) }) (fun p => [(.t 0, .ps 0 n), (.t 1, .v (.int .i64 ↑a)), (.t 4, .fn 145 []), (.t 10, .v (.int .i64 ↑(m + p.1.1.length))), (.t 11, .v (.int .i64 ↑(m + p.1.1.length + p.1.2.1.length))), (.r 0, .rp 105 5 (ePairs L))]) 1 (fun p => p.1.2.1.length) (⟨([], Y, []), by simp, by simp, by simp⟩) ((VS.toK (by omega) (by repeat first | exact trivial | refine And.intro (And.intro (by first | rfl | simp [D.ok, D.oks, D.okss, D.okm, upto, keyOk, argsT]) (by first | exact Or.inl rfl | exact Or.inr ⟨_, rfl, (by repeat first | exact VLe.refl _ | exact VLe.nil _ | exact VLe.untag _ _ _ | refine VLe.ag ?_ | refine VLe.tu ?_ | refine VLeL.cons ?_ ?_ | exact VLeL.nil), trivial⟩ | simp [get, Key.eq, argsT])) ?_))) fun j => ?_
  obtain ⟨⟨Y1, Mi, Y2⟩, hs, h1, h2⟩ := j
  dsimp only at hs h1 h2 ⊢
  have hYl : Y1.length + Mi.length + Y2.length = Y.length := by rw [← hs]; simp; omega
  by_cases h0 : Mi.length = 0
  ·have : Mi = [] := List.length_eq_zero_iff.1 h0
   subst this
   rw [List.append_nil] at hs
   rw [List.length_nil, Nat.add_zero] at hYl ⊢
   refine dw_seq ?_; refine dw_seq ?_; refine dwk [(33, .v (.bool false))] TSO_ok hnt fun K hK => ?_; refine And.intro auF ?_; refine hK _ _ ?_; clear hK K; refine dw_cond (t := false) rfl ?_; rw [if_neg (by simp)]; refine dw_exit ?_; refine dw_seq ?_; refine dw_seq ?_; refine dwk [] TSO_ok hnt fun K hK => ?_; refine hK _ _ ?_; clear hK K; refine dw_block ?_
   refine dw_loop (ι := { p : List (Int × Tm) × List (Int × Tm) // p.1 ++ p.2 = Y1 }) (fun p => [(.t 0, .ps 0 n), (.t 10, .v (.int .i64 ↑(m + Y1.length))), (.t 13, .v (.int .i64 ↑(a + p.1.1.length))), (.r 0, .rp 105 5 (ePairs (A ++ p.1.1 ++ x :: p.1.2 ++ Y2 ++ Z)))]) 1 (fun p => p.1.2.length) (⟨([], Y1), rfl⟩) ((VS.toK (by omega) (by repeat first | exact trivial | refine And.intro (And.intro (by first | rfl | simp [D.ok, D.oks, D.okss, D.okm, upto, keyOk, ← hL, ← hs]) (by first | exact Or.inl rfl | exact Or.inr ⟨_, rfl, (by repeat first | exact VLe.refl _ | exact VLe.nil _ | exact VLe.untag _ _ _ | refine VLe.ag ?_ | refine VLe.tu ?_ | refine VLeL.cons ?_ ?_ | exact VLeL.nil), trivial⟩ | simp [get, Key.eq, ← hL, ← hs])) ?_))) fun j => ?_
   obtain ⟨⟨B1, B2⟩, hB⟩ := j
   dsimp only at hB ⊢
   have hBl : B1.length + B2.length = Y1.length := by rw [← hB]; simp
   cases B2 with
   | nil =>
    rw [List.length_nil] at hBl
    rw [List.append_nil] at hB
    have hf : So.ss ([x] ++ Y) = Y1 ++ x :: Y2 := by rw [← hs]; exact So.left_one (by rw [hs]; exact hY) h1 h2
    rw [hf]
    have e2 : A ++ B1 ++ [x] ++ Y2 ++ Z = A ++ (Y1 ++ x :: Y2) ++ Z := by rw [hB]; simp
    rw [e2]
    refine dw_seq ?_; refine dw_seq ?_; refine dwk [(57, .v (.int .i64 (↑(a + Y1.length)))), (58, .v (.bool false))] TSO_ok hnt fun K hK => ?_; refine And.intro auI ?_; refine And.intro auF ?_; refine hK _ _ ?_; clear hK K; refine dw_cond (t := false) rfl ?_; rw [if_neg (by simp)]; refine dw_exit ?_; refine dw_ret ?_
    exact reta rfl
   | cons y B2 =>
    rw [List.length_cons] at hBl
    obtain ⟨L2, hL2⟩ : ∃ L2, A ++ B1 ++ x :: (y :: B2) ++ Y2 ++ Z = L2 := ⟨_, rfl⟩
    rw [hL2]
    have hn2 : L2.length = n := by rw [← hL2, ← hn, ← hL, ← hs, ← hB]; simp; omega
    have gx : L2[a + B1.length]? = some x := at_ (P := A ++ B1) (R := y :: B2 ++ Y2 ++ Z) (by rw [← hL2]; simp) (by simp; omega)
    have gy : L2[a + B1.length + 1]? = some y := at_ (P := A ++ B1 ++ [x]) (R := B2 ++ Y2 ++ Z) (by rw [← hL2]; simp) (by simp; omega)
    have ly := pl_lt hn2 gy
    refine dw_seq ?_; refine dw_seq ?_; refine dwk [(57, .v (.int .i64 (↑(a + Y1.length)))), (58, .v (.bool true))] TSO_ok hnt fun K hK => ?_; refine And.intro auI ?_; refine And.intro auT ?_; refine hK _ _ ?_; clear hK K; refine dw_cond (t := true) rfl ?_; rw [if_pos rfl]; refine dw_skip ?_; refine dw_seq ?_; refine dw_block ?_; refine dwkD [(65, .v (.int .i64 (↑(a + B1.length + 1)))), (68, .v (.int .i64 (↑(a + B1.length + 1)))), (69, .pr 0 n 5 ((a + B1.length + 1)) 0), (70, .ag [.v (.int .i64 y.1), .sl 2 (eTys y.2.binds) none, .v (.int .i64 y.2.kind), .v (.int .i64 y.2.index), .sl 4 (eTms y.2.args) none]), (73, .pr 0 n 5 ((a + B1.length)) 0), (74, .ag [.v (.int .i64 x.1), .sl 2 (eTys x.2.binds) none, .v (.int .i64 x.2.kind), .v (.int .i64 x.2.index), .sl 4 (eTms x.2.args) none]), (75, .pr 0 n 5 ((a + B1.length)) 0), (76, .pr 0 n 5 ((a + B1.length + 1)) 0)] TSO_ok hnt fun K hK => ?_
    refine And.intro auI ?_; refine And.intro auI ?_; refine And.intro (by constructor <;> omega) ?_; refine And.intro (by first | rfl | exact VLe.of_eq (by simp)) ?_; refine And.intro (pl_ok hn2 gy) ?_; refine And.intro (pl_eq gy) ?_; refine And.intro (by constructor <;> omega) ?_; refine And.intro (by first | rfl | exact VLe.of_eq (by simp)) ?_; refine And.intro (pl_ok hn2 gx) ?_; refine And.intro (pl_eq gx) ?_
    refine And.intro (by constructor <;> omega) ?_; refine And.intro (by first | rfl | exact VLe.of_eq (by simp)) ?_; refine And.intro (st_ok hn2 gx) ?_; refine And.intro (by constructor <;> omega) ?_; refine And.intro (by first | rfl | exact VLe.of_eq (by simp)) ?_; refine And.intro (st_ok2 hn2 gy) ?_; refine hK _ _ (by kernel_rfl) ?_; clear hK K
    rw [eP_swap (P := A ++ B1) (Q := []) (R := B2 ++ Y2 ++ Z) (L' := A ++ (B1 ++ [y]) ++ x :: B2 ++ Y2 ++ Z) (by rw [← hL2]; simp) (by simp; omega) (by simp) (by simp)]
    refine dwk [(60, .v (.int .i64 (↑(a + (B1 ++ [y]).length))))] TSO_ok hnt fun K hK => ?_; refine And.intro (dintE (by rw [IntWalk.i64_in _ (by omega)]; simp; omega)) ?_; refine hK _ _ ?_; clear hK K
    refine ⟨⟨(B1 ++ [y], B2), by rw [← hB]; simp⟩, by simp, VS.toA⟩
  ·obtain ⟨M1, y, M2, rfl, hh⟩ : ∃ M1 y M2, Mi = M1 ++ y :: M2 ∧ m + Y1.length + M1.length = (m + Y1.length + (m + Y1.length + Mi.length)) / 2 := by
    have hlt : Mi.length / 2 < Mi.length := by omega
    refine ⟨Mi.take (Mi.length / 2), Mi[Mi.length / 2], Mi.drop (Mi.length / 2 + 1), ?_, ?_⟩
    ·rw [← List.drop_eq_getElem_cons hlt, List.take_append_drop]
    ·rw [List.length_take, Nat.min_eq_left (by omega)]; omega
   have hMl : (M1 ++ y :: M2).length = M1.length + M2.length + 1 := by simp; omega
   have hy : L[m + Y1.length + M1.length]? = some y := at_ (P := A ++ [x] ++ Y1 ++ M1) (R := M2 ++ Y2 ++ Z) (by rw [← hL, ← hs]; simp) (by simp; omega)
   have ho := sorder_d y x
   rw [ePair_eq, ePair_eq] at ho
   have hsrt := hY
   rw [← hs] at hsrt
   have a1 := (So.srt_app.1 (So.srt_app.1 hsrt).1).2.1
   have a2 := So.srt_app.1 a1
   obtain ⟨c, hc⟩ : ∃ c, m + Y1.length + (M1 ++ y :: M2).length = c := ⟨_, rfl⟩
   rw [hc] at hh ⊢
   by_cases hlt : y.1 < x.1
   ·skip
    refine dw_seq ?_; refine dw_seq ?_; refine dwk [(33, .v (.bool true))] TSO_ok hnt fun K hK => ?_; refine And.intro auT ?_; refine hK _ _ ?_; clear hK K; refine dw_cond (t := true) rfl ?_; rw [if_pos rfl]; refine dw_skip ?_; refine dw_block ?_; refine dw_seq ?_; refine dwk [(36, .v (.int .i64 (↑(m + Y1.length + c)))), (39, .v (.int .i64 (↑(m + Y1.length + M1.length))))] TSO_ok hnt fun K hK => ?_; refine And.intro auI ?_
    refine And.intro (dintE (by rw [hh]; exact half_i _ (by omega))) ?_; refine hK _ _ ?_; clear hK K; refine dw_seq ?_; refine dwkD [(43, .pr 0 n 5 ((m + Y1.length + M1.length)) 0), (44, .ag [.v (.int .i64 y.1), .sl 2 (eTys y.2.binds) none, .v (.int .i64 y.2.kind), .v (.int .i64 y.2.index), .sl 4 (eTms y.2.args) none]), (47, .pr 0 n 5 (a) 0), (48, .ag [.v (.int .i64 x.1), .sl 2 (eTys x.2.binds) none, .v (.int .i64 x.2.kind), .v (.int .i64 x.2.index), .sl 4 (eTms x.2.args) none]), (50, .v (.bool true))] TSO_ok hnt fun K hK => ?_
    refine And.intro (by constructor <;> omega) ?_; refine And.intro (by first | rfl | exact VLe.of_eq (by simp)) ?_; refine And.intro (pl_ok hn hy) ?_; refine And.intro (pl_eq hy) ?_; refine And.intro (by constructor <;> omega) ?_; refine And.intro (by first | rfl | exact VLe.of_eq (by simp)) ?_; refine And.intro (pl_ok hn hx) ?_; refine And.intro (pl_eq hx) ?_; refine dcl (ho) ?_; refine And.intro (dtrue (cmpI_lt.2 hlt)) ?_
    refine hK _ _ (by kernel_rfl) ?_; clear hK K; refine dw_cond (t := true) rfl ?_; rw [if_pos rfl]; refine dwk [(52, .v (.int .i64 (↑(m + (Y1 ++ (M1 ++ [y])).length))))] TSO_ok hnt fun K hK => ?_; refine And.intro (dintE (by rw [IntWalk.i64_in _ (by omega)]; simp; omega)) ?_; refine hK _ _ ?_; clear hK K
    have e3 : c = m + (Y1 ++ (M1 ++ [y])).length + M2.length := by rw [← hc]; simp; omega
    rw [e3]
    refine ⟨⟨(Y1 ++ (M1 ++ [y]), M2, Y2), by rw [← hs]; simp, fun u hu => ?g1, h2⟩, by simp; omega, VS.toA⟩
    case g1 =>
     rcases List.mem_append.1 hu with hu | hu
     ·exact h1 u hu
     ·rcases List.mem_append.1 hu with hu | hu
      ·have := a2.2.2 u hu y (by simp); omega
      ·rw [List.mem_singleton] at hu; subst hu; exact hlt
   ·skip
    refine dw_seq ?_; refine dw_seq ?_; refine dwk [(33, .v (.bool true))] TSO_ok hnt fun K hK => ?_; refine And.intro auT ?_; refine hK _ _ ?_; clear hK K; refine dw_cond (t := true) rfl ?_; rw [if_pos rfl]; refine dw_skip ?_; refine dw_block ?_; refine dw_seq ?_; refine dwk [(36, .v (.int .i64 (↑(m + Y1.length + c)))), (39, .v (.int .i64 (↑(m + Y1.length + M1.length))))] TSO_ok hnt fun K hK => ?_; refine And.intro auI ?_
    refine And.intro (dintE (by rw [hh]; exact half_i _ (by omega))) ?_; refine hK _ _ ?_; clear hK K; refine dw_seq ?_; refine dwkD [(43, .pr 0 n 5 ((m + Y1.length + M1.length)) 0), (44, .ag [.v (.int .i64 y.1), .sl 2 (eTys y.2.binds) none, .v (.int .i64 y.2.kind), .v (.int .i64 y.2.index), .sl 4 (eTms y.2.args) none]), (47, .pr 0 n 5 (a) 0), (48, .ag [.v (.int .i64 x.1), .sl 2 (eTys x.2.binds) none, .v (.int .i64 x.2.kind), .v (.int .i64 x.2.index), .sl 4 (eTms x.2.args) none]), (50, .v (.bool false))] TSO_ok hnt fun K hK => ?_
    refine And.intro (by constructor <;> omega) ?_; refine And.intro (by first | rfl | exact VLe.of_eq (by simp)) ?_; refine And.intro (pl_ok hn hy) ?_; refine And.intro (pl_eq hy) ?_; refine And.intro (by constructor <;> omega) ?_; refine And.intro (by first | rfl | exact VLe.of_eq (by simp)) ?_; refine And.intro (pl_ok hn hx) ?_; refine And.intro (pl_eq hx) ?_; refine dcl (ho) ?_; refine And.intro (dfalse (fun h => hlt (cmpI_lt.1 h))) ?_
    refine hK _ _ (by kernel_rfl) ?_; clear hK K; refine dw_cond (t := false) rfl ?_; rw [if_neg (by simp)]; refine dwk [] TSO_ok hnt fun K hK => ?_; refine hK _ _ ?_; clear hK K
    refine ⟨⟨(Y1, M1, y :: M2 ++ Y2), by rw [← hs]; simp, h1, fun u hu => ?g2⟩, by simp, VS.toA⟩
    case g2 =>
     rcases List.mem_append.1 hu with hu | hu
     ·rcases List.mem_cons.1 hu with rfl | hu
      ·omega
      ·have := (List.pairwise_cons.1 a2.2.1).1 u hu; omega
     ·exact h2 u hu
theorem sym_right (A : List (Int × Tm)) (X : List (Int × Tm)) (y : Int × Tm) (Z : List (Int × Tm)) (n a m b : Nat) (hn : (A ++ X ++ [y] ++ Z).length = n) (ha : A.length = a) (hm : a + X.length = m) (hb : m + 1 = b) (hX : So.Srt X) (h1X : X.length ≠ 1) (hM : n ≤ 1000000) :
  CallG Try.prog 207 (symIn n a m b) (symR (A ++ X ++ [y] ++ Z)) (symR (A ++ So.ss (X ++ [y]) ++ Z)) (.tu []) := by
 have hbn : b ≤ n := by simp at hn; omega
 obtain ⟨L, hL⟩ : ∃ L, A ++ X ++ [y] ++ Z = L := ⟨_, rfl⟩
 rw [hL] at hn ⊢
 have hy : L[m]? = some y := at_ (P := A ++ X) (R := Z) (by rw [← hL]; simp) (by simp; omega)
 have ly := pl_lt hn hy
 subst hm
 refine callG_of_dw 1 220 [] TSO_ok (by kernel_rfl) Try.func207 rfl Try.ntmps207 rfl (by simp) ?dwords ?dbody
 case dwords => simp [wordsG, rowN, rowsR, gkey, Key.eq, D.ok, D.oks, D.okss, rnames, inN, ckey, ePairs_ok]
 case dbody =>
  intro cx hnt hn0
  refine dw_seq ?_; refine dw_seq ?_; refine dwk [(27, .v (.int .i64 (↑X.length))), (28, .v (.bool false))] TSO_ok hnt fun K hK => ?_; refine And.intro auI ?_; refine And.intro (beqF (by omega)) ?_; refine hK _ _ ?_; clear hK K; refine dw_cond (t := false) rfl ?_; rw [if_neg (by simp)]; refine dw_skip ?_; refine dw_seq ?_; refine dw_seq ?_; refine dwk [(79, .v (.int .i64 (↑1))), (80, .v (.bool true))] TSO_ok hnt fun K hK => ?_
  refine And.intro auI ?_; refine And.intro (beqT rfl) ?_; refine hK _ _ ?_; clear hK K; refine dw_cond (t := true) rfl ?_; rw [if_pos rfl]; refine dw_seq ?_; refine dwk [] TSO_ok hnt fun K hK => ?_; refine hK _ _ ?_; clear hK K; refine dw_seq ?_; refine dwk [] TSO_ok hnt fun K hK => ?_; refine hK _ _ ?_; clear hK K; refine dw_seq ?_; refine dw_block ?_
  refine dw_loop (ι := { p : List (Int × Tm) × List (Int × Tm) × List (Int × Tm) // p.1 ++ p.2.1 ++ p.2.2 = X ∧ (∀ x ∈ p.1, x.1 ≤ y.1) ∧ (∀ x ∈ p.2.2, y.1 < x.1) }) (fun p => [(.t 0, .ps 0 n), (.t 2, .v (.int .i64 ↑(a + X.length))), (.t 4, .fn 145 []), (.t 14, .v (.int .i64 ↑(a + p.1.1.length))), (.t 15, .v (.int .i64 ↑(a + p.1.1.length + p.1.2.1.length))), (.r 0, .rp 105 5 (ePairs L))]) 1 (fun p => p.1.2.1.length) (⟨([], X, []), by simp, by simp, by simp⟩) ((VS.toK (by omega) (by repeat first | exact trivial | refine And.intro (And.intro (by first | rfl | simp [D.ok, D.oks, D.okss, D.okm, upto, keyOk, argsT]) (by first | exact Or.inl rfl | exact Or.inr ⟨_, rfl, (by repeat first | exact VLe.refl _ | exact VLe.nil _ | exact VLe.untag _ _ _ | refine VLe.ag ?_ | refine VLe.tu ?_ | refine VLeL.cons ?_ ?_ | exact VLeL.nil), trivial⟩ | simp [get, Key.eq, argsT])) ?_))) fun j => ?_
  obtain ⟨⟨X1, Mi, X2⟩, hs, h1, h2⟩ := j
  dsimp only at hs h1 h2 ⊢
  have hXl : X1.length + Mi.length + X2.length = X.length := by rw [← hs]; simp; omega
  by_cases h0 : Mi.length = 0
  ·have : Mi = [] := List.length_eq_zero_iff.1 h0
   subst this
   rw [List.append_nil] at hs
   rw [List.length_nil, Nat.add_zero] at hXl ⊢
   refine dw_seq ?_; refine dw_seq ?_; refine dwk [(85, .v (.bool false))] TSO_ok hnt fun K hK => ?_; refine And.intro auF ?_; refine hK _ _ ?_; clear hK K; refine dw_cond (t := false) rfl ?_; rw [if_neg (by simp)]; refine dw_exit ?_; refine dw_seq ?_; refine dw_seq ?_; refine dwk [(17, .v (.int .i64 ↑(a + X1.length + X2.length)))] TSO_ok hnt fun K hK => ?_; refine And.intro (VLe.of_eq (by rw [← hXl, Nat.add_assoc])) ?_
   refine hK _ _ ?_; clear hK K; refine dw_block ?_
   refine dw_loop (ι := { p : List (Int × Tm) × List (Int × Tm) // p.1 ++ p.2 = X2 }) (fun p => [(.t 0, .ps 0 n), (.t 14, .v (.int .i64 ↑(a + X1.length))), (.t 17, .v (.int .i64 ↑(a + X1.length + p.1.1.length))), (.r 0, .rp 105 5 (ePairs (A ++ X1 ++ p.1.1 ++ y :: p.1.2 ++ Z)))]) 1 (fun p => p.1.1.length) (⟨(X2, []), by simp⟩) ((VS.toK (by omega) (by repeat first | exact trivial | refine And.intro (And.intro (by first | rfl | simp [D.ok, D.oks, D.okss, D.okm, upto, keyOk, ← hL, ← hs]) (by first | exact Or.inl rfl | exact Or.inr ⟨_, rfl, (by repeat first | exact VLe.refl _ | exact VLe.nil _ | exact VLe.untag _ _ _ | refine VLe.ag ?_ | refine VLe.tu ?_ | refine VLeL.cons ?_ ?_ | exact VLeL.nil), trivial⟩ | simp [get, Key.eq, ← hL, ← hs])) ?_))) fun j => ?_
   obtain ⟨⟨B1, B2⟩, hB⟩ := j
   dsimp only at hB ⊢
   have hBl : B1.length + B2.length = X2.length := by rw [← hB]; simp
   rcases snoc_cases B1 with rfl | ⟨B, x, rfl⟩
   ·rw [List.nil_append] at hB
    have hf : So.ss (X ++ [y]) = X1 ++ y :: X2 := by rw [← hs]; exact So.right_one (by rw [hs]; exact hX) h1 h2
    rw [hf, List.append_nil]
    have e2 : A ++ X1 ++ y :: B2 ++ Z = A ++ (X1 ++ y :: X2) ++ Z := by rw [hB]; simp
    rw [e2, List.length_nil, Nat.add_zero]
    refine dw_seq ?_; refine dw_seq ?_; refine dwk [(110, .v (.bool false))] TSO_ok hnt fun K hK => ?_; refine And.intro auF ?_; refine hK _ _ ?_; clear hK K; refine dw_cond (t := false) rfl ?_; rw [if_neg (by simp)]; refine dw_exit ?_; refine dw_ret ?_
    exact reta rfl
   ·obtain ⟨k, hk⟩ : ∃ k, a + X1.length + B.length = k := ⟨_, rfl⟩
    have hk2 : a + X1.length + (B ++ [x]).length = k + 1 := by simp; omega
    rw [hk2]
    obtain ⟨L2, hL2⟩ : ∃ L2, A ++ X1 ++ (B ++ [x]) ++ y :: B2 ++ Z = L2 := ⟨_, rfl⟩
    rw [hL2]
    have hn2 : L2.length = n := by rw [← hL2, ← hn, ← hL, ← hs, ← hB]; simp; omega
    have gx : L2[k]? = some x := at_ (P := A ++ X1 ++ B) (R := y :: B2 ++ Z) (by rw [← hL2]; simp) (by simp; omega)
    have gy : L2[k + 1]? = some y := at_ (P := A ++ X1 ++ B ++ [x]) (R := B2 ++ Z) (by rw [← hL2]; simp) (by simp; omega)
    have ly2 := pl_lt hn2 gy
    refine dw_seq ?_; refine dw_seq ?_; refine dwk [(110, .v (.bool true))] TSO_ok hnt fun K hK => ?_; refine And.intro auT ?_; refine hK _ _ ?_; clear hK K; refine dw_cond (t := true) rfl ?_; rw [if_pos rfl]; refine dw_skip ?_; refine dw_seq ?_; refine dw_block ?_; refine dwkD [(117, .v (.int .i64 (↑k))), (120, .v (.int .i64 (↑k))), (121, .pr 0 n 5 (k) 0), (122, .ag [.v (.int .i64 x.1), .sl 2 (eTys x.2.binds) none, .v (.int .i64 x.2.kind), .v (.int .i64 x.2.index), .sl 4 (eTms x.2.args) none]), (125, .pr 0 n 5 ((k + 1)) 0), (126, .ag [.v (.int .i64 y.1), .sl 2 (eTys y.2.binds) none, .v (.int .i64 y.2.kind), .v (.int .i64 y.2.index), .sl 4 (eTms y.2.args) none]), (127, .pr 0 n 5 ((k + 1)) 0), (128, .pr 0 n 5 (k) 0)] TSO_ok hnt fun K hK => ?_
    refine And.intro auI ?_; refine And.intro auI ?_; refine And.intro (by constructor <;> omega) ?_; refine And.intro (by first | rfl | exact VLe.of_eq (by simp)) ?_; refine And.intro (pl_ok hn2 gx) ?_; refine And.intro (pl_eq gx) ?_; refine And.intro (by constructor <;> omega) ?_; refine And.intro (by first | rfl | exact VLe.of_eq (by simp)) ?_; refine And.intro (pl_ok hn2 gy) ?_; refine And.intro (pl_eq gy) ?_
    refine And.intro (by constructor <;> omega) ?_; refine And.intro (by first | rfl | exact VLe.of_eq (by simp)) ?_; refine And.intro (st_ok hn2 gy) ?_; refine And.intro (by constructor <;> omega) ?_; refine And.intro (by first | rfl | exact VLe.of_eq (by simp)) ?_; refine And.intro (st_ok2 hn2 gx) ?_; refine hK _ _ (by kernel_rfl) ?_; clear hK K
    rw [eP_swap' (P := A ++ X1 ++ B) (Q := []) (R := B2 ++ Z) (L' := A ++ X1 ++ B ++ y :: (x :: B2) ++ Z) (by rw [← hL2]; simp) (by simp; omega) (by simp) (by simp)]
    refine dwk [(112, .v (.int .i64 (↑k)))] TSO_ok hnt fun K hK => ?_; refine And.intro auI ?_; refine hK _ _ ?_; clear hK K
    rw [← hk]
    refine ⟨⟨(B, x :: B2), by rw [← hB]; simp⟩, by simp, VS.toA⟩
  ·obtain ⟨M1, x, M2, rfl, hh⟩ : ∃ M1 x M2, Mi = M1 ++ x :: M2 ∧ a + X1.length + M1.length = (a + X1.length + (a + X1.length + Mi.length)) / 2 := by
    have hlt : Mi.length / 2 < Mi.length := by omega
    refine ⟨Mi.take (Mi.length / 2), Mi[Mi.length / 2], Mi.drop (Mi.length / 2 + 1), ?_, ?_⟩
    ·rw [← List.drop_eq_getElem_cons hlt, List.take_append_drop]
    ·rw [List.length_take, Nat.min_eq_left (by omega)]; omega
   have hMl : (M1 ++ x :: M2).length = M1.length + M2.length + 1 := by simp; omega
   have hx : L[a + X1.length + M1.length]? = some x := at_ (P := A ++ X1 ++ M1) (R := M2 ++ X2 ++ [y] ++ Z) (by rw [← hL, ← hs]; simp) (by simp; omega)
   have ho := sorder_d y x
   rw [ePair_eq, ePair_eq] at ho
   have hsrt := hX
   rw [← hs] at hsrt
   have a1 := (So.srt_app.1 (So.srt_app.1 hsrt).1).2.1
   have a2 := So.srt_app.1 a1
   obtain ⟨c, hc⟩ : ∃ c, a + X1.length + (M1 ++ x :: M2).length = c := ⟨_, rfl⟩
   rw [hc] at hh ⊢
   by_cases hlt : y.1 < x.1
   ·skip
    refine dw_seq ?_; refine dw_seq ?_; refine dwk [(85, .v (.bool true))] TSO_ok hnt fun K hK => ?_; refine And.intro auT ?_; refine hK _ _ ?_; clear hK K; refine dw_cond (t := true) rfl ?_; rw [if_pos rfl]; refine dw_skip ?_; refine dw_block ?_; refine dw_seq ?_; refine dwk [(88, .v (.int .i64 (↑(a + X1.length + c)))), (91, .v (.int .i64 (↑(a + X1.length + M1.length))))] TSO_ok hnt fun K hK => ?_; refine And.intro auI ?_
    refine And.intro (dintE (by rw [hh]; exact half_i _ (by omega))) ?_; refine hK _ _ ?_; clear hK K; refine dw_seq ?_; refine dwkD [(95, .pr 0 n 5 ((a + X.length)) 0), (96, .ag [.v (.int .i64 y.1), .sl 2 (eTys y.2.binds) none, .v (.int .i64 y.2.kind), .v (.int .i64 y.2.index), .sl 4 (eTms y.2.args) none]), (99, .pr 0 n 5 ((a + X1.length + M1.length)) 0), (100, .ag [.v (.int .i64 x.1), .sl 2 (eTys x.2.binds) none, .v (.int .i64 x.2.kind), .v (.int .i64 x.2.index), .sl 4 (eTms x.2.args) none]), (102, .v (.bool true))] TSO_ok hnt fun K hK => ?_
    refine And.intro (by constructor <;> omega) ?_; refine And.intro (by first | rfl | exact VLe.of_eq (by simp)) ?_; refine And.intro (pl_ok hn hy) ?_; refine And.intro (pl_eq hy) ?_; refine And.intro (by constructor <;> omega) ?_; refine And.intro (by first | rfl | exact VLe.of_eq (by simp)) ?_; refine And.intro (pl_ok hn hx) ?_; refine And.intro (pl_eq hx) ?_; refine dcl (ho) ?_; refine And.intro (dtrue (cmpI_lt.2 hlt)) ?_
    refine hK _ _ (by kernel_rfl) ?_; clear hK K; refine dw_cond (t := false) rfl ?_; rw [if_neg (by simp)]; refine dwk [] TSO_ok hnt fun K hK => ?_; refine hK _ _ ?_; clear hK K
    refine ⟨⟨(X1, M1, x :: M2 ++ X2), by rw [← hs]; simp, h1, fun u hu => ?g2⟩, by simp, VS.toA⟩
    case g2 =>
     rcases List.mem_append.1 hu with hu | hu
     ·rcases List.mem_cons.1 hu with rfl | hu
      ·exact hlt
      ·have := (List.pairwise_cons.1 a2.2.1).1 u hu; omega
     ·exact h2 u hu
   ·skip
    refine dw_seq ?_; refine dw_seq ?_; refine dwk [(85, .v (.bool true))] TSO_ok hnt fun K hK => ?_; refine And.intro auT ?_; refine hK _ _ ?_; clear hK K; refine dw_cond (t := true) rfl ?_; rw [if_pos rfl]; refine dw_skip ?_; refine dw_block ?_; refine dw_seq ?_; refine dwk [(88, .v (.int .i64 (↑(a + X1.length + c)))), (91, .v (.int .i64 (↑(a + X1.length + M1.length))))] TSO_ok hnt fun K hK => ?_; refine And.intro auI ?_
    refine And.intro (dintE (by rw [hh]; exact half_i _ (by omega))) ?_; refine hK _ _ ?_; clear hK K; refine dw_seq ?_; refine dwkD [(95, .pr 0 n 5 ((a + X.length)) 0), (96, .ag [.v (.int .i64 y.1), .sl 2 (eTys y.2.binds) none, .v (.int .i64 y.2.kind), .v (.int .i64 y.2.index), .sl 4 (eTms y.2.args) none]), (99, .pr 0 n 5 ((a + X1.length + M1.length)) 0), (100, .ag [.v (.int .i64 x.1), .sl 2 (eTys x.2.binds) none, .v (.int .i64 x.2.kind), .v (.int .i64 x.2.index), .sl 4 (eTms x.2.args) none]), (102, .v (.bool false))] TSO_ok hnt fun K hK => ?_
    refine And.intro (by constructor <;> omega) ?_; refine And.intro (by first | rfl | exact VLe.of_eq (by simp)) ?_; refine And.intro (pl_ok hn hy) ?_; refine And.intro (pl_eq hy) ?_; refine And.intro (by constructor <;> omega) ?_; refine And.intro (by first | rfl | exact VLe.of_eq (by simp)) ?_; refine And.intro (pl_ok hn hx) ?_; refine And.intro (pl_eq hx) ?_; refine dcl (ho) ?_; refine And.intro (dfalse (fun h => hlt (cmpI_lt.1 h))) ?_
    refine hK _ _ (by kernel_rfl) ?_; clear hK K; refine dw_cond (t := true) rfl ?_; rw [if_pos rfl]; refine dwk [(105, .v (.int .i64 (↑(a + (X1 ++ (M1 ++ [x])).length))))] TSO_ok hnt fun K hK => ?_; refine And.intro (dintE (by rw [IntWalk.i64_in _ (by omega)]; simp; omega)) ?_; refine hK _ _ ?_; clear hK K
    have e3 : c = a + (X1 ++ (M1 ++ [x])).length + M2.length := by rw [← hc]; simp; omega
    rw [e3]
    refine ⟨⟨(X1 ++ (M1 ++ [x]), M2, X2), by rw [← hs]; simp, fun u hu => ?g1, h2⟩, by simp; omega, VS.toA⟩
    case g1 =>
     rcases List.mem_append.1 hu with hu | hu
     ·exact h1 u hu
     ·rcases List.mem_append.1 hu with hu | hu
      ·have := a2.2.2 u hu x (by simp); omega
      ·rw [List.mem_singleton] at hu; subst hu; omega
end Go.Proofs.Ytdmiekaeodcehaa

namespace Go.Proofs.Ytdmiekaeodcehaa
open Go.RowKit

def SymC (N : Nat) : Prop := ∀ (A X Y Z : List (Int × Tm)) (n a m b : Nat), X.length + Y.length ≤ N → (A ++ X ++ Y ++ Z).length = n → A.length = a → a + X.length = m → m + Y.length = b → 0 < X.length → 0 < Y.length → So.Srt X → So.Srt Y → n ≤ 1000000 →
  CallG Try.prog 207 (symIn n a m b) (symR (A ++ X ++ Y ++ Z)) (symR (A ++ So.ss (X ++ Y) ++ Z)) (.tu [])
set_option maxHeartbeats 4000000 in
theorem sym_step (N : Nat) (ih : ∀ k, k < N → SymC k) (A X Y Z : List (Int × Tm)) (n a m b : Nat) (hN : X.length + Y.length ≤ N) (hn : (A ++ X ++ Y ++ Z).length = n) (ha : A.length = a) (hm : a + X.length = m) (hb : m + Y.length = b) (hX2 : 2 ≤ X.length) (hY2 : 2 ≤ Y.length) (hX : So.Srt X) (hY : So.Srt Y) (hM : n ≤ 1000000) :
  CallG Try.prog 207 (symIn n a m b) (symR (A ++ X ++ Y ++ Z)) (symR (A ++ So.ss (X ++ Y) ++ Z)) (.tu []) := by
 have hbn : b + Z.length = n := by simp at hn; omega
 obtain ⟨L, hL⟩ : ∃ L, A ++ X ++ Y ++ Z = L := ⟨_, rfl⟩
 rw [hL] at hn ⊢
 obtain ⟨mid, hmid⟩ : ∃ mid, mid = (a + b) / 2 := ⟨_, rfl⟩
 obtain ⟨lo, hi, hlo⟩ : ∃ lo hi, (mid < m ∧ lo + b = mid + m ∧ hi = mid) ∨ (m ≤ mid ∧ lo = a ∧ hi = m) := by
  by_cases h : mid < m
  ·exact ⟨mid + m - b, mid, .inl ⟨h, by omega, rfl⟩⟩
  ·exact ⟨a, m, .inr ⟨by omega, rfl, rfl⟩⟩
 obtain ⟨q, hq⟩ : ∃ q, q + 1 = mid + m := ⟨mid + m - 1, by omega⟩
 refine callG_of_dw 1 220 [] TSO_ok (by kernel_rfl) Try.func207 rfl Try.ntmps207 rfl (by simp) ?dwords ?dbody
 case dwords => simp [wordsG, rowN, rowsR, gkey, Key.eq, D.ok, D.oks, D.okss, rnames, inN, ckey, ePairs_ok]
 case dbody =>
  intro cx hnt hn0
  refine dw_seq ?_; refine dw_seq ?_; refine dwk [(27, .v (.int .i64 (↑X.length))), (28, .v (.bool false))] TSO_ok hnt fun K hK => ?_; refine And.intro auI ?_; refine And.intro (beqF (by omega)) ?_; refine hK _ _ ?_; clear hK K; refine dw_cond (t := false) rfl ?_; rw [if_neg (by simp)]; refine dw_skip ?_; refine dw_seq ?_; refine dw_seq ?_; refine dwk [(79, .v (.int .i64 (↑Y.length))), (80, .v (.bool false))] TSO_ok hnt fun K hK => ?_
  refine And.intro auI ?_; refine And.intro (beqF (by omega)) ?_; refine hK _ _ ?_; clear hK K; refine dw_cond (t := false) rfl ?_; rw [if_neg (by simp)]; refine dw_skip ?_; refine dw_seq ?_; refine dwk [(131, .v (.int .i64 (↑(a + b)))), (134, .v (.int .i64 (↑mid)))] TSO_ok hnt fun K hK => ?_; refine And.intro auI ?_; refine And.intro (dintE (by rw [hmid]; exact half_i _ (by omega))) ?_; refine hK _ _ ?_; clear hK K
  refine dw_seq ?_; refine dwk [(137, .v (.int .i64 (↑(mid + m))))] TSO_ok hnt fun K hK => ?_; refine And.intro auI ?_; refine hK _ _ ?_; clear hK K; refine dw_seq ?_; refine dwk [] TSO_ok hnt fun K hK => ?_; refine hK _ _ ?_; clear hK K
  refine dw_cut (τ := [(.t 0, .ps 0 n), (.t 1, .v (.int .i64 ↑a)), (.t 2, .v (.int .i64 ↑m)), (.t 3, .v (.int .i64 ↑b)), (.t 4, .fn 145 []), (.t 18, .v (.int .i64 ↑mid)), (.t 19, .v (.int .i64 ↑(mid + m))), (.t 20, .v (.int .i64 ↑lo)), (.t 21, .v (.int .i64 ↑hi)), (.r 0, .rp 105 5 (ePairs L))]) (N1 := 1) ?_ ?_
  ·rcases hlo with ⟨g1, g2, g3⟩ | ⟨g1, g2, g3⟩
   ·rw [g3]
    refine dw_seq ?_; refine dwk [(140, .v (.bool true))] TSO_ok hnt fun K hK => ?_; refine And.intro auT ?_; refine hK _ _ ?_; clear hK K; refine dw_cond (t := true) rfl ?_; rw [if_pos rfl]; refine dw_seq ?_; refine dwk [(143, .v (.int .i64 (↑lo)))] TSO_ok hnt fun K hK => ?_; refine And.intro auI ?_; refine hK _ _ ?_; clear hK K; refine dwk [] TSO_ok hnt fun K hK => ?_; refine hK _ _ ?_; clear hK K
    exact cut_ok (VS.toK (by omega) (by repeat first | exact trivial | refine And.intro (And.intro (by first | rfl | simp [D.ok, D.oks, D.okss, D.okm, upto, keyOk, argsT]) (by first | exact Or.inl rfl | exact Or.inr ⟨_, rfl, (by repeat first | exact VLe.refl _ | exact VLe.nil _ | exact VLe.untag _ _ _ | refine VLe.ag ?_ | refine VLe.tu ?_ | refine VLeL.cons ?_ ?_ | exact VLeL.nil), trivial⟩ | simp [get, Key.eq, argsT])) ?_))
   ·rw [g2, g3]
    refine dw_seq ?_; refine dwk [(140, .v (.bool false))] TSO_ok hnt fun K hK => ?_; refine And.intro auF ?_; refine hK _ _ ?_; clear hK K; refine dw_cond (t := false) rfl ?_; rw [if_neg (by simp)]; refine dw_seq ?_; refine dwk [] TSO_ok hnt fun K hK => ?_; refine hK _ _ ?_; clear hK K; refine dwk [] TSO_ok hnt fun K hK => ?_; refine hK _ _ ?_; clear hK K
    exact cut_ok (VS.toK (by omega) (by repeat first | exact trivial | refine And.intro (And.intro (by first | rfl | simp [D.ok, D.oks, D.okss, D.okm, upto, keyOk, argsT]) (by first | exact Or.inl rfl | exact Or.inr ⟨_, rfl, (by repeat first | exact VLe.refl _ | exact VLe.nil _ | exact VLe.untag _ _ _ | refine VLe.ag ?_ | refine VLe.tu ?_ | refine VLeL.cons ?_ ?_ | exact VLeL.nil), trivial⟩ | simp [get, Key.eq, argsT])) ?_))
  ·skip
   refine dw_seq ?_; refine dwk [(148, .v (.int .i64 (↑q)))] TSO_ok hnt fun K hK => ?_; refine And.intro auI ?_; refine hK _ _ ?_; clear hK K; refine dw_seq ?_; refine dw_block ?_
   refine dw_loop (ι := { p : Nat × Nat // lo ≤ p.1 ∧ p.1 ≤ p.2 ∧ p.2 ≤ hi ∧ (p.1 = lo ∨ So.ky L (p.1 - 1) ≤ So.ky L (mid + m - p.1)) ∧ (p.2 = hi ∨ So.ky L (mid + m - 1 - p.2) < So.ky L p.2) }) (fun p => [(.t 0, .ps 0 n), (.t 1, .v (.int .i64 ↑a)), (.t 2, .v (.int .i64 ↑m)), (.t 3, .v (.int .i64 ↑b)), (.t 4, .fn 145 []), (.t 18, .v (.int .i64 ↑mid)), (.t 19, .v (.int .i64 ↑(mid + m))), (.t 20, .v (.int .i64 ↑p.1.1)), (.t 21, .v (.int .i64 ↑p.1.2)), (.t 22, .v (.int .i64 ↑q)), (.r 0, .rp 105 5 (ePairs L))]) 1 (fun p => p.1.2 - p.1.1) (⟨(lo, hi), Nat.le_refl _, by dsimp only; omega, Nat.le_refl _, .inl rfl, .inl rfl⟩) (VS.toA) fun j => ?_
   obtain ⟨⟨s, r⟩, k1, k2, k3, k4, k5⟩ := j
   dsimp only at k1 k2 k3 k4 k5 ⊢
   by_cases hsr : s < r
   ·obtain ⟨c, hc⟩ : ∃ c, c = (s + r) / 2 := ⟨_, rfl⟩
    have hcm : c < m := by omega
    obtain ⟨d, hd⟩ : ∃ d, d + c = q := ⟨q - c, by omega⟩
    obtain ⟨x, hx⟩ := So.at_ex hn (show c < n by omega)
    obtain ⟨y, hy⟩ := So.at_ex hn (show d < n by omega)
    have ex := So.ky_at hx
    have ey := So.ky_at hy
    have ho := sorder_d y x
    rw [ePair_eq, ePair_eq] at ho
    by_cases hlt : y.1 < x.1
    ·skip
     refine dw_seq ?_; refine dw_seq ?_; refine dwk [(151, .v (.bool true))] TSO_ok hnt fun K hK => ?_; refine And.intro auT ?_; refine hK _ _ ?_; clear hK K; refine dw_cond (t := true) rfl ?_; rw [if_pos rfl]; refine dw_skip ?_; refine dw_block ?_; refine dw_seq ?_; refine dwk [(154, .v (.int .i64 (↑(s + r)))), (157, .v (.int .i64 (↑c)))] TSO_ok hnt fun K hK => ?_; refine And.intro auI ?_; refine And.intro (dintE (by rw [hc]; exact half_i _ (by omega))) ?_
     refine hK _ _ ?_; clear hK K; refine dw_seq ?_; refine dwkD [(162, .v (.int .i64 (↑d))), (163, .pr 0 n 5 (d) 0), (164, .ag [.v (.int .i64 y.1), .sl 2 (eTys y.2.binds) none, .v (.int .i64 y.2.kind), .v (.int .i64 y.2.index), .sl 4 (eTms y.2.args) none]), (167, .pr 0 n 5 (c) 0), (168, .ag [.v (.int .i64 x.1), .sl 2 (eTys x.2.binds) none, .v (.int .i64 x.2.kind), .v (.int .i64 x.2.index), .sl 4 (eTms x.2.args) none]), (170, .v (.bool true))] TSO_ok hnt fun K hK => ?_
     refine And.intro auI ?_; refine And.intro (by constructor <;> omega) ?_; refine And.intro (by first | rfl | exact VLe.of_eq (by simp)) ?_; refine And.intro (pl_ok hn hy) ?_; refine And.intro (pl_eq hy) ?_; refine And.intro (by constructor <;> omega) ?_; refine And.intro (by first | rfl | exact VLe.of_eq (by simp)) ?_; refine And.intro (pl_ok hn hx) ?_; refine And.intro (pl_eq hx) ?_; refine dcl (ho) ?_
     refine And.intro (dtrue (cmpI_lt.2 hlt)) ?_; refine hK _ _ (by kernel_rfl) ?_; clear hK K; refine dw_cond (t := false) rfl ?_; rw [if_neg (by simp)]; refine dwk [] TSO_ok hnt fun K hK => ?_; refine hK _ _ ?_; clear hK K
     refine ⟨⟨(s, c), k1, by dsimp only; omega, by dsimp only; omega, k4, .inr (by dsimp only; rw [show mid + m - 1 - c = d by omega, ex, ey]; exact hlt)⟩, by first | omega | (dsimp only; omega), VS.toA⟩
    ·skip
     refine dw_seq ?_; refine dw_seq ?_; refine dwk [(151, .v (.bool true))] TSO_ok hnt fun K hK => ?_; refine And.intro auT ?_; refine hK _ _ ?_; clear hK K; refine dw_cond (t := true) rfl ?_; rw [if_pos rfl]; refine dw_skip ?_; refine dw_block ?_; refine dw_seq ?_; refine dwk [(154, .v (.int .i64 (↑(s + r)))), (157, .v (.int .i64 (↑c)))] TSO_ok hnt fun K hK => ?_; refine And.intro auI ?_; refine And.intro (dintE (by rw [hc]; exact half_i _ (by omega))) ?_
     refine hK _ _ ?_; clear hK K; refine dw_seq ?_; refine dwkD [(162, .v (.int .i64 (↑d))), (163, .pr 0 n 5 (d) 0), (164, .ag [.v (.int .i64 y.1), .sl 2 (eTys y.2.binds) none, .v (.int .i64 y.2.kind), .v (.int .i64 y.2.index), .sl 4 (eTms y.2.args) none]), (167, .pr 0 n 5 (c) 0), (168, .ag [.v (.int .i64 x.1), .sl 2 (eTys x.2.binds) none, .v (.int .i64 x.2.kind), .v (.int .i64 x.2.index), .sl 4 (eTms x.2.args) none]), (170, .v (.bool false))] TSO_ok hnt fun K hK => ?_
     refine And.intro auI ?_; refine And.intro (by constructor <;> omega) ?_; refine And.intro (by first | rfl | exact VLe.of_eq (by simp)) ?_; refine And.intro (pl_ok hn hy) ?_; refine And.intro (pl_eq hy) ?_; refine And.intro (by constructor <;> omega) ?_; refine And.intro (by first | rfl | exact VLe.of_eq (by simp)) ?_; refine And.intro (pl_ok hn hx) ?_; refine And.intro (pl_eq hx) ?_; refine dcl (ho) ?_
     refine And.intro (dfalse (fun h => hlt (cmpI_lt.1 h))) ?_; refine hK _ _ (by kernel_rfl) ?_; clear hK K; refine dw_cond (t := true) rfl ?_; rw [if_pos rfl]; refine dwk [(173, .v (.int .i64 (↑(c + 1))))] TSO_ok hnt fun K hK => ?_; refine And.intro auI ?_; refine hK _ _ ?_; clear hK K
     refine ⟨⟨(c + 1, r), by dsimp only; omega, by dsimp only; omega, k3, .inr (by dsimp only; rw [show c + 1 - 1 = c by omega, show mid + m - (c + 1) = d by omega, ex, ey]; omega), k5⟩, by first | omega | (dsimp only; omega), VS.toA⟩
   ·have hrs : r = s := by omega
    subst hrs
    obtain ⟨X1, X2, Y1, Y2, rfl, rfl, e1, e2, h1, h2⟩ := So.sym_cut (mid := mid) (s := r) hX hY hL.symm ha hm hb (by omega) (by omega) (by omega) (by omega) (by
      rcases k4 with k4 | k4
      ·omega
      ·exact .inr (.inr k4)) (by
      rcases k5 with k5 | k5
      ·omega
      ·exact .inr (.inr k5))
    rw [List.length_append] at hm hb hX2 hY2
    rw [List.length_append, List.length_append] at hN
    obtain ⟨e, he⟩ : ∃ e, e + r = mid + m := ⟨mid + m - r, by omega⟩
    have hcut := So.ss_cut hX hY h1 h2
    have sx := So.srt_app.1 hX
    have sy := So.srt_app.1 hY
    have hlen : A.length + X1.length + X2.length + Y1.length + Y2.length + Z.length = n := by omega
    rw [hcut]
    refine dw_seq ?_; refine dw_seq ?_; refine dwk [(151, .v (.bool false))] TSO_ok hnt fun K hK => ?_; refine And.intro auF ?_; refine hK _ _ ?_; clear hK K; refine dw_cond (t := false) rfl ?_; rw [if_neg (by simp)]; refine dw_exit ?_; refine dw_seq ?_; refine dwk [(177, .v (.int .i64 (↑e)))] TSO_ok hnt fun K hK => ?_; refine And.intro auI ?_; refine hK _ _ ?_; clear hK K
    refine dw_cut (τ := [(.t 0, .ps 0 n), (.t 1, .v (.int .i64 ↑a)), (.t 3, .v (.int .i64 ↑b)), (.t 4, .fn 145 []), (.t 18, .v (.int .i64 ↑mid)), (.t 20, .v (.int .i64 ↑r)), (.t 24, .v (.int .i64 ↑e)), (.r 0, .rp 105 5 (ePairs (A ++ X1 ++ Y1 ++ (X2 ++ (Y2 ++ Z)))))]) (N1 := 1) ?_ ?_
    ·by_cases c1 : r < m
     ·by_cases c2 : m < e
      ·have hrot := rotate_d (A ++ X1) X2 Y1 (Y2 ++ Z) n r m e (by simp; omega) (by simp; omega) (by omega) (by omega) (by omega) (by omega) hM
       have f1 : A ++ X1 ++ Y1 ++ X2 ++ (Y2 ++ Z) = A ++ X1 ++ Y1 ++ (X2 ++ (Y2 ++ Z)) := by simp
       have f2 : L = A ++ X1 ++ X2 ++ Y1 ++ (Y2 ++ Z) := by rw [← hL]; simp
       rw [f1] at hrot
       rw [f2]
       refine dw_seq ?_; refine dwk [(180, .v (.bool true)), (184, .v (.bool true))] TSO_ok hnt fun K hK => ?_; refine And.intro auT ?_; refine And.intro auT ?_; refine hK _ _ ?_; clear hK K; refine dw_cond (t := true) rfl ?_; rw [if_pos rfl]; refine dwk [] TSO_ok hnt fun K hK => ?_; refine dcn (CallG.n (hrot) _) ?_; refine hK _ _ ?_; clear hK K
       exact cut_ok VS.toA
      ·have : Y1 = [] := List.length_eq_zero_iff.1 (by omega)
       have f2 : L = A ++ X1 ++ Y1 ++ (X2 ++ (Y2 ++ Z)) := by rw [← hL, this]; simp
       rw [f2]
       refine dw_seq ?_; refine dwk [(180, .v (.bool true)), (184, .v (.bool false))] TSO_ok hnt fun K hK => ?_; refine And.intro auT ?_; refine And.intro auF ?_; refine hK _ _ ?_; clear hK K; refine dw_cond (t := false) rfl ?_; rw [if_neg (by simp)]; refine dw_skip ?_
       exact cut_ok VS.toA
     ·have : X2 = [] := List.length_eq_zero_iff.1 (by omega)
      have f2 : L = A ++ X1 ++ Y1 ++ (X2 ++ (Y2 ++ Z)) := by rw [← hL, this]; simp
      rw [f2]
      refine dw_seq ?_; refine dwk [(180, .v (.bool false))] TSO_ok hnt fun K hK => ?_; refine And.intro auF ?_; refine hK _ _ ?_; clear hK K; refine dw_cond (t := false) rfl ?_; rw [if_neg (by simp)]; refine dw_skip ?_
      exact cut_ok VS.toA
    ·skip
     refine dw_cut (τ := [(.t 0, .ps 0 n), (.t 3, .v (.int .i64 ↑b)), (.t 4, .fn 145 []), (.t 18, .v (.int .i64 ↑mid)), (.t 24, .v (.int .i64 ↑e)), (.r 0, .rp 105 5 (ePairs (A ++ So.ss (X1 ++ Y1) ++ X2 ++ Y2 ++ Z)))]) (N1 := 1) ?_ ?_
     ·have f1 : A ++ So.ss (X1 ++ Y1) ++ (X2 ++ (Y2 ++ Z)) = A ++ So.ss (X1 ++ Y1) ++ X2 ++ Y2 ++ Z := by simp
      by_cases c1 : a < r
      ·by_cases c2 : r < mid
       ·have hs := ih (X1.length + Y1.length) (by omega) A X1 Y1 (X2 ++ (Y2 ++ Z)) n a r mid (Nat.le_refl _) (by simp; omega) ha e1 e2 (by omega) (by omega) sx.1 sy.1 hM
        rw [f1] at hs
        refine dw_seq ?_; refine dwk [(194, .v (.bool true)), (198, .v (.bool true))] TSO_ok hnt fun K hK => ?_; refine And.intro auT ?_; refine And.intro auT ?_; refine hK _ _ ?_; clear hK K; refine dw_cond (t := true) rfl ?_; rw [if_pos rfl]; refine dwk [] TSO_ok hnt fun K hK => ?_; refine dcn (CallG.n (hs) _) ?_; refine hK _ _ ?_; clear hK K
        exact cut_ok VS.toA
       ·have hy0 : Y1 = [] := List.length_eq_zero_iff.1 (by omega)
        have hss : So.ss (X1 ++ Y1) = X1 ++ Y1 := So.ss_self (by rw [hy0, List.append_nil]; exact sx.1)
        rw [← f1, hss, ← List.append_assoc A X1 Y1]
        refine dw_seq ?_; refine dwk [(194, .v (.bool true)), (198, .v (.bool false))] TSO_ok hnt fun K hK => ?_; refine And.intro auT ?_; refine And.intro auF ?_; refine hK _ _ ?_; clear hK K; refine dw_cond (t := false) rfl ?_; rw [if_neg (by simp)]; refine dw_skip ?_
        exact cut_ok VS.toA
      ·have hx0 : X1 = [] := List.length_eq_zero_iff.1 (by omega)
       have hss : So.ss (X1 ++ Y1) = X1 ++ Y1 := So.ss_self (by rw [hx0, List.nil_append]; exact sy.1)
       rw [← f1, hss, ← List.append_assoc A X1 Y1]
       refine dw_seq ?_; refine dwk [(194, .v (.bool false))] TSO_ok hnt fun K hK => ?_; refine And.intro auF ?_; refine hK _ _ ?_; clear hK K; refine dw_cond (t := false) rfl ?_; rw [if_neg (by simp)]; refine dw_skip ?_
       exact cut_ok VS.toA
     ·have f3 : A ++ (So.ss (X1 ++ Y1) ++ So.ss (X2 ++ Y2)) ++ Z = A ++ So.ss (X1 ++ Y1) ++ So.ss (X2 ++ Y2) ++ Z := by simp
      rw [f3]
      by_cases c1 : mid < e
      ·by_cases c2 : e < b
       ·have hs := ih (X2.length + Y2.length) (by omega) (A ++ So.ss (X1 ++ Y1)) X2 Y2 Z n mid e b (Nat.le_refl _) (by simp [So.ss_len]; omega) (by simp [So.ss_len]; omega) (by omega) (by omega) (by omega) (by omega) sx.2.1 sy.2.1 hM
        refine dw_seq ?_; refine dwk [(208, .v (.bool true)), (212, .v (.bool true))] TSO_ok hnt fun K hK => ?_; refine And.intro auT ?_; refine And.intro auT ?_; refine hK _ _ ?_; clear hK K; refine dw_cond (t := true) rfl ?_; rw [if_pos rfl]; refine dwk [] TSO_ok hnt fun K hK => ?_; refine dcn (CallG.n (hs) _) ?_; refine hK _ _ ?_; clear hK K
        exact reta rfl
       ·have hy0 : Y2 = [] := List.length_eq_zero_iff.1 (by omega)
        have hss : So.ss (X2 ++ Y2) = X2 ++ Y2 := So.ss_self (by rw [hy0, List.append_nil]; exact sx.2.1)
        rw [hss, ← List.append_assoc _ X2 Y2]
        refine dw_seq ?_; refine dwk [(208, .v (.bool true)), (212, .v (.bool false))] TSO_ok hnt fun K hK => ?_; refine And.intro auT ?_; refine And.intro auF ?_; refine hK _ _ ?_; clear hK K; refine dw_cond (t := false) rfl ?_; rw [if_neg (by simp)]; refine dw_skip ?_
        exact reta rfl
      ·have hx0 : X2 = [] := List.length_eq_zero_iff.1 (by omega)
       have hss : So.ss (X2 ++ Y2) = X2 ++ Y2 := So.ss_self (by rw [hx0, List.nil_append]; exact sy.2.1)
       rw [hss, ← List.append_assoc _ X2 Y2]
       refine dw_seq ?_; refine dwk [(208, .v (.bool false))] TSO_ok hnt fun K hK => ?_; refine And.intro auF ?_; refine hK _ _ ?_; clear hK K; refine dw_cond (t := false) rfl ?_; rw [if_neg (by simp)]; refine dw_skip ?_
       exact reta rfl
theorem sym_all (N : Nat) : SymC N := by
  induction N using Nat.strongRecOn with
  | ind N ih =>
    intro A X Y Z n a m b hN hn ha hm hb h1 h2 hX hY hM
    by_cases c1 : X.length = 1
    · obtain ⟨x, rfl⟩ := List.length_eq_one_iff.1 c1
      exact sym_left A x Y Z n a m b hn ha (by simpa using hm) hb hY hM
    · by_cases c2 : Y.length = 1
      · obtain ⟨y, rfl⟩ := List.length_eq_one_iff.1 c2
        exact sym_right A X y Z n a m b hn ha hm (by simpa using hb) hX c1 hM
      · exact sym_step N ih A X Y Z n a m b hN hn ha hm hb (by omega) (by omega) hX hY hM
theorem symM_d (A X Y Z : List (Int × Tm)) (n a m b : Nat) (hn : (A ++ X ++ Y ++ Z).length = n) (ha : A.length = a) (hm : a + X.length = m) (hb : m + Y.length = b) (h1 : 0 < X.length) (h2 : 0 < Y.length) (hX : So.Srt X) (hY : So.Srt Y) (hM : n ≤ 1000000) :
    CallG Try.prog 207 (symIn n a m b) (symR (A ++ X ++ Y ++ Z)) (symR (A ++ So.ss (X ++ Y) ++ Z)) (.tu []) := sym_all _ A X Y Z n a m b (Nat.le_refl _) hn ha hm hb h1 h2 hX hY hM
end Go.Proofs.Ytdmiekaeodcehaa

namespace Go.Proofs.Ytdmiekaeodcehaa
open Go.RowKit
def TSP_105 : TI := ⟨5, true, [Value.int IntKind.i64 0, Value.slice none 0 0, Value.int IntKind.i64 0, Value.int IntKind.i64 0, Value.slice none 0 0], [(0, 1, false), (1, 4, true)], none, 72, 6, none, false⟩
theorem TSP_105_ok : TypOk Try.prog 105 TSP_105 := ⟨by kernel_rfl, by kernel_rfl, by kernel_rfl, by kernel_rfl, by kernel_rfl⟩
def TSP_53 : TI := ⟨1, false, [Value.slice none 0 0], [], some 105, 24, 5, none, false⟩
theorem TSP_53_ok : TypOk Try.prog 53 TSP_53 := ⟨by kernel_rfl, by kernel_rfl, by kernel_rfl, by kernel_rfl, by kernel_rfl⟩
def TSP_52 : TI := ⟨1, false, [Value.slice none 0 0], [], some 105, 24, 5, none, false⟩
theorem TSP_52_ok : TypOk Try.prog 52 TSP_52 := ⟨by kernel_rfl, by kernel_rfl, by kernel_rfl, by kernel_rfl, by kernel_rfl⟩
def TSP_3 : TI := ⟨1, false, [Value.int IntKind.i64 0], [], none, 8, 2, none, false⟩
theorem TSP_3_ok : TypOk Try.prog 3 TSP_3 := ⟨by kernel_rfl, by kernel_rfl, by kernel_rfl, by kernel_rfl, by kernel_rfl⟩
def TSP_34 : TI := ⟨4, true, [Value.slice none 0 0, Value.int IntKind.i64 0, Value.int IntKind.i64 0, Value.slice none 0 0], [(0, 1, false), (1, 2, true), (3, 1, false)], none, 64, 6, none, false⟩
theorem TSP_34_ok : TypOk Try.prog 34 TSP_34 := ⟨by kernel_rfl, by kernel_rfl, by kernel_rfl, by kernel_rfl, by kernel_rfl⟩
def TSP_232 : TI := ⟨1, false, [Value.nilFunc], [], none, 8, 8, none, false⟩
theorem TSP_232_ok : TypOk Try.prog 232 TSP_232 := ⟨by kernel_rfl, by kernel_rfl, by kernel_rfl, by kernel_rfl, by kernel_rfl⟩
def TSP : List (Nat × TI) := [(105, TSP_105), (53, TSP_53), (52, TSP_52), (3, TSP_3), (34, TSP_34), (232, TSP_232)]
theorem TSP_ok : TabOk Try.prog TSP := (((((((TabOk.nil _).cons TSP_232_ok).cons TSP_34_ok).cons TSP_3_ok).cons TSP_52_ok).cons TSP_53_ok).cons TSP_105_ok)

namespace So
theorem Ch.two {α : Type} {s : Nat} {Q : List (Int × α)} (h : Ch s Q) (hl : 2 * s ≤ Q.length) (hs : 0 < s) : ∃ c d l, Q = c ++ d ++ l ∧ c.length = s ∧ d.length = s ∧ Srt c ∧ Srt d ∧ Ch s l := by
  obtain ⟨c, l, rfl, hc, hsc, hch⟩ := h.more (by omega)
  rw [List.length_append] at hl
  by_cases h1 : s < l.length
  · obtain ⟨d, l2, rfl, hd, hsd, hch2⟩ := hch.more h1
    exact ⟨c, d, l2, by rw [List.append_assoc], hc, hd, hsc, hsd, hch2⟩
  · exact ⟨c, l, [], by simp, hc, by omega, hsc, hch.one (by omega) hs, .last [] (by simp) srt_nil⟩
end So
set_option maxHeartbeats 4000000 in
theorem stableC_d (l : List (Int × Tm)) (n : Nat) (hn : l.length = n) (hM : n ≤ 1000000) :
  CallG Try.prog 196 [.ps 0 n, .v (.int .i64 ↑n), .fn 145 []] (symR l) (symR (So.ss l)) (.tu []) := by
 refine callG_of_dw 1 63 [] TSO_ok (by kernel_rfl) Try.func196 rfl Try.ntmps196 rfl (by simp) ?dwords ?dbody
 case dwords => simp [wordsG, rowN, rowsR, gkey, Key.eq, D.ok, D.oks, D.okss, rnames, inN, ckey, ePairs_ok]
 case dbody =>
  intro cx hnt hn0
  refine dw_seq ?_; refine dwk [] TSO_ok hnt fun K hK => ?_; refine hK _ _ ?_; clear hK K; refine dw_seq ?_; refine dwk [] TSO_ok hnt fun K hK => ?_; refine hK _ _ ?_; clear hK K; refine dw_seq ?_; refine dw_block ?_
  refine dw_loop (ι := { p : List (Int × Tm) × List (Int × Tm) // So.Fu 20 p.1 ∧ So.Same (p.1 ++ p.2) l ∧ p.1.length + p.2.length = n }) (fun p => [(.t 0, .ps 0 n), (.t 1, .v (.int .i64 ↑n)), (.t 2, .fn 145 []), (.t 6, .v (.int .i64 20)), (.t 7, .v (.int .i64 ↑p.1.1.length)), (.t 8, .v (.int .i64 ↑(p.1.1.length + 20))), (.r 0, .rp 105 5 (ePairs (p.1.1 ++ p.1.2)))]) 1 (fun p => p.1.2.length) (⟨([], l), .nil, So.Same.refl _, by simpa using hn⟩) ((VS.toK (by omega) (by repeat first | exact trivial | refine And.intro (And.intro (by first | rfl | simp [D.ok, D.oks, D.okss, D.okm, upto, keyOk, argsT]) (by first | exact Or.inl rfl | exact Or.inr ⟨_, rfl, (by repeat first | exact VLe.refl _ | exact VLe.nil _ | exact VLe.untag _ _ _ | refine VLe.ag ?_ | refine VLe.tu ?_ | refine VLeL.cons ?_ ?_ | exact VLeL.nil), trivial⟩ | simp [get, Key.eq, argsT])) ?_))) fun j => ?_
  obtain ⟨⟨P, Q⟩, hF, hS, hl⟩ := j
  dsimp only at hF hS hl ⊢
  by_cases hb : P.length + 20 ≤ n
  ·obtain ⟨Q1, Q2, rfl, h20⟩ : ∃ Q1 Q2, Q = Q1 ++ Q2 ∧ Q1.length = 20 := ⟨Q.take 20, Q.drop 20, (List.take_append_drop _ _).symm, by simp; omega⟩
   rw [List.length_append] at hl
   have hins := insSort_d P Q1 Q2 n P.length (P.length + 20) (by simp; omega) rfl (by omega) hM
   rw [← List.append_assoc]
   refine dw_seq ?_; refine dw_seq ?_; refine dwk [(13, .v (.bool true))] TSO_ok hnt fun K hK => ?_; refine And.intro auT ?_; refine hK _ _ ?_; clear hK K; refine dw_cond (t := true) rfl ?_; rw [if_pos rfl]; refine dw_skip ?_; refine dw_block ?_; refine dw_seq ?_; refine dwk [] TSO_ok hnt fun K hK => ?_; refine dcn (CallG.n (hins) _) ?_; refine hK _ _ ?_; clear hK K; refine dw_seq ?_; refine dwk [(7, .v (.int .i64 ↑(P ++ So.ss Q1).length))] TSO_ok hnt fun K hK => ?_
   refine And.intro (VLe.of_eq (by rw [List.length_append, So.ss_len, h20])) ?_; refine hK _ _ ?_; clear hK K; refine dwk [(22, .v (.int .i64 (↑((P ++ So.ss Q1).length + 20))))] TSO_ok hnt fun K hK => ?_; refine And.intro (dintE (by rw [IntWalk.i64_in _ (by omega)]; simp [So.ss_len]; omega)) ?_; refine hK _ _ ?_; clear hK K
   refine ⟨⟨(P ++ So.ss Q1, Q2), hF.snoc (by rw [So.ss_len, h20]) (So.ss_srt _), So.Same.trans (by simpa using ((So.Same.refl P).app ((So.ss_same Q1).app (So.Same.refl Q2)))) (by simpa using hS), by simp [So.ss_len]; omega⟩, by simp; omega, VS.toA⟩
  ·have hins := insSort_d P Q [] n P.length n (by simp; omega) rfl hl hM
   rw [List.append_nil, List.append_nil] at hins
   refine dw_seq ?_; refine dw_seq ?_; refine dwk [(13, .v (.bool false))] TSO_ok hnt fun K hK => ?_; refine And.intro auF ?_; refine hK _ _ ?_; clear hK K; refine dw_cond (t := false) rfl ?_; rw [if_neg (by simp)]; refine dw_exit ?_; refine dw_seq ?_; refine dwk [] TSO_ok hnt fun K hK => ?_; refine dcn (CallG.n (hins) _) ?_; refine hK _ _ ?_; clear hK K; refine dw_block ?_
   refine dw_loop (ι := { p : Nat × List (Int × Tm) // 0 < p.1 ∧ p.1 ≤ 20 + 2 * n ∧ So.Ch p.1 p.2 ∧ So.Same p.2 l ∧ p.2.length = n }) (fun p => [(.t 0, .ps 0 n), (.t 1, .v (.int .i64 ↑n)), (.t 2, .fn 145 []), (.t 6, .v (.int .i64 ↑p.1.1)), (.r 0, .rp 105 5 (ePairs p.1.2))]) 1 (fun p => n - p.1.1) (⟨(20, P ++ So.ss Q), by dsimp only; omega, by dsimp only; omega, hF.ch (.last _ (by rw [So.ss_len]; omega) (So.ss_srt _)), ((So.Same.refl P).app (So.ss_same Q)).trans hS, by simp [So.ss_len]; omega⟩) (VS.toA) fun j => ?_
   clear hins hF hS hl hb P Q
   obtain ⟨⟨s, L⟩, h0, hbd, hC, hS, hl⟩ := j
   dsimp only at h0 hbd hC hS hl ⊢
   by_cases hsn : s < n
   ·skip
    refine dw_seq ?_; refine dw_seq ?_; refine dwk [(30, .v (.bool true))] TSO_ok hnt fun K hK => ?_; refine And.intro auT ?_; refine hK _ _ ?_; clear hK K; refine dw_cond (t := true) rfl ?_; rw [if_pos rfl]; refine dw_skip ?_; refine dw_block ?_; refine dw_seq ?_; refine dwk [(32, .v (.int .i64 (↑(2 * s)))), (8, .v (.int .i64 ↑(0 + 2 * s)))] TSO_ok hnt fun K hK => ?_; refine And.intro auI ?_; refine And.intro (VLe.of_eq (by rw [Nat.zero_add])) ?_
    refine hK _ _ ?_; clear hK K; refine dw_seq ?_; refine dw_block ?_
    refine dw_loop (ι := { p : List (Int × Tm) × List (Int × Tm) // So.Fu (2 * s) p.1 ∧ So.Ch s p.2 ∧ So.Same (p.1 ++ p.2) l ∧ p.1.length + p.2.length = n }) (fun p => [(.t 0, .ps 0 n), (.t 1, .v (.int .i64 ↑n)), (.t 2, .fn 145 []), (.t 6, .v (.int .i64 ↑s)), (.t 7, .v (.int .i64 ↑p.1.1.length)), (.t 8, .v (.int .i64 ↑(p.1.1.length + 2 * s))), (.r 0, .rp 105 5 (ePairs (p.1.1 ++ p.1.2)))]) 1 (fun p => p.1.2.length) (⟨([], L), .nil, hC, hS, by simpa using hl⟩) ((VS.toK (by omega) (by repeat first | exact trivial | refine And.intro (And.intro (by first | rfl | simp [D.ok, D.oks, D.okss, D.okm, upto, keyOk, Nat.zero_add]) (by first | exact Or.inl rfl | exact Or.inr ⟨_, rfl, (by repeat first | exact VLe.refl _ | exact VLe.nil _ | exact VLe.untag _ _ _ | refine VLe.ag ?_ | refine VLe.tu ?_ | refine VLeL.cons ?_ ?_ | exact VLeL.nil), trivial⟩ | simp [get, Key.eq, Nat.zero_add])) ?_))) fun j => ?_
    clear hC hS hl L
    obtain ⟨⟨P, Q⟩, hF, hC, hS, hl⟩ := j
    dsimp only at hF hC hS hl ⊢
    by_cases hb : P.length + 2 * s ≤ n
    ·obtain ⟨c, d, Q2, rfl, hc, hd, sc, sd, hC2⟩ := hC.two (by omega) h0
     rw [List.length_append, List.length_append] at hl
     have hm := symM_d P c d Q2 n P.length (P.length + s) (P.length + 2 * s) (by simp; omega) rfl (by omega) (by omega) (by omega) (by omega) sc sd hM
     have e1 : P ++ (c ++ d ++ Q2) = P ++ c ++ d ++ Q2 := by simp
     rw [e1]
     refine dw_seq ?_; refine dw_seq ?_; refine dwk [(35, .v (.bool true))] TSO_ok hnt fun K hK => ?_; refine And.intro auT ?_; refine hK _ _ ?_; clear hK K; refine dw_cond (t := true) rfl ?_; rw [if_pos rfl]; refine dw_skip ?_; refine dw_block ?_; refine dw_seq ?_; refine dwk [(40, .v (.int .i64 (↑(P.length + s))))] TSO_ok hnt fun K hK => ?_; refine And.intro auI ?_; refine dcn (CallG.n (hm) _) ?_; refine hK _ _ ?_; clear hK K
     refine dw_seq ?_; refine dwk [(7, .v (.int .i64 ↑(P ++ So.ss (c ++ d)).length))] TSO_ok hnt fun K hK => ?_; refine And.intro (VLe.of_eq (by rw [List.length_append, So.ss_len, List.length_append, hc, hd, Nat.two_mul])) ?_; refine hK _ _ ?_; clear hK K; refine dwk [(47, .v (.int .i64 (↑(2 * s)))), (48, .v (.int .i64 (↑((P ++ So.ss (c ++ d)).length + 2 * s))))] TSO_ok hnt fun K hK => ?_; refine And.intro auI ?_
     refine And.intro (dintE (by rw [IntWalk.i64_in _ (by omega)]; simp [So.ss_len]; omega)) ?_; refine hK _ _ ?_; clear hK K
     refine ⟨⟨(P ++ So.ss (c ++ d), Q2), hF.snoc (by rw [So.ss_len, List.length_append]; omega) (So.ss_srt _), hC2, So.Same.trans (by simpa using ((So.Same.refl P).app ((So.ss_same (c ++ d)).app (So.Same.refl Q2)))) (by simpa using hS), by simp [So.ss_len]; omega⟩, by simp; omega, VS.toA⟩
    ·by_cases hq : s < Q.length
     ·obtain ⟨c, d, rfl, hc, sc, hC2⟩ := hC.more hq
      rw [List.length_append] at hl hq
      have sd := hC2.one (by omega) h0
      have hm := symM_d P c d [] n P.length (P.length + s) n (by simp; omega) rfl (by omega) (by omega) (by omega) (by omega) sc sd hM
      have e1 : P ++ (c ++ d) = P ++ c ++ d := by simp
      rw [List.append_nil, List.append_nil] at hm
      rw [e1]
      refine dw_seq ?_; refine dw_seq ?_; refine dwk [(35, .v (.bool false))] TSO_ok hnt fun K hK => ?_; refine And.intro auF ?_; refine hK _ _ ?_; clear hK K; refine dw_cond (t := false) rfl ?_; rw [if_neg (by simp)]; refine dw_exit ?_; refine dw_seq ?_; refine dw_seq ?_; refine dwk [(51, .v (.int .i64 (↑(P.length + s))))] TSO_ok hnt fun K hK => ?_; refine And.intro auI ?_; refine hK _ _ ?_; clear hK K
      refine dw_seq ?_; refine dwk [(54, .v (.bool true))] TSO_ok hnt fun K hK => ?_; refine And.intro auT ?_; refine hK _ _ ?_; clear hK K; refine dw_cond (t := true) rfl ?_; rw [if_pos rfl]; refine dwk [] TSO_ok hnt fun K hK => ?_; refine dcn (CallG.n (hm) _) ?_; refine hK _ _ ?_; clear hK K; refine dwk [(62, .v (.int .i64 (↑(2 * s))))] TSO_ok hnt fun K hK => ?_; refine And.intro auI ?_; refine hK _ _ ?_; clear hK K
      refine ⟨⟨(2 * s, P ++ So.ss (c ++ d)), by dsimp only; omega, by dsimp only; omega, hF.ch (.last _ (by rw [So.ss_len, List.length_append]; omega) (So.ss_srt _)), So.Same.trans ((So.Same.refl P).app (So.ss_same (c ++ d))) hS, by simp [So.ss_len]; omega⟩, by first | omega | (dsimp only; omega), VS.toA⟩
     ·have sq := hC.one (by omega) h0
      refine dw_seq ?_; refine dw_seq ?_; refine dwk [(35, .v (.bool false))] TSO_ok hnt fun K hK => ?_; refine And.intro auF ?_; refine hK _ _ ?_; clear hK K; refine dw_cond (t := false) rfl ?_; rw [if_neg (by simp)]; refine dw_exit ?_; refine dw_seq ?_; refine dw_seq ?_; refine dwk [(51, .v (.int .i64 (↑(P.length + s))))] TSO_ok hnt fun K hK => ?_; refine And.intro auI ?_; refine hK _ _ ?_; clear hK K
      refine dw_seq ?_; refine dwk [(54, .v (.bool false))] TSO_ok hnt fun K hK => ?_; refine And.intro auF ?_; refine hK _ _ ?_; clear hK K; refine dw_cond (t := false) rfl ?_; rw [if_neg (by simp)]; refine dw_skip ?_; refine dwk [(62, .v (.int .i64 (↑(2 * s))))] TSO_ok hnt fun K hK => ?_; refine And.intro auI ?_; refine hK _ _ ?_; clear hK K
      refine ⟨⟨(2 * s, P ++ Q), by dsimp only; omega, by dsimp only; omega, hF.ch (.last _ (by omega) sq), hS, by simp; omega⟩, by first | omega | (dsimp only; omega), VS.toA⟩
   ·have hsrt := hC.one (by omega) h0
    have hfin : So.ss l = L := So.ss_eq hsrt hS
    rw [hfin]
    refine dw_seq ?_; refine dw_seq ?_; refine dwk [(30, .v (.bool false))] TSO_ok hnt fun K hK => ?_; refine And.intro auF ?_; refine hK _ _ ?_; clear hK K; refine dw_cond (t := false) rfl ?_; rw [if_neg (by simp)]; refine dw_exit ?_
    exact reta rfl
theorem stable_d (l : List (Int × Tm)) (n : Nat) (hn : l.length = n) (hM : n ≤ 1000000) :
  CallG Try.prog 177 [.ps 0 n, .fn 145 []] (symR l) (symR (So.ss l)) (.tu []) := by
 have hs := stableC_d l n hn hM
 refine callG_of_dw 1 9 [] TSO_ok (by kernel_rfl) Try.func177 rfl Try.ntmps177 rfl (by simp) ?dwords ?dbody
 case dwords => simp [wordsG, rowN, rowsR, gkey, Key.eq, D.ok, D.oks, D.okss, rnames, inN, ckey, ePairs_ok]
 case dbody =>
  intro cx hnt hn0
  refine dwk [] TSO_ok hnt fun K hK => ?_; refine dcn (CallG.n (hs) _) ?_; refine hK _ _ ?_; clear hK K
  exact reta rfl
theorem sortedN_d (l : List (Int × Tm)) (hl : l.length ≤ 1000000) (ht : ∀ p ∈ l, p.2.full ≤ 80000 ∧ p.2.Fit) (nm : Nat) : CallN Try.prog 146 [.sl 5 (ePairs l) none] [] nm [(.r nm, .rw 105 5 l.length)] (.sl 5 (ePairs (So.ss l)) (some nm)) := by
 have hst := stable_d l l.length rfl hl
 refine callRow_of_dw 25 [ResultVar.tmp 2] TSP_ok (by kernel_rfl) Try.func146 rfl Try.ntmps146 rfl (by simp) (by simp [D.ok, ePairs_ok]) (by simp [D.okss, ePairs_ok]) ?dbody nm
 case dbody =>
  intro cx hnt hn0
  refine dw_seq ?_; refine dwk [] TSP_ok hnt fun K hK => ?_; refine hK _ _ ?_; clear hK K
  refine dw_cut (τ := [(.t 0, .sl 5 (ePairs l) none), (.t 3, .v (.slice none 0 0))]) (N1 := 0) ?_ ?_
  ·skip
   refine dwk [] TSP_ok hnt fun K hK => ?_; refine hK _ _ ?_; clear hK K
   exact cut_ok (VS.toK (by omega) (by repeat first | exact trivial | refine And.intro (And.intro (by first | rfl | simp [D.ok, D.oks, D.okss, D.okm, upto, keyOk, argsT]) (by first | exact Or.inl rfl | exact Or.inr ⟨_, rfl, (by repeat first | exact VLe.refl _ | exact VLe.nil _ | exact VLe.untag _ _ _ | refine VLe.ag ?_ | refine VLe.tu ?_ | refine VLeL.cons ?_ ?_ | exact VLeL.nil), trivial⟩ | simp [get, Key.eq, argsT])) ?_))
  ·refine DW.vs (VS.rowPT (x := 3) (by rw [hnt]; decide) 105 5 rfl) ?_
   refine dw_seq ?_; refine dw_seq ?_; refine dwk [(7, .v (.int .i64 (↑l.length)))] TSP_ok hnt fun K hK => ?_; refine And.intro (dintE (by rw [ePairs_len])) ?_; refine hK _ _ ?_; clear hK K; refine dw_block ?_
   refine dw_loop (ι := { k : Nat // k ≤ l.length }) (fun k => [(.t 3, .ps 0 k.1), (.t 6, .sl 5 (ePairs l) none), (.t 7, .v (.int .i64 ↑l.length)), (.t 8, .v (.int .i64 ↑k.1)), (.r 0, .rp 105 5 (ePairs (l.take k.1)))]) 1 (fun k => l.length - k.1) (⟨0, Nat.zero_le _⟩) ((VS.toK (by omega) (by repeat first | exact trivial | refine And.intro (And.intro (by first | rfl | simp [D.ok, D.oks, D.okss, D.okm, upto, keyOk, argsT]) (by first | exact Or.inl rfl | exact Or.inr ⟨_, rfl, (by repeat first | exact VLe.refl _ | exact VLe.nil _ | exact VLe.untag _ _ _ | refine VLe.ag ?_ | refine VLe.tu ?_ | refine VLeL.cons ?_ ?_ | exact VLeL.nil), trivial⟩ | simp [get, Key.eq, argsT])) ?_))) fun k => ?_
   obtain ⟨k, hk⟩ := k
   dsimp only
   by_cases hlt : k < l.length
   ·have hc := copy_d l[k].2 (ht _ (List.getElem_mem hlt)).1 (ht _ (List.getElem_mem hlt)).2
    rw [eTm_eq] at hc
    have htk : ePairs (l.take k) ++ [[.v (.int .i64 l[k].1), .sl 2 (eTys l[k].2.binds) none, .v (.int .i64 l[k].2.kind), .v (.int .i64 l[k].2.index), .sl 4 (eTms l[k].2.args) none]] = ePairs (l.take (k + 1)) := by
     rw [List.take_add_one, List.getElem?_eq_getElem hlt, ← ePair_eq]
     show List.map ePair (l.take k) ++ [ePair l[k]] = List.map ePair (l.take k ++ [l[k]])
     rw [List.map_append]; rfl
    refine dw_seq ?_; refine dwk [(9, .v (.bool true))] TSP_ok hnt fun K hK => ?_; refine And.intro auT ?_; refine hK _ _ ?_; clear hK K; refine dw_seq ?_; refine dw_cond (t := true) rfl ?_; rw [if_pos rfl]; refine dw_skip ?_; refine dw_seq ?_; refine dw_block ?_; refine dw_seq ?_; refine dwk [(10, .q [.v (.int .i64 l[k].1), .sl 2 (eTys l[k].2.binds) none, .v (.int .i64 l[k].2.kind), .v (.int .i64 l[k].2.index), .sl 4 (eTms l[k].2.args) none])] TSP_ok hnt fun K hK => ?_
    refine And.intro (elo (ePairs_len l)) ?_; refine And.intro (elv (ePairs_getD l k) (ePair_eq _)) ?_; refine hK _ _ ?_; clear hK K; refine dwkD [(20, .ps 0 (k + 1))] TSP_ok hnt fun K hK => ?_; refine dcl (hc) ?_; refine And.intro (⟨by simp [ePairs_len]; omega, by simp [ePairs_len]; omega⟩) ?_; refine And.intro (VLe.refl _) ?_; refine hK _ _ (by kernel_rfl) ?_; clear hK K
    rw [htk]
    refine dwk [(21, .v (.int .i64 (↑(k + 1))))] TSP_ok hnt fun K hK => ?_; refine And.intro auI ?_; refine hK _ _ ?_; clear hK K
    refine ⟨⟨k + 1, by omega⟩, by first | omega | (dsimp only; omega), VS.toA⟩
   ·have hke : l.take k = l := List.take_of_length_le (by omega)
    have hkl : k = l.length := by omega
    rw [hke, hkl]
    refine dw_seq ?_; refine dwk [(9, .v (.bool false))] TSP_ok hnt fun K hK => ?_; refine And.intro auF ?_; refine hK _ _ ?_; clear hK K; refine dw_seq ?_; refine dw_cond (t := false) rfl ?_; rw [if_neg (by simp)]; refine dw_exit ?_; refine dw_seq ?_; refine dwk [] TSP_ok hnt fun K hK => ?_; refine dcn (CallG.n (hst) _) ?_; refine hK _ _ ?_; clear hK K; refine dw_seq ?_; refine dwk [] TSP_ok hnt fun K hK => ?_
    refine hK _ _ ?_; clear hK K
    refine dw_freeze (x := 2) (g := 0) rfl rfl (ePairs_len _ |>.trans (So.ss_len l)) ?_
    rw [show (ePairs (So.ss l)).length = l.length by rw [ePairs_len, So.ss_len]]
    refine dw_ret ?_
    exact ⟨.inr rfl, 0, rfl, rfl⟩
theorem sOf_d (l : List (Int × Tm)) (hl : l.length ≤ 1000000) (ht : ∀ p ∈ l, p.2.full ≤ 80000 ∧ p.2.Fit) : PureC Try.prog 102 [.sl 5 (ePairs l) none] (.tu [.sl 5 (if Sb.right (So.ss l) then ePairs (So.ss l) else []) none, .v (.int .i64 (if Sb.right (So.ss l) then 0 else 1))]) := by
 have hs := sortedN_d l hl ht
 have hr := sright_d (So.ss l) (by rw [So.ss_len]; exact hl)
 cases h : Sb.right (So.ss l) with
 | true =>
  rw [h] at hr
  rw [if_pos rfl, if_pos rfl]
  refine calldw 0 11 [ResultVar.tmp 2, ResultVar.tmp 3] TSP_ok Try.func102 rfl Try.ntmps102 rfl fun cx hnt hn0 => ?_
  ·skip
   refine dw_seq ?_; refine dwk [] TSP_ok hnt fun K hK => ?_; refine hK _ _ ?_; clear hK K; refine dw_seq ?_; refine dwk [(6, .sl 5 (ePairs (So.ss l)) none)] TSP_ok hnt fun K hK => ?_; refine dcn (hs _) ?_; refine And.intro (VLe.untag _ _ _) ?_; refine hK _ _ ?_; clear hK K; refine dw_seq ?_; refine dw_seq ?_; refine dwk [] TSP_ok hnt fun K hK => ?_; refine dcl (hr) ?_; refine hK _ _ ?_; clear hK K; refine dw_cond (t := false) rfl ?_
   rw [if_neg (by simp)]; refine dw_skip ?_; refine dw_seq ?_; refine dwk [] TSP_ok hnt fun K hK => ?_; refine hK _ _ ?_; clear hK K; refine dw_ret ?_
   exact reta rfl
 | false =>
  rw [h] at hr
  rw [if_neg (by simp), if_neg (by simp)]
  refine calldw 0 11 [ResultVar.tmp 2, ResultVar.tmp 3] TSP_ok Try.func102 rfl Try.ntmps102 rfl fun cx hnt hn0 => ?_
  ·skip
   refine dw_seq ?_; refine dwk [] TSP_ok hnt fun K hK => ?_; refine hK _ _ ?_; clear hK K; refine dw_seq ?_; refine dwk [(6, .sl 5 (ePairs (So.ss l)) none)] TSP_ok hnt fun K hK => ?_; refine dcn (hs _) ?_; refine And.intro (VLe.untag _ _ _) ?_; refine hK _ _ ?_; clear hK K; refine dw_seq ?_; refine dw_seq ?_; refine dwk [] TSP_ok hnt fun K hK => ?_; refine dcl (hr) ?_; refine hK _ _ ?_; clear hK K; refine dw_cond (t := true) rfl ?_
   rw [if_pos rfl]; refine dw_seq ?_; refine dwk [] TSP_ok hnt fun K hK => ?_; refine hK _ _ ?_; clear hK K; refine dw_ret ?_
   exact reta rfl
end Go.Proofs.Ytdmiekaeodcehaa

namespace Go.Proofs.Ytdmiekaeodcehaa
open Go.RowKit
def TPM_34 : TI := ⟨4, true, [Value.slice none 0 0, Value.int IntKind.i64 0, Value.int IntKind.i64 0, Value.slice none 0 0], [(0, 1, false), (1, 2, true), (3, 1, false)], none, 64, 6, none, false⟩
theorem TPM_34_ok : TypOk Try.prog 34 TPM_34 := ⟨by kernel_rfl, by kernel_rfl, by kernel_rfl, by kernel_rfl, by kernel_rfl⟩
def TPM_51 : TI := ⟨8, true, [Value.slice none 0 0, Value.int IntKind.i64 0, Value.int IntKind.i64 0, Value.slice none 0 0, Value.slice none 0 0, Value.int IntKind.i64 0, Value.int IntKind.i64 0, Value.slice none 0 0], [(0, 4, true), (4, 4, true)], none, 128, 6, none, false⟩
theorem TPM_51_ok : TypOk Try.prog 51 TPM_51 := ⟨by kernel_rfl, by kernel_rfl, by kernel_rfl, by kernel_rfl, by kernel_rfl⟩
def TPM_47 : TI := ⟨1, false, [Value.slice none 0 0], [], some 51, 24, 5, none, false⟩
theorem TPM_47_ok : TypOk Try.prog 47 TPM_47 := ⟨by kernel_rfl, by kernel_rfl, by kernel_rfl, by kernel_rfl, by kernel_rfl⟩
def TPM_122 : TI := ⟨1, true, [Value.map none], [(0, 1, false)], none, 8, 6, none, false⟩
theorem TPM_122_ok : TypOk Try.prog 122 TPM_122 := ⟨by kernel_rfl, by kernel_rfl, by kernel_rfl, by kernel_rfl, by kernel_rfl⟩
def TPM_52 : TI := ⟨1, false, [Value.slice none 0 0], [], some 105, 24, 5, none, false⟩
theorem TPM_52_ok : TypOk Try.prog 52 TPM_52 := ⟨by kernel_rfl, by kernel_rfl, by kernel_rfl, by kernel_rfl, by kernel_rfl⟩
def TPM_3 : TI := ⟨1, false, [Value.int IntKind.i64 0], [], none, 8, 2, none, false⟩
theorem TPM_3_ok : TypOk Try.prog 3 TPM_3 := ⟨by kernel_rfl, by kernel_rfl, by kernel_rfl, by kernel_rfl, by kernel_rfl⟩
def TPM_120 : TI := ⟨1, false, [Value.map none], [], none, 8, 7, some 34, false⟩
theorem TPM_120_ok : TypOk Try.prog 120 TPM_120 := ⟨by kernel_rfl, by kernel_rfl, by kernel_rfl, by kernel_rfl, by kernel_rfl⟩
def TPM_35 : TI := ⟨1, false, [Value.int IntKind.i64 0], [], none, 8, 2, none, false⟩
theorem TPM_35_ok : TypOk Try.prog 35 TPM_35 := ⟨by kernel_rfl, by kernel_rfl, by kernel_rfl, by kernel_rfl, by kernel_rfl⟩
def TPM_105 : TI := ⟨5, true, [Value.int IntKind.i64 0, Value.slice none 0 0, Value.int IntKind.i64 0, Value.int IntKind.i64 0, Value.slice none 0 0], [(0, 1, false), (1, 4, true)], none, 72, 6, none, false⟩
theorem TPM_105_ok : TypOk Try.prog 105 TPM_105 := ⟨by kernel_rfl, by kernel_rfl, by kernel_rfl, by kernel_rfl, by kernel_rfl⟩
def TPM_30 : TI := ⟨1, false, [Value.slice none 0 0], [], some 100, 24, 5, none, false⟩
theorem TPM_30_ok : TypOk Try.prog 30 TPM_30 := ⟨by kernel_rfl, by kernel_rfl, by kernel_rfl, by kernel_rfl, by kernel_rfl⟩
def TPM_100 : TI := ⟨2, true, [Value.slice none 0 0, Value.int IntKind.i64 0], [(0, 1, false), (1, 1, false)], none, 32, 6, none, false⟩
theorem TPM_100_ok : TypOk Try.prog 100 TPM_100 := ⟨by kernel_rfl, by kernel_rfl, by kernel_rfl, by kernel_rfl, by kernel_rfl⟩
def TPM : List (Nat × TI) := [(34, TPM_34), (51, TPM_51), (47, TPM_47), (122, TPM_122), (52, TPM_52), (3, TPM_3), (120, TPM_120), (35, TPM_35), (105, TPM_105), (30, TPM_30), (100, TPM_100)]
theorem TPM_ok : TabOk Try.prog TPM := ((((((((((((TabOk.nil _).cons TPM_100_ok).cons TPM_30_ok).cons TPM_105_ok).cons TPM_35_ok).cons TPM_120_ok).cons TPM_3_ok).cons TPM_52_ok).cons TPM_122_ok).cons TPM_47_ok).cons TPM_51_ok).cons TPM_34_ok)

def ePP (p : Tm × Tm) : List D := eTm p.1 ++ eTm p.2
def ePPs (l : List (Tm × Tm)) : List (List D) := l.map ePP
theorem ePP_eq (p : Tm × Tm) : ePP p = [.sl 2 (eTys p.1.binds) none, .v (.int .i64 p.1.kind), .v (.int .i64 p.1.index), .sl 4 (eTms p.1.args) none, .sl 2 (eTys p.2.binds) none, .v (.int .i64 p.2.kind), .v (.int .i64 p.2.index), .sl 4 (eTms p.2.args) none] := by unfold ePP; rw [eTm_eq, eTm_eq]; rfl
theorem ePPs_len (l : List (Tm × Tm)) : (ePPs l).length = l.length := List.length_map ..
theorem ePPs_getD (l : List (Tm × Tm)) (i : Nat) (h : i < l.length) : (ePPs l).getD i [] = ePP l[i] := by
  rw [ePPs, List.getD_eq_getElem?_getD, List.getElem?_map, List.getElem?_eq_getElem h]; rfl
@[simp] theorem ePPs_ok (f g : Nat → Bool) (l : List (Tm × Tm)) : D.okss f g (ePPs l) = true := D.okss_map _ l fun p _ => by simp [ePP_eq, D.oks, D.ok, eTms_ok, eTys_ok]
theorem ePPs_one (p : Tm × Tm) : ePPs [p] = [[.sl 2 (eTys p.1.binds) none, .v (.int .i64 p.1.kind), .v (.int .i64 p.1.index), .sl 4 (eTms p.1.args) none, .sl 2 (eTys p.2.binds) none, .v (.int .i64 p.2.kind), .v (.int .i64 p.2.index), .sl 4 (eTms p.2.args) none]] := by rw [← ePP_eq]; rfl
theorem ePairs_snoc' (l : List (Int × Tm)) (p : Int × Tm) : ePairs l ++ [[.v (.int .i64 p.1), .sl 2 (eTys p.2.binds) none, .v (.int .i64 p.2.kind), .v (.int .i64 p.2.index), .sl 4 (eTms p.2.args) none]] = ePairs (l ++ [p]) := by
  rw [← ePair_eq, ePairs, ePairs, List.map_append]; rfl
theorem eBd_len (b : Pn.Bd) : (eBd b).length = b.length := List.length_map ..
theorem eBd_get (b : Pn.Bd) (i : Nat) (h : i < (eBd b).length) : (eBd b)[i] = ((b[i]'(by rw [eBd_len] at h; exact h)).1, .ag (eTm (b[i]'(by rw [eBd_len] at h; exact h)).2)) := by
  simp [eBd]
theorem ss_perm {l b : List (Int × Tm)} (h : l.Perm b) (hk : (b.map (·.1)).Nodup) : So.ss l = So.ss b := by
  refine So.ss_cong fun k => ?_
  have h1 : (b.filter fun a => a.1 == k).length ≤ 1 := by
    clear h
    induction b with
    | nil => simp
    | cons p b ih =>
      rw [List.map_cons, List.nodup_cons] at hk
      rw [List.filter_cons]
      split
      · rename_i he
        have : b.filter (fun a => a.1 == k) = [] := by
          rw [List.filter_eq_nil_iff]
          intro a ha
          have hne : a.1 ≠ p.1 := fun e => hk.1 (List.mem_map.2 ⟨a, ha, e⟩)
          simp only [beq_iff_eq] at he ⊢
          rw [← he]; exact hne
        rw [this]; simp
      · exact ih hk.2
  have hp := h.filter fun a => a.1 == k
  generalize b.filter (fun a => a.1 == k) = c at hp h1
  cases c with
  | nil => exact List.perm_nil.1 hp
  | cons x c =>
    cases c with
    | nil => exact List.perm_singleton.1 hp
    | cons y c => simp at h1
theorem right_ss {b : List (Int × Tm)} (hk : (b.map (·.1)).Nodup) : Sb.right (So.ss b) = true := by
  have h1 := So.ss_srt b
  have h2 : ((So.ss b).map (·.1)).Nodup := by
    have hp : (So.ss b).Perm b := by
      unfold So.ss
      have key : ∀ l : List (Int × Tm), (So.ssr l).Perm l := by
        intro l
        induction l with
        | nil => exact List.Perm.nil
        | cons x l ih =>
          have hi : ∀ m : List (Int × Tm), (So.ins x m).Perm (x :: m) := by
            intro m
            induction m with
            | nil => exact List.Perm.refl _
            | cons y m ihm =>
              rw [So.ins]
              split
              · exact (List.Perm.cons y ihm).trans (List.Perm.swap _ _ _)
              · exact List.Perm.refl _
          exact (hi _).trans (List.Perm.cons x ih)
      exact (key _).trans (List.reverse_perm b)
    exact (hp.map _).nodup_iff.2 hk
  unfold Sb.right
  rw [decide_eq_true_iff]
  have h3 : (So.ss b).Pairwise fun a b => a.1 ≠ b.1 := List.pairwise_map.1 h2
  exact (h1.and h3).imp fun h => by omega
set_option maxHeartbeats 1000000 in
theorem msubst_d (b : Pn.Bd) (hb : Pn.BdOk b) (hl : b.length ≤ 100000) : CallC Try.prog 71 [.mo 0] [(.o 0, .mp (eBd b))] [] (.sl 5 (ePairs (So.ss b)) none) := by
 have hrt := right_ss hb.keys
 refine calldw 1 27 [ResultVar.tmp 2] TPM_ok Try.func71 rfl Try.ntmps71 rfl fun cx hnt hn0 => ?_
 ·skip
  refine dw_seq ?_; refine dwk [] TPM_ok hnt fun K hK => ?_; refine hK _ _ ?_; clear hK K; refine dw_seq ?_; refine dwk [] TPM_ok hnt fun K hK => ?_; refine hK _ _ ?_; clear hK K; refine dw_seq ?_; refine dw_seq ?_
  refine dw_q [] TPM_ok (by kernel_rfl) hnt (by kernel_rfl) (by simp; rfl) fun K hK => ?_
  intro bm es clk hes
  refine hK _ ?_; clear hK K
  have hel := eBd_len b
  refine dw_block ?_
  refine dw_loop (ι := { q : List Nat × Option Nat × List (Int × Tm) // (q.2.2 ++ q.1.map fun i => b.getD i (0, Tm.zero)).Perm b }) (fun q => [(.t 9, .o 4), (.t 3, .sl 5 (ePairs q.1.2.2) (some 5)), (.r 5, .rw 105 5 q.1.2.2.length), (.o 4, .it 0 bm es clk q.1.1 q.1.2.1), (.o 0, .mq bm es clk (eBd b))]) 6 (fun q => q.1.1.length) (⟨(List.range b.length, none, []), by rw [List.nil_append]; exact List.Perm.of_eq (List.ext_getElem (by simp) fun i h1 h2 => by simp [List.getD_eq_getElem?_getD, h2])⟩) ((VS.trans (VS.rowT (x := 3) (by rw [hnt]; decide) 105 5 rfl) (by rw [hel]; exact VS.toA))) fun q => ?_
  obtain ⟨⟨rem, last, acc⟩, hq⟩ := q
  dsimp only at hq ⊢
  have hal : acc.length ≤ b.length := by have := hq.length_eq; rw [List.length_append] at this; omega
  by_cases hrem : rem = []
  ·subst hrem
   rw [List.map_nil, List.append_nil] at hq
   have hss := ss_perm hq hb.keys
   have hOf := sOf_d acc (by omega) fun p hp => ⟨hb.full p (hq.mem_iff.1 hp), hb.fit p (hq.mem_iff.1 hp)⟩
   rw [hss, hrt, if_pos rfl, if_pos rfl] at hOf
   refine dw_seq ?_
   refine dw_q [] TPM_ok (by kernel_rfl) hnt (by kernel_rfl) (by simp; rfl) fun K hK => ?_
   refine And.intro ⟨rfl, rfl⟩ (Or.inl ⟨rfl, ?_⟩); refine hK _ ?_; clear hK K; refine dw_seq ?_; refine dw_cond (t := false) rfl ?_; rw [if_neg (by simp)]; refine dw_exit ?_; refine dw_seq ?_; refine dwk [(22, .sl 5 (ePairs acc) none)] TPM_ok hnt fun K hK => ?_; refine And.intro (VLe.untag _ _ _) ?_; refine dcl (hOf) ?_; refine hK _ _ ?_; clear hK K; refine dw_seq ?_; refine dwk [] TPM_ok hnt fun K hK => ?_
   refine hK _ _ ?_; clear hK K; refine dw_ret ?_
   exact reta rfl
  ·skip
   refine dw_seq ?_
   refine dw_q [] TPM_ok (by kernel_rfl) hnt (by kernel_rfl) (by simp; rfl) fun K hK => ?_
   refine And.intro ⟨rfl, rfl⟩ (Or.inr ⟨hrem, fun ix hix hil => ?_⟩); refine hK _ ?_; clear hK K; refine dw_seq ?_; refine dw_cond (t := true) rfl ?_; rw [if_pos rfl]
   have hib : ix < b.length := by rw [← hel]; exact hil
   have hgd : (b.getD ix (0, Tm.zero)) = b[ix] := by rw [List.getD_eq_getElem?_getD, List.getElem?_eq_getElem hib]; rfl
   have hep := eBd_get b ix hil
   obtain ⟨p, hp⟩ : ∃ p, b[ix] = p := ⟨_, rfl⟩
   rw [hp] at hgd hep
   have hsn := ePairs_snoc' acc p
   have hpm : ((acc ++ [p]) ++ (rem.erase ix).map fun i => b.getD i (0, Tm.zero)).Perm b := by
    refine List.Perm.trans ?_ hq
    rw [List.append_assoc]
    refine List.Perm.append_left _ ?_
    have := (List.perm_cons_erase hix).map fun i => b.getD i (0, Tm.zero)
    rw [List.map_cons, hgd] at this
    exact this.symm
   refine dw_skip ?_; refine dw_block ?_; refine dw_seq ?_
   refine dw_q [(12, .tu [.v (.int .i64 p.1), .ag [.sl 2 (eTys p.2.binds) none, .v (.int .i64 p.2.kind), .v (.int .i64 p.2.index), .sl 4 (eTms p.2.args) none]])] TPM_ok (by kernel_rfl) hnt (by kernel_rfl) (by simp; rfl) fun K hK => ?_
   refine And.intro ⟨rfl, rfl⟩ ⟨hil, ?_⟩; refine And.intro (VLe.of_eq (by rw [hep, ← eTm_eq])) ?_; refine hK _ ?_; clear hK K; refine dwk [(20, .sl 5 (ePairs (acc ++ [p])) (some 5))] TPM_ok hnt fun K hK => ?_; refine And.intro (⟨by rw [ePairs_len], by rw [ePairs_len]; simp; omega⟩) ?_; refine And.intro (VLe.of_eq (by rw [← hsn])) ?_; refine hK _ _ ?_; clear hK K
   have hpl : (ePairs acc).length = acc.length := ePairs_len acc
   refine ⟨⟨(rem.erase ix, some ix, acc ++ [p]), hpm⟩, by dsimp only; rw [List.length_erase_of_mem hix]; have := List.length_pos_of_mem hix; omega, (by try simp only [List.length_append, List.length_take, List.length_cons, List.length_nil, Nat.zero_add, hpl]; exact VS.toA)⟩

namespace Pn
theorem bput_len (b : Bd) (m : Int) (t : Tm) : (bput b m t).2.length ≤ b.length + 1 := by unfold bput; split <;> simp
theorem flex_len (b : Bd) (p t : Tm) (ar : List Ty) : (flex b p t ar).2.length ≤ b.length + 1 := by
  unfold flex
  split
  · exact Nat.le_succ _
  · split
    · exact bput_len _ _ _
    · exact Nat.le_succ _
theorem walk_len (p : Tm) : ∀ (t : Tm) (ar : List Ty) (b : Bd), (walk p t ar b).2.length ≤ b.length + p.full := by
  induction p using Tm.ind with
  | h bs k i a ih =>
    intro t ar b
    rw [Tm.full_eq, walk]
    split
    · exact Nat.le_add_right _ _
    · split
      · have := flex_len b (.mk bs k i a) t (ar ++ bs); omega
      · split
        · exact Nat.le_add_right _ _
        · have key : ∀ (m ts : List Tm) (b : Bd), (∀ x ∈ m, x ∈ a) → (walks m ts (ar ++ bs) b).2.length ≤ b.length + Tm.fulls m := by
            intro m
            induction m with
            | nil => intro ts b _; rw [walks]; exact Nat.le_add_right _ _
            | cons x m ihm =>
              intro ts b hm
              have h1 := ih x (hm x (by simp)) (ts.headD Tm.zero) (ar ++ bs) b
              rw [walks, Tm.fulls]
              split
              · have h2 := ihm ts.tail (walk x (ts.headD Tm.zero) (ar ++ bs) b).2 fun y hy => hm y (by simp [hy])
                omega
              · omega
          have := key a t.args b fun _ h => h
          omega
theorem mayAll_app (l : List (Tm × Tm)) (r : List (Tm × Tm)) (h : mayAll l = 0) : mayAll (l ++ r) = mayAll r := by
  induction l with
  | nil => rfl
  | cons p l ih =>
    rw [mayAll] at h
    split at h
    · rename_i h0
      rw [List.cons_append, mayAll, if_pos h0, ih h]
    · rename_i h0; exact absurd h h0
theorem mayAll_at (l : List (Tm × Tm)) (j : Nat) (hj : j < l.length) (h : mayAll (l.take j) = 0) : (may l[j].1 = 0 → mayAll (l.take (j + 1)) = 0) ∧ (may l[j].1 ≠ 0 → mayAll l = may l[j].1) := by
  constructor
  · intro h0
    rw [List.take_add_one, List.getElem?_eq_getElem hj, mayAll_app _ _ h, Option.toList_some, mayAll, if_pos h0, mayAll]
  · intro h0
    have e : l = l.take j ++ l[j] :: l.drop (j + 1) := by rw [← List.drop_eq_getElem_cons hj, List.take_append_drop]
    have : mayAll (l.take j ++ l[j] :: l.drop (j + 1)) = may l[j].1 := by rw [mayAll_app _ _ h, mayAll, if_neg h0]
    rw [← e] at this; exact this
theorem walkL_app (l r : List (Tm × Tm)) : ∀ b, walkL (l ++ r) b = (walkL l b).bind (walkL r) := by
  induction l with
  | nil => intro b; rfl
  | cons p l ih =>
    intro b
    rw [List.cons_append, walkL, walkL]
    split
    · exact ih _
    · rfl
theorem walkL_at (l : List (Tm × Tm)) (j : Nat) (hj : j < l.length) {b : Bd} (h : walkL (l.take j) [] = some b) : ((walk l[j].1 l[j].2 [] b).1 = true → walkL (l.take (j + 1)) [] = some (walk l[j].1 l[j].2 [] b).2) ∧ ((walk l[j].1 l[j].2 [] b).1 = false → walkL l [] = none) := by
  constructor
  · intro h0
    rw [List.take_add_one, List.getElem?_eq_getElem hj, walkL_app, h, Option.toList_some]
    show walkL [l[j]] b = _
    rw [walkL, if_pos h0, walkL]
  · intro h0
    have e : l = l.take j ++ l[j] :: l.drop (j + 1) := by rw [← List.drop_eq_getElem_cons hj, List.take_append_drop]
    have : walkL (l.take j ++ l[j] :: l.drop (j + 1)) [] = none := by
      rw [walkL_app, h]
      show walkL (l[j] :: _) b = none
      rw [walkL, if_neg (by simp [h0])]
    rw [← e] at this; exact this
end Pn
theorem eBd_renm (ρ : Nat → Nat) (b : Pn.Bd) : D.renm ρ (eBd b) = eBd b := D.renm_id (f := fun _ => false) (g := fun _ => false) (fun _ h => by cases h) _ (eBd_ok _ _ b)
theorem mwalk_at (k : Nat) (p t : Tm) (b : Pn.Bd) (hz : p.full ≤ 250) (hp : p.Fit) (ht : t.full ≤ 10000) (hlow : lowB t = true) (hft : t.Fit) :
    CallC Try.prog 70 [.ag [.mo k], .ag (eTm p), .ag (eTm t), .v (.slice none 0 0)] [(.o k, .mp (eBd b))] [(.o k, .mp (eBd (Pn.walk p t [] b).2))] (.v (.bool (Pn.walk p t [] b).1)) := by
  have h := (mwalk_d p t [] b (by simp [Ty.sizes]; omega) hp ht hlow hft).ren (fun _ => k) (by simp [renOk, D.ok, D.oks, rnames, inN, ckey, eTm_ok, eTms_ok, eTys_ok, eBd_ok]) (by intro a h1 b h2; simp [rnames] at h1 h2; omega)
  simp only [List.map_cons, List.map_nil, D.ren, D.rens, renE, Key.ren, eTm_ren, eTys_ren, eBd_renm] at h
  exact CallC.vle h (.cons (VLe.refl _) (.cons (VLe.refl _) (.cons (VLe.refl _) (.cons (VLe.nil _) .nil)))) (VLe.refl _)
theorem msubst_at (k : Nat) (b : Pn.Bd) (hb : Pn.BdOk b) (hl : b.length ≤ 100000) : CallC Try.prog 71 [.mo k] [(.o k, .mp (eBd b))] [] (.sl 5 (ePairs (So.ss b)) none) := by
  have h := (msubst_d b hb hl).ren (fun _ => k) (by simp [renOk, D.ok, D.oks, rnames, inN, ckey, ePairs_ok, eBd_ok]) (by intro a h1 b h2; simp [rnames] at h1 h2; omega)
  simpa only [List.map_cons, List.map_nil, D.ren, D.rens, renE, Key.ren, ePairs_ren, eBd_renm] using h
def PPok (p : Tm × Tm) : Prop := p.1.full ≤ 250 ∧ p.1.Fit ∧ p.2.full ≤ 10000 ∧ lowB p.2 = true ∧ p.2.Fit
set_option maxHeartbeats 2000000 in
theorem mAll_d (l : List (Tm × Tm)) (hl : l.length ≤ 100) (hp : ∀ p ∈ l, PPok p) : PureC Try.prog 20 [.sl 8 (ePPs l) none] (.tu [.sl 5 (ePairs (Pn.mAll l).1) none, .v (.int .i64 (Pn.mAll l).2)]) := by
 refine calldw 0 42 [ResultVar.tmp 2, ResultVar.tmp 3] TPM_ok Try.func20 rfl Try.ntmps20 rfl fun cx hnt hn0 => ?_
 ·skip
  refine dw_seq ?_; refine dwk [] TPM_ok hnt fun K hK => ?_; refine hK _ _ ?_; clear hK K; refine dw_seq ?_; refine dw_seq ?_; refine dwk [(11, .v (.int .i64 (↑l.length)))] TPM_ok hnt fun K hK => ?_; refine And.intro (dintE (by rw [ePPs_len])) ?_; refine hK _ _ ?_; clear hK K; refine dw_block ?_
  refine dw_loop (ι := { j : Nat // Pn.mayAll (l.take j) = 0 }) (fun j => [(.t 0, .sl 8 (ePPs l) none), (.t 10, .sl 8 (ePPs l) none), (.t 11, .v (.int .i64 ↑l.length)), (.t 12, .v (.int .i64 ↑j.1))]) 0 (fun j => l.length - j.1) (⟨0, rfl⟩) (VS.toA) fun j => ?_
  obtain ⟨j, hj⟩ := j
  dsimp only
  by_cases hlt : j < l.length
  ·have hst := Pn.mayAll_at l j hlt hj
   have hok := hp _ (List.getElem_mem hlt)
   have hm := mmay_d l[j].1 (by have := hok.1; omega) hok.2.1
   rw [eTm_eq] at hm
   by_cases h0 : Pn.may l[j].1 = 0
   ·rw [h0] at hm
    refine dw_seq ?_; refine dwk [(13, .v (.bool true))] TPM_ok hnt fun K hK => ?_; refine And.intro auT ?_; refine hK _ _ ?_; clear hK K; refine dw_seq ?_; refine dw_cond (t := true) rfl ?_; rw [if_pos rfl]; refine dw_skip ?_; refine dw_seq ?_; refine dw_block ?_; refine dw_seq ?_; refine dwk [(14, .q [.sl 2 (eTys l[j].1.binds) none, .v (.int .i64 l[j].1.kind), .v (.int .i64 l[j].1.index), .sl 4 (eTms l[j].1.args) none, .sl 2 (eTys l[j].2.binds) none, .v (.int .i64 l[j].2.kind), .v (.int .i64 l[j].2.index), .sl 4 (eTms l[j].2.args) none])] TPM_ok hnt fun K hK => ?_
    refine And.intro (elo (ePPs_len l)) ?_; refine And.intro (elv (ePPs_getD l j) (ePP_eq _)) ?_; refine hK _ _ ?_; clear hK K; refine dw_seq ?_; refine dwk [] TPM_ok hnt fun K hK => ?_; refine dcl (hm) ?_; refine hK _ _ ?_; clear hK K; refine dw_seq ?_; refine dwk [(20, .v (.bool false))] TPM_ok hnt fun K hK => ?_; refine And.intro auF ?_; refine hK _ _ ?_; clear hK K; refine dw_cond (t := false) rfl ?_
    rw [if_neg (by simp)]; refine dw_skip ?_; refine dwk [(22, .v (.int .i64 (↑(j + 1))))] TPM_ok hnt fun K hK => ?_; refine And.intro auI ?_; refine hK _ _ ?_; clear hK K
    refine ⟨⟨j + 1, hst.1 h0⟩, by first | omega | (dsimp only; omega), VS.toA⟩
   ·have hv : Pn.mAll l = ([], Pn.may l[j].1) := by unfold Pn.mAll; rw [hst.2 h0, if_neg h0]
    rw [hv]
    refine dw_seq ?_; refine dwk [(13, .v (.bool true))] TPM_ok hnt fun K hK => ?_; refine And.intro auT ?_; refine hK _ _ ?_; clear hK K; refine dw_seq ?_; refine dw_cond (t := true) rfl ?_; rw [if_pos rfl]; refine dw_skip ?_; refine dw_seq ?_; refine dw_block ?_; refine dw_seq ?_; refine dwk [(14, .q [.sl 2 (eTys l[j].1.binds) none, .v (.int .i64 l[j].1.kind), .v (.int .i64 l[j].1.index), .sl 4 (eTms l[j].1.args) none, .sl 2 (eTys l[j].2.binds) none, .v (.int .i64 l[j].2.kind), .v (.int .i64 l[j].2.index), .sl 4 (eTms l[j].2.args) none])] TPM_ok hnt fun K hK => ?_
    refine And.intro (elo (ePPs_len l)) ?_; refine And.intro (elv (ePPs_getD l j) (ePP_eq _)) ?_; refine hK _ _ ?_; clear hK K; refine dw_seq ?_; refine dwk [] TPM_ok hnt fun K hK => ?_; refine dcl (hm) ?_; refine hK _ _ ?_; clear hK K; refine dw_seq ?_; refine dwk [(20, .v (.bool true))] TPM_ok hnt fun K hK => ?_; refine And.intro (bneT h0) ?_; refine hK _ _ ?_; clear hK K; refine dw_cond (t := true) rfl ?_
    rw [if_pos rfl]; refine dw_seq ?_; refine dwk [] TPM_ok hnt fun K hK => ?_; refine hK _ _ ?_; clear hK K; refine dw_ret ?_
    exact reta rfl
  ·rw [List.take_of_length_le (by omega)] at hj
   refine dw_seq ?_; refine dwk [(13, .v (.bool false))] TPM_ok hnt fun K hK => ?_; refine And.intro auF ?_; refine hK _ _ ?_; clear hK K; refine dw_seq ?_; refine dw_cond (t := false) rfl ?_; rw [if_neg (by simp)]; refine dw_exit ?_; refine dw_seq ?_; refine dwk [] TPM_ok hnt fun K hK => ?_; refine hK _ _ ?_; clear hK K; refine dw_seq ?_; refine dw_seq ?_; refine dwk [(26, .v (.int .i64 (↑l.length)))] TPM_ok hnt fun K hK => ?_
   refine And.intro (dintE (by rw [ePPs_len])) ?_; refine hK _ _ ?_; clear hK K; refine dw_block ?_
   refine dw_loop (ι := { q : Nat × Pn.Bd // Pn.walkL (l.take q.1) [] = some q.2 ∧ Pn.BdOk q.2 ∧ q.2.length ≤ 250 * q.1 ∧ q.1 ≤ l.length }) (fun q => [(.t 7, .p 3 0), (.c 3 0, .mo 1), (.o 1, .mp (eBd q.1.2)), (.t 25, .sl 8 (ePPs l) none), (.t 26, .v (.int .i64 ↑l.length)), (.t 27, .v (.int .i64 ↑q.1.1))]) 4 (fun q => l.length - q.1.1) (⟨(0, []), by rw [List.take_zero]; exact ⟨rfl, Pn.bdOk_nil, Nat.zero_le _, Nat.zero_le _⟩⟩) ((VS.toK (by omega) (by repeat first | exact trivial | refine And.intro (And.intro (by first | rfl | simp [D.ok, D.oks, D.okss, D.okm, upto, keyOk, eBd]) (by first | exact Or.inl rfl | exact Or.inr ⟨_, rfl, (by repeat first | exact VLe.refl _ | exact VLe.nil _ | exact VLe.untag _ _ _ | refine VLe.ag ?_ | refine VLe.tu ?_ | refine VLeL.cons ?_ ?_ | exact VLeL.nil), trivial⟩ | simp [get, Key.eq, eBd])) ?_))) fun q => ?_
   obtain ⟨⟨k, b⟩, hw, hb, hbl, hkl⟩ := q
   dsimp only at hw hb hbl hkl ⊢
   by_cases hlt : k < l.length
   ·obtain ⟨ok1, ok2, ok3, ok4, ok5⟩ := hp _ (List.getElem_mem hlt)
    have hst := Pn.walkL_at l k hlt hw
    have hbd := Pn.walk_bd l[k].1 l[k].2 [] b hb (by simp [Ty.sizes]; omega) ok3 ok4 ok5
    have hbl2 := Pn.walk_len l[k].1 l[k].2 [] b
    have hcw := mwalk_at 1 l[k].1 l[k].2 b ok1 ok2 ok3 ok4 ok5
    obtain ⟨⟨wb, wl⟩, hwk⟩ : ∃ r, Pn.walk l[k].1 l[k].2 [] b = r := ⟨_, rfl⟩
    rw [hwk] at hst hbd hbl2 hcw
    rw [eTm_eq, eTm_eq] at hcw
    dsimp only at hst hbd hbl2 hcw
    cases wb with
    | true =>
     refine dw_seq ?_; refine dwk [(28, .v (.bool true))] TPM_ok hnt fun K hK => ?_; refine And.intro auT ?_; refine hK _ _ ?_; clear hK K; refine dw_seq ?_; refine dw_cond (t := true) rfl ?_; rw [if_pos rfl]; refine dw_skip ?_; refine dw_seq ?_; refine dw_block ?_; refine dw_seq ?_; refine dwk [(29, .q [.sl 2 (eTys l[k].1.binds) none, .v (.int .i64 l[k].1.kind), .v (.int .i64 l[k].1.index), .sl 4 (eTms l[k].1.args) none, .sl 2 (eTys l[k].2.binds) none, .v (.int .i64 l[k].2.kind), .v (.int .i64 l[k].2.index), .sl 4 (eTms l[k].2.args) none])] TPM_ok hnt fun K hK => ?_
     refine And.intro (elo (ePPs_len l)) ?_; refine And.intro (elv (ePPs_getD l k) (ePP_eq _)) ?_; refine hK _ _ ?_; clear hK K; refine dw_seq ?_; refine dwk [] TPM_ok hnt fun K hK => ?_; refine dcl (hcw) ?_; refine hK _ _ ?_; clear hK K; refine dw_cond (t := false) rfl ?_; rw [if_neg (by simp)]; refine dw_skip ?_; refine dwk [(38, .v (.int .i64 (↑(k + 1))))] TPM_ok hnt fun K hK => ?_; refine And.intro auI ?_
     refine hK _ _ ?_; clear hK K
     refine ⟨⟨(k + 1, wl), hst.1 rfl, hbd, by dsimp only; omega, hlt⟩, by first | omega | (dsimp only; omega), VS.toA⟩
    | false =>
     have hv : Pn.mAll l = ([], 9) := by unfold Pn.mAll; rw [if_pos hj, hst.2 rfl]
     rw [hv]
     refine dw_seq ?_; refine dwk [(28, .v (.bool true))] TPM_ok hnt fun K hK => ?_; refine And.intro auT ?_; refine hK _ _ ?_; clear hK K; refine dw_seq ?_; refine dw_cond (t := true) rfl ?_; rw [if_pos rfl]; refine dw_skip ?_; refine dw_seq ?_; refine dw_block ?_; refine dw_seq ?_; refine dwk [(29, .q [.sl 2 (eTys l[k].1.binds) none, .v (.int .i64 l[k].1.kind), .v (.int .i64 l[k].1.index), .sl 4 (eTms l[k].1.args) none, .sl 2 (eTys l[k].2.binds) none, .v (.int .i64 l[k].2.kind), .v (.int .i64 l[k].2.index), .sl 4 (eTms l[k].2.args) none])] TPM_ok hnt fun K hK => ?_
     refine And.intro (elo (ePPs_len l)) ?_; refine And.intro (elv (ePPs_getD l k) (ePP_eq _)) ?_; refine hK _ _ ?_; clear hK K; refine dw_seq ?_; refine dwk [] TPM_ok hnt fun K hK => ?_; refine dcl (hcw) ?_; refine hK _ _ ?_; clear hK K; refine dw_cond (t := true) rfl ?_; rw [if_pos rfl]; refine dw_seq ?_; refine dwk [] TPM_ok hnt fun K hK => ?_; refine hK _ _ ?_; clear hK K; refine dw_ret ?_
     exact reta rfl
   ·rw [List.take_of_length_le (by omega)] at hw
    have hv : Pn.mAll l = (So.ss b, 0) := by unfold Pn.mAll; rw [if_pos hj, hw]
    have hsb := msubst_at 1 b hb (by omega)
    rw [hv]
    refine dw_seq ?_; refine dwk [(28, .v (.bool false))] TPM_ok hnt fun K hK => ?_; refine And.intro auF ?_; refine hK _ _ ?_; clear hK K; refine dw_seq ?_; refine dw_cond (t := false) rfl ?_; rw [if_neg (by simp)]; refine dw_exit ?_; refine dw_seq ?_; refine dwk [] TPM_ok hnt fun K hK => ?_; refine dcl (hsb) ?_; refine hK _ _ ?_; clear hK K; refine dw_ret ?_
    exact reta rfl
end Go.Proofs.Ytdmiekaeodcehaa

namespace Go.Proofs.Ytdmiekaeodcehaa
open Go.RowKit Go.ChangeShapes Go.WideShapes Go.ChangeAt

def rpPP : Rp (Tm × Tm) where
  n := 8
  R := fun F w x p => ∃ b k i a b' k' i' a', x = [b, k, i, a, b', k', i', a'] ∧ IsTm F w b k i a p.1 ∧ IsTm F w b' k' i' a' p.2
  len := fun ⟨_, _, _, _, _, _, _, _, e, _⟩ => by rw [e]; rfl
  one := fun ⟨b, k, i, a, b', k', i', a', e, h, h'⟩ v hv => by
    have h1 := rpTm.one (F := _) (w := _) (x := [b, k, i, a]) (a := _) ⟨b, k, i, a, rfl, h⟩
    have h2 := rpTm.one (F := _) (w := _) (x := [b', k', i', a']) (a := _) ⟨b', k', i', a', rfl, h'⟩
    rw [e] at hv
    have : v ∈ [b, k, i, a] ∨ v ∈ [b', k', i', a'] := by simpa [or_assoc] using hv
    rcases this with hv | hv
    · exact h1 v hv
    · exact h2 v hv
  keep := fun ⟨b, k, i, a, b', k', i', a', e, h, h'⟩ hk => ⟨b, k, i, a, b', k', i', a', e, h.keep hk, h'.keep hk⟩
  weaken := fun ⟨b, k, i, a, b', k', i', a', e, h, h'⟩ hf => ⟨b, k, i, a, b', k', i', a', e, h.weaken hf, h'.weaken hf⟩
theorem cellsPP : Try.prog.cellsOf 49 = 8 := by kernel_rfl
theorem eight_of {α : Type} {cs : List α} (h : cs.length = 8) : ∃ a b c d e f g i, cs = [a, b, c, d, e, f, g, i] := by
  match cs, h with
  | [a, b, c, d, e, f, g, i], _ => exact ⟨a, b, c, d, e, f, g, i, rfl⟩
theorem rdPP {H : Type} (enc : TypeId × Value → H) (W : World) (base : Nat) (sp : Nat → Bool) (hd : Bool) : ∀ n, Rd enc W base sp hd 49 rpPP (fun _ p => p.1.Fit ∧ p.2.Fit) n := by
  intro n cs x h
  obtain ⟨xs, m, rfl, rfl, hl, hlen, hf⟩ := DataW.trod_struct Try.underlying49 h
  rw [cellsPP] at hl
  obtain ⟨v0, v1, v2, v3, v4, v5, v6, v7, rfl⟩ := eight_of hl
  have h0 : DataW.trod enc Try.prog W base sp hd m 27 ([v0, v1, v2, v3, v4, v5, v6, v7].take (Try.prog.cellsOf 27)) = xs[0]? := hf 0 _ rfl
  have h1 : DataW.trod enc Try.prog W base sp hd m 27 ([v4, v5, v6, v7].take (Try.prog.cellsOf 27)) = xs[1]? := hf 1 _ rfl
  rw [cellsTerm] at h0 h1
  have hlen : xs.length = 2 := hlen
  rw [List.getElem?_eq_getElem (by omega)] at h0 h1
  obtain ⟨t, ⟨b, k, j, a, hx, ht⟩, hfit⟩ := rdM enc W base sp hd m _ _ h0
  obtain ⟨t', ⟨b', k', j', a', hx', ht'⟩, hfit'⟩ := rdM enc W base sp hd m _ _ h1
  have e0 : [v0, v1, v2, v3] = [b, k, j, a] := hx
  have e1 : [v4, v5, v6, v7] = [b', k', j', a'] := hx'
  simp only [List.cons.injEq, and_true] at e0 e1
  obtain ⟨rfl, rfl, rfl, rfl⟩ := e0
  obtain ⟨rfl, rfl, rfl, rfl⟩ := e1
  exact ⟨(t, t'), ⟨_, _, _, _, _, _, _, _, rfl, ht, ht'⟩, hfit, hfit'⟩
theorem relPPs {m : Mp} {w : World} {F : Nat → Prop} {v : Value} {l : List (Tm × Tm)} (h : IsSl rpPP F w v l) : Rel m (cellI F w) w v (.sl 8 (ePPs l) none) :=
  rel_of_sl (r := rpPP) (e := ePP) cellI_of (fun p => by rw [ePP_eq]; rfl) (fun x p hx => by
    obtain ⟨b, k, i, a, b', k', i', a', rfl, ht, ht'⟩ := hx
    exact (rel_of_tm cellI_of p.1 ht).append (rel_of_tm cellI_of p.2 ht')) h
end Go.Proofs.Ytdmiekaeodcehaa

