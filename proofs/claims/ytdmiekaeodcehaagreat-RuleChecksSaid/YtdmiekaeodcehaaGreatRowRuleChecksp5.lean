/-
  Contracts of before, as deep ones; term.Copy. Loops over an iterator that writes cells of its own between two rounds. term.each: all terms within, each ahead of its arguments: what the iterator hands to a loop's body. term.Size, term.Depth, term.Right, term.Loose: what the loops over all terms within hand back. term.Right. term.Equal, and slices.EqualFunc with it. Contracts of before, as deep ones. Deep contracts, as ones of before. Package norm, walked in the deep way: through. Package norm, walked in the deep way: Put. Package subst, walked in the deep way. The readings of a row's arguments that are pairs, and what was opened, told as deep values. Terms, walked in the deep way: Equal, Eta, Var; the document's Same, Eta, Var. term.Loose. Package pattern, walked in the deep way: what is small. Deep values: a function that hands back a new map. Package pattern, walked in the deep way: Flex, Vars, places, types. Package pattern, walked in the deep way: places, types. The laws' helpers of layers 8 and 9: Low, Of. Package pattern, walked in the deep way: turned, Take. Package pattern, walked in the deep way: Take. Deep values: calls that grow rows of their callers.
-/
import Derived.Test.YtdmiekaeodcehaaGreatRowRuleChecksp4
import Derived.Test.YtdmiekaeodcehaaGreatRowRuleChecksp1
import Derived.RangeFuncWrites
set_option maxRecDepth 100000
set_option maxHeartbeats 1000000
set_option linter.unusedVariables false
set_option linter.unusedSimpArgs false
namespace Go.Proofs.YtdmiekaeodcehaaGreat
open Go.RowKit

theorem pure_below {P : Program} {f : FuncId} (hf : entersB P f = true) {ds : List D} {V : D}
    (h : ∀ (m : Mp) (Im : Nat → Nat → Prop) (w : World) (vs : List Value), RelL m Im w vs ds → Calls P f vs.toArray w fun e w' => ∃ v, e = .returned v ∧ Below w.heap.size w w' ∧ ∀ Im' : Nat → Nat → Prop, (∀ b o, Im b o → Im' b o) → (∀ b o v, w.heap.size ≤ b → w'.cell? ⟨b, o, none⟩ = some v → Im' b o) → Rel m Im' w' v V) : PureC P f ds V := by
  refine ⟨hf, fun cx Fr m Im w vs hmem hargs _ => (h m Im w vs hargs).mono ?_⟩
  rintro e w' ⟨v, rfl, hb, hr⟩
  refine ⟨v, fun b o => Im b o ∨ (w.heap.size ≤ b ∧ ∃ v, w'.cell? ⟨b, o, none⟩ = some v), rfl, ⟨hb.os, hb.tape, hb.output, hb.size, fun b hl _ => hb.block b hl⟩, fun b o h => .inl h, fun b o h => h.imp id fun h => h.1, fun b o hi => ?_, fun k b o hk => ?_, hr _ (fun b o h => .inl h) fun b o v h1 h2 => .inr ⟨h1, v, h2⟩, nofun⟩
  · rcases hi with hi | hi
    · obtain ⟨v, hv⟩ := hmem.im b o hi
      exact ⟨v, (hb.cell (p := ⟨b, o, none⟩) (ltOfCell hv)).trans hv⟩
    · exact hi.2
  · exact (World.frozen?_of_block (a := ⟨b, o, none⟩) (hb.block b (hmem.lt k b hk))).trans (hmem.free k b o hk)
theorem agTm {m : Mp} {Im : Nat → Nat → Prop} {w : World} {x : Value} {t : Tm} (h : Rel m Im w x (.ag (eTm t))) : ∃ b k i a, x = .agg #[b, k, i, a] ∧ IsTm (blkI Im) w b k i a t := by
  obtain ⟨cs, rfl, hr⟩ := rel_ag.1 h
  obtain ⟨b, k, i, a, rfl, ht⟩ := tm_of_rel t hr
  exact ⟨b, k, i, a, rfl, ht⟩
def TCP_36 : TI := ⟨4, true, [Value.slice none 0 0, Value.int IntKind.i64 0, Value.int IntKind.i64 0, Value.slice none 0 0], [(0, 1, false), (1, 2, true), (3, 1, false)], none, 64, 6, none, false⟩
theorem TCP_36_ok : TypOk Tryz.prog 36 TCP_36 := ⟨by kernel_rfl, by kernel_rfl, by kernel_rfl, by kernel_rfl, by kernel_rfl⟩
def TCP_3 : TI := ⟨1, false, [Value.int IntKind.i64 0], [], none, 8, 2, none, false⟩
theorem TCP_3_ok : TypOk Tryz.prog 3 TCP_3 := ⟨by kernel_rfl, by kernel_rfl, by kernel_rfl, by kernel_rfl, by kernel_rfl⟩
def TCP_34 : TI := ⟨1, false, [Value.slice none 0 0], [], some 36, 24, 5, none, false⟩
theorem TCP_34_ok : TypOk Tryz.prog 34 TCP_34 := ⟨by kernel_rfl, by kernel_rfl, by kernel_rfl, by kernel_rfl, by kernel_rfl⟩
def TCP_33 : TI := ⟨2, true, [Value.int IntKind.i64 0, Value.int IntKind.i64 0], [(0, 1, false), (1, 1, false)], none, 16, 6, none, true⟩
theorem TCP_33_ok : TypOk Tryz.prog 33 TCP_33 := ⟨by kernel_rfl, by kernel_rfl, by kernel_rfl, by kernel_rfl, by kernel_rfl⟩
def TCP_32 : TI := ⟨1, false, [Value.slice none 0 0], [], some 75, 24, 5, none, false⟩
theorem TCP_32_ok : TypOk Tryz.prog 32 TCP_32 := ⟨by kernel_rfl, by kernel_rfl, by kernel_rfl, by kernel_rfl, by kernel_rfl⟩
def TCP_75 : TI := ⟨2, true, [Value.slice none 0 0, Value.int IntKind.i64 0], [(0, 1, false), (1, 1, false)], none, 32, 6, none, false⟩
theorem TCP_75_ok : TypOk Tryz.prog 75 TCP_75 := ⟨by kernel_rfl, by kernel_rfl, by kernel_rfl, by kernel_rfl, by kernel_rfl⟩
def TCP_133 : TI := ⟨1, false, [Value.nilFunc], [], none, 8, 8, none, false⟩
theorem TCP_133_ok : TypOk Tryz.prog 133 TCP_133 := ⟨by kernel_rfl, by kernel_rfl, by kernel_rfl, by kernel_rfl, by kernel_rfl⟩
def TCP : List (Nat × TI) := [(36, TCP_36), (3, TCP_3), (34, TCP_34), (33, TCP_33), (32, TCP_32), (75, TCP_75), (133, TCP_133)]
theorem TCP_ok : TabOk Tryz.prog TCP := ((((((((TabOk.nil _).cons TCP_133_ok).cons TCP_75_ok).cons TCP_32_ok).cons TCP_33_ok).cons TCP_34_ok).cons TCP_3_ok).cons TCP_36_ok)

theorem cEms_snoc (l : List Tm) (j : Nat) (h : j < l.length) : eTms (l.take j) ++ [[.sl 2 (eTys l[j].binds) none, .v (.int .i64 l[j].kind), .v (.int .i64 l[j].index), .sl 4 (eTms l[j].args) none]] = eTms (l.take (j + 1)) := by
  rw [← eTm_eq, List.take_add_one, List.getElem?_eq_getElem h, Option.toList_some, eTms_map, eTms_map, List.map_append]; rfl
theorem copy1_d (x : Int) : PureC Tryz.prog 88 [.v (.int .i64 x)] (.v (.int .i64 x)) := by
 refine calldw 0 4 [ResultVar.tmp 2] TCP_ok Tryz.func88 rfl Tryz.ntmps88 rfl fun cx hnt hn0 => ?_
 ·skip
  refine dw_seq ?_; refine dwk [] TCP_ok hnt fun K hK => ?_; refine hK _ _ ?_; clear hK K; refine dw_seq ?_; refine dwk [] TCP_ok hnt fun K hK => ?_; refine hK _ _ ?_; clear hK K; refine dw_ret ?_
  exact reta rfl
theorem cFulls_len (l : List Tm) : l.length ≤ Tm.fulls l := by
  induction l with
  | nil => simp
  | cons u l ih =>
    have : 1 ≤ u.full := by obtain ⟨b, k, i, a⟩ := u; rw [Tm.full_eq]; omega
    simp only [List.length_cons, Tm.fulls]; omega
theorem turnedD_d : ∀ t : Tm, ∀ ins : Int, 0 ≤ ins → ins + t.full ≤ 900000 → t.Fit → PureC Tryz.prog 87 [.ag (eTm t), .v (.int .i64 ins), .fn 88 []] (.ag (eTm t)) := by
 intro t
 induction t using Tm.ind with
 | h bs k i ar ih =>
  intro ins h0 hz hft
  rw [Tm.full_eq] at hz
  have hbl := Ty.le_sizes bs
  obtain ⟨hi0, hi1, _⟩ := Tm.fit_iff.1 hft
  have hs1 : (Ty.mk [] 0).size = 1 := by simp [Ty.size, Ty.sizes]
  have harr := arrow_d (.mk [] 0) bs (by omega)
  dsimp only [Ty.args, Ty.base] at harr
  rw [List.append_nil, eTy_eq, eTy_eq] at harr
  dsimp only [Ty.args, Ty.base, eTys] at harr
  have hal := cFulls_len ar
  rw [eTm_eq]
  dsimp only [Tm.binds, Tm.kind, Tm.index, Tm.args]
  obtain ⟨n, hn⟩ : ∃ n : Int, n = ins + bs.length := ⟨_, rfl⟩
  refine calldw 0 63 [ResultVar.cell 6 36] TCP_ok Tryz.func87 rfl Tryz.ntmps87 rfl fun cx hnt hn0 => ?_
  ·skip
   refine dw_seq ?_; refine dwk [] TCP_ok hnt fun K hK => ?_; refine hK _ _ ?_; clear hK K; refine dw_seq ?_; refine dwk [(14, .v (.int .i64 (n)))] TCP_ok hnt fun K hK => ?_; refine And.intro (dintE (by rw [eTys_len, IntWalk.i64_in _ (by omega)]; omega)) ?_; refine hK _ _ ?_; clear hK K; refine dw_seq ?_; refine dwkD [(15, .ag [.sl 2 [] none, .v (.int .i64 0)])] TCP_ok hnt fun K hK => ?_; refine And.intro (auV) ?_
   refine dcl (harr) ?_; refine hK _ _ (by kernel_rfl) ?_; clear hK K
   refine dw_cut (τ := [(.t 1, .v (.int .i64 n)), (.t 2, .fn 88 []), (.t 3, .p 0 0), (.t 6, .p 1 0), (.t 7, .p 16 0), (.c 0 0, .sl 2 (eTys bs) none), (.c 0 1, .v (.int .i64 k)), (.c 0 2, .v (.int .i64 i)), (.c 0 3, .sl 4 (eTms ar) none), (.c 1 0, .v (.slice none 0 0)), (.c 1 1, .v (.int .i64 0)), (.c 1 2, .v (.int .i64 0)), (.c 1 3, .v (.slice none 0 0)), (.c 16 0, .sl 2 (eTys bs) none), (.c 16 1, .v (.int .i64 k)), (.c 16 2, .v (.int .i64 i)), (.c 16 3, .v (.slice none 0 0))]) (N1 := 17) ?_ ?_
   ·by_cases hk : k = 0
    ·by_cases hge : i ≥ n
     ·have hc1 := copy1_d (i - n)
      refine dw_seq ?_; refine dwk [(26, .v (.bool true)), (32, .v (.bool true))] TCP_ok hnt fun K hK => ?_; refine And.intro (VLe.of_eq (by simp [hk])) ?_; refine And.intro auT ?_; refine hK _ _ ?_; clear hK K; refine dw_cond (t := true) rfl ?_; rw [if_pos rfl]; refine dwk [(40, .v (.int .i64 ((i - n)))), (42, .v (.int .i64 (i)))] TCP_ok hnt fun K hK => ?_; refine And.intro (dintE (by exact IntWalk.i64_in _ (by omega))) ?_
      refine dcl (hc1) ?_; refine And.intro (dintE (by (rw [show n + (i - n) = i by omega]; exact IntWalk.i64_in _ (by omega)))) ?_; refine hK _ _ ?_; clear hK K
      exact cut_ok VS.toA
     ·skip
      refine dw_seq ?_; refine dwk [(26, .v (.bool true)), (32, .v (.bool false))] TCP_ok hnt fun K hK => ?_; refine And.intro (VLe.of_eq (by simp [hk])) ?_; refine And.intro auF ?_; refine hK _ _ ?_; clear hK K; refine dw_cond (t := false) rfl ?_; rw [if_neg (by simp)]; refine dw_skip ?_
      exact cut_ok VS.toA
    ·skip
     refine dw_seq ?_; refine dwk [(26, .v (.bool false))] TCP_ok hnt fun K hK => ?_; refine And.intro (VLe.of_eq (by simp [hk])) ?_; refine hK _ _ ?_; clear hK K; refine dw_cond (t := false) rfl ?_; rw [if_neg (by simp)]; refine dw_skip ?_
     exact cut_ok VS.toA
   ·refine DW.vs (VS.row (k := 16) (off := 3) 36 4 rfl) ?_
    refine dw_seq ?_; refine dw_seq ?_; refine dwk [(47, .v (.int .i64 (↑ar.length)))] TCP_ok hnt fun K hK => ?_; refine And.intro (dintE (by rw [eTms_len])) ?_; refine hK _ _ ?_; clear hK K; refine dw_block ?_
    refine dw_loop (ι := { j : Nat // j ≤ ar.length }) (fun j => [(.t 1, .v (.int .i64 n)), (.t 2, .fn 88 []), (.t 6, .p 1 0), (.t 7, .p 16 0), (.t 46, .sl 4 (eTms ar) none), (.t 47, .v (.int .i64 ↑ar.length)), (.t 48, .v (.int .i64 ↑j.1)), (.c 1 0, .v (.slice none 0 0)), (.c 1 1, .v (.int .i64 0)), (.c 1 2, .v (.int .i64 0)), (.c 1 3, .v (.slice none 0 0)), (.c 16 0, .sl 2 (eTys bs) none), (.c 16 1, .v (.int .i64 k)), (.c 16 2, .v (.int .i64 i)), (.c 16 3, .sl 4 (eTms (ar.take j.1)) (some 17)), (.r 17, .rw 36 4 j.1)]) 18 (fun j => ar.length - j.1) (⟨0, Nat.zero_le _⟩) (VS.toA) fun j => ?_
    obtain ⟨j, hj⟩ := j
    dsimp only
    by_cases hlt : j < ar.length
    ·have hmem := List.getElem_mem hlt
     have hsz := Tm.full_mem hmem
     have hc := ih _ hmem n (by omega) (by omega) ((Tm.fit_iff.1 hft).2.2 _ hmem)
     rw [eTm_eq] at hc
     have hl1 : (eTms (ar.take j)).length = j := by rw [eTms_len, List.length_take]; omega
     have hl2 : (eTms (ar.take (j + 1))).length = j + 1 := by rw [eTms_len, List.length_take]; omega
     refine dw_seq ?_; refine dwk [(49, .v (.bool true))] TCP_ok hnt fun K hK => ?_; refine And.intro auT ?_; refine hK _ _ ?_; clear hK K; refine dw_seq ?_; refine dw_cond (t := true) rfl ?_; rw [if_pos rfl]; refine dw_skip ?_; refine dw_seq ?_; refine dw_block ?_; refine dw_seq ?_; refine dwk [(50, .q [.sl 2 (eTys ar[j].binds) none, .v (.int .i64 ar[j].kind), .v (.int .i64 ar[j].index), .sl 4 (eTms ar[j].args) none])] TCP_ok hnt fun K hK => ?_
     refine And.intro (elo (eTms_len ar)) ?_; refine And.intro (elv (eTms_getD ar j) (eTm_eq _)) ?_; refine hK _ _ ?_; clear hK K; refine dwkD [] TCP_ok hnt fun K hK => ?_; refine dcl (hc) ?_; refine And.intro (⟨by omega, by rw [hl1]; simp; omega⟩) ?_; refine hK _ _ (by kernel_rfl) ?_; clear hK K
     rw [cEms_snoc ar j hlt, hl2]
     refine dwk [(61, .v (.int .i64 (↑(j + 1))))] TCP_ok hnt fun K hK => ?_; refine And.intro auI ?_; refine hK _ _ ?_; clear hK K
     refine ⟨⟨j + 1, hlt⟩, by first | omega | (dsimp only; omega), VS.toA⟩
    ·rw [List.take_of_length_le (by omega)]
     refine dw_seq ?_; refine dwk [(49, .v (.bool false))] TCP_ok hnt fun K hK => ?_; refine And.intro auF ?_; refine hK _ _ ?_; clear hK K; refine dw_seq ?_; refine dw_cond (t := false) rfl ?_; rw [if_neg (by simp)]; refine dw_exit ?_; refine dw_seq ?_; refine dwk [] TCP_ok hnt fun K hK => ?_; refine hK _ _ ?_; clear hK K; refine dw_ret ?_
     exact reta rfl
theorem copyW_d (t : Tm) (hsz : t.full ≤ 900000) (hfit : t.Fit) : PureC Tryz.prog 42 [.ag (eTm t)] (.ag (eTm t)) := by
 have h := turnedD_d t 0 (Int.le_refl _) (by omega) hfit
 rw [eTm_eq] at h ⊢
 refine calldw 0 5 [ResultVar.cell 2 36] TCP_ok Tryz.func42 rfl Tryz.ntmps42 rfl fun cx hnt hn0 => ?_
 ·skip
  refine dw_seq ?_; refine dwk [] TCP_ok hnt fun K hK => ?_; refine hK _ _ ?_; clear hK K; refine dw_seq ?_; refine dwk [] TCP_ok hnt fun K hK => ?_; refine dcl (h) ?_; refine hK _ _ ?_; clear hK K; refine dw_ret ?_
  exact reta rfl
end Go.Proofs.YtdmiekaeodcehaaGreat

namespace Go.Proofs.YtdmiekaeodcehaaGreat
open Go.RowKit

def Mild {β : Type} (Ok : Obj → Prop) (B : Nat) (J : β → World → Prop) : Prop :=
  ∀ s W W' row, J s W → W.grownBy W' row → (∀ r, row = some r → B ≤ r ∧ ∃ o : Obj, W.heap[r]? = some o ∧ Ok o) → J s W'
section
variable {β : Type} {Ok : Obj → Prop} {B : Nat} {I I' : β → World → Prop}
theorem Mild.and (h : Mild Ok B I) (h' : Mild Ok B I') : Mild Ok B (fun s W => I s W ∧ I' s W) := fun s W W' row hs hg hr => ⟨h s W W' row hs.1 hg hr, h' s W W' row hs.2 hg hr⟩
theorem Mild.alloc (h : Mild Ok B I) {s : β} {W : World} (hs : I s W) (o : Obj) : I s (W.alloc o) := h s W _ none hs (World.grownBy_alloc W o none) (fun r e => by cases e)
theorem Mild.put (h : Mild Ok B I) (hOk : ∀ o : Obj, o.isCells = false → Ok o) {s : β} {W : World} (hs : I s W) {l : Nat} {o : Obj} (o' : Obj) (hl : W.heap[l]? = some o) (ho : o.isCells = false) (hB : B ≤ l) : I s (W.putObj l o') :=
  h s W _ _ hs (grownBy_putObj' W l o') (fun r e => by cases e; exact ⟨hB, o, hl, hOk o ho⟩)
theorem Mild.up {B' : Nat} (h : Mild Ok B I) (hB : B ≤ B') : Mild Ok B' I := fun s W W' row hs hg hr => h s W W' row hs hg fun r e => ⟨Nat.le_trans hB (hr r e).1, (hr r e).2⟩
theorem mild_block {k : Nat} {o : Obj} (hk : k < B) : Mild Ok B (fun (_ : β) W => W.heap[k]? = some o) := fun _ W _ row hs hg hr => (hg.block k (Array.getElem?_eq_some_iff.1 hs).1 (fun e => by have := (hr k e.symm).1; omega)).trans hs
theorem mild_below {n0 : Nat} {w0 : World} (hn : n0 ≤ w0.heap.size) (hB : n0 ≤ B) : Mild Ok B (fun (_ : β) W => Below n0 w0 W) := fun _ _ _ _ hs hg hr => hs.grown hg (Nat.le_trans hn hs.size) (fun k e => Nat.le_trans hB (hr k e).1)
end

def SeqSoft {α : Type} (Ok : Obj → Prop) (F : Fence) (n : Nat) (P : Program) (g : Nat) (lb : Array Value) (encs : α → Array Value) (Kp : World → World → Prop) (S Sp : List α → Prop) (N : Nat) (w : World) : Prop :=
  ∀ (l : Nat) (J Jx : List α → World → Prop) (W : World), Below w.heap.size w W → Mild Ok W.heap.size J → Mild Ok W.heap.size Jx →
    (∀ pre x V, J pre V → pre.length < N → YieldAt F (n - 1) P l (encs x) V fun e V' => (e = .returned (.bool true) ∧ J (pre ++ [x]) V' ∧ Kp V V') ∨ (e = .returned (.bool false) ∧ Jx (pre ++ [x]) V')) →
    J [] W → CallsIn F n P g (#[.func (.yield l) #[] #[]] ++ lb) W fun e W' => (∃ v, e = .returned v) ∧ ((∃ xs, S xs ∧ J xs W') ∨ (∃ pre, Sp pre ∧ Jx pre W'))

theorem range_softA {Ok : Obj → Prop} (hOk : ∀ o : Obj, o.isCells = false → Ok o) {F : Fence} {n : Nat} {P : Program} {α : Type} {g : Operand} {ps : Array Tmp} {assign body : Code} {Q : Exit → Act → World → Prop} {a : Act} {w : World}
    (hro : F.round = none) (hn : 1 ≤ n) {gf : Nat} {lb : Array Value} (hg : a.eval g = .func (.func gf) #[] lb) (hF : F.fn gf) (eg : ∀ args w, (callFunc gf args).run P w = .ok (.enter gf args) w)
    {encs : α → Array Value} {Kp : World → World → Prop} {S Sp : List α → Prop} {N : Nat} {w0 : World} (hseq : SeqSoft Ok F (n - 1) P gf lb encs Kp S Sp N w0)
    (hKt : ∀ {X Y Z : World}, Kp X Y → Kp Y Z → Kp X Z) (hKb : ∀ (W : World) (l : Nat) (o o' : Obj), w.heap.size ≤ l → W.heap[l]? = some o → o.isCells = false → o.isWalk = false → Kp W (W.putObj l o')) (hw0 : Below w0.heap.size w0 w) (hps : ∀ x, (encs x).size = ps.size)
    (I : List α → World → Prop) (Ix : Code → List α → World → Prop) (hI : Mild Ok w.heap.size I) (hIx : ∀ c, Mild Ok w.heap.size (Ix c)) (h0 : I [] w) (Ra : α → Act → World → Prop) (hRa : ∀ x a' W l (o o' : Obj), w.heap.size ≤ l → W.heap[l]? = some o → o.isCells = false → Ra x a' W → Ra x a' (W.putObj l o'))
    (hassign : ∀ (l : Nat) (pre : List α) (x : α) (W : World) (K : Act → World → Prop), I pre W → (∀ a' W', KeepsFrom w.heap.size W W' → Kp W W' → I pre W' → Ra x a' W' → K a' W') →
      assign.wpIn (F.inRound l) (n - 1 - 1) P (Exit.then K (fun _ _ _ => False)) { tmps := (ps.zip (encs x)).foldl (fun t (p, v) => t.setIfInBounds p v) a.tmps, defers := [] } W)
    (hbody : ∀ (l : Nat) (pre : List α) (x : α) (a' : Act) (W : World), I pre W → pre.length < N → Ra x a' W → body.wpIn (F.inRound l) (n - 1 - 1) P (ownPostG w.heap.size Kp I Ix (pre ++ [x]) W) a' W)
    (hdone : ∀ (D : Nat) (xs : List α) (W : World), w.heap.size ≤ D → S xs → I xs W → W.heap[D]? = some (.deferred (some [])) → Q .normal { a with defers := { target := .collected D, args := #[] } :: a.defers } W)
    (hstop : ∀ (D : Nat) (c : Code) (pre : List α) (W : World), w.heap.size ≤ D → Sp pre → Ix c pre W → W.heap[D]? = some (.deferred (some [])) → c.wpIn F n P Q { a with defers := { target := .collected D, args := #[] } :: a.defers } W) :
    (Code.rangeFunc g ps assign body).wpIn F n P Q a w := by
  refine wpIn_rangeFunc fun fn hfn => ?_
  rw [hro]
  let L : LoopState → Option Code → Obj := fun st pe => .loop { state := st, pending := pe, fn, tmps := a.tmps, params := ps, assign, body, defers := w.heap.size }
  let D : Obj := .deferred (some [])
  obtain ⟨W1, hW1⟩ : ∃ W1, (w.alloc D).alloc (L .ready none) = W1 := ⟨_, rfl⟩
  have hz : W1.heap.size = w.heap.size + 2 := by rw [← hW1]; simp
  have hL : W1.heap[w.heap.size + 1]? = some (L .ready none) := by rw [← hW1]; have h := World.alloc_heap_new (w.alloc D) (L .ready none); rwa [World.size_alloc] at h
  have hD : W1.heap[w.heap.size]? = some D := by rw [← hW1]; exact (Below.heap_alloc _ _ _ (by simp)).trans (World.alloc_heap_new w D)
  refine ⟨w.heap.size + 1, [{ target := .collected w.heap.size, args := #[] }], W1, { target := .fn (.func gf) lb, args := #[.func (.yield (w.heap.size + 1)) #[] #[]] }, W1, gf,
    #[.func (.yield (w.heap.size + 1)) #[] #[]] ++ lb, W1, by rw [← hW1]; exact run_enterLoop_outer _ _ _ _ _, by simp only [resolve, hg]; simp [go_sem], ?_, by simp [invoke, go_sem, eg], fun _ => hn, ?_⟩
  · intro f' hf'; simp [Target.leads] at hf'; subst hf'; exact hF
  have up : ∀ {β : Type} {J : β → World → Prop}, Mild Ok w.heap.size J → Mild Ok W1.heap.size J := fun h => h.up (by omega)
  have m1 : ∀ (o : Obj), Mild Ok W1.heap.size (fun (_ : List α) W => W.heap[w.heap.size + 1]? = some o) := fun o => mild_block (by omega)
  have m0 : Mild Ok W1.heap.size (fun (_ : List α) W => W.heap[w.heap.size]? = some D) := mild_block (by omega)
  refine (hseq (w.heap.size + 1)
    (fun pre W => I pre W ∧ W.heap[w.heap.size + 1]? = some (L .ready none) ∧ W.heap[w.heap.size]? = some D)
    (fun pre W => ∃ c, Ix c pre W ∧ W.heap[w.heap.size + 1]? = some (L .done (some c)) ∧ W.heap[w.heap.size]? = some D) W1
    (by rw [← hW1]; exact hw0.trans ((((Below.refl _ w).alloc (Nat.le_refl _) _).alloc (by simp) _).mono hw0.size))
    ((up hI).and ((m1 _).and m0)) (fun s A B row ⟨c, h1, h2, h3⟩ hgr hr => ⟨c, up (hIx c) s A B row h1 hgr hr, m1 _ s A B row h2 hgr hr, m0 s A B row h3 hgr hr⟩)
    ?_ ⟨by rw [← hW1]; exact hI.alloc (hI.alloc h0 _) _, hL, hD⟩).mono ?_
  · -- a round
    rintro pre x V0 ⟨hi0, hl0, hd0⟩ hlen
    refine ⟨fn, _, assign, body, run_yield (P := P) (args := encs x) hl0 (hps x), roundIn_of_wpIn hfn (hassign _ pre x V0 _ hi0 fun a' V hkf hkp0 hi hra => ?_)⟩
    have hl := hkf.same _ _ (by omega) hl0 rfl
    have hd := hkf.same _ _ (Nat.le_refl _) hd0 rfl
    have hlt : w.heap.size + 1 < V.heap.size := (Array.getElem?_eq_some_iff.1 hl).1
    refine ⟨_, run_beginRound hl rfl, ?_⟩
    obtain ⟨V2, hV2⟩ : ∃ V2, V.putObj (w.heap.size + 1) (L .busy none) = V2 := ⟨_, rfl⟩
    have hl2 : V2.heap[w.heap.size + 1]? = some (L .busy none) := by rw [← hV2]; exact World.putObj_heap_same hlt
    have hd2 : V2.heap[w.heap.size]? = some D := by rw [← hV2]; exact (World.putObj_heap_other (by omega)).trans hd
    have hk2 : Kp V0 V2 := by rw [← hV2]; exact hKt hkp0 (hKb _ _ _ _ (by omega) hl rfl rfl)
    have hi2 : I pre V2 := by rw [← hV2]; exact hI.put hOk hi _ hl rfl (by omega)
    have hra2 : Ra x a' V2 := by rw [← hV2]; exact hRa _ _ _ _ _ _ (by omega) hl rfl hra
    show Code.wpIn _ _ _ _ _ _ (V.putObj (w.heap.size + 1) (L .busy none))
    rw [hV2]
    clear hV2 hl hd hi hlt
    refine wpIn_mono (hbody _ pre x a' V2 hi2 hlen hra2) ?_
    have fin : ∀ (jump : Option Code) (V3 : World), KeepsFrom w.heap.size V2 V3 → V3.heap[w.heap.size + 1]? = some (L .busy none) ∧ ∃ V4, V4 = V3.putObj (w.heap.size + 1) (L (if jump.isNone then .ready else .done) jump) ∧
        (Instr.endRound (w.heap.size + 1) jump).run P V3 = .ok (.bool jump.isNone) V4 ∧ V4.heap[w.heap.size + 1]? = some (L (if jump.isNone then .ready else .done) jump) ∧ V4.heap[w.heap.size]? = some D := fun jump V3 hk => by
      have h1 := hk.same _ _ (by omega) hl2 rfl
      exact ⟨h1, _, rfl, run_endRound (P := P) jump h1, World.putObj_heap_same (Array.getElem?_eq_some_iff.1 h1).1, (World.putObj_heap_other (by omega)).trans (hk.same _ _ (Nat.le_refl _) hd2 rfl)⟩
    have out : ∀ (c : Code) (V3 : World), KeepsFrom w.heap.size V2 V3 → Ix c (pre ++ [x]) V3 → ∃ r V4, (Instr.endRound (w.heap.size + 1) (some c)).run P V3 = .ok r V4 ∧ (Ending.returned r = .returned (.bool false) ∧ ∃ c, Ix c (pre ++ [x]) V4 ∧ V4.heap[w.heap.size + 1]? = some (L .done (some c)) ∧ V4.heap[w.heap.size]? = some D) := fun c V3 hk hi => by
      obtain ⟨h3, V4, rfl, hr, h4, h5⟩ := fin (some c) V3 hk
      exact ⟨_, _, hr, rfl, c, (hIx c).put hOk hi _ h3 rfl (by omega), h4, h5⟩
    rintro e a3 V3 hp
    cases e with
    | normal =>
      obtain ⟨hk, hkp, hi⟩ := hp
      obtain ⟨h3, V4, rfl, hr, h4, h5⟩ := fin none V3 hk
      exact ⟨_, _, hr, .inl ⟨rfl, ⟨hI.put hOk hi _ h3 rfl (by omega), h4, h5⟩, hKt (hKt hk2 hkp) (hKb _ _ _ _ (by omega) h3 rfl rfl)⟩⟩
    | ret => obtain ⟨r, V4, hr, h⟩ := out .ret V3 hp.1 hp.2; exact ⟨r, V4, hr, .inr h⟩
    | exit id => obtain ⟨r, V4, hr, h⟩ := out (.exit id) V3 hp.1 hp.2; exact ⟨r, V4, hr, .inr h⟩
    | goto t => obtain ⟨r, V4, hr, h⟩ := out (.goto t) V3 hp.1 hp.2; exact ⟨r, V4, hr, .inr h⟩
    | panic ch => exact hp.elim
    | outgrown => exact hp.elim
  · -- behind the iterator
    rintro e W2 ⟨⟨v, rfl⟩, ⟨xs, hS, hi, hl, hd⟩ | ⟨pre, hSp, c, hi, hl, hd⟩⟩
    · exact ⟨none, _, run_endLoop (P := P) hl (by simp), hdone _ xs _ (Nat.le_refl _) hS (hI.put hOk hi _ hl rfl (by omega)) ((World.putObj_heap_other (by omega)).trans hd)⟩
    · exact ⟨some c, _, run_endLoop (P := P) hl (by simp), hstop _ c pre _ (Nat.le_refl _) hSp ((hIx c).put hOk hi _ hl rfl (by omega)) ((World.putObj_heap_other (by omega)).trans hd)⟩
end Go.Proofs.YtdmiekaeodcehaaGreat

namespace Go.Proofs.YtdmiekaeodcehaaGreat
open Go.RowKit Go.Shelf
attribute [local go_sem] Oper.semAt_some

namespace Tm
mutual
def pre : Tm → Nat → Nat → List (Nat × Nat × Tm)
  | .mk b k i a, s, d => (s + b.length, d, .mk b k i a) :: pres a (s + b.length) (d + 1)
def pres : List Tm → Nat → Nat → List (Nat × Nat × Tm)
  | [], _, _ => []
  | t :: l, s, d => pre t s d ++ pres l s d
end
theorem pre_eq (b : List Ty) (k i : Int) (a : List Tm) (s d : Nat) : pre (.mk b k i a) s d = (s + b.length, d, .mk b k i a) :: pres a (s + b.length) (d + 1) := by rw [pre]
theorem pres_append (l r : List Tm) (s d : Nat) : pres (l ++ r) s d = pres l s d ++ pres r s d := by
  induction l with
  | nil => simp [pres]
  | cons t l ih => simp [pres, ih]
theorem pres_take (l : List Tm) (i s d : Nat) (h : i < l.length) : pres (l.take (i + 1)) s d = pres (l.take i) s d ++ pre l[i] s d := by
  rw [List.take_succ_eq_append_getElem h, pres_append]; simp [pres]
theorem pres_take_le (l : List Tm) (i s d : Nat) : pres (l.take i) s d <+: pres l s d := by
  conv => rhs; rw [← List.take_append_drop i l]
  rw [pres_append]; exact List.prefix_append _ _
theorem pres_length_of {l : List Tm} (h : ∀ t ∈ l, ∀ s d, (pre t s d).length = t.size) : ∀ s d, (pres l s d).length = sizes l := by
  induction l with
  | nil => intro s d; simp [pres, sizes]
  | cons t l ih => intro s d; simp [pres, sizes, h t (by simp) s d, ih (fun u hu => h u (by simp [hu])) s d]
theorem pre_length (t : Tm) : ∀ s d, (pre t s d).length = t.size := by
  induction t using Tm.ind with
  | h b k i a ih => intro s d; simp [pre_eq, size_eq, pres_length_of ih]
theorem pres_length (l : List Tm) (s d : Nat) : (pres l s d).length = sizes l := pres_length_of (fun t _ => pre_length t) s d
end Tm

structure Hit6 (F : Nat → Prop) (w : World) where
  s : Nat
  d : Nat
  pb : Option Addr
  cb : Nat
  pa : Option Addr
  ca : Nat
  t : Tm
  ok : IsTm F w (.slice pb t.binds.length cb) (.int .i64 t.kind) (.int .i64 t.index) (.slice pa t.args.length ca) t
def Hit6.key {F : Nat → Prop} {w : World} (x : Hit6 F w) : Nat × Nat × Tm := (x.s, x.d, x.t)
def Hit6.enc {F : Nat → Prop} {w : World} (x : Hit6 F w) : Array Value := #[.agg #[.int .i64 x.s, .int .i64 x.d], .agg #[.slice x.pb x.t.binds.length x.cb, .int .i64 x.t.kind, .int .i64 x.t.index, .slice x.pa x.t.args.length x.ca]]

def DownPost6 {F : Nat → Prop} {w0 : World} (G : Nat → TypeId → Prop) (J Jx : List (Hit6 F w0) → World → Prop) (pre : List (Hit6 F w0)) (l : List (Nat × Nat × Tm)) (W : World) (e : Ending) (W' : World) : Prop :=
  (e = .returned (.bool true) ∧ KeepC G W W' ∧ ∃ xs, xs.map Hit6.key = l ∧ J (pre ++ xs) W') ∨ (e = .returned (.bool false) ∧ ∃ xs, xs.map Hit6.key <+: l ∧ Jx (pre ++ xs) W')

def SpotOk (o : Obj) : Prop := o.isCells = false ∨ ∃ cs fr, o = .cells cs 149 fr
theorem KeepC.setNew {G : Nat → TypeId → Prop} {A B : World} (h : KeepC G A B) (p : Addr) (u : Value) (hp : A.heap.size ≤ p.block) : KeepC G A (B.setCell p u) :=
  ⟨by simpa using h.size, fun k cs t fr hk hc => by
    have hlt : k < A.heap.size := (Array.getElem?_eq_some_iff.1 hc).1
    exact (Below.heap_setCell _ _ _ _ (fun e => by omega)).trans (h.cells k cs t fr hk hc)⟩
theorem Mild.setSpot {β : Type} {B : Nat} {J : β → World → Prop} (h : Mild SpotOk B J) {s : β} {W : World} (hs : J s W) {n i : Nat} {cs : Array Value} (u : Value) (hb : Blk W n cs 149) (hB : B ≤ n) : J s (W.setCell ⟨n, i, none⟩ u) :=
  h s W _ (some n) hs ⟨rfl, rfl, rfl, by simp, fun k _ hk => Below.heap_setCell _ _ _ _ (fun e => hk (by rw [e]))⟩ (fun r e => by cases e; exact ⟨hB, _, hb, .inr ⟨_, _, rfl⟩⟩)

set_option maxRecDepth 100000 in
set_option maxHeartbeats 1000000 in
theorem down6_k {F : Nat → Prop} {w0 : World} (G : Nat → TypeId → Prop) (hGF : ∀ k t, F k → k < w0.heap.size → G k t) (l N B0 : Nat) (hN0 : N ≤ 9000000) (J Jx : List (Hit6 F w0) → World → Prop) (hJ : Mild SpotOk B0 J)
    (hY : ∀ m pre x W, J pre W → pre.length < N → YieldAt Fence.wide m Tryz.prog l (Hit6.enc x) W fun e W' =>
      (e = .returned (.bool true) ∧ J (pre ++ [x]) W' ∧ KeepC G W W') ∨ (e = .returned (.bool false) ∧ Jx (pre ++ [x]) W')) :
    ∀ t : Tm, ∀ {b k i a : Value} (_ : IsTm F w0 b k i a t) (n s d : Nat) (si di : Int) (pre : List (Hit6 F w0)) (W : World), si = s → di = d → (∀ k t, W.heap.size ≤ k → t ≠ 3 → G k t) → B0 ≤ W.heap.size → Keep F w0 W → J pre W → pre.length + t.size ≤ N → d + t.depth ≤ 9000000 → s + t.full ≤ 9000000 →
      CallsIn Fence.wide n Tryz.prog 126 #[.agg #[b, k, i, a], .agg #[.int .i64 si, .int .i64 di], .func (.yield l) #[] #[]] W (DownPost6 G J Jx pre (t.pre s d) W) := Tm.ind fun binds k0 i0 args ih => by
  intro b k i a ht nn s d si di pre W hsi hdi hG hB0 hw hJ0 hN hd hs
  subst hsi hdi
  obtain ⟨pa, pc, qa, qc, rfl, rfl, rfl, rfl⟩ := ht.shape
  simp only [Tm.binds, Tm.kind, Tm.index, Tm.args] at ht ⊢
  obtain ⟨_, _, _, hsl⟩ := ht.inv
  simp only [Tm.args] at hsl
  obtain ⟨_, hm, bl, off, PA, A, PN, PC, N', C, Kd, Ix, ha, h1, h2, h3, h4, h5⟩ := sl_cells6 hsl
  have hdd : ∀ k : Nat, (Fence.wide.depth.isSome = true → 1 ≤ k) := fun k h => by cases h
  have hlen : args.length ≤ 9000000 := by have := Tm.len_sizes args; rw [Tm.size_eq] at hN; omega
  have hbl : s + binds.length ≤ 9000000 := by have := Ty.le_sizes binds; rw [Tm.full_eq] at hs; omega
  have hq1 : IntKind.i64.wrap ((s : Int) + (binds.length : Int)) = (s : Int) + (binds.length : Int) := IntWalk.i64_in _ (by omega)
  have hdb : (d : Int) ≤ 9000000 := by omega
  have hq2 : IntKind.i64.wrap ((d : Int) + 1) = (d : Int) + 1 := IntWalk.i64_in _ (by omega)
  obtain ⟨W1, hW1⟩ : ∃ W1, (W.alloc (.cells #[.slice pa binds.length pc, .int .i64 k0, .int .i64 i0, .slice qa args.length qc] 36)).alloc (.cells #[.int .i64 ((s : Int) + (binds.length : Int)), .int .i64 d] 149) = W1 := ⟨_, rfl⟩
  have hJ1 : J pre W1 := by rw [← hW1]; exact hJ.alloc (hJ.alloc hJ0 _) _
  have xt : Blk W1 W.heap.size #[.slice pa binds.length pc, .int .i64 k0, .int .i64 i0, .slice qa args.length qc] 36 := by rw [← hW1]; exact (Blk.new _ _ _ rfl).alloc _
  have xs : Blk W1 (W.heap.size + 1) #[.int .i64 ((s : Int) + (binds.length : Int)), .int .i64 d] 149 := by rw [← hW1]; exact Blk.new _ _ _ (by simp)
  have hz1 : W1.heap.size = W.heap.size + 2 := by rw [← hW1]; simp
  have hk0 : KeepC G W W1 := by rw [← hW1]; exact ((KeepC.refl G W).alloc _).alloc _
  obtain ⟨X, hX⟩ : ∃ X : Hit6 F w0, X = ⟨s + binds.length, d, pa, pc, qa, qc, .mk binds k0 i0 args, ht⟩ := ⟨_, rfl⟩
  have hkey : X.key = (s + binds.length, d, .mk binds k0 i0 args) := by rw [hX]; rfl
  obtain ⟨fn, tmps, assign, body, hy, hR⟩ := hY (nn - 1) pre X W1 hJ1 (by have := Tm.size_pos (.mk binds k0 i0 args); omega)
  have henc : X.enc = #[.agg #[.int .i64 ((s : Int) + (binds.length : Int)), .int .i64 d], .agg #[.slice pa binds.length pc, .int .i64 k0, .int .i64 i0, .slice qa args.length qc]] := by rw [hX]; simp [Hit6.enc, Tm.binds, Tm.kind, Tm.index, Tm.args]
  rw [henc] at hy
  clear hX henc ht hsl
  refine callsIn_of_wp Tryz.func126 rfl trivial ?_ rfl
  simp only [Tryz.ntmps126, List.size_toArray, List.length_cons, List.length_nil, Nat.reduceAdd, Nat.reduceSub, Array.replicate_succ, Array.replicate_zero, List.push_toArray, List.append_toArray, List.nil_append, List.cons_append]
  have c0 : W1.cell? ⟨W.heap.size, 0, none⟩ = some (.slice pa binds.length pc) := xt.cell rfl
  have c1 : W1.cell? ⟨W.heap.size, 1, none⟩ = some (.int .i64 k0) := xt.cell rfl
  have c2 : W1.cell? ⟨W.heap.size, 2, none⟩ = some (.int .i64 i0) := xt.cell rfl
  have c3 : W1.cell? ⟨W.heap.size, 3, none⟩ = some (.slice qa args.length qc) := xt.cell rfl
  have s0 : W1.cell? ⟨W.heap.size + 1, 0, none⟩ = some (.int .i64 ((s : Int) + (binds.length : Int))) := xs.cell rfl
  have s1 : W1.cell? ⟨W.heap.size + 1, 1, none⟩ = some (.int .i64 d) := xs.cell rfl
  gi_wp2_with fail
  clear hW1
  refine ⟨hdd _, hR.mono ?_⟩
  clear c0 c1 c2 c3 s0 s1
  rintro e W2 (⟨rfl, hJ2, hk1⟩ | ⟨rfl, hx1⟩)
  rotate_left
  · gi_wp2_with fail
    go_ret
    exact .inr ⟨rfl, [X], ⟨Tm.pres args (s + binds.length) (d + 1), by simp [hkey, Tm.pre_eq]⟩, hx1⟩
  have yt : Blk W2 W.heap.size _ _ := hk1.blk xt (hG _ _ (Nat.le_refl _) (by decide))
  have ys : Blk W2 (W.heap.size + 1) _ _ := hk1.blk xs (hG _ _ (by omega) (by decide))
  have c0 : W2.cell? ⟨W.heap.size, 0, none⟩ = some (.slice pa binds.length pc) := yt.cell rfl
  have c1 : W2.cell? ⟨W.heap.size, 1, none⟩ = some (.int .i64 k0) := yt.cell rfl
  have c2 : W2.cell? ⟨W.heap.size, 2, none⟩ = some (.int .i64 i0) := yt.cell rfl
  have c3 : W2.cell? ⟨W.heap.size, 3, none⟩ = some (.slice qa args.length qc) := yt.cell rfl
  have s1 : W2.cell? ⟨W.heap.size + 1, 1, none⟩ = some (.int .i64 d) := ys.cell rfl
  have f1 := ys.free 1
  gi_wp2_with fail
  obtain ⟨W3, hW3⟩ : ∃ W3, W2.setCell ⟨W.heap.size + 1, 1, none⟩ (.int .i64 ((d : Int) + 1)) = W3 := ⟨_, rfl⟩
  have hJ3 : J (pre ++ [X]) W3 := by rw [← hW3]; exact hJ.setSpot hJ2 _ ys (by omega)
  have hk3 : KeepC G W W3 := by rw [← hW3]; exact (hk0.trans hk1).setNew _ _ (by simp)
  have xt3 : Blk W3 W.heap.size #[.slice pa binds.length pc, .int .i64 k0, .int .i64 i0, .slice qa args.length qc] 36 := by rw [← hW3]; exact yt.far _ _ (by simp)
  have xs3 : Blk W3 (W.heap.size + 1) #[.int .i64 ((s : Int) + (binds.length : Int)), .int .i64 ((d : Int) + 1)] 149 := by rw [← hW3]; exact ys.set 1 _
  try rw [hW3]
  clear hW3 c0 c1 c2 c3 s1 f1 hJ2 hk1 yt ys hk0 xt xs hJ1 hR hy hY hz1
  have Hih := Lib.hid ih; clear ih
  have HG := Lib.hid hG; clear hG
  have HN := Lib.hid hN; clear hN
  have Hd := Lib.hid hd; clear hd
  have Hs := Lib.hid hs; clear hs
  gi_loopw [8, 28] (fun _ i wr => ∃ (k : Nat) (xs : List (Hit6 F w0)), i = .int .i64 k ∧ k ≤ args.length ∧ Hid (xs.map Hit6.key = Tm.pres (args.take k) (s + binds.length) (d + 1)) ∧ J (pre ++ [X] ++ xs) wr ∧ KeepC G W wr ∧
      Blk wr W.heap.size #[.slice pa binds.length pc, .int .i64 k0, .int .i64 i0, .slice qa args.length qc] 36 ∧ Blk wr (W.heap.size + 1) #[.int .i64 ((s : Int) + (binds.length : Int)), .int .i64 ((d : Int) + 1)] 149) (fun _ i _ => args.length - (intOf i).toNat)
  case atStart => exact ⟨0, [], rfl, by omega, by simp [Hid, Tm.pres], by simpa using hJ3, hk3, xt3, xs3⟩
  case round =>
    clear hJ3 hk3 xt3 xs3
    obtain ⟨k, xs, rfl, hk, hxs, hJr, hkr, hbt, hbs⟩ := hrel
    have Hkr := Lib.hid hkr
    have HJr := Lib.hid hJr; clear hJr
    have hsz := hkr.size
    have hsb := hbs.lt
    have s0 : wr.cell? ⟨W.heap.size + 1, 0, none⟩ = some (.int .i64 ((s : Int) + (binds.length : Int))) := hbs.cell rfl
    have s1 : wr.cell? ⟨W.heap.size + 1, 1, none⟩ = some (.int .i64 ((d : Int) + 1)) := hbs.cell rfl
    by_cases hlt : k < args.length
    · obtain ⟨rfl, hF⟩ := ha (by omega)
      have hKp : Keep F w0 wr := hkr.keep' hw hGF
      have e1 := hKp _ _ _ hF (h1 k hlt)
      have e2 := hKp _ _ _ hF (h2 k hlt)
      have e3 := hKp _ _ _ hF (h3 k hlt)
      have e4 := hKp _ _ _ hF (h4 k hlt)
      have hs1 := Lib.hid (Tm.sizes_take args k hlt)
      have hs2 := Lib.hid (Tm.sizes_take_le args (k + 1))
      have hl : Hid (xs.length = Tm.sizes (args.take k)) := by
        show _ = _
        have := congrArg List.length hxs.out
        rw [List.length_map] at this
        rw [this, Tm.pres_length]
      have hz : pre.length + 1 + xs.length + args[k].size ≤ N := by have := HN.out; have := hl.out; have := hs1.out; have := hs2.out; rw [Tm.size_eq] at *; omega
      gi_wp2_with fail
      refine ⟨trivial, hdd _, (Hih.out args[k] (List.getElem_mem hlt) (h5 k hlt) (nn - 1) (s + binds.length) (d + 1) ((s : Int) + (binds.length : Int)) ((d : Int) + 1) (pre ++ [X] ++ xs) _ (by omega) (by omega) (fun q t hq ht => HG.out q t (by simp at hq; omega) ht) (by simp; omega) (hKp.alloc _) (hJ.alloc HJr.out _) (by simp; omega) ?_ ?_).mono ?_⟩
      · have := Hd.out; have := Tm.depth_mem (List.getElem_mem hlt); rw [Tm.depth_eq] at *; omega
      · have := Hs.out; have := Tm.full_mem (List.getElem_mem hlt); have := Ty.le_sizes binds; rw [Tm.full_eq] at *; omega
      rintro e W2 (⟨rfl, hk2, ys, hys, hJ2⟩ | ⟨rfl, ys, hys, hx2⟩)
      · have HJ2 := Lib.hid hJ2; clear hJ2
        have Hys := Lib.hid hys; clear hys
        have hbt2 := hk2.blk (hbt.alloc _) (HG.out _ _ (Nat.le_refl _) (by decide))
        have hbs2 := hk2.blk (hbs.alloc _) (HG.out _ _ (by omega) (by decide))
        gi_wp2_with fail
        go_roundw
        case rel => exact ⟨k + 1, xs ++ ys, by go_num, by omega, by show _ = _; rw [List.map_append, hxs.out, Hys.out, Tm.pres_take _ _ _ _ hlt], by rw [← List.append_assoc]; exact HJ2.out, (Hkr.out.alloc _).trans hk2, hbt2, hbs2⟩
        case measure => simp [intOf]; omega
      · have Hys := Lib.hid hys; clear hys
        have Hx2 := Lib.hid hx2; clear hx2
        gi_wp2_with fail
        go_ret
        refine .inr ⟨rfl, X :: (xs ++ ys), ?_, by simpa using Hx2.out⟩
        obtain ⟨r, hr⟩ := Hys.out
        have hp := Tm.pres_take args k (s + binds.length) (d + 1) hlt
        rw [← hr] at hp
        obtain ⟨q, hq⟩ := Tm.pres_take_le args (k + 1) (s + binds.length) (d + 1)
        refine ⟨r ++ q, ?_⟩
        simp only [Tm.pre_eq, List.map_cons, List.map_append, hkey, List.cons_append]
        rw [← hq, hp, ← hxs.out]
        simp
    · gi_wp2_with fail
      go_ret
      refine .inl ⟨rfl, Hkr.out, X :: xs, ?_, by simpa using HJr.out⟩
      have h := hxs.out
      rw [List.take_of_length_le (by omega)] at h
      simp [Tm.pre_eq, hkey, ← h]

theorem each61_k {F : Nat → Prop} {w0 : World} (G : Nat → TypeId → Prop) (hGF : ∀ k t, F k → k < w0.heap.size → G k t) (l : Nat) (J Jx : List (Hit6 F w0) → World → Prop)
    {b k i a : Value} {t : Tm} (ht : IsTm F w0 b k i a t) (hsz : t.full ≤ 4400000) (n : Nat) (W : World) (hJ : Mild SpotOk W.heap.size J)
    (hY : ∀ pre x V, J pre V → pre.length < t.size → YieldAt Fence.wide (n - 1) Tryz.prog l (Hit6.enc x) V fun e W' =>
      (e = .returned (.bool true) ∧ J (pre ++ [x]) W' ∧ KeepC G V W') ∨ (e = .returned (.bool false) ∧ Jx (pre ++ [x]) W'))
    (hG : ∀ k t, W.heap.size ≤ k → t ≠ 3 → G k t) (hw : Keep F w0 W) (Bt : Nat) (c0 : W.cell? ⟨Bt, 0, none⟩ = some b) (c1 : W.cell? ⟨Bt, 1, none⟩ = some k) (c2 : W.cell? ⟨Bt, 2, none⟩ = some i) (c3 : W.cell? ⟨Bt, 3, none⟩ = some a) (h0 : J [] W) :
    CallsIn Fence.wide n Tryz.prog 125 #[.func (.yield l) #[] #[], .pointer (some ⟨Bt, 0, none⟩)] W fun e W' => (∃ v, e = .returned v) ∧
      ((∃ ys, List.map Hit6.key ys = t.pre 0 1 ∧ J ys W') ∨ (∃ pre, List.map Hit6.key pre <+: t.pre 0 1 ∧ Jx pre W')) := by
  have hdd : ∀ k : Nat, (Fence.wide.depth.isSome = true → 1 ≤ k) := fun k h => by cases h
  have hf := Tm.size_le_full t
  have hp := Lib.hid (down6_k G hGF l t.size W.heap.size (by omega) J Jx hJ (fun m pre x V hj hl => yield_any rfl m (hY pre x V hj hl)) t ht (n - 1) 0 1 0 1 [] W rfl rfl hG (Nat.le_refl _) hw h0 (by simp) (by have := Tm.depth_le_size t; omega) (by omega))
  clear hG hY
  obtain ⟨pa, pc, qa, qc, rfl, rfl, rfl, rfl⟩ := ht.shape
  refine callsIn_of_wp Tryz.func125 rfl trivial ?_ rfl
  simp only [Tryz.ntmps125, List.size_toArray, List.length_cons, List.length_nil, Nat.reduceAdd, Nat.reduceSub, Array.replicate_succ, Array.replicate_zero, List.push_toArray, List.append_toArray, List.nil_append, List.cons_append]
  gi_wp2_with fail
  refine ⟨trivial, hdd _, hp.out.mono ?_⟩
  rintro e W1 (⟨rfl, hk, ys, hys, hJ1⟩ | ⟨rfl, ys, hys, hx⟩)
  · have A1 := Lib.hid hys; clear hys
    gi_wp2_with fail
    go_end0
    exact ⟨⟨_, rfl⟩, .inl ⟨ys, A1.out, by simpa using hJ1⟩⟩
  · have A1 := Lib.hid hys; clear hys
    gi_wp2_with fail
    go_end0
    exact ⟨⟨_, rfl⟩, .inr ⟨ys, A1.out, by simpa using hx⟩⟩

theorem each6_soft {F : Nat → Prop} {w0 : World} (G : Nat → TypeId → Prop) (hGF : ∀ k t, F k → k < w0.heap.size → G k t) {b k i a : Value} {t : Tm} (ht : IsTm F w0 b k i a t) (hsz : t.full ≤ 4400000) (n : Nat)
    (w : World) (hG : ∀ k t, w.heap.size ≤ k → t ≠ 3 → G k t) (hw : Keep F w0 w) (Bt : Nat) (hB : Blk w Bt #[b, k, i, a] 36) :
    SeqSoft SpotOk Fence.wide n Tryz.prog 125 #[.pointer (some ⟨Bt, 0, none⟩)] (Hit6.enc (F := F) (w := w0)) (KeepC G) (fun ys => ys.map Hit6.key = t.pre 0 1) (fun p => p.map Hit6.key <+: t.pre 0 1) t.size w :=
  fun l J Jx W hW hJ _ hY h0 => by
    have hB' := hB.below hW
    exact each61_k G hGF l J Jx ht hsz n W hJ hY (fun k t hk ht => hG k t (Nat.le_trans hW.size hk) ht) (hw.below hW) Bt (hB'.cell rfl) (hB'.cell rfl) (hB'.cell rfl) (hB'.cell rfl) h0

theorem each6_k (b k i a : Value) (n : Nat) (w : World) (hs : ∃ p m c, b = .slice p m c) (hk : ∃ x, k = .int .i64 x) (hi : ∃ x, i = .int .i64 x) (ha : ∃ p m c, a = .slice p m c) :
    CallsIn Fence.wide n Tryz.prog 100 #[.agg #[b, k, i, a]] w fun e w' => e = .returned (.func (.func 125) #[] #[.pointer (some ⟨w.heap.size, 0, none⟩)]) ∧ w' = w.alloc (.cells #[b, k, i, a] 36) := by
  obtain ⟨pb, mb, cb, rfl⟩ := hs
  obtain ⟨kx, rfl⟩ := hk
  obtain ⟨ix, rfl⟩ := hi
  obtain ⟨pa, ma, ca, rfl⟩ := ha
  refine callsIn_of_wp Tryz.func100 rfl trivial ?_ rfl
  simp only [Tryz.ntmps100, List.size_toArray, List.length_cons, List.length_nil, Nat.reduceAdd, Nat.reduceSub, Array.replicate_succ, Array.replicate_zero, List.push_toArray, List.append_toArray, List.nil_append, List.cons_append]
  gi_wp2_with fail
  go_ret
  exact ⟨rfl, rfl⟩
end Go.Proofs.YtdmiekaeodcehaaGreat

namespace Go.Proofs.YtdmiekaeodcehaaGreat
open Go.RowKit Go.Shelf
attribute [local go_sem] Oper.semAt_some

theorem spot_int {W : World} {n : Nat} {cs : Array Value} {T : TypeId} (hT : T ≠ 149) {W' : World} {B : Nat} {row : Option Nat} (h : Blk W n cs T) (hg : W.grownBy W' row) (hr : ∀ r, row = some r → B ≤ r ∧ ∃ o : Obj, W.heap[r]? = some o ∧ SpotOk o) : Blk W' n cs T :=
  h.grown hg fun e => by
    obtain ⟨_, o, ho, h'⟩ := hr _ e
    have hb : W.heap[n]? = _ := h
    rw [hb] at ho; cases ho
    rcases h' with h' | ⟨cs', fr, h'⟩
    · simp [Obj.isCells] at h'
    · cases h'; exact hT rfl
theorem mild_blk {β : Type} {n B : Nat} {T : TypeId} (hT : T ≠ 149) (f : β → Array Value) : Mild SpotOk B (fun s W => Blk W n (f s) T) := fun _ _ _ _ hs hg hr => spot_int hT hs hg hr

end Go.Proofs.YtdmiekaeodcehaaGreat

namespace Go.Proofs.YtdmiekaeodcehaaGreat
open Go.RowKit Go.Shelf
attribute [local go_sem] Oper.semAt_some

namespace Tm
theorem pres_depth_of {l : List Tm} (h : ∀ t ∈ l, ∀ s d m, (∀ p ∈ pre t s d, p.2.1 ≤ m) ↔ d + t.depth ≤ m + 1) : ∀ s d m, d ≤ m + 1 → ((∀ p ∈ pres l s d, p.2.1 ≤ m) ↔ d + depths l ≤ m + 1) := by
  intro s d m hd
  induction l with
  | nil => simp [pres, depths, hd]
  | cons t l ih =>
    have h1 := h t (by simp) s d m
    have h2 := ih (fun u hu => h u (by simp [hu]))
    simp only [pres, depths, List.mem_append]
    constructor
    · intro h3
      have a := h1.1 fun p hp => h3 p (.inl hp)
      have b := h2.1 fun p hp => h3 p (.inr hp)
      omega
    · intro h3 p hp
      rcases hp with hp | hp
      · exact h1.2 (by omega) p hp
      · exact h2.2 (by omega) p hp
theorem pre_depth (t : Tm) : ∀ s d m, (∀ p ∈ pre t s d, p.2.1 ≤ m) ↔ d + t.depth ≤ m + 1 := by
  induction t using Tm.ind with
  | h b k i a ih =>
    intro s d m
    have h := pres_depth_of ih (s + b.length) (d + 1) m
    rw [pre_eq, depth_eq]
    simp only [List.mem_cons, forall_eq_or_imp]
    constructor
    · rintro ⟨h1, h2⟩
      have := (h (by omega)).1 h2
      omega
    · intro h1
      exact ⟨by omega, (h (by omega)).2 (by omega)⟩
end Tm

set_option maxRecDepth 100000 in
set_option maxHeartbeats 2000000 in
theorem right6_k {F : Nat → Prop} {w : World} {b k i a : Value} {t : Tm} (ht : IsTm F w b k i a t) (hsz : t.full ≤ 4400000) : Calls Tryz.prog 56 #[.agg #[b, k, i, a]] w (RetB (t.size ≤ 5000 ∧ t.depth ≤ 60) w) := by
  refine (callsIn_wide (n := 9)).1 ?_
  have Ht := Lib.hid (ht.weaken (F' := fun _ => True) fun _ _ _ => trivial)
  obtain ⟨pa, pc, qa, qc, rfl, rfl, rfl, rfl⟩ := ht.shape
  clear ht
  obtain ⟨x1, hx1⟩ : ∃ x, t.binds.length = x := ⟨_, rfl⟩
  obtain ⟨x2, hx2⟩ : ∃ x, t.args.length = x := ⟨_, rfl⟩
  obtain ⟨x3, hx3⟩ : ∃ x, t.kind = x := ⟨_, rfl⟩
  obtain ⟨x4, hx4⟩ : ∃ x, t.index = x := ⟨_, rfl⟩
  rw [hx1, hx2, hx3, hx4] at Ht ⊢
  clear hx1 hx2 hx3 hx4
  refine callsIn_of_wp_marks Tryz.func56 rfl trivial ?_ rfl
  simp only [Tryz.ntmps56, List.size_toArray, List.length_cons, List.length_nil, Nat.reduceAdd, Nat.reduceSub, Array.replicate_succ, Array.replicate_zero, List.push_toArray, List.append_toArray, List.nil_append, List.cons_append]
  gi_wp2_with fail
  refine ⟨trivial, (each6_k _ _ _ _ _ _ ⟨_, _, _, rfl⟩ ⟨_, rfl⟩ ⟨_, rfl⟩ ⟨_, _, _, rfl⟩).mono ?_⟩
  rintro e w' ⟨rfl, rfl⟩
  gi_wp2_with fail
  have hsz' := Lib.hid hsz
  have hfl := Tm.size_le_full t
  obtain ⟨w5, hw5⟩ : ∃ w5, (((w.alloc (.cells #[.slice pa x1 pc, .int .i64 x3, .int .i64 x4, .slice qa x2 qc] 36)).alloc (.cells #[.bool false] 4)).alloc (.cells #[.int .i64 0] 3)).alloc (.cells #[.slice pa x1 pc, .int .i64 x3, .int .i64 x4, .slice qa x2 qc] 36) = w5 := ⟨_, rfl⟩
  have hB0 : Below w.heap.size w w5 := by rw [← hw5]; exact ((((Below.refl _ w).alloc (Nat.le_refl _) _).alloc (by simp) _).alloc (by simp; omega) _).alloc (by simp; omega) _
  have hz : w5.heap.size = w.heap.size + 4 := by rw [← hw5]; simp
  have y1 : Blk w5 (w.heap.size + 1) #[.bool false] 4 := by rw [← hw5]; exact ((Blk.new _ _ _ (by simp)).alloc _).alloc _
  have y2 : Blk w5 (w.heap.size + 2) #[.int .i64 0] 3 := by rw [← hw5]; exact (Blk.new _ _ _ (by simp)).alloc _
  have y3 : Blk w5 (w.heap.size + 1 + 1 + 1) #[.slice pa x1 pc, .int .i64 x3, .int .i64 x4, .slice qa x2 qc] 36 := by rw [← hw5]; exact Blk.new _ _ _ (by simp)
  rw [hw5]
  clear hw5
  refine range_softA (Ok := SpotOk) (fun o h => .inl h) rfl (by omega) (gf := 125) (lb := #[.pointer (some ⟨w.heap.size + 1 + 1 + 1, 0, none⟩)]) rfl trivial (enters_of Tryz.func125 (by kernel_rfl) rfl)
    (each6_soft (But w.heap.size (w.heap.size + 3)) (fun k _ _ hk => .inl hk) Ht.out hsz (9 - 1) w5 (fun k _ hk _ => .inr (by omega)) ((Keep.refl _ _).below hB0) (w.heap.size + 1 + 1 + 1) y3)
    (fun h h' => h.trans h') (fun W l o o' _ hl ho _ => KeepC.putObj _ W l o o' hl ho) (Below.refl _ _) (fun _ => rfl)
    (fun pre W => (Blk W (w.heap.size + 1) #[.bool false] 4 ∧ Blk W (w.heap.size + 2) #[.int .i64 (pre.length : Int)] 3) ∧ (Hid (pre.length ≤ 5000 ∧ ∀ x ∈ pre, x.d ≤ 60) ∧ Below w.heap.size w W))
    (fun c pre W => (Blk W (w.heap.size + 1) #[.bool false] 4 ∧ Below w.heap.size w W) ∧ (c = .ret ∧ Hid (5000 < pre.length ∨ ∃ x ∈ pre, ¬ x.d ≤ 60)))
    (Mild.and (Mild.and (mild_blk (by decide) (fun (_ : List (Hit6 (fun _ => True) w)) => #[.bool false])) (mild_blk (by decide) (fun (pre : List (Hit6 (fun _ => True) w)) => #[.int .i64 (pre.length : Int)]))) (Mild.and (fun _ _ _ _ h _ _ => h) (mild_below (Nat.le_refl _) (by omega))))
    (fun c => Mild.and (Mild.and (mild_blk (by decide) (fun (_ : List (Hit6 (fun _ => True) w)) => #[.bool false])) (mild_below (Nat.le_refl _) (by omega))) (fun _ _ _ _ h _ _ => h))
    ⟨⟨y1, y2⟩, ⟨by simp, by simp⟩, hB0⟩
    (fun x a' W => ∃ Bx, w.heap.size + 2 < Bx ∧ Blk W Bx #[.int .i64 x.s, .int .i64 x.d] 149 ∧ a' = { tmps := #[.agg #[.slice pa x1 pc, .int .i64 x3, .int .i64 x4, .slice qa x2 qc], .pointer (some ⟨w.heap.size, 0, none⟩), .pointer (some ⟨w.heap.size + 1, 0, none⟩), .pointer (some ⟨w.heap.size + 1 + 1, 0, none⟩), .pointer (some ⟨Bx, 0, none⟩), .agg #[.slice pa x1 pc, .int .i64 x3, .int .i64 x4, .slice qa x2 qc], .func (.func 125) #[] #[.pointer (some ⟨w.heap.size + 1 + 1 + 1, 0, none⟩)], .agg #[.int .i64 x.s, .int .i64 x.d], .agg #[.slice x.pb x.t.binds.length x.cb, .int .i64 x.t.kind, .int .i64 x.t.index, .slice x.pa x.t.args.length x.ca], undef, undef, undef, undef, undef, undef, undef, undef, undef], defers := [] })
    (fun x a' W l o o' hl ho hoc => by
      rintro ⟨Bx, h1, h2, h3⟩
      refine ⟨Bx, h1, ?_, h3⟩
      have hne : l ≠ Bx := fun e => by
        subst e
        have hb : W.heap[l]? = _ := h2
        rw [hb] at ho; cases ho; simp [Obj.isCells] at hoc
      exact (World.putObj_heap_other (Ne.symm hne)).trans h2) ?assign ?body ?done ?stop
  case assign =>
    rintro l pre x W K ⟨⟨z1, z2⟩, hp, hB⟩ hK
    have HK := Lib.hid hK; clear hK
    have Hp := Lib.hid hp; clear hp
    simp only [Hit6.enc] at *
    gi_wp2
    have hs := hB.size
    exact HK.out _ _ ((KeepsOthers.alloc _ _).from _) ((KeepC.refl _ W).alloc _) ⟨⟨z1.alloc _, z2.alloc _⟩, Hp.out, hB.alloc hs _⟩ ⟨W.heap.size, z2.lt, Blk.new _ _ _ rfl, rfl⟩
  case body =>
    rintro l pre x a' W ⟨⟨z1, z2⟩, hp, hB⟩ hlt ⟨Bx, hBx, bX, rfl⟩
    have c1 : W.cell? ⟨w.heap.size + 1, 0, none⟩ = some (.bool false) := z1.cell rfl
    have f1 := z1.free 0
    have c2 : W.cell? ⟨w.heap.size + 1 + 1, 0, none⟩ = some (.int .i64 (pre.length : Int)) := z2.cell rfl
    have f2 := z2.free 0
    have cx : W.cell? ⟨Bx, 1, none⟩ = some (.int .i64 x.d) := bX.cell rfl
    have hlt2 : (pre.length : Int) ≤ 9000000 := by omega
    have hBn : ¬ (Bx = w.heap.size + 1 + 1) := by omega
    have Hp := Lib.hid hp.out; clear hp
    have hbd : Hid (Below w.heap.size w ((W.setCell ⟨w.heap.size + 1 + 1, 0, none⟩ (.int .i64 ((pre.length : Int) + 1))).setCell ⟨w.heap.size + 1, 0, none⟩ (.bool false))) := (hB.setCell (by simp; omega) _).setCell (by simp) _
    by_cases h2 : (5000 : Int) < (pre.length : Int) + 1
    · gi_wp2
      first
      | exact ⟨((KeepsOthers.setCell W _ _).trans (KeepsOthers.setCell _ _ _)).from _, ⟨(z1.far ⟨w.heap.size + 1 + 1, 0, none⟩ _ (by simp)).set 0 _, hbd.out⟩, rfl, .inl (by simp; omega)⟩
      | exact ⟨(KeepsOthers.setCell W _ _).from _, ⟨z1.far ⟨w.heap.size + 1 + 1, 0, none⟩ _ (by simp), hB.setCell (by simp; omega) _⟩, rfl, .inl (by simp; omega)⟩
    by_cases h1 : 60 < x.d
    · have h1' : (60 : Int) < (x.d : Int) := by omega
      gi_wp2
      first
      | exact ⟨((KeepsOthers.setCell W _ _).trans (KeepsOthers.setCell _ _ _)).from _, ⟨(z1.far ⟨w.heap.size + 1 + 1, 0, none⟩ _ (by simp)).set 0 _, hbd.out⟩, rfl, .inr ⟨x, by simp, by omega⟩⟩
      | exact ⟨(KeepsOthers.setCell W _ _).from _, ⟨z1.far ⟨w.heap.size + 1 + 1, 0, none⟩ _ (by simp), hB.setCell (by simp; omega) _⟩, rfl, .inr ⟨x, by simp, by omega⟩⟩
    have h1' : ¬ (60 : Int) < (x.d : Int) := by omega
    gi_wp2
    refine ⟨(KeepsOthers.setCell W _ _).from _, (KeepC.refl _ W).setCell _ _ (by simp [But]; omega), ⟨z1.far _ _ (by simp), ?_⟩, ⟨by have := Hp.out.1; simp; omega, fun y hy => ?_⟩, hB.setCell (by simp; omega) _⟩
    · have := z2.set 0 (.int .i64 ((pre.length : Int) + 1))
      simpa using this
    · rcases List.mem_append.1 hy with hy | hy
      · exact Hp.out.2 y hy
      · simp at hy; subst hy; omega
  case done =>
    rintro D ys W hD hys ⟨⟨z1, z2⟩, hp, hB⟩ hK
    have c1 : W.cell? ⟨w.heap.size + 1, 0, none⟩ = some (.bool false) := z1.cell rfl
    have f1 := z1.free 0
    have Hys := Lib.hid hys; clear hys
    have Hp := Lib.hid hp.out; clear hp
    gi_wp2
    have hK' := (KeepsOthers.setCell W ⟨w.heap.size + 1, 0, none⟩ (.bool true)).same D _ hK rfl
    refine ⟨by simp, .inl ⟨_, _, rfl, run_takeDeferred hK', ?_⟩⟩
    have hc5 := cell_kept ((z1.set 0 (.bool true)).cell (i := 0) (v := .bool true) rfl) (grownBy_putObj' _ D (.deferred none)) (fun r e => by cases e; exact ⟨_, hK', rfl⟩)
    refine ⟨.bool true, ?_, ⟨true, ?_, rfl, ?_⟩⟩
    · simp [results, Tryz.results56, go_sem, hc5]
    · have hl : ys.length = t.size := by rw [← Tm.pre_length t 0 1, ← Hys.out, List.length_map]
      have hd := (Tm.pre_depth t 0 1 60).1 (fun p hp' => by
        rw [← Hys.out] at hp'
        obtain ⟨y, hy, he⟩ := List.mem_map.1 hp'
        rw [← he]; exact Hp.out.2 y hy)
      have := Hp.out.1
      simp; omega
    · exact (hB.setCell (p := ⟨w.heap.size + 1, 0, none⟩) (by simp) _).trans (belowK_b (w := w) (Nat.le_refl _) _ D _ _ (by omega) hK' rfl rfl)
  case stop =>
    rintro D c pre W hD hpre ⟨⟨z1, hB⟩, rfl, hbad⟩ hK
    gi_wp2
    refine ⟨by simp, .inl ⟨_, _, rfl, run_takeDeferred hK, ?_⟩⟩
    have hc5 := cell_kept (z1.cell (i := 0) (v := .bool false) rfl) (grownBy_putObj' _ D (.deferred none)) (fun r e => by cases e; exact ⟨_, hK, rfl⟩)
    refine ⟨.bool false, ?_, ⟨false, ?_, rfl, ?_⟩⟩
    · simp [results, Tryz.results56, go_sem, hc5]
    · simp only [Bool.false_eq_true, false_iff, not_and]
      intro h1 h2
      rcases hbad.out with h | ⟨y, hy, h⟩
      · have := hpre.length_le
        rw [List.length_map, Tm.pre_length] at this; omega
      · exact h ((Tm.pre_depth t 0 1 60).2 (by omega) y.key (hpre.subset (List.mem_map.2 ⟨y, hy, rfl⟩)))
    · exact hB.trans (belowK_b (w := w) (Nat.le_refl _) W D _ _ (by omega) hK rfl rfl)
end Go.Proofs.YtdmiekaeodcehaaGreat

namespace Go.Proofs.YtdmiekaeodcehaaGreat
open Go.RowKit

end Go.Proofs.YtdmiekaeodcehaaGreat

namespace Go.Proofs.YtdmiekaeodcehaaGreat
open Go.RowKit

theorem right_d (t : Tm) (hsz : t.full ≤ 4400000) : PureC Tryz.prog 56 [.ag (eTm t)] (.v (.bool (decide (t.size ≤ 5000 ∧ t.depth ≤ 60)))) := by
  refine pure_below (by kernel_rfl) fun m Im w vs hv => ?_
  match vs, hv with
  | [x], hv =>
    obtain ⟨b, k, i, a, rfl, ht⟩ := agTm hv.1
    refine (right6_k ht hsz).mono ?_
    rintro e w' ⟨b, hb, rfl, h2⟩
    have : b = decide (t.size ≤ 5000 ∧ t.depth ≤ 60) := by
      by_cases hp : t.size ≤ 5000 ∧ t.depth ≤ 60
      · rw [hb.2 hp]; simp [hp]
      · have : b = false := by
          cases b with
          | false => rfl
          | true => exact absurd (hb.1 rfl) hp
        rw [this]; simp [hp]
    subst this
    exact ⟨_, rfl, h2, fun Im' _ hI => .v _⟩
end Go.Proofs.YtdmiekaeodcehaaGreat

namespace Go.Proofs.YtdmiekaeodcehaaGreat
open Go.RowKit

def m00 : Mp := ⟨fun _ => none, fun _ => none, fun _ => none⟩
theorem calls_of_pure {P : Program} {f : FuncId} {ds : List D} {V : D} (h : PureC P f ds V) {Im : Nat → Nat → Prop} {w : World} {vs : List Value} (hi : ∀ b o, Im b o → ∃ v, w.cell? ⟨b, o, none⟩ = some v) (hv : RelL m00 Im w vs ds) :
    Calls P f vs.toArray w fun e w' => ∃ v Im', e = .returned v ∧ Below w.heap.size w w' ∧ Rel m00 Im' w' v V ∧ (∀ b o, Im' b o → Im b o ∨ w.heap.size ≤ b) := by
  let cx : Cx := { w0 := w, C := fun _ => False, Im0 := Im, m0 := m00, nt := 0, n0 := 0, h0 := (fun k b hk => by cases hk), h0o := (fun k b hk => by cases hk) }
  have hm : MemOk cx (fun _ => False) m00 Im w := {
    off := Off.refl _ _, im := hi, imb := fun b o h => .inl h, im0 := fun b o h => h
    own := fun k b hk => by cases hk
    lt := fun k b hk => by cases hk
    free := fun k b o hk => by cases hk
    nim := fun k b o hk => by cases hk
    inj := fun k k' b hk => by cases hk
    row := fun g R hg => by cases hg
    k0 := KeepI.refl _ _
    rown := fun g R b hg => by cases hg
    m0r := fun g R hg => by cases hg
    rIm := fun g R b o hg => by cases hg
    rblk := fun g R b k hg => by cases hg
    rinj := fun g g' R R' b hg => by cases hg
    fr := fun k hk => hk.elim
    m0 := fun k b hk => by cases hk
    m0o := fun k b hk => by cases hk
    oown := fun k b hk => by cases hk
    olt := fun k b hk => by cases hk
    onim := fun k b o hk => by cases hk
    oinj := fun k k' b hk => by cases hk
    oblk := fun k k' b hk => by cases hk
    orow := fun k g R b hk => by cases hk
    dis := fun k b hk => by cases hk }
  refine (h.2 cx _ m00 Im w vs hm hv nofun).mono ?_
  rintro e w' ⟨v, Im', rfl, q1, q2, q3, q4, q5, q6, q7⟩
  refine ⟨v, Im', rfl, ⟨q1.os, q1.tape, q1.output, q1.size, fun b hb => q1.block b hb fun ht => ?_⟩, q6, q3⟩
  rcases ht with ⟨k, off, d, hm, _⟩ | ⟨X, J, hm, _⟩ | ⟨k, d, hm, _⟩ <;> cases hm
def cellI (F : Nat → Prop) (w : World) : Nat → Nat → Prop := fun b o => F b ∧ ∃ v, w.cell? ⟨b, o, none⟩ = some v
theorem cellI_ok {F : Nat → Prop} {w : World} : ∀ b o, cellI F w b o → ∃ v, w.cell? ⟨b, o, none⟩ = some v := fun _ _ h => h.2
theorem cellI_of {F : Nat → Prop} {w : World} : ∀ b o v, F b → w.cell? ⟨b, o, none⟩ = some v → cellI F w b o := fun _ _ v h hv => ⟨h, v, hv⟩
end Go.Proofs.YtdmiekaeodcehaaGreat

namespace Go.Proofs.YtdmiekaeodcehaaGreat
open Go.RowKit

end Go.Proofs.YtdmiekaeodcehaaGreat

namespace Go.Proofs.YtdmiekaeodcehaaGreat
open Go.RowKit
end Go.Proofs.YtdmiekaeodcehaaGreat

namespace Go.Proofs.YtdmiekaeodcehaaGreat
open Go.RowKit
def ePair (p : Int × Tm) : List D := .v (.int .i64 p.1) :: eTm p.2
def ePairs (l : List (Int × Tm)) : List (List D) := l.map ePair
@[simp] theorem ePair_ok (f g : Nat → Bool) (p : Int × Tm) : D.oks f g (ePair p) = true := by simp [ePair, D.oks, D.ok, eTm_ok]
@[simp] theorem ePairs_ok (f g : Nat → Bool) (l : List (Int × Tm)) : D.okss f g (ePairs l) = true := D.okss_map ePair l fun p _ => ePair_ok f g p
end Go.Proofs.YtdmiekaeodcehaaGreat

namespace Go.Proofs.YtdmiekaeodcehaaGreat
open Go.RowKit Go.ChangeShapes Go.WideShapes Go.ChangeAt

section
variable {m : Mp} {w : World} {F : Nat → Prop}
theorem relTys {v : Value} {l : List Ty} (h : IsSl rpTy F w v l) : Rel m (cellI F w) w v (.sl 2 (eTys l) none) := by
  rw [eTys_map]
  exact rel_of_sl (r := rpTy) (e := eTy) cellI_of eTy_len (fun x t hx => by
    obtain ⟨s, b, rfl, ht⟩ := hx
    exact rel_of_ty cellI_of t ht) h
theorem relWorld {cv mv : Value} {b : Int} {C M : List Ty} (h1 : IsSl rpTy F w cv C) (h2 : IsSl rpTy F w mv M) : Rel m (cellI F w) w (.agg #[.int .i64 b, cv, mv]) (.ag [.v (.int .i64 b), .sl 2 (eTys C) none, .sl 2 (eTys M) none]) :=
  rel_ag.2 ⟨[.int .i64 b, cv, mv], rfl, .v _, relTys h1, relTys h2, trivial⟩
end
theorem row_of_pure {f : FuncId} {ds : List D} (h : PureC Tryz.prog f ds (.v (.bool true))) {w : World} {vs : List Value} (hv : RelL m00 (cellI (fun _ => True) w) w vs ds) :
    Calls Tryz.prog f vs.toArray w fun e w' => e = .returned (.bool true) ∧ Below w.heap.size w w' := by
  refine (calls_of_pure h cellI_ok hv).mono ?_
  rintro e w' ⟨v, Im', rfl, h1, h2, _⟩
  have := rel_v.1 h2; subst this
  exact ⟨rfl, h1⟩
end Go.Proofs.YtdmiekaeodcehaaGreat

namespace Go.Proofs.YtdmiekaeodcehaaGreat
open Go.RowKit
def TTM_3 : TI := ⟨1, false, [Value.int IntKind.i64 0], [], none, 8, 2, none, false⟩
theorem TTM_3_ok : TypOk Tryz.prog 3 TTM_3 := ⟨by kernel_rfl, by kernel_rfl, by kernel_rfl, by kernel_rfl, by kernel_rfl⟩
def TTM_27 : TI := ⟨4, true, [Value.slice none 0 0, Value.int IntKind.i64 0, Value.int IntKind.i64 0, Value.slice none 0 0], [(0, 1, false), (1, 2, true), (3, 1, false)], none, 64, 6, none, false⟩
theorem TTM_27_ok : TypOk Tryz.prog 27 TTM_27 := ⟨by kernel_rfl, by kernel_rfl, by kernel_rfl, by kernel_rfl, by kernel_rfl⟩
def TTM_24 : TI := ⟨2, true, [Value.int IntKind.i64 0, Value.int IntKind.i64 0], [(0, 1, false), (1, 1, false)], none, 16, 6, none, true⟩
theorem TTM_24_ok : TypOk Tryz.prog 24 TTM_24 := ⟨by kernel_rfl, by kernel_rfl, by kernel_rfl, by kernel_rfl, by kernel_rfl⟩
def TTM_36 : TI := ⟨4, true, [Value.slice none 0 0, Value.int IntKind.i64 0, Value.int IntKind.i64 0, Value.slice none 0 0], [(0, 1, false), (1, 2, true), (3, 1, false)], none, 64, 6, none, false⟩
theorem TTM_36_ok : TypOk Tryz.prog 36 TTM_36 := ⟨by kernel_rfl, by kernel_rfl, by kernel_rfl, by kernel_rfl, by kernel_rfl⟩
def TTM_33 : TI := ⟨2, true, [Value.int IntKind.i64 0, Value.int IntKind.i64 0], [(0, 1, false), (1, 1, false)], none, 16, 6, none, true⟩
theorem TTM_33_ok : TypOk Tryz.prog 33 TTM_33 := ⟨by kernel_rfl, by kernel_rfl, by kernel_rfl, by kernel_rfl, by kernel_rfl⟩
def TTM_25 : TI := ⟨1, false, [Value.slice none 0 0], [], some 27, 24, 5, none, false⟩
theorem TTM_25_ok : TypOk Tryz.prog 25 TTM_25 := ⟨by kernel_rfl, by kernel_rfl, by kernel_rfl, by kernel_rfl, by kernel_rfl⟩
def TTM_34 : TI := ⟨1, false, [Value.slice none 0 0], [], some 36, 24, 5, none, false⟩
theorem TTM_34_ok : TypOk Tryz.prog 34 TTM_34 := ⟨by kernel_rfl, by kernel_rfl, by kernel_rfl, by kernel_rfl, by kernel_rfl⟩
def TTM_22 : TI := ⟨1, false, [Value.slice none 0 0], [], some 91, 24, 5, none, false⟩
theorem TTM_22_ok : TypOk Tryz.prog 22 TTM_22 := ⟨by kernel_rfl, by kernel_rfl, by kernel_rfl, by kernel_rfl, by kernel_rfl⟩
def TTM_32 : TI := ⟨1, false, [Value.slice none 0 0], [], some 75, 24, 5, none, false⟩
theorem TTM_32_ok : TypOk Tryz.prog 32 TTM_32 := ⟨by kernel_rfl, by kernel_rfl, by kernel_rfl, by kernel_rfl, by kernel_rfl⟩
def TTM_91 : TI := ⟨2, true, [Value.slice none 0 0, Value.int IntKind.i64 0], [(0, 1, false), (1, 1, false)], none, 32, 6, none, false⟩
theorem TTM_91_ok : TypOk Tryz.prog 91 TTM_91 := ⟨by kernel_rfl, by kernel_rfl, by kernel_rfl, by kernel_rfl, by kernel_rfl⟩
def TTM_98 : TI := ⟨1, false, [Value.nilFunc], [], none, 8, 8, none, false⟩
theorem TTM_98_ok : TypOk Tryz.prog 98 TTM_98 := ⟨by kernel_rfl, by kernel_rfl, by kernel_rfl, by kernel_rfl, by kernel_rfl⟩
def TTM_79 : TI := ⟨1, false, [Value.nilFunc], [], none, 8, 8, none, false⟩
theorem TTM_79_ok : TypOk Tryz.prog 79 TTM_79 := ⟨by kernel_rfl, by kernel_rfl, by kernel_rfl, by kernel_rfl, by kernel_rfl⟩
def TTM_75 : TI := ⟨2, true, [Value.slice none 0 0, Value.int IntKind.i64 0], [(0, 1, false), (1, 1, false)], none, 32, 6, none, false⟩
theorem TTM_75_ok : TypOk Tryz.prog 75 TTM_75 := ⟨by kernel_rfl, by kernel_rfl, by kernel_rfl, by kernel_rfl, by kernel_rfl⟩
def TTM : List (Nat × TI) := [(3, TTM_3), (27, TTM_27), (24, TTM_24), (36, TTM_36), (33, TTM_33), (25, TTM_25), (34, TTM_34), (22, TTM_22), (32, TTM_32), (91, TTM_91), (98, TTM_98), (79, TTM_79), (75, TTM_75)]
theorem TTM_ok : TabOk Tryz.prog TTM := ((((((((((((((TabOk.nil _).cons TTM_75_ok).cons TTM_79_ok).cons TTM_98_ok).cons TTM_91_ok).cons TTM_32_ok).cons TTM_22_ok).cons TTM_34_ok).cons TTM_25_ok).cons TTM_33_ok).cons TTM_36_ok).cons TTM_24_ok).cons TTM_27_ok).cons TTM_3_ok)

theorem bindsT (b : List Ty) (k i : Int) (a : List Tm) : (Tm.mk b k i a).binds = b := rfl
theorem kindT (b : List Ty) (k i : Int) (a : List Tm) : (Tm.mk b k i a).kind = k := rfl
theorem indexT (b : List Ty) (k i : Int) (a : List Tm) : (Tm.mk b k i a).index = i := rfl
theorem argsTm (b : List Ty) (k i : Int) (a : List Tm) : (Tm.mk b k i a).args = a := rfl
theorem eqTmsA (l r : List Tm) (h : ∀ t ∈ l, ∀ u, PureC Tryz.prog 41 [.ag (eTm t), .ag (eTm u)] (.v (.bool (decide (t = u))))) : PureC Tryz.prog 86 [.sl 4 (eTms l) none, .sl 4 (eTms r) none, .fn 41 []] (.v (.bool (decide (l = r)))) := CallC.lens fun hlen => by
 have hl : l.length ≤ 9223372036854775807 := by have := hlen _ (List.mem_cons_self ..); simp only [slOk, sl1, eTms_len] at this; exact this
 by_cases hlr : l.length = r.length
 ·skip
  refine calldw 0 32 [ResultVar.tmp 6] TTM_ok Tryz.func86 rfl Tryz.ntmps86 rfl fun cx hnt hn0 => ?_
  ·skip
   refine dw_seq ?_; refine dwk [] TTM_ok hnt fun K hK => ?_; refine hK _ _ ?_; clear hK K; refine dw_seq ?_; refine dw_seq ?_; refine dwk [(11, .v (.int .i64 (↑l.length))), (13, .v (.int .i64 (↑r.length))), (14, .v (.bool false))] TTM_ok hnt fun K hK => ?_; refine And.intro (dintE (by rw [eTms_len])) ?_; refine And.intro (dintE (by rw [eTms_len])) ?_; refine And.intro (bneF (by omega)) ?_; refine hK _ _ ?_; clear hK K
   refine dw_cond (t := false) rfl ?_; rw [if_neg (by simp)]; refine dw_skip ?_; refine dw_seq ?_; refine dw_seq ?_; refine dwk [(16, .v (.int .i64 (↑l.length)))] TTM_ok hnt fun K hK => ?_; refine And.intro (dintE (by rw [eTms_len])) ?_; refine hK _ _ ?_; clear hK K; refine dw_block ?_
   refine dw_loop (ι := { j : Nat // l.take j = r.take j }) (fun j => [(.t 1, .sl 4 (eTms r) none), (.t 2, .fn 41 []), (.t 15, .sl 4 (eTms l) none), (.t 16, .v (.int .i64 ↑l.length)), (.t 17, .v (.int .i64 ↑j.1))]) 0 (fun j => l.length - j.1) (⟨0, rfl⟩) (VS.toA) fun j => ?_
   obtain ⟨j, hj⟩ := j
   dsimp only
   by_cases hlt : j < l.length
   ·have hlt2 : j < r.length := by omega
    have hq := h l[j] (List.getElem_mem hlt) r[j]
    rw [eTm_eq, eTm_eq] at hq
    by_cases he : l[j] = r[j]
    ·rw [decide_eq_true he] at hq
     refine dw_seq ?_; refine dwk [(18, .v (.bool true))] TTM_ok hnt fun K hK => ?_; refine And.intro auT ?_; refine hK _ _ ?_; clear hK K; refine dw_seq ?_; refine dw_cond (t := true) rfl ?_; rw [if_pos rfl]; refine dw_skip ?_; refine dw_seq ?_; refine dw_block ?_; refine dw_seq ?_; refine dwk [(20, .q [.sl 2 (eTys l[j].binds) none, .v (.int .i64 l[j].kind), .v (.int .i64 l[j].index), .sl 4 (eTms l[j].args) none])] TTM_ok hnt fun K hK => ?_
     refine And.intro (elo (eTms_len l)) ?_; refine And.intro (elv (eTms_getD l j) (eTm_eq _)) ?_; refine hK _ _ ?_; clear hK K; refine dw_seq ?_; refine dwk [(24, .q [.sl 2 (eTys r[j].binds) none, .v (.int .i64 r[j].kind), .v (.int .i64 r[j].index), .sl 4 (eTms r[j].args) none])] TTM_ok hnt fun K hK => ?_; refine And.intro (elo (eTms_len r)) ?_; refine And.intro (elv (eTms_getD r j) (eTm_eq _)) ?_; refine hK _ _ ?_; clear hK K
     refine dw_seq ?_; refine dwk [] TTM_ok hnt fun K hK => ?_; refine dcl (hq) ?_; refine hK _ _ ?_; clear hK K; refine dw_cond (t := false) rfl ?_; rw [if_neg (by simp)]; refine dw_skip ?_; refine dwk [(31, .v (.int .i64 (↑(j + 1))))] TTM_ok hnt fun K hK => ?_; refine And.intro auI ?_; refine hK _ _ ?_; clear hK K
     refine ⟨⟨j + 1, take_succ_eq hj hlt hlt2 he⟩, by first | omega | (dsimp only; omega), VS.toA⟩
    ·rw [decide_eq_false he] at hq
     rw [decide_eq_false (ne_at hlt hlt2 he)]
     refine dw_seq ?_; refine dwk [(18, .v (.bool true))] TTM_ok hnt fun K hK => ?_; refine And.intro auT ?_; refine hK _ _ ?_; clear hK K; refine dw_seq ?_; refine dw_cond (t := true) rfl ?_; rw [if_pos rfl]; refine dw_skip ?_; refine dw_seq ?_; refine dw_block ?_; refine dw_seq ?_; refine dwk [(20, .q [.sl 2 (eTys l[j].binds) none, .v (.int .i64 l[j].kind), .v (.int .i64 l[j].index), .sl 4 (eTms l[j].args) none])] TTM_ok hnt fun K hK => ?_
     refine And.intro (elo (eTms_len l)) ?_; refine And.intro (elv (eTms_getD l j) (eTm_eq _)) ?_; refine hK _ _ ?_; clear hK K; refine dw_seq ?_; refine dwk [(24, .q [.sl 2 (eTys r[j].binds) none, .v (.int .i64 r[j].kind), .v (.int .i64 r[j].index), .sl 4 (eTms r[j].args) none])] TTM_ok hnt fun K hK => ?_; refine And.intro (elo (eTms_len r)) ?_; refine And.intro (elv (eTms_getD r j) (eTm_eq _)) ?_; refine hK _ _ ?_; clear hK K
     refine dw_seq ?_; refine dwk [] TTM_ok hnt fun K hK => ?_; refine dcl (hq) ?_; refine hK _ _ ?_; clear hK K; refine dw_cond (t := true) rfl ?_; rw [if_pos rfl]; refine dw_seq ?_; refine dwk [] TTM_ok hnt fun K hK => ?_; refine hK _ _ ?_; clear hK K; refine dw_ret ?_
     exact reta rfl
   ·rw [decide_eq_true (eq_of_take hj (by omega) (by omega))]
    refine dw_seq ?_; refine dwk [(18, .v (.bool false))] TTM_ok hnt fun K hK => ?_; refine And.intro auF ?_; refine hK _ _ ?_; clear hK K; refine dw_seq ?_; refine dw_cond (t := false) rfl ?_; rw [if_neg (by simp)]; refine dw_exit ?_; refine dw_seq ?_; refine dwk [] TTM_ok hnt fun K hK => ?_; refine hK _ _ ?_; clear hK K; refine dw_ret ?_
    exact reta rfl
 ·rw [decide_eq_false (fun e => hlr (by rw [e]))]
  refine calldw 0 32 [ResultVar.tmp 6] TTM_ok Tryz.func86 rfl Tryz.ntmps86 rfl fun cx hnt hn0 => ?_
  ·skip
   refine dw_seq ?_; refine dwk [] TTM_ok hnt fun K hK => ?_; refine hK _ _ ?_; clear hK K; refine dw_seq ?_; refine dw_seq ?_; refine dwk [(11, .v (.int .i64 (↑l.length))), (13, .v (.int .i64 (↑r.length))), (14, .v (.bool true))] TTM_ok hnt fun K hK => ?_; refine And.intro (dintE (by rw [eTms_len])) ?_; refine And.intro (dintE (by rw [eTms_len])) ?_; refine And.intro (bneT (by omega)) ?_; refine hK _ _ ?_; clear hK K
   refine dw_cond (t := true) rfl ?_; rw [if_pos rfl]; refine dw_seq ?_; refine dwk [] TTM_ok hnt fun K hK => ?_; refine hK _ _ ?_; clear hK K; refine dw_ret ?_
   exact reta rfl
theorem tm_ext {t u : Tm} : t = u ↔ (t.kind = u.kind ∧ t.index = u.index) ∧ t.binds = u.binds ∧ t.args = u.args := by
  obtain ⟨b, k, i, a⟩ := t
  obtain ⟨b', k', i', a'⟩ := u
  simp only [bindsT, kindT, indexT, argsTm, Tm.mk.injEq]
  exact ⟨fun ⟨h1, h2, h3, h4⟩ => ⟨⟨h2, h3⟩, h1, h4⟩, fun ⟨⟨h1, h2⟩, h3, h4⟩ => ⟨h3, h1, h2, h4⟩⟩
theorem equal2_d : ∀ t u : Tm, PureC Tryz.prog 41 [.ag (eTm t), .ag (eTm u)] (.v (.bool (decide (t = u)))) := by
 intro t
 induction t using Tm.ind with
 | h b k i a ih =>
 intro u
 have hq := eqTmsA a u.args ih
 have hb := eqTys_d b u.binds 52 rfl
 rw [eTm_eq, eTm_eq]
 simp only [bindsT, kindT, indexT, argsTm]
 by_cases h1 : k = u.kind ∧ i = u.index
 ·by_cases h2 : b = u.binds
  ·rw [show decide (Tm.mk b k i a = u) = decide (a = u.args) by rw [Bool.eq_iff_iff, decide_eq_true_iff, decide_eq_true_iff, tm_ext]; simp [bindsT, kindT, indexT, argsTm, h1, h2]]
   rw [decide_eq_true h2] at hb
   refine calldw 0 24 [ResultVar.tmp 4] TTM_ok Tryz.func41 rfl Tryz.ntmps41 rfl fun cx hnt hn0 => ?_
   ·skip
    refine dw_seq ?_; refine dwk [] TTM_ok hnt fun K hK => ?_; refine hK _ _ ?_; clear hK K; refine dw_seq ?_; refine dwk [(9, .v (.bool true))] TTM_ok hnt fun K hK => ?_; refine And.intro (VLe.of_eq (by congr 2; simp [h1])) ?_; refine dcl (hb) ?_; refine dcl (hq) ?_; refine hK _ _ ?_; clear hK K; refine dw_ret ?_
    exact reta rfl
  ·rw [show decide (Tm.mk b k i a = u) = false from decide_eq_false fun e => h2 (by rw [← e]; rfl)]
   rw [decide_eq_false h2] at hb
   refine calldw 0 24 [ResultVar.tmp 4] TTM_ok Tryz.func41 rfl Tryz.ntmps41 rfl fun cx hnt hn0 => ?_
   ·skip
    refine dw_seq ?_; refine dwk [] TTM_ok hnt fun K hK => ?_; refine hK _ _ ?_; clear hK K; refine dw_seq ?_; refine dwk [(9, .v (.bool true))] TTM_ok hnt fun K hK => ?_; refine And.intro (VLe.of_eq (by congr 2; simp [h1])) ?_; refine dcl (hb) ?_; refine hK _ _ ?_; clear hK K; refine dw_ret ?_
    exact reta rfl
 ·rw [show decide (Tm.mk b k i a = u) = false from decide_eq_false fun e => h1 (by rw [← e]; exact ⟨rfl, rfl⟩)]
  refine calldw 0 24 [ResultVar.tmp 4] TTM_ok Tryz.func41 rfl Tryz.ntmps41 rfl fun cx hnt hn0 => ?_
  ·skip
   refine dw_seq ?_; refine dwk [] TTM_ok hnt fun K hK => ?_; refine hK _ _ ?_; clear hK K; refine dw_seq ?_; refine dwk [(9, .v (.bool false))] TTM_ok hnt fun K hK => ?_; refine And.intro (VLe.of_eq (by congr 2; by_cases h3 : k = u.kind <;> by_cases h4 : i = u.index <;> simp_all)) ?_; refine hK _ _ ?_; clear hK K; refine dw_ret ?_
   exact reta rfl
theorem same2_d : ∀ t u : Tm, PureC Tryz.prog 35 [.ag (eTm t), .ag (eTm u)] (.v (.bool (decide (t = u)))) := by
 intro t
 induction t using Tm.ind with
 | h b k i a ih =>
 intro u
 refine CallC.lens fun hlen => ?_
 have hl : a.length ≤ 9223372036854775807 := by
  have := hlen _ (List.mem_cons_self ..)
  rw [eTm_eq] at this
  have := this (.sl 4 (eTms a) none) (by simp [argsTm])
  simp only [sl1, eTms_len] at this; exact this
 have hb := rtypesEq_d b u.binds
 rw [eTm_eq, eTm_eq]
 simp only [bindsT, kindT, indexT, argsTm]
 by_cases h1 : k = u.kind ∧ i = u.index
 ·by_cases hlr : a.length = u.args.length
  ·by_cases h2 : b = u.binds
   ·rw [show decide (Tm.mk b k i a = u) = decide (a = u.args) by rw [Bool.eq_iff_iff, decide_eq_true_iff, decide_eq_true_iff, tm_ext]; simp [bindsT, kindT, indexT, argsTm, h1, h2]]
    rw [decide_eq_true h2] at hb
    refine calldw 0 47 [ResultVar.tmp 4] TTM_ok Tryz.func35 rfl Tryz.ntmps35 rfl fun cx hnt hn0 => ?_
    ·skip
     refine dw_seq ?_; refine dwk [] TTM_ok hnt fun K hK => ?_; refine hK _ _ ?_; clear hK K; refine dw_seq ?_; refine dw_seq ?_; refine dwk [(10, .v (.bool false)), (14, .v (.int .i64 (↑a.length))), (17, .v (.int .i64 (↑u.args.length))), (18, .v (.bool false))] TTM_ok hnt fun K hK => ?_; refine And.intro (VLe.of_eq (by congr 2; simp [h1])) ?_; refine And.intro (dintE (by rw [eTms_len])) ?_; refine And.intro (dintE (by rw [eTms_len])) ?_
     refine And.intro (bneF (by omega)) ?_; refine dcl (hb) ?_; refine hK _ _ ?_; clear hK K; refine dw_cond (t := false) rfl ?_; rw [if_neg (by simp)]; refine dw_skip ?_; refine dw_seq ?_; refine dw_seq ?_; refine dwk [] TTM_ok hnt fun K hK => ?_; refine hK _ _ ?_; clear hK K; refine dw_block ?_
     refine dw_loop (ι := { j : Nat // a.take j = u.args.take j }) (fun j => [(.t 2, .p 0 0), (.t 3, .p 1 0), (.t 5, .v (.int .i64 ↑j.1)), (.c 0 3, .sl 4 (eTms a) none), (.c 1 3, .sl 4 (eTms u.args) none)]) 2 (fun j => a.length - j.1) (⟨0, rfl⟩) (VS.toA) fun j => ?_
     obtain ⟨j, hj⟩ := j
     dsimp only
     by_cases hlt : j < a.length
     ·have hlt2 : j < u.args.length := by omega
      have hq := ih a[j] (List.getElem_mem hlt) u.args[j]
      rw [eTm_eq, eTm_eq] at hq
      by_cases he : a[j] = u.args[j]
      ·rw [decide_eq_true he] at hq
       refine dw_seq ?_; refine dw_seq ?_; refine dwk [(31, .v (.int .i64 (↑a.length))), (32, .v (.bool true))] TTM_ok hnt fun K hK => ?_; refine And.intro (dintE (by rw [eTms_len])) ?_; refine And.intro auT ?_; refine hK _ _ ?_; clear hK K; refine dw_cond (t := true) rfl ?_; rw [if_pos rfl]; refine dw_skip ?_; refine dw_seq ?_; refine dw_block ?_; refine dw_seq ?_; refine dwkD [(38, .q [.sl 2 (eTys a[j].binds) none, .v (.int .i64 a[j].kind), .v (.int .i64 a[j].index), .sl 4 (eTms a[j].args) none]), (43, .q [.sl 2 (eTys u.args[j].binds) none, .v (.int .i64 u.args[j].kind), .v (.int .i64 u.args[j].index), .sl 4 (eTms u.args[j].args) none])] TTM_ok hnt fun K hK => ?_
       refine And.intro (elo (eTms_len a)) ?_; refine And.intro (elv (eTms_getD a j) (eTm_eq _)) ?_; refine And.intro (elo (eTms_len u.args)) ?_; refine And.intro (elv (eTms_getD u.args j) (eTm_eq _)) ?_; refine dcl (hq) ?_; refine hK _ _ (by kernel_rfl) ?_; clear hK K; refine dw_cond (t := false) rfl ?_; rw [if_neg (by simp)]; refine dw_skip ?_; refine dwk [(34, .v (.int .i64 (↑(j + 1))))] TTM_ok hnt fun K hK => ?_
       refine And.intro auI ?_; refine hK _ _ ?_; clear hK K
       refine ⟨⟨j + 1, take_succ_eq hj hlt hlt2 he⟩, by first | omega | (dsimp only; omega), VS.toA⟩
      ·rw [decide_eq_false he] at hq
       rw [decide_eq_false (ne_at hlt hlt2 he)]
       refine dw_seq ?_; refine dw_seq ?_; refine dwk [(31, .v (.int .i64 (↑a.length))), (32, .v (.bool true))] TTM_ok hnt fun K hK => ?_; refine And.intro (dintE (by rw [eTms_len])) ?_; refine And.intro auT ?_; refine hK _ _ ?_; clear hK K; refine dw_cond (t := true) rfl ?_; rw [if_pos rfl]; refine dw_skip ?_; refine dw_seq ?_; refine dw_block ?_; refine dw_seq ?_; refine dwkD [(38, .q [.sl 2 (eTys a[j].binds) none, .v (.int .i64 a[j].kind), .v (.int .i64 a[j].index), .sl 4 (eTms a[j].args) none]), (43, .q [.sl 2 (eTys u.args[j].binds) none, .v (.int .i64 u.args[j].kind), .v (.int .i64 u.args[j].index), .sl 4 (eTms u.args[j].args) none])] TTM_ok hnt fun K hK => ?_
       refine And.intro (elo (eTms_len a)) ?_; refine And.intro (elv (eTms_getD a j) (eTm_eq _)) ?_; refine And.intro (elo (eTms_len u.args)) ?_; refine And.intro (elv (eTms_getD u.args j) (eTm_eq _)) ?_; refine dcl (hq) ?_; refine hK _ _ (by kernel_rfl) ?_; clear hK K; refine dw_cond (t := true) rfl ?_; rw [if_pos rfl]; refine dw_seq ?_; refine dwk [] TTM_ok hnt fun K hK => ?_; refine hK _ _ ?_; clear hK K
       refine dw_ret ?_
       exact reta rfl
     ·rw [decide_eq_true (eq_of_take hj (by omega) (by omega))]
      refine dw_seq ?_; refine dw_seq ?_; refine dwk [(31, .v (.int .i64 (↑a.length))), (32, .v (.bool false))] TTM_ok hnt fun K hK => ?_; refine And.intro (dintE (by rw [eTms_len])) ?_; refine And.intro auF ?_; refine hK _ _ ?_; clear hK K; refine dw_cond (t := false) rfl ?_; rw [if_neg (by simp)]; refine dw_exit ?_; refine dw_seq ?_; refine dwk [] TTM_ok hnt fun K hK => ?_; refine hK _ _ ?_; clear hK K
      refine dw_ret ?_
      exact reta rfl
   ·rw [show decide (Tm.mk b k i a = u) = false from decide_eq_false fun e => h2 (by rw [← e]; rfl)]
    rw [decide_eq_false h2] at hb
    refine calldw 0 47 [ResultVar.tmp 4] TTM_ok Tryz.func35 rfl Tryz.ntmps35 rfl fun cx hnt hn0 => ?_
    ·skip
     refine dw_seq ?_; refine dwk [] TTM_ok hnt fun K hK => ?_; refine hK _ _ ?_; clear hK K; refine dw_seq ?_; refine dw_seq ?_; refine dwk [(10, .v (.bool false)), (14, .v (.int .i64 (↑a.length))), (17, .v (.int .i64 (↑u.args.length))), (18, .v (.bool false))] TTM_ok hnt fun K hK => ?_; refine And.intro (VLe.of_eq (by congr 2; simp [h1])) ?_; refine And.intro (dintE (by rw [eTms_len])) ?_; refine And.intro (dintE (by rw [eTms_len])) ?_
     refine And.intro (bneF (by omega)) ?_; refine dcl (hb) ?_; refine hK _ _ ?_; clear hK K; refine dw_cond (t := true) rfl ?_; rw [if_pos rfl]; refine dw_seq ?_; refine dwk [] TTM_ok hnt fun K hK => ?_; refine hK _ _ ?_; clear hK K; refine dw_ret ?_
     exact reta rfl
  ·rw [show decide (Tm.mk b k i a = u) = false from decide_eq_false fun e => hlr (by rw [← e]; rfl)]
   refine calldw 0 47 [ResultVar.tmp 4] TTM_ok Tryz.func35 rfl Tryz.ntmps35 rfl fun cx hnt hn0 => ?_
   ·skip
    refine dw_seq ?_; refine dwk [] TTM_ok hnt fun K hK => ?_; refine hK _ _ ?_; clear hK K; refine dw_seq ?_; refine dw_seq ?_; refine dwk [(10, .v (.bool false)), (14, .v (.int .i64 (↑a.length))), (17, .v (.int .i64 (↑u.args.length))), (18, .v (.bool true))] TTM_ok hnt fun K hK => ?_; refine And.intro (VLe.of_eq (by congr 2; simp [h1])) ?_; refine And.intro (dintE (by rw [eTms_len])) ?_; refine And.intro (dintE (by rw [eTms_len])) ?_
    refine And.intro (bneT (by omega)) ?_; refine hK _ _ ?_; clear hK K; refine dw_cond (t := true) rfl ?_; rw [if_pos rfl]; refine dw_seq ?_; refine dwk [] TTM_ok hnt fun K hK => ?_; refine hK _ _ ?_; clear hK K; refine dw_ret ?_
    exact reta rfl
 ·rw [show decide (Tm.mk b k i a = u) = false from decide_eq_false fun e => h1 (by rw [← e]; exact ⟨rfl, rfl⟩)]
  refine calldw 0 47 [ResultVar.tmp 4] TTM_ok Tryz.func35 rfl Tryz.ntmps35 rfl fun cx hnt hn0 => ?_
  ·skip
   refine dw_seq ?_; refine dwk [] TTM_ok hnt fun K hK => ?_; refine hK _ _ ?_; clear hK K; refine dw_seq ?_; refine dw_seq ?_; refine dwk [(10, .v (.bool true))] TTM_ok hnt fun K hK => ?_; refine And.intro (VLe.of_eq (by congr 2; by_cases h3 : k = u.kind <;> by_cases h4 : i = u.index <;> simp_all)) ?_; refine hK _ _ ?_; clear hK K; refine dw_cond (t := true) rfl ?_; rw [if_pos rfl]; refine dw_seq ?_
   refine dwk [] TTM_ok hnt fun K hK => ?_; refine hK _ _ ?_; clear hK K; refine dw_ret ?_
   exact reta rfl
/-! long forms -/
theorem eTms_snoc (l : List Tm) (j : Nat) (h : j < l.length) : eTms (l.take j) ++ [[.sl 2 (eTys l[j].binds) none, .v (.int .i64 l[j].kind), .v (.int .i64 l[j].index), .sl 4 (eTms l[j].args) none]] = eTms (l.take (j + 1)) := by
  rw [← eTm_eq, List.take_add_one, List.getElem?_eq_getElem h, Option.toList_some, eTms_map, eTms_map, List.map_append]; rfl
theorem argsTy (a : List Ty) (b : Int) : (Ty.mk a b).args = a := rfl
theorem etas_at (l : List Ty) (j : Nat) (h : j < l.length) : eTms ((Ty.etas l).take j) ++ [[.sl 2 (eTys (Ty.eta l[j] 0 ((l.length : Int) - 1 - (j : Int))).binds) none, .v (.int .i64 (Ty.eta l[j] 0 ((l.length : Int) - 1 - (j : Int))).kind), .v (.int .i64 (Ty.eta l[j] 0 ((l.length : Int) - 1 - (j : Int))).index), .sl 4 (eTms (Ty.eta l[j] 0 ((l.length : Int) - 1 - (j : Int))).args) none]] = eTms ((Ty.etas l).take (j + 1)) := by
  have h2 : j < (Ty.etas l).length := by rw [Ty.etas_len]; exact h
  rw [← eTms_snoc _ _ h2, Ty.etas_get l j h]
set_option maxHeartbeats 1000000 in
theorem reta6_d : ∀ (t : Ty) (k i : Int), t.size ≤ 1000000 → (k = 0 → -1000000 ≤ i ∧ i + (t.args.length : Int) ≤ 9223372036854775807) → PureC Tryz.prog 149 [.ag [.v (.int .i64 k), .v (.int .i64 i)], .ag (eTy t)] (.ag (eTm (Ty.eta t k i))) := by
 intro t
 induction t using Ty.ind with
 | h a b ih =>
 intro k i hz hr
 rw [ty_size] at hz
 have hal := Ty.le_sizes a
 rw [argsTy] at hr
 obtain ⟨i', hi'⟩ : ∃ i', (if k = 0 then i + (a.length : Nat) else i) = i' := ⟨_, rfl⟩
 rw [Ty.eta_eq, hi', eTy_eq, eTm_eq]
 simp only [bindsT, kindT, indexT, argsTm, args_mk', base_mk']
 refine calldw 0 46 [ResultVar.cell 4 27] TTM_ok Tryz.func149 rfl Tryz.ntmps149 rfl fun cx hnt hn0 => ?_
 ·skip
  refine dw_seq ?_; refine dwk [] TTM_ok hnt fun K hK => ?_; refine hK _ _ ?_; clear hK K; refine dw_seq ?_; refine dwk [(10, .v (.int .i64 (↑a.length)))] TTM_ok hnt fun K hK => ?_; refine And.intro (dintE (by rw [eTys_len])) ?_; refine hK _ _ ?_; clear hK K; refine dw_seq ?_; refine dwk [] TTM_ok hnt fun K hK => ?_; refine hK _ _ ?_; clear hK K
  refine dw_cut (τ := [(.t 3, .p 1 0), (.t 4, .p 2 0), (.t 5, .v (.int .i64 ↑a.length)), (.t 6, .p 11 0), (.c 1 0, .sl 2 (eTys a) none), (.c 2 0, .v (.slice none 0 0)), (.c 2 1, .v (.int .i64 0)), (.c 2 2, .v (.int .i64 0)), (.c 2 3, .v (.slice none 0 0)), (.c 11 0, .sl 2 (eTys a) none), (.c 11 1, .v (.int .i64 k)), (.c 11 2, .v (.int .i64 i')), (.c 11 3, .v (.slice none 0 0))]) (N1 := 12) ?_ ?_
  ·by_cases hk : k = 0
   ·rw [if_pos hk] at hi'
    have hr := hr hk
    refine dw_seq ?_; refine dwk [(17, .v (.bool true))] TTM_ok hnt fun K hK => ?_; refine And.intro (beqT hk) ?_; refine hK _ _ ?_; clear hK K; refine dw_cond (t := true) rfl ?_; rw [if_pos rfl]; refine dwk [(21, .v (.int .i64 (i')))] TTM_ok hnt fun K hK => ?_; refine And.intro (dintE (by rw [IntWalk.i64_in _ (by omega)]; exact hi')) ?_; refine hK _ _ ?_; clear hK K
    exact cut_ok VS.toA
   ·rw [if_neg hk] at hi'
    subst hi'
    refine dw_seq ?_; refine dwk [(17, .v (.bool false))] TTM_ok hnt fun K hK => ?_; refine And.intro (beqF hk) ?_; refine hK _ _ ?_; clear hK K; refine dw_cond (t := false) rfl ?_; rw [if_neg (by simp)]; refine dw_skip ?_
    exact cut_ok VS.toA
  ·skip
   refine dw_seq ?_; refine dw_seq ?_; refine dwk [] TTM_ok hnt fun K hK => ?_; refine hK _ _ ?_; clear hK K
   refine DW.vs (VS.row (k := 11) (off := 3) 27 4 rfl) ?_
   refine dw_block ?_
   refine dw_loop (ι := { j : Nat // j ≤ a.length }) (fun j => [(.t 3, .p 1 0), (.t 4, .p 2 0), (.t 5, .v (.int .i64 ↑a.length)), (.t 6, .p 11 0), (.t 7, .v (.int .i64 ↑j.1)), (.c 1 0, .sl 2 (eTys a) none), (.c 2 0, .v (.slice none 0 0)), (.c 2 1, .v (.int .i64 0)), (.c 2 2, .v (.int .i64 0)), (.c 2 3, .v (.slice none 0 0)), (.c 11 0, .sl 2 (eTys a) none), (.c 11 1, .v (.int .i64 k)), (.c 11 2, .v (.int .i64 i')), (.c 11 3, .sl 4 (eTms ((Ty.etas a).take j.1)) (some 13)), (.r 13, .rw 27 4 j.1)]) 14 (fun j => a.length - j.1) (⟨0, Nat.zero_le _⟩) (VS.toA) fun j => ?_
   obtain ⟨j, hj⟩ := j
   dsimp only
   by_cases hlt : j < a.length
   ·have hmem := ty_mem (List.getElem_mem hlt)
    have hla : a[j].args.length < a[j].size := by obtain ⟨c, d⟩ := a[j]; exact Ty.length_lt
    have hih := ih a[j] (List.getElem_mem hlt) 0 ((a.length : Int) - 1 - (j : Int)) (by omega) (fun _ => ⟨by omega, by omega⟩)
    have hsn := etas_at a j hlt
    have hlq : (eTms ((Ty.etas a).take j)).length = j := by rw [eTms_len, List.length_take, Ty.etas_len]; omega
    rw [eTm_eq, eTy_eq] at hih
    refine dw_seq ?_; refine dw_seq ?_; refine dwk [(26, .v (.bool true))] TTM_ok hnt fun K hK => ?_; refine And.intro auT ?_; refine hK _ _ ?_; clear hK K; refine dw_cond (t := true) rfl ?_; rw [if_pos rfl]; refine dw_skip ?_; refine dw_seq ?_; refine dw_block ?_; refine dwkD [(32, .v (.int .i64 (↑a.length - 1))), (34, .v (.int .i64 (↑a.length - 1 - ↑j))), (39, .q [.sl 2 (eTys a[j].args) none, .v (.int .i64 a[j].base)]), (43, .sl 4 (eTms ((Ty.etas a).take (j + 1))) (some 13))] TTM_ok hnt fun K hK => ?_
    refine And.intro auI ?_; refine And.intro auI ?_; refine And.intro (elo (eTys_len a)) ?_; refine And.intro (elv (eTys_getD a j) (eTy_eq _)) ?_; refine dcl (hih) ?_; refine And.intro (⟨by rw [hlq], by rw [hlq]; simp; omega⟩) ?_; refine And.intro (VLe.of_eq (by rw [hsn])) ?_; refine hK _ _ (by kernel_rfl) ?_; clear hK K; refine dwk [(28, .v (.int .i64 (↑(j + 1))))] TTM_ok hnt fun K hK => ?_; refine And.intro auI ?_
    refine hK _ _ ?_; clear hK K
    refine ⟨⟨j + 1, by omega⟩, by first | omega | (dsimp only; omega), (by try simp only [List.length_append, List.length_take, List.length_cons, List.length_nil, Nat.zero_add, hlq]; exact VS.toA)⟩
   ·rw [List.take_of_length_le (by rw [Ty.etas_len]; omega)]
    refine dw_seq ?_; refine dw_seq ?_; refine dwk [(26, .v (.bool false))] TTM_ok hnt fun K hK => ?_; refine And.intro auF ?_; refine hK _ _ ?_; clear hK K; refine dw_cond (t := false) rfl ?_; rw [if_neg (by simp)]; refine dw_exit ?_; refine dw_seq ?_; refine dwk [] TTM_ok hnt fun K hK => ?_; refine hK _ _ ?_; clear hK K; refine dw_ret ?_
    exact reta rfl
/-! of which head -/
def varV (t : Tm) : D := .tu [.ag [.v (.int .i64 (if longB t then t.kind else 0)), .v (.int .i64 (if longB t then t.headIx else 0))], .v (.bool (longB t))]
theorem longB_mk (b : List Ty) (k i : Int) (a : List Tm) : longB (.mk b k i a) = (decide (a = Ty.etas b) && (!decide (k = 0) || decide ((b.length : Int) ≤ i))) := rfl
theorem headIx_mk (b : List Ty) (k i : Int) (a : List Tm) : (Tm.mk b k i a).headIx = if k = 0 then i - (b.length : Nat) else i := rfl
theorem eta_iff {u : Tm} {b : Ty} {x : Int} (hx : 0 ≤ x) : u = Ty.eta b 0 x ↔ longB u = true ∧ (u.kind = 0 ∧ u.headIx = x) ∧ u.binds = b.args := by
  obtain ⟨l, c⟩ := b
  obtain ⟨bs, k, i, a⟩ := u
  rw [Ty.eta_eq, if_pos rfl, longB_mk, headIx_mk, Tm.mk.injEq, Bool.and_eq_true, Bool.or_eq_true, Bool.not_eq_true', decide_eq_true_eq, decide_eq_false_iff_not, decide_eq_true_eq]
  constructor
  · rintro ⟨rfl, rfl, rfl, rfl⟩
    refine ⟨⟨rfl, .inr (by omega)⟩, ⟨rfl, ?_⟩, rfl⟩
    rw [if_pos rfl]; omega
  · rintro ⟨⟨h1, h2⟩, ⟨h3, h4⟩, h5⟩
    have h3 : k = 0 := h3
    have h5 : bs = l := h5
    rw [if_pos h3] at h4
    subst h5
    exact ⟨rfl, h3, by omega, h1⟩
theorem longB_args {t : Tm} (h : t.args ≠ Ty.etas t.binds) : longB t = false := by unfold longB; rw [decide_eq_false h]; rfl
set_option maxHeartbeats 2000000 in
theorem var_d : ∀ (t : Tm), t.full ≤ 100000 → t.Fit → PureC Tryz.prog 150 [.ag (eTm t)] (varV t) := by
 intro t
 induction t using Tm.ind with
 | h b k i a ih =>
 intro hz hf
 obtain ⟨f1, f2, f3⟩ := Tm.fit_iff.1 hf
 rw [Tm.full_eq] at hz
 have hbl := Ty.le_sizes b
 have hal : a.length ≤ Tm.fulls a := by
  clear ih hz hf f3
  induction a with
  | nil => simp
  | cons u a ih => have : 1 ≤ u.full := Tm.full_pos u; simp only [Tm.fulls, List.length_cons]; omega
 unfold varV
 rw [eTm_eq]
 by_cases hlen : a.length = b.length
 ·by_cases hk : k = 0 ∧ i < (b.length : Int)
  ·have hlo : longB (.mk b k i a) = false := by
    rw [longB_mk, decide_eq_true hk.1, decide_eq_false (by omega : ¬ (b.length : Int) ≤ i)]; simp
   rw [hlo]
   simp only [bindsT, kindT, indexT, argsTm]
   refine calldw 0 78 [ResultVar.cell 2 33, ResultVar.tmp 3] TTM_ok Tryz.func150 rfl Tryz.ntmps150 rfl fun cx hnt hn0 => ?_
   ·skip
    refine dw_seq ?_; refine dwk [] TTM_ok hnt fun K hK => ?_; refine hK _ _ ?_; clear hK K; refine dw_seq ?_; refine dwk [(12, .v (.int .i64 (↑b.length)))] TTM_ok hnt fun K hK => ?_; refine And.intro (dintE (by rw [eTys_len])) ?_; refine hK _ _ ?_; clear hK K; refine dw_seq ?_; refine dwk [] TTM_ok hnt fun K hK => ?_; refine hK _ _ ?_; clear hK K; refine dw_seq ?_; refine dw_seq ?_; refine dwk [(17, .v (.int .i64 (↑a.length))), (19, .v (.bool false)), (23, .v (.bool true)), (28, .v (.bool true))] TTM_ok hnt fun K hK => ?_
    refine And.intro (dintE (by rw [eTms_len])) ?_; refine And.intro (bneF (by omega)) ?_; refine And.intro (beqT hk.1) ?_; refine And.intro auT ?_; refine hK _ _ ?_; clear hK K; refine dw_cond (t := true) rfl ?_; rw [if_pos rfl]; refine dw_seq ?_; refine dwk [] TTM_ok hnt fun K hK => ?_; refine hK _ _ ?_; clear hK K; refine dw_ret ?_
    exact reta rfl
  ·have hlo : longB (.mk b k i a) = decide (a = Ty.etas b) := by
    rw [longB_mk]
    by_cases h : k = 0
    ·rw [decide_eq_true (show (b.length : Int) ≤ i by omega)]; simp
    ·rw [decide_eq_false h]; simp
   have hhd : (Tm.mk b k i a).headIx = if k = 0 then i - (b.length : Nat) else i := rfl
   rw [hlo, hhd]
   simp only [bindsT, kindT, indexT, argsTm]
   refine calldw 0 78 [ResultVar.cell 2 33, ResultVar.tmp 3] TTM_ok Tryz.func150 rfl Tryz.ntmps150 rfl fun cx hnt hn0 => ?_
   ·skip
    refine dw_seq ?_; refine dwk [] TTM_ok hnt fun K hK => ?_; refine hK _ _ ?_; clear hK K; refine dw_seq ?_; refine dwk [(12, .v (.int .i64 (↑b.length)))] TTM_ok hnt fun K hK => ?_; refine And.intro (dintE (by rw [eTys_len])) ?_; refine hK _ _ ?_; clear hK K; refine dw_seq ?_; refine dwk [] TTM_ok hnt fun K hK => ?_; refine hK _ _ ?_; clear hK K
    refine dw_cut (τ := [(.t 1, .p 0 0), (.t 2, .p 1 0), (.t 4, .v (.int .i64 ↑b.length)), (.t 5, .p 9 0), (.c 0 0, .sl 2 (eTys b) none), (.c 0 3, .sl 4 (eTms a) none), (.c 1 0, .v (.int .i64 0)), (.c 1 1, .v (.int .i64 0)), (.c 9 0, .v (.int .i64 k)), (.c 9 1, .v (.int .i64 i))]) (N1 := 10) ?_ ?_
    ·by_cases h : k = 0
     ·skip
      refine dw_seq ?_; refine dwk [(17, .v (.int .i64 (↑a.length))), (19, .v (.bool false)), (23, .v (.bool true)), (28, .v (.bool false))] TTM_ok hnt fun K hK => ?_; refine And.intro (dintE (by rw [eTms_len])) ?_; refine And.intro (bneF (by omega)) ?_; refine And.intro (beqT h) ?_; refine And.intro auF ?_; refine hK _ _ ?_; clear hK K; refine dw_cond (t := false) rfl ?_; rw [if_neg (by simp)]; refine dw_skip ?_
      exact cut_ok VS.toA
     ·skip
      refine dw_seq ?_; refine dwk [(17, .v (.int .i64 (↑a.length))), (19, .v (.bool false)), (23, .v (.bool false))] TTM_ok hnt fun K hK => ?_; refine And.intro (dintE (by rw [eTms_len])) ?_; refine And.intro (bneF (by omega)) ?_; refine And.intro (beqF h) ?_; refine hK _ _ ?_; clear hK K; refine dw_cond (t := false) rfl ?_; rw [if_neg (by simp)]; refine dw_skip ?_
      exact cut_ok VS.toA
    ·skip
     refine dw_seq ?_; refine dw_seq ?_; refine dwk [(34, .v (.int .i64 (↑a.length)))] TTM_ok hnt fun K hK => ?_; refine And.intro (dintE (by rw [eTms_len])) ?_; refine hK _ _ ?_; clear hK K; refine dw_block ?_
     refine dw_loop (ι := { j : Nat // a.take j = (Ty.etas b).take j }) (fun j => [(.t 1, .p 0 0), (.t 2, .p 1 0), (.t 4, .v (.int .i64 ↑b.length)), (.t 5, .p 9 0), (.t 33, .sl 4 (eTms a) none), (.t 34, .v (.int .i64 ↑a.length)), (.t 35, .v (.int .i64 ↑j.1)), (.c 0 0, .sl 2 (eTys b) none), (.c 1 0, .v (.int .i64 0)), (.c 1 1, .v (.int .i64 0)), (.c 9 0, .v (.int .i64 k)), (.c 9 1, .v (.int .i64 i))]) 10 (fun j => a.length - j.1) (⟨0, rfl⟩) (VS.toA) fun j => ?_
     obtain ⟨j, hj⟩ := j
     dsimp only
     by_cases hlt : j < a.length
     ·have hltb : j < b.length := by omega
      have hlte : j < (Ty.etas b).length := by rw [Ty.etas_len]; omega
      have hmem := List.getElem_mem hlt
      have hfm := Tm.full_mem hmem
      have hih := ih a[j] hmem (by omega) (f3 _ hmem)
      have hei := eta_iff (u := a[j]) (b := b[j]) (x := (b.length : Int) - 1 - (j : Int)) (by omega)
      rw [← Ty.etas_get b j hltb] at hei
      have hbad : a[j] ≠ (Ty.etas b)[j] → decide (a = Ty.etas b) = false := fun h => decide_eq_false (ne_at hlt hlte h)
      have hq := eqTys_d a[j].binds b[j].args 52 rfl
      unfold varV at hih
      rw [eTm_eq] at hih
      refine dw_seq ?_; refine dwk [(36, .v (.bool true))] TTM_ok hnt fun K hK => ?_; refine And.intro auT ?_; refine hK _ _ ?_; clear hK K; refine dw_seq ?_; refine dw_cond (t := true) rfl ?_; rw [if_pos rfl]; refine dw_skip ?_; refine dw_seq ?_; refine dw_block ?_; refine dw_seq ?_; refine dwk [(38, .q [.sl 2 (eTys a[j].binds) none, .v (.int .i64 a[j].kind), .v (.int .i64 a[j].index), .sl 4 (eTms a[j].args) none])] TTM_ok hnt fun K hK => ?_
      refine And.intro (elo (eTms_len a)) ?_; refine And.intro (elv (eTms_getD a j) (eTm_eq _)) ?_; refine hK _ _ ?_; clear hK K
      cases h1 : longB a[j] with
      | false =>
       rw [h1] at hih
       rw [hbad fun e => by rw [hei, h1] at e; exact absurd e.1 (by simp)]
       refine dw_seq ?_; refine dwk [] TTM_ok hnt fun K hK => ?_; refine dcl (hih) ?_; refine hK _ _ ?_; clear hK K; refine dw_seq ?_; refine dw_seq ?_; refine dwk [] TTM_ok hnt fun K hK => ?_; refine hK _ _ ?_; clear hK K; refine dw_cond (t := true) rfl ?_; rw [if_pos rfl]; refine dw_seq ?_; refine dwk [] TTM_ok hnt fun K hK => ?_; refine hK _ _ ?_; clear hK K; refine dw_ret ?_
       exact reta rfl
      | true =>
       rw [h1, if_pos rfl, if_pos rfl] at hih
       refine dw_seq ?_; refine dwk [] TTM_ok hnt fun K hK => ?_; refine dcl (hih) ?_; refine hK _ _ ?_; clear hK K
       by_cases h2 : a[j].kind = 0 ∧ a[j].headIx = (b.length : Int) - 1 - (j : Int)
       ·skip
        refine dw_seq ?_; refine dw_seq ?_; refine dwk [(50, .v (.int .i64 (↑b.length - 1))), (52, .v (.int .i64 (↑b.length - 1 - ↑j))), (54, .v (.bool false))] TTM_ok hnt fun K hK => ?_; refine And.intro auI ?_; refine And.intro auI ?_; refine And.intro (VLe.of_eq (by congr 2; simp [h2])) ?_; refine hK _ _ ?_; clear hK K; refine dw_cond (t := false) rfl ?_; rw [if_neg (by simp)]
        by_cases h3 : a[j].binds = b[j].args
        ·rw [decide_eq_true h3] at hq
         refine dw_skip ?_; refine dw_seq ?_; refine dwkD [(62, .q [.sl 2 (eTys b[j].args) none, .v (.int .i64 b[j].base)])] TTM_ok hnt fun K hK => ?_; refine And.intro (elo (eTys_len b)) ?_; refine And.intro (elv (eTys_getD b j) (eTy_eq _)) ?_; refine dcl (hq) ?_; refine hK _ _ (by kernel_rfl) ?_; clear hK K; refine dw_cond (t := false) rfl ?_; rw [if_neg (by simp)]; refine dw_skip ?_; refine dwk [(68, .v (.int .i64 (↑(j + 1))))] TTM_ok hnt fun K hK => ?_
         refine And.intro auI ?_; refine hK _ _ ?_; clear hK K
         refine ⟨⟨j + 1, take_succ_eq hj hlt hlte (hei.2 ⟨h1, h2, h3⟩)⟩, by first | omega | (dsimp only; omega), VS.toA⟩
        ·rw [decide_eq_false h3] at hq
         rw [hbad fun e => h3 (hei.1 e).2.2]
         refine dw_skip ?_; refine dw_seq ?_; refine dwkD [(62, .q [.sl 2 (eTys b[j].args) none, .v (.int .i64 b[j].base)])] TTM_ok hnt fun K hK => ?_; refine And.intro (elo (eTys_len b)) ?_; refine And.intro (elv (eTys_getD b j) (eTy_eq _)) ?_; refine dcl (hq) ?_; refine hK _ _ (by kernel_rfl) ?_; clear hK K; refine dw_cond (t := true) rfl ?_; rw [if_pos rfl]; refine dw_seq ?_; refine dwk [] TTM_ok hnt fun K hK => ?_
         refine hK _ _ ?_; clear hK K; refine dw_ret ?_
         exact reta rfl
       ·rw [hbad fun e => h2 (hei.1 e).2.1]
        refine dw_seq ?_; refine dw_seq ?_; refine dwk [(50, .v (.int .i64 (↑b.length - 1))), (52, .v (.int .i64 (↑b.length - 1 - ↑j))), (54, .v (.bool true))] TTM_ok hnt fun K hK => ?_; refine And.intro auI ?_; refine And.intro auI ?_; refine And.intro (VLe.of_eq (by congr 2; by_cases h4 : a[j].kind = 0 <;> by_cases h5 : a[j].headIx = (b.length : Int) - 1 - (j : Int) <;> simp_all)) ?_; refine hK _ _ ?_; clear hK K
        refine dw_cond (t := true) rfl ?_; rw [if_pos rfl]; refine dw_seq ?_; refine dwk [] TTM_ok hnt fun K hK => ?_; refine hK _ _ ?_; clear hK K; refine dw_ret ?_
        exact reta rfl
     ·rw [decide_eq_true (eq_of_take hj (by omega) (by rw [Ty.etas_len]; omega)), if_pos rfl, if_pos rfl]
      by_cases h : k = 0
      ·rw [if_pos h]; refine dw_seq ?_; refine dwk [(36, .v (.bool false))] TTM_ok hnt fun K hK => ?_; refine And.intro auF ?_; refine hK _ _ ?_; clear hK K; refine dw_seq ?_; refine dw_cond (t := false) rfl ?_; rw [if_neg (by simp)]; refine dw_exit ?_; refine dw_seq ?_; refine dw_seq ?_; refine dwk [(71, .v (.bool true))] TTM_ok hnt fun K hK => ?_; refine And.intro (beqT h) ?_; refine hK _ _ ?_; clear hK K
       refine dw_cond (t := true) rfl ?_; rw [if_pos rfl]; refine dwk [(75, .v (.int .i64 (i - ↑b.length)))] TTM_ok hnt fun K hK => ?_; refine And.intro auI ?_; refine hK _ _ ?_; clear hK K; refine dw_seq ?_; refine dwk [] TTM_ok hnt fun K hK => ?_; refine hK _ _ ?_; clear hK K; refine dw_ret ?_
       exact reta rfl
      ·rw [if_neg h]; refine dw_seq ?_; refine dwk [(36, .v (.bool false))] TTM_ok hnt fun K hK => ?_; refine And.intro auF ?_; refine hK _ _ ?_; clear hK K; refine dw_seq ?_; refine dw_cond (t := false) rfl ?_; rw [if_neg (by simp)]; refine dw_exit ?_; refine dw_seq ?_; refine dw_seq ?_; refine dwk [(71, .v (.bool false))] TTM_ok hnt fun K hK => ?_; refine And.intro (beqF h) ?_; refine hK _ _ ?_; clear hK K
       refine dw_cond (t := false) rfl ?_; rw [if_neg (by simp)]; refine dw_skip ?_; refine dw_seq ?_; refine dwk [] TTM_ok hnt fun K hK => ?_; refine hK _ _ ?_; clear hK K; refine dw_ret ?_
       exact reta rfl
 ·have hne : a ≠ Ty.etas b := fun e => hlen (by rw [e, Ty.etas_len])
  rw [longB_args (t := .mk b k i a) hne]
  simp only [bindsT, kindT, indexT, argsTm]
  refine calldw 0 78 [ResultVar.cell 2 33, ResultVar.tmp 3] TTM_ok Tryz.func150 rfl Tryz.ntmps150 rfl fun cx hnt hn0 => ?_
  ·skip
   refine dw_seq ?_; refine dwk [] TTM_ok hnt fun K hK => ?_; refine hK _ _ ?_; clear hK K; refine dw_seq ?_; refine dwk [(12, .v (.int .i64 (↑b.length)))] TTM_ok hnt fun K hK => ?_; refine And.intro (dintE (by rw [eTys_len])) ?_; refine hK _ _ ?_; clear hK K; refine dw_seq ?_; refine dwk [] TTM_ok hnt fun K hK => ?_; refine hK _ _ ?_; clear hK K; refine dw_seq ?_; refine dw_seq ?_; refine dwk [(17, .v (.int .i64 (↑a.length))), (19, .v (.bool true))] TTM_ok hnt fun K hK => ?_
   refine And.intro (dintE (by rw [eTms_len])) ?_; refine And.intro (bneT (by omega)) ?_; refine hK _ _ ?_; clear hK K; refine dw_cond (t := true) rfl ?_; rw [if_pos rfl]; refine dw_seq ?_; refine dwk [] TTM_ok hnt fun K hK => ?_; refine hK _ _ ?_; clear hK K; refine dw_ret ?_
   exact reta rfl
set_option maxHeartbeats 2000000 in
theorem rvar_d (t : Tm) (hz : t.full ≤ 100000) (hf : t.Fit) : PureC Tryz.prog 131 [.ag (eTm t)] (varV t) := by
 obtain ⟨b, k, i, a⟩ := t
 obtain ⟨f1, f2, f3⟩ := Tm.fit_iff.1 hf
 rw [Tm.full_eq] at hz
 have hbl := Ty.le_sizes b
 unfold varV
 by_cases hk : k = 0 ∧ i < (b.length : Int)
 ·have hlo : longB (.mk b k i a) = false := by
   rw [longB_mk, decide_eq_true hk.1, decide_eq_false (by omega : ¬ (b.length : Int) ≤ i)]; simp
  rw [hlo, eTm_eq]
  simp only [bindsT, kindT, indexT, argsTm]
  refine calldw 0 47 [ResultVar.cell 2 24, ResultVar.tmp 3] TTM_ok Tryz.func131 rfl Tryz.ntmps131 rfl fun cx hnt hn0 => ?_
  ·skip
   refine dw_seq ?_; refine dwk [] TTM_ok hnt fun K hK => ?_; refine hK _ _ ?_; clear hK K; refine dw_seq ?_; refine dwk [] TTM_ok hnt fun K hK => ?_; refine hK _ _ ?_; clear hK K; refine dw_seq ?_; refine dw_seq ?_; refine dwk [(10, .v (.bool true))] TTM_ok hnt fun K hK => ?_; refine And.intro (beqT hk.1) ?_; refine hK _ _ ?_; clear hK K; refine dw_cond (t := true) rfl ?_; rw [if_pos rfl]; refine dw_seq ?_
   refine dw_seq ?_; refine dwk [(15, .v (.int .i64 (↑b.length))), (16, .v (.bool true))] TTM_ok hnt fun K hK => ?_; refine And.intro (dintE (by rw [eTys_len])) ?_; refine And.intro auT ?_; refine hK _ _ ?_; clear hK K; refine dw_cond (t := true) rfl ?_; rw [if_pos rfl]; refine dw_seq ?_; refine dwk [] TTM_ok hnt fun K hK => ?_; refine hK _ _ ?_; clear hK K; refine dw_ret ?_
   exact reta rfl
 ·have hlo : longB (.mk b k i a) = decide (a = Ty.etas b) := by
   rw [longB_mk]
   by_cases h : k = 0
   ·rw [decide_eq_true (show (b.length : Int) ≤ i by omega)]; simp
   ·rw [decide_eq_false h]; simp
  have hhd : (Tm.mk b k i a).headIx = if k = 0 then i - (b.length : Nat) else i := rfl
  obtain ⟨h, hh⟩ : ∃ h, (if k = 0 then i - (b.length : Nat) else i) = h := ⟨_, rfl⟩
  have hE := reta6_d (.mk b 0) k h (by rw [ty_size]; omega) (fun e => by rw [argsTy]; rw [if_pos e] at hh; omega)
  have he : Ty.eta (.mk b 0) k h = .mk b k i (Ty.etas b) := by
   rw [Ty.eta_eq]
   congr 1
   by_cases e : k = 0
   ·rw [if_pos e] at hh ⊢; omega
   ·rw [if_neg e] at hh ⊢; omega
  have hS := same2_d (.mk b k i (Ty.etas b)) (.mk b k i a)
  have hd : decide (Tm.mk b k i (Ty.etas b) = .mk b k i a) = decide (a = Ty.etas b) := by
   rw [Bool.eq_iff_iff, decide_eq_true_iff, decide_eq_true_iff, Tm.mk.injEq]
   exact ⟨fun e => e.2.2.2.symm, fun e => ⟨rfl, rfl, rfl, e.symm⟩⟩
  rw [he, eTm_eq, eTy_eq] at hE
  rw [hd, eTm_eq, eTm_eq] at hS
  rw [hlo, hhd, hh, eTm_eq]
  simp only [bindsT, kindT, indexT, argsTm, args_mk', base_mk'] at hE hS ⊢
  refine calldw 0 47 [ResultVar.cell 2 24, ResultVar.tmp 3] TTM_ok Tryz.func131 rfl Tryz.ntmps131 rfl fun cx hnt hn0 => ?_
  ·skip
   refine dw_seq ?_; refine dwk [] TTM_ok hnt fun K hK => ?_; refine hK _ _ ?_; clear hK K; refine dw_seq ?_; refine dwk [] TTM_ok hnt fun K hK => ?_; refine hK _ _ ?_; clear hK K
   refine dw_cut (τ := [(.t 1, .p 0 0), (.t 2, .p 1 0), (.t 4, .p 5 0), (.c 0 0, .sl 2 (eTys b) none), (.c 0 1, .v (.int .i64 k)), (.c 0 2, .v (.int .i64 i)), (.c 0 3, .sl 4 (eTms a) none), (.c 1 0, .v (.int .i64 0)), (.c 1 1, .v (.int .i64 0)), (.c 5 0, .v (.int .i64 k)), (.c 5 1, .v (.int .i64 h))]) (N1 := 6) ?_ ?_
   ·by_cases e : k = 0
    ·rw [if_pos e] at hh; refine dw_seq ?_; refine dwk [(10, .v (.bool true))] TTM_ok hnt fun K hK => ?_; refine And.intro (beqT e) ?_; refine hK _ _ ?_; clear hK K; refine dw_cond (t := true) rfl ?_; rw [if_pos rfl]; refine dw_seq ?_; refine dw_seq ?_; refine dwk [(15, .v (.int .i64 (↑b.length))), (16, .v (.bool false))] TTM_ok hnt fun K hK => ?_; refine And.intro (dintE (by rw [eTys_len])) ?_; refine And.intro auF ?_
     refine hK _ _ ?_; clear hK K; refine dw_cond (t := false) rfl ?_; rw [if_neg (by simp)]; refine dw_skip ?_; refine dwk [(22, .v (.int .i64 (↑b.length))), (23, .v (.int .i64 (h)))] TTM_ok hnt fun K hK => ?_; refine And.intro (dintE (by rw [eTys_len])) ?_; refine And.intro auI ?_; refine hK _ _ ?_; clear hK K
     exact cut_ok VS.toA
    ·rw [if_neg e] at hh
     subst hh
     refine dw_seq ?_; refine dwk [(10, .v (.bool false))] TTM_ok hnt fun K hK => ?_; refine And.intro (beqF e) ?_; refine hK _ _ ?_; clear hK K; refine dw_cond (t := false) rfl ?_; rw [if_neg (by simp)]; refine dw_skip ?_
     exact cut_ok VS.toA
   ·skip
    refine dw_seq ?_; refine dwk [] TTM_ok hnt fun K hK => ?_; refine dcl (hE) ?_; refine hK _ _ ?_; clear hK K
    refine dw_cut (τ := [(.t 1, .p 0 0), (.t 2, .p 1 0), (.t 4, .p 5 0), (.t 5, .p 11 0), (.c 0 0, .sl 2 (eTys b) none), (.c 0 1, .v (.int .i64 k)), (.c 0 2, .v (.int .i64 i)), (.c 0 3, .sl 4 (eTms a) none), (.c 1 0, .v (.int .i64 0)), (.c 1 1, .v (.int .i64 0)), (.c 5 0, .v (.int .i64 k)), (.c 5 1, .v (.int .i64 h)), (.c 11 0, .sl 2 (eTys b) none), (.c 11 1, .v (.int .i64 k)), (.c 11 2, .v (.int .i64 i)), (.c 11 3, .sl 4 (eTms (Ty.etas b)) none)]) (N1 := 12) ?_ ?_
    ·by_cases e : k = 0
     ·by_cases e2 : 1000 < h
      ·skip
       refine dw_seq ?_; refine dwk [(32, .v (.bool true)), (36, .v (.bool true))] TTM_ok hnt fun K hK => ?_; refine And.intro (beqT e) ?_; refine And.intro auT ?_; refine hK _ _ ?_; clear hK K; refine dw_cond (t := true) rfl ?_; rw [if_pos rfl]; refine dwk [] TTM_ok hnt fun K hK => ?_; refine hK _ _ ?_; clear hK K
       exact cut_ok VS.toA
      ·skip
       refine dw_seq ?_; refine dwk [(32, .v (.bool true)), (36, .v (.bool false))] TTM_ok hnt fun K hK => ?_; refine And.intro (beqT e) ?_; refine And.intro auF ?_; refine hK _ _ ?_; clear hK K; refine dw_cond (t := false) rfl ?_; rw [if_neg (by simp)]; refine dw_skip ?_
       exact cut_ok VS.toA
     ·skip
      refine dw_seq ?_; refine dwk [(32, .v (.bool false))] TTM_ok hnt fun K hK => ?_; refine And.intro (beqF e) ?_; refine hK _ _ ?_; clear hK K; refine dw_cond (t := false) rfl ?_; rw [if_neg (by simp)]; refine dw_skip ?_
      exact cut_ok VS.toA
    ·cases hdd : decide (a = Ty.etas b) with
     | true =>
      rw [hdd] at hS
      rw [if_pos rfl, if_pos rfl]; refine dw_seq ?_; refine dw_seq ?_; refine dwk [] TTM_ok hnt fun K hK => ?_; refine dcl (hS) ?_; refine hK _ _ ?_; clear hK K; refine dw_cond (t := false) rfl ?_; rw [if_neg (by simp)]; refine dw_skip ?_; refine dw_seq ?_; refine dwk [] TTM_ok hnt fun K hK => ?_; refine hK _ _ ?_; clear hK K; refine dw_ret ?_
      exact reta rfl
     | false =>
      rw [hdd] at hS
      rw [if_neg (by simp), if_neg (by simp)]; refine dw_seq ?_; refine dw_seq ?_; refine dwk [] TTM_ok hnt fun K hK => ?_; refine dcl (hS) ?_; refine hK _ _ ?_; clear hK K; refine dw_cond (t := true) rfl ?_; rw [if_pos rfl]; refine dw_seq ?_; refine dwk [] TTM_ok hnt fun K hK => ?_; refine hK _ _ ?_; clear hK K; refine dw_ret ?_
      exact reta rfl
end Go.Proofs.YtdmiekaeodcehaaGreat

namespace Go.Proofs.YtdmiekaeodcehaaGreat
open Go.RowKit Go.Shelf
attribute [local go_sem] Oper.semAt_some

def looseL (n x : Int) : Int := if (if x > 1000 then 1000 else x) + 1 > n then (if x > 1000 then 1000 else x) + 1 else n

end Go.Proofs.YtdmiekaeodcehaaGreat

namespace Go.Proofs.YtdmiekaeodcehaaGreat
open Go.RowKit
def TP1_3 : TI := ⟨1, false, [Value.int IntKind.i64 0], [], none, 8, 2, none, false⟩
theorem TP1_3_ok : TypOk Tryz.prog 3 TP1_3 := ⟨by kernel_rfl, by kernel_rfl, by kernel_rfl, by kernel_rfl, by kernel_rfl⟩
def TP1_36 : TI := ⟨4, true, [Value.slice none 0 0, Value.int IntKind.i64 0, Value.int IntKind.i64 0, Value.slice none 0 0], [(0, 1, false), (1, 2, true), (3, 1, false)], none, 64, 6, none, false⟩
theorem TP1_36_ok : TypOk Tryz.prog 36 TP1_36 := ⟨by kernel_rfl, by kernel_rfl, by kernel_rfl, by kernel_rfl, by kernel_rfl⟩
def TP1_82 : TI := ⟨1, false, [Value.slice none 0 0], [], some 3, 24, 5, none, false⟩
theorem TP1_82_ok : TypOk Tryz.prog 82 TP1_82 := ⟨by kernel_rfl, by kernel_rfl, by kernel_rfl, by kernel_rfl, by kernel_rfl⟩
def TP1_33 : TI := ⟨2, true, [Value.int IntKind.i64 0, Value.int IntKind.i64 0], [(0, 1, false), (1, 1, false)], none, 16, 6, none, true⟩
theorem TP1_33_ok : TypOk Tryz.prog 33 TP1_33 := ⟨by kernel_rfl, by kernel_rfl, by kernel_rfl, by kernel_rfl, by kernel_rfl⟩
def TP1_32 : TI := ⟨1, false, [Value.slice none 0 0], [], some 75, 24, 5, none, false⟩
theorem TP1_32_ok : TypOk Tryz.prog 32 TP1_32 := ⟨by kernel_rfl, by kernel_rfl, by kernel_rfl, by kernel_rfl, by kernel_rfl⟩
def TP1_175 : TI := ⟨1, false, [Value.slice none 0 0], [], some 32, 24, 5, none, false⟩
theorem TP1_175_ok : TypOk Tryz.prog 175 TP1_175 := ⟨by kernel_rfl, by kernel_rfl, by kernel_rfl, by kernel_rfl, by kernel_rfl⟩
def TP1_209 : TI := ⟨1, false, [Value.map none], [], none, 8, 7, some 4, false⟩
theorem TP1_209_ok : TypOk Tryz.prog 209 TP1_209 := ⟨by kernel_rfl, by kernel_rfl, by kernel_rfl, by kernel_rfl, by kernel_rfl⟩
def TP1_34 : TI := ⟨1, false, [Value.slice none 0 0], [], some 36, 24, 5, none, false⟩
theorem TP1_34_ok : TypOk Tryz.prog 34 TP1_34 := ⟨by kernel_rfl, by kernel_rfl, by kernel_rfl, by kernel_rfl, by kernel_rfl⟩
def TP1_75 : TI := ⟨2, true, [Value.slice none 0 0, Value.int IntKind.i64 0], [(0, 1, false), (1, 1, false)], none, 32, 6, none, false⟩
theorem TP1_75_ok : TypOk Tryz.prog 75 TP1_75 := ⟨by kernel_rfl, by kernel_rfl, by kernel_rfl, by kernel_rfl, by kernel_rfl⟩
def TP1_4 : TI := ⟨1, false, [Value.bool false], [], none, 1, 1, none, false⟩
theorem TP1_4_ok : TypOk Tryz.prog 4 TP1_4 := ⟨by kernel_rfl, by kernel_rfl, by kernel_rfl, by kernel_rfl, by kernel_rfl⟩
def TP1 : List (Nat × TI) := [(3, TP1_3), (36, TP1_36), (82, TP1_82), (33, TP1_33), (32, TP1_32), (175, TP1_175), (209, TP1_209), (34, TP1_34), (75, TP1_75), (4, TP1_4)]
theorem TP1_ok : TabOk Tryz.prog TP1 := (((((((((((TabOk.nil _).cons TP1_4_ok).cons TP1_75_ok).cons TP1_34_ok).cons TP1_209_ok).cons TP1_175_ok).cons TP1_32_ok).cons TP1_33_ok).cons TP1_82_ok).cons TP1_36_ok).cons TP1_3_ok)

/-! ints -/
def eIs (l : List Int) : List (List D) := l.map fun i => [.v (.int .i64 i)]
theorem eIs_len (l : List Int) : (eIs l).length = l.length := List.length_map ..
theorem eIs_append (l r : List Int) : eIs (l ++ r) = eIs l ++ eIs r := List.map_append ..
theorem eIs_getD (l : List Int) (i : Nat) (h : i < l.length) : (eIs l).getD i [] = [.v (.int .i64 l[i])] := by
  rw [eIs, List.getD_eq_getElem?_getD, List.getElem?_map, List.getElem?_eq_getElem h]; rfl
@[simp] theorem eIs_ok (f g : Nat → Bool) (l : List Int) : D.okss f g (eIs l) = true := D.okss_map _ l fun _ _ => rfl
/-! slices.Clip, Clone, Concat -/
theorem clip_d (l : List Int) : PureC Tryz.prog 137 [.sl 1 (eIs l) none] (.cl 1 (eIs l)) := by
 refine calldw 0 9 [ResultVar.tmp 2] TP1_ok Tryz.func137 rfl Tryz.ntmps137 rfl fun cx hnt hn0 => ?_
 ·skip
  refine dw_seq ?_; refine dwk [] TP1_ok hnt fun K hK => ?_; refine hK _ _ ?_; clear hK K; refine dw_seq ?_; refine dwk [(8, .cl 1 (eIs l))] TP1_ok hnt fun K hK => ?_; refine And.intro (⟨by omega, rfl, by omega⟩) ?_; refine And.intro (VLe.of_eq (by simp)) ?_; refine hK _ _ ?_; clear hK K; refine dw_ret ?_
  exact reta rfl
theorem clone_nil (a : Option Addr) (c : Nat) : PureC Tryz.prog 136 [.v (.slice a 0 c)] (.sl 1 [] none) := by
 refine calldw 0 8 [ResultVar.tmp 2] TP1_ok Tryz.func136 rfl Tryz.ntmps136 rfl fun cx hnt hn0 => ?_
 ·skip
  refine dw_seq ?_; refine dwk [] TP1_ok hnt fun K hK => ?_; refine hK _ _ ?_; clear hK K
  cases a with
  | none =>
   refine dw_seq ?_; refine dw_seq ?_; refine dwk [(4, .v (.bool true))] TP1_ok hnt fun K hK => ?_; refine And.intro (VLe.refl _) ?_; refine hK _ _ ?_; clear hK K; refine dw_cond (t := true) rfl ?_; rw [if_pos rfl]; refine dw_seq ?_; refine dwk [] TP1_ok hnt fun K hK => ?_; refine hK _ _ ?_; clear hK K; refine dw_ret ?_
   exact reta rfl
  | some a =>
   refine dw_seq ?_; refine dw_seq ?_; refine dwk [(4, .v (.bool false))] TP1_ok hnt fun K hK => ?_; refine And.intro (VLe.refl _) ?_; refine hK _ _ ?_; clear hK K; refine dw_cond (t := false) rfl ?_; rw [if_neg (by simp)]; refine dw_skip ?_; refine dw_seq ?_; refine dwk [] TP1_ok hnt fun K hK => ?_; refine And.intro (⟨rfl, by decide⟩) ?_; refine hK _ _ ?_; clear hK K; refine dw_ret ?_
   exact reta rfl
theorem clone_cons (x : Int) (l : List Int) (hl : l.length ≤ 900000) : PureC Tryz.prog 136 [.sl 1 (eIs (x :: l)) none] (.sl 1 (eIs (x :: l)) none) := by
 refine calldw 0 8 [ResultVar.tmp 2] TP1_ok Tryz.func136 rfl Tryz.ntmps136 rfl fun cx hnt hn0 => ?_
 ·skip
  refine dw_seq ?_; refine dwk [] TP1_ok hnt fun K hK => ?_; refine hK _ _ ?_; clear hK K; refine dw_seq ?_; refine dw_seq ?_; refine dwk [(4, .v (.bool false))] TP1_ok hnt fun K hK => ?_; refine And.intro (VLe.refl _) ?_; refine hK _ _ ?_; clear hK K; refine dw_cond (t := false) rfl ?_; rw [if_neg (by simp)]; refine dw_skip ?_; refine dw_seq ?_; refine dwk [] TP1_ok hnt fun K hK => ?_; refine And.intro (⟨rfl, by simp [eIs_len]; omega⟩) ?_
  refine hK _ _ ?_; clear hK K; refine dw_ret ?_
  exact reta rfl
theorem clone_d (l : List Int) (hl : l.length ≤ 900000) : PureC Tryz.prog 136 [.sl 1 (eIs l) none] (.sl 1 (eIs l) none) := by
  cases l with
  | cons x l => exact clone_cons x l (by simp at hl; omega)
  | nil =>
    refine ⟨by kernel_rfl, fun cx Fr m Im w vs hm hv hR => ?_⟩
    match vs, hv with
    | [v], hv =>
      obtain ⟨a, c, bl, off, X, rfl, _⟩ := rel_sl hv.1
      exact (clone_nil a c).2 cx Fr m Im w _ hm ⟨.v _, trivial⟩ hR
end Go.Proofs.YtdmiekaeodcehaaGreat

namespace Go.Proofs.YtdmiekaeodcehaaGreat
open Go.RowKit

theorem cut_none (m : Mp) : (m.cut (fun _ => false) noR).le m00 := ⟨fun k b h => by simp [Mp.cut] at h, fun g R h => by simp [Mp.cut, noR] at h, fun k b h => by simp [Mp.cut] at h⟩
theorem entry0 {cx : Cx} {Fr : Nat → Prop} {m : Mp} {Im : Nat → Nat → Prop} {w : World} {vs : List Value} {args : List D} (hm : MemOk cx Fr m Im w) (hr : RelL m Im w vs args) (ha : args.all (fun d => d.ok (fun _ => false) noR) = true) (nt : Nat) (hnt : args.length ≤ nt) {n : Nat} (hn : n = nt) :
    ∃ cx' : Cx, cx'.nt = nt ∧ cx'.n0 = 0 ∧ cx'.w0 = w ∧ (∀ b, ¬ cx'.C b) ∧ cx'.Im0 = Im ∧ St cx' (fun k => 0 ≤ k) m00 Im w { tmps := vs.toArray ++ Array.replicate (n - vs.toArray.size) undef, defers := [] } (argsT 0 args []) := by
  subst hn
  have hvl : vs.length = args.length := (relL_iff.1 hr).1
  refine ⟨{ w0 := w, C := fun _ => False, Im0 := Im, m0 := m00, nt := n, n0 := 0, h0 := (fun k b hk => by cases hk), h0o := (fun k b hk => by cases hk) }, rfl, rfl, rfl, fun _ h => h, rfl, ?_⟩
  refine ⟨{
    off := Off.refl _ _, im := hm.im, imb := fun b o h => .inl h, im0 := fun b o h => h
    own := fun k b hk => by cases hk
    lt := fun k b hk => by cases hk
    free := fun k b o hk => by cases hk
    nim := fun k b o hk => by cases hk
    inj := fun k k' b hk => by cases hk
    row := fun g R hg => by cases hg
    k0 := KeepI.refl _ _
    rown := fun g R b hg => by cases hg
    m0r := fun g R hg => by cases hg
    rIm := fun g R b o hg => by cases hg
    rblk := fun g R b k hg => by cases hg
    rinj := fun g g' R R' b hg => by cases hg
    fr := fun k hk => ⟨rfl, rfl, rfl⟩
    m0 := fun k b hk => by cases hk
    m0o := fun k b hk => by cases hk
    oown := fun k b hk => by cases hk
    olt := fun k b hk => by cases hk
    onim := fun k b o hk => by cases hk
    oinj := fun k k' b hk => by cases hk
    oblk := fun k k' b hk => by cases hk
    orow := fun k g R b hk => by cases hk
    dis := fun k b hk => by cases hk }, rfl, by simp [hvl]; omega, fun x d hx => ?_, fun k off d hx => ?_, fun g d hx => ?_, fun d hx => ?_, fun k d hx => ?_⟩
  · rcases get_argsT args 0 x hx with ⟨j, h1, h2⟩ | hx
    · have hj : j < args.length := by
        rcases Nat.lt_or_ge j args.length with h' | h'
        · exact h'
        · rw [List.getElem?_eq_none h'] at h2; cases h2
      rw [List.getElem?_eq_getElem hj] at h2
      cases h2
      have hr := (relL_iff.1 hr).2 j hj
      have hx' : x = j := by omega
      subst hx'
      have : (vs.toArray ++ Array.replicate (n - vs.toArray.size) undef).getD x undef = vs.getD x undef := by
        have hx2 : x < vs.length := by omega
        rw [Array.getD_eq_getD_getElem?, Array.getElem?_append_left (by simpa using hx2), List.getD_eq_getElem?_getD]
        simp
      show Rel _ _ _ ((vs.toArray ++ Array.replicate (n - vs.toArray.size) undef).getD x undef) _
      rw [this]
      exact (hr.cut (List.all_eq_true.1 ha _ (List.getElem_mem hj))).mono (cut_none m) (KeepI.refl _ _) fun _ _ h => h
    · cases hx
  · rw [get_argsN (fun x => by simp) args 0] at hx; cases hx
  · rw [get_argsN (fun x => by simp) args 0] at hx; cases hx
  · rw [get_argsN (fun x => by simp) args 0] at hx; cases hx
  · rw [get_argsN (fun x => by simp) args 0] at hx; cases hx
def eMp (l : List (Int × Value)) : List (Int × D) := l.map fun p => (p.1, .v p.2)
end Go.Proofs.YtdmiekaeodcehaaGreat

namespace Go.Proofs.YtdmiekaeodcehaaGreat
open Go.RowKit

theorem full_mem {l : List Tm} {t : Tm} (h : t ∈ l) : t.full ≤ Tm.fulls l := by
  induction l with
  | nil => cases h
  | cons u l ih =>
    simp only [Tm.fulls]
    rcases List.mem_cons.1 h with rfl | h
    · omega
    · have := ih h; omega
theorem fulls_len (l : List Tm) : l.length ≤ Tm.fulls l := by
  induction l with
  | nil => simp
  | cons u l ih => have : 1 ≤ u.full := by obtain ⟨b, k, i, a⟩ := u; rw [Tm.full_eq]; omega
                   simp only [Tm.fulls, List.length_cons]; omega
theorem full_args (t : Tm) : t.full = Ty.sizes t.binds + Tm.fulls t.args + 1 := by obtain ⟨b, k, i, a⟩ := t; exact Tm.full_eq ..
theorem fit_args {t : Tm} (h : t.Fit) : ∀ u ∈ t.args, u.Fit := by obtain ⟨b, k, i, a⟩ := t; exact (Tm.fit_iff.1 h).2.2

theorem pflex_d (t : Tm) : PureC Tryz.prog 89 [.ag (eTm t)] (.v (.bool (decide (t.kind = 2)))) := by
 rw [eTm_eq]
 refine calldw 0 7 [ResultVar.tmp 2] TP1_ok Tryz.func89 rfl Tryz.ntmps89 rfl fun cx hnt hn0 => ?_
 ·skip
  refine dw_seq ?_; refine dwk [] TP1_ok hnt fun K hK => ?_; refine hK _ _ ?_; clear hK K; refine dw_seq ?_; refine dwk [(6, .v (.bool (decide (t.kind = 2))))] TP1_ok hnt fun K hK => ?_; refine And.intro (VLe.refl _) ?_; refine hK _ _ ?_; clear hK K; refine dw_ret ?_
  exact reta rfl

namespace Pn
theorem varsL_snoc (n : Int) : ∀ (l : List Tm) (a : Tm) (acc : List Int), varsL n (l ++ [a]) acc = (varsL n l acc).bind fun r => if isVar n r a then some (r ++ [a.headIx]) else none
  | [], a, acc => by simp [varsL]
  | b :: l, a, acc => by
    rw [List.cons_append, varsL, varsL]
    split
    · exact varsL_snoc n l a _
    · rfl
theorem varsL_take (n : Int) (l : List Tm) (j : Nat) (h : j < l.length) {acc : List Int} (hv : varsL n (l.take j) [] = some acc) : varsL n (l.take (j + 1)) [] = if isVar n acc l[j] then some (acc ++ [l[j].headIx]) else none := by
  rw [List.take_add_one, List.getElem?_eq_getElem h]
  show varsL n (l.take j ++ [l[j]]) [] = _
  rw [varsL_snoc, hv]; rfl
theorem varsL_app (n : Int) : ∀ (l r : List Tm) (acc : List Int), varsL n (l ++ r) acc = (varsL n l acc).bind fun x => varsL n r x
  | [], r, acc => rfl
  | b :: l, r, acc => by
    rw [List.cons_append, varsL, varsL]
    split
    · exact varsL_app n l r _
    · rfl
theorem varsL_none (n : Int) (l : List Tm) (j : Nat) (h : varsL n (l.take j) [] = none) : varsL n l [] = none := by
  rw [← List.take_append_drop j l, varsL_app, h]; rfl
theorem varsL_len (n : Int) : ∀ (l : List Tm) (acc r : List Int), varsL n l acc = some r → r.length = acc.length + l.length
  | [], acc, r, h => by cases h; simp
  | b :: l, acc, r, h => by
    rw [varsL] at h
    split at h
    · have := varsL_len n l _ _ h
      simp at this ⊢; omega
    · cases h
end Pn
def eMet (l : List Int) : List (Int × D) := l.map fun i => (i, .v (.bool true))
theorem okm_map {f g : Nat → Bool} {α : Type} (e : α → Int × D) (l : List α) (h : ∀ x ∈ l, (e x).2.ok f g = true) : D.okm f g (l.map e) = true := by
  induction l with
  | nil => rfl
  | cons x l ih =>
    have h1 := h x (by simp)
    have h2 := ih fun y hy => h y (by simp [hy])
    simp only [List.map_cons]
    generalize e x = p at h1 ⊢
    obtain ⟨i, d⟩ := p
    simp only [D.okm, Bool.and_eq_true]; exact ⟨h1, h2⟩
@[simp] theorem eMet_ok (f g : Nat → Bool) (l : List Int) : D.okm f g (eMet l) = true := okm_map _ l fun _ _ => rfl
theorem eMet_find (l : List Int) (x : Int) : (mfind (eMet l) x).getD (.v (.bool false)) = .v (.bool (l.contains x)) := by
  induction l with
  | nil => rfl
  | cons i l ih =>
    show (if x = i then some _ else mfind (eMet l) x).getD _ = _
    by_cases h : x = i
    · simp [h]
    · rw [if_neg h, ih]; simp [h]
theorem eMet_put (l : List Int) (x : Int) (h : l.contains x = false) : mput (eMet l) x (.v (.bool true)) = eMet (l ++ [x]) := by
  induction l with
  | nil => rfl
  | cons i l ih =>
    simp at h
    show (if x = i then _ else _ :: mput (eMet l) x _) = _
    rw [if_neg h.1, ih (by simp [h.2])]; rfl
set_option maxHeartbeats 2000000 in
theorem pvars_d (t : Tm) (n : Int) (hz : t.full ≤ 100000) (hf : t.Fit) : PureC Tryz.prog 135 [.ag (eTm t), .v (.int .i64 n)] (.tu [.sl 1 (eIs (Pn.vars t n).1) none, .v (.int .i64 (Pn.vars t n).2)]) := by
 have hfl := pflex_d t
 have hz2 := full_args t
 have hz3 := fulls_len t.args
 rw [eTm_eq] at hfl ⊢
 refine calldw 0 61 [ResultVar.tmp 4, ResultVar.tmp 5] TP1_ok Tryz.func135 rfl Tryz.ntmps135 rfl fun cx hnt hn0 => ?_
 ·skip
  refine dw_seq ?_; refine dwk [] TP1_ok hnt fun K hK => ?_; refine hK _ _ ?_; clear hK K
  by_cases hk : t.kind = 2
  ·rw [decide_eq_true hk] at hfl
   by_cases hn : n < 0
   ·have hv : Pn.vars t n = ([], 1) := by unfold Pn.vars; rw [if_pos (.inr hn)]
    rw [hv]
    refine dw_seq ?_; refine dw_seq ?_; refine dwk [(17, .v (.bool true))] TP1_ok hnt fun K hK => ?_; refine dcl (hfl) ?_; refine And.intro auT ?_; refine hK _ _ ?_; clear hK K; refine dw_cond (t := true) rfl ?_; rw [if_pos rfl]; refine dw_seq ?_; refine dwk [] TP1_ok hnt fun K hK => ?_; refine hK _ _ ?_; clear hK K; refine dw_ret ?_
    exact reta rfl
   ·have hv : Pn.vars t n = match Pn.varsL n t.args [] with | some l => (l, 0) | none => ([], 6) := by unfold Pn.vars; exact if_neg (by simp [hk]; omega)
    refine dw_seq ?_; refine dw_seq ?_; refine dwk [(17, .v (.bool false))] TP1_ok hnt fun K hK => ?_; refine dcl (hfl) ?_; refine And.intro auF ?_; refine hK _ _ ?_; clear hK K; refine dw_cond (t := false) rfl ?_; rw [if_neg (by simp)]; refine dw_skip ?_; refine dw_seq ?_; refine dwk [] TP1_ok hnt fun K hK => ?_; refine hK _ _ ?_; clear hK K; refine dw_seq ?_; refine dwk [] TP1_ok hnt fun K hK => ?_; refine hK _ _ ?_; clear hK K
    refine dw_seq ?_; refine dw_seq ?_; refine dwk [(22, .v (.int .i64 (↑t.args.length)))] TP1_ok hnt fun K hK => ?_; refine And.intro (dintE (by rw [eTms_len])) ?_; refine hK _ _ ?_; clear hK K; refine dw_block ?_
    refine dw_loop (ι := { p : Nat × List Int // Pn.varsL n (t.args.take p.1) [] = some p.2 }) (fun p => [(.t 1, .v (.int .i64 n)), (.t 6, .mo 10), (.t 7, .sl 1 (eIs p.1.2) (some 17)), (.t 21, .sl 4 (eTms t.args) none), (.t 22, .v (.int .i64 ↑t.args.length)), (.t 23, .v (.int .i64 ↑p.1.1)), (.r 17, .rw 3 1 p.1.2.length), (.o 10, .mp (eMet p.1.2))]) 18 (fun p => t.args.length - p.1.1) (⟨(0, []), rfl⟩) ((VS.trans (VS.rowT (x := 7) (by rw [hnt]; decide) 3 1 rfl) VS.toA)) fun p => ?_
    obtain ⟨⟨j, acc⟩, hp⟩ := p
    dsimp only at hp ⊢
    by_cases hlt : j < t.args.length
    ·have hst := Pn.varsL_take n t.args j hlt hp
     have hal := Pn.varsL_len n _ _ _ hp
     rw [List.length_take, List.length_nil] at hal
     have hmem := List.getElem_mem hlt
     have hva := var_d t.args[j] (by have := full_mem hmem; omega) (fit_args hf _ hmem)
     unfold varV at hva
     rw [eTm_eq] at hva
     have hno : Pn.isVar n acc t.args[j] = false → Pn.vars t n = ([], 6) := fun h => by
      rw [hv, Pn.varsL_none n t.args (j + 1) (by rw [hst, h]; rfl)]
     unfold Pn.isVar at hno hst
     refine dw_seq ?_; refine dwk [(24, .v (.bool true))] TP1_ok hnt fun K hK => ?_; refine And.intro auT ?_; refine hK _ _ ?_; clear hK K; refine dw_seq ?_; refine dw_cond (t := true) rfl ?_; rw [if_pos rfl]; refine dw_skip ?_; refine dw_seq ?_; refine dw_block ?_; refine dw_seq ?_; refine dwk [(25, .q [.sl 2 (eTys t.args[j].binds) none, .v (.int .i64 t.args[j].kind), .v (.int .i64 t.args[j].index), .sl 4 (eTms t.args[j].args) none])] TP1_ok hnt fun K hK => ?_
     refine And.intro (elo (eTms_len t.args)) ?_; refine And.intro (elv (eTms_getD t.args j) (eTm_eq _)) ?_; refine hK _ _ ?_; clear hK K
     cases h1 : longB t.args[j] with
     | false =>
      rw [hno (by simp [h1])]
      rw [h1] at hva
      refine dw_seq ?_; refine dwk [] TP1_ok hnt fun K hK => ?_; refine dcl (hva) ?_; refine hK _ _ ?_; clear hK K; refine dw_seq ?_; refine dw_seq ?_; refine dwk [] TP1_ok hnt fun K hK => ?_; refine hK _ _ ?_; clear hK K; refine dw_cond (t := true) rfl ?_; rw [if_pos rfl]; refine dw_seq ?_; refine dwk [] TP1_ok hnt fun K hK => ?_; refine hK _ _ ?_; clear hK K; refine dw_ret ?_
      exact reta rfl
     | true =>
      rw [h1, if_pos rfl, if_pos rfl] at hva
      refine dw_seq ?_; refine dwk [] TP1_ok hnt fun K hK => ?_; refine dcl (hva) ?_; refine hK _ _ ?_; clear hK K
      by_cases h2 : t.args[j].kind = 0
      ·by_cases h3 : t.args[j].headIx < n
       ·have hfi := eMet_find acc t.args[j].headIx
        cases h4 : acc.contains t.args[j].headIx with
        | true =>
         rw [hno (by rw [h1, h4]; simp)]
         rw [h4] at hfi
         refine dw_seq ?_; refine dw_seq ?_; refine dwk [(37, .v (.bool false)), (43, .v (.bool false)), (49, .v (.bool true))] TP1_ok hnt fun K hK => ?_; refine And.intro auF ?_; refine And.intro auF ?_; refine And.intro (VLe.of_eq hfi) ?_; refine hK _ _ ?_; clear hK K; refine dw_cond (t := true) rfl ?_; rw [if_pos rfl]; refine dw_seq ?_; refine dwk [] TP1_ok hnt fun K hK => ?_; refine hK _ _ ?_; clear hK K
         refine dw_ret ?_
         exact reta rfl
        | false =>
         rw [h4] at hfi
         have hpu := eMet_put acc _ h4
         rw [if_pos (by simp only [h1, h2, h3, h4]; rfl)] at hst; refine dw_seq ?_; refine dw_seq ?_; refine dwk [(37, .v (.bool false)), (43, .v (.bool false)), (49, .v (.bool false))] TP1_ok hnt fun K hK => ?_; refine And.intro auF ?_; refine And.intro auF ?_; refine And.intro (VLe.of_eq hfi) ?_; refine hK _ _ ?_; clear hK K; refine dw_cond (t := false) rfl ?_; rw [if_neg (by simp)]; refine dw_skip ?_; refine dw_seq ?_
         refine dwk [] TP1_ok hnt fun K hK => ?_; refine hK _ _ ?_; clear hK K; refine dwk [(58, .sl 1 (eIs (acc ++ [t.args[j].headIx])) (some 17))] TP1_ok hnt fun K hK => ?_; refine And.intro (⟨by rw [eIs_len], by rw [eIs_len]; simp; omega⟩) ?_; refine And.intro (VLe.of_eq (by rw [eIs_append]; rfl)) ?_; refine hK _ _ ?_; clear hK K; refine dwk [(59, .v (.int .i64 (↑(j + 1))))] TP1_ok hnt fun K hK => ?_; refine And.intro auI ?_
         refine hK _ _ ?_; clear hK K
         have hl5 : (eIs acc).length = acc.length := eIs_len acc
         refine ⟨⟨(j + 1, acc ++ [t.args[j].headIx]), hst⟩, by first | omega | (dsimp only; omega), (by try simp only [List.length_append, List.length_take, List.length_cons, List.length_nil, Nat.zero_add, hpu, hl5]; exact VS.toA)⟩
       ·rw [hno (by rw [h1, h2, decide_eq_false h3]; simp)]
        refine dw_seq ?_; refine dw_seq ?_; refine dwk [(37, .v (.bool false)), (43, .v (.bool true))] TP1_ok hnt fun K hK => ?_; refine And.intro auF ?_; refine And.intro auT ?_; refine hK _ _ ?_; clear hK K; refine dw_cond (t := true) rfl ?_; rw [if_pos rfl]; refine dw_seq ?_; refine dwk [] TP1_ok hnt fun K hK => ?_; refine hK _ _ ?_; clear hK K; refine dw_ret ?_
        exact reta rfl
      ·rw [hno (by rw [h1, decide_eq_false h2]; simp)]
       refine dw_seq ?_; refine dw_seq ?_; refine dwk [(37, .v (.bool true))] TP1_ok hnt fun K hK => ?_; refine And.intro auT ?_; refine hK _ _ ?_; clear hK K; refine dw_cond (t := true) rfl ?_; rw [if_pos rfl]; refine dw_seq ?_; refine dwk [] TP1_ok hnt fun K hK => ?_; refine hK _ _ ?_; clear hK K; refine dw_ret ?_
       exact reta rfl
    ·rw [List.take_of_length_le (by omega)] at hp
     rw [hv, hp]
     refine dw_seq ?_; refine dwk [(24, .v (.bool false))] TP1_ok hnt fun K hK => ?_; refine And.intro auF ?_; refine hK _ _ ?_; clear hK K; refine dw_seq ?_; refine dw_cond (t := false) rfl ?_; rw [if_neg (by simp)]; refine dw_exit ?_; refine dw_seq ?_; refine dwk [] TP1_ok hnt fun K hK => ?_; refine hK _ _ ?_; clear hK K; refine dw_ret ?_
     exact reta rfl
  ·have hv : Pn.vars t n = ([], 1) := by unfold Pn.vars; rw [if_pos (.inl hk)]
   rw [hv]
   rw [decide_eq_false hk] at hfl
   refine dw_seq ?_; refine dw_seq ?_; refine dwk [] TP1_ok hnt fun K hK => ?_; refine dcl (hfl) ?_; refine hK _ _ ?_; clear hK K; refine dw_cond (t := true) rfl ?_; rw [if_pos rfl]; refine dw_seq ?_; refine dwk [] TP1_ok hnt fun K hK => ?_; refine hK _ _ ?_; clear hK K; refine dw_ret ?_
   exact reta rfl
end Go.Proofs.YtdmiekaeodcehaaGreat

namespace Go.Proofs.YtdmiekaeodcehaaGreat
open Go.RowKit

namespace Pn
def atL : List Int → Nat → List (Int × Value)
  | [], _ => []
  | v :: l, k => (v, .int .i64 k) :: atL l (k + 1)
end Pn
@[simp] theorem atL_ok (f g : Nat → Bool) (l : List Int) (k : Nat) : D.okm f g (eMp (Pn.atL l k)) = true := okm_map _ _ fun _ _ => rfl
end Go.Proofs.YtdmiekaeodcehaaGreat

namespace Go.Proofs.YtdmiekaeodcehaaGreat
open Go.RowKit
def TL8_25 : TI := ⟨1, false, [Value.slice none 0 0], [], some 27, 24, 5, none, false⟩
theorem TL8_25_ok : TypOk Tryz.prog 25 TL8_25 := ⟨by kernel_rfl, by kernel_rfl, by kernel_rfl, by kernel_rfl, by kernel_rfl⟩
def TL8_3 : TI := ⟨1, false, [Value.int IntKind.i64 0], [], none, 8, 2, none, false⟩
theorem TL8_3_ok : TypOk Tryz.prog 3 TL8_3 := ⟨by kernel_rfl, by kernel_rfl, by kernel_rfl, by kernel_rfl, by kernel_rfl⟩
def TL8_27 : TI := ⟨4, true, [Value.slice none 0 0, Value.int IntKind.i64 0, Value.int IntKind.i64 0, Value.slice none 0 0], [(0, 1, false), (1, 2, true), (3, 1, false)], none, 64, 6, none, false⟩
theorem TL8_27_ok : TypOk Tryz.prog 27 TL8_27 := ⟨by kernel_rfl, by kernel_rfl, by kernel_rfl, by kernel_rfl, by kernel_rfl⟩
def TL8_24 : TI := ⟨2, true, [Value.int IntKind.i64 0, Value.int IntKind.i64 0], [(0, 1, false), (1, 1, false)], none, 16, 6, none, true⟩
theorem TL8_24_ok : TypOk Tryz.prog 24 TL8_24 := ⟨by kernel_rfl, by kernel_rfl, by kernel_rfl, by kernel_rfl, by kernel_rfl⟩
def TL8 : List (Nat × TI) := [(25, TL8_25), (3, TL8_3), (27, TL8_27), (24, TL8_24)]
theorem TL8_ok : TabOk Tryz.prog TL8 := (((((TabOk.nil _).cons TL8_24_ok).cons TL8_27_ok).cons TL8_3_ok).cons TL8_25_ok)
mutual
def lowB : Tm → Bool
  | .mk _ k i a => !(decide (k = 0) && decide (900000 < i)) && lowsB a
def lowsB : List Tm → Bool
  | [] => true
  | t :: l => lowB t && lowsB l
end
theorem lowsB_all : ∀ l : List Tm, lowsB l = l.all lowB
  | [] => rfl
  | t :: l => by rw [lowsB, lowsB_all l]; rfl
theorem lowB_eq (t : Tm) : lowB t = (!(decide (t.kind = 0) && decide (900000 < t.index)) && lowsB t.args) := by cases t; rfl
theorem all_false {l : List Tm} {j : Nat} (h : j < l.length) (hf : lowB l[j] = false) : lowsB l = false := by
  rw [lowsB_all, List.all_eq_false]; exact ⟨l[j], List.getElem_mem h, by rw [hf]; simp⟩
set_option maxHeartbeats 1000000 in
theorem low_list (l : List Tm) (hl : l.length ≤ 1000000) (ih : ∀ t ∈ l, PureC Tryz.prog 37 [.sl 4 (eTms t.args) none] (.v (.bool (lowsB t.args)))) : PureC Tryz.prog 37 [.sl 4 (eTms l) none] (.v (.bool (lowsB l))) := by
 refine call_of_dw 0 35 [ResultVar.tmp 2] TL8_ok (by kernel_rfl) Tryz.func37 rfl Tryz.ntmps37 rfl (by simp) ?dwords ?dbody
 case dwords => simp [wordsOk, D.ok, D.oks, rnames, eTms_ok]
 case dbody =>
  intro cx hnt hn0
  refine dw_seq ?_; refine dwk [] TL8_ok hnt fun K hK => ?_; refine hK _ _ ?_; clear hK K; refine dw_seq (dw_seq ?_); refine dwk [] TL8_ok hnt fun K hK => ?_; refine hK _ _ ?_; clear hK K; refine dw_block ?_
  refine dw_loop (ι := { j : Nat // ∀ i (h : i < l.length), i < j → lowB l[i] = true }) (fun j => [(.t 0, .sl 4 (eTms l) none), (.t 3, .v (.int .i64 (j.1 : Int)))]) 1 (fun j => l.length - j.1) ⟨0, fun i h1 h2 => by omega⟩ VS.toA fun j => ?_
  obtain ⟨j, hj⟩ := j
  dsimp only
  refine dw_seq (dw_seq ?_)
  by_cases hlt : j < l.length
  ·have hi := ih l[j] (List.getElem_mem hlt)
   have hlo := lowB_eq l[j]
   refine dwk [(7, .v (.bool true))] TL8_ok hnt fun K hK => ?_; refine And.intro (dtrue (by rw [eTms_len]; omega)) ?_; refine hK _ _ ?_; clear hK K; refine dw_cond (t := true) rfl ?_; rw [if_pos rfl]; refine dw_skip ?_; refine dw_seq (dw_block (dw_seq ?_))
   have hq : (eTms l).getD (j : Int).toNat [] = [.sl 2 (eTys l[j].binds) none, .v (.int .i64 l[j].kind), .v (.int .i64 l[j].index), .sl 4 (eTms l[j].args) none] := by rw [Int.toNat_natCast, eTms_getD l j hlt, eTm_eq]
   have hb : (0 : Int) ≤ (j : Int) ∧ (j : Int) < ((eTms l).length : Int) := ⟨by omega, by rw [eTms_len]; omega⟩
   have hret : lowB l[j] = false → ∀ σ N, DW Tryz.prog cx (.ret) σ N (RetOk TL8 [ResultVar.tmp 2] (.v (.bool (lowsB l))) []) → True := fun _ _ _ _ => trivial
   by_cases hk : l[j].kind = 0
   ·by_cases hx : 900000 < l[j].index
    ·have hf : lowsB l = false := all_false hlt (by rw [hlo]; simp [hk, hx])
     rw [hf]
     refine dwk [(12, .q [.sl 2 (eTys l[j].binds) none, .v (.int .i64 l[j].kind), .v (.int .i64 l[j].index), .sl 4 (eTms l[j].args) none]), (16, .v (.bool true)), (20, .q [.sl 2 (eTys l[j].binds) none, .v (.int .i64 l[j].kind), .v (.int .i64 l[j].index), .sl 4 (eTms l[j].args) none]), (24, .v (.bool true))] TL8_ok hnt fun K hK => ?_; refine And.intro (hb) ?_; refine And.intro (VLe.of_eq (by rw [hq])) ?_
     refine And.intro (VLe.of_eq (by simp [hk])) ?_; refine And.intro (hb) ?_; refine And.intro (VLe.of_eq (by rw [hq])) ?_; refine And.intro (dtrue hx) ?_; refine hK _ _ ?_; clear hK K; refine dw_cond (t := true) rfl ?_; rw [if_pos rfl]; refine dw_seq ?_; refine dwk [] TL8_ok hnt fun K hK => ?_; refine hK _ _ ?_; clear hK K; refine dw_ret ?_
     exact retv (N := 0) (.inr rfl) rfl (VLe.refl _) trivial
    ·cases hla : lowsB l[j].args with
     | false =>
      have hf : lowsB l = false := all_false hlt (by rw [hlo, hla]; simp)
      rw [hf]
      rw [hla] at hi
      refine dwk [(12, .q [.sl 2 (eTys l[j].binds) none, .v (.int .i64 l[j].kind), .v (.int .i64 l[j].index), .sl 4 (eTms l[j].args) none]), (16, .v (.bool true)), (20, .q [.sl 2 (eTys l[j].binds) none, .v (.int .i64 l[j].kind), .v (.int .i64 l[j].index), .sl 4 (eTms l[j].args) none]), (24, .v (.bool false)), (29, .q [.sl 2 (eTys l[j].binds) none, .v (.int .i64 l[j].kind), .v (.int .i64 l[j].index), .sl 4 (eTms l[j].args) none])] TL8_ok hnt fun K hK => ?_
      refine And.intro (hb) ?_; refine And.intro (VLe.of_eq (by rw [hq])) ?_; refine And.intro (VLe.of_eq (by simp [hk])) ?_; refine And.intro (hb) ?_; refine And.intro (VLe.of_eq (by rw [hq])) ?_; refine And.intro (dfalse hx) ?_; refine And.intro (hb) ?_; refine And.intro (VLe.of_eq (by rw [hq])) ?_; refine dcl (hi) ?_; refine hK _ _ ?_; clear hK K; refine dw_cond (t := true) rfl ?_; rw [if_pos rfl]; refine dw_seq ?_
      refine dwk [] TL8_ok hnt fun K hK => ?_; refine hK _ _ ?_; clear hK K; refine dw_ret ?_
      exact retv (N := 0) (.inr rfl) rfl (VLe.refl _) trivial
     | true =>
      rw [hla] at hi
      refine dwk [(12, .q [.sl 2 (eTys l[j].binds) none, .v (.int .i64 l[j].kind), .v (.int .i64 l[j].index), .sl 4 (eTms l[j].args) none]), (16, .v (.bool true)), (20, .q [.sl 2 (eTys l[j].binds) none, .v (.int .i64 l[j].kind), .v (.int .i64 l[j].index), .sl 4 (eTms l[j].args) none]), (24, .v (.bool false)), (29, .q [.sl 2 (eTys l[j].binds) none, .v (.int .i64 l[j].kind), .v (.int .i64 l[j].index), .sl 4 (eTms l[j].args) none])] TL8_ok hnt fun K hK => ?_
      refine And.intro (hb) ?_; refine And.intro (VLe.of_eq (by rw [hq])) ?_; refine And.intro (VLe.of_eq (by simp [hk])) ?_; refine And.intro (hb) ?_; refine And.intro (VLe.of_eq (by rw [hq])) ?_; refine And.intro (dfalse hx) ?_; refine And.intro (hb) ?_; refine And.intro (VLe.of_eq (by rw [hq])) ?_; refine dcl (hi) ?_; refine hK _ _ ?_; clear hK K; refine dw_cond (t := false) rfl ?_; rw [if_neg (by simp)]
      refine dw_skip ?_; refine dwk [(9, .v (.int .i64 ((j + 1 : Nat) : Int)))] TL8_ok hnt fun K hK => ?_; refine And.intro (dintE (by rw [IntWalk.i64_in _ (by omega)]; omega)) ?_; refine hK _ _ ?_; clear hK K
      refine ⟨⟨j + 1, fun i h1 h2 => ?_⟩, by dsimp only; omega, VS.toA⟩
      by_cases he : i = j
      ·subst he; rw [hlo, hla]; simp [hx]
      ·exact hj i h1 (by omega)
   ·cases hla : lowsB l[j].args with
    | false =>
     have hf : lowsB l = false := all_false hlt (by rw [hlo, hla]; simp)
     rw [hf]
     rw [hla] at hi
     refine dwk [(12, .q [.sl 2 (eTys l[j].binds) none, .v (.int .i64 l[j].kind), .v (.int .i64 l[j].index), .sl 4 (eTms l[j].args) none]), (16, .v (.bool false)), (29, .q [.sl 2 (eTys l[j].binds) none, .v (.int .i64 l[j].kind), .v (.int .i64 l[j].index), .sl 4 (eTms l[j].args) none])] TL8_ok hnt fun K hK => ?_; refine And.intro (hb) ?_; refine And.intro (VLe.of_eq (by rw [hq])) ?_; refine And.intro (VLe.of_eq (by simp [hk])) ?_
     refine And.intro (hb) ?_; refine And.intro (VLe.of_eq (by rw [hq])) ?_; refine dcl (hi) ?_; refine hK _ _ ?_; clear hK K; refine dw_cond (t := true) rfl ?_; rw [if_pos rfl]; refine dw_seq ?_; refine dwk [] TL8_ok hnt fun K hK => ?_; refine hK _ _ ?_; clear hK K; refine dw_ret ?_
     exact retv (N := 0) (.inr rfl) rfl (VLe.refl _) trivial
    | true =>
     rw [hla] at hi
     refine dwk [(12, .q [.sl 2 (eTys l[j].binds) none, .v (.int .i64 l[j].kind), .v (.int .i64 l[j].index), .sl 4 (eTms l[j].args) none]), (16, .v (.bool false)), (29, .q [.sl 2 (eTys l[j].binds) none, .v (.int .i64 l[j].kind), .v (.int .i64 l[j].index), .sl 4 (eTms l[j].args) none])] TL8_ok hnt fun K hK => ?_; refine And.intro (hb) ?_; refine And.intro (VLe.of_eq (by rw [hq])) ?_; refine And.intro (VLe.of_eq (by simp [hk])) ?_
     refine And.intro (hb) ?_; refine And.intro (VLe.of_eq (by rw [hq])) ?_; refine dcl (hi) ?_; refine hK _ _ ?_; clear hK K; refine dw_cond (t := false) rfl ?_; rw [if_neg (by simp)]; refine dw_skip ?_; refine dwk [(9, .v (.int .i64 ((j + 1 : Nat) : Int)))] TL8_ok hnt fun K hK => ?_; refine And.intro (dintE (by rw [IntWalk.i64_in _ (by omega)]; omega)) ?_; refine hK _ _ ?_; clear hK K
     refine ⟨⟨j + 1, fun i h1 h2 => ?_⟩, by dsimp only; omega, VS.toA⟩
     by_cases he : i = j
     ·subst he; rw [hlo, hla]; simp [hk]
     ·exact hj i h1 (by omega)
  ·have hf : lowsB l = true := by
    rw [lowsB_all, List.all_eq_true]
    intro t ht
    obtain ⟨i, hi, rfl⟩ := List.getElem_of_mem ht
    exact hj i hi (by omega)
   rw [hf]
   refine dwk [(7, .v (.bool false))] TL8_ok hnt fun K hK => ?_; refine And.intro (dfalse (by rw [eTms_len]; omega)) ?_; refine hK _ _ ?_; clear hK K; refine dw_cond (t := false) rfl ?_; rw [if_neg (by simp)]; refine dw_exit ?_; refine dw_seq ?_; refine dwk [] TL8_ok hnt fun K hK => ?_; refine hK _ _ ?_; clear hK K; refine dw_ret ?_
   exact retv (N := 0) (.inr rfl) rfl (VLe.refl _) trivial
theorem low_args : ∀ (t : Tm), Wide t → PureC Tryz.prog 37 [.sl 4 (eTms t.args) none] (.v (.bool (lowsB t.args))) := by
  intro t
  induction t using Tm.ind with
  | h bs k i a ih =>
    intro hw
    obtain ⟨_, w2, w3⟩ := hw.inv
    exact low_list a (by omega) fun u hu => ih u hu (w3 u hu)
theorem low_d (l : List Tm) (hl : l.length ≤ 1000000) (hw : ∀ t ∈ l, Wide t) : PureC Tryz.prog 37 [.sl 4 (eTms l) none] (.v (.bool (lowsB l))) := low_list l hl fun t ht => low_args t (hw t ht)
theorem wide_full : ∀ t : Tm, t.full ≤ 100000 → Wide t := by
  intro t
  induction t using Tm.ind with
  | h bs k i a ih =>
    intro h
    rw [Tm.full_eq] at h
    have h1 := Ty.le_sizes bs
    have key : ∀ l : List Tm, l.length ≤ Tm.fulls l ∧ ∀ u ∈ l, u.full ≤ Tm.fulls l := by
      intro l
      induction l with
      | nil => exact ⟨by simp, nofun⟩
      | cons t l ihl =>
        have ht : 1 ≤ t.full := by obtain ⟨_, _, _, _⟩ := t; rw [Tm.full_eq]; omega
        simp only [Tm.fulls, List.length_cons]
        refine ⟨by omega, fun u hu => ?_⟩
        rcases List.mem_cons.1 hu with rfl | hu
        · omega
        · have := ihl.2 u hu; omega
    have h2 := key a
    exact .mk _ _ _ _ (by omega) (by omega) fun t ht => ih t ht (by have := h2.2 t ht; omega)
end Go.Proofs.YtdmiekaeodcehaaGreat

namespace Go.Proofs.YtdmiekaeodcehaaGreat
open Go.RowKit
namespace Pn
end Pn
end Go.Proofs.YtdmiekaeodcehaaGreat

namespace Go.Proofs.YtdmiekaeodcehaaGreat
open Go.RowKit

namespace Pn
end Pn
end Go.Proofs.YtdmiekaeodcehaaGreat

namespace Go.Proofs.YtdmiekaeodcehaaGreat
open Go.RowKit

def CallG (P : Program) (f : FuncId) (args : List D) (R W : List (Key × D)) (V : D) : Prop :=
  entersB P f = true ∧ ∀ cx (Fr : Nat → Prop) m Im w a σ vs, St cx Fr m Im w a σ → RelL m Im w vs args → (∀ p ∈ R, get σ p.1 = some p.2) →
    Calls P f vs.toArray w fun e w' => ∃ v m' Im', e = .returned v ∧ St cx Fr m' Im' w' a (puts (dropT R σ) W) ∧ Rel m' Im' w' v V
theorem CallG.n {P : Program} {f : FuncId} {args : List D} {R W : List (Key × D)} {V : D} (h : CallG P f args R W V) (nm : Nat) : CallN P f args R nm W V :=
  ⟨h.1, fun cx Fr m Im w a σ vs _ hs hv hR => (h.2 cx Fr m Im w a σ vs hs hv hR).mono fun e w' ⟨v, m', Im', q1, q2, q3⟩ => ⟨v, m', Im', q1, q2.less fun k hk => hk.1, q3⟩⟩
theorem CallG.vle {P : Program} {f : FuncId} {args args' : List D} {R W : List (Key × D)} {V V' : D} (h : CallG P f args R W V) (ha : VLeL args' args) (hv : VLe V V') : CallG P f args' R W V' := by
  refine ⟨h.1, fun cx Fr m Im w a σ vs hs hr hR => (h.2 cx Fr m Im w a σ vs hs ?_ hR).mono ?_⟩
  · rw [relL_iff] at hr ⊢
    refine ⟨hr.1.trans ha.1, fun i hi => ?_⟩
    have hi' : i < args'.length := by rw [ha.1]; exact hi
    exact ha.2 i hi' hi m Im w _ (hr.2 i hi')
  · rintro e w' ⟨v, m', Im', rfl, h1, h2⟩
    exact ⟨v, m', Im', rfl, h1, hv _ _ _ _ h2⟩
def rowsR (R : List (Key × D)) : List Nat := R.filterMap fun p => match p.1 with | .r g => some g | _ => none
def rowN (R : List (Key × D)) : Nat → Bool := fun g => (rowsR R).contains g
theorem mem_rowsR {R : List (Key × D)} {g : Nat} {d : D} (h : (Key.r g, d) ∈ R) : rowN R g = true := by
  unfold rowN; rw [List.contains_iff_mem]; exact List.mem_filterMap.2 ⟨_, h, rfl⟩
theorem of_rowsR {R : List (Key × D)} {g : Nat} (h : rowN R g = true) : ∃ d, (Key.r g, d) ∈ R := by
  unfold rowN at h; rw [List.contains_iff_mem] at h
  obtain ⟨p, hp, e⟩ := List.mem_filterMap.1 h
  obtain ⟨key, d⟩ := p
  cases key with
  | r g' => simp at e; subst e; exact ⟨d, hp⟩
  | _ => cases e
def gkey : Key → Bool
  | .c _ _ => true
  | .o _ => true
  | .r _ => true
  | _ => false
def wordsG (args : List D) (R W : List (Key × D)) (V : D) (N0 : Nat) : Bool :=
  args.all (fun d => d.ok (inN R) (rowN R)) && R.all (fun p => p.2.ok (inN R) (rowN R) && gkey p.1) && W.all (fun p => p.2.ok (inN R) (rowN R) && (match p.1 with | .c k _ => inN R k | .o k => inN R k | .r g => rowN R g | _ => false)) && V.ok (inN R) (rowN R) && (rnames R).all (fun k => decide (k < N0)) && (rowsR R).all (fun g => decide (g < N0) && W.any fun p => Key.eq p.1 (.r g))
set_option maxHeartbeats 2000000 in
theorem callG_of_dw {P : Program} {T : List (Nat × TI)} {f : FuncId} {fn : Func} {c : Code} {args : List D} {R W : List (Key × D)} {V : D} (N0 nt : Nat) (rs : List ResultVar) (hT : TabOk P T) (hen : entersB P f = true) (hf : P.funcs[f]? = some fn) (hb : fn.body = some c) (hnt : fn.ntmps = nt) (hrs : fn.results.toList = rs)
    (hal : args.length ≤ nt) (hw : wordsG args R W V N0 = true) (h : ∀ cx : Cx, cx.nt = nt → cx.n0 = N0 → DW P cx c (argsT 0 args R) N0 (RetOk T rs V W)) : CallG P f args R W V := by
  refine ⟨hen, fun cx Fr m Im w a σ vs hs0 hargs hR => ?_⟩
  have hmem := hs0.mem
  simp only [wordsG, Bool.and_eq_true, List.all_eq_true, decide_eq_true_eq] at hw
  obtain ⟨⟨⟨⟨⟨w1, w2⟩, w3⟩, w4⟩, w5⟩, w6⟩ := hw
  have hRc : ∀ k off d, (Key.c k off, d) ∈ R → ∃ b v, m.blk k = some b ∧ w.cell? ⟨b, off, none⟩ = some v ∧ Rel m Im w v d := fun k off d hm => hs0.ce k off d (hR _ hm)
  have hRo : ∀ k d, (Key.o k, d) ∈ R → ∃ b, m.obj k = some b ∧ ObOk m Im w b d := fun k d hm => hs0.ok k d (hR _ hm)
  have hRr : ∀ g d, (Key.r g, d) ∈ R → ∃ Rw, m.row g = some Rw ∧ RoOk m Im w Rw d := fun g d hm => hs0.ro g d (hR _ hm)
  let RB : Nat → Prop := fun b => ∃ g Rw, rowN R g = true ∧ m.row g = some Rw ∧ Rw.hv.ownBlock = some b
  have hnoj : ∀ X J, (Key.j, D.j X J) ∉ R := fun X J hm => by have := (w2 _ hm).2; cases this
  have hin : ∀ k b, inN R k = true → m.blk k = some b → Tch m R b := fun k b hk hb => by
    rcases of_rnames hk with ⟨off, d, hm⟩ | ⟨d, hm⟩
    · exact .inl ⟨k, off, d, hm, hb⟩
    · obtain ⟨b', q1, _⟩ := hRo _ _ hm
      have := hmem.dis k b hb
      rw [this] at q1; cases q1
  have hino : ∀ k b, inN R k = true → m.obj k = some b → Tch m R b := fun k b hk hb => by
    rcases of_rnames hk with ⟨off, d, hm⟩ | ⟨d, hm⟩
    · obtain ⟨b', v, q1, _⟩ := hRc _ _ _ hm
      have := hmem.dis k b' q1
      rw [this] at hb; cases hb
    · exact .inr (.inr ⟨k, d, hm, hb⟩)
  have hlt : ∀ k, inN R k = true → k < N0 := fun k hk => w5 k (by unfold inN at hk; rwa [List.contains_iff_mem] at hk)
  have hltr : ∀ g, rowN R g = true → g < N0 := fun g hg => (w6 g (by unfold rowN at hg; rwa [List.contains_iff_mem] at hg)).1
  have hTb : ∀ b k, Tch m R b → m.blk k = some b → inN R k = true := fun b k ht hk => by
    rcases ht with ⟨k', off, d, hm, hb⟩ | ⟨X, J, hm, _⟩ | ⟨k', d, hm, hb⟩
    · have := hmem.inj k k' b hk hb; subst this; exact mem_rnames hm
    · exact absurd hm (hnoj X J)
    · exact absurd hk (hmem.oblk k' k b hb)
  have hTo : ∀ b k, Tch m R b → m.obj k = some b → inN R k = true := fun b k ht hk => by
    rcases ht with ⟨k', off, d, hm, hb⟩ | ⟨X, J, hm, _⟩ | ⟨k', d, hm, hb⟩
    · exact absurd hb (hmem.oblk k k' b hk)
    · exact absurd hm (hnoj X J)
    · have := hmem.oinj k k' b hk hb; subst this; exact mem_rnamesO hm
  have hTr : ∀ b g Rw, Tch m R b → m.row g = some Rw → Rw.hv.ownBlock ≠ some b := fun b g Rw ht hg e => by
    rcases ht with ⟨k', off, d, hm, hb⟩ | ⟨X, J, hm, _⟩ | ⟨k', d, hm, hb⟩
    · exact hmem.rblk g Rw b k' hg e hb
    · exact absurd hm (hnoj X J)
    · exact hmem.orow k' g Rw b hb hg e
  have hTown : ∀ b, Tch m R b → cx.C b ∨ cx.w0.heap.size ≤ b := fun b ht => by
    rcases ht with ⟨k', off, d, hm, hb⟩ | ⟨X, J, hm, _⟩ | ⟨k', d, hm, hb⟩
    · exact hmem.own k' b hb
    · exact absurd hm (hnoj X J)
    · exact hmem.oown k' b hb
  have hTim : ∀ b o, Tch m R b → ¬ Im b o := fun b o ht => by
    rcases ht with ⟨k', off, d, hm, hb⟩ | ⟨X, J, hm, _⟩ | ⟨k', d, hm, hb⟩
    · exact hmem.nim k' b o hb
    · exact absurd hm (hnoj X J)
    · exact hmem.onim k' b o hb
  have hTX : ∀ b X J, Tch m R b → XOk cx m Im w X J → ¬ X b := fun b X J ht hX hb => by
    rcases ht with ⟨k', off, d, hm, hb'⟩ | ⟨X', J', hm, _⟩ | ⟨k', d, hm, hb'⟩
    · exact hX.blk b k' hb hb'
    · exact hnoj X' J' hm
    · exact hX.obj b k' hb hb'
  refine calls_of_wp hf hb ?_
  let cx' : Cx := { w0 := w, C := fun b => Tch m R b ∨ RB b, Im0 := Im, m0 := m.cut (inN R) (rowN R), nt := nt, n0 := N0, h0 := fun k b hk => hlt k (Mp.cut_blk hk).1, h0o := fun k b hk => hlt k (Mp.cut_obj hk).1, CR := RB, hCR := fun b h => .inr h, h0r := fun g Rw hg => hltr g (Mp.cut_row hg).1 }
  have hst : St cx' (fun k => N0 ≤ k) (m.cut (inN R) (rowN R)) Im w { tmps := vs.toArray ++ Array.replicate (fn.ntmps - vs.toArray.size) undef, defers := [] } (argsT 0 args R) := by
    have hvl : vs.length = args.length := (relL_iff.1 hargs).1
    refine ⟨{
      off := Off.refl _ _, im := hmem.im, imb := fun b o h => .inl h, im0 := fun b o h => h
      own := fun k b hk => .inl (.inl (hin k b (Mp.cut_blk hk).1 (Mp.cut_blk hk).2))
      lt := fun k b hk => hmem.lt k b (Mp.cut_blk hk).2
      free := fun k b o hk => hmem.free k b o (Mp.cut_blk hk).2
      nim := fun k b o hk => hmem.nim k b o (Mp.cut_blk hk).2
      inj := fun k k' b hk hk' => hmem.inj k k' b (Mp.cut_blk hk).2 (Mp.cut_blk hk').2
      row := fun g R hg => hmem.row g R (Mp.cut_row hg).2
      rIm := fun g R b o hg => hmem.rIm g R b o (Mp.cut_row hg).2
      rblk := fun g R b k hg hb hk => hmem.rblk g R b k (Mp.cut_row hg).2 hb (Mp.cut_blk hk).2
      rinj := fun g g' R R' b hg hg' => hmem.rinj g g' R R' b (Mp.cut_row hg).2 (Mp.cut_row hg').2
      fr := fun k hk => ⟨?f1, ?f2, ?f3⟩
      m0 := fun k b hk => hk
      m0o := fun k b hk => hk
      oown := fun k b hk => .inl (.inl (hino k b (Mp.cut_obj hk).1 (Mp.cut_obj hk).2))
      olt := fun k b hk => hmem.olt k b (Mp.cut_obj hk).2
      onim := fun k b o hk => hmem.onim k b o (Mp.cut_obj hk).2
      oinj := fun k k' b hk hk' => hmem.oinj k k' b (Mp.cut_obj hk).2 (Mp.cut_obj hk').2
      oblk := fun k k' b hk hk' => hmem.oblk k k' b (Mp.cut_obj hk).2 (Mp.cut_blk hk').2
      orow := fun k g R b hk hg => hmem.orow k g R b (Mp.cut_obj hk).2 (Mp.cut_row hg).2
      dis := fun k b hk => ?dis
      k0 := KeepI.refl _ _
      rown := fun g Rw b hg hb => .inr ⟨g, Rw, (Mp.cut_row hg).1, (Mp.cut_row hg).2, hb⟩
      m0r := fun g Rw hg => ⟨Rw, hg, Nat.le_refl _, fun _ => rfl⟩ }, rfl, ?sz, fun x d hx => ?tm, fun k off d hx => ?ce, fun g d hx => ?ro, fun d hx => ?jk, fun k d hx => ?okk⟩
    case f1 =>
      by_cases hk2 : inN R k = true
      · have := hlt k hk2; omega
      · simp [Mp.cut, hk2]
    case f2 =>
      by_cases hk2 : rowN R k = true
      · have := hltr k hk2; omega
      · simp [Mp.cut, hk2]
    case f3 =>
      by_cases hk2 : inN R k = true
      · have := hlt k hk2; omega
      · simp [Mp.cut, hk2]
    case dis =>
      have := hmem.dis k b (Mp.cut_blk hk).2
      show (if _ then m.obj k else none) = none
      rw [this]; simp
    case sz => simp [cx', hvl, hnt]; omega
    case tm =>
      rcases get_argsT args 0 x hx with ⟨j, h1, h2⟩ | hx
      · have hj : j < args.length := by
          rcases Nat.lt_or_ge j args.length with h' | h'
          · exact h'
          · rw [List.getElem?_eq_none h'] at h2; cases h2
        rw [List.getElem?_eq_getElem hj] at h2
        cases h2
        have hr := (relL_iff.1 hargs).2 j hj
        have hx' : x = j := by omega
        subst hx'
        have : (vs.toArray ++ Array.replicate (fn.ntmps - vs.toArray.size) undef).getD x undef = vs.getD x undef := by
          have hx2 : x < vs.length := by omega
          rw [Array.getD_eq_getD_getElem?, Array.getElem?_append_left (by simpa using hx2), List.getD_eq_getElem?_getD]
          simp
        show Rel _ _ _ ((vs.toArray ++ Array.replicate (fn.ntmps - vs.toArray.size) undef).getD x undef) _
        rw [this]
        exact hr.cut (w1 _ (List.getElem_mem hj))
      · have := (w2 _ (mem_of_get hx)).2
        cases this
    case ce =>
      rw [get_argsN (fun x => by simp) args 0] at hx
      have hm := mem_of_get hx
      obtain ⟨b, v, q1, q2, q3⟩ := hRc _ _ _ hm
      exact ⟨b, v, by simp only [Mp.cut, mem_rnames hm, if_true]; exact q1, q2, q3.cut (w2 _ hm).1⟩
    case ro =>
      rw [get_argsN (fun x => by simp) args 0] at hx
      have hm := mem_of_get hx
      obtain ⟨Rw, q1, q2⟩ := hRr _ _ hm
      exact ⟨Rw, by simp only [Mp.cut, mem_rowsR hm, if_true]; exact q1, q2.cut (w2 _ hm).1⟩
    case jk =>
      rw [get_argsN (fun x => by simp) args 0] at hx
      have := (w2 _ (mem_of_get hx)).2
      cases this
    case okk =>
      rw [get_argsN (fun x => by simp) args 0] at hx
      have hm := mem_of_get hx
      obtain ⟨b, q1, q2⟩ := hRo _ _ hm
      exact ⟨b, by simp only [Mp.cut, mem_rnamesO hm, if_true]; exact q1, q2.cut (w2 _ hm).1⟩
  refine Code.wp_mono (fun e a' w' ⟨σ', N', m', Im', ⟨hq1, ⟨V', hq2, hq3⟩, hq4⟩, hs⟩ => ?_) (h cx' rfl rfl _ Im w _ hst)
  obtain ⟨v, r1, r2⟩ := resD_run (P := P) (fn := fn) hT hs (by rw [hrs]; exact hq2)
  have hmem' := hs.mem
  have hoff : Off (fun b => Tch m R b ∨ RB b) w w' := hmem'.off
  have hki : KeepI Im w w' := hmem'.k0
  have hi : ∀ b o, Im b o → Im' b o := hmem'.im0
  have hib : ∀ b o, Im' b o → Im b o ∨ w.heap.size ≤ b ∨ RB b := hmem'.imb
  have hrown : ∀ g Rw b, m'.row g = some Rw → Rw.hv.ownBlock = some b → w.heap.size ≤ b ∨ RB b := hmem'.rown
  have hsame : ∀ b, b < w.heap.size → ¬ Tch m R b → ¬ RB b → w'.heap[b]? = w.heap[b]? := fun b hb h1 h2 => hoff.block b hb fun h => h.elim h1 h2
  have hmb : ∀ k b, inN R k = true → m.blk k = some b → m'.blk k = some b := fun k b hk hb => hmem'.m0 k b (by show (m.cut (inN R) (rowN R)).blk k = some b; simp [Mp.cut, hk, hb])
  have hmo : ∀ k b, inN R k = true → m.obj k = some b → m'.obj k = some b := fun k b hk hb => hmem'.m0o k b (by show (m.cut (inN R) (rowN R)).obj k = some b; simp [Mp.cut, hk, hb])
  have hm' : ∀ k b, inN R k = true → m'.blk k = some b → m.blk k = some b := fun k b hk hb => by
    rcases of_rnames hk with ⟨off, d, hm⟩ | ⟨d, hm⟩
    · obtain ⟨b', _, q1, _⟩ := hRc _ _ _ hm
      have := hmb k b' hk q1
      rw [this] at hb; cases hb; exact q1
    · obtain ⟨b', q1, _⟩ := hRo _ _ hm
      have := hmo k b' hk q1
      rw [hmem'.dis k b hb] at this; cases this
  have hmo' : ∀ k b, inN R k = true → m'.obj k = some b → m.obj k = some b := fun k b hk hb => by
    rcases of_rnames hk with ⟨off, d, hm⟩ | ⟨d, hm⟩
    · obtain ⟨b', _, q1, _⟩ := hRc _ _ _ hm
      have := hmb k b' hk q1
      rw [hmem'.dis k b' this] at hb; cases hb
    · obtain ⟨b', q1, _⟩ := hRo _ _ hm
      have := hmo k b' hk q1
      rw [this] at hb; cases hb; exact q1
  let m2 : Mp := ⟨m.blk, fun g => if rowN R g then m'.row g else m.row g, m.obj⟩
  have h2r : ∀ {g Rw}, m2.row g = some Rw → (rowN R g = true ∧ m'.row g = some Rw) ∨ (rowN R g = false ∧ m.row g = some Rw) := fun {g Rw} hg => by
    cases hr : rowN R g with
    | true => left; simp [m2, hr] at hg; exact ⟨rfl, hg⟩
    | false => right; simp [m2, hr] at hg; exact ⟨rfl, hg⟩
  have hRBr : ∀ b g Rw, RB b → m.row g = some Rw → Rw.hv.ownBlock = some b → rowN R g = true := fun b g Rw ⟨g2, R2, q1, q2, q3⟩ hg ho => by
    have := hmem.rinj g2 g R2 Rw b q2 hg q3 ho
    subst this; exact q1
  have hRBb : ∀ b k, RB b → m.blk k ≠ some b := fun b k ⟨g2, R2, q1, q2, q3⟩ => hmem.rblk g2 R2 b k q2 q3
  have hRBo : ∀ b k, RB b → m.obj k ≠ some b := fun b k ⟨g2, R2, q1, q2, q3⟩ hk => hmem.orow k g2 R2 b hk q2 q3
  have hRBw : ∀ b, RB b → cx.w0.heap.size ≤ b ∨ cx.CR b := fun b ⟨g2, R2, q1, q2, q3⟩ => hmem.rown g2 R2 b q2 q3
  have hrlt : ∀ g Rw b, m.row g = some Rw → Rw.hv.ownBlock = some b → b < w.heap.size := fun g Rw b hg ho => by
    obtain ⟨xs, hx⟩ := hmem.row g Rw hg
    exact (row_lt hx ho).2
  have hle : m.le m2 := ⟨fun _ _ h => h, fun g Rw hg => by
    cases hr : rowN R g with
    | true =>
      obtain ⟨R', q1, q2⟩ := hmem'.m0r g Rw (by show (m.cut (inN R) (rowN R)).row g = some Rw; simp [Mp.cut, hr, hg])
      exact ⟨R', by simp [m2, hr, q1], q2⟩
    | false => exact ⟨Rw, by simp [m2, hr, hg], Nat.le_refl _, fun _ => rfl⟩, fun _ _ h => h⟩
  have hcutle : (m'.cut (inN R) (rowN R)).le m2 := ⟨fun k b hk => hm' k b (Mp.cut_blk hk).1 (Mp.cut_blk hk).2, fun g Rw hg => ⟨Rw, by simp [m2, (Mp.cut_row hg).1, (Mp.cut_row hg).2], Nat.le_refl _, fun _ => rfl⟩, fun k b hk => hmo' k b (Mp.cut_obj hk).1 (Mp.cut_obj hk).2⟩
  have hrel : ∀ {x d}, Rel m' Im' w' x d → d.ok (inN R) (rowN R) = true → Rel m2 Im' w' x d := fun hx hd => (hx.cut hd).mono hcutle (KeepI.refl _ _) fun _ _ h => h
  have hmono : ∀ {x d}, Rel m Im w x d → Rel m2 Im' w' x d := fun hx => hx.mono hle hki hi
  have hmem2 : MemOk cx Fr m2 Im' w' := {
    off := ⟨hoff.os.trans hmem.off.os, hoff.tape.trans hmem.off.tape, hoff.output.trans hmem.off.output, Nat.le_trans hmem.off.size hoff.size, fun b hb hC => (hsame b (Nat.lt_of_lt_of_le hb hmem.off.size) (fun h => (hTown b h).elim hC fun h => Nat.lt_irrefl _ (Nat.lt_of_lt_of_le hb h)) (fun h => (hRBw b h).elim (fun h => Nat.lt_irrefl _ (Nat.lt_of_lt_of_le hb h)) fun h => hC (cx.hCR b h))).trans (hmem.off.block b hb hC)⟩
    im := hmem'.im
    imb := fun b o hh => by
      rcases hib b o hh with h1 | h1 | h1
      · exact hmem.imb b o h1
      · exact .inr (.inl (Nat.le_trans hmem.off.size h1))
      · exact .inr (hRBw b h1)
    im0 := fun b o hh => hi b o (hmem.im0 b o hh)
    own := hmem.own
    lt := fun k b hk => Nat.lt_of_lt_of_le (hmem.lt k b hk) hoff.size
    free := fun k b o hk => by
      cases hn : inN R k with
      | true => exact hmem'.free k b o (hmb k b hn hk)
      | false => exact (World.frozen?_of_block (a := ⟨b, o, none⟩) (hsame b (hmem.lt k b hk) (fun h => by rw [hTb b k h hk] at hn; cases hn) fun h => hRBb b k h hk)).trans (hmem.free k b o hk)
    nim := fun k b o hk hh => by
      cases hn : inN R k with
      | true => exact hmem'.nim k b o (hmb k b hn hk) hh
      | false =>
        rcases hib b o hh with h1 | h1 | h1
        · exact hmem.nim k b o hk h1
        · have := hmem.lt k b hk; omega
        · exact hRBb b k h1 hk
    inj := hmem.inj
    row := fun g Rw hg => by
      rcases h2r hg with ⟨_, hg⟩ | ⟨hn, hg⟩
      · exact hmem'.row g Rw hg
      · obtain ⟨xs, hx⟩ := hmem.row g Rw hg
        refine ⟨xs, hx.1, ?_⟩
        rcases hx.2 with h0 | ⟨g', cap, cur, e, h1, h2, h3⟩
        · exact .inl h0
        · refine .inr ⟨g', cap, cur, e, h1, ?_, h3⟩
          have ho : Rw.hv.ownBlock = some g' := by rw [e]; rfl
          rw [hsame g' (lt_of_block h2) (fun ht => hTr g' g Rw ht hg ho) fun ht => by rw [hRBr g' g Rw ht hg ho] at hn; cases hn]; exact h2
    rIm := fun g Rw b o hg ho hh => by
      rcases h2r hg with ⟨_, hg⟩ | ⟨hn, hg⟩
      · exact hmem'.rIm g Rw b o hg ho hh
      · rcases hib b o hh with h1 | h1 | h1
        · exact hmem.rIm g Rw b o hg ho h1
        · have := hrlt g Rw b hg ho; omega
        · rw [hRBr b g Rw h1 hg ho] at hn; cases hn
    rblk := fun g Rw b k hg ho hk => by
      rcases h2r hg with ⟨_, hg⟩ | ⟨hn, hg⟩
      · rcases hrown g Rw b hg ho with h1 | h1
        · have := hmem.lt k b hk; omega
        · exact hRBb b k h1 hk
      · exact hmem.rblk g Rw b k hg ho hk
    rinj := fun g g' Rw Rw' b hg hg' ho ho' => by
      rcases h2r hg with ⟨hn, hg⟩ | ⟨hn, hg⟩ <;> rcases h2r hg' with ⟨hn', hg'⟩ | ⟨hn', hg'⟩
      · exact hmem'.rinj g g' Rw Rw' b hg hg' ho ho'
      · rcases hrown g Rw b hg ho with h1 | h1
        · have := hrlt g' Rw' b hg' ho'; omega
        · rw [hRBr b g' Rw' h1 hg' ho'] at hn'; cases hn'
      · rcases hrown g' Rw' b hg' ho' with h1 | h1
        · have := hrlt g Rw b hg ho; omega
        · rw [hRBr b g Rw h1 hg ho] at hn; cases hn
      · exact hmem.rinj g g' Rw Rw' b hg hg' ho ho'
    fr := fun k hk => ⟨(hmem.fr k hk).1, by
      cases hn : rowN R k with
      | true =>
        obtain ⟨d, hm⟩ := of_rowsR hn
        obtain ⟨Rw, q1, _⟩ := hRr _ _ hm
        rw [(hmem.fr k hk).2.1] at q1; cases q1
      | false => simp [m2, hn, (hmem.fr k hk).2.1], (hmem.fr k hk).2.2⟩
    m0 := hmem.m0
    m0o := hmem.m0o
    oown := hmem.oown
    olt := fun k b hk => Nat.lt_of_lt_of_le (hmem.olt k b hk) hoff.size
    onim := fun k b o hk hh => by
      cases hn : inN R k with
      | true => exact hmem'.onim k b o (hmo k b hn hk) hh
      | false =>
        rcases hib b o hh with h1 | h1 | h1
        · exact hmem.onim k b o hk h1
        · have := hmem.olt k b hk; omega
        · exact hRBo b k h1 hk
    oinj := hmem.oinj
    oblk := hmem.oblk
    orow := fun k g Rw b hk hg ho => by
      rcases h2r hg with ⟨_, hg⟩ | ⟨hn, hg⟩
      · rcases hrown g Rw b hg ho with h1 | h1
        · have := hmem.olt k b hk; omega
        · exact hRBo b k h1 hk
      · exact hmem.orow k g Rw b hk hg ho
    dis := hmem.dis
    k0 := hmem.k0.trans (hki.weaken hmem.im0)
    rown := fun g Rw b hg ho => by
      rcases h2r hg with ⟨_, hg⟩ | ⟨hn, hg⟩
      · rcases hrown g Rw b hg ho with h1 | h1
        · exact .inl (Nat.le_trans hmem.off.size h1)
        · exact hRBw b h1
      · exact hmem.rown g Rw b hg ho
    m0r := hmem.m0r_le hle }
  have hg0 : ∀ k, get (dropT R σ) k = if touches R k then none else get σ k := fun k => by
    unfold dropT
    rw [get_filter (fun k => !touches R k)]
    cases touches R k <;> rfl
  let keep : Key → Bool := fun k => match k with | .r g => !rowN R g | _ => true
  have hg1 : ∀ k, get ((dropT R σ).filter fun p => keep p.1) k = if keep k then get (dropT R σ) k else none := fun k => get_filter keep _ k
  have hst1 : St cx Fr m2 Im' w' a ((dropT R σ).filter fun p => keep p.1) := by
    refine ⟨hmem2, hs0.df, hs0.nt, fun x d hx => ?_, fun k off d hx => ?_, fun g d hx => ?_, fun d hx => ?_, fun k d hx => ?_⟩
    · rw [hg1, if_pos rfl, hg0] at hx; simp only [touches] at hx; exact hmono (hs0.tm x d hx)
    · rw [hg1, if_pos rfl, hg0] at hx
      by_cases ht : touches R (.c k off) = true
      · rw [if_pos ht] at hx; cases hx
      · rw [if_neg ht] at hx
        obtain ⟨b, u, q1, q2, q3⟩ := hs0.ce k off d hx
        refine ⟨b, u, q1, ?_, hmono q3⟩
        refine (World.cell?_of_block (a := ⟨b, off, none⟩) (hsame b (ltOfCell q2) (fun hb => ?_) fun hb => hRBb b k hb q1)).trans q2
        rcases hb with ⟨k', off', d', hm, hb⟩ | ⟨X, J, hm, hb⟩ | ⟨k', d', hm, hb⟩
        · have := hmem.inj k k' b q1 hb
          subst this
          exact ht (by simp only [touches, List.any_eq_true]; exact ⟨_, hm, by simp⟩)
        · exact absurd hm (hnoj X J)
        · exact hmem.oblk k' k b hb q1
    · rw [hg1] at hx
      cases hn : rowN R g with
      | true => simp [keep, hn] at hx
      | false =>
        rw [if_pos (by simp [keep, hn]), hg0] at hx; simp only [touches] at hx
        obtain ⟨Rw, q1, q2⟩ := hs0.ro g d hx
        exact ⟨Rw, by simp [m2, hn, q1], q2.mono (fun b hb => hsame b (hmem.rlt q1 hb) (fun ht => hTr b g Rw ht q1 hb) fun ht => by rw [hRBr b g Rw ht q1 hb] at hn; cases hn) hle hki hi fun b o hb hh => (hib b o hh).elim id fun h2 => h2.elim (fun h2 => absurd (hmem.rlt q1 hb) (Nat.not_lt.2 h2)) fun ht => by rw [hRBr b g Rw ht q1 hb] at hn; cases hn⟩
    · rw [hg1, if_pos rfl, hg0] at hx
      have ht : touches R .j = false := by
        cases ht : touches R .j with
        | false => rfl
        | true =>
          simp only [touches, List.any_eq_true] at ht
          obtain ⟨⟨k, d'⟩, hp, hj⟩ := ht
          cases k <;> simp [isJ] at hj
          have := (w2 _ hp).2; cases this
      rw [ht] at hx
      obtain ⟨X, J, e, hX⟩ := hs0.jk d hx
      have hRX : ∀ b, X b → ¬ RB b := fun b hb ⟨g2, R2, q1, q2, q3⟩ => hX.row b g2 R2 hb q2 q3
      have hxs : ∀ b, X b → w'.heap[b]? = w.heap[b]? := fun b hb => hsame b (hX.lt b hb) (fun ht => hTX b X J ht hX hb) (hRX b hb)
      refine ⟨X, J, e, hX.stable _ hoff.size hxs, fun w2 hs2 hx2 => hX.stable w2 (Nat.le_trans hoff.size hs2) fun b hb => (hx2 b hb).trans (hxs b hb), fun b hb => Nat.lt_of_lt_of_le (hX.lt b hb) hoff.size, hX.own, fun b o hb hh => ?_, hX.blk, fun b g Rw hb hg ho => ?_, hX.obj⟩
      · rcases hib b o hh with h1 | h1 | h1
        · exact hX.nim b o hb h1
        · have := hX.lt b hb; omega
        · exact hRX b hb h1
      · rcases h2r hg with ⟨_, hg⟩ | ⟨hn, hg⟩
        · rcases hrown g Rw b hg ho with h1 | h1
          · have := hX.lt b hb; omega
          · exact hRX b hb h1
        · exact hX.row b g Rw hb hg ho
    · rw [hg1, if_pos rfl, hg0] at hx
      by_cases ht : touches R (.o k) = true
      · rw [if_pos ht] at hx; cases hx
      · rw [if_neg ht] at hx
        obtain ⟨b, q1, q2⟩ := hs0.ok k d hx
        refine ⟨b, q1, q2.mono (hsame b (hmem.olt k b q1) (fun hT => ?_) fun hb => hRBo b k hb q1) hle hki hi⟩
        rcases hT with ⟨k', off', d', hm, hb'⟩ | ⟨X', J', hm, hb'⟩ | ⟨k', d', hm, hb'⟩
        · exact hmem.oblk k k' b q1 hb'
        · exact hnoj X' J' hm
        · have := hmem.oinj k k' b q1 hb'
          subst this
          exact ht (by simp only [touches, List.any_eq_true]; exact ⟨_, hm, by simp⟩)
  have hW : Holds cx m2 Im' w' W := fun p hp => by
    have hok := w3 p hp
    have hg := hq4 p hp
    obtain ⟨key, d⟩ := p
    cases key with
    | c k off =>
      have hk : inN R k = true := hok.2
      rcases hg with hg | ⟨d', hg, e, _⟩
      · obtain ⟨b, x, q1, q2, q3⟩ := hs.ce k off d hg
        exact ⟨b, x, hm' k b hk q1, q2, hrel q3 hok.1⟩
      · obtain ⟨b, x, q1, q2, q3⟩ := hs.ce k off d' hg
        exact ⟨b, x, hm' k b hk q1, q2, hrel (e _ _ _ _ q3) hok.1⟩
    | o k =>
      have hk : inN R k = true := hok.2
      rcases hg with hg | ⟨d', hg, e, hf⟩
      · obtain ⟨b, q1, q2⟩ := hs.ok k d hg
        exact ⟨b, hmo' k b hk q1, (q2.cut hok.1).mono rfl hcutle (KeepI.refl _ _) fun _ _ h => h⟩
      · exact hf.elim
    | r g =>
      have hk : rowN R g = true := hok.2
      rcases hg with hg | ⟨d', hg, e, hf⟩
      · obtain ⟨Rw, q1, q2⟩ := hs.ro g d hg
        exact ⟨Rw, by simp [m2, hk, q1], (q2.cut hok.1).mono (fun _ _ => rfl) hcutle (KeepI.refl _ _) (fun _ _ h => h) fun _ _ _ h => h⟩
      · exact hf.elim
    | j => cases hok.2
    | t x => cases hok.2
  have hst2 := (hst1.putHolds hW).sub (σ' := puts (dropT R σ) W) fun k d hk => by
    by_cases hW : ∃ p ∈ W, p.1 = k
    · rw [← hk]; exact get_puts_in W _ _ k hW
    · have hW' : ∀ p ∈ W, p.1 ≠ k := fun p hp e => hW ⟨p, hp, e⟩
      rw [get_puts_not W _ _ hW'] at hk ⊢
      rw [hg1, if_pos]
      · exact hk
      · cases k with
        | r g =>
          show (!rowN R g) = true
          cases hn : rowN R g with
          | false => rfl
          | true =>
            have := (w6 g (by unfold rowN at hn; rwa [List.contains_iff_mem] at hn)).2
            simp only [List.any_eq_true] at this
            obtain ⟨p, hp, e⟩ := this
            exact absurd (Key.eq_iff.1 e) (hW' p hp)
        | _ => rfl
  have hfin : ∃ v' m2 Im2, Ending.returned v = .returned v' ∧ St cx Fr m2 Im2 w' a (puts (dropT R σ) W) ∧ Rel m2 Im2 w' v' V :=
    ⟨v, m2, Im', rfl, hst2, hrel (hq3 _ _ _ _ r2) w4⟩
  rcases hq1 with rfl | rfl
  · exact ⟨hs.df, v, r1, hfin⟩
  · exact ⟨hs.df, v, r1, hfin⟩
end Go.Proofs.YtdmiekaeodcehaaGreat

