/-
  Contracts of before, as deep ones; term.Copy. Loops over an iterator that writes cells of its own between two rounds. term.each: all terms within, each ahead of its arguments: what the iterator hands to a loop's body. term.Size, term.Depth, term.Right, term.Loose: what the loops over all terms within hand back. term.Right. term.Equal, and slices.EqualFunc with it. Contracts of before, as deep ones. Deep contracts, as ones of before. Package norm, walked in the deep way: through. Package norm, walked in the deep way: Put. Package subst, walked in the deep way. The readings of a row's arguments that are pairs, and what was opened, told as deep values. term.Shift: what its closures do. Indexes that grow: what Shift is in plain Lean. Types and terms can be told apart; patterns in plain Lean. term.Var. term.Loose. Package pattern, walked in the deep way: what is small. Deep values: a function that hands back a new map. Package pattern, walked in the deep way: Flex, Vars, places, types.
-/
import Derived.Test.YtdmiekaeodcehaaRowMatchAllsp4
import Derived.Test.YtdmiekaeodcehaaRowMatchAllsp1
import Derived.Test.YtdmiekaeodcehaaRowMatchAllsp2
import Derived.RangeFuncWrites
import Derived.Laws.EntriesVeiled
set_option maxRecDepth 100000
set_option maxHeartbeats 1000000
set_option linter.unusedVariables false
set_option linter.unusedSimpArgs false
namespace Go.Proofs.Ytdmiekaeodcehaa
open Go.RowKit

theorem pure_below {P : Program} {f : FuncId} (hf : entersB P f = true) {ds : List D} {V : D}
    (h : ∀ (m : Mp) (Im : Nat → Nat → Prop) (w : World) (vs : List Value), RelL m Im w vs ds → Calls P f vs.toArray w fun e w' => ∃ v, e = .returned v ∧ Below w.heap.size w w' ∧ ∀ Im' : Nat → Nat → Prop, (∀ b o, Im b o → Im' b o) → (∀ b o v, w.heap.size ≤ b → w'.cell? ⟨b, o, none⟩ = some v → Im' b o) → Rel m Im' w' v V) : PureC P f ds V := by
  refine ⟨hf, fun cx Fr m Im w vs hmem hargs _ => (h m Im w vs hargs).mono ?_⟩
  rintro e w' ⟨v, rfl, hb, hr⟩
  refine ⟨v, fun b o => Im b o ∨ (w.heap.size ≤ b ∧ ∃ v, w'.cell? ⟨b, o, none⟩ = some v), rfl, ⟨hb.os, hb.tape, hb.output, hb.size, fun b hl _ => hb.block b hl⟩, fun b o h => .inl h, fun b o h => h.imp id fun h => h.1, fun b o hi => ?_, fun k b o hk => ?_, hr _ (fun b o h => .inl h) fun b o v h1 h2 => .inr ⟨h1, v, h2⟩, nofun⟩
  · rcases hi with hi | hi
    · obtain ⟨v, hv⟩ := hmem.im b o hi
      exact ⟨v, (hb.cell (p := ⟨b, o, none⟩) (ltOfCell hv)).trans hv⟩
    · exact hi.2
  · exact (World.frozen?_of_block (a := ⟨b, o, none⟩) (hb.block b (hmem.lt k b hk))).trans (hmem.free k b o hk)
theorem agTm {m : Mp} {Im : Nat → Nat → Prop} {w : World} {x : Value} {t : Tm} (h : Rel m Im w x (.ag (eTm t))) : ∃ b k i a, x = .agg #[b, k, i, a] ∧ IsTm (blkI Im) w b k i a t := by
  obtain ⟨cs, rfl, hr⟩ := rel_ag.1 h
  obtain ⟨b, k, i, a, rfl, ht⟩ := tm_of_rel t hr
  exact ⟨b, k, i, a, rfl, ht⟩
theorem slTy {m : Mp} {Im : Nat → Nat → Prop} {w : World} {v : Value} {l : List Ty} (h : Rel m Im w v (.sl 2 (eTys l) none)) : IsSl rpTy (blkI Im) w v l :=
  sl_of_rel (r := rpTy) (e := eTy) eTy_len (fun x t hx _ => ty_of_rel t hx) (by decide) (by rw [eTys_map] at h; exact h)
theorem agTy {m : Mp} {Im : Nat → Nat → Prop} {w : World} {x : Value} {t : Ty} (h : Rel m Im w x (.ag (eTy t))) : ∃ s b, x = .agg #[s, b] ∧ IsTy (blkI Im) w s b t := by
  obtain ⟨cs, rfl, hr⟩ := rel_ag.1 h
  obtain ⟨s, b, rfl, ht⟩ := ty_of_rel t hr
  exact ⟨s, b, rfl, ht⟩
theorem arrow_d (t : Ty) (l : List Ty) (hl : Ty.sizes l + t.size ≤ 100000) : PureC Try.prog 89 [.ag (eTy t), .sl 2 (eTys l) none] (.ag (eTy (.mk (l ++ t.args) t.base))) := by
  refine pure_below (by kernel_rfl) fun m Im w vs hv => ?_
  match vs, hv with
  | [x, y], hv =>
    obtain ⟨s, b, rfl, ht⟩ := agTy hv.1
    refine (arrow_k ht (slTy hv.2.1) hl).mono ?_
    rintro e w' ⟨s', b', rfl, h1, h2⟩
    exact ⟨_, rfl, h2, fun Im' _ hI => rel_ag.2 ⟨_, rfl, rel_of_ty (fun b o v hb hc => hI b o v hb hc) _ h1⟩⟩
def TCP_34 : TI := ⟨4, true, [Value.slice none 0 0, Value.int IntKind.i64 0, Value.int IntKind.i64 0, Value.slice none 0 0], [(0, 1, false), (1, 2, true), (3, 1, false)], none, 64, 6, none, false⟩
theorem TCP_34_ok : TypOk Try.prog 34 TCP_34 := ⟨by kernel_rfl, by kernel_rfl, by kernel_rfl, by kernel_rfl, by kernel_rfl⟩
def TCP_3 : TI := ⟨1, false, [Value.int IntKind.i64 0], [], none, 8, 2, none, false⟩
theorem TCP_3_ok : TypOk Try.prog 3 TCP_3 := ⟨by kernel_rfl, by kernel_rfl, by kernel_rfl, by kernel_rfl, by kernel_rfl⟩
def TCP_32 : TI := ⟨1, false, [Value.slice none 0 0], [], some 34, 24, 5, none, false⟩
theorem TCP_32_ok : TypOk Try.prog 32 TCP_32 := ⟨by kernel_rfl, by kernel_rfl, by kernel_rfl, by kernel_rfl, by kernel_rfl⟩
def TCP_31 : TI := ⟨2, true, [Value.int IntKind.i64 0, Value.int IntKind.i64 0], [(0, 1, false), (1, 1, false)], none, 16, 6, none, true⟩
theorem TCP_31_ok : TypOk Try.prog 31 TCP_31 := ⟨by kernel_rfl, by kernel_rfl, by kernel_rfl, by kernel_rfl, by kernel_rfl⟩
def TCP_30 : TI := ⟨1, false, [Value.slice none 0 0], [], some 100, 24, 5, none, false⟩
theorem TCP_30_ok : TypOk Try.prog 30 TCP_30 := ⟨by kernel_rfl, by kernel_rfl, by kernel_rfl, by kernel_rfl, by kernel_rfl⟩
def TCP_100 : TI := ⟨2, true, [Value.slice none 0 0, Value.int IntKind.i64 0], [(0, 1, false), (1, 1, false)], none, 32, 6, none, false⟩
theorem TCP_100_ok : TypOk Try.prog 100 TCP_100 := ⟨by kernel_rfl, by kernel_rfl, by kernel_rfl, by kernel_rfl, by kernel_rfl⟩
def TCP_198 : TI := ⟨1, false, [Value.nilFunc], [], none, 8, 8, none, false⟩
theorem TCP_198_ok : TypOk Try.prog 198 TCP_198 := ⟨by kernel_rfl, by kernel_rfl, by kernel_rfl, by kernel_rfl, by kernel_rfl⟩
def TCP : List (Nat × TI) := [(34, TCP_34), (3, TCP_3), (32, TCP_32), (31, TCP_31), (30, TCP_30), (100, TCP_100), (198, TCP_198)]
theorem TCP_ok : TabOk Try.prog TCP := ((((((((TabOk.nil _).cons TCP_198_ok).cons TCP_100_ok).cons TCP_30_ok).cons TCP_31_ok).cons TCP_32_ok).cons TCP_3_ok).cons TCP_34_ok)

theorem cEms_snoc (l : List Tm) (j : Nat) (h : j < l.length) : eTms (l.take j) ++ [[.sl 2 (eTys l[j].binds) none, .v (.int .i64 l[j].kind), .v (.int .i64 l[j].index), .sl 4 (eTms l[j].args) none]] = eTms (l.take (j + 1)) := by
  rw [← eTm_eq, List.take_add_one, List.getElem?_eq_getElem h, Option.toList_some, eTms_map, eTms_map, List.map_append]; rfl
theorem copy1_d (x : Int) : PureC Try.prog 113 [.v (.int .i64 x)] (.v (.int .i64 x)) := by
 refine calldw 0 4 [ResultVar.tmp 2] TCP_ok Try.func113 rfl Try.ntmps113 rfl fun cx hnt hn0 => ?_
 ·skip
  refine dw_seq ?_; refine dwk [] TCP_ok hnt fun K hK => ?_; refine hK _ _ ?_; clear hK K; refine dw_seq ?_; refine dwk [] TCP_ok hnt fun K hK => ?_; refine hK _ _ ?_; clear hK K; refine dw_ret ?_
  exact reta rfl
theorem cFulls_len (l : List Tm) : l.length ≤ Tm.fulls l := by
  induction l with
  | nil => simp
  | cons u l ih =>
    have : 1 ≤ u.full := by obtain ⟨b, k, i, a⟩ := u; rw [Tm.full_eq]; omega
    simp only [List.length_cons, Tm.fulls]; omega
theorem turnedD_d : ∀ t : Tm, ∀ ins : Int, 0 ≤ ins → ins + t.full ≤ 90000 → t.Fit → PureC Try.prog 112 [.ag (eTm t), .v (.int .i64 ins), .fn 113 []] (.ag (eTm t)) := by
 intro t
 induction t using Tm.ind with
 | h bs k i ar ih =>
  intro ins h0 hz hft
  rw [Tm.full_eq] at hz
  have hbl := Ty.le_sizes bs
  obtain ⟨hi0, hi1, _⟩ := Tm.fit_iff.1 hft
  have hs1 : (Ty.mk [] 0).size = 1 := by simp [Ty.size, Ty.sizes]
  have harr := arrow_d (.mk [] 0) bs (by omega)
  dsimp only [Ty.args, Ty.base] at harr
  rw [List.append_nil, eTy_eq, eTy_eq] at harr
  dsimp only [Ty.args, Ty.base, eTys] at harr
  have hal := cFulls_len ar
  rw [eTm_eq]
  dsimp only [Tm.binds, Tm.kind, Tm.index, Tm.args]
  obtain ⟨n, hn⟩ : ∃ n : Int, n = ins + bs.length := ⟨_, rfl⟩
  refine calldw 0 63 [ResultVar.cell 6 34] TCP_ok Try.func112 rfl Try.ntmps112 rfl fun cx hnt hn0 => ?_
  ·skip
   refine dw_seq ?_; refine dwk [] TCP_ok hnt fun K hK => ?_; refine hK _ _ ?_; clear hK K; refine dw_seq ?_; refine dwk [(14, .v (.int .i64 (n)))] TCP_ok hnt fun K hK => ?_; refine And.intro (dintE (by rw [eTys_len, IntWalk.i64_in _ (by omega)]; omega)) ?_; refine hK _ _ ?_; clear hK K; refine dw_seq ?_; refine dwkD [(15, .ag [.sl 2 [] none, .v (.int .i64 0)])] TCP_ok hnt fun K hK => ?_; refine And.intro (auV) ?_
   refine dcl (harr) ?_; refine hK _ _ (by kernel_rfl) ?_; clear hK K
   refine dw_cut (τ := [(.t 1, .v (.int .i64 n)), (.t 2, .fn 113 []), (.t 3, .p 0 0), (.t 6, .p 1 0), (.t 7, .p 16 0), (.c 0 0, .sl 2 (eTys bs) none), (.c 0 1, .v (.int .i64 k)), (.c 0 2, .v (.int .i64 i)), (.c 0 3, .sl 4 (eTms ar) none), (.c 1 0, .v (.slice none 0 0)), (.c 1 1, .v (.int .i64 0)), (.c 1 2, .v (.int .i64 0)), (.c 1 3, .v (.slice none 0 0)), (.c 16 0, .sl 2 (eTys bs) none), (.c 16 1, .v (.int .i64 k)), (.c 16 2, .v (.int .i64 i)), (.c 16 3, .v (.slice none 0 0))]) (N1 := 17) ?_ ?_
   ·by_cases hk : k = 0
    ·by_cases hge : i ≥ n
     ·have hc1 := copy1_d (i - n)
      refine dw_seq ?_; refine dwk [(26, .v (.bool true)), (32, .v (.bool true))] TCP_ok hnt fun K hK => ?_; refine And.intro (VLe.of_eq (by simp [hk])) ?_; refine And.intro auT ?_; refine hK _ _ ?_; clear hK K; refine dw_cond (t := true) rfl ?_; rw [if_pos rfl]; refine dwk [(40, .v (.int .i64 ((i - n)))), (42, .v (.int .i64 (i)))] TCP_ok hnt fun K hK => ?_; refine And.intro (dintE (by exact IntWalk.i64_in _ (by omega))) ?_
      refine dcl (hc1) ?_; refine And.intro (dintE (by (rw [show n + (i - n) = i by omega]; exact IntWalk.i64_in _ (by omega)))) ?_; refine hK _ _ ?_; clear hK K
      exact cut_ok VS.toA
     ·skip
      refine dw_seq ?_; refine dwk [(26, .v (.bool true)), (32, .v (.bool false))] TCP_ok hnt fun K hK => ?_; refine And.intro (VLe.of_eq (by simp [hk])) ?_; refine And.intro auF ?_; refine hK _ _ ?_; clear hK K; refine dw_cond (t := false) rfl ?_; rw [if_neg (by simp)]; refine dw_skip ?_
      exact cut_ok VS.toA
    ·skip
     refine dw_seq ?_; refine dwk [(26, .v (.bool false))] TCP_ok hnt fun K hK => ?_; refine And.intro (VLe.of_eq (by simp [hk])) ?_; refine hK _ _ ?_; clear hK K; refine dw_cond (t := false) rfl ?_; rw [if_neg (by simp)]; refine dw_skip ?_
     exact cut_ok VS.toA
   ·refine DW.vs (VS.row (k := 16) (off := 3) 34 4 rfl) ?_
    refine dw_seq ?_; refine dw_seq ?_; refine dwk [(47, .v (.int .i64 (↑ar.length)))] TCP_ok hnt fun K hK => ?_; refine And.intro (dintE (by rw [eTms_len])) ?_; refine hK _ _ ?_; clear hK K; refine dw_block ?_
    refine dw_loop (ι := { j : Nat // j ≤ ar.length }) (fun j => [(.t 1, .v (.int .i64 n)), (.t 2, .fn 113 []), (.t 6, .p 1 0), (.t 7, .p 16 0), (.t 46, .sl 4 (eTms ar) none), (.t 47, .v (.int .i64 ↑ar.length)), (.t 48, .v (.int .i64 ↑j.1)), (.c 1 0, .v (.slice none 0 0)), (.c 1 1, .v (.int .i64 0)), (.c 1 2, .v (.int .i64 0)), (.c 1 3, .v (.slice none 0 0)), (.c 16 0, .sl 2 (eTys bs) none), (.c 16 1, .v (.int .i64 k)), (.c 16 2, .v (.int .i64 i)), (.c 16 3, .sl 4 (eTms (ar.take j.1)) (some 17)), (.r 17, .rw 34 4 j.1)]) 18 (fun j => ar.length - j.1) (⟨0, Nat.zero_le _⟩) (VS.toA) fun j => ?_
    obtain ⟨j, hj⟩ := j
    dsimp only
    by_cases hlt : j < ar.length
    ·have hmem := List.getElem_mem hlt
     have hsz := Tm.full_mem hmem
     have hc := ih _ hmem n (by omega) (by omega) ((Tm.fit_iff.1 hft).2.2 _ hmem)
     rw [eTm_eq] at hc
     have hl1 : (eTms (ar.take j)).length = j := by rw [eTms_len, List.length_take]; omega
     have hl2 : (eTms (ar.take (j + 1))).length = j + 1 := by rw [eTms_len, List.length_take]; omega
     refine dw_seq ?_; refine dwk [(49, .v (.bool true))] TCP_ok hnt fun K hK => ?_; refine And.intro auT ?_; refine hK _ _ ?_; clear hK K; refine dw_seq ?_; refine dw_cond (t := true) rfl ?_; rw [if_pos rfl]; refine dw_skip ?_; refine dw_seq ?_; refine dw_block ?_; refine dw_seq ?_; refine dwk [(50, .q [.sl 2 (eTys ar[j].binds) none, .v (.int .i64 ar[j].kind), .v (.int .i64 ar[j].index), .sl 4 (eTms ar[j].args) none])] TCP_ok hnt fun K hK => ?_
     refine And.intro (elo (eTms_len ar)) ?_; refine And.intro (elv (eTms_getD ar j) (eTm_eq _)) ?_; refine hK _ _ ?_; clear hK K; refine dwkD [] TCP_ok hnt fun K hK => ?_; refine dcl (hc) ?_; refine And.intro (⟨by omega, by rw [hl1]; simp; omega⟩) ?_; refine hK _ _ (by kernel_rfl) ?_; clear hK K
     rw [cEms_snoc ar j hlt, hl2]
     refine dwk [(61, .v (.int .i64 (↑(j + 1))))] TCP_ok hnt fun K hK => ?_; refine And.intro auI ?_; refine hK _ _ ?_; clear hK K
     refine ⟨⟨j + 1, hlt⟩, by first | omega | (dsimp only; omega), VS.toA⟩
    ·rw [List.take_of_length_le (by omega)]
     refine dw_seq ?_; refine dwk [(49, .v (.bool false))] TCP_ok hnt fun K hK => ?_; refine And.intro auF ?_; refine hK _ _ ?_; clear hK K; refine dw_seq ?_; refine dw_cond (t := false) rfl ?_; rw [if_neg (by simp)]; refine dw_exit ?_; refine dw_seq ?_; refine dwk [] TCP_ok hnt fun K hK => ?_; refine hK _ _ ?_; clear hK K; refine dw_ret ?_
     exact reta rfl
theorem copy_d (t : Tm) (hsz : t.full ≤ 80000) (hfit : t.Fit) : PureC Try.prog 61 [.ag (eTm t)] (.ag (eTm t)) := by
 have h := turnedD_d t 0 (Int.le_refl _) (by omega) hfit
 rw [eTm_eq] at h ⊢
 refine calldw 0 5 [ResultVar.cell 2 34] TCP_ok Try.func61 rfl Try.ntmps61 rfl fun cx hnt hn0 => ?_
 ·skip
  refine dw_seq ?_; refine dwk [] TCP_ok hnt fun K hK => ?_; refine hK _ _ ?_; clear hK K; refine dw_seq ?_; refine dwk [] TCP_ok hnt fun K hK => ?_; refine dcl (h) ?_; refine hK _ _ ?_; clear hK K; refine dw_ret ?_
  exact reta rfl
end Go.Proofs.Ytdmiekaeodcehaa

namespace Go.Proofs.Ytdmiekaeodcehaa
open Go.RowKit

def Mild {β : Type} (Ok : Obj → Prop) (B : Nat) (J : β → World → Prop) : Prop :=
  ∀ s W W' row, J s W → W.grownBy W' row → (∀ r, row = some r → B ≤ r ∧ ∃ o : Obj, W.heap[r]? = some o ∧ Ok o) → J s W'
section
variable {β : Type} {Ok : Obj → Prop} {B : Nat} {I I' : β → World → Prop}
theorem Mild.and (h : Mild Ok B I) (h' : Mild Ok B I') : Mild Ok B (fun s W => I s W ∧ I' s W) := fun s W W' row hs hg hr => ⟨h s W W' row hs.1 hg hr, h' s W W' row hs.2 hg hr⟩
theorem Mild.alloc (h : Mild Ok B I) {s : β} {W : World} (hs : I s W) (o : Obj) : I s (W.alloc o) := h s W _ none hs (World.grownBy_alloc W o none) (fun r e => by cases e)
theorem Mild.put (h : Mild Ok B I) (hOk : ∀ o : Obj, o.isCells = false → Ok o) {s : β} {W : World} (hs : I s W) {l : Nat} {o : Obj} (o' : Obj) (hl : W.heap[l]? = some o) (ho : o.isCells = false) (hB : B ≤ l) : I s (W.putObj l o') :=
  h s W _ _ hs (grownBy_putObj' W l o') (fun r e => by cases e; exact ⟨hB, o, hl, hOk o ho⟩)
theorem Mild.up {B' : Nat} (h : Mild Ok B I) (hB : B ≤ B') : Mild Ok B' I := fun s W W' row hs hg hr => h s W W' row hs hg fun r e => ⟨Nat.le_trans hB (hr r e).1, (hr r e).2⟩
theorem mild_block {k : Nat} {o : Obj} (hk : k < B) : Mild Ok B (fun (_ : β) W => W.heap[k]? = some o) := fun _ W _ row hs hg hr => (hg.block k (Array.getElem?_eq_some_iff.1 hs).1 (fun e => by have := (hr k e.symm).1; omega)).trans hs
theorem mild_below {n0 : Nat} {w0 : World} (hn : n0 ≤ w0.heap.size) (hB : n0 ≤ B) : Mild Ok B (fun (_ : β) W => Below n0 w0 W) := fun _ _ _ _ hs hg hr => hs.grown hg (Nat.le_trans hn hs.size) (fun k e => Nat.le_trans hB (hr k e).1)
end

def SeqSoft {α : Type} (Ok : Obj → Prop) (F : Fence) (n : Nat) (P : Program) (g : Nat) (lb : Array Value) (encs : α → Array Value) (Kp : World → World → Prop) (S Sp : List α → Prop) (N : Nat) (w : World) : Prop :=
  ∀ (l : Nat) (J Jx : List α → World → Prop) (W : World), Below w.heap.size w W → Mild Ok W.heap.size J → Mild Ok W.heap.size Jx →
    (∀ pre x V, J pre V → pre.length < N → YieldAt F (n - 1) P l (encs x) V fun e V' => (e = .returned (.bool true) ∧ J (pre ++ [x]) V' ∧ Kp V V') ∨ (e = .returned (.bool false) ∧ Jx (pre ++ [x]) V')) →
    J [] W → CallsIn F n P g (#[.func (.yield l) #[] #[]] ++ lb) W fun e W' => (∃ v, e = .returned v) ∧ ((∃ xs, S xs ∧ J xs W') ∨ (∃ pre, Sp pre ∧ Jx pre W'))

theorem range_softA {Ok : Obj → Prop} (hOk : ∀ o : Obj, o.isCells = false → Ok o) {F : Fence} {n : Nat} {P : Program} {α : Type} {g : Operand} {ps : Array Tmp} {assign body : Code} {Q : Exit → Act → World → Prop} {a : Act} {w : World}
    (hro : F.round = none) (hn : 1 ≤ n) {gf : Nat} {lb : Array Value} (hg : a.eval g = .func (.func gf) #[] lb) (hF : F.fn gf) (eg : ∀ args w, (callFunc gf args).run P w = .ok (.enter gf args) w)
    {encs : α → Array Value} {Kp : World → World → Prop} {S Sp : List α → Prop} {N : Nat} {w0 : World} (hseq : SeqSoft Ok F (n - 1) P gf lb encs Kp S Sp N w0)
    (hKt : ∀ {X Y Z : World}, Kp X Y → Kp Y Z → Kp X Z) (hKb : ∀ (W : World) (l : Nat) (o o' : Obj), w.heap.size ≤ l → W.heap[l]? = some o → o.isCells = false → o.isWalk = false → Kp W (W.putObj l o')) (hw0 : Below w0.heap.size w0 w) (hps : ∀ x, (encs x).size = ps.size)
    (I : List α → World → Prop) (Ix : Code → List α → World → Prop) (hI : Mild Ok w.heap.size I) (hIx : ∀ c, Mild Ok w.heap.size (Ix c)) (h0 : I [] w) (Ra : α → Act → World → Prop) (hRa : ∀ x a' W l (o o' : Obj), w.heap.size ≤ l → W.heap[l]? = some o → o.isCells = false → Ra x a' W → Ra x a' (W.putObj l o'))
    (hassign : ∀ (l : Nat) (pre : List α) (x : α) (W : World) (K : Act → World → Prop), I pre W → (∀ a' W', KeepsFrom w.heap.size W W' → Kp W W' → I pre W' → Ra x a' W' → K a' W') →
      assign.wpIn (F.inRound l) (n - 1 - 1) P (Exit.then K (fun _ _ _ => False)) { tmps := (ps.zip (encs x)).foldl (fun t (p, v) => t.setIfInBounds p v) a.tmps, defers := [] } W)
    (hbody : ∀ (l : Nat) (pre : List α) (x : α) (a' : Act) (W : World), I pre W → pre.length < N → Ra x a' W → body.wpIn (F.inRound l) (n - 1 - 1) P (ownPostG w.heap.size Kp I Ix (pre ++ [x]) W) a' W)
    (hdone : ∀ (D : Nat) (xs : List α) (W : World), w.heap.size ≤ D → S xs → I xs W → W.heap[D]? = some (.deferred (some [])) → Q .normal { a with defers := { target := .collected D, args := #[] } :: a.defers } W)
    (hstop : ∀ (D : Nat) (c : Code) (pre : List α) (W : World), w.heap.size ≤ D → Sp pre → Ix c pre W → W.heap[D]? = some (.deferred (some [])) → c.wpIn F n P Q { a with defers := { target := .collected D, args := #[] } :: a.defers } W) :
    (Code.rangeFunc g ps assign body).wpIn F n P Q a w := by
  refine wpIn_rangeFunc fun fn hfn => ?_
  rw [hro]
  let L : LoopState → Option Code → Obj := fun st pe => .loop { state := st, pending := pe, fn, tmps := a.tmps, params := ps, assign, body, defers := w.heap.size }
  let D : Obj := .deferred (some [])
  obtain ⟨W1, hW1⟩ : ∃ W1, (w.alloc D).alloc (L .ready none) = W1 := ⟨_, rfl⟩
  have hz : W1.heap.size = w.heap.size + 2 := by rw [← hW1]; simp
  have hL : W1.heap[w.heap.size + 1]? = some (L .ready none) := by rw [← hW1]; have h := World.alloc_heap_new (w.alloc D) (L .ready none); rwa [World.size_alloc] at h
  have hD : W1.heap[w.heap.size]? = some D := by rw [← hW1]; exact (Below.heap_alloc _ _ _ (by simp)).trans (World.alloc_heap_new w D)
  refine ⟨w.heap.size + 1, [{ target := .collected w.heap.size, args := #[] }], W1, { target := .fn (.func gf) lb, args := #[.func (.yield (w.heap.size + 1)) #[] #[]] }, W1, gf,
    #[.func (.yield (w.heap.size + 1)) #[] #[]] ++ lb, W1, by rw [← hW1]; exact run_enterLoop_outer _ _ _ _ _, by simp only [resolve, hg]; simp [go_sem], ?_, by simp [invoke, go_sem, eg], fun _ => hn, ?_⟩
  · intro f' hf'; simp [Target.leads] at hf'; subst hf'; exact hF
  have up : ∀ {β : Type} {J : β → World → Prop}, Mild Ok w.heap.size J → Mild Ok W1.heap.size J := fun h => h.up (by omega)
  have m1 : ∀ (o : Obj), Mild Ok W1.heap.size (fun (_ : List α) W => W.heap[w.heap.size + 1]? = some o) := fun o => mild_block (by omega)
  have m0 : Mild Ok W1.heap.size (fun (_ : List α) W => W.heap[w.heap.size]? = some D) := mild_block (by omega)
  refine (hseq (w.heap.size + 1)
    (fun pre W => I pre W ∧ W.heap[w.heap.size + 1]? = some (L .ready none) ∧ W.heap[w.heap.size]? = some D)
    (fun pre W => ∃ c, Ix c pre W ∧ W.heap[w.heap.size + 1]? = some (L .done (some c)) ∧ W.heap[w.heap.size]? = some D) W1
    (by rw [← hW1]; exact hw0.trans ((((Below.refl _ w).alloc (Nat.le_refl _) _).alloc (by simp) _).mono hw0.size))
    ((up hI).and ((m1 _).and m0)) (fun s A B row ⟨c, h1, h2, h3⟩ hgr hr => ⟨c, up (hIx c) s A B row h1 hgr hr, m1 _ s A B row h2 hgr hr, m0 s A B row h3 hgr hr⟩)
    ?_ ⟨by rw [← hW1]; exact hI.alloc (hI.alloc h0 _) _, hL, hD⟩).mono ?_
  · -- a round
    rintro pre x V0 ⟨hi0, hl0, hd0⟩ hlen
    refine ⟨fn, _, assign, body, run_yield (P := P) (args := encs x) hl0 (hps x), roundIn_of_wpIn hfn (hassign _ pre x V0 _ hi0 fun a' V hkf hkp0 hi hra => ?_)⟩
    have hl := hkf.same _ _ (by omega) hl0 rfl
    have hd := hkf.same _ _ (Nat.le_refl _) hd0 rfl
    have hlt : w.heap.size + 1 < V.heap.size := (Array.getElem?_eq_some_iff.1 hl).1
    refine ⟨_, run_beginRound hl rfl, ?_⟩
    obtain ⟨V2, hV2⟩ : ∃ V2, V.putObj (w.heap.size + 1) (L .busy none) = V2 := ⟨_, rfl⟩
    have hl2 : V2.heap[w.heap.size + 1]? = some (L .busy none) := by rw [← hV2]; exact World.putObj_heap_same hlt
    have hd2 : V2.heap[w.heap.size]? = some D := by rw [← hV2]; exact (World.putObj_heap_other (by omega)).trans hd
    have hk2 : Kp V0 V2 := by rw [← hV2]; exact hKt hkp0 (hKb _ _ _ _ (by omega) hl rfl rfl)
    have hi2 : I pre V2 := by rw [← hV2]; exact hI.put hOk hi _ hl rfl (by omega)
    have hra2 : Ra x a' V2 := by rw [← hV2]; exact hRa _ _ _ _ _ _ (by omega) hl rfl hra
    show Code.wpIn _ _ _ _ _ _ (V.putObj (w.heap.size + 1) (L .busy none))
    rw [hV2]
    clear hV2 hl hd hi hlt
    refine wpIn_mono (hbody _ pre x a' V2 hi2 hlen hra2) ?_
    have fin : ∀ (jump : Option Code) (V3 : World), KeepsFrom w.heap.size V2 V3 → V3.heap[w.heap.size + 1]? = some (L .busy none) ∧ ∃ V4, V4 = V3.putObj (w.heap.size + 1) (L (if jump.isNone then .ready else .done) jump) ∧
        (Instr.endRound (w.heap.size + 1) jump).run P V3 = .ok (.bool jump.isNone) V4 ∧ V4.heap[w.heap.size + 1]? = some (L (if jump.isNone then .ready else .done) jump) ∧ V4.heap[w.heap.size]? = some D := fun jump V3 hk => by
      have h1 := hk.same _ _ (by omega) hl2 rfl
      exact ⟨h1, _, rfl, run_endRound (P := P) jump h1, World.putObj_heap_same (Array.getElem?_eq_some_iff.1 h1).1, (World.putObj_heap_other (by omega)).trans (hk.same _ _ (Nat.le_refl _) hd2 rfl)⟩
    have out : ∀ (c : Code) (V3 : World), KeepsFrom w.heap.size V2 V3 → Ix c (pre ++ [x]) V3 → ∃ r V4, (Instr.endRound (w.heap.size + 1) (some c)).run P V3 = .ok r V4 ∧ (Ending.returned r = .returned (.bool false) ∧ ∃ c, Ix c (pre ++ [x]) V4 ∧ V4.heap[w.heap.size + 1]? = some (L .done (some c)) ∧ V4.heap[w.heap.size]? = some D) := fun c V3 hk hi => by
      obtain ⟨h3, V4, rfl, hr, h4, h5⟩ := fin (some c) V3 hk
      exact ⟨_, _, hr, rfl, c, (hIx c).put hOk hi _ h3 rfl (by omega), h4, h5⟩
    rintro e a3 V3 hp
    cases e with
    | normal =>
      obtain ⟨hk, hkp, hi⟩ := hp
      obtain ⟨h3, V4, rfl, hr, h4, h5⟩ := fin none V3 hk
      exact ⟨_, _, hr, .inl ⟨rfl, ⟨hI.put hOk hi _ h3 rfl (by omega), h4, h5⟩, hKt (hKt hk2 hkp) (hKb _ _ _ _ (by omega) h3 rfl rfl)⟩⟩
    | ret => obtain ⟨r, V4, hr, h⟩ := out .ret V3 hp.1 hp.2; exact ⟨r, V4, hr, .inr h⟩
    | exit id => obtain ⟨r, V4, hr, h⟩ := out (.exit id) V3 hp.1 hp.2; exact ⟨r, V4, hr, .inr h⟩
    | goto t => obtain ⟨r, V4, hr, h⟩ := out (.goto t) V3 hp.1 hp.2; exact ⟨r, V4, hr, .inr h⟩
    | panic ch => exact hp.elim
    | outgrown => exact hp.elim
  · -- behind the iterator
    rintro e W2 ⟨⟨v, rfl⟩, ⟨xs, hS, hi, hl, hd⟩ | ⟨pre, hSp, c, hi, hl, hd⟩⟩
    · exact ⟨none, _, run_endLoop (P := P) hl (by simp), hdone _ xs _ (Nat.le_refl _) hS (hI.put hOk hi _ hl rfl (by omega)) ((World.putObj_heap_other (by omega)).trans hd)⟩
    · exact ⟨some c, _, run_endLoop (P := P) hl (by simp), hstop _ c pre _ (Nat.le_refl _) hSp ((hIx c).put hOk hi _ hl rfl (by omega)) ((World.putObj_heap_other (by omega)).trans hd)⟩
end Go.Proofs.Ytdmiekaeodcehaa

namespace Go.Proofs.Ytdmiekaeodcehaa
open Go.RowKit Go.Shelf
attribute [local go_sem] Oper.semAt_some

namespace Tm
mutual
def pre : Tm → Nat → Nat → List (Nat × Nat × Tm)
  | .mk b k i a, s, d => (s + b.length, d, .mk b k i a) :: pres a (s + b.length) (d + 1)
def pres : List Tm → Nat → Nat → List (Nat × Nat × Tm)
  | [], _, _ => []
  | t :: l, s, d => pre t s d ++ pres l s d
end
theorem pre_eq (b : List Ty) (k i : Int) (a : List Tm) (s d : Nat) : pre (.mk b k i a) s d = (s + b.length, d, .mk b k i a) :: pres a (s + b.length) (d + 1) := by rw [pre]
theorem pres_append (l r : List Tm) (s d : Nat) : pres (l ++ r) s d = pres l s d ++ pres r s d := by
  induction l with
  | nil => simp [pres]
  | cons t l ih => simp [pres, ih]
theorem pres_take (l : List Tm) (i s d : Nat) (h : i < l.length) : pres (l.take (i + 1)) s d = pres (l.take i) s d ++ pre l[i] s d := by
  rw [List.take_succ_eq_append_getElem h, pres_append]; simp [pres]
theorem pres_take_le (l : List Tm) (i s d : Nat) : pres (l.take i) s d <+: pres l s d := by
  conv => rhs; rw [← List.take_append_drop i l]
  rw [pres_append]; exact List.prefix_append _ _
theorem pres_length_of {l : List Tm} (h : ∀ t ∈ l, ∀ s d, (pre t s d).length = t.size) : ∀ s d, (pres l s d).length = sizes l := by
  induction l with
  | nil => intro s d; simp [pres, sizes]
  | cons t l ih => intro s d; simp [pres, sizes, h t (by simp) s d, ih (fun u hu => h u (by simp [hu])) s d]
theorem pre_length (t : Tm) : ∀ s d, (pre t s d).length = t.size := by
  induction t using Tm.ind with
  | h b k i a ih => intro s d; simp [pre_eq, size_eq, pres_length_of ih]
theorem pres_length (l : List Tm) (s d : Nat) : (pres l s d).length = sizes l := pres_length_of (fun t _ => pre_length t) s d
end Tm

structure Hit6 (F : Nat → Prop) (w : World) where
  s : Nat
  d : Nat
  pb : Option Addr
  cb : Nat
  pa : Option Addr
  ca : Nat
  t : Tm
  ok : IsTm F w (.slice pb t.binds.length cb) (.int .i64 t.kind) (.int .i64 t.index) (.slice pa t.args.length ca) t
def Hit6.key {F : Nat → Prop} {w : World} (x : Hit6 F w) : Nat × Nat × Tm := (x.s, x.d, x.t)
def Hit6.enc {F : Nat → Prop} {w : World} (x : Hit6 F w) : Array Value := #[.agg #[.int .i64 x.s, .int .i64 x.d], .agg #[.slice x.pb x.t.binds.length x.cb, .int .i64 x.t.kind, .int .i64 x.t.index, .slice x.pa x.t.args.length x.ca]]

def DownPost6 {F : Nat → Prop} {w0 : World} (G : Nat → TypeId → Prop) (J Jx : List (Hit6 F w0) → World → Prop) (pre : List (Hit6 F w0)) (l : List (Nat × Nat × Tm)) (W : World) (e : Ending) (W' : World) : Prop :=
  (e = .returned (.bool true) ∧ KeepC G W W' ∧ ∃ xs, xs.map Hit6.key = l ∧ J (pre ++ xs) W') ∨ (e = .returned (.bool false) ∧ ∃ xs, xs.map Hit6.key <+: l ∧ Jx (pre ++ xs) W')

def SpotOk (o : Obj) : Prop := o.isCells = false ∨ ∃ cs fr, o = .cells cs 163 fr
theorem KeepC.setNew {G : Nat → TypeId → Prop} {A B : World} (h : KeepC G A B) (p : Addr) (u : Value) (hp : A.heap.size ≤ p.block) : KeepC G A (B.setCell p u) :=
  ⟨by simpa using h.size, fun k cs t fr hk hc => by
    have hlt : k < A.heap.size := (Array.getElem?_eq_some_iff.1 hc).1
    exact (Below.heap_setCell _ _ _ _ (fun e => by omega)).trans (h.cells k cs t fr hk hc)⟩
theorem Mild.setSpot {β : Type} {B : Nat} {J : β → World → Prop} (h : Mild SpotOk B J) {s : β} {W : World} (hs : J s W) {n i : Nat} {cs : Array Value} (u : Value) (hb : Blk W n cs 163) (hB : B ≤ n) : J s (W.setCell ⟨n, i, none⟩ u) :=
  h s W _ (some n) hs ⟨rfl, rfl, rfl, by simp, fun k _ hk => Below.heap_setCell _ _ _ _ (fun e => hk (by rw [e]))⟩ (fun r e => by cases e; exact ⟨hB, _, hb, .inr ⟨_, _, rfl⟩⟩)

set_option maxRecDepth 100000 in
set_option maxHeartbeats 1000000 in
theorem down6_k {F : Nat → Prop} {w0 : World} (G : Nat → TypeId → Prop) (hGF : ∀ k t, F k → k < w0.heap.size → G k t) (l N B0 : Nat) (hN0 : N ≤ 1000000) (J Jx : List (Hit6 F w0) → World → Prop) (hJ : Mild SpotOk B0 J)
    (hY : ∀ m pre x W, J pre W → pre.length < N → YieldAt Fence.wide m Try.prog l (Hit6.enc x) W fun e W' =>
      (e = .returned (.bool true) ∧ J (pre ++ [x]) W' ∧ KeepC G W W') ∨ (e = .returned (.bool false) ∧ Jx (pre ++ [x]) W')) :
    ∀ t : Tm, ∀ {b k i a : Value} (_ : IsTm F w0 b k i a t) (n s d : Nat) (si di : Int) (pre : List (Hit6 F w0)) (W : World), si = s → di = d → (∀ k t, W.heap.size ≤ k → t ≠ 3 → G k t) → B0 ≤ W.heap.size → Keep F w0 W → J pre W → pre.length + t.size ≤ N → d + t.depth ≤ 1000000 → s + t.full ≤ 1000000 →
      CallsIn Fence.wide n Try.prog 142 #[.agg #[b, k, i, a], .agg #[.int .i64 si, .int .i64 di], .func (.yield l) #[] #[]] W (DownPost6 G J Jx pre (t.pre s d) W) := Tm.ind fun binds k0 i0 args ih => by
  intro b k i a ht nn s d si di pre W hsi hdi hG hB0 hw hJ0 hN hd hs
  subst hsi hdi
  obtain ⟨pa, pc, qa, qc, rfl, rfl, rfl, rfl⟩ := ht.shape
  simp only [Tm.binds, Tm.kind, Tm.index, Tm.args] at ht ⊢
  obtain ⟨_, _, _, hsl⟩ := ht.inv
  simp only [Tm.args] at hsl
  obtain ⟨_, hm, bl, off, PA, A, PN, PC, N', C, Kd, Ix, ha, h1, h2, h3, h4, h5⟩ := sl_cells6 hsl
  have hdd : ∀ k : Nat, (Fence.wide.depth.isSome = true → 1 ≤ k) := fun k h => by cases h
  have hlen : args.length ≤ 1000000 := by have := Tm.len_sizes args; rw [Tm.size_eq] at hN; omega
  have hbl : s + binds.length ≤ 1000000 := by have := Ty.le_sizes binds; rw [Tm.full_eq] at hs; omega
  have hq1 : IntKind.i64.wrap ((s : Int) + (binds.length : Int)) = (s : Int) + (binds.length : Int) := IntWalk.i64_in _ (by omega)
  have hdb : (d : Int) ≤ 1000000 := by omega
  have hq2 : IntKind.i64.wrap ((d : Int) + 1) = (d : Int) + 1 := IntWalk.i64_in _ (by omega)
  obtain ⟨W1, hW1⟩ : ∃ W1, (W.alloc (.cells #[.slice pa binds.length pc, .int .i64 k0, .int .i64 i0, .slice qa args.length qc] 34)).alloc (.cells #[.int .i64 ((s : Int) + (binds.length : Int)), .int .i64 d] 163) = W1 := ⟨_, rfl⟩
  have hJ1 : J pre W1 := by rw [← hW1]; exact hJ.alloc (hJ.alloc hJ0 _) _
  have xt : Blk W1 W.heap.size #[.slice pa binds.length pc, .int .i64 k0, .int .i64 i0, .slice qa args.length qc] 34 := by rw [← hW1]; exact (Blk.new _ _ _ rfl).alloc _
  have xs : Blk W1 (W.heap.size + 1) #[.int .i64 ((s : Int) + (binds.length : Int)), .int .i64 d] 163 := by rw [← hW1]; exact Blk.new _ _ _ (by simp)
  have hz1 : W1.heap.size = W.heap.size + 2 := by rw [← hW1]; simp
  have hk0 : KeepC G W W1 := by rw [← hW1]; exact ((KeepC.refl G W).alloc _).alloc _
  obtain ⟨X, hX⟩ : ∃ X : Hit6 F w0, X = ⟨s + binds.length, d, pa, pc, qa, qc, .mk binds k0 i0 args, ht⟩ := ⟨_, rfl⟩
  have hkey : X.key = (s + binds.length, d, .mk binds k0 i0 args) := by rw [hX]; rfl
  obtain ⟨fn, tmps, assign, body, hy, hR⟩ := hY (nn - 1) pre X W1 hJ1 (by have := Tm.size_pos (.mk binds k0 i0 args); omega)
  have henc : X.enc = #[.agg #[.int .i64 ((s : Int) + (binds.length : Int)), .int .i64 d], .agg #[.slice pa binds.length pc, .int .i64 k0, .int .i64 i0, .slice qa args.length qc]] := by rw [hX]; simp [Hit6.enc, Tm.binds, Tm.kind, Tm.index, Tm.args]
  rw [henc] at hy
  clear hX henc ht hsl
  refine callsIn_of_wp Try.func142 rfl trivial ?_ rfl
  simp only [Try.ntmps142, List.size_toArray, List.length_cons, List.length_nil, Nat.reduceAdd, Nat.reduceSub, Array.replicate_succ, Array.replicate_zero, List.push_toArray, List.append_toArray, List.nil_append, List.cons_append]
  have c0 : W1.cell? ⟨W.heap.size, 0, none⟩ = some (.slice pa binds.length pc) := xt.cell rfl
  have c1 : W1.cell? ⟨W.heap.size, 1, none⟩ = some (.int .i64 k0) := xt.cell rfl
  have c2 : W1.cell? ⟨W.heap.size, 2, none⟩ = some (.int .i64 i0) := xt.cell rfl
  have c3 : W1.cell? ⟨W.heap.size, 3, none⟩ = some (.slice qa args.length qc) := xt.cell rfl
  have s0 : W1.cell? ⟨W.heap.size + 1, 0, none⟩ = some (.int .i64 ((s : Int) + (binds.length : Int))) := xs.cell rfl
  have s1 : W1.cell? ⟨W.heap.size + 1, 1, none⟩ = some (.int .i64 d) := xs.cell rfl
  gi_wp2_with fail
  clear hW1
  refine ⟨hdd _, hR.mono ?_⟩
  clear c0 c1 c2 c3 s0 s1
  rintro e W2 (⟨rfl, hJ2, hk1⟩ | ⟨rfl, hx1⟩)
  rotate_left
  · gi_wp2_with fail
    go_ret
    exact .inr ⟨rfl, [X], ⟨Tm.pres args (s + binds.length) (d + 1), by simp [hkey, Tm.pre_eq]⟩, hx1⟩
  have yt : Blk W2 W.heap.size _ _ := hk1.blk xt (hG _ _ (Nat.le_refl _) (by decide))
  have ys : Blk W2 (W.heap.size + 1) _ _ := hk1.blk xs (hG _ _ (by omega) (by decide))
  have c0 : W2.cell? ⟨W.heap.size, 0, none⟩ = some (.slice pa binds.length pc) := yt.cell rfl
  have c1 : W2.cell? ⟨W.heap.size, 1, none⟩ = some (.int .i64 k0) := yt.cell rfl
  have c2 : W2.cell? ⟨W.heap.size, 2, none⟩ = some (.int .i64 i0) := yt.cell rfl
  have c3 : W2.cell? ⟨W.heap.size, 3, none⟩ = some (.slice qa args.length qc) := yt.cell rfl
  have s1 : W2.cell? ⟨W.heap.size + 1, 1, none⟩ = some (.int .i64 d) := ys.cell rfl
  have f1 := ys.free 1
  gi_wp2_with fail
  obtain ⟨W3, hW3⟩ : ∃ W3, W2.setCell ⟨W.heap.size + 1, 1, none⟩ (.int .i64 ((d : Int) + 1)) = W3 := ⟨_, rfl⟩
  have hJ3 : J (pre ++ [X]) W3 := by rw [← hW3]; exact hJ.setSpot hJ2 _ ys (by omega)
  have hk3 : KeepC G W W3 := by rw [← hW3]; exact (hk0.trans hk1).setNew _ _ (by simp)
  have xt3 : Blk W3 W.heap.size #[.slice pa binds.length pc, .int .i64 k0, .int .i64 i0, .slice qa args.length qc] 34 := by rw [← hW3]; exact yt.far _ _ (by simp)
  have xs3 : Blk W3 (W.heap.size + 1) #[.int .i64 ((s : Int) + (binds.length : Int)), .int .i64 ((d : Int) + 1)] 163 := by rw [← hW3]; exact ys.set 1 _
  try rw [hW3]
  clear hW3 c0 c1 c2 c3 s1 f1 hJ2 hk1 yt ys hk0 xt xs hJ1 hR hy hY hz1
  have Hih := Lib.hid ih; clear ih
  have HG := Lib.hid hG; clear hG
  have HN := Lib.hid hN; clear hN
  have Hd := Lib.hid hd; clear hd
  have Hs := Lib.hid hs; clear hs
  gi_loopw [8, 28] (fun _ i wr => ∃ (k : Nat) (xs : List (Hit6 F w0)), i = .int .i64 k ∧ k ≤ args.length ∧ Hid (xs.map Hit6.key = Tm.pres (args.take k) (s + binds.length) (d + 1)) ∧ J (pre ++ [X] ++ xs) wr ∧ KeepC G W wr ∧
      Blk wr W.heap.size #[.slice pa binds.length pc, .int .i64 k0, .int .i64 i0, .slice qa args.length qc] 34 ∧ Blk wr (W.heap.size + 1) #[.int .i64 ((s : Int) + (binds.length : Int)), .int .i64 ((d : Int) + 1)] 163) (fun _ i _ => args.length - (intOf i).toNat)
  case atStart => exact ⟨0, [], rfl, by omega, by simp [Hid, Tm.pres], by simpa using hJ3, hk3, xt3, xs3⟩
  case round =>
    clear hJ3 hk3 xt3 xs3
    obtain ⟨k, xs, rfl, hk, hxs, hJr, hkr, hbt, hbs⟩ := hrel
    have Hkr := Lib.hid hkr
    have HJr := Lib.hid hJr; clear hJr
    have hsz := hkr.size
    have hsb := hbs.lt
    have s0 : wr.cell? ⟨W.heap.size + 1, 0, none⟩ = some (.int .i64 ((s : Int) + (binds.length : Int))) := hbs.cell rfl
    have s1 : wr.cell? ⟨W.heap.size + 1, 1, none⟩ = some (.int .i64 ((d : Int) + 1)) := hbs.cell rfl
    by_cases hlt : k < args.length
    · obtain ⟨rfl, hF⟩ := ha (by omega)
      have hKp : Keep F w0 wr := hkr.keep' hw hGF
      have e1 := hKp _ _ _ hF (h1 k hlt)
      have e2 := hKp _ _ _ hF (h2 k hlt)
      have e3 := hKp _ _ _ hF (h3 k hlt)
      have e4 := hKp _ _ _ hF (h4 k hlt)
      have hs1 := Lib.hid (Tm.sizes_take args k hlt)
      have hs2 := Lib.hid (Tm.sizes_take_le args (k + 1))
      have hl : Hid (xs.length = Tm.sizes (args.take k)) := by
        show _ = _
        have := congrArg List.length hxs.out
        rw [List.length_map] at this
        rw [this, Tm.pres_length]
      have hz : pre.length + 1 + xs.length + args[k].size ≤ N := by have := HN.out; have := hl.out; have := hs1.out; have := hs2.out; rw [Tm.size_eq] at *; omega
      gi_wp2_with fail
      refine ⟨trivial, hdd _, (Hih.out args[k] (List.getElem_mem hlt) (h5 k hlt) (nn - 1) (s + binds.length) (d + 1) ((s : Int) + (binds.length : Int)) ((d : Int) + 1) (pre ++ [X] ++ xs) _ (by omega) (by omega) (fun q t hq ht => HG.out q t (by simp at hq; omega) ht) (by simp; omega) (hKp.alloc _) (hJ.alloc HJr.out _) (by simp; omega) ?_ ?_).mono ?_⟩
      · have := Hd.out; have := Tm.depth_mem (List.getElem_mem hlt); rw [Tm.depth_eq] at *; omega
      · have := Hs.out; have := Tm.full_mem (List.getElem_mem hlt); have := Ty.le_sizes binds; rw [Tm.full_eq] at *; omega
      rintro e W2 (⟨rfl, hk2, ys, hys, hJ2⟩ | ⟨rfl, ys, hys, hx2⟩)
      · have HJ2 := Lib.hid hJ2; clear hJ2
        have Hys := Lib.hid hys; clear hys
        have hbt2 := hk2.blk (hbt.alloc _) (HG.out _ _ (Nat.le_refl _) (by decide))
        have hbs2 := hk2.blk (hbs.alloc _) (HG.out _ _ (by omega) (by decide))
        gi_wp2_with fail
        go_roundw
        case rel => exact ⟨k + 1, xs ++ ys, by go_num, by omega, by show _ = _; rw [List.map_append, hxs.out, Hys.out, Tm.pres_take _ _ _ _ hlt], by rw [← List.append_assoc]; exact HJ2.out, (Hkr.out.alloc _).trans hk2, hbt2, hbs2⟩
        case measure => simp [intOf]; omega
      · have Hys := Lib.hid hys; clear hys
        have Hx2 := Lib.hid hx2; clear hx2
        gi_wp2_with fail
        go_ret
        refine .inr ⟨rfl, X :: (xs ++ ys), ?_, by simpa using Hx2.out⟩
        obtain ⟨r, hr⟩ := Hys.out
        have hp := Tm.pres_take args k (s + binds.length) (d + 1) hlt
        rw [← hr] at hp
        obtain ⟨q, hq⟩ := Tm.pres_take_le args (k + 1) (s + binds.length) (d + 1)
        refine ⟨r ++ q, ?_⟩
        simp only [Tm.pre_eq, List.map_cons, List.map_append, hkey, List.cons_append]
        rw [← hq, hp, ← hxs.out]
        simp
    · gi_wp2_with fail
      go_ret
      refine .inl ⟨rfl, Hkr.out, X :: xs, ?_, by simpa using HJr.out⟩
      have h := hxs.out
      rw [List.take_of_length_le (by omega)] at h
      simp [Tm.pre_eq, hkey, ← h]

theorem each61_k {F : Nat → Prop} {w0 : World} (G : Nat → TypeId → Prop) (hGF : ∀ k t, F k → k < w0.heap.size → G k t) (l : Nat) (J Jx : List (Hit6 F w0) → World → Prop)
    {b k i a : Value} {t : Tm} (ht : IsTm F w0 b k i a t) (hsz : t.full ≤ 500000) (n : Nat) (W : World) (hJ : Mild SpotOk W.heap.size J)
    (hY : ∀ pre x V, J pre V → pre.length < t.size → YieldAt Fence.wide (n - 1) Try.prog l (Hit6.enc x) V fun e W' =>
      (e = .returned (.bool true) ∧ J (pre ++ [x]) W' ∧ KeepC G V W') ∨ (e = .returned (.bool false) ∧ Jx (pre ++ [x]) W'))
    (hG : ∀ k t, W.heap.size ≤ k → t ≠ 3 → G k t) (hw : Keep F w0 W) (Bt : Nat) (c0 : W.cell? ⟨Bt, 0, none⟩ = some b) (c1 : W.cell? ⟨Bt, 1, none⟩ = some k) (c2 : W.cell? ⟨Bt, 2, none⟩ = some i) (c3 : W.cell? ⟨Bt, 3, none⟩ = some a) (h0 : J [] W) :
    CallsIn Fence.wide n Try.prog 141 #[.func (.yield l) #[] #[], .pointer (some ⟨Bt, 0, none⟩)] W fun e W' => (∃ v, e = .returned v) ∧
      ((∃ ys, List.map Hit6.key ys = t.pre 0 1 ∧ J ys W') ∨ (∃ pre, List.map Hit6.key pre <+: t.pre 0 1 ∧ Jx pre W')) := by
  have hdd : ∀ k : Nat, (Fence.wide.depth.isSome = true → 1 ≤ k) := fun k h => by cases h
  have hf := Tm.size_le_full t
  have hp := Lib.hid (down6_k G hGF l t.size W.heap.size (by omega) J Jx hJ (fun m pre x V hj hl => yield_any rfl m (hY pre x V hj hl)) t ht (n - 1) 0 1 0 1 [] W rfl rfl hG (Nat.le_refl _) hw h0 (by simp) (by have := Tm.depth_le_size t; omega) (by omega))
  clear hG hY
  obtain ⟨pa, pc, qa, qc, rfl, rfl, rfl, rfl⟩ := ht.shape
  refine callsIn_of_wp Try.func141 rfl trivial ?_ rfl
  simp only [Try.ntmps141, List.size_toArray, List.length_cons, List.length_nil, Nat.reduceAdd, Nat.reduceSub, Array.replicate_succ, Array.replicate_zero, List.push_toArray, List.append_toArray, List.nil_append, List.cons_append]
  gi_wp2_with fail
  refine ⟨trivial, hdd _, hp.out.mono ?_⟩
  rintro e W1 (⟨rfl, hk, ys, hys, hJ1⟩ | ⟨rfl, ys, hys, hx⟩)
  · have A1 := Lib.hid hys; clear hys
    gi_wp2_with fail
    go_end0
    exact ⟨⟨_, rfl⟩, .inl ⟨ys, A1.out, by simpa using hJ1⟩⟩
  · have A1 := Lib.hid hys; clear hys
    gi_wp2_with fail
    go_end0
    exact ⟨⟨_, rfl⟩, .inr ⟨ys, A1.out, by simpa using hx⟩⟩

theorem each6_soft {F : Nat → Prop} {w0 : World} (G : Nat → TypeId → Prop) (hGF : ∀ k t, F k → k < w0.heap.size → G k t) {b k i a : Value} {t : Tm} (ht : IsTm F w0 b k i a t) (hsz : t.full ≤ 500000) (n : Nat)
    (w : World) (hG : ∀ k t, w.heap.size ≤ k → t ≠ 3 → G k t) (hw : Keep F w0 w) (Bt : Nat) (hB : Blk w Bt #[b, k, i, a] 34) :
    SeqSoft SpotOk Fence.wide n Try.prog 141 #[.pointer (some ⟨Bt, 0, none⟩)] (Hit6.enc (F := F) (w := w0)) (KeepC G) (fun ys => ys.map Hit6.key = t.pre 0 1) (fun p => p.map Hit6.key <+: t.pre 0 1) t.size w :=
  fun l J Jx W hW hJ _ hY h0 => by
    have hB' := hB.below hW
    exact each61_k G hGF l J Jx ht hsz n W hJ hY (fun k t hk ht => hG k t (Nat.le_trans hW.size hk) ht) (hw.below hW) Bt (hB'.cell rfl) (hB'.cell rfl) (hB'.cell rfl) (hB'.cell rfl) h0

theorem each6_k (b k i a : Value) (n : Nat) (w : World) (hs : ∃ p m c, b = .slice p m c) (hk : ∃ x, k = .int .i64 x) (hi : ∃ x, i = .int .i64 x) (ha : ∃ p m c, a = .slice p m c) :
    CallsIn Fence.wide n Try.prog 98 #[.agg #[b, k, i, a]] w fun e w' => e = .returned (.func (.func 141) #[] #[.pointer (some ⟨w.heap.size, 0, none⟩)]) ∧ w' = w.alloc (.cells #[b, k, i, a] 34) := by
  obtain ⟨pb, mb, cb, rfl⟩ := hs
  obtain ⟨kx, rfl⟩ := hk
  obtain ⟨ix, rfl⟩ := hi
  obtain ⟨pa, ma, ca, rfl⟩ := ha
  refine callsIn_of_wp Try.func98 rfl trivial ?_ rfl
  simp only [Try.ntmps98, List.size_toArray, List.length_cons, List.length_nil, Nat.reduceAdd, Nat.reduceSub, Array.replicate_succ, Array.replicate_zero, List.push_toArray, List.append_toArray, List.nil_append, List.cons_append]
  gi_wp2_with fail
  go_ret
  exact ⟨rfl, rfl⟩
end Go.Proofs.Ytdmiekaeodcehaa

namespace Go.Proofs.Ytdmiekaeodcehaa
open Go.RowKit Go.Shelf
attribute [local go_sem] Oper.semAt_some

theorem spot_int {W : World} {n : Nat} {cs : Array Value} {T : TypeId} (hT : T ≠ 163) {W' : World} {B : Nat} {row : Option Nat} (h : Blk W n cs T) (hg : W.grownBy W' row) (hr : ∀ r, row = some r → B ≤ r ∧ ∃ o : Obj, W.heap[r]? = some o ∧ SpotOk o) : Blk W' n cs T :=
  h.grown hg fun e => by
    obtain ⟨_, o, ho, h'⟩ := hr _ e
    have hb : W.heap[n]? = _ := h
    rw [hb] at ho; cases ho
    rcases h' with h' | ⟨cs', fr, h'⟩
    · simp [Obj.isCells] at h'
    · cases h'; exact hT rfl
theorem mild_blk {β : Type} {n B : Nat} {T : TypeId} (hT : T ≠ 163) (f : β → Array Value) : Mild SpotOk B (fun s W => Blk W n (f s) T) := fun _ _ _ _ hs hg hr => spot_int hT hs hg hr

end Go.Proofs.Ytdmiekaeodcehaa

namespace Go.Proofs.Ytdmiekaeodcehaa
open Go.RowKit Go.Shelf
attribute [local go_sem] Oper.semAt_some

namespace Tm
end Tm

end Go.Proofs.Ytdmiekaeodcehaa

namespace Go.Proofs.Ytdmiekaeodcehaa
open Go.RowKit

def EqT (t : Tm) : Prop := ∀ (F : Nat → Prop) (w0 : World) (b k i a : Value), IsTm F w0 b k i a t → ∀ (F' : Nat → Prop) (w0' : World) (b' k' i' a' : Value) (u : Tm), IsTm F' w0' b' k' i' a' u → ∀ w : World, Keep F w0 w → Keep F' w0' w →
    Calls Try.prog 59 #[.agg #[b, k, i, a], .agg #[b', k', i', a']] w (RetB (t = u) w)

set_option maxRecDepth 100000 in
set_option maxHeartbeats 1600000 in
theorem equalFunc6_k {F F' : Nat → Prop} {w0 w0' : World} {v v' : Value} {l l' : List Tm} (h : IsSl rpTm F w0 v l) (h' : IsSl rpTm F' w0' v' l') (heq : ∀ t ∈ l, EqT t) (w : World) (hw : Keep F w0 w) (hw' : Keep F' w0' w) :
    Calls Try.prog 110 #[v, v', .func (.func 59) #[] #[]] w (RetB (l = l') w) := by
  obtain ⟨a, c, rfl⟩ := sl_shape' h
  obtain ⟨a', c', rfl⟩ := sl_shape' h'
  obtain ⟨_, hm, bl, off, PA, A, PN, PC, N, C, Kd, Ix, ha, h1, h2, h3, h4, h5⟩ := sl_cells6 h
  obtain ⟨_, hm', bl', off', PA', A', PN', PC', N', C', Kd', Ix', ha', h1', h2', h3', h4', h5'⟩ := sl_cells6 h'
  clear h h'
  unfold maxLen at hm hm'
  have H3 : Hid (∀ i (h : i < l.length) (h' : i < l'.length) (w : World), Keep F w0 w → Keep F' w0' w → Calls Try.prog 59 #[.agg #[.slice (PA i) (PN i) (PC i), .int .i64 (Kd i), .int .i64 (Ix i), .slice (A i) (N i) (C i)], .agg #[.slice (PA' i) (PN' i) (PC' i), .int .i64 (Kd' i), .int .i64 (Ix' i), .slice (A' i) (N' i) (C' i)]] w (RetB (l[i] = l'[i]) w)) :=
    fun i h h' w hw hw' => heq _ (List.getElem_mem h) _ _ _ _ _ _ (h5 i h) _ _ _ _ _ _ _ (h5' i h') w hw hw'
  clear h5 h5' heq
  by_cases hll : l.length = l'.length
  rotate_left
  · have hg : ((l.length : Int) == (l'.length : Int)) = false := by simpa using by omega
    have hg' : ((l.length : Int) != (l'.length : Int)) = true := by simpa using by omega
    go_enter Try.func110, Try.ntmps110
    go_wp2_with fail
    go_ret
    refine ⟨false, ?_, rfl, Below.refl _ _⟩
    simp; intro h; rw [h] at hll; exact hll rfl
  have Hll := Lib.hid hll
  have hg : ((l.length : Int) == (l'.length : Int)) = true := by simpa using by omega
  have hg' : ((l.length : Int) != (l'.length : Int)) = false := by simpa using by omega
  clear hll
  go_enter Try.func110, Try.ntmps110
  go_wp2_with fail
  go_loopw [17] (fun i wr => ∃ k : Nat, i = .int .i64 k ∧ k ≤ l.length ∧ Hid (l.take k = l'.take k) ∧ Below w.heap.size w wr) (fun i _ => l.length - (intOf i).toNat)
  case atStart => exact ⟨0, rfl, by omega, rfl, Below.refl _ _⟩
  case round =>
    obtain ⟨k, rfl, hk, hall, hb⟩ := hrel
    have hsz := hb.size
    by_cases hlt : k < l.length
    · have hlt' : k < l'.length := by rw [← Hll.out]; exact hlt
      obtain ⟨rfl, hF⟩ := ha (by omega)
      obtain ⟨rfl, hF'⟩ := ha' (by omega)
      have e1 := (hw.below hb) _ _ _ hF (h1 k hlt)
      have e2 := (hw.below hb) _ _ _ hF (h2 k hlt)
      have e3 := (hw.below hb) _ _ _ hF (h3 k hlt)
      have e4 := (hw.below hb) _ _ _ hF (h4 k hlt)
      have e1' := (hw'.below hb) _ _ _ hF' (h1' k hlt')
      have e2' := (hw'.below hb) _ _ _ hF' (h2' k hlt')
      have e3' := (hw'.below hb) _ _ _ hF' (h3' k hlt')
      have e4' := (hw'.below hb) _ _ _ hF' (h4' k hlt')
      have i0 : (0 : Int) ≤ (k : Int) := Int.natCast_nonneg _
      have i1 : (k : Int) < (l.length : Int) := by omega
      have i2 : (k : Int) < (l'.length : Int) := by omega
      have q1 : bl < wr.heap.size := Keep.lt e1
      have q1' : bl' < wr.heap.size := Keep.lt e1'
      go_wp2_with fail
      have hB2 := (hb.alloc hb.size (.cells #[.slice (PA k) (PN k) (PC k), .int .i64 (Kd k), .int .i64 (Ix k), .slice (A k) (N k) (C k)] 34)).alloc (by simp; omega) (.cells #[.slice (PA' k) (PN' k) (PC' k), .int .i64 (Kd' k), .int .i64 (Ix' k), .slice (A' k) (N' k) (C' k)] 34)
      refine (H3.out k hlt hlt' _ (hw.below hB2) (hw'.below hB2)).mono ?_
      rintro e w1 ⟨r, hr, rfl, hb1⟩
      have hB := hB2.trans (hb1.mono (by simp; omega))
      cases r
      · have Hr := Lib.hid (no_of hr); clear hr
        go_wp2_with fail
        go_ret
        refine ⟨false, ?_, rfl, hB⟩
        simp
        intro h
        subst h
        exact Hr.out rfl
      · have Hr := Lib.hid (yes_of hr); clear hr
        go_wp2_with fail
        go_roundw
        case rel => exact ⟨k + 1, by go_num, by omega, take_eq_succ hlt hlt' hall.out Hr.out, hB⟩
        case measure => simp [intOf]; omega
    · go_wp2_with fail
      go_ret
      refine ⟨true, ?_, rfl, hb⟩
      have h := hall.out
      rw [List.take_of_length_le (by omega), List.take_of_length_le (by rw [← Hll.out]; omega)] at h
      simp [h]

set_option maxRecDepth 100000 in
set_option maxHeartbeats 1600000 in
theorem equal6_k : ∀ t : Tm, EqT t := Tm.ind fun binds k i1 args ih => by
  intro F w0 b k0 i0 a ht F' w0' b' k0' i0' a' u hu w hw hw'
  obtain ⟨binds', k', i', args'⟩ := u
  obtain ⟨rfl, rfl, hb, hs⟩ := ht.inv
  obtain ⟨rfl, rfl, hb', hs'⟩ := hu.inv
  have Hty := Lib.hid fun (w : World) (hw : Keep F w0 w) (hw' : Keep F' w0' w) => equalFunc_k hb hb' (fun t _ => equal_k t) w hw hw'
  have Hts := Lib.hid fun (w : World) (hw : Keep F w0 w) (hw' : Keep F' w0' w) => equalFunc6_k hs hs' ih w hw hw'
  obtain ⟨pa, pc, rfl⟩ := hb.shape
  obtain ⟨pa', pc', rfl⟩ := hb'.shape
  obtain ⟨a, c, rfl⟩ := hs.shape
  obtain ⟨a', c', rfl⟩ := hs'.shape
  clear hb hb' hs hs' ht hu ih
  simp only [Tm.binds, Tm.kind, Tm.index, Tm.args] at *
  obtain ⟨pr, hpr⟩ : ∃ pr : Prop, (Tm.mk binds k i1 args = Tm.mk binds' k' i' args') = pr := ⟨_, rfl⟩
  have Ht : Hid (pr ↔ binds = binds' ∧ k = k' ∧ i1 = i' ∧ args = args') := by rw [← hpr]; exact tm_eq
  rw [hpr]
  clear hpr
  obtain ⟨l, hl⟩ : ∃ l, args.length = l := ⟨_, rfl⟩
  obtain ⟨l', hl'⟩ : ∃ l, args'.length = l := ⟨_, rfl⟩
  obtain ⟨m, hm⟩ : ∃ l, binds.length = l := ⟨_, rfl⟩
  obtain ⟨m', hm'⟩ : ∃ l, binds'.length = l := ⟨_, rfl⟩
  rw [hm, hm'] at Hty
  rw [hl, hl'] at Hts
  rw [hl, hl', hm, hm']
  clear hl hl' hm hm'
  by_cases hk : k = k'
  rotate_left
  · have hg : (k == k') = false := by simpa using hk
    go_enter Try.func59, Try.ntmps59
    go_wp2_with fail
    go_ret
    exact ⟨false, by rw [Ht.out]; simp [hk], rfl, ((Below.refl _ _).alloc (Nat.le_refl _) _).alloc (by simp) _⟩
  subst hk
  by_cases hi : i1 = i'
  rotate_left
  · have hg : (i1 == i') = false := by simpa using hi
    go_enter Try.func59, Try.ntmps59
    go_wp2_with fail
    go_ret
    exact ⟨false, by rw [Ht.out]; simp [hi], rfl, ((Below.refl _ _).alloc (Nat.le_refl _) _).alloc (by simp) _⟩
  subst hi
  go_enter Try.func59, Try.ntmps59
  go_wp2_with fail
  have B2 := ((Below.refl w.heap.size w).alloc (Nat.le_refl _) (.cells #[.slice pa m pc, .int .i64 k, .int .i64 i1, .slice a l c] 34)).alloc (by simp) (.cells #[.slice pa' m' pc', .int .i64 k, .int .i64 i1, .slice a' l' c'] 34)
  have X0 := (Blk.new w #[.slice pa m pc, .int .i64 k, .int .i64 i1, .slice a l c] 34 rfl).alloc (.cells #[.slice pa' m' pc', .int .i64 k, .int .i64 i1, .slice a' l' c'] 34)
  have X1 := Blk.new (w.alloc (.cells #[.slice pa m pc, .int .i64 k, .int .i64 i1, .slice a l c] 34)) #[.slice pa' m' pc', .int .i64 k, .int .i64 i1, .slice a' l' c'] 34 (n := w.heap.size + 1) (by simp)
  refine (Hty.out _ (hw.below B2) (hw'.below B2)).mono ?_
  rintro e w3 ⟨r, hr, rfl, hb3⟩
  have B3 := B2.trans (hb3.mono (by simp; omega))
  have x0 := X0.below hb3
  have x1 := X1.below hb3
  have c0 : w3.cell? ⟨w.heap.size, 3, none⟩ = some (.slice a l c) := x0.cell rfl
  have c1 : w3.cell? ⟨w.heap.size + 1, 3, none⟩ = some (.slice a' l' c') := x1.cell rfl
  cases r
  · have Hr := Lib.hid (no_of hr); clear hr
    go_wp2_with fail
    go_ret
    exact ⟨false, by rw [Ht.out]; simp; intro h; exact absurd h Hr.out, rfl, B3⟩
  · have Hr := Lib.hid (yes_of hr); clear hr
    go_wp2_with fail
    refine (Hts.out _ (hw.below B3) (hw'.below B3)).mono ?_
    rintro e w4 ⟨r, hr, rfl, hb4⟩
    have Hr2 := Lib.hid hr; clear hr
    go_wp2_with fail
    go_ret
    exact ⟨r, by rw [Ht.out]; simp [Hr.out]; exact Hr2.out, rfl, B3.trans (hb4.mono B3.size)⟩
end Go.Proofs.Ytdmiekaeodcehaa

namespace Go.Proofs.Ytdmiekaeodcehaa
open Go.RowKit

theorem eTm_ren (ρ : Nat → Nat) (t : Tm) : D.rens ρ (eTm t) = eTm t := D.rens_id (f := fun _ => false) (g := fun _ => false) (fun _ h => by cases h) _ (eTm_ok _ _ t)
theorem eTms_ren (ρ : Nat → Nat) (l : List Tm) : D.renss ρ (eTms l) = eTms l := D.renss_id (f := fun _ => false) (g := fun _ => false) (fun _ h => by cases h) _ (eTms_ok _ _ l)
theorem eTys_ren (ρ : Nat → Nat) (l : List Ty) : D.renss ρ (eTys l) = eTys l := D.renss_id (f := fun _ => false) (g := fun _ => false) (fun _ h => by cases h) _ (eTys_ok _ _ l)
end Go.Proofs.Ytdmiekaeodcehaa

namespace Go.Proofs.Ytdmiekaeodcehaa
open Go.RowKit

def m00 : Mp := ⟨fun _ => none, fun _ => none, fun _ => none⟩
theorem calls_of_pure {P : Program} {f : FuncId} {ds : List D} {V : D} (h : PureC P f ds V) {Im : Nat → Nat → Prop} {w : World} {vs : List Value} (hi : ∀ b o, Im b o → ∃ v, w.cell? ⟨b, o, none⟩ = some v) (hv : RelL m00 Im w vs ds) :
    Calls P f vs.toArray w fun e w' => ∃ v Im', e = .returned v ∧ Below w.heap.size w w' ∧ Rel m00 Im' w' v V ∧ (∀ b o, Im' b o → Im b o ∨ w.heap.size ≤ b) := by
  let cx : Cx := { w0 := w, C := fun _ => False, Im0 := Im, m0 := m00, nt := 0, n0 := 0, h0 := (fun k b hk => by cases hk), h0o := (fun k b hk => by cases hk) }
  have hm : MemOk cx (fun _ => False) m00 Im w := {
    off := Off.refl _ _, im := hi, imb := fun b o h => .inl h, im0 := fun b o h => h
    own := fun k b hk => by cases hk
    lt := fun k b hk => by cases hk
    free := fun k b o hk => by cases hk
    nim := fun k b o hk => by cases hk
    inj := fun k k' b hk => by cases hk
    row := fun g R hg => by cases hg
    k0 := KeepI.refl _ _
    rown := fun g R b hg => by cases hg
    m0r := fun g R hg => by cases hg
    rIm := fun g R b o hg => by cases hg
    rblk := fun g R b k hg => by cases hg
    rinj := fun g g' R R' b hg => by cases hg
    fr := fun k hk => hk.elim
    m0 := fun k b hk => by cases hk
    m0o := fun k b hk => by cases hk
    oown := fun k b hk => by cases hk
    olt := fun k b hk => by cases hk
    onim := fun k b o hk => by cases hk
    oinj := fun k k' b hk => by cases hk
    oblk := fun k k' b hk => by cases hk
    orow := fun k g R b hk => by cases hk
    dis := fun k b hk => by cases hk }
  refine (h.2 cx _ m00 Im w vs hm hv nofun).mono ?_
  rintro e w' ⟨v, Im', rfl, q1, q2, q3, q4, q5, q6, q7⟩
  refine ⟨v, Im', rfl, ⟨q1.os, q1.tape, q1.output, q1.size, fun b hb => q1.block b hb fun ht => ?_⟩, q6, q3⟩
  rcases ht with ⟨k, off, d, hm, _⟩ | ⟨X, J, hm, _⟩ | ⟨k, d, hm, _⟩ <;> cases hm
def cellI (F : Nat → Prop) (w : World) : Nat → Nat → Prop := fun b o => F b ∧ ∃ v, w.cell? ⟨b, o, none⟩ = some v
theorem cellI_ok {F : Nat → Prop} {w : World} : ∀ b o, cellI F w b o → ∃ v, w.cell? ⟨b, o, none⟩ = some v := fun _ _ h => h.2
theorem cellI_of {F : Nat → Prop} {w : World} : ∀ b o v, F b → w.cell? ⟨b, o, none⟩ = some v → cellI F w b o := fun _ _ v h hv => ⟨h, v, hv⟩
end Go.Proofs.Ytdmiekaeodcehaa

namespace Go.Proofs.Ytdmiekaeodcehaa
open Go.RowKit

end Go.Proofs.Ytdmiekaeodcehaa

namespace Go.Proofs.Ytdmiekaeodcehaa
open Go.RowKit
end Go.Proofs.Ytdmiekaeodcehaa

namespace Go.Proofs.Ytdmiekaeodcehaa
open Go.RowKit
def TS1_3 : TI := ⟨1, false, [Value.int IntKind.i64 0], [], none, 8, 2, none, false⟩
theorem TS1_3_ok : TypOk Try.prog 3 TS1_3 := ⟨by kernel_rfl, by kernel_rfl, by kernel_rfl, by kernel_rfl, by kernel_rfl⟩
def TS1_105 : TI := ⟨5, true, [Value.int IntKind.i64 0, Value.slice none 0 0, Value.int IntKind.i64 0, Value.int IntKind.i64 0, Value.slice none 0 0], [(0, 1, false), (1, 4, true)], none, 72, 6, none, false⟩
theorem TS1_105_ok : TypOk Try.prog 105 TS1_105 := ⟨by kernel_rfl, by kernel_rfl, by kernel_rfl, by kernel_rfl, by kernel_rfl⟩
def TS1_53 : TI := ⟨1, false, [Value.slice none 0 0], [], some 105, 24, 5, none, false⟩
theorem TS1_53_ok : TypOk Try.prog 53 TS1_53 := ⟨by kernel_rfl, by kernel_rfl, by kernel_rfl, by kernel_rfl, by kernel_rfl⟩
def TS1_269 : TI := ⟨1, false, [Value.nilFunc], [], none, 8, 8, none, false⟩
theorem TS1_269_ok : TypOk Try.prog 269 TS1_269 := ⟨by kernel_rfl, by kernel_rfl, by kernel_rfl, by kernel_rfl, by kernel_rfl⟩
def TS1 : List (Nat × TI) := [(3, TS1_3), (105, TS1_105), (53, TS1_53), (269, TS1_269)]
theorem TS1_ok : TabOk Try.prog TS1 := (((((TabOk.nil _).cons TS1_269_ok).cons TS1_53_ok).cons TS1_105_ok).cons TS1_3_ok)

def ePair (p : Int × Tm) : List D := .v (.int .i64 p.1) :: eTm p.2
def ePairs (l : List (Int × Tm)) : List (List D) := l.map ePair
theorem ePair_eq (p : Int × Tm) : ePair p = [.v (.int .i64 p.1), .sl 2 (eTys p.2.binds) none, .v (.int .i64 p.2.kind), .v (.int .i64 p.2.index), .sl 4 (eTms p.2.args) none] := by unfold ePair; rw [eTm_eq]
theorem ePairs_len (l : List (Int × Tm)) : (ePairs l).length = l.length := List.length_map ..
theorem ePairs_getD (l : List (Int × Tm)) (i : Nat) (h : i < l.length) : (ePairs l).getD i [] = ePair l[i] := by
  rw [ePairs, List.getD_eq_getElem?_getD, List.getElem?_map, List.getElem?_eq_getElem h]; rfl
@[simp] theorem ePair_ok (f g : Nat → Bool) (p : Int × Tm) : D.oks f g (ePair p) = true := by simp [ePair, D.oks, D.ok, eTm_ok]
@[simp] theorem ePairs_ok (f g : Nat → Bool) (l : List (Int × Tm)) : D.okss f g (ePairs l) = true := D.okss_map ePair l fun p _ => ePair_ok f g p
theorem ePairs_ren (ρ : Nat → Nat) (l : List (Int × Tm)) : D.renss ρ (ePairs l) = ePairs l := D.renss_id (f := fun _ => false) (g := fun _ => false) (fun _ h => by cases h) _ (ePairs_ok _ _ l)
def cmpI (a b : Int) : Int := if a < b then -1 else if b < a then 1 else 0

theorem isNaN_d (a : Int) : PureC Try.prog 195 [.v (.int .i64 a)] (.v (.bool false)) := by
 refine call_of_dw 0 6 [ResultVar.tmp 2] TS1_ok (by kernel_rfl) Try.func195 rfl Try.ntmps195 rfl (by simp) ?dwords ?dbody
 case dwords => simp [wordsOk, D.ok, D.oks, rnames]
 case dbody =>
  intro cx hnt hn0
  refine dw_seq ?_; refine dwk [] TS1_ok hnt fun K hK => ?_; refine hK _ _ ?_; clear hK K; refine dw_seq ?_; refine dwk [(5, .v (.bool false))] TS1_ok hnt fun K hK => ?_; refine And.intro (VLe.of_eq (by simp)) ?_; refine hK _ _ ?_; clear hK K; refine dw_ret ?_
  exact retv (N := 0) (.inr rfl) rfl (VLe.refl _) trivial
theorem compare_d (a b : Int) : PureC Try.prog 176 [.v (.int .i64 a), .v (.int .i64 b)] (.v (.int .i64 (cmpI a b))) := by
 refine call_of_dw 0 20 [ResultVar.tmp 4] TS1_ok (by kernel_rfl) Try.func176 rfl Try.ntmps176 rfl (by simp) ?dwords ?dbody
 case dwords => simp [wordsOk, D.ok, D.oks, rnames]
 case dbody =>
  intro cx hnt hn0
  refine dw_seq ?_; refine dwk [] TS1_ok hnt fun K hK => ?_; refine hK _ _ ?_; clear hK K; refine dw_seq ?_; refine dwk [] TS1_ok hnt fun K hK => ?_; refine dcl (isNaN_d a) ?_; refine hK _ _ ?_; clear hK K; refine dw_seq ?_; refine dwk [] TS1_ok hnt fun K hK => ?_; refine dcl (isNaN_d b) ?_; refine hK _ _ ?_; clear hK K; refine dw_seq (dw_seq ?_); refine dwk [] TS1_ok hnt fun K hK => ?_; refine hK _ _ ?_; clear hK K
  refine dw_cond (t := false) rfl ?_; rw [if_neg (by simp)]; refine dw_skip ?_; refine dw_seq (dw_seq ?_); refine dwk [] TS1_ok hnt fun K hK => ?_; refine hK _ _ ?_; clear hK K; refine dw_cond (t := false) rfl ?_; rw [if_neg (by simp)]; refine dw_skip ?_; refine dw_seq (dw_seq ?_)
  by_cases h1 : a < b
  ·have hc : cmpI a b = -1 := if_pos h1
   rw [hc]
   refine dwk [(16, .v (.bool true))] TS1_ok hnt fun K hK => ?_; refine And.intro (dtrue h1) ?_; refine hK _ _ ?_; clear hK K; refine dw_cond (t := true) rfl ?_; rw [if_pos rfl]; refine dw_seq ?_; refine dwk [] TS1_ok hnt fun K hK => ?_; refine hK _ _ ?_; clear hK K; refine dw_ret ?_
   exact retv (N := 0) (.inr rfl) rfl (VLe.refl _) trivial
  ·skip
   refine dwk [(16, .v (.bool false))] TS1_ok hnt fun K hK => ?_; refine And.intro (dfalse h1) ?_; refine hK _ _ ?_; clear hK K; refine dw_cond (t := false) rfl ?_; rw [if_neg (by simp)]; refine dw_skip ?_; refine dw_seq (dw_seq ?_)
   by_cases h2 : b < a
   ·have hc : cmpI a b = 1 := by unfold cmpI; rw [if_neg h1, if_pos h2]
    rw [hc]
    refine dwk [(19, .v (.bool true))] TS1_ok hnt fun K hK => ?_; refine And.intro (dtrue h2) ?_; refine hK _ _ ?_; clear hK K; refine dw_cond (t := true) rfl ?_; rw [if_pos rfl]; refine dw_seq ?_; refine dwk [] TS1_ok hnt fun K hK => ?_; refine hK _ _ ?_; clear hK K; refine dw_ret ?_
    exact retv (N := 0) (.inr rfl) rfl (VLe.refl _) trivial
   ·have hc : cmpI a b = 0 := by unfold cmpI; rw [if_neg h1, if_neg h2]
    rw [hc]
    refine dwk [(19, .v (.bool false))] TS1_ok hnt fun K hK => ?_; refine And.intro (dfalse h2) ?_; refine hK _ _ ?_; clear hK K; refine dw_cond (t := false) rfl ?_; rw [if_neg (by simp)]; refine dw_skip ?_; refine dw_seq ?_; refine dwk [] TS1_ok hnt fun K hK => ?_; refine hK _ _ ?_; clear hK K; refine dw_ret ?_
    exact retv (N := 0) (.inr rfl) rfl (VLe.refl _) trivial
theorem sorder_d (p q : Int × Tm) : PureC Try.prog 145 [.ag (ePair p), .ag (ePair q)] (.v (.int .i64 (cmpI p.1 q.1))) := by
 rw [ePair_eq, ePair_eq]
 refine call_of_dw 0 10 [ResultVar.tmp 4] TS1_ok (by kernel_rfl) Try.func145 rfl Try.ntmps145 rfl (by simp) ?dwords ?dbody
 case dwords => simp [wordsOk, D.ok, D.oks, rnames, eTms_ok, eTys_ok]
 case dbody =>
  intro cx hnt hn0
  refine dw_seq ?_; refine dwk [] TS1_ok hnt fun K hK => ?_; refine hK _ _ ?_; clear hK K; refine dw_seq ?_; refine dwk [] TS1_ok hnt fun K hK => ?_; refine dcl (compare_d p.1 q.1) ?_; refine hK _ _ ?_; clear hK K; refine dw_ret ?_
  exact retv (N := 0) (.inr rfl) rfl (VLe.refl _) trivial
theorem cmpI_ge {a b : Int} : 0 ≤ cmpI a b ↔ ¬ a < b := by
  unfold cmpI
  split
  · rename_i h; simp [h]
  · rename_i h; split <;> simp [h]
theorem right_of {l : List (Int × Tm)} (h : ∀ i (_ : 0 < i) (h2 : i < l.length), (l[i - 1]'(by omega)).1 < l[i].1) : Sb.right l = true := by
  unfold Sb.right
  rw [decide_eq_true_eq, List.pairwise_iff_getElem]
  intro i j hi hj hij
  have key : ∀ d, ∀ i j (hi : i < l.length) (hj : j < l.length), j = i + d + 1 → l[i].1 < l[j].1 := by
    intro d
    induction d with
    | zero => intro i j hi hj e; subst e; have := h (i + 0 + 1) (by omega) hj; simpa using this
    | succ d ih =>
      intro i j hi hj e
      have h1 := ih i (j - 1) hi (by omega) (by omega)
      have h2 := h j (by omega) hj
      omega
  exact key (j - i - 1) i j hi hj (by omega)
theorem not_right {l : List (Int × Tm)} {i : Nat} (h1 : 0 < i) (h2 : i < l.length) (h : ¬ (l[i - 1]'(by omega)).1 < l[i].1) : Sb.right l = false := by
  unfold Sb.right
  rw [decide_eq_false_iff_not, List.pairwise_iff_getElem]
  exact fun hp => h (hp (i - 1) i (by omega) h2 (by omega))
set_option maxHeartbeats 1000000 in
theorem sright_d (l : List (Int × Tm)) (hl : l.length ≤ 1000000) : PureC Try.prog 101 [.sl 5 (ePairs l) none] (.v (.bool (Sb.right l))) := by
 refine call_of_dw 0 21 [ResultVar.tmp 2] TS1_ok (by kernel_rfl) Try.func101 rfl Try.ntmps101 rfl (by simp) ?dwords ?dbody
 case dwords => simp [wordsOk, D.ok, D.oks, rnames, ePairs_ok]
 case dbody =>
  intro cx hnt hn0
  refine dw_seq ?_; refine dwk [] TS1_ok hnt fun K hK => ?_; refine hK _ _ ?_; clear hK K; refine dw_seq (dw_seq ?_); refine dwk [] TS1_ok hnt fun K hK => ?_; refine hK _ _ ?_; clear hK K; refine dw_block ?_
  refine dw_loop (ι := { j : Nat // ∀ i (_ : 0 < i) (h2 : i < l.length), i < j + 1 → (l[i - 1]'(by omega)).1 < l[i].1 }) (fun j => [(.t 0, .sl 5 (ePairs l) none), (.t 3, .v (.int .i64 ((j.1 : Int) + 1)))]) 2 (fun j => l.length - j.1) ⟨0, fun i h1 h2 h3 => by omega⟩ VS.toA fun j => ?_
  obtain ⟨j, hj⟩ := j
  dsimp only
  refine dw_seq (dw_seq ?_)
  by_cases hlt : j + 1 < l.length
  ·have ho := sorder_d l[j] l[j + 1]
   rw [ePair_eq, ePair_eq] at ho
   refine dwk [(7, .v (.bool true))] TS1_ok hnt fun K hK => ?_; refine And.intro (dtrue (by rw [ePairs_len]; omega)) ?_; refine hK _ _ ?_; clear hK K; refine dw_cond (t := true) rfl ?_; rw [if_pos rfl]; refine dw_skip ?_; refine dw_seq (dw_block (dw_seq ?_))
   by_cases hc : l[j].1 < l[j + 1].1
   ·skip
    refine dwkD [(12, .v (.int .i64 (j : Int))), (13, .q [.v (.int .i64 l[j].1), .sl 2 (eTys l[j].2.binds) none, .v (.int .i64 l[j].2.kind), .v (.int .i64 l[j].2.index), .sl 4 (eTms l[j].2.args) none]), (17, .q [.v (.int .i64 l[j + 1].1), .sl 2 (eTys l[j + 1].2.binds) none, .v (.int .i64 l[j + 1].2.kind), .v (.int .i64 l[j + 1].2.index), .sl 4 (eTms l[j + 1].2.args) none]), (20, .v (.bool false))] TS1_ok hnt fun K hK => ?_
    refine And.intro (dintE (by rw [IntWalk.i64_in _ (by omega)]; omega)) ?_; refine And.intro (⟨by omega, by rw [ePairs_len]; omega⟩) ?_; refine And.intro (VLe.of_eq (by rw [Int.toNat_natCast, ePairs_getD l j (by omega), ePair_eq])) ?_; refine And.intro (⟨by omega, by rw [ePairs_len]; omega⟩) ?_; refine And.intro (VLe.of_eq (by rw [show ((j : Int) + 1).toNat = j + 1 by omega, ePairs_getD l (j + 1) hlt, ePair_eq])) ?_
    refine dcl (ho) ?_; refine And.intro (VLe.of_eq (by simp [cmpI_ge, hc])) ?_; refine hK _ _ (by kernel_rfl) ?_; clear hK K; refine dw_cond (t := false) rfl ?_; rw [if_neg (by simp)]; refine dw_skip ?_; refine dwk [(9, .v (.int .i64 (((j + 1 : Nat) : Int) + 1)))] TS1_ok hnt fun K hK => ?_; refine And.intro (dintE (by rw [IntWalk.i64_in _ (by omega)]; omega)) ?_; refine hK _ _ ?_; clear hK K
    refine ⟨⟨j + 1, fun i h1 h2 h3 => ?_⟩, by dsimp only; omega, VS.toA⟩
    by_cases he : i = j + 1
    ·subst he; simpa using hc
    ·exact hj i h1 h2 (by omega)
   ·have hr : Sb.right l = false := not_right (i := j + 1) (by omega) hlt (by simpa using hc)
    rw [hr]
    refine dwkD [(12, .v (.int .i64 (j : Int))), (13, .q [.v (.int .i64 l[j].1), .sl 2 (eTys l[j].2.binds) none, .v (.int .i64 l[j].2.kind), .v (.int .i64 l[j].2.index), .sl 4 (eTms l[j].2.args) none]), (17, .q [.v (.int .i64 l[j + 1].1), .sl 2 (eTys l[j + 1].2.binds) none, .v (.int .i64 l[j + 1].2.kind), .v (.int .i64 l[j + 1].2.index), .sl 4 (eTms l[j + 1].2.args) none]), (20, .v (.bool true))] TS1_ok hnt fun K hK => ?_
    refine And.intro (dintE (by rw [IntWalk.i64_in _ (by omega)]; omega)) ?_; refine And.intro (⟨by omega, by rw [ePairs_len]; omega⟩) ?_; refine And.intro (VLe.of_eq (by rw [Int.toNat_natCast, ePairs_getD l j (by omega), ePair_eq])) ?_; refine And.intro (⟨by omega, by rw [ePairs_len]; omega⟩) ?_; refine And.intro (VLe.of_eq (by rw [show ((j : Int) + 1).toNat = j + 1 by omega, ePairs_getD l (j + 1) hlt, ePair_eq])) ?_
    refine dcl (ho) ?_; refine And.intro (VLe.of_eq (by simp [cmpI_ge, hc])) ?_; refine hK _ _ (by kernel_rfl) ?_; clear hK K; refine dw_cond (t := true) rfl ?_; rw [if_pos rfl]; refine dw_seq ?_; refine dwk [] TS1_ok hnt fun K hK => ?_; refine hK _ _ ?_; clear hK K; refine dw_ret ?_
    exact retv (N := 0) (.inr rfl) rfl (VLe.refl _) trivial
  ·have hr : Sb.right l = true := right_of fun i h1 h2 => hj i h1 h2 (by omega)
   rw [hr]
   refine dwk [(7, .v (.bool false))] TS1_ok hnt fun K hK => ?_; refine And.intro (dfalse (by rw [ePairs_len]; omega)) ?_; refine hK _ _ ?_; clear hK K; refine dw_cond (t := false) rfl ?_; rw [if_neg (by simp)]; refine dw_exit ?_; refine dw_seq ?_; refine dwk [] TS1_ok hnt fun K hK => ?_; refine hK _ _ ?_; clear hK K; refine dw_ret ?_
   exact retv (N := 0) (.inr rfl) rfl (VLe.refl _) trivial

def idxOf (m : Int) : List (Int × Tm) → Option Nat
  | [] => none
  | p :: l => if p.1 = m then some 0 else (idxOf m l).map (· + 1)
theorem idxOf_some {m : Int} : ∀ {l : List (Int × Tm)} {i : Nat} (h : i < l.length), l[i].1 = m → (∀ j (h' : j < i), (l[j]'(by omega)).1 ≠ m) → idxOf m l = some i
  | p :: l, 0, h, h1, _ => by simp at h1; simp [idxOf, h1]
  | p :: l, i + 1, h, h1, h2 => by
    have h0 := h2 0 (by omega)
    simp at h0 h1
    rw [idxOf, if_neg h0, idxOf_some (i := i) (by simpa using h) h1 fun j h' => by simpa using h2 (j + 1) (by omega)]; rfl
theorem idxOf_none {m : Int} : ∀ {l : List (Int × Tm)}, (∀ j (h : j < l.length), l[j].1 ≠ m) → idxOf m l = none
  | [], _ => rfl
  | p :: l, h => by
    have h0 := h 0 (by simp)
    simp at h0
    rw [idxOf, if_neg h0, idxOf_none (l := l) fun j h' => h (j + 1) (by simpa using h')]; rfl
end Go.Proofs.Ytdmiekaeodcehaa

namespace Go.Proofs.Ytdmiekaeodcehaa
open Go.RowKit Go.ChangeShapes Go.WideShapes Go.ChangeAt

theorem mem_of_idx {α H : Type} {l : List α} {d : DataW H} {Q : α → Prop} (h : ∀ i (h : i < l.length), ∃ x es spare, d = .slice es spare ∧ x ∈ es ∧ Q l[i]) : ∀ p ∈ l, Q p := fun p hp => by
  obtain ⟨i, hi, rfl⟩ := List.getElem_of_mem hp
  obtain ⟨_, _, _, _, _, h⟩ := h i hi
  exact h
theorem IsSl.len1 {α : Type} {r : Rp α} {F : Nat → Prop} {w : World} {v : Value} {l : List α} (h : IsSl r F w v l) : l.length ≤ 9223372036854775807 := by
  obtain ⟨a, c, bl, off, X, _, h1, _⟩ := h
  have : maxLen = 9223372036854775807 := rfl
  omega
section
variable {m : Mp} {w : World} {F : Nat → Prop}
end
theorem row_of_pure {f : FuncId} {ds : List D} (h : PureC Try.prog f ds (.v (.bool true))) {w : World} {vs : List Value} (hv : RelL m00 (cellI (fun _ => True) w) w vs ds) :
    Calls Try.prog f vs.toArray w fun e w' => e = .returned (.bool true) ∧ Below w.heap.size w w' := by
  refine (calls_of_pure h cellI_ok hv).mono ?_
  rintro e w' ⟨v, Im', rfl, h1, h2, _⟩
  have := rel_v.1 h2; subst this
  exact ⟨rfl, h1⟩
end Go.Proofs.Ytdmiekaeodcehaa

namespace Go.Proofs.Ytdmiekaeodcehaa
open Go.RowKit

def argBad (b f x : Int) : Prop := f ≤ x ∧ b < 0 ∧ (b = -9223372036854775808 ∨ x - f < -b)
def longBad (b f x : Int) : Prop := f ≤ x ∧ ((1000 < b) ∨ (0 ≤ b ∧ 1000 - b < x) ∨ (b < 0 ∧ 1000 < x + b))
instance (b f x : Int) : Decidable (argBad b f x) := by unfold argBad; infer_instance
instance (b f x : Int) : Decidable (longBad b f x) := by unfold longBad; infer_instance
end Go.Proofs.Ytdmiekaeodcehaa

namespace Go.Proofs.Ytdmiekaeodcehaa
open Go.RowKit

namespace Tm
mutual
def looses : Tm → Int → List Int
  | .mk b k i a, n => (if k = 0 ∧ n + (b.length : Nat) ≤ i then [i - (n + (b.length : Nat))] else []) ++ loosess a (n + (b.length : Nat))
def loosess : List Tm → Int → List Int
  | [], _ => []
  | t :: l, n => looses t n ++ loosess l n
end
mutual
def mapl (v : Int → Int) : Tm → Int → Tm
  | .mk b k i a, n => .mk b k (if k = 0 ∧ n + (b.length : Nat) ≤ i then n + (b.length : Nat) + v (i - (n + (b.length : Nat))) else i) (mapls v a (n + (b.length : Nat)))
def mapls (v : Int → Int) : List Tm → Int → List Tm
  | [], _ => []
  | t :: l, n => mapl v t n :: mapls v l n
end
theorem looses_eq (b : List Ty) (k i : Int) (a : List Tm) (n m : Int) (hm : n + (b.length : Int) = m) : looses (.mk b k i a) n = (if k = 0 ∧ m ≤ i then [i - m] else []) ++ loosess a m := by subst hm; rw [looses]
theorem loosess_append (l l' : List Tm) (n : Int) : loosess (l ++ l') n = loosess l n ++ loosess l' n := by
  induction l with
  | nil => simp [loosess]
  | cons t l ih => simp [loosess, ih]
theorem loosess_take (l : List Tm) (n : Int) (j : Nat) (h : j < l.length) : loosess (l.take (j + 1)) n = loosess (l.take j) n ++ looses l[j] n := by
  rw [List.take_succ_eq_append_getElem h, loosess_append]; simp [loosess]
section
variable {σ : Type} (g : σ → Int → σ) (v : Int → Int)
end
end Tm

def grow (b f x : Int) : Int := if x < f then x else x + b
def shiftCode (b f : Int) (l : List Int) : Int := if ∃ x ∈ l, argBad b f x then 1 else if ∃ x ∈ l, longBad b f x then 2 else 0

def Tm.shift (t : Tm) (b f : Int) : Tm × Int :=
  if f < 0 then (Tm.zero, 1) else if shiftCode b f (t.looses 0) = 0 then (t.mapl (grow b f) 0, 0) else (Tm.zero, shiftCode b f (t.looses 0))

end Go.Proofs.Ytdmiekaeodcehaa

namespace Go.Proofs.Ytdmiekaeodcehaa
open Go.RowKit

mutual
def Ty.eqb : Ty → Ty → Bool
  | .mk a b, .mk c d => Ty.eqbs a c && decide (b = d)
def Ty.eqbs : List Ty → List Ty → Bool
  | [], [] => true
  | x :: l, y :: r => Ty.eqb x y && Ty.eqbs l r
  | _, _ => false
end
theorem Ty.eqbs_iff {l : List Ty} (h : ∀ t ∈ l, ∀ u, Ty.eqb t u = true ↔ t = u) : ∀ r, Ty.eqbs l r = true ↔ l = r := by
  induction l with
  | nil => intro r; cases r <;> simp [Ty.eqbs]
  | cons t l ih =>
    intro r
    cases r with
    | nil => simp [Ty.eqbs]
    | cons u r => simp [Ty.eqbs, h t (by simp) u, ih (fun t ht => h t (by simp [ht])) r]
theorem Ty.eqb_iff (t : Ty) : ∀ u, Ty.eqb t u = true ↔ t = u := by
  induction t using Ty.ind with
  | h a b ih =>
    intro u
    obtain ⟨c, d⟩ := u
    simp [Ty.eqb, Ty.eqbs_iff ih c]
instance : DecidableEq Ty := fun t u => decidable_of_iff _ (Ty.eqb_iff t u)
mutual
def Tm.eqb : Tm → Tm → Bool
  | .mk b k i a, .mk c m j d => decide (b = c) && (decide (k = m) && (decide (i = j) && Tm.eqbs a d))
def Tm.eqbs : List Tm → List Tm → Bool
  | [], [] => true
  | x :: l, y :: r => Tm.eqb x y && Tm.eqbs l r
  | _, _ => false
end
theorem Tm.eqbs_iff {l : List Tm} (h : ∀ t ∈ l, ∀ u, Tm.eqb t u = true ↔ t = u) : ∀ r, Tm.eqbs l r = true ↔ l = r := by
  induction l with
  | nil => intro r; cases r <;> simp [Tm.eqbs]
  | cons t l ih =>
    intro r
    cases r with
    | nil => simp [Tm.eqbs]
    | cons u r => simp [Tm.eqbs, h t (by simp) u, ih (fun t ht => h t (by simp [ht])) r]
theorem Tm.eqb_iff (t : Tm) : ∀ u, Tm.eqb t u = true ↔ t = u := by
  induction t using Tm.ind with
  | h b k i a ih =>
    intro u
    obtain ⟨c, m, j, d⟩ := u
    simp [Tm.eqb, Tm.eqbs_iff ih d]
instance : DecidableEq Tm := fun t u => decidable_of_iff _ (Tm.eqb_iff t u)

def longB (t : Tm) : Bool := decide (t.args = Ty.etas t.binds) && (!decide (t.kind = 0) || decide ((t.binds.length : Int) ≤ t.index))
theorem longB_iff (t : Tm) : longB t = true ↔ t.Long := by
  unfold longB Tm.Long
  simp only [Bool.and_eq_true, Bool.or_eq_true, Bool.not_eq_true', decide_eq_true_eq, decide_eq_false_iff_not]
  by_cases h : t.kind = 0 <;> simp [h]

namespace Pn
def isVar (n : Int) (acc : List Int) (a : Tm) : Bool := longB a && (decide (a.kind = 0) && (decide (a.headIx < n) && !acc.contains a.headIx))
def varsL (n : Int) : List Tm → List Int → Option (List Int)
  | [], acc => some acc
  | a :: l, acc => if isVar n acc a then varsL n l (acc ++ [a.headIx]) else none
def vars (t : Tm) (n : Int) : List Int × Int := if t.kind ≠ 2 ∨ n < 0 then ([], 1) else match varsL n t.args [] with
  | some l => (l, 0)
  | none => ([], 6)
structure Use where
  mt : Int
  vars : List Int
  binds : List Ty
  path : List Int
mutual
def uses : Tm → List Ty → List Int → List Use × Bool
  | .mk bs k i a, ar, p => if k = 2 then (match varsL ((ar ++ bs).length : Nat) a [] with | some v => ([⟨i, v, ar ++ bs, p⟩], true) | none => ([], false)) else usess a (ar ++ bs) p 0
def usess : List Tm → List Ty → List Int → Nat → List Use × Bool
  | [], _, _, _ => ([], true)
  | t :: l, ar, p, j => if (uses t ar (p ++ [(j : Int)])).2 then ((uses t ar (p ++ [(j : Int)])).1 ++ (usess l ar p (j + 1)).1, (usess l ar p (j + 1)).2) else ((uses t ar (p ++ [(j : Int)])).1, false)
end
theorem uses_eq (bs : List Ty) (k i : Int) (a : List Tm) (ar : List Ty) (p : List Int) : uses (.mk bs k i a) ar p = if k = 2 then (match varsL ((ar ++ bs).length : Nat) a [] with | some v => ([⟨i, v, ar ++ bs, p⟩], true) | none => ([], false)) else usess a (ar ++ bs) p 0 := by rw [uses]
def may (p : Tm) : Int := if p.looses 0 ≠ [] then 1 else if (uses p [] []).2 = false then 6 else 0
def mayL (n : Int) : List Int → List Int → Bool
  | [], _ => true
  | v :: l, acc => decide (0 ≤ v) && (decide (v < n) && (!acc.contains v && mayL n l (acc ++ [v])))
def mayV (n : Int) (vs : List Int) : Bool := mayL n vs []
def ix (v : Int) : List Int → Option Nat
  | [] => none
  | u :: l => if u = v then some 0 else (ix v l).map (· + 1)
def go (n : Int) (vs : List Int) (d : Int) : Int := if n ≤ d then d - n + vs.length else (vs.length : Int) - 1 - (match ix d vs with | some k => (k : Int) | none => 0)
mutual
def tk (n : Int) (vs : List Int) : Tm → Int → Tm
  | .mk bs k i a, ins => .mk bs k (if k = 0 ∧ ins + (bs.length : Nat) ≤ i then ins + (bs.length : Nat) + go n vs (i - (ins + (bs.length : Nat))) else i) (tks n vs a (ins + (bs.length : Nat)))
def tks (n : Int) (vs : List Int) : List Tm → Int → List Tm
  | [], _ => []
  | t :: l, ins => tk n vs t ins :: tks n vs l ins
end
mutual
def tkB (n : Int) (vs : List Int) : Tm → Int → Bool
  | .mk bs k i a, ins => (!(decide (k = 0) && decide (ins + (bs.length : Nat) ≤ i) && (decide (i - (ins + (bs.length : Nat)) < n) && (ix (i - (ins + (bs.length : Nat))) vs).isNone))) && tkBs n vs a (ins + (bs.length : Nat))
def tkBs (n : Int) (vs : List Int) : List Tm → Int → Bool
  | [], _ => true
  | t :: l, ins => tkB n vs t ins && tkBs n vs l ins
end
def types (binds : List Ty) (vs : List Int) : List Ty := vs.map fun v => binds.getD ((binds.length : Int) - 1 - v).toNat (.mk [] 0)
def take (t : Tm) (binds : List Ty) (vs : List Int) : Tm × Int := if mayV binds.length vs then (if tkB binds.length vs t 0 then (.mk (types binds vs ++ t.binds) (tk binds.length vs t 0).kind (tk binds.length vs t 0).index (tk binds.length vs t 0).args, 0) else (Tm.zero, 9)) else (Tm.zero, 1)
abbrev Bd := List (Int × Tm)
def bfind (b : Bd) (m : Int) : Option Tm := (b.find? fun p => p.1 == m).map (·.2)
def bput (b : Bd) (m : Int) (t : Tm) : Bool × Bd := match bfind b m with
  | some u => (decide (t = u), b)
  | none => (true, b ++ [(m, t)])
def flex (b : Bd) (p t : Tm) (ar : List Ty) : Bool × Bd := match varsL ar.length p.args [] with
  | none => (false, b)
  | some v => if (take (.mk [] t.kind t.index t.args) ar v).2 = 0 then bput b p.index (take (.mk [] t.kind t.index t.args) ar v).1 else (false, b)
mutual
def walk : Tm → Tm → List Ty → Bd → Bool × Bd
  | .mk bs k i a, t, ar, b => if bs ≠ t.binds then (false, b) else if k = 2 then flex b (.mk bs k i a) t (ar ++ bs) else if (k ≠ t.kind ∨ i ≠ t.index) ∨ a.length ≠ t.args.length then (false, b) else walks a t.args (ar ++ bs) b
def walks : List Tm → List Tm → List Ty → Bd → Bool × Bd
  | [], _, _, b => (true, b)
  | p :: l, ts, ar, b => if (walk p (ts.headD Tm.zero) ar b).1 then walks l ts.tail ar (walk p (ts.headD Tm.zero) ar b).2 else (walk p (ts.headD Tm.zero) ar b)
end
end Pn
end Go.Proofs.Ytdmiekaeodcehaa

namespace Go.Proofs.Ytdmiekaeodcehaa
open Go.RowKit

def VarKind (t : Tm) : Prop := ∀ (F : Nat → Prop) (w0 : World) (b k i a : Value), IsTm F w0 b k i a t → ∀ w : World, Keep F w0 w → t.full ≤ 100000 → t.Fit →
    Calls Try.prog 125 #[.agg #[b, k, i, a]] w (VarPost t w)

theorem eta_iff {t : Tm} {u : Ty} {m : Int} (hm : 0 ≤ m) : t = Ty.eta u 0 m ↔ t.Long ∧ t.kind = 0 ∧ t.headIx = m ∧ t.binds = u.args := by
  obtain ⟨l, b⟩ := u
  obtain ⟨bs, k, i, ar⟩ := t
  rw [Ty.eta_eq, if_pos rfl, tm_eq]
  unfold Tm.Long Tm.headIx
  simp only [Tm.binds, Tm.kind, Tm.index, Tm.args, Ty.args]
  constructor
  · rintro ⟨rfl, rfl, rfl, rfl⟩
    refine ⟨⟨rfl, fun _ => by omega⟩, rfl, by simp, rfl⟩
  · rintro ⟨⟨rfl, _⟩, rfl, h, rfl⟩
    refine ⟨rfl, rfl, ?_, rfl⟩
    simp at h; omega

set_option maxRecDepth 100000 in
set_option maxHeartbeats 1600000 in
theorem var_k : ∀ t : Tm, VarKind t := Tm.ind fun binds k i args ih => by
  intro F w0 b0 k0 i0 a0 ht w hw hsz hfit
  obtain ⟨rfl, rfl, hb, hs⟩ := ht.inv
  obtain ⟨pa, pc, rfl⟩ := hb.shape
  obtain ⟨a, c, rfl⟩ := hs.shape
  simp only [Tm.binds, Tm.kind, Tm.index, Tm.args] at *
  obtain ⟨_, hmb, bl1, off1, A1, N1, C1, B1, hb1, hb2, hb3, hb4⟩ := sl_cells' hb
  obtain ⟨_, hm, bl, off, PA, A, PN, PC, N, C, Kd, Ix, ha, h1, h2, h3, h4, h5⟩ := sl_cells6 hs
  clear hb hs ht
  rw [Tm.full_eq] at hsz
  obtain ⟨hi0, hi1, hfa⟩ := Tm.fit_iff.1 hfit
  have hnl : binds.length ≤ 100000 := by have := Ty.le_sizes binds; omega
  have hal : args.length ≤ 100000 := by have := Tm.len_fulls args; omega
  have HL : Hid ((Tm.mk binds k i args).Long ↔ args = Ty.etas binds ∧ (k = 0 → (binds.length : Int) ≤ i)) := Iff.rfl
  have HH : Hid ((Tm.mk binds k i args).headIx = if k = 0 then i - (binds.length : Nat) else i) := rfl
  have H5 : Hid (∀ j (h : j < args.length) (w : World), Keep F w0 w → Calls Try.prog 125 #[.agg #[.slice (PA j) (PN j) (PC j), .int .i64 (Kd j), .int .i64 (Ix j), .slice (A j) (N j) (C j)]] w (VarPost args[j] w)) :=
    fun j h w hw => ih _ (List.getElem_mem h) _ _ _ _ _ _ (h5 j h) w hw (by have := Tm.full_mem (List.getElem_mem h); omega) (hfa _ (List.getElem_mem h))
  have HB : Hid (∀ j (h : j < args.length), IsSl rpTy F w0 (.slice (PA j) (PN j) (PC j)) args[j].binds) := fun j h => (h5 j h).inv.2.2.1
  have HT := Lib.hid hb4
  clear hb4 h5 ih hfit hfa
  unfold maxLen at hm hmb
  obtain ⟨lg, hlg⟩ : ∃ lg : Prop, (Tm.mk binds k i args).Long = lg := ⟨_, rfl⟩
  by_cases hlen : args.length = binds.length
  rotate_left
  · have HN : Hid (¬ lg) := by show ¬ _; rw [← hlg, HL.out]; rintro ⟨h, _⟩; exact hlen (by rw [h, Ty.etas_len])
    have hli : ¬ (args.length : Int) = (binds.length : Int) := by omega
    have hg : ((args.length : Int) == (binds.length : Int)) = false := by simpa using hli
    have hg' : ((args.length : Int) != (binds.length : Int)) = true := by simpa using hli
    go_enter Try.func125, Try.ntmps125
    go_wp2_with fail
    refine bodyPost_ret (v := .tuple #[.agg #[.int .i64 0, .int .i64 0], .bool false]) (by simp [results, Try.results125, go_sem]) rfl ?_
    exact ⟨false, ⟨fun h => absurd h (by decide), fun h => absurd h (by rw [hlg]; exact HN.out)⟩, rfl, (((Below.refl _ _).alloc (Nat.le_refl _) _).alloc (by simp) _).alloc (by simp; omega) _⟩
  by_cases hk : k = 0
  · subst hk
    have hk0 : ((0 : Int) == 0) = true := rfl
    by_cases hlt : i < (binds.length : Int)
    · have HN : Hid (¬ lg) := by show ¬ _; rw [← hlg, HL.out]; rintro ⟨_, h⟩; have := h rfl; omega
      have hli : (args.length : Int) = (binds.length : Int) := by omega
      have hg : ((args.length : Int) == (binds.length : Int)) = true := by simpa using hli
      have hg' : ((args.length : Int) != (binds.length : Int)) = false := by simpa using hli
      go_enter Try.func125, Try.ntmps125
      go_wp2_with fail
      refine bodyPost_ret (v := .tuple #[.agg #[.int .i64 0, .int .i64 0], .bool false]) (by simp [results, Try.results125, go_sem]) rfl ?_
      exact ⟨false, ⟨fun h => absurd h (by decide), fun h => absurd h (by rw [hlg]; exact HN.out)⟩, rfl, (((Below.refl _ _).alloc (Nat.le_refl _) _).alloc (by simp) _).alloc (by simp; omega) _⟩
    · have HG : Hid ((0 : Int) = 0 → (binds.length : Int) ≤ i) := fun _ => by omega
      have HI : Hid ((Tm.mk binds 0 i args).headIx = i - (binds.length : Int)) := by show _ = _; rw [HH.out, if_pos rfl]
      have hwr : IntKind.i64.wrap (i - (binds.length : Int)) = i - (binds.length : Int) := IntWalk.i64_in _ (by omega)
      have hli : (args.length : Int) = (binds.length : Int) := by omega
      have hg : ((args.length : Int) == (binds.length : Int)) = true := by simpa using hli
      have hg' : ((args.length : Int) != (binds.length : Int)) = false := by simpa using hli
      have Hlen := Lib.hid hlen
      clear hlen
      go_enter Try.func125, Try.ntmps125
      go_wp2_with fail
      obtain ⟨w3, hw3⟩ : ∃ w3, ((w.alloc (.cells #[.slice pa binds.length pc, .int .i64 0, .int .i64 i, .slice a args.length c] 34)).alloc (.cells #[.int .i64 0, .int .i64 0] 31)).alloc (.cells #[.int .i64 0, .int .i64 i] 31) = w3 := ⟨_, rfl⟩
      have B3 : Below w.heap.size w w3 := by rw [← hw3]; exact (((Below.refl _ _).alloc (Nat.le_refl _) _).alloc (by simp) _).alloc (by simp; omega) _
      have x0 : Blk w3 w.heap.size #[.slice pa binds.length pc, .int .i64 0, .int .i64 i, .slice a args.length c] 34 := by rw [← hw3]; exact ((Blk.new _ _ _ rfl).alloc _).alloc _
      have x1 : Blk w3 (w.heap.size + 1) #[.int .i64 0, .int .i64 0] 31 := by rw [← hw3]; exact (Blk.new _ _ _ (by simp)).alloc _
      have x2 : Blk w3 (w.heap.size + 1 + 1) #[.int .i64 0, .int .i64 i] 31 := by rw [← hw3]; exact Blk.new _ _ _ (by simp)
      try rw [hw3]
      clear hw3
      go_loopw [35] (fun ii wr => ∃ j : Nat, ii = .int .i64 j ∧ j ≤ binds.length ∧ Hid (args.take j = (Ty.etas binds).take j) ∧ Below w.heap.size w wr ∧ Blk wr w.heap.size #[.slice pa binds.length pc, .int .i64 0, .int .i64 i, .slice a args.length c] 34 ∧ Blk wr (w.heap.size + 1) #[.int .i64 0, .int .i64 0] 31 ∧ Blk wr (w.heap.size + 1 + 1) #[.int .i64 0, .int .i64 i] 31) (fun ii _ => binds.length - (intOf ii).toNat)
      case atStart => exact ⟨0, rfl, by omega, rfl, B3, x0, x1, x2⟩
      case round =>
        clear B3 x0 x1 x2
        obtain ⟨j, rfl, hj, hall, hb, hbox, hres, hh⟩ := hrel
        have hlt0 := hbox.lt
        have hlt1 := hres.lt
        have hlt2 := hh.lt
        have c10 : wr.cell? ⟨w.heap.size + 1, 0, none⟩ = some (.int .i64 0) := hres.cell rfl
        have c11 : wr.cell? ⟨w.heap.size + 1, 1, none⟩ = some (.int .i64 0) := hres.cell rfl
        have c20 : wr.cell? ⟨w.heap.size + 1 + 1, 0, none⟩ = some (.int .i64 0) := hh.cell rfl
        have c21 : wr.cell? ⟨w.heap.size + 1 + 1, 1, none⟩ = some (.int .i64 i) := hh.cell rfl
        by_cases hlt : j < binds.length
        · have hlt' : j < args.length := by have := Hlen.out; omega
          obtain ⟨rfl, hF⟩ := ha (by omega)
          obtain ⟨rfl, hF1⟩ := hb1 (by omega)
          have hkp : Keep F w0 wr := hw.below hb
          have e1 := hkp _ _ _ hF (h1 j hlt')
          have e2 := hkp _ _ _ hF (h2 j hlt')
          have e3 := hkp _ _ _ hF (h3 j hlt')
          have e4 := hkp _ _ _ hF (h4 j hlt')
          have hj0 : (0 : Int) ≤ (j : Int) := Int.natCast_nonneg _
          have hj1 : (j : Int) < (binds.length : Int) := by omega
          have hn2 : (binds.length : Int) ≤ 100000 := by omega
          have hblw : bl < wr.heap.size := Keep.lt e1
          have Hiff := Lib.hid (eta_iff (t := args[j]) (u := binds[j]) (m := (binds.length : Int) - 1 - j) (by omega))
          have HLj : Hid (¬ args[j] = Ty.eta binds[j] 0 ((binds.length : Int) - 1 - j) → ¬ lg) := fun h hl => by
            rw [← hlg, HL.out] at hl
            have h2 := Ty.etas_get binds j hlt
            apply h
            rw [← h2]
            simp only [hl.1]
          have hq1 : IntKind.i64.wrap ((binds.length : Int) - 1) = (binds.length : Int) - 1 := IntWalk.i64_in _ (by omega)
          have hq2 : IntKind.i64.wrap ((binds.length : Int) - 1 - (j : Int)) = (binds.length : Int) - 1 - (j : Int) := IntWalk.i64_in _ (by omega)
          go_wp2_with fail
          obtain ⟨wa, hwa⟩ : ∃ wa, wr.alloc (.cells #[.slice (PA j) (PN j) (PC j), .int .i64 (Kd j), .int .i64 (Ix j), .slice (A j) (N j) (C j)] 34) = wa := ⟨_, rfl⟩
          obtain ⟨qn, hqn⟩ : ∃ qn, wr.heap.size = qn := ⟨_, rfl⟩
          have ba : Below wr.heap.size wr wa := by rw [← hwa]; exact (Below.refl _ _).alloc (Nat.le_refl _) _
          have xa : Blk wa qn #[.slice (PA j) (PN j) (PC j), .int .i64 (Kd j), .int .i64 (Ix j), .slice (A j) (N j) (C j)] 34 := by rw [← hwa]; exact Blk.new _ _ _ hqn.symm
          have hqw : w.heap.size + 1 + 1 < qn := by omega
          try rw [hwa]
          try rw [hqn]
          clear hwa hqn
          have hba := hb.trans (ba.mono hb.size)
          have hboxa := hbox.below ba
          have hresa := hres.below ba
          have hha := hh.below ba
          clear hb hbox hres hh ba c10 c11 c20 c21 e1 e2 e3 e4 hblw hkp hlt0 hlt1 hlt2
          refine (H5.out j hlt' wa (hw.below hba)).mono ?_
          intro e w5 h
          obtain ⟨r, Hr, rfl, hb5⟩ := h
          have hB5 := hba.trans (hb5.mono hba.size)
          have hbox5 := hboxa.below hb5
          have hres5 := hresa.below hb5
          have hh5 := hha.below hb5
          have xa5 := xa.below hb5
          clear hba hboxa hresa hha xa hb5
          have hlt0 := hbox5.lt
          have hlt1 := hres5.lt
          have hlt2 := hh5.lt
          have hlta := xa5.lt
          have c10 : w5.cell? ⟨w.heap.size + 1, 0, none⟩ = some (.int .i64 0) := hres5.cell rfl
          have c11 : w5.cell? ⟨w.heap.size + 1, 1, none⟩ = some (.int .i64 0) := hres5.cell rfl
          have f10 := hres5.free 0
          have f11 := hres5.free 1
          cases r
          · have HN : Hid (¬ lg) := HLj.out fun h => absurd (Hr.out.2 (Hiff.out.1 h).1) (by decide)
            simp only [Bool.false_eq_true, if_false]
            have z := ((hres5.set 0 (.int .i64 0)).set 1 (.int .i64 0)).alloc (.cells #[.int .i64 0, .int .i64 0] 31)
            have z0 := z.cell (i := 0) (v := .int .i64 0) rfl
            have z1 := z.cell (i := 1) (v := .int .i64 0) rfl
            go_wp2_with fail
            refine bodyPost_ret (v := .tuple #[.agg #[.int .i64 0, .int .i64 0], .bool false]) (by simp [results, Try.results125, go_sem, z0, z1]) rfl ?_
            exact ⟨false, ⟨fun h => absurd h (by decide), fun h => absurd h (by rw [hlg]; exact HN.out)⟩, rfl, ((hB5.setCell (by simp <;> omega) _).setCell (by simp <;> omega) _).alloc (by have := hB5.size; simpa using this) _⟩
          · have Hlong := Lib.hid (Hr.out.1 rfl); clear Hr
            simp only [if_true]
            obtain ⟨kk, hkk⟩ : ∃ kk, args[j].kind = kk := ⟨_, rfl⟩
            obtain ⟨ix, hix⟩ : ∃ ix, args[j].headIx = ix := ⟨_, rfl⟩
            rw [hkk, hix] at Hiff
            rw [hkk, hix]
            clear hkk hix
            by_cases hk1 : kk = 0
            rotate_left
            · have HN : Hid (¬ lg) := HLj.out fun h => hk1 (Hiff.out.1 h).2.1
              have g1 : (kk == 0) = false := by simpa using hk1
              have g2 : (kk != 0) = true := by simpa using hk1
              have z := ((hres5.set 0 (.int .i64 0)).set 1 (.int .i64 0)).alloc (.cells #[.int .i64 kk, .int .i64 ix] 31)
              have z0 := z.cell (i := 0) (v := .int .i64 0) rfl
              have z1 := z.cell (i := 1) (v := .int .i64 0) rfl
              go_wp2_with fail
              refine bodyPost_ret (v := .tuple #[.agg #[.int .i64 0, .int .i64 0], .bool false]) (by simp [results, Try.results125, go_sem, z0, z1]) rfl ?_
              exact ⟨false, ⟨fun h => absurd h (by decide), fun h => absurd h (by rw [hlg]; exact HN.out)⟩, rfl, ((hB5.setCell (by simp <;> omega) _).setCell (by simp <;> omega) _).alloc (by have := hB5.size; simpa using this) _⟩
            subst hk1
            by_cases hi1' : ix = (binds.length : Int) - 1 - (j : Int)
            rotate_left
            · have HN : Hid (¬ lg) := HLj.out fun h => hi1' (Hiff.out.1 h).2.2.1
              have g1 : (ix == (binds.length : Int) - 1 - (j : Int)) = false := by simpa using hi1'
              have g2 : (ix != (binds.length : Int) - 1 - (j : Int)) = true := by simpa using hi1'
              have z := ((hres5.set 0 (.int .i64 0)).set 1 (.int .i64 0)).alloc (.cells #[.int .i64 0, .int .i64 ix] 31)
              have z0 := z.cell (i := 0) (v := .int .i64 0) rfl
              have z1 := z.cell (i := 1) (v := .int .i64 0) rfl
              go_wp2_with fail
              refine bodyPost_ret (v := .tuple #[.agg #[.int .i64 0, .int .i64 0], .bool false]) (by simp [results, Try.results125, go_sem, z0, z1]) rfl ?_
              exact ⟨false, ⟨fun h => absurd h (by decide), fun h => absurd h (by rw [hlg]; exact HN.out)⟩, rfl, ((hB5.setCell (by simp <;> omega) _).setCell (by simp <;> omega) _).alloc (by have := hB5.size; simpa using this) _⟩
            subst hi1'
            have g1 : (((binds.length : Int) - 1 - (j : Int)) == (binds.length : Int) - 1 - (j : Int)) = true := by simp
            have g2 : (((binds.length : Int) - 1 - (j : Int)) != (binds.length : Int) - 1 - (j : Int)) = false := by simp
            go_wp2_with fail
            obtain ⟨w6, hw6⟩ : ∃ w6, w5.alloc (.cells #[.int .i64 0, .int .i64 ((binds.length : Int) - 1 - (j : Int))] 31) = w6 := ⟨_, rfl⟩
            have b6 : Below w5.heap.size w5 w6 := by rw [← hw6]; exact (Below.refl _ _).alloc (Nat.le_refl _) _
            try rw [hw6]
            clear hw6
            have hB6 := hB5.trans (b6.mono hB5.size)
            have hbox6 := hbox5.below b6
            have hres6 := hres5.below b6
            have hh6 := hh5.below b6
            have xa6 := xa5.below b6
            clear hB5 hbox5 hres5 hh5 xa5 b6 c10 c11 f10 f11 hlt0 hlt1 hlt2 hlta
            have k1 := (hw.below hB6) _ _ _ hF1 (hb2 j hlt)
            refine wp_region_noPanic (wp_region_need (S := fun w' => w'.cell? ⟨qn, 0, none⟩ = some (.slice (PA j) (PN j) (PC j)) ∧ w'.cell? ⟨w.heap.size, 0, none⟩ = some (.slice (some ⟨bl1, off1, none⟩) binds.length pc) ∧ w'.cell? ⟨bl1, off1 + j * 2, none⟩ = some (.slice (A1 j) (N1 j) (C1 j))) (by kernel_rfl) ?_)
            have hS : (w6.drew).cell? ⟨qn, 0, none⟩ = some (.slice (PA j) (PN j) (PC j)) ∧ (w6.drew).cell? ⟨w.heap.size, 0, none⟩ = some (.slice (some ⟨bl1, off1, none⟩) binds.length pc) ∧ (w6.drew).cell? ⟨bl1, off1 + j * 2, none⟩ = some (.slice (A1 j) (N1 j) (C1 j)) := ⟨xa6.drew.cell rfl, hbox6.drew.cell rfl, k1⟩
            refine wpN_take (i := 0) (v := ?v1) rfl (by kernel_rfl) (fun _ _ _ h => h) hS (Or.inl ⟨by rfl, ?hy1⟩) ?hr1
            case hy1 => (intro wS hSw; (try dsimp only at hSw); go_simp; (try with_reducible rfl))
            try simp only [Act.put, List.setIfInBounds_toArray, List.set_cons_zero, List.set_cons_succ, List.getElem_toArray, List.getElem_cons_zero, List.getElem_cons_succ]
            refine wpN_take (i := 1) (v := ?v2) rfl (by kernel_rfl) (fun _ _ _ h => h) hS (Or.inl ⟨by rfl, ?hy2⟩) ?hr2
            case hy2 => (intro wS hSw; (try dsimp only at hSw); go_simp; (try with_reducible rfl))
            try simp only [Act.put, List.setIfInBounds_toArray, List.set_cons_zero, List.set_cons_succ, List.getElem_toArray, List.getElem_cons_zero, List.getElem_cons_succ]
            refine wpN_take (i := 2) (v := ?v3) rfl (by kernel_rfl) (fun _ _ _ h => h) hS (Or.inl ⟨by rfl, ?hy3⟩) ?hr3
            case hy3 => (intro wS hSw; (try dsimp only at hSw); go_simp; (try with_reducible rfl))
            try simp only [Act.put, List.setIfInBounds_toArray, List.set_cons_zero, List.set_cons_succ, List.getElem_toArray, List.getElem_cons_zero, List.getElem_cons_succ]
            refine wpN_take (i := 3) (v := ?v4) rfl (by kernel_rfl) (fun _ _ _ h => h) hS (Or.inl ⟨by rfl, ?hy4⟩) ?hr4
            case hy4 => (intro wS hSw; (try dsimp only at hSw); go_simp; (try with_reducible rfl))
            try simp only [Act.put, List.setIfInBounds_toArray, List.set_cons_zero, List.set_cons_succ, List.getElem_toArray, List.getElem_cons_zero, List.getElem_cons_succ]
            refine wpN_take (i := 4) (v := ?v5) rfl (by kernel_rfl) (fun _ _ _ h => h) hS (Or.inl ⟨by rfl, ?hy5⟩) ?hr5
            case hy5 => (intro wS hSw; (try dsimp only at hSw); go_simp; (try with_reducible rfl))
            try simp only [Act.put, List.setIfInBounds_toArray, List.set_cons_zero, List.set_cons_succ, List.getElem_toArray, List.getElem_cons_zero, List.getElem_cons_succ]
            refine wpN_take (i := 5) (v := ?v6) rfl (by kernel_rfl) (fun _ _ _ h => h) hS (Or.inl ⟨by rfl, ?hy6⟩) ?hr6
            case hy6 => (intro wS hSw; (try dsimp only at hSw); go_simp; (try with_reducible rfl))
            try simp only [Act.put, List.setIfInBounds_toArray, List.set_cons_zero, List.set_cons_succ, List.getElem_toArray, List.getElem_cons_zero, List.getElem_cons_succ]
            refine wpN_take (i := 6) (v := ?v7) rfl (by kernel_rfl) (fun _ _ _ h => h) hS (Or.inl ⟨by rfl, ?hy7⟩) ?hr7
            case hy7 => (intro wS hSw; (try dsimp only at hSw); go_simp; (try with_reducible rfl))
            try simp only [Act.put, List.setIfInBounds_toArray, List.set_cons_zero, List.set_cons_succ, List.getElem_toArray, List.getElem_cons_zero, List.getElem_cons_succ]
            refine wpN_take (i := 7) (v := ?v8) rfl (by kernel_rfl) (fun _ _ _ h => h) hS (Or.inl ⟨by rfl, ?hy8⟩) ?hr8
            case hy8 => (intro wS hSw; (try dsimp only at hSw); go_simp; (try with_reducible rfl))
            try simp only [Act.put, List.setIfInBounds_toArray, List.set_cons_zero, List.set_cons_succ, List.getElem_toArray, List.getElem_cons_zero, List.getElem_cons_succ]
            refine wpN_step (i := 8) (by kernel_rfl) rfl (fun K hK => ?_)
            go_simp
            refine (equalFunc_k (HB.out j hlt') (HT.out j hlt).inv.2 (fun t _ => equal_k t) _ (hw.below hB6).drew (hw.below hB6).drew).mono ?_
            intro e w7 h
            obtain ⟨r2, Hr2, rfl, hb7⟩ := of_retB' h
            clear h
            have b7 : Below w6.heap.size w6 w7 := (Below.refl _ _).drew.trans hb7
            have hB7 := hB6.trans (b7.mono hB6.size)
            have hbox7 := hbox6.below b7
            have hres7 := hres6.below b7
            have hh7 := hh6.below b7
            have xa7 := xa6.below b7
            clear hB6 hbox6 hres6 hh6 xa6 hb7 b7 k1
            have hS : (w7).cell? ⟨qn, 0, none⟩ = some (.slice (PA j) (PN j) (PC j)) ∧ (w7).cell? ⟨w.heap.size, 0, none⟩ = some (.slice (some ⟨bl1, off1, none⟩) binds.length pc) ∧ (w7).cell? ⟨bl1, off1 + j * 2, none⟩ = some (.slice (A1 j) (N1 j) (C1 j)) := ⟨xa7.cell rfl, hbox7.cell rfl, (hw.below hB7) _ _ _ hF1 (hb2 j hlt)⟩
            refine hK.out _ _ (fun _ => hS) ?_
            clear hK K
            try simp only [Act.put, List.setIfInBounds_toArray, List.set_cons_zero, List.set_cons_succ, List.getElem_toArray, List.getElem_cons_zero, List.getElem_cons_succ]
            refine wpN_take (i := 9) (v := ?v9) rfl (by kernel_rfl) (fun _ _ _ h => h) hS (Or.inl ⟨by rfl, ?hy9⟩) ?hr9
            case hy9 => (intro wS hSw; (try dsimp only at hSw); go_simp; (try with_reducible rfl))
            try simp only [Act.put, List.setIfInBounds_toArray, List.set_cons_zero, List.set_cons_succ, List.getElem_toArray, List.getElem_cons_zero, List.getElem_cons_succ]
            refine wpN_done (by kernel_rfl) ?_
            refine NoPanic.normal ?_
            clear hS
            cases r2
            · have HN : Hid (¬ lg) := HLj.out fun h => absurd (Hr2.out.2 (Hiff.out.1 h).2.2.2) (by decide)
              have c10 : w7.cell? ⟨w.heap.size + 1, 0, none⟩ = some (.int .i64 0) := hres7.cell rfl
              have c11 : w7.cell? ⟨w.heap.size + 1, 1, none⟩ = some (.int .i64 0) := hres7.cell rfl
              have f10 := hres7.free 0
              have f11 := hres7.free 1
              go_wp2_with fail
              refine bodyPost_ret (v := .tuple #[.agg #[.int .i64 0, .int .i64 0], .bool false]) (by simp [results, Try.results125, go_sem, c10, c11]) rfl ?_
              exact ⟨false, ⟨fun h => absurd h (by decide), fun h => absurd h (by rw [hlg]; exact HN.out)⟩, rfl, (hB7.setCell (by simp <;> omega) _).setCell (by simp <;> omega) _⟩
            · have Heq : Hid (args[j] = Ty.eta binds[j] 0 ((binds.length : Int) - 1 - (j : Int))) := Hiff.out.2 ⟨Hlong.out, by trivial, by trivial, Hr2.out.1 rfl⟩
              go_wp2_with fail
              go_roundw
              case rel => exact ⟨j + 1, by go_num, by omega, by show _ = _; rw [List.take_succ_eq_append_getElem hlt', Ty.etas_take binds j hlt, hall.out, Heq.out], hB7, hbox7, hres7, hh7⟩
              case measure => simp [intOf]; omega
        · have HLt : Hid lg := by
            show lg
            rw [← hlg, HL.out]
            have h := hall.out
            rw [List.take_of_length_le (by have := Hlen.out; omega), List.take_of_length_le (by rw [Ty.etas_len]; omega)] at h
            exact ⟨h, HG.out⟩
          have f10 := hres.free 0
          have f11 := hres.free 1
          have f20 := hh.free 0
          have f21 := hh.free 1
          go_wp2_with fail
          refine bodyPost_ret (v := .tuple #[.agg #[.int .i64 0, .int .i64 (i - (binds.length : Int))], .bool true]) (by simp [results, Try.results125, go_sem, c10, c11]) rfl ?_
          exact ⟨true, ⟨fun _ => by rw [hlg]; exact HLt.out, fun _ => rfl⟩, by simp [HI.out, Tm.kind], ((hb.setCell (by simp <;> omega) _).setCell (by simp <;> omega) _).setCell (by simp <;> omega) _⟩
  · have hk0 : (k == 0) = false := by simpa using hk
    have HG : Hid (k = 0 → (binds.length : Int) ≤ i) := fun h => absurd h hk
    have HI : Hid ((Tm.mk binds k i args).headIx = i) := by show _ = _; rw [HH.out, if_neg hk]
    have hli : (args.length : Int) = (binds.length : Int) := by omega
    have hg : ((args.length : Int) == (binds.length : Int)) = true := by simpa using hli
    have hg' : ((args.length : Int) != (binds.length : Int)) = false := by simpa using hli
    have Hlen := Lib.hid hlen
    clear hlen
    go_enter Try.func125, Try.ntmps125
    go_wp2_with fail
    obtain ⟨w3, hw3⟩ : ∃ w3, ((w.alloc (.cells #[.slice pa binds.length pc, .int .i64 k, .int .i64 i, .slice a args.length c] 34)).alloc (.cells #[.int .i64 0, .int .i64 0] 31)).alloc (.cells #[.int .i64 k, .int .i64 i] 31) = w3 := ⟨_, rfl⟩
    have B3 : Below w.heap.size w w3 := by rw [← hw3]; exact (((Below.refl _ _).alloc (Nat.le_refl _) _).alloc (by simp) _).alloc (by simp; omega) _
    have x0 : Blk w3 w.heap.size #[.slice pa binds.length pc, .int .i64 k, .int .i64 i, .slice a args.length c] 34 := by rw [← hw3]; exact ((Blk.new _ _ _ rfl).alloc _).alloc _
    have x1 : Blk w3 (w.heap.size + 1) #[.int .i64 0, .int .i64 0] 31 := by rw [← hw3]; exact (Blk.new _ _ _ (by simp)).alloc _
    have x2 : Blk w3 (w.heap.size + 1 + 1) #[.int .i64 k, .int .i64 i] 31 := by rw [← hw3]; exact Blk.new _ _ _ (by simp)
    try rw [hw3]
    clear hw3
    go_loopw [35] (fun ii wr => ∃ j : Nat, ii = .int .i64 j ∧ j ≤ binds.length ∧ Hid (args.take j = (Ty.etas binds).take j) ∧ Below w.heap.size w wr ∧ Blk wr w.heap.size #[.slice pa binds.length pc, .int .i64 k, .int .i64 i, .slice a args.length c] 34 ∧ Blk wr (w.heap.size + 1) #[.int .i64 0, .int .i64 0] 31 ∧ Blk wr (w.heap.size + 1 + 1) #[.int .i64 k, .int .i64 i] 31) (fun ii _ => binds.length - (intOf ii).toNat)
    case atStart => exact ⟨0, rfl, by omega, rfl, B3, x0, x1, x2⟩
    case round =>
      clear B3 x0 x1 x2
      obtain ⟨j, rfl, hj, hall, hb, hbox, hres, hh⟩ := hrel
      have hlt0 := hbox.lt
      have hlt1 := hres.lt
      have hlt2 := hh.lt
      have c10 : wr.cell? ⟨w.heap.size + 1, 0, none⟩ = some (.int .i64 0) := hres.cell rfl
      have c11 : wr.cell? ⟨w.heap.size + 1, 1, none⟩ = some (.int .i64 0) := hres.cell rfl
      have c20 : wr.cell? ⟨w.heap.size + 1 + 1, 0, none⟩ = some (.int .i64 k) := hh.cell rfl
      have c21 : wr.cell? ⟨w.heap.size + 1 + 1, 1, none⟩ = some (.int .i64 i) := hh.cell rfl
      by_cases hlt : j < binds.length
      · have hlt' : j < args.length := by have := Hlen.out; omega
        obtain ⟨rfl, hF⟩ := ha (by omega)
        obtain ⟨rfl, hF1⟩ := hb1 (by omega)
        have hkp : Keep F w0 wr := hw.below hb
        have e1 := hkp _ _ _ hF (h1 j hlt')
        have e2 := hkp _ _ _ hF (h2 j hlt')
        have e3 := hkp _ _ _ hF (h3 j hlt')
        have e4 := hkp _ _ _ hF (h4 j hlt')
        have hj0 : (0 : Int) ≤ (j : Int) := Int.natCast_nonneg _
        have hj1 : (j : Int) < (binds.length : Int) := by omega
        have hn2 : (binds.length : Int) ≤ 100000 := by omega
        have hblw : bl < wr.heap.size := Keep.lt e1
        have Hiff := Lib.hid (eta_iff (t := args[j]) (u := binds[j]) (m := (binds.length : Int) - 1 - j) (by omega))
        have HLj : Hid (¬ args[j] = Ty.eta binds[j] 0 ((binds.length : Int) - 1 - j) → ¬ lg) := fun h hl => by
          rw [← hlg, HL.out] at hl
          have h2 := Ty.etas_get binds j hlt
          apply h
          rw [← h2]
          simp only [hl.1]
        have hq1 : IntKind.i64.wrap ((binds.length : Int) - 1) = (binds.length : Int) - 1 := IntWalk.i64_in _ (by omega)
        have hq2 : IntKind.i64.wrap ((binds.length : Int) - 1 - (j : Int)) = (binds.length : Int) - 1 - (j : Int) := IntWalk.i64_in _ (by omega)
        go_wp2_with fail
        obtain ⟨wa, hwa⟩ : ∃ wa, wr.alloc (.cells #[.slice (PA j) (PN j) (PC j), .int .i64 (Kd j), .int .i64 (Ix j), .slice (A j) (N j) (C j)] 34) = wa := ⟨_, rfl⟩
        obtain ⟨qn, hqn⟩ : ∃ qn, wr.heap.size = qn := ⟨_, rfl⟩
        have ba : Below wr.heap.size wr wa := by rw [← hwa]; exact (Below.refl _ _).alloc (Nat.le_refl _) _
        have xa : Blk wa qn #[.slice (PA j) (PN j) (PC j), .int .i64 (Kd j), .int .i64 (Ix j), .slice (A j) (N j) (C j)] 34 := by rw [← hwa]; exact Blk.new _ _ _ hqn.symm
        have hqw : w.heap.size + 1 + 1 < qn := by omega
        try rw [hwa]
        try rw [hqn]
        clear hwa hqn
        have hba := hb.trans (ba.mono hb.size)
        have hboxa := hbox.below ba
        have hresa := hres.below ba
        have hha := hh.below ba
        clear hb hbox hres hh ba c10 c11 c20 c21 e1 e2 e3 e4 hblw hkp hlt0 hlt1 hlt2
        refine (H5.out j hlt' wa (hw.below hba)).mono ?_
        intro e w5 h
        obtain ⟨r, Hr, rfl, hb5⟩ := h
        have hB5 := hba.trans (hb5.mono hba.size)
        have hbox5 := hboxa.below hb5
        have hres5 := hresa.below hb5
        have hh5 := hha.below hb5
        have xa5 := xa.below hb5
        clear hba hboxa hresa hha xa hb5
        have hlt0 := hbox5.lt
        have hlt1 := hres5.lt
        have hlt2 := hh5.lt
        have hlta := xa5.lt
        have c10 : w5.cell? ⟨w.heap.size + 1, 0, none⟩ = some (.int .i64 0) := hres5.cell rfl
        have c11 : w5.cell? ⟨w.heap.size + 1, 1, none⟩ = some (.int .i64 0) := hres5.cell rfl
        have f10 := hres5.free 0
        have f11 := hres5.free 1
        cases r
        · have HN : Hid (¬ lg) := HLj.out fun h => absurd (Hr.out.2 (Hiff.out.1 h).1) (by decide)
          simp only [Bool.false_eq_true, if_false]
          have z := ((hres5.set 0 (.int .i64 0)).set 1 (.int .i64 0)).alloc (.cells #[.int .i64 0, .int .i64 0] 31)
          have z0 := z.cell (i := 0) (v := .int .i64 0) rfl
          have z1 := z.cell (i := 1) (v := .int .i64 0) rfl
          go_wp2_with fail
          refine bodyPost_ret (v := .tuple #[.agg #[.int .i64 0, .int .i64 0], .bool false]) (by simp [results, Try.results125, go_sem, z0, z1]) rfl ?_
          exact ⟨false, ⟨fun h => absurd h (by decide), fun h => absurd h (by rw [hlg]; exact HN.out)⟩, rfl, ((hB5.setCell (by simp <;> omega) _).setCell (by simp <;> omega) _).alloc (by have := hB5.size; simpa using this) _⟩
        · have Hlong := Lib.hid (Hr.out.1 rfl); clear Hr
          simp only [if_true]
          obtain ⟨kk, hkk⟩ : ∃ kk, args[j].kind = kk := ⟨_, rfl⟩
          obtain ⟨ix, hix⟩ : ∃ ix, args[j].headIx = ix := ⟨_, rfl⟩
          rw [hkk, hix] at Hiff
          rw [hkk, hix]
          clear hkk hix
          by_cases hk1 : kk = 0
          rotate_left
          · have HN : Hid (¬ lg) := HLj.out fun h => hk1 (Hiff.out.1 h).2.1
            have g1 : (kk == 0) = false := by simpa using hk1
            have g2 : (kk != 0) = true := by simpa using hk1
            have z := ((hres5.set 0 (.int .i64 0)).set 1 (.int .i64 0)).alloc (.cells #[.int .i64 kk, .int .i64 ix] 31)
            have z0 := z.cell (i := 0) (v := .int .i64 0) rfl
            have z1 := z.cell (i := 1) (v := .int .i64 0) rfl
            go_wp2_with fail
            refine bodyPost_ret (v := .tuple #[.agg #[.int .i64 0, .int .i64 0], .bool false]) (by simp [results, Try.results125, go_sem, z0, z1]) rfl ?_
            exact ⟨false, ⟨fun h => absurd h (by decide), fun h => absurd h (by rw [hlg]; exact HN.out)⟩, rfl, ((hB5.setCell (by simp <;> omega) _).setCell (by simp <;> omega) _).alloc (by have := hB5.size; simpa using this) _⟩
          subst hk1
          by_cases hi1' : ix = (binds.length : Int) - 1 - (j : Int)
          rotate_left
          · have HN : Hid (¬ lg) := HLj.out fun h => hi1' (Hiff.out.1 h).2.2.1
            have g1 : (ix == (binds.length : Int) - 1 - (j : Int)) = false := by simpa using hi1'
            have g2 : (ix != (binds.length : Int) - 1 - (j : Int)) = true := by simpa using hi1'
            have z := ((hres5.set 0 (.int .i64 0)).set 1 (.int .i64 0)).alloc (.cells #[.int .i64 0, .int .i64 ix] 31)
            have z0 := z.cell (i := 0) (v := .int .i64 0) rfl
            have z1 := z.cell (i := 1) (v := .int .i64 0) rfl
            go_wp2_with fail
            refine bodyPost_ret (v := .tuple #[.agg #[.int .i64 0, .int .i64 0], .bool false]) (by simp [results, Try.results125, go_sem, z0, z1]) rfl ?_
            exact ⟨false, ⟨fun h => absurd h (by decide), fun h => absurd h (by rw [hlg]; exact HN.out)⟩, rfl, ((hB5.setCell (by simp <;> omega) _).setCell (by simp <;> omega) _).alloc (by have := hB5.size; simpa using this) _⟩
          subst hi1'
          have g1 : (((binds.length : Int) - 1 - (j : Int)) == (binds.length : Int) - 1 - (j : Int)) = true := by simp
          have g2 : (((binds.length : Int) - 1 - (j : Int)) != (binds.length : Int) - 1 - (j : Int)) = false := by simp
          go_wp2_with fail
          obtain ⟨w6, hw6⟩ : ∃ w6, w5.alloc (.cells #[.int .i64 0, .int .i64 ((binds.length : Int) - 1 - (j : Int))] 31) = w6 := ⟨_, rfl⟩
          have b6 : Below w5.heap.size w5 w6 := by rw [← hw6]; exact (Below.refl _ _).alloc (Nat.le_refl _) _
          try rw [hw6]
          clear hw6
          have hB6 := hB5.trans (b6.mono hB5.size)
          have hbox6 := hbox5.below b6
          have hres6 := hres5.below b6
          have hh6 := hh5.below b6
          have xa6 := xa5.below b6
          clear hB5 hbox5 hres5 hh5 xa5 b6 c10 c11 f10 f11 hlt0 hlt1 hlt2 hlta
          have k1 := (hw.below hB6) _ _ _ hF1 (hb2 j hlt)
          refine wp_region_noPanic (wp_region_need (S := fun w' => w'.cell? ⟨qn, 0, none⟩ = some (.slice (PA j) (PN j) (PC j)) ∧ w'.cell? ⟨w.heap.size, 0, none⟩ = some (.slice (some ⟨bl1, off1, none⟩) binds.length pc) ∧ w'.cell? ⟨bl1, off1 + j * 2, none⟩ = some (.slice (A1 j) (N1 j) (C1 j))) (by kernel_rfl) ?_)
          have hS : (w6.drew).cell? ⟨qn, 0, none⟩ = some (.slice (PA j) (PN j) (PC j)) ∧ (w6.drew).cell? ⟨w.heap.size, 0, none⟩ = some (.slice (some ⟨bl1, off1, none⟩) binds.length pc) ∧ (w6.drew).cell? ⟨bl1, off1 + j * 2, none⟩ = some (.slice (A1 j) (N1 j) (C1 j)) := ⟨xa6.drew.cell rfl, hbox6.drew.cell rfl, k1⟩
          refine wpN_take (i := 0) (v := ?v10) rfl (by kernel_rfl) (fun _ _ _ h => h) hS (Or.inl ⟨by rfl, ?hy10⟩) ?hr10
          case hy10 => (intro wS hSw; (try dsimp only at hSw); go_simp; (try with_reducible rfl))
          try simp only [Act.put, List.setIfInBounds_toArray, List.set_cons_zero, List.set_cons_succ, List.getElem_toArray, List.getElem_cons_zero, List.getElem_cons_succ]
          refine wpN_take (i := 1) (v := ?v11) rfl (by kernel_rfl) (fun _ _ _ h => h) hS (Or.inl ⟨by rfl, ?hy11⟩) ?hr11
          case hy11 => (intro wS hSw; (try dsimp only at hSw); go_simp; (try with_reducible rfl))
          try simp only [Act.put, List.setIfInBounds_toArray, List.set_cons_zero, List.set_cons_succ, List.getElem_toArray, List.getElem_cons_zero, List.getElem_cons_succ]
          refine wpN_take (i := 2) (v := ?v12) rfl (by kernel_rfl) (fun _ _ _ h => h) hS (Or.inl ⟨by rfl, ?hy12⟩) ?hr12
          case hy12 => (intro wS hSw; (try dsimp only at hSw); go_simp; (try with_reducible rfl))
          try simp only [Act.put, List.setIfInBounds_toArray, List.set_cons_zero, List.set_cons_succ, List.getElem_toArray, List.getElem_cons_zero, List.getElem_cons_succ]
          refine wpN_take (i := 3) (v := ?v13) rfl (by kernel_rfl) (fun _ _ _ h => h) hS (Or.inl ⟨by rfl, ?hy13⟩) ?hr13
          case hy13 => (intro wS hSw; (try dsimp only at hSw); go_simp; (try with_reducible rfl))
          try simp only [Act.put, List.setIfInBounds_toArray, List.set_cons_zero, List.set_cons_succ, List.getElem_toArray, List.getElem_cons_zero, List.getElem_cons_succ]
          refine wpN_take (i := 4) (v := ?v14) rfl (by kernel_rfl) (fun _ _ _ h => h) hS (Or.inl ⟨by rfl, ?hy14⟩) ?hr14
          case hy14 => (intro wS hSw; (try dsimp only at hSw); go_simp; (try with_reducible rfl))
          try simp only [Act.put, List.setIfInBounds_toArray, List.set_cons_zero, List.set_cons_succ, List.getElem_toArray, List.getElem_cons_zero, List.getElem_cons_succ]
          refine wpN_take (i := 5) (v := ?v15) rfl (by kernel_rfl) (fun _ _ _ h => h) hS (Or.inl ⟨by rfl, ?hy15⟩) ?hr15
          case hy15 => (intro wS hSw; (try dsimp only at hSw); go_simp; (try with_reducible rfl))
          try simp only [Act.put, List.setIfInBounds_toArray, List.set_cons_zero, List.set_cons_succ, List.getElem_toArray, List.getElem_cons_zero, List.getElem_cons_succ]
          refine wpN_take (i := 6) (v := ?v16) rfl (by kernel_rfl) (fun _ _ _ h => h) hS (Or.inl ⟨by rfl, ?hy16⟩) ?hr16
          case hy16 => (intro wS hSw; (try dsimp only at hSw); go_simp; (try with_reducible rfl))
          try simp only [Act.put, List.setIfInBounds_toArray, List.set_cons_zero, List.set_cons_succ, List.getElem_toArray, List.getElem_cons_zero, List.getElem_cons_succ]
          refine wpN_take (i := 7) (v := ?v17) rfl (by kernel_rfl) (fun _ _ _ h => h) hS (Or.inl ⟨by rfl, ?hy17⟩) ?hr17
          case hy17 => (intro wS hSw; (try dsimp only at hSw); go_simp; (try with_reducible rfl))
          try simp only [Act.put, List.setIfInBounds_toArray, List.set_cons_zero, List.set_cons_succ, List.getElem_toArray, List.getElem_cons_zero, List.getElem_cons_succ]
          refine wpN_step (i := 8) (by kernel_rfl) rfl (fun K hK => ?_)
          go_simp
          refine (equalFunc_k (HB.out j hlt') (HT.out j hlt).inv.2 (fun t _ => equal_k t) _ (hw.below hB6).drew (hw.below hB6).drew).mono ?_
          intro e w7 h
          obtain ⟨r2, Hr2, rfl, hb7⟩ := of_retB' h
          clear h
          have b7 : Below w6.heap.size w6 w7 := (Below.refl _ _).drew.trans hb7
          have hB7 := hB6.trans (b7.mono hB6.size)
          have hbox7 := hbox6.below b7
          have hres7 := hres6.below b7
          have hh7 := hh6.below b7
          have xa7 := xa6.below b7
          clear hB6 hbox6 hres6 hh6 xa6 hb7 b7 k1
          have hS : (w7).cell? ⟨qn, 0, none⟩ = some (.slice (PA j) (PN j) (PC j)) ∧ (w7).cell? ⟨w.heap.size, 0, none⟩ = some (.slice (some ⟨bl1, off1, none⟩) binds.length pc) ∧ (w7).cell? ⟨bl1, off1 + j * 2, none⟩ = some (.slice (A1 j) (N1 j) (C1 j)) := ⟨xa7.cell rfl, hbox7.cell rfl, (hw.below hB7) _ _ _ hF1 (hb2 j hlt)⟩
          refine hK.out _ _ (fun _ => hS) ?_
          clear hK K
          try simp only [Act.put, List.setIfInBounds_toArray, List.set_cons_zero, List.set_cons_succ, List.getElem_toArray, List.getElem_cons_zero, List.getElem_cons_succ]
          refine wpN_take (i := 9) (v := ?v18) rfl (by kernel_rfl) (fun _ _ _ h => h) hS (Or.inl ⟨by rfl, ?hy18⟩) ?hr18
          case hy18 => (intro wS hSw; (try dsimp only at hSw); go_simp; (try with_reducible rfl))
          try simp only [Act.put, List.setIfInBounds_toArray, List.set_cons_zero, List.set_cons_succ, List.getElem_toArray, List.getElem_cons_zero, List.getElem_cons_succ]
          refine wpN_done (by kernel_rfl) ?_
          refine NoPanic.normal ?_
          clear hS
          cases r2
          · have HN : Hid (¬ lg) := HLj.out fun h => absurd (Hr2.out.2 (Hiff.out.1 h).2.2.2) (by decide)
            have c10 : w7.cell? ⟨w.heap.size + 1, 0, none⟩ = some (.int .i64 0) := hres7.cell rfl
            have c11 : w7.cell? ⟨w.heap.size + 1, 1, none⟩ = some (.int .i64 0) := hres7.cell rfl
            have f10 := hres7.free 0
            have f11 := hres7.free 1
            go_wp2_with fail
            refine bodyPost_ret (v := .tuple #[.agg #[.int .i64 0, .int .i64 0], .bool false]) (by simp [results, Try.results125, go_sem, c10, c11]) rfl ?_
            exact ⟨false, ⟨fun h => absurd h (by decide), fun h => absurd h (by rw [hlg]; exact HN.out)⟩, rfl, (hB7.setCell (by simp <;> omega) _).setCell (by simp <;> omega) _⟩
          · have Heq : Hid (args[j] = Ty.eta binds[j] 0 ((binds.length : Int) - 1 - (j : Int))) := Hiff.out.2 ⟨Hlong.out, by trivial, by trivial, Hr2.out.1 rfl⟩
            go_wp2_with fail
            go_roundw
            case rel => exact ⟨j + 1, by go_num, by omega, by show _ = _; rw [List.take_succ_eq_append_getElem hlt', Ty.etas_take binds j hlt, hall.out, Heq.out], hB7, hbox7, hres7, hh7⟩
            case measure => simp [intOf]; omega
      · have HLt : Hid lg := by
          show lg
          rw [← hlg, HL.out]
          have h := hall.out
          rw [List.take_of_length_le (by have := Hlen.out; omega), List.take_of_length_le (by rw [Ty.etas_len]; omega)] at h
          exact ⟨h, HG.out⟩
        have f10 := hres.free 0
        have f11 := hres.free 1
        have f20 := hh.free 0
        have f21 := hh.free 1
        go_wp2_with fail
        refine bodyPost_ret (v := .tuple #[.agg #[.int .i64 k, .int .i64 i], .bool true]) (by simp [results, Try.results125, go_sem, c10, c11]) rfl ?_
        exact ⟨true, ⟨fun _ => by rw [hlg]; exact HLt.out, fun _ => rfl⟩, by simp [HI.out, Tm.kind], (hb.setCell (by simp <;> omega) _).setCell (by simp <;> omega) _⟩
end Go.Proofs.Ytdmiekaeodcehaa

namespace Go.Proofs.Ytdmiekaeodcehaa
open Go.RowKit Go.Shelf
attribute [local go_sem] Oper.semAt_some

def looseStep (n : Int) (p : Nat × Nat × Tm) : Int := if p.2.2.kind = 0 ∧ (p.1 : Int) ≤ p.2.2.index then max n (min (IntKind.i64.wrap (p.2.2.index - p.1)) 1000 + 1) else n
def looseP (l : List (Nat × Nat × Tm)) : Int := l.foldl looseStep 0
theorem looseP_snoc (l : List (Nat × Nat × Tm)) (p : Nat × Nat × Tm) : looseP (l ++ [p]) = looseStep (looseP l) p := by simp [looseP]
theorem looseStep_range {n : Int} {p : Nat × Nat × Tm} (h : 0 ≤ n ∧ n ≤ 1001) : 0 ≤ looseStep n p ∧ looseStep n p ≤ 1001 := by
  unfold looseStep; split <;> omega
theorem looseP_range (l : List (Nat × Nat × Tm)) : 0 ≤ looseP l ∧ looseP l ≤ 1001 := by
  have : ∀ (l : List (Nat × Nat × Tm)) n, (0 ≤ n ∧ n ≤ 1001) → 0 ≤ l.foldl looseStep n ∧ l.foldl looseStep n ≤ 1001 := by
    intro l
    induction l with
    | nil => intro n h; exact h
    | cons p l ih => intro n h; exact ih _ (looseStep_range h)
  exact this l 0 (by omega)
def looseL (n x : Int) : Int := if (if x > 1000 then 1000 else x) + 1 > n then (if x > 1000 then 1000 else x) + 1 else n

theorem loose_pres_of {l : List Tm} (h : ∀ t ∈ l, ∀ s d n, t.Fit → (t.pre s d).foldl looseStep n = (t.looses s).foldl looseL n) : ∀ s d n, (∀ t ∈ l, t.Fit) → (Tm.pres l s d).foldl looseStep n = (Tm.loosess l s).foldl looseL n := by
  induction l with
  | nil => intro s d n _; simp [Tm.pres, Tm.loosess]
  | cons t l ih =>
    intro s d n hf
    rw [Tm.pres, Tm.loosess, List.foldl_append, List.foldl_append, h t (by simp) s d n (hf t (by simp)), ih (fun u hu => h u (by simp [hu])) s d _ (fun u hu => hf u (by simp [hu]))]
theorem loose_pre (t : Tm) : ∀ (s d : Nat) (n : Int), t.Fit → (t.pre s d).foldl looseStep n = (t.looses s).foldl looseL n := by
  induction t using Tm.ind with
  | h b k i a ih =>
    intro s d n hf
    obtain ⟨hi0, hi1, hfa⟩ := Tm.fit_iff.1 hf
    rw [Tm.pre_eq, Tm.looses_eq _ _ _ _ _ ((s + b.length : Nat) : Int) (by simp), List.foldl_cons, List.foldl_append]
    rw [loose_pres_of ih _ _ _ hfa]
    congr 1
    show (if k = 0 ∧ ((s + b.length : Nat) : Int) ≤ i then _ else _) = _
    by_cases h : k = 0 ∧ ((s + b.length : Nat) : Int) ≤ i
    · have hw : IntKind.i64.wrap (i - ((s + b.length : Nat) : Int)) = i - ((s + b.length : Nat) : Int) := IntWalk.i64_in _ (by omega)
      rw [if_pos h, if_pos h]
      show max n (min (IntKind.i64.wrap (i - ((s + b.length : Nat) : Int))) 1000 + 1) = _
      rw [hw]
      simp only [List.foldl_cons, List.foldl_nil, looseL]
      split <;> split <;> omega
    · rw [if_neg h, if_neg h]; rfl
theorem looseP_pre (t : Tm) (hf : t.Fit) : looseP (t.pre 0 1) = (t.looses 0).foldl looseL 0 := loose_pre t 0 1 0 hf
set_option maxRecDepth 100000 in
set_option maxHeartbeats 2000000 in
theorem loose6_k {F : Nat → Prop} {w : World} {b k i a : Value} {t : Tm} (ht : IsTm F w b k i a t) (hsz : t.full ≤ 500000) (hfit : t.Fit) : Calls Try.prog 117 #[.agg #[b, k, i, a]] w (RetI ((t.looses 0).foldl looseL 0) w) := by
  refine (callsIn_wide (n := 9)).1 ?_
  have Ht := Lib.hid (ht.weaken (F' := fun _ => True) fun _ _ _ => trivial)
  obtain ⟨pa, pc, qa, qc, rfl, rfl, rfl, rfl⟩ := ht.shape
  clear ht
  obtain ⟨x1, hx1⟩ : ∃ x, t.binds.length = x := ⟨_, rfl⟩
  obtain ⟨x2, hx2⟩ : ∃ x, t.args.length = x := ⟨_, rfl⟩
  obtain ⟨x3, hx3⟩ : ∃ x, t.kind = x := ⟨_, rfl⟩
  obtain ⟨x4, hx4⟩ : ∃ x, t.index = x := ⟨_, rfl⟩
  rw [hx1, hx2, hx3, hx4] at Ht ⊢
  clear hx1 hx2 hx3 hx4
  refine callsIn_of_wp_marks Try.func117 rfl trivial ?_ rfl
  simp only [Try.ntmps117, List.size_toArray, List.length_cons, List.length_nil, Nat.reduceAdd, Nat.reduceSub, Array.replicate_succ, Array.replicate_zero, List.push_toArray, List.append_toArray, List.nil_append, List.cons_append]
  gi_wp2_with fail
  refine ⟨trivial, (each6_k _ _ _ _ _ _ ⟨_, _, _, rfl⟩ ⟨_, rfl⟩ ⟨_, rfl⟩ ⟨_, _, _, rfl⟩).mono ?_⟩
  rintro e w' ⟨rfl, rfl⟩
  gi_wp2_with fail
  have hsz' := Lib.hid hsz
  have Hfit := Lib.hid hfit; clear hfit
  have hfl := Tm.size_le_full t
  obtain ⟨w5, hw5⟩ : ∃ w5, ((w.alloc (.cells #[.slice pa x1 pc, .int .i64 x3, .int .i64 x4, .slice qa x2 qc] 34)).alloc (.cells #[.int .i64 0] 3)).alloc (.cells #[.slice pa x1 pc, .int .i64 x3, .int .i64 x4, .slice qa x2 qc] 34) = w5 := ⟨_, rfl⟩
  have hB0 : Below w.heap.size w w5 := by rw [← hw5]; exact (((Below.refl _ w).alloc (Nat.le_refl _) _).alloc (by simp) _).alloc (by simp; omega) _
  have hz : w5.heap.size = w.heap.size + 3 := by rw [← hw5]; simp
  have y2 : Blk w5 (w.heap.size + 1) #[.int .i64 0] 3 := by rw [← hw5]; exact (Blk.new _ _ _ (by simp)).alloc _
  have y3 : Blk w5 (w.heap.size + 1 + 1) #[.slice pa x1 pc, .int .i64 x3, .int .i64 x4, .slice qa x2 qc] 34 := by rw [← hw5]; exact Blk.new _ _ _ (by simp)
  rw [hw5]
  clear hw5
  refine range_softA (Ok := SpotOk) (fun o h => .inl h) rfl (by omega) (gf := 141) (lb := #[.pointer (some ⟨w.heap.size + 1 + 1, 0, none⟩)]) rfl trivial (enters_of Try.func141 (by kernel_rfl) rfl)
    (each6_soft (But w.heap.size (w.heap.size + 2)) (fun k _ _ hk => .inl hk) Ht.out hsz (9 - 1) w5 (fun k _ hk _ => .inr (by omega)) ((Keep.refl _ _).below hB0) (w.heap.size + 1 + 1) y3)
    (fun h h' => h.trans h') (fun W l o o' _ hl ho _ => KeepC.putObj _ W l o o' hl ho) (Below.refl _ _) (fun _ => rfl)
    (fun pre W => Blk W (w.heap.size + 1) #[.int .i64 (looseP (pre.map Hit6.key))] 3 ∧ Below w.heap.size w W)
    (fun _ _ _ => False)
    (Mild.and (mild_blk (by decide) (fun (pre : List (Hit6 (fun _ => True) w)) => #[.int .i64 (looseP (pre.map Hit6.key))])) (mild_below (Nat.le_refl _) (by omega)))
    (fun _ _ _ _ _ hs _ _ => hs)
    ⟨y2, hB0⟩
    (fun x a' W => ∃ Bs Bx, (w.heap.size + 1 < Bs ∧ w.heap.size + 1 < Bx) ∧ Blk W Bs #[.int .i64 x.s, .int .i64 x.d] 163 ∧ Blk W Bx #[.slice x.pb x.t.binds.length x.cb, .int .i64 x.t.kind, .int .i64 x.t.index, .slice x.pa x.t.args.length x.ca] 34 ∧ a' = { tmps := #[.agg #[.slice pa x1 pc, .int .i64 x3, .int .i64 x4, .slice qa x2 qc], .pointer (some ⟨w.heap.size, 0, none⟩), .int .i64 0, .pointer (some ⟨w.heap.size + 1, 0, none⟩), .pointer (some ⟨Bs, 0, none⟩), .pointer (some ⟨Bx, 0, none⟩), .agg #[.slice pa x1 pc, .int .i64 x3, .int .i64 x4, .slice qa x2 qc], .func (.func 141) #[] #[.pointer (some ⟨w.heap.size + 1 + 1, 0, none⟩)], .agg #[.int .i64 x.s, .int .i64 x.d], .agg #[.slice x.pb x.t.binds.length x.cb, .int .i64 x.t.kind, .int .i64 x.t.index, .slice x.pa x.t.args.length x.ca], undef, undef, undef, undef, undef, undef, undef, undef, undef, undef, undef, undef, undef, undef, undef, undef, undef, undef, undef, undef, undef, undef, undef], defers := [] })
    (fun x a' W l o o' hl ho hoc => by
      rintro ⟨Bs, Bx, h1, h2, h3, h4⟩
      have key : ∀ {B : Nat} {cs : Array Value} {T : TypeId}, Blk W B cs T → Blk (W.putObj l o') B cs T := fun {B cs T} h => by
        have hne : l ≠ B := fun e => by
          subst e
          have hb : W.heap[l]? = _ := h
          rw [hb] at ho; cases ho; simp [Obj.isCells] at hoc
        exact (World.putObj_heap_other (Ne.symm hne)).trans h
      exact ⟨Bs, Bx, h1, key h2, key h3, h4⟩) ?assign ?body ?done ?stop
  case assign =>
    rintro l pre x W K ⟨z2, hB⟩ hK
    have HK := Lib.hid hK; clear hK
    simp only [Hit6.enc] at *
    gi_wp2
    have hs := hB.size
    have hlt := z2.lt
    exact HK.out _ _ (((KeepsOthers.alloc _ _).trans (KeepsOthers.alloc _ _)).from _) (((KeepC.refl _ W).alloc _).alloc _) ⟨(z2.alloc _).alloc _, (hB.alloc hs _).alloc (by simp; omega) _⟩ ⟨W.heap.size, W.heap.size + 1, ⟨by omega, by omega⟩, (Blk.new _ _ _ rfl).alloc _, Blk.new _ _ _ (by simp), rfl⟩
  case body =>
    rintro l pre x a' W ⟨z2, hB⟩ hlt ⟨Bs, Bx, hBB, bS, bX, rfl⟩
    have hr := looseP_range (pre.map Hit6.key)
    have Hst := Lib.hid (looseP_snoc (pre.map Hit6.key) x.key)
    obtain ⟨n, hn⟩ : ∃ n, looseP (pre.map Hit6.key) = n := ⟨_, rfl⟩
    rw [hn] at z2 hr Hst
    clear hn
    have c2 : W.cell? ⟨w.heap.size + 1, 0, none⟩ = some (.int .i64 n) := z2.cell rfl
    have f2 := z2.free 0
    have cs0 : W.cell? ⟨Bs, 0, none⟩ = some (.int .i64 x.s) := bS.cell rfl
    have cx1 : W.cell? ⟨Bx, 1, none⟩ = some (.int .i64 x.t.kind) := bX.cell rfl
    have cx2 : W.cell? ⟨Bx, 2, none⟩ = some (.int .i64 x.t.index) := bX.cell rfl
    obtain ⟨kk, hkk⟩ : ∃ k, x.t.kind = k := ⟨_, rfl⟩
    obtain ⟨ii, hii⟩ : ∃ k, x.t.index = k := ⟨_, rfl⟩
    have Hk := Lib.hid hkk; have Hi := Lib.hid hii
    rw [hkk] at cx1 ⊢
    rw [hii] at cx2 ⊢
    clear hkk hii
    have hlen : (pre ++ [x]).map Hit6.key = pre.map Hit6.key ++ [x.key] := by simp
    by_cases hk : kk = 0 ∧ (x.s : Int) ≤ ii
    · obtain ⟨rfl, hi⟩ := hk
      obtain ⟨q, hq⟩ : ∃ q, IntKind.i64.wrap (ii - (x.s : Int)) = q := ⟨_, rfl⟩
      have Hq := Lib.hid hq
      have hqr : -9223372036854775808 ≤ q ∧ q ≤ 9223372036854775807 := by
        have h : (Lit.int .i64 (wrap64 (ii - (x.s : Int)))).wf = true := wrap64_wf _
        have h2 : IntKind.i64.min ≤ wrap64 (ii - (x.s : Int)) ∧ wrap64 (ii - (x.s : Int)) ≤ 9223372036854775807 := by simpa [Lit.wf] using h
        have h3 : IntKind.i64.min = -9223372036854775808 := by rfl
        have h4 : wrap64 (ii - (x.s : Int)) = q := by rw [← IntWalk.i64_left]; exact hq
        omega
      have hq2 : IntKind.i64.wrap (min q 1000 + 1) = min q 1000 + 1 := IntWalk.i64_in _ (by omega)
      have Hn : Hid (looseP (pre.map Hit6.key ++ [x.key]) = max n (min q 1000 + 1)) := by
        show _ = _
        rw [Hst.out, looseStep, if_pos ⟨Hk.out, by rw [Hit6.key]; simp only []; rw [Hi.out]; exact hi⟩]
        show max n (min (IntKind.i64.wrap (x.t.index - x.s)) 1000 + 1) = _
        rw [Hi.out, Hq.out]
      gi_wp2
      all_goals
        refine ⟨(KeepsOthers.setCell _ _ _).from _, (KeepC.refl _ W).setCell _ _ (by simp [But]), ?_, hB.setCell (p := ⟨w.heap.size + 1, 0, none⟩) (by simp) _⟩
        rw [hlen, Hn.out]
        first
          | exact z2.set 0 _
          | (rw [show max n (min q 1000 + 1) = 1001 by omega]; exact z2.set 0 _)
          | (rw [show max n (min q 1000 + 1) = n by omega]; exact z2.set 0 _)
          | (rw [show max n (min q 1000 + 1) = q + 1 by omega]; exact z2.set 0 _)
    · have Hn : Hid (looseP (pre.map Hit6.key ++ [x.key]) = n) := by
        show _ = _
        rw [Hst.out, looseStep, if_neg]
        rintro ⟨h1, h2⟩
        exact hk ⟨Hk.out.symm.trans h1, by have h3 : (x.s : Int) ≤ x.t.index := h2; rw [Hi.out] at h3; exact h3⟩
      have fin : ∀ (W' : World) (n0 : Nat), W' = W → KeepsFrom n0 W W' ∧ KeepC (But w.heap.size (w.heap.size + 2)) W W' ∧ (Blk W' (w.heap.size + 1) #[.int .i64 (looseP ((pre ++ [x]).map Hit6.key))] 3 ∧ Below w.heap.size w W') := by
        rintro W' n0 rfl
        refine ⟨(KeepsOthers.refl _).from _, KeepC.refl _ _, ?_, hB⟩
        rw [hlen, Hn.out]; exact z2
      have Fin := Lib.hid fin; clear fin
      by_cases hk0 : kk = 0
      · subst hk0
        have hi' : ¬ (x.s : Int) ≤ ii := fun h => hk ⟨rfl, h⟩
        have hi2 : ii < (x.s : Int) := by omega
        gi_wp2
        exact Fin.out _ _ rfl
      · have g0 : (kk == 0) = false := by simpa using hk0
        gi_wp2
        exact Fin.out _ _ rfl
  case done =>
    rintro D ys W hD hys ⟨z2, hB⟩ hK
    have Hys := Lib.hid hys; clear hys
    have hl := looseP_pre t Hfit.out
    rw [← Hys.out] at hl
    obtain ⟨n, hn⟩ : ∃ n, looseP (ys.map Hit6.key) = n := ⟨_, rfl⟩
    rw [hn] at z2 hl
    have Hl := Lib.hid hl
    clear hl hn
    have c2 : W.cell? ⟨w.heap.size + 1, 0, none⟩ = some (.int .i64 n) := z2.cell rfl
    gi_wp2
    refine ⟨by simp, .inl ⟨_, _, rfl, run_takeDeferred hK, ?_⟩⟩
    exact ⟨_, results_tmp rfl _ _ _, by rw [← Hl.out]; rfl, hB.trans (belowK_b (w := w) (Nat.le_refl _) W D _ _ (by omega) hK rfl rfl)⟩
  case stop =>
    rintro D c pre W _ _ h _
    exact h.elim
end Go.Proofs.Ytdmiekaeodcehaa

namespace Go.Proofs.Ytdmiekaeodcehaa
open Go.RowKit
def TP1_3 : TI := ⟨1, false, [Value.int IntKind.i64 0], [], none, 8, 2, none, false⟩
theorem TP1_3_ok : TypOk Try.prog 3 TP1_3 := ⟨by kernel_rfl, by kernel_rfl, by kernel_rfl, by kernel_rfl, by kernel_rfl⟩
def TP1_43 : TI := ⟨1, false, [Value.slice none 0 0], [], some 3, 24, 5, none, false⟩
theorem TP1_43_ok : TypOk Try.prog 43 TP1_43 := ⟨by kernel_rfl, by kernel_rfl, by kernel_rfl, by kernel_rfl, by kernel_rfl⟩
def TP1_34 : TI := ⟨4, true, [Value.slice none 0 0, Value.int IntKind.i64 0, Value.int IntKind.i64 0, Value.slice none 0 0], [(0, 1, false), (1, 2, true), (3, 1, false)], none, 64, 6, none, false⟩
theorem TP1_34_ok : TypOk Try.prog 34 TP1_34 := ⟨by kernel_rfl, by kernel_rfl, by kernel_rfl, by kernel_rfl, by kernel_rfl⟩
def TP1_30 : TI := ⟨1, false, [Value.slice none 0 0], [], some 100, 24, 5, none, false⟩
theorem TP1_30_ok : TypOk Try.prog 30 TP1_30 := ⟨by kernel_rfl, by kernel_rfl, by kernel_rfl, by kernel_rfl, by kernel_rfl⟩
def TP1_31 : TI := ⟨2, true, [Value.int IntKind.i64 0, Value.int IntKind.i64 0], [(0, 1, false), (1, 1, false)], none, 16, 6, none, true⟩
theorem TP1_31_ok : TypOk Try.prog 31 TP1_31 := ⟨by kernel_rfl, by kernel_rfl, by kernel_rfl, by kernel_rfl, by kernel_rfl⟩
def TP1_225 : TI := ⟨1, false, [Value.slice none 0 0], [], some 30, 24, 5, none, false⟩
theorem TP1_225_ok : TypOk Try.prog 225 TP1_225 := ⟨by kernel_rfl, by kernel_rfl, by kernel_rfl, by kernel_rfl, by kernel_rfl⟩
def TP1_208 : TI := ⟨1, false, [Value.map none], [], none, 8, 7, some 4, false⟩
theorem TP1_208_ok : TypOk Try.prog 208 TP1_208 := ⟨by kernel_rfl, by kernel_rfl, by kernel_rfl, by kernel_rfl, by kernel_rfl⟩
def TP1_32 : TI := ⟨1, false, [Value.slice none 0 0], [], some 34, 24, 5, none, false⟩
theorem TP1_32_ok : TypOk Try.prog 32 TP1_32 := ⟨by kernel_rfl, by kernel_rfl, by kernel_rfl, by kernel_rfl, by kernel_rfl⟩
def TP1_272 : TI := ⟨1, false, [Value.map none], [], none, 8, 7, some 3, false⟩
theorem TP1_272_ok : TypOk Try.prog 272 TP1_272 := ⟨by kernel_rfl, by kernel_rfl, by kernel_rfl, by kernel_rfl, by kernel_rfl⟩
def TP1_100 : TI := ⟨2, true, [Value.slice none 0 0, Value.int IntKind.i64 0], [(0, 1, false), (1, 1, false)], none, 32, 6, none, false⟩
theorem TP1_100_ok : TypOk Try.prog 100 TP1_100 := ⟨by kernel_rfl, by kernel_rfl, by kernel_rfl, by kernel_rfl, by kernel_rfl⟩
def TP1_4 : TI := ⟨1, false, [Value.bool false], [], none, 1, 1, none, false⟩
theorem TP1_4_ok : TypOk Try.prog 4 TP1_4 := ⟨by kernel_rfl, by kernel_rfl, by kernel_rfl, by kernel_rfl, by kernel_rfl⟩
def TP1 : List (Nat × TI) := [(3, TP1_3), (43, TP1_43), (34, TP1_34), (30, TP1_30), (31, TP1_31), (225, TP1_225), (208, TP1_208), (32, TP1_32), (272, TP1_272), (100, TP1_100), (4, TP1_4)]
theorem TP1_ok : TabOk Try.prog TP1 := ((((((((((((TabOk.nil _).cons TP1_4_ok).cons TP1_100_ok).cons TP1_272_ok).cons TP1_32_ok).cons TP1_208_ok).cons TP1_225_ok).cons TP1_31_ok).cons TP1_30_ok).cons TP1_34_ok).cons TP1_43_ok).cons TP1_3_ok)

theorem CallC.vle {P : Program} {f : FuncId} {args args' : List D} {R W : List (Key × D)} {V V' : D} (h : CallC P f args R W V) (ha : VLeL args' args) (hv : VLe V V') : CallC P f args' R W V' := by
  refine ⟨h.1, fun cx Fr m Im w vs hm hr hR => (h.2 cx Fr m Im w vs hm ?_ hR).mono ?_⟩
  · rw [relL_iff] at hr ⊢
    refine ⟨hr.1.trans ha.1, fun i hi => ?_⟩
    have hi' : i < args'.length := by rw [ha.1]; exact hi
    exact ha.2 i hi' hi m Im w _ (hr.2 i hi')
  · rintro e w' ⟨v, Im', rfl, h1, h2, h3, h4, h5, h6, h7⟩
    exact ⟨v, Im', rfl, h1, h2, h3, h4, h5, hv _ _ _ _ h6, h7⟩

/-! ints -/
def eIs (l : List Int) : List (List D) := l.map fun i => [.v (.int .i64 i)]
theorem eIs_len (l : List Int) : (eIs l).length = l.length := List.length_map ..
theorem eIs_append (l r : List Int) : eIs (l ++ r) = eIs l ++ eIs r := List.map_append ..
theorem eIs_getD (l : List Int) (i : Nat) (h : i < l.length) : (eIs l).getD i [] = [.v (.int .i64 l[i])] := by
  rw [eIs, List.getD_eq_getElem?_getD, List.getElem?_map, List.getElem?_eq_getElem h]; rfl
@[simp] theorem eIs_ok (f g : Nat → Bool) (l : List Int) : D.okss f g (eIs l) = true := D.okss_map _ l fun _ _ => rfl
def eTyss (ls : List (List Ty)) : List (List D) := ls.map fun l => [.sl 2 (eTys l) none]
theorem eTyss_len (l : List (List Ty)) : (eTyss l).length = l.length := List.length_map ..
theorem eTyss_getD (l : List (List Ty)) (i : Nat) (h : i < l.length) : (eTyss l).getD i [] = [.sl 2 (eTys l[i]) none] := by
  rw [eTyss, List.getD_eq_getElem?_getD, List.getElem?_map, List.getElem?_eq_getElem h]; rfl
@[simp] theorem eTyss_ok (f g : Nat → Bool) (l : List (List Ty)) : D.okss f g (eTyss l) = true := D.okss_map _ l fun l _ => by simp [D.oks, D.ok, eTys_ok]

/-! what was proved before -/
def varV (t : Tm) : D := .tu [.ag [.v (.int .i64 (if longB t then t.kind else 0)), .v (.int .i64 (if longB t then t.headIx else 0))], .v (.bool (longB t))]
theorem var_d (t : Tm) (hz : t.full ≤ 100000) (hf : t.Fit) : PureC Try.prog 125 [.ag (eTm t)] (varV t) := by
  refine pure_below (by kernel_rfl) fun m Im w vs hv => ?_
  match vs, hv with
  | [x], hv =>
    obtain ⟨b, k, i, a, rfl, ht⟩ := agTm hv.1
    refine (var_k t _ _ _ _ _ _ ht w (Keep.refl _ _) hz hf).mono ?_
    rintro e w' ⟨r, hr, rfl, hb⟩
    have : r = longB t := Bool.eq_iff_iff.2 (hr.out.trans (longB_iff t).symm)
    subst this
    exact ⟨_, rfl, hb, fun Im' _ _ => rel_tu.2 ⟨_, rfl, rel_ag.2 ⟨_, rfl, .v _, .v _, trivial⟩, .v _, trivial⟩⟩
theorem eqTys_d (l r : List Ty) (f : FuncId) (hf : f = 109) : PureC Try.prog 108 [.sl 2 (eTys l) none, .sl 2 (eTys r) none, .fn f []] (.v (.bool (decide (l = r)))) := by
  subst hf
  refine pure_below (by kernel_rfl) fun m Im w vs hv => ?_
  match vs, hv with
  | [x, y, z], hv =>
    obtain ⟨cs, rfl, hc⟩ := rel_fn.1 hv.2.2.1
    match cs, hc with
    | [], _ =>
      refine (equalFunc_k (slTy hv.1) (slTy hv.2.1) (fun t _ => equal_k t) w (Keep.refl _ _) (Keep.refl _ _)).mono ?_
      rintro e w' ⟨b, hb, rfl, hbl⟩
      have : b = decide (l = r) := by
        by_cases h : l = r
        · simp [h, hb.2 h]
        · have : b = false := by
            cases b with
            | false => rfl
            | true => exact absurd (hb.1 rfl) h
          simp [h, this]
      subst this
      exact ⟨_, rfl, hbl, fun _ _ _ => .v _⟩
theorem looseL_pos {l : List Int} (h : ∀ x ∈ l, 0 ≤ x) : 0 < l.foldl looseL 0 ↔ l ≠ [] := by
  have key : ∀ (l : List Int) (n : Int), (∀ x ∈ l, 0 ≤ x) → 0 ≤ n → n ≤ l.foldl looseL n ∧ (l ≠ [] → 0 < l.foldl looseL n) := by
    intro l
    induction l with
    | nil => intro n _ hn; exact ⟨Int.le_refl _, fun h => absurd rfl h⟩
    | cons x l ih =>
      intro n hx hn
      have hx0 := hx x (by simp)
      have h1 : n ≤ looseL n x ∧ 0 < looseL n x := by
        unfold looseL
        split <;> split <;> omega
      have := ih (looseL n x) (fun y hy => hx y (by simp [hy])) (by omega)
      simp only [List.foldl_cons]
      exact ⟨by omega, fun _ => by omega⟩
  by_cases he : l = []
  · subst he; simp
  · have := (key l 0 h (Int.le_refl _)).2 he
    simp [he, this]
theorem loose_d (t : Tm) (hz : t.full ≤ 500000) (hf : t.Fit) : PureC Try.prog 117 [.ag (eTm t)] (.v (.int .i64 ((t.looses 0).foldl looseL 0))) := by
  refine pure_below (by kernel_rfl) fun m Im w vs hv => ?_
  match vs, hv with
  | [x], hv =>
    obtain ⟨b, k, i, a, rfl, ht⟩ := agTm hv.1
    refine (loose6_k ht hz hf).mono ?_
    rintro e w' ⟨rfl, hb⟩
    exact ⟨_, rfl, hb, fun _ _ _ => .v _⟩

/-! slices.Clip, Clone, Concat -/
set_option maxRecDepth 100000 in
set_option maxHeartbeats 400000 in
theorem grow_at (n : Nat) (m : Int) (w : World) (hnm : m = n) (hn : n ≤ 1000000) :
    Calls Try.prog 140 #[.slice none 0 0, .int .i64 m] w fun e w' => ∃ v, e = .returned v ∧ Below w.heap.size w w' ∧ (v = .slice none 0 0 ∨ (v.ownBlock = some w.heap.size ∧ ∃ g, v = .slice (some ⟨w.heap.size, 0, none⟩) 0 g ∧ w'.ownsRow w.heap.size 100 2 v 0 [])) := by
  subst hnm
  obtain ⟨i0, hi0, hz0, hz1, hz2⟩ := info_parts infoK
  by_cases h0 : n = 0
  · subst h0
    go_enter Try.func140, Try.ntmps140
    go_wp2_with fail
    go_ret
    exact ⟨_, rfl, Below.refl _ _, .inl rfl⟩
  · have hr : ∀ ty, (Builtin.append_ #[30, 3] ty #[.slice none 0 0, .int .i64 (n : Int)]).run Try.prog w = _ := fun ty =>
      Lib.run_append_grow_zeros w 30 3 ty 100 i0 (.agg #[.slice none 0 0, .int .i64 0]) .i64 .i64 Try.underlying30 Try.underlying3 hi0 hz0 none 0 0 [] (run_firstCells_none _ _ _ _ _) n (by omega) (by rw [hz1]; decide) (by omega) (by omega) (by rw [hz2]; omega) (by rw [hz2]; exact growslice_fits (by omega) (by omega))
    have hr' : ∃ g, n ≤ g ∧ g ≤ maxLen ∧ ∀ ty, (Builtin.append_ #[30, 3] ty #[.slice none 0 0, .int .i64 (n : Int)]).run Try.prog w = .ok (.slice (some ⟨w.heap.size, 0, none⟩) n g) (w.drew.alloc (.cells (Builtin.zeroCells (#[.slice none 0 0, .int .i64 0]) n ++ Builtin.zeroCells (#[.slice none 0 0, .int .i64 0]) (g - n)) 100)) := by
      refine ⟨grownCap w n 0 100, grownCap_ge _ _ _ _, grownCap_le_maxLen _ _ _ _ (by unfold maxLen; omega), fun ty => ?_⟩
      have := hr ty
      simpa [Value.cells] using this
    obtain ⟨g, hg1, hg2, hg⟩ := hr'
    have hg2' := hg2
    clear hg2
    clear hr
    have hn0 : 0 < (n : Int) := by omega
    have Hg := Lib.hid hg; clear hg
    go_enter Try.func140, Try.ntmps140
    go_wp2_with (at_builtin; refine wpList_append_eq rfl _ _ _ _ _ rfl (Hg.out _) ?_)
    go_ret
    refine ⟨_, rfl, (Below.refl _ _).drew.alloc (Nat.le_refl _) _, .inr ⟨rfl, g, rfl, rfl, .inr ⟨w.heap.size, g, _, rfl, Nat.le_refl _, heap_alloc_new w.drew _, Nat.zero_le _, hg2', ?_, rfl⟩⟩⟩
    first | (simp [size_zeroCells]; done) | (simp [size_zeroCells]; omega)
theorem clip_d (l : List Int) : PureC Try.prog 159 [.sl 1 (eIs l) none] (.cl 1 (eIs l)) := by
 refine calldw 0 9 [ResultVar.tmp 2] TP1_ok Try.func159 rfl Try.ntmps159 rfl fun cx hnt hn0 => ?_
 ·skip
  refine dw_seq ?_; refine dwk [] TP1_ok hnt fun K hK => ?_; refine hK _ _ ?_; clear hK K; refine dw_seq ?_; refine dwk [(8, .cl 1 (eIs l))] TP1_ok hnt fun K hK => ?_; refine And.intro (⟨by omega, rfl, by omega⟩) ?_; refine And.intro (VLe.of_eq (by simp)) ?_; refine hK _ _ ?_; clear hK K; refine dw_ret ?_
  exact reta rfl
theorem clone_nil (a : Option Addr) (c : Nat) : PureC Try.prog 158 [.v (.slice a 0 c)] (.sl 1 [] none) := by
 refine calldw 0 8 [ResultVar.tmp 2] TP1_ok Try.func158 rfl Try.ntmps158 rfl fun cx hnt hn0 => ?_
 ·skip
  refine dw_seq ?_; refine dwk [] TP1_ok hnt fun K hK => ?_; refine hK _ _ ?_; clear hK K
  cases a with
  | none =>
   refine dw_seq ?_; refine dw_seq ?_; refine dwk [(4, .v (.bool true))] TP1_ok hnt fun K hK => ?_; refine And.intro (VLe.refl _) ?_; refine hK _ _ ?_; clear hK K; refine dw_cond (t := true) rfl ?_; rw [if_pos rfl]; refine dw_seq ?_; refine dwk [] TP1_ok hnt fun K hK => ?_; refine hK _ _ ?_; clear hK K; refine dw_ret ?_
   exact reta rfl
  | some a =>
   refine dw_seq ?_; refine dw_seq ?_; refine dwk [(4, .v (.bool false))] TP1_ok hnt fun K hK => ?_; refine And.intro (VLe.refl _) ?_; refine hK _ _ ?_; clear hK K; refine dw_cond (t := false) rfl ?_; rw [if_neg (by simp)]; refine dw_skip ?_; refine dw_seq ?_; refine dwk [] TP1_ok hnt fun K hK => ?_; refine And.intro (⟨rfl, by decide⟩) ?_; refine hK _ _ ?_; clear hK K; refine dw_ret ?_
   exact reta rfl
theorem clone_cons (x : Int) (l : List Int) (hl : l.length ≤ 900000) : PureC Try.prog 158 [.sl 1 (eIs (x :: l)) none] (.sl 1 (eIs (x :: l)) none) := by
 refine calldw 0 8 [ResultVar.tmp 2] TP1_ok Try.func158 rfl Try.ntmps158 rfl fun cx hnt hn0 => ?_
 ·skip
  refine dw_seq ?_; refine dwk [] TP1_ok hnt fun K hK => ?_; refine hK _ _ ?_; clear hK K; refine dw_seq ?_; refine dw_seq ?_; refine dwk [(4, .v (.bool false))] TP1_ok hnt fun K hK => ?_; refine And.intro (VLe.refl _) ?_; refine hK _ _ ?_; clear hK K; refine dw_cond (t := false) rfl ?_; rw [if_neg (by simp)]; refine dw_skip ?_; refine dw_seq ?_; refine dwk [] TP1_ok hnt fun K hK => ?_; refine And.intro (⟨rfl, by simp [eIs_len]; omega⟩) ?_
  refine hK _ _ ?_; clear hK K; refine dw_ret ?_
  exact reta rfl
theorem clone_d (l : List Int) (hl : l.length ≤ 900000) : PureC Try.prog 158 [.sl 1 (eIs l) none] (.sl 1 (eIs l) none) := by
  cases l with
  | cons x l => exact clone_cons x l (by simp at hl; omega)
  | nil =>
    refine ⟨by kernel_rfl, fun cx Fr m Im w vs hm hv hR => ?_⟩
    match vs, hv with
    | [v], hv =>
      obtain ⟨a, c, bl, off, X, rfl, _⟩ := rel_sl hv.1
      exact (clone_nil a c).2 cx Fr m Im w _ hm ⟨.v _, trivial⟩ hR
theorem grow_d (n : Int) (h0 : 0 ≤ n) (h1 : n ≤ 1000000) (nm : Nat) : CallN Try.prog 140 [.v (.slice none 0 0), .v (.int .i64 n)] [] nm [(.r nm, .rw 100 2 0)] (.sl 2 [] (some nm)) := by
  refine ⟨by kernel_rfl, fun cx Fr m Im w a σ vs hn hs hv _ => ?_⟩
  match vs, hv with
  | [x, y], hv =>
    have := rel_v.1 hv.1; subst this
    have := rel_v.1 hv.2.1; subst this
    refine (grow_at n.toNat n w (by omega) (by omega)).mono ?_
    rintro e w' ⟨v, rfl, hb, hv⟩
    rw [dropT_nil]
    rcases hv with rfl | ⟨ho, g, rfl, hr⟩
    · have hg : (m.setR nm ⟨.slice none 0 0, 0, 100, 2⟩).row nm = some ⟨.slice none 0 0, 0, 100, 2⟩ := by simp [Mp.setR]
      exact ⟨_, _, Im, rfl, (hs.newRow hn 100 2).below0 hb, rel_nil hg⟩
    · obtain ⟨s1, s2⟩ := hs.rowMade hn (.slice (some ⟨w.heap.size, 0, none⟩) 0 g) 100 2 hb ⟨hr.1, hr.2.imp id fun ⟨g, cap, cur, q1, q2, q3⟩ => ⟨g, cap, cur, q1, Nat.zero_le _, q3⟩⟩ ho
      refine ⟨_, _, Im, rfl, s1, ?_⟩
      exact .sl _ _ 0 0 2 (fun _ _ => undef) [] (some nm) ⟨Nat.zero_le _, Nat.zero_le _⟩ (fun h => absurd h (by simp)) (fun i _ h => absurd h (by simp)) (fun i h => absurd h (by simp)) (fun i _ h => absurd h (by simp)) (fun i h => absurd h (by simp)) fun r e => by
        cases e; exact ⟨_, by simp [Mp.setR]; rfl, Nat.le_refl _, fun _ => rfl⟩
def lens : List (List Ty) → Nat
  | [] => 0
  | l :: r => l.length + lens r
theorem lens_take (ls : List (List Ty)) (j : Nat) (h : j < ls.length) : lens (ls.take (j + 1)) = lens (ls.take j) + ls[j].length := by
  induction ls generalizing j with
  | nil => simp at h
  | cons l r ih =>
    cases j with
    | zero => simp [lens]
    | succ j => simp only [List.take_succ_cons, lens, List.getElem_cons_succ]; rw [ih j (by simpa using h)]; omega
theorem lens_flat (ls : List (List Ty)) : ls.flatten.length = lens ls := by
  induction ls with
  | nil => rfl
  | cons l r ih => simp [lens, ih]
theorem lens_le (ls : List (List Ty)) (j : Nat) : lens (ls.take j) ≤ lens ls := by
  induction ls generalizing j with
  | nil => simp [lens]
  | cons l r ih =>
    cases j with
    | zero => simp [lens]
    | succ j => simp only [List.take_succ_cons, lens]; have := ih j; omega
theorem flat_take (ls : List (List Ty)) (j : Nat) (h : j < ls.length) : (ls.take (j + 1)).flatten = (ls.take j).flatten ++ ls[j] := by
  rw [List.take_add_one, List.getElem?_eq_getElem h, List.flatten_append]; simp
set_option maxHeartbeats 1000000 in
theorem concat_d (ls : List (List Ty)) (hl : lens ls ≤ 900000) (hn : ls.length ≤ 1000) : PureC Try.prog 97 [.sl 1 (eTyss ls) none] (.sl 2 (eTys ls.flatten) none) := by
 refine calldw 0 36 [ResultVar.tmp 2] TP1_ok Try.func97 rfl Try.ntmps97 rfl fun cx hnt hn0 => ?_
 ·skip
  refine dw_seq ?_; refine dwk [] TP1_ok hnt fun K hK => ?_; refine hK _ _ ?_; clear hK K; refine dw_seq ?_; refine dwk [] TP1_ok hnt fun K hK => ?_; refine hK _ _ ?_; clear hK K; refine dw_seq ?_; refine dw_seq ?_; refine dwk [(10, .v (.int .i64 (ls.length)))] TP1_ok hnt fun K hK => ?_; refine And.intro (dintE (by rw [eTyss_len])) ?_; refine hK _ _ ?_; clear hK K; refine dw_block ?_
  refine dw_loop (ι := Nat) (fun j => [(.t 0, .sl 1 (eTyss ls) none), (.t 9, .sl 1 (eTyss ls) none), (.t 10, .v (.int .i64 ls.length)), (.t 11, .v (.int .i64 (j : Int))), (.t 3, .v (.int .i64 (lens (ls.take j) : Nat)))]) 0 (fun j => ls.length - j) (0) ((VS.toK (by omega) (by repeat first | exact trivial | refine And.intro (And.intro (by first | rfl | simp [D.ok, D.oks, D.okss, D.okm, upto, keyOk, lens]) (by first | exact Or.inl rfl | exact Or.inr ⟨_, rfl, (by repeat first | exact VLe.refl _ | exact VLe.nil _ | exact VLe.untag _ _ _ | refine VLe.ag ?_ | refine VLe.tu ?_ | refine VLeL.cons ?_ ?_ | exact VLeL.nil), trivial⟩ | simp [get, Key.eq, lens])) ?_))) fun j => ?_
  by_cases hlt : j < ls.length
  ·have h1 := lens_take ls j hlt
   have h2 := lens_le ls (j + 1)
   refine dw_seq ?_; refine dwk [(12, .v (.bool true))] TP1_ok hnt fun K hK => ?_; refine And.intro auT ?_; refine hK _ _ ?_; clear hK K; refine dw_seq ?_; refine dw_cond (t := true) rfl ?_; rw [if_pos rfl]; refine dw_skip ?_; refine dw_seq ?_; refine dw_block ?_; refine dw_seq ?_; refine dwk [(13, .q [.sl 2 (eTys ls[j]) none])] TP1_ok hnt fun K hK => ?_; refine And.intro (⟨by omega, by rw [eTyss_len]; omega⟩) ?_
   refine And.intro (VLe.of_eq (by rw [Int.toNat_natCast, eTyss_getD ls j hlt])) ?_; refine hK _ _ ?_; clear hK K; refine dw_seq ?_; refine dwk [(18, .v (.int .i64 (↑(lens (ls.take (j + 1))))))] TP1_ok hnt fun K hK => ?_; refine And.intro (dintE (by rw [eTys_len, IntWalk.i64_in _ (by omega)]; omega)) ?_; refine hK _ _ ?_; clear hK K; refine dw_seq ?_; refine dwk [(20, .v (.bool false))] TP1_ok hnt fun K hK => ?_
   refine And.intro auF ?_; refine hK _ _ ?_; clear hK K; refine dw_cond (t := false) rfl ?_; rw [if_neg (by simp)]; refine dw_skip ?_; refine dwk [(22, .v (.int .i64 (↑(j + 1))))] TP1_ok hnt fun K hK => ?_; refine And.intro auI ?_; refine hK _ _ ?_; clear hK K
   refine ⟨j + 1, by first | omega | (dsimp only; omega), VS.toA⟩
  ·have h3 : ls.take j = ls := List.take_of_length_le (by omega)
   have hg := grow_d (lens (ls.take j) : Nat) (by omega) (by rw [h3]; omega)
   rw [h3] at hg ⊢
   refine dw_seq ?_; refine dwk [(12, .v (.bool false))] TP1_ok hnt fun K hK => ?_; refine And.intro auF ?_; refine hK _ _ ?_; clear hK K; refine dw_seq ?_; refine dw_cond (t := false) rfl ?_; rw [if_neg (by simp)]; refine dw_exit ?_; refine dw_seq ?_; refine dwk [] TP1_ok hnt fun K hK => ?_; refine dcn (hg _) ?_; refine hK _ _ ?_; clear hK K; refine dw_seq ?_; refine dw_seq ?_; refine dwk [(26, .v (.int .i64 (ls.length)))] TP1_ok hnt fun K hK => ?_
   refine And.intro (dintE (by rw [eTyss_len])) ?_; refine hK _ _ ?_; clear hK K; refine dw_block ?_
   refine dw_loop (ι := Nat) (fun j => [(.t 25, .sl 1 (eTyss ls) none), (.t 26, .v (.int .i64 ls.length)), (.t 27, .v (.int .i64 (j : Int))), (.t 6, .sl 2 (eTys (ls.take j).flatten) (some 2)), (.r 2, .rw 100 2 (ls.take j).flatten.length)]) 3 (fun j => ls.length - j) (0) (VS.toA) fun i => ?_
   by_cases hli : i < ls.length
   ·have h4 := lens_take ls i hli
    have h5 := lens_le ls (i + 1)
    have h6 := flat_take ls i hli
    have h7 := lens_flat (ls.take i)
    refine dw_seq ?_; refine dwk [(28, .v (.bool true))] TP1_ok hnt fun K hK => ?_; refine And.intro auT ?_; refine hK _ _ ?_; clear hK K; refine dw_seq ?_; refine dw_cond (t := true) rfl ?_; rw [if_pos rfl]; refine dw_skip ?_; refine dw_seq ?_; refine dw_block ?_; refine dw_seq ?_; refine dwk [(29, .q [.sl 2 (eTys ls[i]) none])] TP1_ok hnt fun K hK => ?_; refine And.intro (⟨by omega, by rw [eTyss_len]; omega⟩) ?_
    refine And.intro (VLe.of_eq (by rw [Int.toNat_natCast, eTyss_getD ls i hli])) ?_; refine hK _ _ ?_; clear hK K; refine dwk [(33, .sl 2 (eTys (ls.take (i + 1)).flatten) (some 2))] TP1_ok hnt fun K hK => ?_; refine And.intro (⟨by rw [eTys_len], by rw [eTys_len, eTys_len, h7]; omega⟩) ?_; refine And.intro (VLe.of_eq (by rw [h6, eTys_append])) ?_; refine hK _ _ ?_; clear hK K; refine dwk [(34, .v (.int .i64 (↑(i + 1))))] TP1_ok hnt fun K hK => ?_
    refine And.intro auI ?_; refine hK _ _ ?_; clear hK K
    have h8 : (eTys (ls.take i).flatten ++ eTys ls[i]).length = (ls.take (i + 1)).flatten.length := by rw [h6, ← eTys_append, eTys_len]
    refine ⟨i + 1, by first | omega | (dsimp only; omega), (by try simp only [List.length_append, List.length_take, List.length_cons, List.length_nil, Nat.zero_add, h8]; exact VS.toA)⟩
   ·have h9 : ls.take i = ls := List.take_of_length_le (by omega)
    rw [h9]
    refine dw_seq ?_; refine dwk [(28, .v (.bool false))] TP1_ok hnt fun K hK => ?_; refine And.intro auF ?_; refine hK _ _ ?_; clear hK K; refine dw_seq ?_; refine dw_cond (t := false) rfl ?_; rw [if_neg (by simp)]; refine dw_exit ?_; refine dw_seq ?_; refine dwk [] TP1_ok hnt fun K hK => ?_; refine hK _ _ ?_; clear hK K; refine dw_ret ?_
    exact reta rfl
end Go.Proofs.Ytdmiekaeodcehaa

namespace Go.Proofs.Ytdmiekaeodcehaa
open Go.RowKit

theorem cut_none (m : Mp) : (m.cut (fun _ => false) noR).le m00 := ⟨fun k b h => by simp [Mp.cut] at h, fun g R h => by simp [Mp.cut, noR] at h, fun k b h => by simp [Mp.cut] at h⟩
theorem entry0 {cx : Cx} {Fr : Nat → Prop} {m : Mp} {Im : Nat → Nat → Prop} {w : World} {vs : List Value} {args : List D} (hm : MemOk cx Fr m Im w) (hr : RelL m Im w vs args) (ha : args.all (fun d => d.ok (fun _ => false) noR) = true) (nt : Nat) (hnt : args.length ≤ nt) {n : Nat} (hn : n = nt) :
    ∃ cx' : Cx, cx'.nt = nt ∧ cx'.n0 = 0 ∧ cx'.w0 = w ∧ (∀ b, ¬ cx'.C b) ∧ cx'.Im0 = Im ∧ St cx' (fun k => 0 ≤ k) m00 Im w { tmps := vs.toArray ++ Array.replicate (n - vs.toArray.size) undef, defers := [] } (argsT 0 args []) := by
  subst hn
  have hvl : vs.length = args.length := (relL_iff.1 hr).1
  refine ⟨{ w0 := w, C := fun _ => False, Im0 := Im, m0 := m00, nt := n, n0 := 0, h0 := (fun k b hk => by cases hk), h0o := (fun k b hk => by cases hk) }, rfl, rfl, rfl, fun _ h => h, rfl, ?_⟩
  refine ⟨{
    off := Off.refl _ _, im := hm.im, imb := fun b o h => .inl h, im0 := fun b o h => h
    own := fun k b hk => by cases hk
    lt := fun k b hk => by cases hk
    free := fun k b o hk => by cases hk
    nim := fun k b o hk => by cases hk
    inj := fun k k' b hk => by cases hk
    row := fun g R hg => by cases hg
    k0 := KeepI.refl _ _
    rown := fun g R b hg => by cases hg
    m0r := fun g R hg => by cases hg
    rIm := fun g R b o hg => by cases hg
    rblk := fun g R b k hg => by cases hg
    rinj := fun g g' R R' b hg => by cases hg
    fr := fun k hk => ⟨rfl, rfl, rfl⟩
    m0 := fun k b hk => by cases hk
    m0o := fun k b hk => by cases hk
    oown := fun k b hk => by cases hk
    olt := fun k b hk => by cases hk
    onim := fun k b o hk => by cases hk
    oinj := fun k k' b hk => by cases hk
    oblk := fun k k' b hk => by cases hk
    orow := fun k g R b hk => by cases hk
    dis := fun k b hk => by cases hk }, rfl, by simp [hvl]; omega, fun x d hx => ?_, fun k off d hx => ?_, fun g d hx => ?_, fun d hx => ?_, fun k d hx => ?_⟩
  · rcases get_argsT args 0 x hx with ⟨j, h1, h2⟩ | hx
    · have hj : j < args.length := by
        rcases Nat.lt_or_ge j args.length with h' | h'
        · exact h'
        · rw [List.getElem?_eq_none h'] at h2; cases h2
      rw [List.getElem?_eq_getElem hj] at h2
      cases h2
      have hr := (relL_iff.1 hr).2 j hj
      have hx' : x = j := by omega
      subst hx'
      have : (vs.toArray ++ Array.replicate (n - vs.toArray.size) undef).getD x undef = vs.getD x undef := by
        have hx2 : x < vs.length := by omega
        rw [Array.getD_eq_getD_getElem?, Array.getElem?_append_left (by simpa using hx2), List.getD_eq_getElem?_getD]
        simp
      show Rel _ _ _ ((vs.toArray ++ Array.replicate (n - vs.toArray.size) undef).getD x undef) _
      rw [this]
      exact (hr.cut (List.all_eq_true.1 ha _ (List.getElem_mem hj))).mono (cut_none m) (KeepI.refl _ _) fun _ _ h => h
    · cases hx
  · rw [get_argsN (fun x => by simp) args 0] at hx; cases hx
  · rw [get_argsN (fun x => by simp) args 0] at hx; cases hx
  · rw [get_argsN (fun x => by simp) args 0] at hx; cases hx
  · rw [get_argsN (fun x => by simp) args 0] at hx; cases hx
def eMp (l : List (Int × Value)) : List (Int × D) := l.map fun p => (p.1, .v p.2)
theorem callMap_of_dw {P : Program} {T : List (Nat × TI)} {f : FuncId} {fn : Func} {c : Code} {args : List D} {l : List (Int × Value)} {x : Value} (nt : Nat) (rs : List ResultVar) (hT : TabOk P T) (hen : entersB P f = true) (hf : P.funcs[f]? = some fn) (hb : fn.body = some c) (hnt : fn.ntmps = nt) (hrs : fn.results.toList = rs)
    (hal : args.length ≤ nt) (ha : args.all (fun d => d.ok (fun _ => false) noR) = true)
    (h : ∀ cx : Cx, cx.nt = nt → cx.n0 = 0 → DW P cx c (argsT 0 args []) 0 (fun e σ _ => (e = .normal ∨ e = .ret) ∧ ∃ k, resD T σ rs = some (.tu [.mo k, .v x]) ∧ get σ (.o k) = some (.mp (eMp l)))) (nm : Nat) :
    CallN P f args [] nm [(.o nm, .mp (eMp l))] (.tu [.mo nm, .v x]) := by
  refine ⟨hen, fun cx Fr m Im w a σ vs hnm hs hargs _ => ?_⟩
  refine calls_of_wp hf hb ?_
  obtain ⟨cx', c1, c2, c3, c4, c5, hst⟩ := entry0 hs.mem hargs ha nt hal hnt
  refine Code.wp_mono (fun e a' w' ⟨σ', N', m', Im', ⟨hq1, k, hq2, hq3⟩, hs'⟩ => ?_) (h cx' c1 c2 _ Im w _ hst)
  obtain ⟨v, r1, r2⟩ := resD_run (P := P) (fn := fn) hT hs' (by rw [hrs]; exact hq2)
  have hbl : Below w.heap.size w w' := by
    have ho := hs'.mem.off
    rw [c3] at ho
    exact ⟨ho.os, ho.tape, ho.output, ho.size, fun b hb => ho.block b hb (c4 b)⟩
  obtain ⟨b, hb1, hb2⟩ := hs'.ok k _ hq3
  have hbB : w.heap.size ≤ b := by
    rcases hs'.mem.oown k b hb1 with h1 | h1
    · exact absurd h1 (c4 b)
    · rw [c3] at h1; exact h1
  have hOb : ∀ m', ObOk m' Im w' b (.mp (eMp l)) := fun m2 => by
    cases hb2 with
    | mp es clock l' h1 h2 h3 h4 hbn =>
      refine .mp es clock _ h1 h2 h3 (fun i hi v hv => ?_) hbn
      have h5 := h4 i hi v hv
      have e : (eMp l)[i].2 = .v (l[i]'(by simpa [eMp] using hi)).2 := by simp [eMp]
      rw [e] at h5 ⊢
      have := rel_v.1 h5; subst this
      exact .v _
  obtain ⟨s1, s2⟩ := hs.newObjB hnm hbl hbB (hs'.mem.olt k b hb1) hOb
  have hfin : ∃ v' m2 Im2, Ending.returned v = .returned v' ∧ St cx (minus Fr nm) m2 Im2 w' a (puts (dropT [] σ) [(.o nm, .mp (eMp l))]) ∧ Rel m2 Im2 w' v' (.tu [.mo nm, .v x]) := by
    rw [dropT_nil]
    refine ⟨v, _, Im, rfl, s1, ?_⟩
    obtain ⟨cs, rfl, hc⟩ := rel_tu.1 r2
    match cs, hc with
    | [u, y], hc =>
      have hy := rel_v.1 hc.2.1; subst hy
      cases hc.1 with
      | mo _ b' hb' =>
        rw [hb1] at hb'; cases hb'
        exact rel_tu.2 ⟨_, rfl, .mo nm b (by simp [Mp.setO]), .v _, trivial⟩
  rcases hq1 with rfl | rfl
  · exact ⟨hs'.df, v, r1, hfin⟩
  · exact ⟨hs'.df, v, r1, hfin⟩
end Go.Proofs.Ytdmiekaeodcehaa

namespace Go.Proofs.Ytdmiekaeodcehaa
open Go.RowKit

theorem full_mem {l : List Tm} {t : Tm} (h : t ∈ l) : t.full ≤ Tm.fulls l := by
  induction l with
  | nil => cases h
  | cons u l ih =>
    simp only [Tm.fulls]
    rcases List.mem_cons.1 h with rfl | h
    · omega
    · have := ih h; omega
theorem fulls_len (l : List Tm) : l.length ≤ Tm.fulls l := by
  induction l with
  | nil => simp
  | cons u l ih => have : 1 ≤ u.full := by obtain ⟨b, k, i, a⟩ := u; rw [Tm.full_eq]; omega
                   simp only [Tm.fulls, List.length_cons]; omega
theorem full_args (t : Tm) : t.full = Ty.sizes t.binds + Tm.fulls t.args + 1 := by obtain ⟨b, k, i, a⟩ := t; exact Tm.full_eq ..
theorem fit_args {t : Tm} (h : t.Fit) : ∀ u ∈ t.args, u.Fit := by obtain ⟨b, k, i, a⟩ := t; exact (Tm.fit_iff.1 h).2.2

theorem pflex_d (t : Tm) : PureC Try.prog 119 [.ag (eTm t)] (.v (.bool (decide (t.kind = 2)))) := by
 rw [eTm_eq]
 refine calldw 0 7 [ResultVar.tmp 2] TP1_ok Try.func119 rfl Try.ntmps119 rfl fun cx hnt hn0 => ?_
 ·skip
  refine dw_seq ?_; refine dwk [] TP1_ok hnt fun K hK => ?_; refine hK _ _ ?_; clear hK K; refine dw_seq ?_; refine dwk [(6, .v (.bool (decide (t.kind = 2))))] TP1_ok hnt fun K hK => ?_; refine And.intro (VLe.refl _) ?_; refine hK _ _ ?_; clear hK K; refine dw_ret ?_
  exact reta rfl

namespace Pn
theorem varsL_snoc (n : Int) : ∀ (l : List Tm) (a : Tm) (acc : List Int), varsL n (l ++ [a]) acc = (varsL n l acc).bind fun r => if isVar n r a then some (r ++ [a.headIx]) else none
  | [], a, acc => by simp [varsL]
  | b :: l, a, acc => by
    rw [List.cons_append, varsL, varsL]
    split
    · exact varsL_snoc n l a _
    · rfl
theorem varsL_take (n : Int) (l : List Tm) (j : Nat) (h : j < l.length) {acc : List Int} (hv : varsL n (l.take j) [] = some acc) : varsL n (l.take (j + 1)) [] = if isVar n acc l[j] then some (acc ++ [l[j].headIx]) else none := by
  rw [List.take_add_one, List.getElem?_eq_getElem h]
  show varsL n (l.take j ++ [l[j]]) [] = _
  rw [varsL_snoc, hv]; rfl
theorem varsL_app (n : Int) : ∀ (l r : List Tm) (acc : List Int), varsL n (l ++ r) acc = (varsL n l acc).bind fun x => varsL n r x
  | [], r, acc => rfl
  | b :: l, r, acc => by
    rw [List.cons_append, varsL, varsL]
    split
    · exact varsL_app n l r _
    · rfl
theorem varsL_none (n : Int) (l : List Tm) (j : Nat) (h : varsL n (l.take j) [] = none) : varsL n l [] = none := by
  rw [← List.take_append_drop j l, varsL_app, h]; rfl
theorem varsL_len (n : Int) : ∀ (l : List Tm) (acc r : List Int), varsL n l acc = some r → r.length = acc.length + l.length
  | [], acc, r, h => by cases h; simp
  | b :: l, acc, r, h => by
    rw [varsL] at h
    split at h
    · have := varsL_len n l _ _ h
      simp at this ⊢; omega
    · cases h
end Pn
def eMet (l : List Int) : List (Int × D) := l.map fun i => (i, .v (.bool true))
theorem okm_map {f g : Nat → Bool} {α : Type} (e : α → Int × D) (l : List α) (h : ∀ x ∈ l, (e x).2.ok f g = true) : D.okm f g (l.map e) = true := by
  induction l with
  | nil => rfl
  | cons x l ih =>
    have h1 := h x (by simp)
    have h2 := ih fun y hy => h y (by simp [hy])
    simp only [List.map_cons]
    generalize e x = p at h1 ⊢
    obtain ⟨i, d⟩ := p
    simp only [D.okm, Bool.and_eq_true]; exact ⟨h1, h2⟩
@[simp] theorem eMet_ok (f g : Nat → Bool) (l : List Int) : D.okm f g (eMet l) = true := okm_map _ l fun _ _ => rfl
theorem eMet_find (l : List Int) (x : Int) : (mfind (eMet l) x).getD (.v (.bool false)) = .v (.bool (l.contains x)) := by
  induction l with
  | nil => rfl
  | cons i l ih =>
    show (if x = i then some _ else mfind (eMet l) x).getD _ = _
    by_cases h : x = i
    · simp [h]
    · rw [if_neg h, ih]; simp [h]
theorem eMet_put (l : List Int) (x : Int) (h : l.contains x = false) : mput (eMet l) x (.v (.bool true)) = eMet (l ++ [x]) := by
  induction l with
  | nil => rfl
  | cons i l ih =>
    simp at h
    show (if x = i then _ else _ :: mput (eMet l) x _) = _
    rw [if_neg h.1, ih (by simp [h.2])]; rfl
set_option maxHeartbeats 2000000 in
theorem pvars_d (t : Tm) (n : Int) (hz : t.full ≤ 100000) (hf : t.Fit) : PureC Try.prog 154 [.ag (eTm t), .v (.int .i64 n)] (.tu [.sl 1 (eIs (Pn.vars t n).1) none, .v (.int .i64 (Pn.vars t n).2)]) := by
 have hfl := pflex_d t
 have hz2 := full_args t
 have hz3 := fulls_len t.args
 rw [eTm_eq] at hfl ⊢
 refine calldw 0 61 [ResultVar.tmp 4, ResultVar.tmp 5] TP1_ok Try.func154 rfl Try.ntmps154 rfl fun cx hnt hn0 => ?_
 ·skip
  refine dw_seq ?_; refine dwk [] TP1_ok hnt fun K hK => ?_; refine hK _ _ ?_; clear hK K
  by_cases hk : t.kind = 2
  ·rw [decide_eq_true hk] at hfl
   by_cases hn : n < 0
   ·have hv : Pn.vars t n = ([], 1) := by unfold Pn.vars; rw [if_pos (.inr hn)]
    rw [hv]
    refine dw_seq ?_; refine dw_seq ?_; refine dwk [(17, .v (.bool true))] TP1_ok hnt fun K hK => ?_; refine dcl (hfl) ?_; refine And.intro auT ?_; refine hK _ _ ?_; clear hK K; refine dw_cond (t := true) rfl ?_; rw [if_pos rfl]; refine dw_seq ?_; refine dwk [] TP1_ok hnt fun K hK => ?_; refine hK _ _ ?_; clear hK K; refine dw_ret ?_
    exact reta rfl
   ·have hv : Pn.vars t n = match Pn.varsL n t.args [] with | some l => (l, 0) | none => ([], 6) := by unfold Pn.vars; exact if_neg (by simp [hk]; omega)
    refine dw_seq ?_; refine dw_seq ?_; refine dwk [(17, .v (.bool false))] TP1_ok hnt fun K hK => ?_; refine dcl (hfl) ?_; refine And.intro auF ?_; refine hK _ _ ?_; clear hK K; refine dw_cond (t := false) rfl ?_; rw [if_neg (by simp)]; refine dw_skip ?_; refine dw_seq ?_; refine dwk [] TP1_ok hnt fun K hK => ?_; refine hK _ _ ?_; clear hK K; refine dw_seq ?_; refine dwk [] TP1_ok hnt fun K hK => ?_; refine hK _ _ ?_; clear hK K
    refine dw_seq ?_; refine dw_seq ?_; refine dwk [(22, .v (.int .i64 (↑t.args.length)))] TP1_ok hnt fun K hK => ?_; refine And.intro (dintE (by rw [eTms_len])) ?_; refine hK _ _ ?_; clear hK K; refine dw_block ?_
    refine dw_loop (ι := { p : Nat × List Int // Pn.varsL n (t.args.take p.1) [] = some p.2 }) (fun p => [(.t 1, .v (.int .i64 n)), (.t 6, .mo 10), (.t 7, .sl 1 (eIs p.1.2) (some 17)), (.t 21, .sl 4 (eTms t.args) none), (.t 22, .v (.int .i64 ↑t.args.length)), (.t 23, .v (.int .i64 ↑p.1.1)), (.r 17, .rw 3 1 p.1.2.length), (.o 10, .mp (eMet p.1.2))]) 18 (fun p => t.args.length - p.1.1) (⟨(0, []), rfl⟩) ((VS.trans (VS.rowT (x := 7) (by rw [hnt]; decide) 3 1 rfl) VS.toA)) fun p => ?_
    obtain ⟨⟨j, acc⟩, hp⟩ := p
    dsimp only at hp ⊢
    by_cases hlt : j < t.args.length
    ·have hst := Pn.varsL_take n t.args j hlt hp
     have hal := Pn.varsL_len n _ _ _ hp
     rw [List.length_take, List.length_nil] at hal
     have hmem := List.getElem_mem hlt
     have hva := var_d t.args[j] (by have := full_mem hmem; omega) (fit_args hf _ hmem)
     unfold varV at hva
     rw [eTm_eq] at hva
     have hno : Pn.isVar n acc t.args[j] = false → Pn.vars t n = ([], 6) := fun h => by
      rw [hv, Pn.varsL_none n t.args (j + 1) (by rw [hst, h]; rfl)]
     unfold Pn.isVar at hno hst
     refine dw_seq ?_; refine dwk [(24, .v (.bool true))] TP1_ok hnt fun K hK => ?_; refine And.intro auT ?_; refine hK _ _ ?_; clear hK K; refine dw_seq ?_; refine dw_cond (t := true) rfl ?_; rw [if_pos rfl]; refine dw_skip ?_; refine dw_seq ?_; refine dw_block ?_; refine dw_seq ?_; refine dwk [(25, .q [.sl 2 (eTys t.args[j].binds) none, .v (.int .i64 t.args[j].kind), .v (.int .i64 t.args[j].index), .sl 4 (eTms t.args[j].args) none])] TP1_ok hnt fun K hK => ?_
     refine And.intro (elo (eTms_len t.args)) ?_; refine And.intro (elv (eTms_getD t.args j) (eTm_eq _)) ?_; refine hK _ _ ?_; clear hK K
     cases h1 : longB t.args[j] with
     | false =>
      rw [hno (by simp [h1])]
      rw [h1] at hva
      refine dw_seq ?_; refine dwk [] TP1_ok hnt fun K hK => ?_; refine dcl (hva) ?_; refine hK _ _ ?_; clear hK K; refine dw_seq ?_; refine dw_seq ?_; refine dwk [] TP1_ok hnt fun K hK => ?_; refine hK _ _ ?_; clear hK K; refine dw_cond (t := true) rfl ?_; rw [if_pos rfl]; refine dw_seq ?_; refine dwk [] TP1_ok hnt fun K hK => ?_; refine hK _ _ ?_; clear hK K; refine dw_ret ?_
      exact reta rfl
     | true =>
      rw [h1, if_pos rfl, if_pos rfl] at hva
      refine dw_seq ?_; refine dwk [] TP1_ok hnt fun K hK => ?_; refine dcl (hva) ?_; refine hK _ _ ?_; clear hK K
      by_cases h2 : t.args[j].kind = 0
      ·by_cases h3 : t.args[j].headIx < n
       ·have hfi := eMet_find acc t.args[j].headIx
        cases h4 : acc.contains t.args[j].headIx with
        | true =>
         rw [hno (by rw [h1, h4]; simp)]
         rw [h4] at hfi
         refine dw_seq ?_; refine dw_seq ?_; refine dwk [(37, .v (.bool false)), (43, .v (.bool false)), (49, .v (.bool true))] TP1_ok hnt fun K hK => ?_; refine And.intro auF ?_; refine And.intro auF ?_; refine And.intro (VLe.of_eq hfi) ?_; refine hK _ _ ?_; clear hK K; refine dw_cond (t := true) rfl ?_; rw [if_pos rfl]; refine dw_seq ?_; refine dwk [] TP1_ok hnt fun K hK => ?_; refine hK _ _ ?_; clear hK K
         refine dw_ret ?_
         exact reta rfl
        | false =>
         rw [h4] at hfi
         have hpu := eMet_put acc _ h4
         rw [if_pos (by simp only [h1, h2, h3, h4]; rfl)] at hst; refine dw_seq ?_; refine dw_seq ?_; refine dwk [(37, .v (.bool false)), (43, .v (.bool false)), (49, .v (.bool false))] TP1_ok hnt fun K hK => ?_; refine And.intro auF ?_; refine And.intro auF ?_; refine And.intro (VLe.of_eq hfi) ?_; refine hK _ _ ?_; clear hK K; refine dw_cond (t := false) rfl ?_; rw [if_neg (by simp)]; refine dw_skip ?_; refine dw_seq ?_
         refine dwk [] TP1_ok hnt fun K hK => ?_; refine hK _ _ ?_; clear hK K; refine dwk [(58, .sl 1 (eIs (acc ++ [t.args[j].headIx])) (some 17))] TP1_ok hnt fun K hK => ?_; refine And.intro (⟨by rw [eIs_len], by rw [eIs_len]; simp; omega⟩) ?_; refine And.intro (VLe.of_eq (by rw [eIs_append]; rfl)) ?_; refine hK _ _ ?_; clear hK K; refine dwk [(59, .v (.int .i64 (↑(j + 1))))] TP1_ok hnt fun K hK => ?_; refine And.intro auI ?_
         refine hK _ _ ?_; clear hK K
         have hl5 : (eIs acc).length = acc.length := eIs_len acc
         refine ⟨⟨(j + 1, acc ++ [t.args[j].headIx]), hst⟩, by first | omega | (dsimp only; omega), (by try simp only [List.length_append, List.length_take, List.length_cons, List.length_nil, Nat.zero_add, hpu, hl5]; exact VS.toA)⟩
       ·rw [hno (by rw [h1, h2, decide_eq_false h3]; simp)]
        refine dw_seq ?_; refine dw_seq ?_; refine dwk [(37, .v (.bool false)), (43, .v (.bool true))] TP1_ok hnt fun K hK => ?_; refine And.intro auF ?_; refine And.intro auT ?_; refine hK _ _ ?_; clear hK K; refine dw_cond (t := true) rfl ?_; rw [if_pos rfl]; refine dw_seq ?_; refine dwk [] TP1_ok hnt fun K hK => ?_; refine hK _ _ ?_; clear hK K; refine dw_ret ?_
        exact reta rfl
      ·rw [hno (by rw [h1, decide_eq_false h2]; simp)]
       refine dw_seq ?_; refine dw_seq ?_; refine dwk [(37, .v (.bool true))] TP1_ok hnt fun K hK => ?_; refine And.intro auT ?_; refine hK _ _ ?_; clear hK K; refine dw_cond (t := true) rfl ?_; rw [if_pos rfl]; refine dw_seq ?_; refine dwk [] TP1_ok hnt fun K hK => ?_; refine hK _ _ ?_; clear hK K; refine dw_ret ?_
       exact reta rfl
    ·rw [List.take_of_length_le (by omega)] at hp
     rw [hv, hp]
     refine dw_seq ?_; refine dwk [(24, .v (.bool false))] TP1_ok hnt fun K hK => ?_; refine And.intro auF ?_; refine hK _ _ ?_; clear hK K; refine dw_seq ?_; refine dw_cond (t := false) rfl ?_; rw [if_neg (by simp)]; refine dw_exit ?_; refine dw_seq ?_; refine dwk [] TP1_ok hnt fun K hK => ?_; refine hK _ _ ?_; clear hK K; refine dw_ret ?_
     exact reta rfl
  ·have hv : Pn.vars t n = ([], 1) := by unfold Pn.vars; rw [if_pos (.inl hk)]
   rw [hv]
   rw [decide_eq_false hk] at hfl
   refine dw_seq ?_; refine dw_seq ?_; refine dwk [] TP1_ok hnt fun K hK => ?_; refine dcl (hfl) ?_; refine hK _ _ ?_; clear hK K; refine dw_cond (t := true) rfl ?_; rw [if_pos rfl]; refine dw_seq ?_; refine dwk [] TP1_ok hnt fun K hK => ?_; refine hK _ _ ?_; clear hK K; refine dw_ret ?_
   exact reta rfl
end Go.Proofs.Ytdmiekaeodcehaa

