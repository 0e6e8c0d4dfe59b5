/-
  Loops over an iterator that writes cells of its own between two rounds. term.each: all terms within, each ahead of its arguments: what the iterator hands to a loop's body. term.Size, term.Depth, term.Right, term.Loose: what the loops over all terms within hand back. term.Right. term.Equal, and slices.EqualFunc with it. Contracts of before, as deep ones. Deep contracts, as ones of before. Package norm, walked in the deep way: through. Package norm, walked in the deep way: Put. Package subst, walked in the deep way. The readings of a row's arguments that are pairs, and what was opened, told as deep values. Terms, walked in the deep way: Equal, Eta, Var; the document's Same, Eta, Var. term.Loose. Package pattern, walked in the deep way: what is small. Deep values: a function that hands back a new map. Package pattern, walked in the deep way: Flex, Vars, places, types. Package pattern, walked in the deep way: places, types. The laws' helpers of layers 8 and 9: Low, Of. Package pattern, walked in the deep way: turned, Take. Package pattern, walked in the deep way: Take. Deep values: calls that grow rows of their callers. Package pattern, walked in the deep way: uses, Uses, Is. Deep values: rows that nothing else reads: how they begin, how they are handed on. Sorting that keeps the order of equal keys, in plain words. Places, uses and matching in plain Lean: the document's answer and the program's are one. Package slices' stable sort of pairs, walked in the deep way: insertion, swaps, rotation. Package slices' stable sort of pairs, walked in the deep way: the merge. Package slices' stable sort of pairs, walked in the deep way: the merge of many. Package slices' stable sort of pairs, walked in the deep way: the whole; subst.sorted, subst.Of. Package subst's lists, walked in the deep way: Without, Set, Domain, Get. The document's places and uses, walked in the deep way: All, At, Has, Vars, Uses; loose indexes.
-/
import Derived.RangeFuncWrites
import Derived.Test.YtnpjjkeokcoedaaRowLiftKeepsp1
import Derived.Test.YtnpjjkeokcoedaaRowLiftKeepsp4
set_option maxRecDepth 100000
set_option maxHeartbeats 1000000
set_option linter.unusedVariables false
set_option linter.unusedSimpArgs false
namespace Go.Proofs.Ytnpjjkeokcoedaa
open Go.RowKit

def Mild {β : Type} (Ok : Obj → Prop) (B : Nat) (J : β → World → Prop) : Prop :=
  ∀ s W W' row, J s W → W.grownBy W' row → (∀ r, row = some r → B ≤ r ∧ ∃ o : Obj, W.heap[r]? = some o ∧ Ok o) → J s W'
section
variable {β : Type} {Ok : Obj → Prop} {B : Nat} {I I' : β → World → Prop}
theorem Mild.and (h : Mild Ok B I) (h' : Mild Ok B I') : Mild Ok B (fun s W => I s W ∧ I' s W) := fun s W W' row hs hg hr => ⟨h s W W' row hs.1 hg hr, h' s W W' row hs.2 hg hr⟩
theorem Mild.alloc (h : Mild Ok B I) {s : β} {W : World} (hs : I s W) (o : Obj) : I s (W.alloc o) := h s W _ none hs (World.grownBy_alloc W o none) (fun r e => by cases e)
theorem Mild.put (h : Mild Ok B I) (hOk : ∀ o : Obj, o.isCells = false → Ok o) {s : β} {W : World} (hs : I s W) {l : Nat} {o : Obj} (o' : Obj) (hl : W.heap[l]? = some o) (ho : o.isCells = false) (hB : B ≤ l) : I s (W.putObj l o') :=
  h s W _ _ hs (grownBy_putObj' W l o') (fun r e => by cases e; exact ⟨hB, o, hl, hOk o ho⟩)
theorem Mild.up {B' : Nat} (h : Mild Ok B I) (hB : B ≤ B') : Mild Ok B' I := fun s W W' row hs hg hr => h s W W' row hs hg fun r e => ⟨Nat.le_trans hB (hr r e).1, (hr r e).2⟩
theorem mild_block {k : Nat} {o : Obj} (hk : k < B) : Mild Ok B (fun (_ : β) W => W.heap[k]? = some o) := fun _ W _ row hs hg hr => (hg.block k (Array.getElem?_eq_some_iff.1 hs).1 (fun e => by have := (hr k e.symm).1; omega)).trans hs
theorem mild_below {n0 : Nat} {w0 : World} (hn : n0 ≤ w0.heap.size) (hB : n0 ≤ B) : Mild Ok B (fun (_ : β) W => Below n0 w0 W) := fun _ _ _ _ hs hg hr => hs.grown hg (Nat.le_trans hn hs.size) (fun k e => Nat.le_trans hB (hr k e).1)
end

def SeqSoft {α : Type} (Ok : Obj → Prop) (F : Fence) (n : Nat) (P : Program) (g : Nat) (lb : Array Value) (encs : α → Array Value) (Kp : World → World → Prop) (S Sp : List α → Prop) (N : Nat) (w : World) : Prop :=
  ∀ (l : Nat) (J Jx : List α → World → Prop) (W : World), Below w.heap.size w W → Mild Ok W.heap.size J → Mild Ok W.heap.size Jx →
    (∀ pre x V, J pre V → pre.length < N → YieldAt F (n - 1) P l (encs x) V fun e V' => (e = .returned (.bool true) ∧ J (pre ++ [x]) V' ∧ Kp V V') ∨ (e = .returned (.bool false) ∧ Jx (pre ++ [x]) V')) →
    J [] W → CallsIn F n P g (#[.func (.yield l) #[] #[]] ++ lb) W fun e W' => (∃ v, e = .returned v) ∧ ((∃ xs, S xs ∧ J xs W') ∨ (∃ pre, Sp pre ∧ Jx pre W'))

theorem range_softA {Ok : Obj → Prop} (hOk : ∀ o : Obj, o.isCells = false → Ok o) {F : Fence} {n : Nat} {P : Program} {α : Type} {g : Operand} {ps : Array Tmp} {assign body : Code} {Q : Exit → Act → World → Prop} {a : Act} {w : World}
    (hro : F.round = none) (hn : 1 ≤ n) {gf : Nat} {lb : Array Value} (hg : a.eval g = .func (.func gf) #[] lb) (hF : F.fn gf) (eg : ∀ args w, (callFunc gf args).run P w = .ok (.enter gf args) w)
    {encs : α → Array Value} {Kp : World → World → Prop} {S Sp : List α → Prop} {N : Nat} {w0 : World} (hseq : SeqSoft Ok F (n - 1) P gf lb encs Kp S Sp N w0)
    (hKt : ∀ {X Y Z : World}, Kp X Y → Kp Y Z → Kp X Z) (hKb : ∀ (W : World) (l : Nat) (o o' : Obj), w.heap.size ≤ l → W.heap[l]? = some o → o.isCells = false → o.isWalk = false → Kp W (W.putObj l o')) (hw0 : Below w0.heap.size w0 w) (hps : ∀ x, (encs x).size = ps.size)
    (I : List α → World → Prop) (Ix : Code → List α → World → Prop) (hI : Mild Ok w.heap.size I) (hIx : ∀ c, Mild Ok w.heap.size (Ix c)) (h0 : I [] w) (Ra : α → Act → World → Prop) (hRa : ∀ x a' W l (o o' : Obj), w.heap.size ≤ l → W.heap[l]? = some o → o.isCells = false → Ra x a' W → Ra x a' (W.putObj l o'))
    (hassign : ∀ (l : Nat) (pre : List α) (x : α) (W : World) (K : Act → World → Prop), I pre W → (∀ a' W', KeepsFrom w.heap.size W W' → Kp W W' → I pre W' → Ra x a' W' → K a' W') →
      assign.wpIn (F.inRound l) (n - 1 - 1) P (Exit.then K (fun _ _ _ => False)) { tmps := (ps.zip (encs x)).foldl (fun t (p, v) => t.setIfInBounds p v) a.tmps, defers := [] } W)
    (hbody : ∀ (l : Nat) (pre : List α) (x : α) (a' : Act) (W : World), I pre W → pre.length < N → Ra x a' W → body.wpIn (F.inRound l) (n - 1 - 1) P (ownPostG w.heap.size Kp I Ix (pre ++ [x]) W) a' W)
    (hdone : ∀ (D : Nat) (xs : List α) (W : World), w.heap.size ≤ D → S xs → I xs W → W.heap[D]? = some (.deferred (some [])) → Q .normal { a with defers := { target := .collected D, args := #[] } :: a.defers } W)
    (hstop : ∀ (D : Nat) (c : Code) (pre : List α) (W : World), w.heap.size ≤ D → Sp pre → Ix c pre W → W.heap[D]? = some (.deferred (some [])) → c.wpIn F n P Q { a with defers := { target := .collected D, args := #[] } :: a.defers } W) :
    (Code.rangeFunc g ps assign body).wpIn F n P Q a w := by
  refine wpIn_rangeFunc fun fn hfn => ?_
  rw [hro]
  let L : LoopState → Option Code → Obj := fun st pe => .loop { state := st, pending := pe, fn, tmps := a.tmps, params := ps, assign, body, defers := w.heap.size }
  let D : Obj := .deferred (some [])
  obtain ⟨W1, hW1⟩ : ∃ W1, (w.alloc D).alloc (L .ready none) = W1 := ⟨_, rfl⟩
  have hz : W1.heap.size = w.heap.size + 2 := by rw [← hW1]; simp
  have hL : W1.heap[w.heap.size + 1]? = some (L .ready none) := by rw [← hW1]; have h := World.alloc_heap_new (w.alloc D) (L .ready none); rwa [World.size_alloc] at h
  have hD : W1.heap[w.heap.size]? = some D := by rw [← hW1]; exact (Below.heap_alloc _ _ _ (by simp)).trans (World.alloc_heap_new w D)
  refine ⟨w.heap.size + 1, [{ target := .collected w.heap.size, args := #[] }], W1, { target := .fn (.func gf) lb, args := #[.func (.yield (w.heap.size + 1)) #[] #[]] }, W1, gf,
    #[.func (.yield (w.heap.size + 1)) #[] #[]] ++ lb, W1, by rw [← hW1]; exact run_enterLoop_outer _ _ _ _ _, by simp only [resolve, hg]; simp [go_sem], ?_, by simp [invoke, go_sem, eg], fun _ => hn, ?_⟩
  · intro f' hf'; simp [Target.leads] at hf'; subst hf'; exact hF
  have up : ∀ {β : Type} {J : β → World → Prop}, Mild Ok w.heap.size J → Mild Ok W1.heap.size J := fun h => h.up (by omega)
  have m1 : ∀ (o : Obj), Mild Ok W1.heap.size (fun (_ : List α) W => W.heap[w.heap.size + 1]? = some o) := fun o => mild_block (by omega)
  have m0 : Mild Ok W1.heap.size (fun (_ : List α) W => W.heap[w.heap.size]? = some D) := mild_block (by omega)
  refine (hseq (w.heap.size + 1)
    (fun pre W => I pre W ∧ W.heap[w.heap.size + 1]? = some (L .ready none) ∧ W.heap[w.heap.size]? = some D)
    (fun pre W => ∃ c, Ix c pre W ∧ W.heap[w.heap.size + 1]? = some (L .done (some c)) ∧ W.heap[w.heap.size]? = some D) W1
    (by rw [← hW1]; exact hw0.trans ((((Below.refl _ w).alloc (Nat.le_refl _) _).alloc (by simp) _).mono hw0.size))
    ((up hI).and ((m1 _).and m0)) (fun s A B row ⟨c, h1, h2, h3⟩ hgr hr => ⟨c, up (hIx c) s A B row h1 hgr hr, m1 _ s A B row h2 hgr hr, m0 s A B row h3 hgr hr⟩)
    ?_ ⟨by rw [← hW1]; exact hI.alloc (hI.alloc h0 _) _, hL, hD⟩).mono ?_
  · -- a round
    rintro pre x V0 ⟨hi0, hl0, hd0⟩ hlen
    refine ⟨fn, _, assign, body, run_yield (P := P) (args := encs x) hl0 (hps x), roundIn_of_wpIn hfn (hassign _ pre x V0 _ hi0 fun a' V hkf hkp0 hi hra => ?_)⟩
    have hl := hkf.same _ _ (by omega) hl0 rfl
    have hd := hkf.same _ _ (Nat.le_refl _) hd0 rfl
    have hlt : w.heap.size + 1 < V.heap.size := (Array.getElem?_eq_some_iff.1 hl).1
    refine ⟨_, run_beginRound hl rfl, ?_⟩
    obtain ⟨V2, hV2⟩ : ∃ V2, V.putObj (w.heap.size + 1) (L .busy none) = V2 := ⟨_, rfl⟩
    have hl2 : V2.heap[w.heap.size + 1]? = some (L .busy none) := by rw [← hV2]; exact World.putObj_heap_same hlt
    have hd2 : V2.heap[w.heap.size]? = some D := by rw [← hV2]; exact (World.putObj_heap_other (by omega)).trans hd
    have hk2 : Kp V0 V2 := by rw [← hV2]; exact hKt hkp0 (hKb _ _ _ _ (by omega) hl rfl rfl)
    have hi2 : I pre V2 := by rw [← hV2]; exact hI.put hOk hi _ hl rfl (by omega)
    have hra2 : Ra x a' V2 := by rw [← hV2]; exact hRa _ _ _ _ _ _ (by omega) hl rfl hra
    show Code.wpIn _ _ _ _ _ _ (V.putObj (w.heap.size + 1) (L .busy none))
    rw [hV2]
    clear hV2 hl hd hi hlt
    refine wpIn_mono (hbody _ pre x a' V2 hi2 hlen hra2) ?_
    have fin : ∀ (jump : Option Code) (V3 : World), KeepsFrom w.heap.size V2 V3 → V3.heap[w.heap.size + 1]? = some (L .busy none) ∧ ∃ V4, V4 = V3.putObj (w.heap.size + 1) (L (if jump.isNone then .ready else .done) jump) ∧
        (Instr.endRound (w.heap.size + 1) jump).run P V3 = .ok (.bool jump.isNone) V4 ∧ V4.heap[w.heap.size + 1]? = some (L (if jump.isNone then .ready else .done) jump) ∧ V4.heap[w.heap.size]? = some D := fun jump V3 hk => by
      have h1 := hk.same _ _ (by omega) hl2 rfl
      exact ⟨h1, _, rfl, run_endRound (P := P) jump h1, World.putObj_heap_same (Array.getElem?_eq_some_iff.1 h1).1, (World.putObj_heap_other (by omega)).trans (hk.same _ _ (Nat.le_refl _) hd2 rfl)⟩
    have out : ∀ (c : Code) (V3 : World), KeepsFrom w.heap.size V2 V3 → Ix c (pre ++ [x]) V3 → ∃ r V4, (Instr.endRound (w.heap.size + 1) (some c)).run P V3 = .ok r V4 ∧ (Ending.returned r = .returned (.bool false) ∧ ∃ c, Ix c (pre ++ [x]) V4 ∧ V4.heap[w.heap.size + 1]? = some (L .done (some c)) ∧ V4.heap[w.heap.size]? = some D) := fun c V3 hk hi => by
      obtain ⟨h3, V4, rfl, hr, h4, h5⟩ := fin (some c) V3 hk
      exact ⟨_, _, hr, rfl, c, (hIx c).put hOk hi _ h3 rfl (by omega), h4, h5⟩
    rintro e a3 V3 hp
    cases e with
    | normal =>
      obtain ⟨hk, hkp, hi⟩ := hp
      obtain ⟨h3, V4, rfl, hr, h4, h5⟩ := fin none V3 hk
      exact ⟨_, _, hr, .inl ⟨rfl, ⟨hI.put hOk hi _ h3 rfl (by omega), h4, h5⟩, hKt (hKt hk2 hkp) (hKb _ _ _ _ (by omega) h3 rfl rfl)⟩⟩
    | ret => obtain ⟨r, V4, hr, h⟩ := out .ret V3 hp.1 hp.2; exact ⟨r, V4, hr, .inr h⟩
    | exit id => obtain ⟨r, V4, hr, h⟩ := out (.exit id) V3 hp.1 hp.2; exact ⟨r, V4, hr, .inr h⟩
    | goto t => obtain ⟨r, V4, hr, h⟩ := out (.goto t) V3 hp.1 hp.2; exact ⟨r, V4, hr, .inr h⟩
    | panic ch => exact hp.elim
    | outgrown => exact hp.elim
  · -- behind the iterator
    rintro e W2 ⟨⟨v, rfl⟩, ⟨xs, hS, hi, hl, hd⟩ | ⟨pre, hSp, c, hi, hl, hd⟩⟩
    · exact ⟨none, _, run_endLoop (P := P) hl (by simp), hdone _ xs _ (Nat.le_refl _) hS (hI.put hOk hi _ hl rfl (by omega)) ((World.putObj_heap_other (by omega)).trans hd)⟩
    · exact ⟨some c, _, run_endLoop (P := P) hl (by simp), hstop _ c pre _ (Nat.le_refl _) hSp ((hIx c).put hOk hi _ hl rfl (by omega)) ((World.putObj_heap_other (by omega)).trans hd)⟩
end Go.Proofs.Ytnpjjkeokcoedaa

namespace Go.Proofs.Ytnpjjkeokcoedaa
open Go.RowKit Go.Shelf
attribute [local go_sem] Oper.semAt_some

namespace Tm
mutual
def pre : Tm → Nat → Nat → List (Nat × Nat × Tm)
  | .mk b k i a, s, d => (s + b.length, d, .mk b k i a) :: pres a (s + b.length) (d + 1)
def pres : List Tm → Nat → Nat → List (Nat × Nat × Tm)
  | [], _, _ => []
  | t :: l, s, d => pre t s d ++ pres l s d
end
theorem pre_eq (b : List Ty) (k i : Int) (a : List Tm) (s d : Nat) : pre (.mk b k i a) s d = (s + b.length, d, .mk b k i a) :: pres a (s + b.length) (d + 1) := by rw [pre]
theorem pres_append (l r : List Tm) (s d : Nat) : pres (l ++ r) s d = pres l s d ++ pres r s d := by
  induction l with
  | nil => simp [pres]
  | cons t l ih => simp [pres, ih]
theorem pres_take (l : List Tm) (i s d : Nat) (h : i < l.length) : pres (l.take (i + 1)) s d = pres (l.take i) s d ++ pre l[i] s d := by
  rw [List.take_succ_eq_append_getElem h, pres_append]; simp [pres]
theorem pres_take_le (l : List Tm) (i s d : Nat) : pres (l.take i) s d <+: pres l s d := by
  conv => rhs; rw [← List.take_append_drop i l]
  rw [pres_append]; exact List.prefix_append _ _
theorem pres_length_of {l : List Tm} (h : ∀ t ∈ l, ∀ s d, (pre t s d).length = t.size) : ∀ s d, (pres l s d).length = sizes l := by
  induction l with
  | nil => intro s d; simp [pres, sizes]
  | cons t l ih => intro s d; simp [pres, sizes, h t (by simp) s d, ih (fun u hu => h u (by simp [hu])) s d]
theorem pre_length (t : Tm) : ∀ s d, (pre t s d).length = t.size := by
  induction t using Tm.ind with
  | h b k i a ih => intro s d; simp [pre_eq, size_eq, pres_length_of ih]
theorem pres_length (l : List Tm) (s d : Nat) : (pres l s d).length = sizes l := pres_length_of (fun t _ => pre_length t) s d
end Tm

structure Hit6 (F : Nat → Prop) (w : World) where
  s : Nat
  d : Nat
  pb : Option Addr
  cb : Nat
  pa : Option Addr
  ca : Nat
  t : Tm
  ok : IsTm F w (.slice pb t.binds.length cb) (.int .i64 t.kind) (.int .i64 t.index) (.slice pa t.args.length ca) t
def Hit6.key {F : Nat → Prop} {w : World} (x : Hit6 F w) : Nat × Nat × Tm := (x.s, x.d, x.t)
def Hit6.enc {F : Nat → Prop} {w : World} (x : Hit6 F w) : Array Value := #[.agg #[.int .i64 x.s, .int .i64 x.d], .agg #[.slice x.pb x.t.binds.length x.cb, .int .i64 x.t.kind, .int .i64 x.t.index, .slice x.pa x.t.args.length x.ca]]

def DownPost6 {F : Nat → Prop} {w0 : World} (G : Nat → TypeId → Prop) (J Jx : List (Hit6 F w0) → World → Prop) (pre : List (Hit6 F w0)) (l : List (Nat × Nat × Tm)) (W : World) (e : Ending) (W' : World) : Prop :=
  (e = .returned (.bool true) ∧ KeepC G W W' ∧ ∃ xs, xs.map Hit6.key = l ∧ J (pre ++ xs) W') ∨ (e = .returned (.bool false) ∧ ∃ xs, xs.map Hit6.key <+: l ∧ Jx (pre ++ xs) W')

def SpotOk (o : Obj) : Prop := o.isCells = false ∨ ∃ cs fr, o = .cells cs 87 fr
theorem KeepC.setNew {G : Nat → TypeId → Prop} {A B : World} (h : KeepC G A B) (p : Addr) (u : Value) (hp : A.heap.size ≤ p.block) : KeepC G A (B.setCell p u) :=
  ⟨by simpa using h.size, fun k cs t fr hk hc => by
    have hlt : k < A.heap.size := (Array.getElem?_eq_some_iff.1 hc).1
    exact (Below.heap_setCell _ _ _ _ (fun e => by omega)).trans (h.cells k cs t fr hk hc)⟩
theorem Mild.setSpot {β : Type} {B : Nat} {J : β → World → Prop} (h : Mild SpotOk B J) {s : β} {W : World} (hs : J s W) {n i : Nat} {cs : Array Value} (u : Value) (hb : Blk W n cs 87) (hB : B ≤ n) : J s (W.setCell ⟨n, i, none⟩ u) :=
  h s W _ (some n) hs ⟨rfl, rfl, rfl, by simp, fun k _ hk => Below.heap_setCell _ _ _ _ (fun e => hk (by rw [e]))⟩ (fun r e => by cases e; exact ⟨hB, _, hb, .inr ⟨_, _, rfl⟩⟩)

set_option maxRecDepth 100000 in
set_option maxHeartbeats 1000000 in
theorem down6_k {F : Nat → Prop} {w0 : World} (G : Nat → TypeId → Prop) (hGF : ∀ k t, F k → k < w0.heap.size → G k t) (l N B0 : Nat) (hN0 : N ≤ 9000000) (J Jx : List (Hit6 F w0) → World → Prop) (hJ : Mild SpotOk B0 J)
    (hY : ∀ m pre x W, J pre W → pre.length < N → YieldAt Fence.wide m Try.prog l (Hit6.enc x) W fun e W' =>
      (e = .returned (.bool true) ∧ J (pre ++ [x]) W' ∧ KeepC G W W') ∨ (e = .returned (.bool false) ∧ Jx (pre ++ [x]) W')) :
    ∀ t : Tm, ∀ {b k i a : Value} (_ : IsTm F w0 b k i a t) (n s d : Nat) (si di : Int) (pre : List (Hit6 F w0)) (W : World), si = s → di = d → (∀ k t, W.heap.size ≤ k → t ≠ 3 → G k t) → B0 ≤ W.heap.size → Keep F w0 W → J pre W → pre.length + t.size ≤ N → d + t.depth ≤ 9000000 → s + t.full ≤ 9000000 →
      CallsIn Fence.wide n Try.prog 55 #[.agg #[b, k, i, a], .agg #[.int .i64 si, .int .i64 di], .func (.yield l) #[] #[]] W (DownPost6 G J Jx pre (t.pre s d) W) := Tm.ind fun binds k0 i0 args ih => by
  intro b k i a ht nn s d si di pre W hsi hdi hG hB0 hw hJ0 hN hd hs
  subst hsi hdi
  obtain ⟨pa, pc, qa, qc, rfl, rfl, rfl, rfl⟩ := ht.shape
  simp only [Tm.binds, Tm.kind, Tm.index, Tm.args] at ht ⊢
  obtain ⟨_, _, _, hsl⟩ := ht.inv
  simp only [Tm.args] at hsl
  obtain ⟨_, hm, bl, off, PA, A, PN, PC, N', C, Kd, Ix, ha, h1, h2, h3, h4, h5⟩ := sl_cells6 hsl
  have hdd : ∀ k : Nat, (Fence.wide.depth.isSome = true → 1 ≤ k) := fun k h => by cases h
  have hlen : args.length ≤ 9000000 := by have := Tm.len_sizes args; rw [Tm.size_eq] at hN; omega
  have hbl : s + binds.length ≤ 9000000 := by have := Ty.le_sizes binds; rw [Tm.full_eq] at hs; omega
  have hq1 : IntKind.i64.wrap ((s : Int) + (binds.length : Int)) = (s : Int) + (binds.length : Int) := IntWalk.i64_in _ (by omega)
  have hdb : (d : Int) ≤ 9000000 := by omega
  have hq2 : IntKind.i64.wrap ((d : Int) + 1) = (d : Int) + 1 := IntWalk.i64_in _ (by omega)
  obtain ⟨W1, hW1⟩ : ∃ W1, (W.alloc (.cells #[.slice pa binds.length pc, .int .i64 k0, .int .i64 i0, .slice qa args.length qc] 43)).alloc (.cells #[.int .i64 ((s : Int) + (binds.length : Int)), .int .i64 d] 87) = W1 := ⟨_, rfl⟩
  have hJ1 : J pre W1 := by rw [← hW1]; exact hJ.alloc (hJ.alloc hJ0 _) _
  have xt : Blk W1 W.heap.size #[.slice pa binds.length pc, .int .i64 k0, .int .i64 i0, .slice qa args.length qc] 43 := by rw [← hW1]; exact (Blk.new _ _ _ rfl).alloc _
  have xs : Blk W1 (W.heap.size + 1) #[.int .i64 ((s : Int) + (binds.length : Int)), .int .i64 d] 87 := by rw [← hW1]; exact Blk.new _ _ _ (by simp)
  have hz1 : W1.heap.size = W.heap.size + 2 := by rw [← hW1]; simp
  have hk0 : KeepC G W W1 := by rw [← hW1]; exact ((KeepC.refl G W).alloc _).alloc _
  obtain ⟨X, hX⟩ : ∃ X : Hit6 F w0, X = ⟨s + binds.length, d, pa, pc, qa, qc, .mk binds k0 i0 args, ht⟩ := ⟨_, rfl⟩
  have hkey : X.key = (s + binds.length, d, .mk binds k0 i0 args) := by rw [hX]; rfl
  obtain ⟨fn, tmps, assign, body, hy, hR⟩ := hY (nn - 1) pre X W1 hJ1 (by have := Tm.size_pos (.mk binds k0 i0 args); omega)
  have henc : X.enc = #[.agg #[.int .i64 ((s : Int) + (binds.length : Int)), .int .i64 d], .agg #[.slice pa binds.length pc, .int .i64 k0, .int .i64 i0, .slice qa args.length qc]] := by rw [hX]; simp [Hit6.enc, Tm.binds, Tm.kind, Tm.index, Tm.args]
  rw [henc] at hy
  clear hX henc ht hsl
  refine callsIn_of_wp Try.func55 rfl trivial ?_ rfl
  simp only [Try.ntmps55, List.size_toArray, List.length_cons, List.length_nil, Nat.reduceAdd, Nat.reduceSub, Array.replicate_succ, Array.replicate_zero, List.push_toArray, List.append_toArray, List.nil_append, List.cons_append]
  have c0 : W1.cell? ⟨W.heap.size, 0, none⟩ = some (.slice pa binds.length pc) := xt.cell rfl
  have c1 : W1.cell? ⟨W.heap.size, 1, none⟩ = some (.int .i64 k0) := xt.cell rfl
  have c2 : W1.cell? ⟨W.heap.size, 2, none⟩ = some (.int .i64 i0) := xt.cell rfl
  have c3 : W1.cell? ⟨W.heap.size, 3, none⟩ = some (.slice qa args.length qc) := xt.cell rfl
  have s0 : W1.cell? ⟨W.heap.size + 1, 0, none⟩ = some (.int .i64 ((s : Int) + (binds.length : Int))) := xs.cell rfl
  have s1 : W1.cell? ⟨W.heap.size + 1, 1, none⟩ = some (.int .i64 d) := xs.cell rfl
  gi_wp2_with fail
  clear hW1
  refine ⟨hdd _, hR.mono ?_⟩
  clear c0 c1 c2 c3 s0 s1
  rintro e W2 (⟨rfl, hJ2, hk1⟩ | ⟨rfl, hx1⟩)
  rotate_left
  · gi_wp2_with fail
    go_ret
    exact .inr ⟨rfl, [X], ⟨Tm.pres args (s + binds.length) (d + 1), by simp [hkey, Tm.pre_eq]⟩, hx1⟩
  have yt : Blk W2 W.heap.size _ _ := hk1.blk xt (hG _ _ (Nat.le_refl _) (by decide))
  have ys : Blk W2 (W.heap.size + 1) _ _ := hk1.blk xs (hG _ _ (by omega) (by decide))
  have c0 : W2.cell? ⟨W.heap.size, 0, none⟩ = some (.slice pa binds.length pc) := yt.cell rfl
  have c1 : W2.cell? ⟨W.heap.size, 1, none⟩ = some (.int .i64 k0) := yt.cell rfl
  have c2 : W2.cell? ⟨W.heap.size, 2, none⟩ = some (.int .i64 i0) := yt.cell rfl
  have c3 : W2.cell? ⟨W.heap.size, 3, none⟩ = some (.slice qa args.length qc) := yt.cell rfl
  have s1 : W2.cell? ⟨W.heap.size + 1, 1, none⟩ = some (.int .i64 d) := ys.cell rfl
  have f1 := ys.free 1
  gi_wp2_with fail
  obtain ⟨W3, hW3⟩ : ∃ W3, W2.setCell ⟨W.heap.size + 1, 1, none⟩ (.int .i64 ((d : Int) + 1)) = W3 := ⟨_, rfl⟩
  have hJ3 : J (pre ++ [X]) W3 := by rw [← hW3]; exact hJ.setSpot hJ2 _ ys (by omega)
  have hk3 : KeepC G W W3 := by rw [← hW3]; exact (hk0.trans hk1).setNew _ _ (by simp)
  have xt3 : Blk W3 W.heap.size #[.slice pa binds.length pc, .int .i64 k0, .int .i64 i0, .slice qa args.length qc] 43 := by rw [← hW3]; exact yt.far _ _ (by simp)
  have xs3 : Blk W3 (W.heap.size + 1) #[.int .i64 ((s : Int) + (binds.length : Int)), .int .i64 ((d : Int) + 1)] 87 := by rw [← hW3]; exact ys.set 1 _
  try rw [hW3]
  clear hW3 c0 c1 c2 c3 s1 f1 hJ2 hk1 yt ys hk0 xt xs hJ1 hR hy hY hz1
  have Hih := Lib.hid ih; clear ih
  have HG := Lib.hid hG; clear hG
  have HN := Lib.hid hN; clear hN
  have Hd := Lib.hid hd; clear hd
  have Hs := Lib.hid hs; clear hs
  gi_loopw [8, 28] (fun _ i wr => ∃ (k : Nat) (xs : List (Hit6 F w0)), i = .int .i64 k ∧ k ≤ args.length ∧ Hid (xs.map Hit6.key = Tm.pres (args.take k) (s + binds.length) (d + 1)) ∧ J (pre ++ [X] ++ xs) wr ∧ KeepC G W wr ∧
      Blk wr W.heap.size #[.slice pa binds.length pc, .int .i64 k0, .int .i64 i0, .slice qa args.length qc] 43 ∧ Blk wr (W.heap.size + 1) #[.int .i64 ((s : Int) + (binds.length : Int)), .int .i64 ((d : Int) + 1)] 87) (fun _ i _ => args.length - (intOf i).toNat)
  case atStart => exact ⟨0, [], rfl, by omega, by simp [Hid, Tm.pres], by simpa using hJ3, hk3, xt3, xs3⟩
  case round =>
    clear hJ3 hk3 xt3 xs3
    obtain ⟨k, xs, rfl, hk, hxs, hJr, hkr, hbt, hbs⟩ := hrel
    have Hkr := Lib.hid hkr
    have HJr := Lib.hid hJr; clear hJr
    have hsz := hkr.size
    have hsb := hbs.lt
    have s0 : wr.cell? ⟨W.heap.size + 1, 0, none⟩ = some (.int .i64 ((s : Int) + (binds.length : Int))) := hbs.cell rfl
    have s1 : wr.cell? ⟨W.heap.size + 1, 1, none⟩ = some (.int .i64 ((d : Int) + 1)) := hbs.cell rfl
    by_cases hlt : k < args.length
    · obtain ⟨rfl, hF⟩ := ha (by omega)
      have hKp : Keep F w0 wr := hkr.keep' hw hGF
      have e1 := hKp _ _ _ hF (h1 k hlt)
      have e2 := hKp _ _ _ hF (h2 k hlt)
      have e3 := hKp _ _ _ hF (h3 k hlt)
      have e4 := hKp _ _ _ hF (h4 k hlt)
      have hs1 := Lib.hid (Tm.sizes_take args k hlt)
      have hs2 := Lib.hid (Tm.sizes_take_le args (k + 1))
      have hl : Hid (xs.length = Tm.sizes (args.take k)) := by
        show _ = _
        have := congrArg List.length hxs.out
        rw [List.length_map] at this
        rw [this, Tm.pres_length]
      have hz : pre.length + 1 + xs.length + args[k].size ≤ N := by have := HN.out; have := hl.out; have := hs1.out; have := hs2.out; rw [Tm.size_eq] at *; omega
      gi_wp2_with fail
      refine ⟨trivial, hdd _, (Hih.out args[k] (List.getElem_mem hlt) (h5 k hlt) (nn - 1) (s + binds.length) (d + 1) ((s : Int) + (binds.length : Int)) ((d : Int) + 1) (pre ++ [X] ++ xs) _ (by omega) (by omega) (fun q t hq ht => HG.out q t (by simp at hq; omega) ht) (by simp; omega) (hKp.alloc _) (hJ.alloc HJr.out _) (by simp; omega) ?_ ?_).mono ?_⟩
      · have := Hd.out; have := Tm.depth_mem (List.getElem_mem hlt); rw [Tm.depth_eq] at *; omega
      · have := Hs.out; have := Tm.full_mem (List.getElem_mem hlt); have := Ty.le_sizes binds; rw [Tm.full_eq] at *; omega
      rintro e W2 (⟨rfl, hk2, ys, hys, hJ2⟩ | ⟨rfl, ys, hys, hx2⟩)
      · have HJ2 := Lib.hid hJ2; clear hJ2
        have Hys := Lib.hid hys; clear hys
        have hbt2 := hk2.blk (hbt.alloc _) (HG.out _ _ (Nat.le_refl _) (by decide))
        have hbs2 := hk2.blk (hbs.alloc _) (HG.out _ _ (by omega) (by decide))
        gi_wp2_with fail
        go_roundw
        case rel => exact ⟨k + 1, xs ++ ys, by go_num, by omega, by show _ = _; rw [List.map_append, hxs.out, Hys.out, Tm.pres_take _ _ _ _ hlt], by rw [← List.append_assoc]; exact HJ2.out, (Hkr.out.alloc _).trans hk2, hbt2, hbs2⟩
        case measure => simp [intOf]; omega
      · have Hys := Lib.hid hys; clear hys
        have Hx2 := Lib.hid hx2; clear hx2
        gi_wp2_with fail
        go_ret
        refine .inr ⟨rfl, X :: (xs ++ ys), ?_, by simpa using Hx2.out⟩
        obtain ⟨r, hr⟩ := Hys.out
        have hp := Tm.pres_take args k (s + binds.length) (d + 1) hlt
        rw [← hr] at hp
        obtain ⟨q, hq⟩ := Tm.pres_take_le args (k + 1) (s + binds.length) (d + 1)
        refine ⟨r ++ q, ?_⟩
        simp only [Tm.pre_eq, List.map_cons, List.map_append, hkey, List.cons_append]
        rw [← hq, hp, ← hxs.out]
        simp
    · gi_wp2_with fail
      go_ret
      refine .inl ⟨rfl, Hkr.out, X :: xs, ?_, by simpa using HJr.out⟩
      have h := hxs.out
      rw [List.take_of_length_le (by omega)] at h
      simp [Tm.pre_eq, hkey, ← h]

theorem each61_k {F : Nat → Prop} {w0 : World} (G : Nat → TypeId → Prop) (hGF : ∀ k t, F k → k < w0.heap.size → G k t) (l : Nat) (J Jx : List (Hit6 F w0) → World → Prop)
    {b k i a : Value} {t : Tm} (ht : IsTm F w0 b k i a t) (hsz : t.full ≤ 4400000) (n : Nat) (W : World) (hJ : Mild SpotOk W.heap.size J)
    (hY : ∀ pre x V, J pre V → pre.length < t.size → YieldAt Fence.wide (n - 1) Try.prog l (Hit6.enc x) V fun e W' =>
      (e = .returned (.bool true) ∧ J (pre ++ [x]) W' ∧ KeepC G V W') ∨ (e = .returned (.bool false) ∧ Jx (pre ++ [x]) W'))
    (hG : ∀ k t, W.heap.size ≤ k → t ≠ 3 → G k t) (hw : Keep F w0 W) (Bt : Nat) (c0 : W.cell? ⟨Bt, 0, none⟩ = some b) (c1 : W.cell? ⟨Bt, 1, none⟩ = some k) (c2 : W.cell? ⟨Bt, 2, none⟩ = some i) (c3 : W.cell? ⟨Bt, 3, none⟩ = some a) (h0 : J [] W) :
    CallsIn Fence.wide n Try.prog 54 #[.func (.yield l) #[] #[], .pointer (some ⟨Bt, 0, none⟩)] W fun e W' => (∃ v, e = .returned v) ∧
      ((∃ ys, List.map Hit6.key ys = t.pre 0 1 ∧ J ys W') ∨ (∃ pre, List.map Hit6.key pre <+: t.pre 0 1 ∧ Jx pre W')) := by
  have hdd : ∀ k : Nat, (Fence.wide.depth.isSome = true → 1 ≤ k) := fun k h => by cases h
  have hf := Tm.size_le_full t
  have hp := Lib.hid (down6_k G hGF l t.size W.heap.size (by omega) J Jx hJ (fun m pre x V hj hl => yield_any rfl m (hY pre x V hj hl)) t ht (n - 1) 0 1 0 1 [] W rfl rfl hG (Nat.le_refl _) hw h0 (by simp) (by have := Tm.depth_le_size t; omega) (by omega))
  clear hG hY
  obtain ⟨pa, pc, qa, qc, rfl, rfl, rfl, rfl⟩ := ht.shape
  refine callsIn_of_wp Try.func54 rfl trivial ?_ rfl
  simp only [Try.ntmps54, List.size_toArray, List.length_cons, List.length_nil, Nat.reduceAdd, Nat.reduceSub, Array.replicate_succ, Array.replicate_zero, List.push_toArray, List.append_toArray, List.nil_append, List.cons_append]
  gi_wp2_with fail
  refine ⟨trivial, hdd _, hp.out.mono ?_⟩
  rintro e W1 (⟨rfl, hk, ys, hys, hJ1⟩ | ⟨rfl, ys, hys, hx⟩)
  · have A1 := Lib.hid hys; clear hys
    gi_wp2_with fail
    go_end0
    exact ⟨⟨_, rfl⟩, .inl ⟨ys, A1.out, by simpa using hJ1⟩⟩
  · have A1 := Lib.hid hys; clear hys
    gi_wp2_with fail
    go_end0
    exact ⟨⟨_, rfl⟩, .inr ⟨ys, A1.out, by simpa using hx⟩⟩

theorem each6_soft {F : Nat → Prop} {w0 : World} (G : Nat → TypeId → Prop) (hGF : ∀ k t, F k → k < w0.heap.size → G k t) {b k i a : Value} {t : Tm} (ht : IsTm F w0 b k i a t) (hsz : t.full ≤ 4400000) (n : Nat)
    (w : World) (hG : ∀ k t, w.heap.size ≤ k → t ≠ 3 → G k t) (hw : Keep F w0 w) (Bt : Nat) (hB : Blk w Bt #[b, k, i, a] 43) :
    SeqSoft SpotOk Fence.wide n Try.prog 54 #[.pointer (some ⟨Bt, 0, none⟩)] (Hit6.enc (F := F) (w := w0)) (KeepC G) (fun ys => ys.map Hit6.key = t.pre 0 1) (fun p => p.map Hit6.key <+: t.pre 0 1) t.size w :=
  fun l J Jx W hW hJ _ hY h0 => by
    have hB' := hB.below hW
    exact each61_k G hGF l J Jx ht hsz n W hJ hY (fun k t hk ht => hG k t (Nat.le_trans hW.size hk) ht) (hw.below hW) Bt (hB'.cell rfl) (hB'.cell rfl) (hB'.cell rfl) (hB'.cell rfl) h0

theorem each6_k (b k i a : Value) (n : Nat) (w : World) (hs : ∃ p m c, b = .slice p m c) (hk : ∃ x, k = .int .i64 x) (hi : ∃ x, i = .int .i64 x) (ha : ∃ p m c, a = .slice p m c) :
    CallsIn Fence.wide n Try.prog 38 #[.agg #[b, k, i, a]] w fun e w' => e = .returned (.func (.func 54) #[] #[.pointer (some ⟨w.heap.size, 0, none⟩)]) ∧ w' = w.alloc (.cells #[b, k, i, a] 43) := by
  obtain ⟨pb, mb, cb, rfl⟩ := hs
  obtain ⟨kx, rfl⟩ := hk
  obtain ⟨ix, rfl⟩ := hi
  obtain ⟨pa, ma, ca, rfl⟩ := ha
  refine callsIn_of_wp Try.func38 rfl trivial ?_ rfl
  simp only [Try.ntmps38, List.size_toArray, List.length_cons, List.length_nil, Nat.reduceAdd, Nat.reduceSub, Array.replicate_succ, Array.replicate_zero, List.push_toArray, List.append_toArray, List.nil_append, List.cons_append]
  gi_wp2_with fail
  go_ret
  exact ⟨rfl, rfl⟩
end Go.Proofs.Ytnpjjkeokcoedaa

namespace Go.Proofs.Ytnpjjkeokcoedaa
open Go.RowKit Go.Shelf
attribute [local go_sem] Oper.semAt_some

theorem spot_int {W : World} {n : Nat} {cs : Array Value} {T : TypeId} (hT : T ≠ 87) {W' : World} {B : Nat} {row : Option Nat} (h : Blk W n cs T) (hg : W.grownBy W' row) (hr : ∀ r, row = some r → B ≤ r ∧ ∃ o : Obj, W.heap[r]? = some o ∧ SpotOk o) : Blk W' n cs T :=
  h.grown hg fun e => by
    obtain ⟨_, o, ho, h'⟩ := hr _ e
    have hb : W.heap[n]? = _ := h
    rw [hb] at ho; cases ho
    rcases h' with h' | ⟨cs', fr, h'⟩
    · simp [Obj.isCells] at h'
    · cases h'; exact hT rfl
theorem mild_blk {β : Type} {n B : Nat} {T : TypeId} (hT : T ≠ 87) (f : β → Array Value) : Mild SpotOk B (fun s W => Blk W n (f s) T) := fun _ _ _ _ hs hg hr => spot_int hT hs hg hr

end Go.Proofs.Ytnpjjkeokcoedaa

namespace Go.Proofs.Ytnpjjkeokcoedaa
open Go.RowKit Go.Shelf
attribute [local go_sem] Oper.semAt_some

namespace Tm
theorem pres_depth_of {l : List Tm} (h : ∀ t ∈ l, ∀ s d m, (∀ p ∈ pre t s d, p.2.1 ≤ m) ↔ d + t.depth ≤ m + 1) : ∀ s d m, d ≤ m + 1 → ((∀ p ∈ pres l s d, p.2.1 ≤ m) ↔ d + depths l ≤ m + 1) := by
  intro s d m hd
  induction l with
  | nil => simp [pres, depths, hd]
  | cons t l ih =>
    have h1 := h t (by simp) s d m
    have h2 := ih (fun u hu => h u (by simp [hu]))
    simp only [pres, depths, List.mem_append]
    constructor
    · intro h3
      have a := h1.1 fun p hp => h3 p (.inl hp)
      have b := h2.1 fun p hp => h3 p (.inr hp)
      omega
    · intro h3 p hp
      rcases hp with hp | hp
      · exact h1.2 (by omega) p hp
      · exact h2.2 (by omega) p hp
theorem pre_depth (t : Tm) : ∀ s d m, (∀ p ∈ pre t s d, p.2.1 ≤ m) ↔ d + t.depth ≤ m + 1 := by
  induction t using Tm.ind with
  | h b k i a ih =>
    intro s d m
    have h := pres_depth_of ih (s + b.length) (d + 1) m
    rw [pre_eq, depth_eq]
    simp only [List.mem_cons, forall_eq_or_imp]
    constructor
    · rintro ⟨h1, h2⟩
      have := (h (by omega)).1 h2
      omega
    · intro h1
      exact ⟨by omega, (h (by omega)).2 (by omega)⟩
end Tm

set_option maxRecDepth 100000 in
set_option maxHeartbeats 2000000 in
theorem right6_k {F : Nat → Prop} {w : World} {b k i a : Value} {t : Tm} (ht : IsTm F w b k i a t) (hsz : t.full ≤ 4400000) : Calls Try.prog 29 #[.agg #[b, k, i, a]] w (RetB (t.size ≤ 5000 ∧ t.depth ≤ 60) w) := by
  refine (callsIn_wide (n := 9)).1 ?_
  have Ht := Lib.hid (ht.weaken (F' := fun _ => True) fun _ _ _ => trivial)
  obtain ⟨pa, pc, qa, qc, rfl, rfl, rfl, rfl⟩ := ht.shape
  clear ht
  obtain ⟨x1, hx1⟩ : ∃ x, t.binds.length = x := ⟨_, rfl⟩
  obtain ⟨x2, hx2⟩ : ∃ x, t.args.length = x := ⟨_, rfl⟩
  obtain ⟨x3, hx3⟩ : ∃ x, t.kind = x := ⟨_, rfl⟩
  obtain ⟨x4, hx4⟩ : ∃ x, t.index = x := ⟨_, rfl⟩
  rw [hx1, hx2, hx3, hx4] at Ht ⊢
  clear hx1 hx2 hx3 hx4
  refine callsIn_of_wp_marks Try.func29 rfl trivial ?_ rfl
  simp only [Try.ntmps29, List.size_toArray, List.length_cons, List.length_nil, Nat.reduceAdd, Nat.reduceSub, Array.replicate_succ, Array.replicate_zero, List.push_toArray, List.append_toArray, List.nil_append, List.cons_append]
  gi_wp2_with fail
  refine ⟨trivial, (each6_k _ _ _ _ _ _ ⟨_, _, _, rfl⟩ ⟨_, rfl⟩ ⟨_, rfl⟩ ⟨_, _, _, rfl⟩).mono ?_⟩
  rintro e w' ⟨rfl, rfl⟩
  gi_wp2_with fail
  have hsz' := Lib.hid hsz
  have hfl := Tm.size_le_full t
  obtain ⟨w5, hw5⟩ : ∃ w5, (((w.alloc (.cells #[.slice pa x1 pc, .int .i64 x3, .int .i64 x4, .slice qa x2 qc] 43)).alloc (.cells #[.bool false] 4)).alloc (.cells #[.int .i64 0] 3)).alloc (.cells #[.slice pa x1 pc, .int .i64 x3, .int .i64 x4, .slice qa x2 qc] 43) = w5 := ⟨_, rfl⟩
  have hB0 : Below w.heap.size w w5 := by rw [← hw5]; exact ((((Below.refl _ w).alloc (Nat.le_refl _) _).alloc (by simp) _).alloc (by simp; omega) _).alloc (by simp; omega) _
  have hz : w5.heap.size = w.heap.size + 4 := by rw [← hw5]; simp
  have y1 : Blk w5 (w.heap.size + 1) #[.bool false] 4 := by rw [← hw5]; exact ((Blk.new _ _ _ (by simp)).alloc _).alloc _
  have y2 : Blk w5 (w.heap.size + 2) #[.int .i64 0] 3 := by rw [← hw5]; exact (Blk.new _ _ _ (by simp)).alloc _
  have y3 : Blk w5 (w.heap.size + 1 + 1 + 1) #[.slice pa x1 pc, .int .i64 x3, .int .i64 x4, .slice qa x2 qc] 43 := by rw [← hw5]; exact Blk.new _ _ _ (by simp)
  rw [hw5]
  clear hw5
  refine range_softA (Ok := SpotOk) (fun o h => .inl h) rfl (by omega) (gf := 54) (lb := #[.pointer (some ⟨w.heap.size + 1 + 1 + 1, 0, none⟩)]) rfl trivial (enters_of Try.func54 (by kernel_rfl) rfl)
    (each6_soft (But w.heap.size (w.heap.size + 3)) (fun k _ _ hk => .inl hk) Ht.out hsz (9 - 1) w5 (fun k _ hk _ => .inr (by omega)) ((Keep.refl _ _).below hB0) (w.heap.size + 1 + 1 + 1) y3)
    (fun h h' => h.trans h') (fun W l o o' _ hl ho _ => KeepC.putObj _ W l o o' hl ho) (Below.refl _ _) (fun _ => rfl)
    (fun pre W => (Blk W (w.heap.size + 1) #[.bool false] 4 ∧ Blk W (w.heap.size + 2) #[.int .i64 (pre.length : Int)] 3) ∧ (Hid (pre.length ≤ 5000 ∧ ∀ x ∈ pre, x.d ≤ 60) ∧ Below w.heap.size w W))
    (fun c pre W => (Blk W (w.heap.size + 1) #[.bool false] 4 ∧ Below w.heap.size w W) ∧ (c = .ret ∧ Hid (5000 < pre.length ∨ ∃ x ∈ pre, ¬ x.d ≤ 60)))
    (Mild.and (Mild.and (mild_blk (by decide) (fun (_ : List (Hit6 (fun _ => True) w)) => #[.bool false])) (mild_blk (by decide) (fun (pre : List (Hit6 (fun _ => True) w)) => #[.int .i64 (pre.length : Int)]))) (Mild.and (fun _ _ _ _ h _ _ => h) (mild_below (Nat.le_refl _) (by omega))))
    (fun c => Mild.and (Mild.and (mild_blk (by decide) (fun (_ : List (Hit6 (fun _ => True) w)) => #[.bool false])) (mild_below (Nat.le_refl _) (by omega))) (fun _ _ _ _ h _ _ => h))
    ⟨⟨y1, y2⟩, ⟨by simp, by simp⟩, hB0⟩
    (fun x a' W => ∃ Bx, w.heap.size + 2 < Bx ∧ Blk W Bx #[.int .i64 x.s, .int .i64 x.d] 87 ∧ a' = { tmps := #[.agg #[.slice pa x1 pc, .int .i64 x3, .int .i64 x4, .slice qa x2 qc], .pointer (some ⟨w.heap.size, 0, none⟩), .pointer (some ⟨w.heap.size + 1, 0, none⟩), .pointer (some ⟨w.heap.size + 1 + 1, 0, none⟩), .pointer (some ⟨Bx, 0, none⟩), .agg #[.slice pa x1 pc, .int .i64 x3, .int .i64 x4, .slice qa x2 qc], .func (.func 54) #[] #[.pointer (some ⟨w.heap.size + 1 + 1 + 1, 0, none⟩)], .agg #[.int .i64 x.s, .int .i64 x.d], .agg #[.slice x.pb x.t.binds.length x.cb, .int .i64 x.t.kind, .int .i64 x.t.index, .slice x.pa x.t.args.length x.ca], undef, undef, undef, undef, undef, undef, undef, undef, undef], defers := [] })
    (fun x a' W l o o' hl ho hoc => by
      rintro ⟨Bx, h1, h2, h3⟩
      refine ⟨Bx, h1, ?_, h3⟩
      have hne : l ≠ Bx := fun e => by
        subst e
        have hb : W.heap[l]? = _ := h2
        rw [hb] at ho; cases ho; simp [Obj.isCells] at hoc
      exact (World.putObj_heap_other (Ne.symm hne)).trans h2) ?assign ?body ?done ?stop
  case assign =>
    rintro l pre x W K ⟨⟨z1, z2⟩, hp, hB⟩ hK
    have HK := Lib.hid hK; clear hK
    have Hp := Lib.hid hp; clear hp
    simp only [Hit6.enc] at *
    gi_wp2
    have hs := hB.size
    exact HK.out _ _ ((KeepsOthers.alloc _ _).from _) ((KeepC.refl _ W).alloc _) ⟨⟨z1.alloc _, z2.alloc _⟩, Hp.out, hB.alloc hs _⟩ ⟨W.heap.size, z2.lt, Blk.new _ _ _ rfl, rfl⟩
  case body =>
    rintro l pre x a' W ⟨⟨z1, z2⟩, hp, hB⟩ hlt ⟨Bx, hBx, bX, rfl⟩
    have c1 : W.cell? ⟨w.heap.size + 1, 0, none⟩ = some (.bool false) := z1.cell rfl
    have f1 := z1.free 0
    have c2 : W.cell? ⟨w.heap.size + 1 + 1, 0, none⟩ = some (.int .i64 (pre.length : Int)) := z2.cell rfl
    have f2 := z2.free 0
    have cx : W.cell? ⟨Bx, 1, none⟩ = some (.int .i64 x.d) := bX.cell rfl
    have hlt2 : (pre.length : Int) ≤ 9000000 := by omega
    have hBn : ¬ (Bx = w.heap.size + 1 + 1) := by omega
    have Hp := Lib.hid hp.out; clear hp
    have hbd : Hid (Below w.heap.size w ((W.setCell ⟨w.heap.size + 1 + 1, 0, none⟩ (.int .i64 ((pre.length : Int) + 1))).setCell ⟨w.heap.size + 1, 0, none⟩ (.bool false))) := (hB.setCell (by simp; omega) _).setCell (by simp) _
    by_cases h2 : (5000 : Int) < (pre.length : Int) + 1
    · gi_wp2
      first
      | exact ⟨((KeepsOthers.setCell W _ _).trans (KeepsOthers.setCell _ _ _)).from _, ⟨(z1.far ⟨w.heap.size + 1 + 1, 0, none⟩ _ (by simp)).set 0 _, hbd.out⟩, rfl, .inl (by simp; omega)⟩
      | exact ⟨(KeepsOthers.setCell W _ _).from _, ⟨z1.far ⟨w.heap.size + 1 + 1, 0, none⟩ _ (by simp), hB.setCell (by simp; omega) _⟩, rfl, .inl (by simp; omega)⟩
    by_cases h1 : 60 < x.d
    · have h1' : (60 : Int) < (x.d : Int) := by omega
      gi_wp2
      first
      | exact ⟨((KeepsOthers.setCell W _ _).trans (KeepsOthers.setCell _ _ _)).from _, ⟨(z1.far ⟨w.heap.size + 1 + 1, 0, none⟩ _ (by simp)).set 0 _, hbd.out⟩, rfl, .inr ⟨x, by simp, by omega⟩⟩
      | exact ⟨(KeepsOthers.setCell W _ _).from _, ⟨z1.far ⟨w.heap.size + 1 + 1, 0, none⟩ _ (by simp), hB.setCell (by simp; omega) _⟩, rfl, .inr ⟨x, by simp, by omega⟩⟩
    have h1' : ¬ (60 : Int) < (x.d : Int) := by omega
    gi_wp2
    refine ⟨(KeepsOthers.setCell W _ _).from _, (KeepC.refl _ W).setCell _ _ (by simp [But]; omega), ⟨z1.far _ _ (by simp), ?_⟩, ⟨by have := Hp.out.1; simp; omega, fun y hy => ?_⟩, hB.setCell (by simp; omega) _⟩
    · have := z2.set 0 (.int .i64 ((pre.length : Int) + 1))
      simpa using this
    · rcases List.mem_append.1 hy with hy | hy
      · exact Hp.out.2 y hy
      · simp at hy; subst hy; omega
  case done =>
    rintro D ys W hD hys ⟨⟨z1, z2⟩, hp, hB⟩ hK
    have c1 : W.cell? ⟨w.heap.size + 1, 0, none⟩ = some (.bool false) := z1.cell rfl
    have f1 := z1.free 0
    have Hys := Lib.hid hys; clear hys
    have Hp := Lib.hid hp.out; clear hp
    gi_wp2
    have hK' := (KeepsOthers.setCell W ⟨w.heap.size + 1, 0, none⟩ (.bool true)).same D _ hK rfl
    refine ⟨by simp, .inl ⟨_, _, rfl, run_takeDeferred hK', ?_⟩⟩
    have hc5 := cell_kept ((z1.set 0 (.bool true)).cell (i := 0) (v := .bool true) rfl) (grownBy_putObj' _ D (.deferred none)) (fun r e => by cases e; exact ⟨_, hK', rfl⟩)
    refine ⟨.bool true, ?_, ⟨true, ?_, rfl, ?_⟩⟩
    · simp [results, Try.results29, go_sem, hc5]
    · have hl : ys.length = t.size := by rw [← Tm.pre_length t 0 1, ← Hys.out, List.length_map]
      have hd := (Tm.pre_depth t 0 1 60).1 (fun p hp' => by
        rw [← Hys.out] at hp'
        obtain ⟨y, hy, he⟩ := List.mem_map.1 hp'
        rw [← he]; exact Hp.out.2 y hy)
      have := Hp.out.1
      simp; omega
    · exact (hB.setCell (p := ⟨w.heap.size + 1, 0, none⟩) (by simp) _).trans (belowK_b (w := w) (Nat.le_refl _) _ D _ _ (by omega) hK' rfl rfl)
  case stop =>
    rintro D c pre W hD hpre ⟨⟨z1, hB⟩, rfl, hbad⟩ hK
    gi_wp2
    refine ⟨by simp, .inl ⟨_, _, rfl, run_takeDeferred hK, ?_⟩⟩
    have hc5 := cell_kept (z1.cell (i := 0) (v := .bool false) rfl) (grownBy_putObj' _ D (.deferred none)) (fun r e => by cases e; exact ⟨_, hK, rfl⟩)
    refine ⟨.bool false, ?_, ⟨false, ?_, rfl, ?_⟩⟩
    · simp [results, Try.results29, go_sem, hc5]
    · simp only [Bool.false_eq_true, false_iff, not_and]
      intro h1 h2
      rcases hbad.out with h | ⟨y, hy, h⟩
      · have := hpre.length_le
        rw [List.length_map, Tm.pre_length] at this; omega
      · exact h ((Tm.pre_depth t 0 1 60).2 (by omega) y.key (hpre.subset (List.mem_map.2 ⟨y, hy, rfl⟩)))
    · exact hB.trans (belowK_b (w := w) (Nat.le_refl _) W D _ _ (by omega) hK rfl rfl)
end Go.Proofs.Ytnpjjkeokcoedaa

namespace Go.Proofs.Ytnpjjkeokcoedaa
open Go.RowKit

end Go.Proofs.Ytnpjjkeokcoedaa

namespace Go.Proofs.Ytnpjjkeokcoedaa
open Go.RowKit

theorem right_d (t : Tm) (hsz : t.full ≤ 4400000) : PureC Try.prog 29 [.ag (eTm t)] (.v (.bool (decide (t.size ≤ 5000 ∧ t.depth ≤ 60)))) := by
  refine pure_below (by kernel_rfl) fun m Im w vs hv => ?_
  match vs, hv with
  | [x], hv =>
    obtain ⟨b, k, i, a, rfl, ht⟩ := agTm hv.1
    refine (right6_k ht hsz).mono ?_
    rintro e w' ⟨b, hb, rfl, h2⟩
    have : b = decide (t.size ≤ 5000 ∧ t.depth ≤ 60) := by
      by_cases hp : t.size ≤ 5000 ∧ t.depth ≤ 60
      · rw [hb.2 hp]; simp [hp]
      · have : b = false := by
          cases b with
          | false => rfl
          | true => exact absurd (hb.1 rfl) hp
        rw [this]; simp [hp]
    subst this
    exact ⟨_, rfl, h2, fun Im' _ hI => .v _⟩
end Go.Proofs.Ytnpjjkeokcoedaa

namespace Go.Proofs.Ytnpjjkeokcoedaa
open Go.RowKit

def m00 : Mp := ⟨fun _ => none, fun _ => none, fun _ => none⟩
theorem calls_of_pure {P : Program} {f : FuncId} {ds : List D} {V : D} (h : PureC P f ds V) {Im : Nat → Nat → Prop} {w : World} {vs : List Value} (hi : ∀ b o, Im b o → ∃ v, w.cell? ⟨b, o, none⟩ = some v) (hv : RelL m00 Im w vs ds) :
    Calls P f vs.toArray w fun e w' => ∃ v Im', e = .returned v ∧ Below w.heap.size w w' ∧ Rel m00 Im' w' v V ∧ (∀ b o, Im' b o → Im b o ∨ w.heap.size ≤ b) := by
  let cx : Cx := { w0 := w, C := fun _ => False, Im0 := Im, m0 := m00, nt := 0, n0 := 0, h0 := (fun k b hk => by cases hk), h0o := (fun k b hk => by cases hk) }
  have hm : MemOk cx (fun _ => False) m00 Im w := {
    off := Off.refl _ _, im := hi, imb := fun b o h => .inl h, im0 := fun b o h => h
    own := fun k b hk => by cases hk
    lt := fun k b hk => by cases hk
    free := fun k b o hk => by cases hk
    nim := fun k b o hk => by cases hk
    inj := fun k k' b hk => by cases hk
    row := fun g R hg => by cases hg
    k0 := KeepI.refl _ _
    rown := fun g R b hg => by cases hg
    m0r := fun g R hg => by cases hg
    rIm := fun g R b o hg => by cases hg
    rblk := fun g R b k hg => by cases hg
    rinj := fun g g' R R' b hg => by cases hg
    fr := fun k hk => hk.elim
    m0 := fun k b hk => by cases hk
    m0o := fun k b hk => by cases hk
    oown := fun k b hk => by cases hk
    olt := fun k b hk => by cases hk
    onim := fun k b o hk => by cases hk
    oinj := fun k k' b hk => by cases hk
    oblk := fun k k' b hk => by cases hk
    orow := fun k g R b hk => by cases hk
    dis := fun k b hk => by cases hk }
  refine (h.2 cx _ m00 Im w vs hm hv nofun).mono ?_
  rintro e w' ⟨v, Im', rfl, q1, q2, q3, q4, q5, q6, q7⟩
  refine ⟨v, Im', rfl, ⟨q1.os, q1.tape, q1.output, q1.size, fun b hb => q1.block b hb fun ht => ?_⟩, q6, q3⟩
  rcases ht with ⟨k, off, d, hm, _⟩ | ⟨X, J, hm, _⟩ | ⟨k, d, hm, _⟩ <;> cases hm
def cellI (F : Nat → Prop) (w : World) : Nat → Nat → Prop := fun b o => F b ∧ ∃ v, w.cell? ⟨b, o, none⟩ = some v
theorem cellI_ok {F : Nat → Prop} {w : World} : ∀ b o, cellI F w b o → ∃ v, w.cell? ⟨b, o, none⟩ = some v := fun _ _ h => h.2
theorem cellI_of {F : Nat → Prop} {w : World} : ∀ b o v, F b → w.cell? ⟨b, o, none⟩ = some v → cellI F w b o := fun _ _ v h hv => ⟨h, v, hv⟩
end Go.Proofs.Ytnpjjkeokcoedaa

namespace Go.Proofs.Ytnpjjkeokcoedaa
open Go.RowKit

end Go.Proofs.Ytnpjjkeokcoedaa

namespace Go.Proofs.Ytnpjjkeokcoedaa
open Go.RowKit
end Go.Proofs.Ytnpjjkeokcoedaa

namespace Go.Proofs.Ytnpjjkeokcoedaa
open Go.RowKit
def ePair (p : Int × Tm) : List D := .v (.int .i64 p.1) :: eTm p.2
def ePairs (l : List (Int × Tm)) : List (List D) := l.map ePair
@[simp] theorem ePair_ok (f g : Nat → Bool) (p : Int × Tm) : D.oks f g (ePair p) = true := by simp [ePair, D.oks, D.ok, eTm_ok]
@[simp] theorem ePairs_ok (f g : Nat → Bool) (l : List (Int × Tm)) : D.okss f g (ePairs l) = true := D.okss_map ePair l fun p _ => ePair_ok f g p
end Go.Proofs.Ytnpjjkeokcoedaa

namespace Go.Proofs.Ytnpjjkeokcoedaa
open Go.RowKit Go.ChangeShapes Go.WideShapes Go.ChangeAt

theorem IsSl.len1 {α : Type} {r : Rp α} {F : Nat → Prop} {w : World} {v : Value} {l : List α} (h : IsSl r F w v l) : l.length ≤ 9223372036854775807 := by
  obtain ⟨a, c, bl, off, X, _, h1, _⟩ := h
  have : maxLen = 9223372036854775807 := rfl
  omega
section
variable {m : Mp} {w : World} {F : Nat → Prop}
theorem relTys {v : Value} {l : List Ty} (h : IsSl rpTy F w v l) : Rel m (cellI F w) w v (.sl 2 (eTys l) none) := by
  rw [eTys_map]
  exact rel_of_sl (r := rpTy) (e := eTy) cellI_of eTy_len (fun x t hx => by
    obtain ⟨s, b, rfl, ht⟩ := hx
    exact rel_of_ty cellI_of t ht) h
theorem relWorld {cv mv : Value} {b : Int} {C M : List Ty} (h1 : IsSl rpTy F w cv C) (h2 : IsSl rpTy F w mv M) : Rel m (cellI F w) w (.agg #[.int .i64 b, cv, mv]) (.ag [.v (.int .i64 b), .sl 2 (eTys C) none, .sl 2 (eTys M) none]) :=
  rel_ag.2 ⟨[.int .i64 b, cv, mv], rfl, .v _, relTys h1, relTys h2, trivial⟩
end
theorem row_of_pure {f : FuncId} {ds : List D} (h : PureC Try.prog f ds (.v (.bool true))) {w : World} {vs : List Value} (hv : RelL m00 (cellI (fun _ => True) w) w vs ds) :
    Calls Try.prog f vs.toArray w fun e w' => e = .returned (.bool true) ∧ Below w.heap.size w w' := by
  refine (calls_of_pure h cellI_ok hv).mono ?_
  rintro e w' ⟨v, Im', rfl, h1, h2, _⟩
  have := rel_v.1 h2; subst this
  exact ⟨rfl, h1⟩
end Go.Proofs.Ytnpjjkeokcoedaa

namespace Go.Proofs.Ytnpjjkeokcoedaa
open Go.RowKit
def TTM_40 : TI := ⟨2, true, [Value.int IntKind.i64 0, Value.int IntKind.i64 0], [(0, 1, false), (1, 1, false)], none, 16, 6, none, true⟩
theorem TTM_40_ok : TypOk Try.prog 40 TTM_40 := ⟨by kernel_rfl, by kernel_rfl, by kernel_rfl, by kernel_rfl, by kernel_rfl⟩
def TTM_3 : TI := ⟨1, false, [Value.int IntKind.i64 0], [], none, 8, 2, none, false⟩
theorem TTM_3_ok : TypOk Try.prog 3 TTM_3 := ⟨by kernel_rfl, by kernel_rfl, by kernel_rfl, by kernel_rfl, by kernel_rfl⟩
def TTM_43 : TI := ⟨4, true, [Value.slice none 0 0, Value.int IntKind.i64 0, Value.int IntKind.i64 0, Value.slice none 0 0], [(0, 1, false), (1, 2, true), (3, 1, false)], none, 64, 6, none, false⟩
theorem TTM_43_ok : TypOk Try.prog 43 TTM_43 := ⟨by kernel_rfl, by kernel_rfl, by kernel_rfl, by kernel_rfl, by kernel_rfl⟩
def TTM_36 : TI := ⟨1, false, [Value.slice none 0 0], [], some 52, 24, 5, none, false⟩
theorem TTM_36_ok : TypOk Try.prog 36 TTM_36 := ⟨by kernel_rfl, by kernel_rfl, by kernel_rfl, by kernel_rfl, by kernel_rfl⟩
def TTM_52 : TI := ⟨2, true, [Value.slice none 0 0, Value.int IntKind.i64 0], [(0, 1, false), (1, 1, false)], none, 32, 6, none, false⟩
theorem TTM_52_ok : TypOk Try.prog 52 TTM_52 := ⟨by kernel_rfl, by kernel_rfl, by kernel_rfl, by kernel_rfl, by kernel_rfl⟩
def TTM_41 : TI := ⟨1, false, [Value.slice none 0 0], [], some 43, 24, 5, none, false⟩
theorem TTM_41_ok : TypOk Try.prog 41 TTM_41 := ⟨by kernel_rfl, by kernel_rfl, by kernel_rfl, by kernel_rfl, by kernel_rfl⟩
def TTM_59 : TI := ⟨1, false, [Value.nilFunc], [], none, 8, 8, none, false⟩
theorem TTM_59_ok : TypOk Try.prog 59 TTM_59 := ⟨by kernel_rfl, by kernel_rfl, by kernel_rfl, by kernel_rfl, by kernel_rfl⟩
def TTM : List (Nat × TI) := [(40, TTM_40), (3, TTM_3), (43, TTM_43), (36, TTM_36), (52, TTM_52), (41, TTM_41), (59, TTM_59)]
theorem TTM_ok : TabOk Try.prog TTM := ((((((((TabOk.nil _).cons TTM_59_ok).cons TTM_41_ok).cons TTM_52_ok).cons TTM_36_ok).cons TTM_43_ok).cons TTM_3_ok).cons TTM_40_ok)

theorem bindsT (b : List Ty) (k i : Int) (a : List Tm) : (Tm.mk b k i a).binds = b := rfl
theorem kindT (b : List Ty) (k i : Int) (a : List Tm) : (Tm.mk b k i a).kind = k := rfl
theorem indexT (b : List Ty) (k i : Int) (a : List Tm) : (Tm.mk b k i a).index = i := rfl
theorem argsTm (b : List Ty) (k i : Int) (a : List Tm) : (Tm.mk b k i a).args = a := rfl
/-! long forms -/
theorem eTms_snoc (l : List Tm) (j : Nat) (h : j < l.length) : eTms (l.take j) ++ [[.sl 2 (eTys l[j].binds) none, .v (.int .i64 l[j].kind), .v (.int .i64 l[j].index), .sl 4 (eTms l[j].args) none]] = eTms (l.take (j + 1)) := by
  rw [← eTm_eq, List.take_add_one, List.getElem?_eq_getElem h, Option.toList_some, eTms_map, eTms_map, List.map_append]; rfl
theorem etas_at (l : List Ty) (j : Nat) (h : j < l.length) : eTms ((Ty.etas l).take j) ++ [[.sl 2 (eTys (Ty.eta l[j] 0 ((l.length : Int) - 1 - (j : Int))).binds) none, .v (.int .i64 (Ty.eta l[j] 0 ((l.length : Int) - 1 - (j : Int))).kind), .v (.int .i64 (Ty.eta l[j] 0 ((l.length : Int) - 1 - (j : Int))).index), .sl 4 (eTms (Ty.eta l[j] 0 ((l.length : Int) - 1 - (j : Int))).args) none]] = eTms ((Ty.etas l).take (j + 1)) := by
  have h2 : j < (Ty.etas l).length := by rw [Ty.etas_len]; exact h
  rw [← eTms_snoc _ _ h2, Ty.etas_get l j h]
set_option maxHeartbeats 1000000 in
theorem teta_d : ∀ (t : Ty) (k i : Int), t.size ≤ 1000 → PureC Try.prog 78 [.ag [.v (.int .i64 k), .v (.int .i64 i)], .ag (eTy t)] (.ag (eTm (Ty.Eta t k i))) := by
 intro t
 induction t using Ty.ind with
 | h a b ih =>
 intro k i hz
 rw [ty_size] at hz
 have hal := Ty.le_sizes a
 have harr := arrow_d (.mk a b) [] (by rw [ty_size]; simp [Ty.sizes]; omega)
 rw [List.nil_append] at harr
 have harr : PureC Try.prog 52 [.ag (eTy (.mk a b)), .v (.slice none 0 0)] (.ag (eTy (.mk a b))) := CallC.vle harr (.cons (VLe.refl _) (.cons (VLe.nil _) .nil)) (VLe.refl _)
 unfold Ty.Eta
 rw [eTy_eq] at harr
 by_cases hbad : k = 0 ∧ (i < 0 ∨ 1000 < i)
 ·rw [if_pos hbad, eTy_eq, eTm_eq]
  rcases hbad with ⟨hk, h0 | h1⟩
  ·skip
   refine calldw 0 63 [ResultVar.cell 4 43] TTM_ok Try.func78 rfl Try.ntmps78 rfl fun cx hnt hn0 => ?_
   ·skip
    refine dw_seq ?_; refine dwk [] TTM_ok hnt fun K hK => ?_; refine hK _ _ ?_; clear hK K; refine dw_seq ?_; refine dw_seq ?_; refine dwk [(11, .v (.bool true)), (15, .v (.bool true))] TTM_ok hnt fun K hK => ?_; refine And.intro (beqT hk) ?_; refine And.intro auT ?_; refine hK _ _ ?_; clear hK K; refine dw_cond (t := true) rfl ?_; rw [if_pos rfl]; refine dw_seq ?_; refine dwk [] TTM_ok hnt fun K hK => ?_
    refine hK _ _ ?_; clear hK K; refine dw_ret ?_
    exact reta rfl
  ·skip
   refine calldw 0 63 [ResultVar.cell 4 43] TTM_ok Try.func78 rfl Try.ntmps78 rfl fun cx hnt hn0 => ?_
   ·skip
    refine dw_seq ?_; refine dwk [] TTM_ok hnt fun K hK => ?_; refine hK _ _ ?_; clear hK K; refine dw_seq ?_; refine dw_seq ?_; refine dwk [(11, .v (.bool true)), (15, .v (.bool false)), (19, .v (.bool true))] TTM_ok hnt fun K hK => ?_; refine And.intro (beqT hk) ?_; refine And.intro auF ?_; refine And.intro auT ?_; refine hK _ _ ?_; clear hK K; refine dw_cond (t := true) rfl ?_; rw [if_pos rfl]; refine dw_seq ?_
    refine dwk [] TTM_ok hnt fun K hK => ?_; refine hK _ _ ?_; clear hK K; refine dw_ret ?_
    exact reta rfl
 ·rw [if_neg hbad]
  obtain ⟨i', hi'⟩ : ∃ i', (if k = 0 then i + (a.length : Nat) else i) = i' := ⟨_, rfl⟩
  rw [Ty.eta_eq, hi', eTy_eq, eTm_eq]
  simp only [bindsT, kindT, indexT, argsTm, args_mk', base_mk'] at harr ⊢
  refine calldw 0 63 [ResultVar.cell 4 43] TTM_ok Try.func78 rfl Try.ntmps78 rfl fun cx hnt hn0 => ?_
  ·skip
   refine dw_seq ?_; refine dwk [] TTM_ok hnt fun K hK => ?_; refine hK _ _ ?_; clear hK K
   refine dw_cut (τ := [(.t 2, .p 0 0), (.t 3, .p 1 0), (.t 4, .p 2 0), (.c 0 0, .v (.int .i64 k)), (.c 0 1, .v (.int .i64 i)), (.c 1 0, .sl 2 (eTys a) none), (.c 1 1, .v (.int .i64 b)), (.c 2 0, .v (.slice none 0 0)), (.c 2 1, .v (.int .i64 0)), (.c 2 2, .v (.int .i64 0)), (.c 2 3, .v (.slice none 0 0))]) (N1 := 3) ?_ ?_
   ·by_cases hk : k = 0
    ·skip
     refine dw_seq ?_; refine dwk [(11, .v (.bool true)), (15, .v (.bool false)), (19, .v (.bool false))] TTM_ok hnt fun K hK => ?_; refine And.intro (beqT hk) ?_; refine And.intro auF ?_; refine And.intro auF ?_; refine hK _ _ ?_; clear hK K; refine dw_cond (t := false) rfl ?_; rw [if_neg (by simp)]; refine dw_skip ?_
     exact cut_ok VS.toA
    ·skip
     refine dw_seq ?_; refine dwk [(11, .v (.bool false))] TTM_ok hnt fun K hK => ?_; refine And.intro (beqF hk) ?_; refine hK _ _ ?_; clear hK K; refine dw_cond (t := false) rfl ?_; rw [if_neg (by simp)]; refine dw_skip ?_
     exact cut_ok VS.toA
   ·skip
    refine dw_seq ?_; refine dwk [(25, .v (.int .i64 (↑a.length)))] TTM_ok hnt fun K hK => ?_; refine And.intro (dintE (by rw [eTys_len])) ?_; refine hK _ _ ?_; clear hK K; refine dw_seq ?_; refine dwkD [] TTM_ok hnt fun K hK => ?_; refine dcl (harr) ?_; refine hK _ _ (by kernel_rfl) ?_; clear hK K
    refine dw_cut (τ := [(.t 3, .p 1 0), (.t 4, .p 2 0), (.t 5, .v (.int .i64 ↑a.length)), (.t 6, .p 12 0), (.c 1 0, .sl 2 (eTys a) none), (.c 2 0, .v (.slice none 0 0)), (.c 2 1, .v (.int .i64 0)), (.c 2 2, .v (.int .i64 0)), (.c 2 3, .v (.slice none 0 0)), (.c 12 0, .sl 2 (eTys a) none), (.c 12 1, .v (.int .i64 k)), (.c 12 2, .v (.int .i64 i')), (.c 12 3, .v (.slice none 0 0))]) (N1 := 13) ?_ ?_
    ·by_cases hk : k = 0
     ·rw [if_pos hk] at hi'
      have h0 : 0 ≤ i ∧ i ≤ 1000 := by
       constructor
       ·by_cases h : i < 0
        ·exact absurd ⟨hk, .inl h⟩ hbad
        ·omega
       ·by_cases h : 1000 < i
        ·exact absurd ⟨hk, .inr h⟩ hbad
        ·omega
      refine dw_seq ?_; refine dwk [(33, .v (.bool true))] TTM_ok hnt fun K hK => ?_; refine And.intro (beqT hk) ?_; refine hK _ _ ?_; clear hK K; refine dw_cond (t := true) rfl ?_; rw [if_pos rfl]; refine dwk [(38, .v (.int .i64 (i')))] TTM_ok hnt fun K hK => ?_; refine And.intro (dintE (by rw [IntWalk.i64_in _ (by omega)]; exact hi')) ?_; refine hK _ _ ?_; clear hK K
      exact cut_ok VS.toA
     ·rw [if_neg hk] at hi'
      subst hi'
      refine dw_seq ?_; refine dwk [(33, .v (.bool false))] TTM_ok hnt fun K hK => ?_; refine And.intro (beqF hk) ?_; refine hK _ _ ?_; clear hK K; refine dw_cond (t := false) rfl ?_; rw [if_neg (by simp)]; refine dw_skip ?_
      exact cut_ok VS.toA
    ·skip
     refine dw_seq ?_; refine dw_seq ?_; refine dwk [(43, .v (.int .i64 (↑a.length)))] TTM_ok hnt fun K hK => ?_; refine And.intro (dintE (by rw [eTys_len])) ?_; refine hK _ _ ?_; clear hK K
     refine DW.vs (VS.row (k := 12) (off := 3) 43 4 rfl) ?_
     refine dw_block ?_
     refine dw_loop (ι := { j : Nat // j ≤ a.length }) (fun j => [(.t 4, .p 2 0), (.t 5, .v (.int .i64 ↑a.length)), (.t 6, .p 12 0), (.t 42, .sl 2 (eTys a) none), (.t 43, .v (.int .i64 ↑a.length)), (.t 44, .v (.int .i64 ↑j.1)), (.c 2 0, .v (.slice none 0 0)), (.c 2 1, .v (.int .i64 0)), (.c 2 2, .v (.int .i64 0)), (.c 2 3, .v (.slice none 0 0)), (.c 12 0, .sl 2 (eTys a) none), (.c 12 1, .v (.int .i64 k)), (.c 12 2, .v (.int .i64 i')), (.c 12 3, .sl 4 (eTms ((Ty.etas a).take j.1)) (some 17)), (.r 17, .rw 43 4 j.1)]) 18 (fun j => a.length - j.1) (⟨0, Nat.zero_le _⟩) (VS.toA) fun j => ?_
     obtain ⟨j, hj⟩ := j
     dsimp only
     by_cases hlt : j < a.length
     ·have hmem := ty_mem (List.getElem_mem hlt)
      have hih := ih a[j] (List.getElem_mem hlt) 0 ((a.length : Int) - 1 - (j : Int)) (by omega)
      have e : Ty.Eta a[j] 0 ((a.length : Int) - 1 - (j : Int)) = Ty.eta a[j] 0 ((a.length : Int) - 1 - (j : Int)) := by unfold Ty.Eta; rw [if_neg (by omega)]
      have hsn := etas_at a j hlt
      have hlq : (eTms ((Ty.etas a).take j)).length = j := by rw [eTms_len, List.length_take, Ty.etas_len]; omega
      rw [e, eTm_eq, eTy_eq] at hih
      refine dw_seq ?_; refine dwk [(45, .v (.bool true))] TTM_ok hnt fun K hK => ?_; refine And.intro auT ?_; refine hK _ _ ?_; clear hK K; refine dw_seq ?_; refine dw_cond (t := true) rfl ?_; rw [if_pos rfl]; refine dw_skip ?_; refine dw_seq ?_; refine dw_block ?_; refine dw_seq ?_; refine dwk [(47, .q [.sl 2 (eTys a[j].args) none, .v (.int .i64 a[j].base)])] TTM_ok hnt fun K hK => ?_; refine And.intro (elo (eTys_len a)) ?_
      refine And.intro (elv (eTys_getD a j) (eTy_eq _)) ?_; refine hK _ _ ?_; clear hK K; refine dwkD [(52, .v (.int .i64 (↑a.length - 1))), (54, .v (.int .i64 (↑a.length - 1 - ↑j))), (59, .sl 4 (eTms ((Ty.etas a).take (j + 1))) (some 17))] TTM_ok hnt fun K hK => ?_; refine And.intro auI ?_; refine And.intro auI ?_; refine dcl (hih) ?_; refine And.intro (⟨by rw [hlq], by rw [hlq]; simp; omega⟩) ?_; refine And.intro (VLe.of_eq (by rw [hsn])) ?_
      refine hK _ _ (by kernel_rfl) ?_; clear hK K; refine dwk [(61, .v (.int .i64 (↑(j + 1))))] TTM_ok hnt fun K hK => ?_; refine And.intro auI ?_; refine hK _ _ ?_; clear hK K
      refine ⟨⟨j + 1, by omega⟩, by first | omega | (dsimp only; omega), (by try simp only [List.length_append, List.length_take, List.length_cons, List.length_nil, Nat.zero_add, hlq]; exact VS.toA)⟩
     ·rw [List.take_of_length_le (by rw [Ty.etas_len]; omega)]
      refine dw_seq ?_; refine dwk [(45, .v (.bool false))] TTM_ok hnt fun K hK => ?_; refine And.intro auF ?_; refine hK _ _ ?_; clear hK K; refine dw_seq ?_; refine dw_cond (t := false) rfl ?_; rw [if_neg (by simp)]; refine dw_exit ?_; refine dw_seq ?_; refine dwk [] TTM_ok hnt fun K hK => ?_; refine hK _ _ ?_; clear hK K; refine dw_ret ?_
      exact reta rfl
/-! of which head -/
def varV (t : Tm) : D := .tu [.ag [.v (.int .i64 (if longB t then t.kind else 0)), .v (.int .i64 (if longB t then t.headIx else 0))], .v (.bool (longB t))]
theorem longB_mk (b : List Ty) (k i : Int) (a : List Tm) : longB (.mk b k i a) = (decide (a = Ty.etas b) && (!decide (k = 0) || decide ((b.length : Int) ≤ i))) := rfl
theorem headIx_mk (b : List Ty) (k i : Int) (a : List Tm) : (Tm.mk b k i a).headIx = if k = 0 then i - (b.length : Nat) else i := rfl
theorem eta_iff {u : Tm} {b : Ty} {x : Int} (hx : 0 ≤ x) : u = Ty.eta b 0 x ↔ longB u = true ∧ (u.kind = 0 ∧ u.headIx = x) ∧ u.binds = b.args := by
  obtain ⟨l, c⟩ := b
  obtain ⟨bs, k, i, a⟩ := u
  rw [Ty.eta_eq, if_pos rfl, longB_mk, headIx_mk, Tm.mk.injEq, Bool.and_eq_true, Bool.or_eq_true, Bool.not_eq_true', decide_eq_true_eq, decide_eq_false_iff_not, decide_eq_true_eq]
  constructor
  · rintro ⟨rfl, rfl, rfl, rfl⟩
    refine ⟨⟨rfl, .inr (by omega)⟩, ⟨rfl, ?_⟩, rfl⟩
    rw [if_pos rfl]; omega
  · rintro ⟨⟨h1, h2⟩, ⟨h3, h4⟩, h5⟩
    have h3 : k = 0 := h3
    have h5 : bs = l := h5
    rw [if_pos h3] at h4
    subst h5
    exact ⟨rfl, h3, by omega, h1⟩
theorem longB_args {t : Tm} (h : t.args ≠ Ty.etas t.binds) : longB t = false := by unfold longB; rw [decide_eq_false h]; rfl
set_option maxHeartbeats 2000000 in
theorem var_d : ∀ (t : Tm), t.full ≤ 700000 → t.Fit → PureC Try.prog 79 [.ag (eTm t)] (varV t) := by
 intro t
 induction t using Tm.ind with
 | h b k i a ih =>
 intro hz hf
 obtain ⟨f1, f2, f3⟩ := Tm.fit_iff.1 hf
 rw [Tm.full_eq] at hz
 have hbl := Ty.le_sizes b
 have hal : a.length ≤ Tm.fulls a := by
  clear ih hz hf f3
  induction a with
  | nil => simp
  | cons u a ih => have : 1 ≤ u.full := Tm.full_pos u; simp only [Tm.fulls, List.length_cons]; omega
 unfold varV
 rw [eTm_eq]
 by_cases hlen : a.length = b.length
 ·by_cases hk : k = 0 ∧ i < (b.length : Int)
  ·have hlo : longB (.mk b k i a) = false := by
    rw [longB_mk, decide_eq_true hk.1, decide_eq_false (by omega : ¬ (b.length : Int) ≤ i)]; simp
   rw [hlo]
   simp only [bindsT, kindT, indexT, argsTm]
   refine calldw 0 78 [ResultVar.cell 2 40, ResultVar.tmp 3] TTM_ok Try.func79 rfl Try.ntmps79 rfl fun cx hnt hn0 => ?_
   ·skip
    refine dw_seq ?_; refine dwk [] TTM_ok hnt fun K hK => ?_; refine hK _ _ ?_; clear hK K; refine dw_seq ?_; refine dwk [(12, .v (.int .i64 (↑b.length)))] TTM_ok hnt fun K hK => ?_; refine And.intro (dintE (by rw [eTys_len])) ?_; refine hK _ _ ?_; clear hK K; refine dw_seq ?_; refine dwk [] TTM_ok hnt fun K hK => ?_; refine hK _ _ ?_; clear hK K; refine dw_seq ?_; refine dw_seq ?_; refine dwk [(17, .v (.int .i64 (↑a.length))), (19, .v (.bool false)), (23, .v (.bool true)), (28, .v (.bool true))] TTM_ok hnt fun K hK => ?_
    refine And.intro (dintE (by rw [eTms_len])) ?_; refine And.intro (bneF (by omega)) ?_; refine And.intro (beqT hk.1) ?_; refine And.intro auT ?_; refine hK _ _ ?_; clear hK K; refine dw_cond (t := true) rfl ?_; rw [if_pos rfl]; refine dw_seq ?_; refine dwk [] TTM_ok hnt fun K hK => ?_; refine hK _ _ ?_; clear hK K; refine dw_ret ?_
    exact reta rfl
  ·have hlo : longB (.mk b k i a) = decide (a = Ty.etas b) := by
    rw [longB_mk]
    by_cases h : k = 0
    ·rw [decide_eq_true (show (b.length : Int) ≤ i by omega)]; simp
    ·rw [decide_eq_false h]; simp
   have hhd : (Tm.mk b k i a).headIx = if k = 0 then i - (b.length : Nat) else i := rfl
   rw [hlo, hhd]
   simp only [bindsT, kindT, indexT, argsTm]
   refine calldw 0 78 [ResultVar.cell 2 40, ResultVar.tmp 3] TTM_ok Try.func79 rfl Try.ntmps79 rfl fun cx hnt hn0 => ?_
   ·skip
    refine dw_seq ?_; refine dwk [] TTM_ok hnt fun K hK => ?_; refine hK _ _ ?_; clear hK K; refine dw_seq ?_; refine dwk [(12, .v (.int .i64 (↑b.length)))] TTM_ok hnt fun K hK => ?_; refine And.intro (dintE (by rw [eTys_len])) ?_; refine hK _ _ ?_; clear hK K; refine dw_seq ?_; refine dwk [] TTM_ok hnt fun K hK => ?_; refine hK _ _ ?_; clear hK K
    refine dw_cut (τ := [(.t 1, .p 0 0), (.t 2, .p 1 0), (.t 4, .v (.int .i64 ↑b.length)), (.t 5, .p 9 0), (.c 0 0, .sl 2 (eTys b) none), (.c 0 3, .sl 4 (eTms a) none), (.c 1 0, .v (.int .i64 0)), (.c 1 1, .v (.int .i64 0)), (.c 9 0, .v (.int .i64 k)), (.c 9 1, .v (.int .i64 i))]) (N1 := 10) ?_ ?_
    ·by_cases h : k = 0
     ·skip
      refine dw_seq ?_; refine dwk [(17, .v (.int .i64 (↑a.length))), (19, .v (.bool false)), (23, .v (.bool true)), (28, .v (.bool false))] TTM_ok hnt fun K hK => ?_; refine And.intro (dintE (by rw [eTms_len])) ?_; refine And.intro (bneF (by omega)) ?_; refine And.intro (beqT h) ?_; refine And.intro auF ?_; refine hK _ _ ?_; clear hK K; refine dw_cond (t := false) rfl ?_; rw [if_neg (by simp)]; refine dw_skip ?_
      exact cut_ok VS.toA
     ·skip
      refine dw_seq ?_; refine dwk [(17, .v (.int .i64 (↑a.length))), (19, .v (.bool false)), (23, .v (.bool false))] TTM_ok hnt fun K hK => ?_; refine And.intro (dintE (by rw [eTms_len])) ?_; refine And.intro (bneF (by omega)) ?_; refine And.intro (beqF h) ?_; refine hK _ _ ?_; clear hK K; refine dw_cond (t := false) rfl ?_; rw [if_neg (by simp)]; refine dw_skip ?_
      exact cut_ok VS.toA
    ·skip
     refine dw_seq ?_; refine dw_seq ?_; refine dwk [(34, .v (.int .i64 (↑a.length)))] TTM_ok hnt fun K hK => ?_; refine And.intro (dintE (by rw [eTms_len])) ?_; refine hK _ _ ?_; clear hK K; refine dw_block ?_
     refine dw_loop (ι := { j : Nat // a.take j = (Ty.etas b).take j }) (fun j => [(.t 1, .p 0 0), (.t 2, .p 1 0), (.t 4, .v (.int .i64 ↑b.length)), (.t 5, .p 9 0), (.t 33, .sl 4 (eTms a) none), (.t 34, .v (.int .i64 ↑a.length)), (.t 35, .v (.int .i64 ↑j.1)), (.c 0 0, .sl 2 (eTys b) none), (.c 1 0, .v (.int .i64 0)), (.c 1 1, .v (.int .i64 0)), (.c 9 0, .v (.int .i64 k)), (.c 9 1, .v (.int .i64 i))]) 10 (fun j => a.length - j.1) (⟨0, rfl⟩) (VS.toA) fun j => ?_
     obtain ⟨j, hj⟩ := j
     dsimp only
     by_cases hlt : j < a.length
     ·have hltb : j < b.length := by omega
      have hlte : j < (Ty.etas b).length := by rw [Ty.etas_len]; omega
      have hmem := List.getElem_mem hlt
      have hfm := Tm.full_mem hmem
      have hih := ih a[j] hmem (by omega) (f3 _ hmem)
      have hei := eta_iff (u := a[j]) (b := b[j]) (x := (b.length : Int) - 1 - (j : Int)) (by omega)
      rw [← Ty.etas_get b j hltb] at hei
      have hbad : a[j] ≠ (Ty.etas b)[j] → decide (a = Ty.etas b) = false := fun h => decide_eq_false (ne_at hlt hlte h)
      have hq := eqTys_d a[j].binds b[j].args 17 rfl
      unfold varV at hih
      rw [eTm_eq] at hih
      refine dw_seq ?_; refine dwk [(36, .v (.bool true))] TTM_ok hnt fun K hK => ?_; refine And.intro auT ?_; refine hK _ _ ?_; clear hK K; refine dw_seq ?_; refine dw_cond (t := true) rfl ?_; rw [if_pos rfl]; refine dw_skip ?_; refine dw_seq ?_; refine dw_block ?_; refine dw_seq ?_; refine dwk [(38, .q [.sl 2 (eTys a[j].binds) none, .v (.int .i64 a[j].kind), .v (.int .i64 a[j].index), .sl 4 (eTms a[j].args) none])] TTM_ok hnt fun K hK => ?_
      refine And.intro (elo (eTms_len a)) ?_; refine And.intro (elv (eTms_getD a j) (eTm_eq _)) ?_; refine hK _ _ ?_; clear hK K
      cases h1 : longB a[j] with
      | false =>
       rw [h1] at hih
       rw [hbad fun e => by rw [hei, h1] at e; exact absurd e.1 (by simp)]
       refine dw_seq ?_; refine dwk [] TTM_ok hnt fun K hK => ?_; refine dcl (hih) ?_; refine hK _ _ ?_; clear hK K; refine dw_seq ?_; refine dw_seq ?_; refine dwk [] TTM_ok hnt fun K hK => ?_; refine hK _ _ ?_; clear hK K; refine dw_cond (t := true) rfl ?_; rw [if_pos rfl]; refine dw_seq ?_; refine dwk [] TTM_ok hnt fun K hK => ?_; refine hK _ _ ?_; clear hK K; refine dw_ret ?_
       exact reta rfl
      | true =>
       rw [h1, if_pos rfl, if_pos rfl] at hih
       refine dw_seq ?_; refine dwk [] TTM_ok hnt fun K hK => ?_; refine dcl (hih) ?_; refine hK _ _ ?_; clear hK K
       by_cases h2 : a[j].kind = 0 ∧ a[j].headIx = (b.length : Int) - 1 - (j : Int)
       ·skip
        refine dw_seq ?_; refine dw_seq ?_; refine dwk [(50, .v (.int .i64 (↑b.length - 1))), (52, .v (.int .i64 (↑b.length - 1 - ↑j))), (54, .v (.bool false))] TTM_ok hnt fun K hK => ?_; refine And.intro auI ?_; refine And.intro auI ?_; refine And.intro (VLe.of_eq (by congr 2; simp [h2])) ?_; refine hK _ _ ?_; clear hK K; refine dw_cond (t := false) rfl ?_; rw [if_neg (by simp)]
        by_cases h3 : a[j].binds = b[j].args
        ·rw [decide_eq_true h3] at hq
         refine dw_skip ?_; refine dw_seq ?_; refine dwkD [(62, .q [.sl 2 (eTys b[j].args) none, .v (.int .i64 b[j].base)])] TTM_ok hnt fun K hK => ?_; refine And.intro (elo (eTys_len b)) ?_; refine And.intro (elv (eTys_getD b j) (eTy_eq _)) ?_; refine dcl (hq) ?_; refine hK _ _ (by kernel_rfl) ?_; clear hK K; refine dw_cond (t := false) rfl ?_; rw [if_neg (by simp)]; refine dw_skip ?_; refine dwk [(68, .v (.int .i64 (↑(j + 1))))] TTM_ok hnt fun K hK => ?_
         refine And.intro auI ?_; refine hK _ _ ?_; clear hK K
         refine ⟨⟨j + 1, take_succ_eq hj hlt hlte (hei.2 ⟨h1, h2, h3⟩)⟩, by first | omega | (dsimp only; omega), VS.toA⟩
        ·rw [decide_eq_false h3] at hq
         rw [hbad fun e => h3 (hei.1 e).2.2]
         refine dw_skip ?_; refine dw_seq ?_; refine dwkD [(62, .q [.sl 2 (eTys b[j].args) none, .v (.int .i64 b[j].base)])] TTM_ok hnt fun K hK => ?_; refine And.intro (elo (eTys_len b)) ?_; refine And.intro (elv (eTys_getD b j) (eTy_eq _)) ?_; refine dcl (hq) ?_; refine hK _ _ (by kernel_rfl) ?_; clear hK K; refine dw_cond (t := true) rfl ?_; rw [if_pos rfl]; refine dw_seq ?_; refine dwk [] TTM_ok hnt fun K hK => ?_
         refine hK _ _ ?_; clear hK K; refine dw_ret ?_
         exact reta rfl
       ·rw [hbad fun e => h2 (hei.1 e).2.1]
        refine dw_seq ?_; refine dw_seq ?_; refine dwk [(50, .v (.int .i64 (↑b.length - 1))), (52, .v (.int .i64 (↑b.length - 1 - ↑j))), (54, .v (.bool true))] TTM_ok hnt fun K hK => ?_; refine And.intro auI ?_; refine And.intro auI ?_; refine And.intro (VLe.of_eq (by congr 2; by_cases h4 : a[j].kind = 0 <;> by_cases h5 : a[j].headIx = (b.length : Int) - 1 - (j : Int) <;> simp_all)) ?_; refine hK _ _ ?_; clear hK K
        refine dw_cond (t := true) rfl ?_; rw [if_pos rfl]; refine dw_seq ?_; refine dwk [] TTM_ok hnt fun K hK => ?_; refine hK _ _ ?_; clear hK K; refine dw_ret ?_
        exact reta rfl
     ·rw [decide_eq_true (eq_of_take hj (by omega) (by rw [Ty.etas_len]; omega)), if_pos rfl, if_pos rfl]
      by_cases h : k = 0
      ·rw [if_pos h]; refine dw_seq ?_; refine dwk [(36, .v (.bool false))] TTM_ok hnt fun K hK => ?_; refine And.intro auF ?_; refine hK _ _ ?_; clear hK K; refine dw_seq ?_; refine dw_cond (t := false) rfl ?_; rw [if_neg (by simp)]; refine dw_exit ?_; refine dw_seq ?_; refine dw_seq ?_; refine dwk [(71, .v (.bool true))] TTM_ok hnt fun K hK => ?_; refine And.intro (beqT h) ?_; refine hK _ _ ?_; clear hK K
       refine dw_cond (t := true) rfl ?_; rw [if_pos rfl]; refine dwk [(75, .v (.int .i64 (i - ↑b.length)))] TTM_ok hnt fun K hK => ?_; refine And.intro auI ?_; refine hK _ _ ?_; clear hK K; refine dw_seq ?_; refine dwk [] TTM_ok hnt fun K hK => ?_; refine hK _ _ ?_; clear hK K; refine dw_ret ?_
       exact reta rfl
      ·rw [if_neg h]; refine dw_seq ?_; refine dwk [(36, .v (.bool false))] TTM_ok hnt fun K hK => ?_; refine And.intro auF ?_; refine hK _ _ ?_; clear hK K; refine dw_seq ?_; refine dw_cond (t := false) rfl ?_; rw [if_neg (by simp)]; refine dw_exit ?_; refine dw_seq ?_; refine dw_seq ?_; refine dwk [(71, .v (.bool false))] TTM_ok hnt fun K hK => ?_; refine And.intro (beqF h) ?_; refine hK _ _ ?_; clear hK K
       refine dw_cond (t := false) rfl ?_; rw [if_neg (by simp)]; refine dw_skip ?_; refine dw_seq ?_; refine dwk [] TTM_ok hnt fun K hK => ?_; refine hK _ _ ?_; clear hK K; refine dw_ret ?_
       exact reta rfl
 ·have hne : a ≠ Ty.etas b := fun e => hlen (by rw [e, Ty.etas_len])
  rw [longB_args (t := .mk b k i a) hne]
  simp only [bindsT, kindT, indexT, argsTm]
  refine calldw 0 78 [ResultVar.cell 2 40, ResultVar.tmp 3] TTM_ok Try.func79 rfl Try.ntmps79 rfl fun cx hnt hn0 => ?_
  ·skip
   refine dw_seq ?_; refine dwk [] TTM_ok hnt fun K hK => ?_; refine hK _ _ ?_; clear hK K; refine dw_seq ?_; refine dwk [(12, .v (.int .i64 (↑b.length)))] TTM_ok hnt fun K hK => ?_; refine And.intro (dintE (by rw [eTys_len])) ?_; refine hK _ _ ?_; clear hK K; refine dw_seq ?_; refine dwk [] TTM_ok hnt fun K hK => ?_; refine hK _ _ ?_; clear hK K; refine dw_seq ?_; refine dw_seq ?_; refine dwk [(17, .v (.int .i64 (↑a.length))), (19, .v (.bool true))] TTM_ok hnt fun K hK => ?_
   refine And.intro (dintE (by rw [eTms_len])) ?_; refine And.intro (bneT (by omega)) ?_; refine hK _ _ ?_; clear hK K; refine dw_cond (t := true) rfl ?_; rw [if_pos rfl]; refine dw_seq ?_; refine dwk [] TTM_ok hnt fun K hK => ?_; refine hK _ _ ?_; clear hK K; refine dw_ret ?_
   exact reta rfl
end Go.Proofs.Ytnpjjkeokcoedaa

namespace Go.Proofs.Ytnpjjkeokcoedaa
open Go.RowKit Go.Shelf
attribute [local go_sem] Oper.semAt_some

def looseStep (n : Int) (p : Nat × Nat × Tm) : Int := if p.2.2.kind = 0 ∧ (p.1 : Int) ≤ p.2.2.index then max n (min (IntKind.i64.wrap (p.2.2.index - p.1)) 1000 + 1) else n
def looseP (l : List (Nat × Nat × Tm)) : Int := l.foldl looseStep 0
theorem looseP_snoc (l : List (Nat × Nat × Tm)) (p : Nat × Nat × Tm) : looseP (l ++ [p]) = looseStep (looseP l) p := by simp [looseP]
theorem looseStep_range {n : Int} {p : Nat × Nat × Tm} (h : 0 ≤ n ∧ n ≤ 1001) : 0 ≤ looseStep n p ∧ looseStep n p ≤ 1001 := by
  unfold looseStep; split <;> omega
theorem looseP_range (l : List (Nat × Nat × Tm)) : 0 ≤ looseP l ∧ looseP l ≤ 1001 := by
  have : ∀ (l : List (Nat × Nat × Tm)) n, (0 ≤ n ∧ n ≤ 1001) → 0 ≤ l.foldl looseStep n ∧ l.foldl looseStep n ≤ 1001 := by
    intro l
    induction l with
    | nil => intro n h; exact h
    | cons p l ih => intro n h; exact ih _ (looseStep_range h)
  exact this l 0 (by omega)
def looseL (n x : Int) : Int := if (if x > 1000 then 1000 else x) + 1 > n then (if x > 1000 then 1000 else x) + 1 else n

theorem loose_pres_of {l : List Tm} (h : ∀ t ∈ l, ∀ s d n, t.Fit → (t.pre s d).foldl looseStep n = (t.looses s).foldl looseL n) : ∀ s d n, (∀ t ∈ l, t.Fit) → (Tm.pres l s d).foldl looseStep n = (Tm.loosess l s).foldl looseL n := by
  induction l with
  | nil => intro s d n _; simp [Tm.pres, Tm.loosess]
  | cons t l ih =>
    intro s d n hf
    rw [Tm.pres, Tm.loosess, List.foldl_append, List.foldl_append, h t (by simp) s d n (hf t (by simp)), ih (fun u hu => h u (by simp [hu])) s d _ (fun u hu => hf u (by simp [hu]))]
theorem loose_pre (t : Tm) : ∀ (s d : Nat) (n : Int), t.Fit → (t.pre s d).foldl looseStep n = (t.looses s).foldl looseL n := by
  induction t using Tm.ind with
  | h b k i a ih =>
    intro s d n hf
    obtain ⟨hi0, hi1, hfa⟩ := Tm.fit_iff.1 hf
    rw [Tm.pre_eq, Tm.looses_eq _ _ _ _ _ ((s + b.length : Nat) : Int) (by simp), List.foldl_cons, List.foldl_append]
    rw [loose_pres_of ih _ _ _ hfa]
    congr 1
    show (if k = 0 ∧ ((s + b.length : Nat) : Int) ≤ i then _ else _) = _
    by_cases h : k = 0 ∧ ((s + b.length : Nat) : Int) ≤ i
    · have hw : IntKind.i64.wrap (i - ((s + b.length : Nat) : Int)) = i - ((s + b.length : Nat) : Int) := IntWalk.i64_in _ (by omega)
      rw [if_pos h, if_pos h]
      show max n (min (IntKind.i64.wrap (i - ((s + b.length : Nat) : Int))) 1000 + 1) = _
      rw [hw]
      simp only [List.foldl_cons, List.foldl_nil, looseL]
      split <;> split <;> omega
    · rw [if_neg h, if_neg h]; rfl
theorem looseP_pre (t : Tm) (hf : t.Fit) : looseP (t.pre 0 1) = (t.looses 0).foldl looseL 0 := loose_pre t 0 1 0 hf
set_option maxRecDepth 100000 in
set_option maxHeartbeats 2000000 in
theorem loose6_k {F : Nat → Prop} {w : World} {b k i a : Value} {t : Tm} (ht : IsTm F w b k i a t) (hsz : t.full ≤ 500000) (hfit : t.Fit) : Calls Try.prog 16 #[.agg #[b, k, i, a]] w (RetI ((t.looses 0).foldl looseL 0) w) := by
  refine (callsIn_wide (n := 9)).1 ?_
  have Ht := Lib.hid (ht.weaken (F' := fun _ => True) fun _ _ _ => trivial)
  obtain ⟨pa, pc, qa, qc, rfl, rfl, rfl, rfl⟩ := ht.shape
  clear ht
  obtain ⟨x1, hx1⟩ : ∃ x, t.binds.length = x := ⟨_, rfl⟩
  obtain ⟨x2, hx2⟩ : ∃ x, t.args.length = x := ⟨_, rfl⟩
  obtain ⟨x3, hx3⟩ : ∃ x, t.kind = x := ⟨_, rfl⟩
  obtain ⟨x4, hx4⟩ : ∃ x, t.index = x := ⟨_, rfl⟩
  rw [hx1, hx2, hx3, hx4] at Ht ⊢
  clear hx1 hx2 hx3 hx4
  refine callsIn_of_wp_marks Try.func16 rfl trivial ?_ rfl
  simp only [Try.ntmps16, List.size_toArray, List.length_cons, List.length_nil, Nat.reduceAdd, Nat.reduceSub, Array.replicate_succ, Array.replicate_zero, List.push_toArray, List.append_toArray, List.nil_append, List.cons_append]
  gi_wp2_with fail
  refine ⟨trivial, (each6_k _ _ _ _ _ _ ⟨_, _, _, rfl⟩ ⟨_, rfl⟩ ⟨_, rfl⟩ ⟨_, _, _, rfl⟩).mono ?_⟩
  rintro e w' ⟨rfl, rfl⟩
  gi_wp2_with fail
  have hsz' := Lib.hid hsz
  have Hfit := Lib.hid hfit; clear hfit
  have hfl := Tm.size_le_full t
  obtain ⟨w5, hw5⟩ : ∃ w5, ((w.alloc (.cells #[.slice pa x1 pc, .int .i64 x3, .int .i64 x4, .slice qa x2 qc] 43)).alloc (.cells #[.int .i64 0] 3)).alloc (.cells #[.slice pa x1 pc, .int .i64 x3, .int .i64 x4, .slice qa x2 qc] 43) = w5 := ⟨_, rfl⟩
  have hB0 : Below w.heap.size w w5 := by rw [← hw5]; exact (((Below.refl _ w).alloc (Nat.le_refl _) _).alloc (by simp) _).alloc (by simp; omega) _
  have hz : w5.heap.size = w.heap.size + 3 := by rw [← hw5]; simp
  have y2 : Blk w5 (w.heap.size + 1) #[.int .i64 0] 3 := by rw [← hw5]; exact (Blk.new _ _ _ (by simp)).alloc _
  have y3 : Blk w5 (w.heap.size + 1 + 1) #[.slice pa x1 pc, .int .i64 x3, .int .i64 x4, .slice qa x2 qc] 43 := by rw [← hw5]; exact Blk.new _ _ _ (by simp)
  rw [hw5]
  clear hw5
  refine range_softA (Ok := SpotOk) (fun o h => .inl h) rfl (by omega) (gf := 54) (lb := #[.pointer (some ⟨w.heap.size + 1 + 1, 0, none⟩)]) rfl trivial (enters_of Try.func54 (by kernel_rfl) rfl)
    (each6_soft (But w.heap.size (w.heap.size + 2)) (fun k _ _ hk => .inl hk) Ht.out (Nat.le_trans hsz (by decide)) (9 - 1) w5 (fun k _ hk _ => .inr (by omega)) ((Keep.refl _ _).below hB0) (w.heap.size + 1 + 1) y3)
    (fun h h' => h.trans h') (fun W l o o' _ hl ho _ => KeepC.putObj _ W l o o' hl ho) (Below.refl _ _) (fun _ => rfl)
    (fun pre W => Blk W (w.heap.size + 1) #[.int .i64 (looseP (pre.map Hit6.key))] 3 ∧ Below w.heap.size w W)
    (fun _ _ _ => False)
    (Mild.and (mild_blk (by decide) (fun (pre : List (Hit6 (fun _ => True) w)) => #[.int .i64 (looseP (pre.map Hit6.key))])) (mild_below (Nat.le_refl _) (by omega)))
    (fun _ _ _ _ _ hs _ _ => hs)
    ⟨y2, hB0⟩
    (fun x a' W => ∃ Bs Bx, (w.heap.size + 1 < Bs ∧ w.heap.size + 1 < Bx) ∧ Blk W Bs #[.int .i64 x.s, .int .i64 x.d] 87 ∧ Blk W Bx #[.slice x.pb x.t.binds.length x.cb, .int .i64 x.t.kind, .int .i64 x.t.index, .slice x.pa x.t.args.length x.ca] 43 ∧ a' = { tmps := #[.agg #[.slice pa x1 pc, .int .i64 x3, .int .i64 x4, .slice qa x2 qc], .pointer (some ⟨w.heap.size, 0, none⟩), .int .i64 0, .pointer (some ⟨w.heap.size + 1, 0, none⟩), .pointer (some ⟨Bs, 0, none⟩), .pointer (some ⟨Bx, 0, none⟩), .agg #[.slice pa x1 pc, .int .i64 x3, .int .i64 x4, .slice qa x2 qc], .func (.func 54) #[] #[.pointer (some ⟨w.heap.size + 1 + 1, 0, none⟩)], .agg #[.int .i64 x.s, .int .i64 x.d], .agg #[.slice x.pb x.t.binds.length x.cb, .int .i64 x.t.kind, .int .i64 x.t.index, .slice x.pa x.t.args.length x.ca], undef, undef, undef, undef, undef, undef, undef, undef, undef, undef, undef, undef, undef, undef, undef, undef, undef, undef, undef, undef, undef, undef, undef], defers := [] })
    (fun x a' W l o o' hl ho hoc => by
      rintro ⟨Bs, Bx, h1, h2, h3, h4⟩
      have key : ∀ {B : Nat} {cs : Array Value} {T : TypeId}, Blk W B cs T → Blk (W.putObj l o') B cs T := fun {B cs T} h => by
        have hne : l ≠ B := fun e => by
          subst e
          have hb : W.heap[l]? = _ := h
          rw [hb] at ho; cases ho; simp [Obj.isCells] at hoc
        exact (World.putObj_heap_other (Ne.symm hne)).trans h
      exact ⟨Bs, Bx, h1, key h2, key h3, h4⟩) ?assign ?body ?done ?stop
  case assign =>
    rintro l pre x W K ⟨z2, hB⟩ hK
    have HK := Lib.hid hK; clear hK
    simp only [Hit6.enc] at *
    gi_wp2
    have hs := hB.size
    have hlt := z2.lt
    exact HK.out _ _ (((KeepsOthers.alloc _ _).trans (KeepsOthers.alloc _ _)).from _) (((KeepC.refl _ W).alloc _).alloc _) ⟨(z2.alloc _).alloc _, (hB.alloc hs _).alloc (by simp; omega) _⟩ ⟨W.heap.size, W.heap.size + 1, ⟨by omega, by omega⟩, (Blk.new _ _ _ rfl).alloc _, Blk.new _ _ _ (by simp), rfl⟩
  case body =>
    rintro l pre x a' W ⟨z2, hB⟩ hlt ⟨Bs, Bx, hBB, bS, bX, rfl⟩
    have hr := looseP_range (pre.map Hit6.key)
    have Hst := Lib.hid (looseP_snoc (pre.map Hit6.key) x.key)
    obtain ⟨n, hn⟩ : ∃ n, looseP (pre.map Hit6.key) = n := ⟨_, rfl⟩
    rw [hn] at z2 hr Hst
    clear hn
    have c2 : W.cell? ⟨w.heap.size + 1, 0, none⟩ = some (.int .i64 n) := z2.cell rfl
    have f2 := z2.free 0
    have cs0 : W.cell? ⟨Bs, 0, none⟩ = some (.int .i64 x.s) := bS.cell rfl
    have cx1 : W.cell? ⟨Bx, 1, none⟩ = some (.int .i64 x.t.kind) := bX.cell rfl
    have cx2 : W.cell? ⟨Bx, 2, none⟩ = some (.int .i64 x.t.index) := bX.cell rfl
    obtain ⟨kk, hkk⟩ : ∃ k, x.t.kind = k := ⟨_, rfl⟩
    obtain ⟨ii, hii⟩ : ∃ k, x.t.index = k := ⟨_, rfl⟩
    have Hk := Lib.hid hkk; have Hi := Lib.hid hii
    rw [hkk] at cx1 ⊢
    rw [hii] at cx2 ⊢
    clear hkk hii
    have hlen : (pre ++ [x]).map Hit6.key = pre.map Hit6.key ++ [x.key] := by simp
    by_cases hk : kk = 0 ∧ (x.s : Int) ≤ ii
    · obtain ⟨rfl, hi⟩ := hk
      obtain ⟨q, hq⟩ : ∃ q, IntKind.i64.wrap (ii - (x.s : Int)) = q := ⟨_, rfl⟩
      have Hq := Lib.hid hq
      have hqr : -9223372036854775808 ≤ q ∧ q ≤ 9223372036854775807 := by
        have h : (Lit.int .i64 (wrap64 (ii - (x.s : Int)))).wf = true := wrap64_wf _
        have h2 : IntKind.i64.min ≤ wrap64 (ii - (x.s : Int)) ∧ wrap64 (ii - (x.s : Int)) ≤ 9223372036854775807 := by simpa [Lit.wf] using h
        have h3 : IntKind.i64.min = -9223372036854775808 := by rfl
        have h4 : wrap64 (ii - (x.s : Int)) = q := by rw [← IntWalk.i64_left]; exact hq
        omega
      have hq2 : IntKind.i64.wrap (min q 1000 + 1) = min q 1000 + 1 := IntWalk.i64_in _ (by omega)
      have Hn : Hid (looseP (pre.map Hit6.key ++ [x.key]) = max n (min q 1000 + 1)) := by
        show _ = _
        rw [Hst.out, looseStep, if_pos ⟨Hk.out, by rw [Hit6.key]; simp only []; rw [Hi.out]; exact hi⟩]
        show max n (min (IntKind.i64.wrap (x.t.index - x.s)) 1000 + 1) = _
        rw [Hi.out, Hq.out]
      gi_wp2
      all_goals
        refine ⟨(KeepsOthers.setCell _ _ _).from _, (KeepC.refl _ W).setCell _ _ (by simp [But]), ?_, hB.setCell (p := ⟨w.heap.size + 1, 0, none⟩) (by simp) _⟩
        rw [hlen, Hn.out]
        first
          | exact z2.set 0 _
          | (rw [show max n (min q 1000 + 1) = 1001 by omega]; exact z2.set 0 _)
          | (rw [show max n (min q 1000 + 1) = n by omega]; exact z2.set 0 _)
          | (rw [show max n (min q 1000 + 1) = q + 1 by omega]; exact z2.set 0 _)
    · have Hn : Hid (looseP (pre.map Hit6.key ++ [x.key]) = n) := by
        show _ = _
        rw [Hst.out, looseStep, if_neg]
        rintro ⟨h1, h2⟩
        exact hk ⟨Hk.out.symm.trans h1, by have h3 : (x.s : Int) ≤ x.t.index := h2; rw [Hi.out] at h3; exact h3⟩
      have fin : ∀ (W' : World) (n0 : Nat), W' = W → KeepsFrom n0 W W' ∧ KeepC (But w.heap.size (w.heap.size + 2)) W W' ∧ (Blk W' (w.heap.size + 1) #[.int .i64 (looseP ((pre ++ [x]).map Hit6.key))] 3 ∧ Below w.heap.size w W') := by
        rintro W' n0 rfl
        refine ⟨(KeepsOthers.refl _).from _, KeepC.refl _ _, ?_, hB⟩
        rw [hlen, Hn.out]; exact z2
      have Fin := Lib.hid fin; clear fin
      by_cases hk0 : kk = 0
      · subst hk0
        have hi' : ¬ (x.s : Int) ≤ ii := fun h => hk ⟨rfl, h⟩
        have hi2 : ii < (x.s : Int) := by omega
        gi_wp2
        exact Fin.out _ _ rfl
      · have g0 : (kk == 0) = false := by simpa using hk0
        gi_wp2
        exact Fin.out _ _ rfl
  case done =>
    rintro D ys W hD hys ⟨z2, hB⟩ hK
    have Hys := Lib.hid hys; clear hys
    have hl := looseP_pre t Hfit.out
    rw [← Hys.out] at hl
    obtain ⟨n, hn⟩ : ∃ n, looseP (ys.map Hit6.key) = n := ⟨_, rfl⟩
    rw [hn] at z2 hl
    have Hl := Lib.hid hl
    clear hl hn
    have c2 : W.cell? ⟨w.heap.size + 1, 0, none⟩ = some (.int .i64 n) := z2.cell rfl
    gi_wp2
    refine ⟨by simp, .inl ⟨_, _, rfl, run_takeDeferred hK, ?_⟩⟩
    exact ⟨_, results_tmp rfl _ _ _, by rw [← Hl.out]; rfl, hB.trans (belowK_b (w := w) (Nat.le_refl _) W D _ _ (by omega) hK rfl rfl)⟩
  case stop =>
    rintro D c pre W _ _ h _
    exact h.elim
end Go.Proofs.Ytnpjjkeokcoedaa

namespace Go.Proofs.Ytnpjjkeokcoedaa
open Go.RowKit
def TP1_3 : TI := ⟨1, false, [Value.int IntKind.i64 0], [], none, 8, 2, none, false⟩
theorem TP1_3_ok : TypOk Try.prog 3 TP1_3 := ⟨by kernel_rfl, by kernel_rfl, by kernel_rfl, by kernel_rfl, by kernel_rfl⟩
def TP1_43 : TI := ⟨4, true, [Value.slice none 0 0, Value.int IntKind.i64 0, Value.int IntKind.i64 0, Value.slice none 0 0], [(0, 1, false), (1, 2, true), (3, 1, false)], none, 64, 6, none, false⟩
theorem TP1_43_ok : TypOk Try.prog 43 TP1_43 := ⟨by kernel_rfl, by kernel_rfl, by kernel_rfl, by kernel_rfl, by kernel_rfl⟩
def TP1_114 : TI := ⟨1, false, [Value.slice none 0 0], [], some 3, 24, 5, none, false⟩
theorem TP1_114_ok : TypOk Try.prog 114 TP1_114 := ⟨by kernel_rfl, by kernel_rfl, by kernel_rfl, by kernel_rfl, by kernel_rfl⟩
def TP1_40 : TI := ⟨2, true, [Value.int IntKind.i64 0, Value.int IntKind.i64 0], [(0, 1, false), (1, 1, false)], none, 16, 6, none, true⟩
theorem TP1_40_ok : TypOk Try.prog 40 TP1_40 := ⟨by kernel_rfl, by kernel_rfl, by kernel_rfl, by kernel_rfl, by kernel_rfl⟩
def TP1_36 : TI := ⟨1, false, [Value.slice none 0 0], [], some 52, 24, 5, none, false⟩
theorem TP1_36_ok : TypOk Try.prog 36 TP1_36 := ⟨by kernel_rfl, by kernel_rfl, by kernel_rfl, by kernel_rfl, by kernel_rfl⟩
def TP1_111 : TI := ⟨1, false, [Value.slice none 0 0], [], some 36, 24, 5, none, false⟩
theorem TP1_111_ok : TypOk Try.prog 111 TP1_111 := ⟨by kernel_rfl, by kernel_rfl, by kernel_rfl, by kernel_rfl, by kernel_rfl⟩
def TP1_134 : TI := ⟨1, false, [Value.map none], [], none, 8, 7, some 4, false⟩
theorem TP1_134_ok : TypOk Try.prog 134 TP1_134 := ⟨by kernel_rfl, by kernel_rfl, by kernel_rfl, by kernel_rfl, by kernel_rfl⟩
def TP1_41 : TI := ⟨1, false, [Value.slice none 0 0], [], some 43, 24, 5, none, false⟩
theorem TP1_41_ok : TypOk Try.prog 41 TP1_41 := ⟨by kernel_rfl, by kernel_rfl, by kernel_rfl, by kernel_rfl, by kernel_rfl⟩
def TP1_52 : TI := ⟨2, true, [Value.slice none 0 0, Value.int IntKind.i64 0], [(0, 1, false), (1, 1, false)], none, 32, 6, none, false⟩
theorem TP1_52_ok : TypOk Try.prog 52 TP1_52 := ⟨by kernel_rfl, by kernel_rfl, by kernel_rfl, by kernel_rfl, by kernel_rfl⟩
def TP1_4 : TI := ⟨1, false, [Value.bool false], [], none, 1, 1, none, false⟩
theorem TP1_4_ok : TypOk Try.prog 4 TP1_4 := ⟨by kernel_rfl, by kernel_rfl, by kernel_rfl, by kernel_rfl, by kernel_rfl⟩
def TP1 : List (Nat × TI) := [(3, TP1_3), (43, TP1_43), (114, TP1_114), (40, TP1_40), (36, TP1_36), (111, TP1_111), (134, TP1_134), (41, TP1_41), (52, TP1_52), (4, TP1_4)]
theorem TP1_ok : TabOk Try.prog TP1 := (((((((((((TabOk.nil _).cons TP1_4_ok).cons TP1_52_ok).cons TP1_41_ok).cons TP1_134_ok).cons TP1_111_ok).cons TP1_36_ok).cons TP1_40_ok).cons TP1_114_ok).cons TP1_43_ok).cons TP1_3_ok)

/-! ints -/
def eIs (l : List Int) : List (List D) := l.map fun i => [.v (.int .i64 i)]
theorem eIs_len (l : List Int) : (eIs l).length = l.length := List.length_map ..
theorem eIs_append (l r : List Int) : eIs (l ++ r) = eIs l ++ eIs r := List.map_append ..
theorem eIs_getD (l : List Int) (i : Nat) (h : i < l.length) : (eIs l).getD i [] = [.v (.int .i64 l[i])] := by
  rw [eIs, List.getD_eq_getElem?_getD, List.getElem?_map, List.getElem?_eq_getElem h]; rfl
@[simp] theorem eIs_ok (f g : Nat → Bool) (l : List Int) : D.okss f g (eIs l) = true := D.okss_map _ l fun _ _ => rfl
theorem loose_d (t : Tm) (hz : t.full ≤ 500000) (hf : t.Fit) : PureC Try.prog 16 [.ag (eTm t)] (.v (.int .i64 ((t.looses 0).foldl looseL 0))) := by
  refine pure_below (by kernel_rfl) fun m Im w vs hv => ?_
  match vs, hv with
  | [x], hv =>
    obtain ⟨b, k, i, a, rfl, ht⟩ := agTm hv.1
    refine (loose6_k ht hz hf).mono ?_
    rintro e w' ⟨rfl, hb⟩
    exact ⟨_, rfl, hb, fun _ _ _ => .v _⟩

/-! slices.Clip, Clone, Concat -/
theorem clip_d (l : List Int) : PureC Try.prog 72 [.sl 1 (eIs l) none] (.cl 1 (eIs l)) := by
 refine calldw 0 9 [ResultVar.tmp 2] TP1_ok Try.func72 rfl Try.ntmps72 rfl fun cx hnt hn0 => ?_
 ·skip
  refine dw_seq ?_; refine dwk [] TP1_ok hnt fun K hK => ?_; refine hK _ _ ?_; clear hK K; refine dw_seq ?_; refine dwk [(8, .cl 1 (eIs l))] TP1_ok hnt fun K hK => ?_; refine And.intro (⟨by omega, rfl, by omega⟩) ?_; refine And.intro (VLe.of_eq (by simp)) ?_; refine hK _ _ ?_; clear hK K; refine dw_ret ?_
  exact reta rfl
theorem clone_nil (a : Option Addr) (c : Nat) : PureC Try.prog 71 [.v (.slice a 0 c)] (.sl 1 [] none) := by
 refine calldw 0 8 [ResultVar.tmp 2] TP1_ok Try.func71 rfl Try.ntmps71 rfl fun cx hnt hn0 => ?_
 ·skip
  refine dw_seq ?_; refine dwk [] TP1_ok hnt fun K hK => ?_; refine hK _ _ ?_; clear hK K
  cases a with
  | none =>
   refine dw_seq ?_; refine dw_seq ?_; refine dwk [(4, .v (.bool true))] TP1_ok hnt fun K hK => ?_; refine And.intro (VLe.refl _) ?_; refine hK _ _ ?_; clear hK K; refine dw_cond (t := true) rfl ?_; rw [if_pos rfl]; refine dw_seq ?_; refine dwk [] TP1_ok hnt fun K hK => ?_; refine hK _ _ ?_; clear hK K; refine dw_ret ?_
   exact reta rfl
  | some a =>
   refine dw_seq ?_; refine dw_seq ?_; refine dwk [(4, .v (.bool false))] TP1_ok hnt fun K hK => ?_; refine And.intro (VLe.refl _) ?_; refine hK _ _ ?_; clear hK K; refine dw_cond (t := false) rfl ?_; rw [if_neg (by simp)]; refine dw_skip ?_; refine dw_seq ?_; refine dwk [] TP1_ok hnt fun K hK => ?_; refine And.intro (⟨rfl, by decide⟩) ?_; refine hK _ _ ?_; clear hK K; refine dw_ret ?_
   exact reta rfl
theorem clone_cons (x : Int) (l : List Int) (hl : l.length ≤ 900000) : PureC Try.prog 71 [.sl 1 (eIs (x :: l)) none] (.sl 1 (eIs (x :: l)) none) := by
 refine calldw 0 8 [ResultVar.tmp 2] TP1_ok Try.func71 rfl Try.ntmps71 rfl fun cx hnt hn0 => ?_
 ·skip
  refine dw_seq ?_; refine dwk [] TP1_ok hnt fun K hK => ?_; refine hK _ _ ?_; clear hK K; refine dw_seq ?_; refine dw_seq ?_; refine dwk [(4, .v (.bool false))] TP1_ok hnt fun K hK => ?_; refine And.intro (VLe.refl _) ?_; refine hK _ _ ?_; clear hK K; refine dw_cond (t := false) rfl ?_; rw [if_neg (by simp)]; refine dw_skip ?_; refine dw_seq ?_; refine dwk [] TP1_ok hnt fun K hK => ?_; refine And.intro (⟨rfl, by simp [eIs_len]; omega⟩) ?_
  refine hK _ _ ?_; clear hK K; refine dw_ret ?_
  exact reta rfl
theorem clone_d (l : List Int) (hl : l.length ≤ 900000) : PureC Try.prog 71 [.sl 1 (eIs l) none] (.sl 1 (eIs l) none) := by
  cases l with
  | cons x l => exact clone_cons x l (by simp at hl; omega)
  | nil =>
    refine ⟨by kernel_rfl, fun cx Fr m Im w vs hm hv hR => ?_⟩
    match vs, hv with
    | [v], hv =>
      obtain ⟨a, c, bl, off, X, rfl, _⟩ := rel_sl hv.1
      exact (clone_nil a c).2 cx Fr m Im w _ hm ⟨.v _, trivial⟩ hR
end Go.Proofs.Ytnpjjkeokcoedaa

namespace Go.Proofs.Ytnpjjkeokcoedaa
open Go.RowKit

def eMp (l : List (Int × Value)) : List (Int × D) := l.map fun p => (p.1, .v p.2)
end Go.Proofs.Ytnpjjkeokcoedaa

namespace Go.Proofs.Ytnpjjkeokcoedaa
open Go.RowKit

theorem full_mem {l : List Tm} {t : Tm} (h : t ∈ l) : t.full ≤ Tm.fulls l := by
  induction l with
  | nil => cases h
  | cons u l ih =>
    simp only [Tm.fulls]
    rcases List.mem_cons.1 h with rfl | h
    · omega
    · have := ih h; omega
theorem fulls_len (l : List Tm) : l.length ≤ Tm.fulls l := by
  induction l with
  | nil => simp
  | cons u l ih => have : 1 ≤ u.full := by obtain ⟨b, k, i, a⟩ := u; rw [Tm.full_eq]; omega
                   simp only [Tm.fulls, List.length_cons]; omega
theorem full_args (t : Tm) : t.full = Ty.sizes t.binds + Tm.fulls t.args + 1 := by obtain ⟨b, k, i, a⟩ := t; exact Tm.full_eq ..
theorem fit_args {t : Tm} (h : t.Fit) : ∀ u ∈ t.args, u.Fit := by obtain ⟨b, k, i, a⟩ := t; exact (Tm.fit_iff.1 h).2.2

theorem pflex_d (t : Tm) : PureC Try.prog 69 [.ag (eTm t)] (.v (.bool (decide (t.kind = 2)))) := by
 rw [eTm_eq]
 refine calldw 0 7 [ResultVar.tmp 2] TP1_ok Try.func69 rfl Try.ntmps69 rfl fun cx hnt hn0 => ?_
 ·skip
  refine dw_seq ?_; refine dwk [] TP1_ok hnt fun K hK => ?_; refine hK _ _ ?_; clear hK K; refine dw_seq ?_; refine dwk [(6, .v (.bool (decide (t.kind = 2))))] TP1_ok hnt fun K hK => ?_; refine And.intro (VLe.refl _) ?_; refine hK _ _ ?_; clear hK K; refine dw_ret ?_
  exact reta rfl

namespace Pn
theorem varsL_snoc (n : Int) : ∀ (l : List Tm) (a : Tm) (acc : List Int), varsL n (l ++ [a]) acc = (varsL n l acc).bind fun r => if isVar n r a then some (r ++ [a.headIx]) else none
  | [], a, acc => by simp [varsL]
  | b :: l, a, acc => by
    rw [List.cons_append, varsL, varsL]
    split
    · exact varsL_snoc n l a _
    · rfl
theorem varsL_take (n : Int) (l : List Tm) (j : Nat) (h : j < l.length) {acc : List Int} (hv : varsL n (l.take j) [] = some acc) : varsL n (l.take (j + 1)) [] = if isVar n acc l[j] then some (acc ++ [l[j].headIx]) else none := by
  rw [List.take_add_one, List.getElem?_eq_getElem h]
  show varsL n (l.take j ++ [l[j]]) [] = _
  rw [varsL_snoc, hv]; rfl
theorem varsL_app (n : Int) : ∀ (l r : List Tm) (acc : List Int), varsL n (l ++ r) acc = (varsL n l acc).bind fun x => varsL n r x
  | [], r, acc => rfl
  | b :: l, r, acc => by
    rw [List.cons_append, varsL, varsL]
    split
    · exact varsL_app n l r _
    · rfl
theorem varsL_none (n : Int) (l : List Tm) (j : Nat) (h : varsL n (l.take j) [] = none) : varsL n l [] = none := by
  rw [← List.take_append_drop j l, varsL_app, h]; rfl
theorem varsL_len (n : Int) : ∀ (l : List Tm) (acc r : List Int), varsL n l acc = some r → r.length = acc.length + l.length
  | [], acc, r, h => by cases h; simp
  | b :: l, acc, r, h => by
    rw [varsL] at h
    split at h
    · have := varsL_len n l _ _ h
      simp at this ⊢; omega
    · cases h
end Pn
def eMet (l : List Int) : List (Int × D) := l.map fun i => (i, .v (.bool true))
theorem okm_map {f g : Nat → Bool} {α : Type} (e : α → Int × D) (l : List α) (h : ∀ x ∈ l, (e x).2.ok f g = true) : D.okm f g (l.map e) = true := by
  induction l with
  | nil => rfl
  | cons x l ih =>
    have h1 := h x (by simp)
    have h2 := ih fun y hy => h y (by simp [hy])
    simp only [List.map_cons]
    generalize e x = p at h1 ⊢
    obtain ⟨i, d⟩ := p
    simp only [D.okm, Bool.and_eq_true]; exact ⟨h1, h2⟩
@[simp] theorem eMet_ok (f g : Nat → Bool) (l : List Int) : D.okm f g (eMet l) = true := okm_map _ l fun _ _ => rfl
theorem eMet_find (l : List Int) (x : Int) : (mfind (eMet l) x).getD (.v (.bool false)) = .v (.bool (l.contains x)) := by
  induction l with
  | nil => rfl
  | cons i l ih =>
    show (if x = i then some _ else mfind (eMet l) x).getD _ = _
    by_cases h : x = i
    · simp [h]
    · rw [if_neg h, ih]; simp [h]
theorem eMet_put (l : List Int) (x : Int) (h : l.contains x = false) : mput (eMet l) x (.v (.bool true)) = eMet (l ++ [x]) := by
  induction l with
  | nil => rfl
  | cons i l ih =>
    simp at h
    show (if x = i then _ else _ :: mput (eMet l) x _) = _
    rw [if_neg h.1, ih (by simp [h.2])]; rfl
set_option maxHeartbeats 2000000 in
theorem pvars_d (t : Tm) (n : Int) (hz : t.full ≤ 700000) (hf : t.Fit) : PureC Try.prog 70 [.ag (eTm t), .v (.int .i64 n)] (.tu [.sl 1 (eIs (Pn.vars t n).1) none, .v (.int .i64 (Pn.vars t n).2)]) := by
 have hfl := pflex_d t
 have hz2 := full_args t
 have hz3 := fulls_len t.args
 rw [eTm_eq] at hfl ⊢
 refine calldw 0 61 [ResultVar.tmp 4, ResultVar.tmp 5] TP1_ok Try.func70 rfl Try.ntmps70 rfl fun cx hnt hn0 => ?_
 ·skip
  refine dw_seq ?_; refine dwk [] TP1_ok hnt fun K hK => ?_; refine hK _ _ ?_; clear hK K
  by_cases hk : t.kind = 2
  ·rw [decide_eq_true hk] at hfl
   by_cases hn : n < 0
   ·have hv : Pn.vars t n = ([], 1) := by unfold Pn.vars; rw [if_pos (.inr hn)]
    rw [hv]
    refine dw_seq ?_; refine dw_seq ?_; refine dwk [(17, .v (.bool true))] TP1_ok hnt fun K hK => ?_; refine dcl (hfl) ?_; refine And.intro auT ?_; refine hK _ _ ?_; clear hK K; refine dw_cond (t := true) rfl ?_; rw [if_pos rfl]; refine dw_seq ?_; refine dwk [] TP1_ok hnt fun K hK => ?_; refine hK _ _ ?_; clear hK K; refine dw_ret ?_
    exact reta rfl
   ·have hv : Pn.vars t n = match Pn.varsL n t.args [] with | some l => (l, 0) | none => ([], 6) := by unfold Pn.vars; exact if_neg (by simp [hk]; omega)
    refine dw_seq ?_; refine dw_seq ?_; refine dwk [(17, .v (.bool false))] TP1_ok hnt fun K hK => ?_; refine dcl (hfl) ?_; refine And.intro auF ?_; refine hK _ _ ?_; clear hK K; refine dw_cond (t := false) rfl ?_; rw [if_neg (by simp)]; refine dw_skip ?_; refine dw_seq ?_; refine dwk [] TP1_ok hnt fun K hK => ?_; refine hK _ _ ?_; clear hK K; refine dw_seq ?_; refine dwk [] TP1_ok hnt fun K hK => ?_; refine hK _ _ ?_; clear hK K
    refine dw_seq ?_; refine dw_seq ?_; refine dwk [(22, .v (.int .i64 (↑t.args.length)))] TP1_ok hnt fun K hK => ?_; refine And.intro (dintE (by rw [eTms_len])) ?_; refine hK _ _ ?_; clear hK K; refine dw_block ?_
    refine dw_loop (ι := { p : Nat × List Int // Pn.varsL n (t.args.take p.1) [] = some p.2 }) (fun p => [(.t 1, .v (.int .i64 n)), (.t 6, .mo 10), (.t 7, .sl 1 (eIs p.1.2) (some 17)), (.t 21, .sl 4 (eTms t.args) none), (.t 22, .v (.int .i64 ↑t.args.length)), (.t 23, .v (.int .i64 ↑p.1.1)), (.r 17, .rw 3 1 p.1.2.length), (.o 10, .mp (eMet p.1.2))]) 18 (fun p => t.args.length - p.1.1) (⟨(0, []), rfl⟩) ((VS.trans (VS.rowT (x := 7) (by rw [hnt]; decide) 3 1 rfl) VS.toA)) fun p => ?_
    obtain ⟨⟨j, acc⟩, hp⟩ := p
    dsimp only at hp ⊢
    by_cases hlt : j < t.args.length
    ·have hst := Pn.varsL_take n t.args j hlt hp
     have hal := Pn.varsL_len n _ _ _ hp
     rw [List.length_take, List.length_nil] at hal
     have hmem := List.getElem_mem hlt
     have hva := var_d t.args[j] (by have := full_mem hmem; omega) (fit_args hf _ hmem)
     unfold varV at hva
     rw [eTm_eq] at hva
     have hno : Pn.isVar n acc t.args[j] = false → Pn.vars t n = ([], 6) := fun h => by
      rw [hv, Pn.varsL_none n t.args (j + 1) (by rw [hst, h]; rfl)]
     unfold Pn.isVar at hno hst
     refine dw_seq ?_; refine dwk [(24, .v (.bool true))] TP1_ok hnt fun K hK => ?_; refine And.intro auT ?_; refine hK _ _ ?_; clear hK K; refine dw_seq ?_; refine dw_cond (t := true) rfl ?_; rw [if_pos rfl]; refine dw_skip ?_; refine dw_seq ?_; refine dw_block ?_; refine dw_seq ?_; refine dwk [(25, .q [.sl 2 (eTys t.args[j].binds) none, .v (.int .i64 t.args[j].kind), .v (.int .i64 t.args[j].index), .sl 4 (eTms t.args[j].args) none])] TP1_ok hnt fun K hK => ?_
     refine And.intro (elo (eTms_len t.args)) ?_; refine And.intro (elv (eTms_getD t.args j) (eTm_eq _)) ?_; refine hK _ _ ?_; clear hK K
     cases h1 : longB t.args[j] with
     | false =>
      rw [hno (by simp [h1])]
      rw [h1] at hva
      refine dw_seq ?_; refine dwk [] TP1_ok hnt fun K hK => ?_; refine dcl (hva) ?_; refine hK _ _ ?_; clear hK K; refine dw_seq ?_; refine dw_seq ?_; refine dwk [] TP1_ok hnt fun K hK => ?_; refine hK _ _ ?_; clear hK K; refine dw_cond (t := true) rfl ?_; rw [if_pos rfl]; refine dw_seq ?_; refine dwk [] TP1_ok hnt fun K hK => ?_; refine hK _ _ ?_; clear hK K; refine dw_ret ?_
      exact reta rfl
     | true =>
      rw [h1, if_pos rfl, if_pos rfl] at hva
      refine dw_seq ?_; refine dwk [] TP1_ok hnt fun K hK => ?_; refine dcl (hva) ?_; refine hK _ _ ?_; clear hK K
      by_cases h2 : t.args[j].kind = 0
      ·by_cases h3 : t.args[j].headIx < n
       ·have hfi := eMet_find acc t.args[j].headIx
        cases h4 : acc.contains t.args[j].headIx with
        | true =>
         rw [hno (by rw [h1, h4]; simp)]
         rw [h4] at hfi
         refine dw_seq ?_; refine dw_seq ?_; refine dwk [(37, .v (.bool false)), (43, .v (.bool false)), (49, .v (.bool true))] TP1_ok hnt fun K hK => ?_; refine And.intro auF ?_; refine And.intro auF ?_; refine And.intro (VLe.of_eq hfi) ?_; refine hK _ _ ?_; clear hK K; refine dw_cond (t := true) rfl ?_; rw [if_pos rfl]; refine dw_seq ?_; refine dwk [] TP1_ok hnt fun K hK => ?_; refine hK _ _ ?_; clear hK K
         refine dw_ret ?_
         exact reta rfl
        | false =>
         rw [h4] at hfi
         have hpu := eMet_put acc _ h4
         rw [if_pos (by simp only [h1, h2, h3, h4]; rfl)] at hst; refine dw_seq ?_; refine dw_seq ?_; refine dwk [(37, .v (.bool false)), (43, .v (.bool false)), (49, .v (.bool false))] TP1_ok hnt fun K hK => ?_; refine And.intro auF ?_; refine And.intro auF ?_; refine And.intro (VLe.of_eq hfi) ?_; refine hK _ _ ?_; clear hK K; refine dw_cond (t := false) rfl ?_; rw [if_neg (by simp)]; refine dw_skip ?_; refine dw_seq ?_
         refine dwk [] TP1_ok hnt fun K hK => ?_; refine hK _ _ ?_; clear hK K; refine dwk [(58, .sl 1 (eIs (acc ++ [t.args[j].headIx])) (some 17))] TP1_ok hnt fun K hK => ?_; refine And.intro (⟨by rw [eIs_len], by rw [eIs_len]; simp; omega⟩) ?_; refine And.intro (VLe.of_eq (by rw [eIs_append]; rfl)) ?_; refine hK _ _ ?_; clear hK K; refine dwk [(59, .v (.int .i64 (↑(j + 1))))] TP1_ok hnt fun K hK => ?_; refine And.intro auI ?_
         refine hK _ _ ?_; clear hK K
         have hl5 : (eIs acc).length = acc.length := eIs_len acc
         refine ⟨⟨(j + 1, acc ++ [t.args[j].headIx]), hst⟩, by first | omega | (dsimp only; omega), (by try simp only [List.length_append, List.length_take, List.length_cons, List.length_nil, Nat.zero_add, hpu, hl5]; exact VS.toA)⟩
       ·rw [hno (by rw [h1, h2, decide_eq_false h3]; simp)]
        refine dw_seq ?_; refine dw_seq ?_; refine dwk [(37, .v (.bool false)), (43, .v (.bool true))] TP1_ok hnt fun K hK => ?_; refine And.intro auF ?_; refine And.intro auT ?_; refine hK _ _ ?_; clear hK K; refine dw_cond (t := true) rfl ?_; rw [if_pos rfl]; refine dw_seq ?_; refine dwk [] TP1_ok hnt fun K hK => ?_; refine hK _ _ ?_; clear hK K; refine dw_ret ?_
        exact reta rfl
      ·rw [hno (by rw [h1, decide_eq_false h2]; simp)]
       refine dw_seq ?_; refine dw_seq ?_; refine dwk [(37, .v (.bool true))] TP1_ok hnt fun K hK => ?_; refine And.intro auT ?_; refine hK _ _ ?_; clear hK K; refine dw_cond (t := true) rfl ?_; rw [if_pos rfl]; refine dw_seq ?_; refine dwk [] TP1_ok hnt fun K hK => ?_; refine hK _ _ ?_; clear hK K; refine dw_ret ?_
       exact reta rfl
    ·rw [List.take_of_length_le (by omega)] at hp
     rw [hv, hp]
     refine dw_seq ?_; refine dwk [(24, .v (.bool false))] TP1_ok hnt fun K hK => ?_; refine And.intro auF ?_; refine hK _ _ ?_; clear hK K; refine dw_seq ?_; refine dw_cond (t := false) rfl ?_; rw [if_neg (by simp)]; refine dw_exit ?_; refine dw_seq ?_; refine dwk [] TP1_ok hnt fun K hK => ?_; refine hK _ _ ?_; clear hK K; refine dw_ret ?_
     exact reta rfl
  ·have hv : Pn.vars t n = ([], 1) := by unfold Pn.vars; rw [if_pos (.inl hk)]
   rw [hv]
   rw [decide_eq_false hk] at hfl
   refine dw_seq ?_; refine dw_seq ?_; refine dwk [] TP1_ok hnt fun K hK => ?_; refine dcl (hfl) ?_; refine hK _ _ ?_; clear hK K; refine dw_cond (t := true) rfl ?_; rw [if_pos rfl]; refine dw_seq ?_; refine dwk [] TP1_ok hnt fun K hK => ?_; refine hK _ _ ?_; clear hK K; refine dw_ret ?_
   exact reta rfl
end Go.Proofs.Ytnpjjkeokcoedaa

namespace Go.Proofs.Ytnpjjkeokcoedaa
open Go.RowKit

namespace Pn
def atL : List Int → Nat → List (Int × Value)
  | [], _ => []
  | v :: l, k => (v, .int .i64 k) :: atL l (k + 1)
end Pn
@[simp] theorem atL_ok (f g : Nat → Bool) (l : List Int) (k : Nat) : D.okm f g (eMp (Pn.atL l k)) = true := okm_map _ _ fun _ _ => rfl
end Go.Proofs.Ytnpjjkeokcoedaa

namespace Go.Proofs.Ytnpjjkeokcoedaa
open Go.RowKit
def TL8_27 : TI := ⟨1, false, [Value.slice none 0 0], [], some 29, 24, 5, none, false⟩
theorem TL8_27_ok : TypOk Try.prog 27 TL8_27 := ⟨by kernel_rfl, by kernel_rfl, by kernel_rfl, by kernel_rfl, by kernel_rfl⟩
def TL8_3 : TI := ⟨1, false, [Value.int IntKind.i64 0], [], none, 8, 2, none, false⟩
theorem TL8_3_ok : TypOk Try.prog 3 TL8_3 := ⟨by kernel_rfl, by kernel_rfl, by kernel_rfl, by kernel_rfl, by kernel_rfl⟩
def TL8_29 : TI := ⟨4, true, [Value.slice none 0 0, Value.int IntKind.i64 0, Value.int IntKind.i64 0, Value.slice none 0 0], [(0, 1, false), (1, 2, true), (3, 1, false)], none, 64, 6, none, false⟩
theorem TL8_29_ok : TypOk Try.prog 29 TL8_29 := ⟨by kernel_rfl, by kernel_rfl, by kernel_rfl, by kernel_rfl, by kernel_rfl⟩
def TL8_26 : TI := ⟨2, true, [Value.int IntKind.i64 0, Value.int IntKind.i64 0], [(0, 1, false), (1, 1, false)], none, 16, 6, none, true⟩
theorem TL8_26_ok : TypOk Try.prog 26 TL8_26 := ⟨by kernel_rfl, by kernel_rfl, by kernel_rfl, by kernel_rfl, by kernel_rfl⟩
def TL8 : List (Nat × TI) := [(27, TL8_27), (3, TL8_3), (29, TL8_29), (26, TL8_26)]
theorem TL8_ok : TabOk Try.prog TL8 := (((((TabOk.nil _).cons TL8_26_ok).cons TL8_29_ok).cons TL8_3_ok).cons TL8_27_ok)
mutual
def lowB : Tm → Bool
  | .mk _ k i a => !(decide (k = 0) && decide (900000 < i)) && lowsB a
def lowsB : List Tm → Bool
  | [] => true
  | t :: l => lowB t && lowsB l
end
theorem lowsB_all : ∀ l : List Tm, lowsB l = l.all lowB
  | [] => rfl
  | t :: l => by rw [lowsB, lowsB_all l]; rfl
theorem lowB_eq (t : Tm) : lowB t = (!(decide (t.kind = 0) && decide (900000 < t.index)) && lowsB t.args) := by cases t; rfl
theorem all_false {l : List Tm} {j : Nat} (h : j < l.length) (hf : lowB l[j] = false) : lowsB l = false := by
  rw [lowsB_all, List.all_eq_false]; exact ⟨l[j], List.getElem_mem h, by rw [hf]; simp⟩
set_option maxHeartbeats 1000000 in
theorem low_list (l : List Tm) (hl : l.length ≤ 1000000) (ih : ∀ t ∈ l, PureC Try.prog 21 [.sl 4 (eTms t.args) none] (.v (.bool (lowsB t.args)))) : PureC Try.prog 21 [.sl 4 (eTms l) none] (.v (.bool (lowsB l))) := by
 refine call_of_dw 0 35 [ResultVar.tmp 2] TL8_ok (by kernel_rfl) Try.func21 rfl Try.ntmps21 rfl (by simp) ?dwords ?dbody
 case dwords => simp [wordsOk, D.ok, D.oks, rnames, eTms_ok]
 case dbody =>
  intro cx hnt hn0
  refine dw_seq ?_; refine dwk [] TL8_ok hnt fun K hK => ?_; refine hK _ _ ?_; clear hK K; refine dw_seq (dw_seq ?_); refine dwk [] TL8_ok hnt fun K hK => ?_; refine hK _ _ ?_; clear hK K; refine dw_block ?_
  refine dw_loop (ι := { j : Nat // ∀ i (h : i < l.length), i < j → lowB l[i] = true }) (fun j => [(.t 0, .sl 4 (eTms l) none), (.t 3, .v (.int .i64 (j.1 : Int)))]) 1 (fun j => l.length - j.1) ⟨0, fun i h1 h2 => by omega⟩ VS.toA fun j => ?_
  obtain ⟨j, hj⟩ := j
  dsimp only
  refine dw_seq (dw_seq ?_)
  by_cases hlt : j < l.length
  ·have hi := ih l[j] (List.getElem_mem hlt)
   have hlo := lowB_eq l[j]
   refine dwk [(7, .v (.bool true))] TL8_ok hnt fun K hK => ?_; refine And.intro (dtrue (by rw [eTms_len]; omega)) ?_; refine hK _ _ ?_; clear hK K; refine dw_cond (t := true) rfl ?_; rw [if_pos rfl]; refine dw_skip ?_; refine dw_seq (dw_block (dw_seq ?_))
   have hq : (eTms l).getD (j : Int).toNat [] = [.sl 2 (eTys l[j].binds) none, .v (.int .i64 l[j].kind), .v (.int .i64 l[j].index), .sl 4 (eTms l[j].args) none] := by rw [Int.toNat_natCast, eTms_getD l j hlt, eTm_eq]
   have hb : (0 : Int) ≤ (j : Int) ∧ (j : Int) < ((eTms l).length : Int) := ⟨by omega, by rw [eTms_len]; omega⟩
   have hret : lowB l[j] = false → ∀ σ N, DW Try.prog cx (.ret) σ N (RetOk TL8 [ResultVar.tmp 2] (.v (.bool (lowsB l))) []) → True := fun _ _ _ _ => trivial
   by_cases hk : l[j].kind = 0
   ·by_cases hx : 900000 < l[j].index
    ·have hf : lowsB l = false := all_false hlt (by rw [hlo]; simp [hk, hx])
     rw [hf]
     refine dwk [(12, .q [.sl 2 (eTys l[j].binds) none, .v (.int .i64 l[j].kind), .v (.int .i64 l[j].index), .sl 4 (eTms l[j].args) none]), (16, .v (.bool true)), (20, .q [.sl 2 (eTys l[j].binds) none, .v (.int .i64 l[j].kind), .v (.int .i64 l[j].index), .sl 4 (eTms l[j].args) none]), (24, .v (.bool true))] TL8_ok hnt fun K hK => ?_; refine And.intro (hb) ?_; refine And.intro (VLe.of_eq (by rw [hq])) ?_
     refine And.intro (VLe.of_eq (by simp [hk])) ?_; refine And.intro (hb) ?_; refine And.intro (VLe.of_eq (by rw [hq])) ?_; refine And.intro (dtrue hx) ?_; refine hK _ _ ?_; clear hK K; refine dw_cond (t := true) rfl ?_; rw [if_pos rfl]; refine dw_seq ?_; refine dwk [] TL8_ok hnt fun K hK => ?_; refine hK _ _ ?_; clear hK K; refine dw_ret ?_
     exact retv (N := 0) (.inr rfl) rfl (VLe.refl _) trivial
    ·cases hla : lowsB l[j].args with
     | false =>
      have hf : lowsB l = false := all_false hlt (by rw [hlo, hla]; simp)
      rw [hf]
      rw [hla] at hi
      refine dwk [(12, .q [.sl 2 (eTys l[j].binds) none, .v (.int .i64 l[j].kind), .v (.int .i64 l[j].index), .sl 4 (eTms l[j].args) none]), (16, .v (.bool true)), (20, .q [.sl 2 (eTys l[j].binds) none, .v (.int .i64 l[j].kind), .v (.int .i64 l[j].index), .sl 4 (eTms l[j].args) none]), (24, .v (.bool false)), (29, .q [.sl 2 (eTys l[j].binds) none, .v (.int .i64 l[j].kind), .v (.int .i64 l[j].index), .sl 4 (eTms l[j].args) none])] TL8_ok hnt fun K hK => ?_
      refine And.intro (hb) ?_; refine And.intro (VLe.of_eq (by rw [hq])) ?_; refine And.intro (VLe.of_eq (by simp [hk])) ?_; refine And.intro (hb) ?_; refine And.intro (VLe.of_eq (by rw [hq])) ?_; refine And.intro (dfalse hx) ?_; refine And.intro (hb) ?_; refine And.intro (VLe.of_eq (by rw [hq])) ?_; refine dcl (hi) ?_; refine hK _ _ ?_; clear hK K; refine dw_cond (t := true) rfl ?_; rw [if_pos rfl]; refine dw_seq ?_
      refine dwk [] TL8_ok hnt fun K hK => ?_; refine hK _ _ ?_; clear hK K; refine dw_ret ?_
      exact retv (N := 0) (.inr rfl) rfl (VLe.refl _) trivial
     | true =>
      rw [hla] at hi
      refine dwk [(12, .q [.sl 2 (eTys l[j].binds) none, .v (.int .i64 l[j].kind), .v (.int .i64 l[j].index), .sl 4 (eTms l[j].args) none]), (16, .v (.bool true)), (20, .q [.sl 2 (eTys l[j].binds) none, .v (.int .i64 l[j].kind), .v (.int .i64 l[j].index), .sl 4 (eTms l[j].args) none]), (24, .v (.bool false)), (29, .q [.sl 2 (eTys l[j].binds) none, .v (.int .i64 l[j].kind), .v (.int .i64 l[j].index), .sl 4 (eTms l[j].args) none])] TL8_ok hnt fun K hK => ?_
      refine And.intro (hb) ?_; refine And.intro (VLe.of_eq (by rw [hq])) ?_; refine And.intro (VLe.of_eq (by simp [hk])) ?_; refine And.intro (hb) ?_; refine And.intro (VLe.of_eq (by rw [hq])) ?_; refine And.intro (dfalse hx) ?_; refine And.intro (hb) ?_; refine And.intro (VLe.of_eq (by rw [hq])) ?_; refine dcl (hi) ?_; refine hK _ _ ?_; clear hK K; refine dw_cond (t := false) rfl ?_; rw [if_neg (by simp)]
      refine dw_skip ?_; refine dwk [(9, .v (.int .i64 ((j + 1 : Nat) : Int)))] TL8_ok hnt fun K hK => ?_; refine And.intro (dintE (by rw [IntWalk.i64_in _ (by omega)]; omega)) ?_; refine hK _ _ ?_; clear hK K
      refine ⟨⟨j + 1, fun i h1 h2 => ?_⟩, by dsimp only; omega, VS.toA⟩
      by_cases he : i = j
      ·subst he; rw [hlo, hla]; simp [hx]
      ·exact hj i h1 (by omega)
   ·cases hla : lowsB l[j].args with
    | false =>
     have hf : lowsB l = false := all_false hlt (by rw [hlo, hla]; simp)
     rw [hf]
     rw [hla] at hi
     refine dwk [(12, .q [.sl 2 (eTys l[j].binds) none, .v (.int .i64 l[j].kind), .v (.int .i64 l[j].index), .sl 4 (eTms l[j].args) none]), (16, .v (.bool false)), (29, .q [.sl 2 (eTys l[j].binds) none, .v (.int .i64 l[j].kind), .v (.int .i64 l[j].index), .sl 4 (eTms l[j].args) none])] TL8_ok hnt fun K hK => ?_; refine And.intro (hb) ?_; refine And.intro (VLe.of_eq (by rw [hq])) ?_; refine And.intro (VLe.of_eq (by simp [hk])) ?_
     refine And.intro (hb) ?_; refine And.intro (VLe.of_eq (by rw [hq])) ?_; refine dcl (hi) ?_; refine hK _ _ ?_; clear hK K; refine dw_cond (t := true) rfl ?_; rw [if_pos rfl]; refine dw_seq ?_; refine dwk [] TL8_ok hnt fun K hK => ?_; refine hK _ _ ?_; clear hK K; refine dw_ret ?_
     exact retv (N := 0) (.inr rfl) rfl (VLe.refl _) trivial
    | true =>
     rw [hla] at hi
     refine dwk [(12, .q [.sl 2 (eTys l[j].binds) none, .v (.int .i64 l[j].kind), .v (.int .i64 l[j].index), .sl 4 (eTms l[j].args) none]), (16, .v (.bool false)), (29, .q [.sl 2 (eTys l[j].binds) none, .v (.int .i64 l[j].kind), .v (.int .i64 l[j].index), .sl 4 (eTms l[j].args) none])] TL8_ok hnt fun K hK => ?_; refine And.intro (hb) ?_; refine And.intro (VLe.of_eq (by rw [hq])) ?_; refine And.intro (VLe.of_eq (by simp [hk])) ?_
     refine And.intro (hb) ?_; refine And.intro (VLe.of_eq (by rw [hq])) ?_; refine dcl (hi) ?_; refine hK _ _ ?_; clear hK K; refine dw_cond (t := false) rfl ?_; rw [if_neg (by simp)]; refine dw_skip ?_; refine dwk [(9, .v (.int .i64 ((j + 1 : Nat) : Int)))] TL8_ok hnt fun K hK => ?_; refine And.intro (dintE (by rw [IntWalk.i64_in _ (by omega)]; omega)) ?_; refine hK _ _ ?_; clear hK K
     refine ⟨⟨j + 1, fun i h1 h2 => ?_⟩, by dsimp only; omega, VS.toA⟩
     by_cases he : i = j
     ·subst he; rw [hlo, hla]; simp [hk]
     ·exact hj i h1 (by omega)
  ·have hf : lowsB l = true := by
    rw [lowsB_all, List.all_eq_true]
    intro t ht
    obtain ⟨i, hi, rfl⟩ := List.getElem_of_mem ht
    exact hj i hi (by omega)
   rw [hf]
   refine dwk [(7, .v (.bool false))] TL8_ok hnt fun K hK => ?_; refine And.intro (dfalse (by rw [eTms_len]; omega)) ?_; refine hK _ _ ?_; clear hK K; refine dw_cond (t := false) rfl ?_; rw [if_neg (by simp)]; refine dw_exit ?_; refine dw_seq ?_; refine dwk [] TL8_ok hnt fun K hK => ?_; refine hK _ _ ?_; clear hK K; refine dw_ret ?_
   exact retv (N := 0) (.inr rfl) rfl (VLe.refl _) trivial
theorem low_args : ∀ (t : Tm), Wide t → PureC Try.prog 21 [.sl 4 (eTms t.args) none] (.v (.bool (lowsB t.args))) := by
  intro t
  induction t using Tm.ind with
  | h bs k i a ih =>
    intro hw
    obtain ⟨_, w2, w3⟩ := hw.inv
    exact low_list a (by omega) fun u hu => ih u hu (w3 u hu)
theorem low_d (l : List Tm) (hl : l.length ≤ 1000000) (hw : ∀ t ∈ l, Wide t) : PureC Try.prog 21 [.sl 4 (eTms l) none] (.v (.bool (lowsB l))) := low_list l hl fun t ht => low_args t (hw t ht)
theorem wide_full : ∀ t : Tm, t.full ≤ 100000 → Wide t := by
  intro t
  induction t using Tm.ind with
  | h bs k i a ih =>
    intro h
    rw [Tm.full_eq] at h
    have h1 := Ty.le_sizes bs
    have key : ∀ l : List Tm, l.length ≤ Tm.fulls l ∧ ∀ u ∈ l, u.full ≤ Tm.fulls l := by
      intro l
      induction l with
      | nil => exact ⟨by simp, nofun⟩
      | cons t l ihl =>
        have ht : 1 ≤ t.full := by obtain ⟨_, _, _, _⟩ := t; rw [Tm.full_eq]; omega
        simp only [Tm.fulls, List.length_cons]
        refine ⟨by omega, fun u hu => ?_⟩
        rcases List.mem_cons.1 hu with rfl | hu
        · omega
        · have := ihl.2 u hu; omega
    have h2 := key a
    exact .mk _ _ _ _ (by omega) (by omega) fun t ht => ih t ht (by have := h2.2 t ht; omega)
end Go.Proofs.Ytnpjjkeokcoedaa

namespace Go.Proofs.Ytnpjjkeokcoedaa
open Go.RowKit
namespace Pn
end Pn
end Go.Proofs.Ytnpjjkeokcoedaa

namespace Go.Proofs.Ytnpjjkeokcoedaa
open Go.RowKit

namespace Pn
end Pn
end Go.Proofs.Ytnpjjkeokcoedaa

namespace Go.Proofs.Ytnpjjkeokcoedaa
open Go.RowKit

def CallG (P : Program) (f : FuncId) (args : List D) (R W : List (Key × D)) (V : D) : Prop :=
  entersB P f = true ∧ ∀ cx (Fr : Nat → Prop) m Im w a σ vs, St cx Fr m Im w a σ → RelL m Im w vs args → (∀ p ∈ R, get σ p.1 = some p.2) →
    Calls P f vs.toArray w fun e w' => ∃ v m' Im', e = .returned v ∧ St cx Fr m' Im' w' a (puts (dropT R σ) W) ∧ Rel m' Im' w' v V
theorem CallG.n {P : Program} {f : FuncId} {args : List D} {R W : List (Key × D)} {V : D} (h : CallG P f args R W V) (nm : Nat) : CallN P f args R nm W V :=
  ⟨h.1, fun cx Fr m Im w a σ vs _ hs hv hR => (h.2 cx Fr m Im w a σ vs hs hv hR).mono fun e w' ⟨v, m', Im', q1, q2, q3⟩ => ⟨v, m', Im', q1, q2.less fun k hk => hk.1, q3⟩⟩
theorem CallG.vle {P : Program} {f : FuncId} {args args' : List D} {R W : List (Key × D)} {V V' : D} (h : CallG P f args R W V) (ha : VLeL args' args) (hv : VLe V V') : CallG P f args' R W V' := by
  refine ⟨h.1, fun cx Fr m Im w a σ vs hs hr hR => (h.2 cx Fr m Im w a σ vs hs ?_ hR).mono ?_⟩
  · rw [relL_iff] at hr ⊢
    refine ⟨hr.1.trans ha.1, fun i hi => ?_⟩
    have hi' : i < args'.length := by rw [ha.1]; exact hi
    exact ha.2 i hi' hi m Im w _ (hr.2 i hi')
  · rintro e w' ⟨v, m', Im', rfl, h1, h2⟩
    exact ⟨v, m', Im', rfl, h1, hv _ _ _ _ h2⟩
def rowsR (R : List (Key × D)) : List Nat := R.filterMap fun p => match p.1 with | .r g => some g | _ => none
def rowN (R : List (Key × D)) : Nat → Bool := fun g => (rowsR R).contains g
theorem mem_rowsR {R : List (Key × D)} {g : Nat} {d : D} (h : (Key.r g, d) ∈ R) : rowN R g = true := by
  unfold rowN; rw [List.contains_iff_mem]; exact List.mem_filterMap.2 ⟨_, h, rfl⟩
theorem of_rowsR {R : List (Key × D)} {g : Nat} (h : rowN R g = true) : ∃ d, (Key.r g, d) ∈ R := by
  unfold rowN at h; rw [List.contains_iff_mem] at h
  obtain ⟨p, hp, e⟩ := List.mem_filterMap.1 h
  obtain ⟨key, d⟩ := p
  cases key with
  | r g' => simp at e; subst e; exact ⟨d, hp⟩
  | _ => cases e
def gkey : Key → Bool
  | .c _ _ => true
  | .o _ => true
  | .r _ => true
  | _ => false
def wordsG (args : List D) (R W : List (Key × D)) (V : D) (N0 : Nat) : Bool :=
  args.all (fun d => d.ok (inN R) (rowN R)) && R.all (fun p => p.2.ok (inN R) (rowN R) && gkey p.1) && W.all (fun p => p.2.ok (inN R) (rowN R) && (match p.1 with | .c k _ => inN R k | .o k => inN R k | .r g => rowN R g | _ => false)) && V.ok (inN R) (rowN R) && (rnames R).all (fun k => decide (k < N0)) && (rowsR R).all (fun g => decide (g < N0) && W.any fun p => Key.eq p.1 (.r g))
set_option maxHeartbeats 2000000 in
theorem callG_of_dw {P : Program} {T : List (Nat × TI)} {f : FuncId} {fn : Func} {c : Code} {args : List D} {R W : List (Key × D)} {V : D} (N0 nt : Nat) (rs : List ResultVar) (hT : TabOk P T) (hen : entersB P f = true) (hf : P.funcs[f]? = some fn) (hb : fn.body = some c) (hnt : fn.ntmps = nt) (hrs : fn.results.toList = rs)
    (hal : args.length ≤ nt) (hw : wordsG args R W V N0 = true) (h : ∀ cx : Cx, cx.nt = nt → cx.n0 = N0 → DW P cx c (argsT 0 args R) N0 (RetOk T rs V W)) : CallG P f args R W V := by
  refine ⟨hen, fun cx Fr m Im w a σ vs hs0 hargs hR => ?_⟩
  have hmem := hs0.mem
  simp only [wordsG, Bool.and_eq_true, List.all_eq_true, decide_eq_true_eq] at hw
  obtain ⟨⟨⟨⟨⟨w1, w2⟩, w3⟩, w4⟩, w5⟩, w6⟩ := hw
  have hRc : ∀ k off d, (Key.c k off, d) ∈ R → ∃ b v, m.blk k = some b ∧ w.cell? ⟨b, off, none⟩ = some v ∧ Rel m Im w v d := fun k off d hm => hs0.ce k off d (hR _ hm)
  have hRo : ∀ k d, (Key.o k, d) ∈ R → ∃ b, m.obj k = some b ∧ ObOk m Im w b d := fun k d hm => hs0.ok k d (hR _ hm)
  have hRr : ∀ g d, (Key.r g, d) ∈ R → ∃ Rw, m.row g = some Rw ∧ RoOk m Im w Rw d := fun g d hm => hs0.ro g d (hR _ hm)
  let RB : Nat → Prop := fun b => ∃ g Rw, rowN R g = true ∧ m.row g = some Rw ∧ Rw.hv.ownBlock = some b
  have hnoj : ∀ X J, (Key.j, D.j X J) ∉ R := fun X J hm => by have := (w2 _ hm).2; cases this
  have hin : ∀ k b, inN R k = true → m.blk k = some b → Tch m R b := fun k b hk hb => by
    rcases of_rnames hk with ⟨off, d, hm⟩ | ⟨d, hm⟩
    · exact .inl ⟨k, off, d, hm, hb⟩
    · obtain ⟨b', q1, _⟩ := hRo _ _ hm
      have := hmem.dis k b hb
      rw [this] at q1; cases q1
  have hino : ∀ k b, inN R k = true → m.obj k = some b → Tch m R b := fun k b hk hb => by
    rcases of_rnames hk with ⟨off, d, hm⟩ | ⟨d, hm⟩
    · obtain ⟨b', v, q1, _⟩ := hRc _ _ _ hm
      have := hmem.dis k b' q1
      rw [this] at hb; cases hb
    · exact .inr (.inr ⟨k, d, hm, hb⟩)
  have hlt : ∀ k, inN R k = true → k < N0 := fun k hk => w5 k (by unfold inN at hk; rwa [List.contains_iff_mem] at hk)
  have hltr : ∀ g, rowN R g = true → g < N0 := fun g hg => (w6 g (by unfold rowN at hg; rwa [List.contains_iff_mem] at hg)).1
  have hTb : ∀ b k, Tch m R b → m.blk k = some b → inN R k = true := fun b k ht hk => by
    rcases ht with ⟨k', off, d, hm, hb⟩ | ⟨X, J, hm, _⟩ | ⟨k', d, hm, hb⟩
    · have := hmem.inj k k' b hk hb; subst this; exact mem_rnames hm
    · exact absurd hm (hnoj X J)
    · exact absurd hk (hmem.oblk k' k b hb)
  have hTo : ∀ b k, Tch m R b → m.obj k = some b → inN R k = true := fun b k ht hk => by
    rcases ht with ⟨k', off, d, hm, hb⟩ | ⟨X, J, hm, _⟩ | ⟨k', d, hm, hb⟩
    · exact absurd hb (hmem.oblk k k' b hk)
    · exact absurd hm (hnoj X J)
    · have := hmem.oinj k k' b hk hb; subst this; exact mem_rnamesO hm
  have hTr : ∀ b g Rw, Tch m R b → m.row g = some Rw → Rw.hv.ownBlock ≠ some b := fun b g Rw ht hg e => by
    rcases ht with ⟨k', off, d, hm, hb⟩ | ⟨X, J, hm, _⟩ | ⟨k', d, hm, hb⟩
    · exact hmem.rblk g Rw b k' hg e hb
    · exact absurd hm (hnoj X J)
    · exact hmem.orow k' g Rw b hb hg e
  have hTown : ∀ b, Tch m R b → cx.C b ∨ cx.w0.heap.size ≤ b := fun b ht => by
    rcases ht with ⟨k', off, d, hm, hb⟩ | ⟨X, J, hm, _⟩ | ⟨k', d, hm, hb⟩
    · exact hmem.own k' b hb
    · exact absurd hm (hnoj X J)
    · exact hmem.oown k' b hb
  have hTim : ∀ b o, Tch m R b → ¬ Im b o := fun b o ht => by
    rcases ht with ⟨k', off, d, hm, hb⟩ | ⟨X, J, hm, _⟩ | ⟨k', d, hm, hb⟩
    · exact hmem.nim k' b o hb
    · exact absurd hm (hnoj X J)
    · exact hmem.onim k' b o hb
  have hTX : ∀ b X J, Tch m R b → XOk cx m Im w X J → ¬ X b := fun b X J ht hX hb => by
    rcases ht with ⟨k', off, d, hm, hb'⟩ | ⟨X', J', hm, _⟩ | ⟨k', d, hm, hb'⟩
    · exact hX.blk b k' hb hb'
    · exact hnoj X' J' hm
    · exact hX.obj b k' hb hb'
  refine calls_of_wp hf hb ?_
  let cx' : Cx := { w0 := w, C := fun b => Tch m R b ∨ RB b, Im0 := Im, m0 := m.cut (inN R) (rowN R), nt := nt, n0 := N0, h0 := fun k b hk => hlt k (Mp.cut_blk hk).1, h0o := fun k b hk => hlt k (Mp.cut_obj hk).1, CR := RB, hCR := fun b h => .inr h, h0r := fun g Rw hg => hltr g (Mp.cut_row hg).1 }
  have hst : St cx' (fun k => N0 ≤ k) (m.cut (inN R) (rowN R)) Im w { tmps := vs.toArray ++ Array.replicate (fn.ntmps - vs.toArray.size) undef, defers := [] } (argsT 0 args R) := by
    have hvl : vs.length = args.length := (relL_iff.1 hargs).1
    refine ⟨{
      off := Off.refl _ _, im := hmem.im, imb := fun b o h => .inl h, im0 := fun b o h => h
      own := fun k b hk => .inl (.inl (hin k b (Mp.cut_blk hk).1 (Mp.cut_blk hk).2))
      lt := fun k b hk => hmem.lt k b (Mp.cut_blk hk).2
      free := fun k b o hk => hmem.free k b o (Mp.cut_blk hk).2
      nim := fun k b o hk => hmem.nim k b o (Mp.cut_blk hk).2
      inj := fun k k' b hk hk' => hmem.inj k k' b (Mp.cut_blk hk).2 (Mp.cut_blk hk').2
      row := fun g R hg => hmem.row g R (Mp.cut_row hg).2
      rIm := fun g R b o hg => hmem.rIm g R b o (Mp.cut_row hg).2
      rblk := fun g R b k hg hb hk => hmem.rblk g R b k (Mp.cut_row hg).2 hb (Mp.cut_blk hk).2
      rinj := fun g g' R R' b hg hg' => hmem.rinj g g' R R' b (Mp.cut_row hg).2 (Mp.cut_row hg').2
      fr := fun k hk => ⟨?f1, ?f2, ?f3⟩
      m0 := fun k b hk => hk
      m0o := fun k b hk => hk
      oown := fun k b hk => .inl (.inl (hino k b (Mp.cut_obj hk).1 (Mp.cut_obj hk).2))
      olt := fun k b hk => hmem.olt k b (Mp.cut_obj hk).2
      onim := fun k b o hk => hmem.onim k b o (Mp.cut_obj hk).2
      oinj := fun k k' b hk hk' => hmem.oinj k k' b (Mp.cut_obj hk).2 (Mp.cut_obj hk').2
      oblk := fun k k' b hk hk' => hmem.oblk k k' b (Mp.cut_obj hk).2 (Mp.cut_blk hk').2
      orow := fun k g R b hk hg => hmem.orow k g R b (Mp.cut_obj hk).2 (Mp.cut_row hg).2
      dis := fun k b hk => ?dis
      k0 := KeepI.refl _ _
      rown := fun g Rw b hg hb => .inr ⟨g, Rw, (Mp.cut_row hg).1, (Mp.cut_row hg).2, hb⟩
      m0r := fun g Rw hg => ⟨Rw, hg, Nat.le_refl _, fun _ => rfl⟩ }, rfl, ?sz, fun x d hx => ?tm, fun k off d hx => ?ce, fun g d hx => ?ro, fun d hx => ?jk, fun k d hx => ?okk⟩
    case f1 =>
      by_cases hk2 : inN R k = true
      · have := hlt k hk2; omega
      · simp [Mp.cut, hk2]
    case f2 =>
      by_cases hk2 : rowN R k = true
      · have := hltr k hk2; omega
      · simp [Mp.cut, hk2]
    case f3 =>
      by_cases hk2 : inN R k = true
      · have := hlt k hk2; omega
      · simp [Mp.cut, hk2]
    case dis =>
      have := hmem.dis k b (Mp.cut_blk hk).2
      show (if _ then m.obj k else none) = none
      rw [this]; simp
    case sz => simp [cx', hvl, hnt]; omega
    case tm =>
      rcases get_argsT args 0 x hx with ⟨j, h1, h2⟩ | hx
      · have hj : j < args.length := by
          rcases Nat.lt_or_ge j args.length with h' | h'
          · exact h'
          · rw [List.getElem?_eq_none h'] at h2; cases h2
        rw [List.getElem?_eq_getElem hj] at h2
        cases h2
        have hr := (relL_iff.1 hargs).2 j hj
        have hx' : x = j := by omega
        subst hx'
        have : (vs.toArray ++ Array.replicate (fn.ntmps - vs.toArray.size) undef).getD x undef = vs.getD x undef := by
          have hx2 : x < vs.length := by omega
          rw [Array.getD_eq_getD_getElem?, Array.getElem?_append_left (by simpa using hx2), List.getD_eq_getElem?_getD]
          simp
        show Rel _ _ _ ((vs.toArray ++ Array.replicate (fn.ntmps - vs.toArray.size) undef).getD x undef) _
        rw [this]
        exact hr.cut (w1 _ (List.getElem_mem hj))
      · have := (w2 _ (mem_of_get hx)).2
        cases this
    case ce =>
      rw [get_argsN (fun x => by simp) args 0] at hx
      have hm := mem_of_get hx
      obtain ⟨b, v, q1, q2, q3⟩ := hRc _ _ _ hm
      exact ⟨b, v, by simp only [Mp.cut, mem_rnames hm, if_true]; exact q1, q2, q3.cut (w2 _ hm).1⟩
    case ro =>
      rw [get_argsN (fun x => by simp) args 0] at hx
      have hm := mem_of_get hx
      obtain ⟨Rw, q1, q2⟩ := hRr _ _ hm
      exact ⟨Rw, by simp only [Mp.cut, mem_rowsR hm, if_true]; exact q1, q2.cut (w2 _ hm).1⟩
    case jk =>
      rw [get_argsN (fun x => by simp) args 0] at hx
      have := (w2 _ (mem_of_get hx)).2
      cases this
    case okk =>
      rw [get_argsN (fun x => by simp) args 0] at hx
      have hm := mem_of_get hx
      obtain ⟨b, q1, q2⟩ := hRo _ _ hm
      exact ⟨b, by simp only [Mp.cut, mem_rnamesO hm, if_true]; exact q1, q2.cut (w2 _ hm).1⟩
  refine Code.wp_mono (fun e a' w' ⟨σ', N', m', Im', ⟨hq1, ⟨V', hq2, hq3⟩, hq4⟩, hs⟩ => ?_) (h cx' rfl rfl _ Im w _ hst)
  obtain ⟨v, r1, r2⟩ := resD_run (P := P) (fn := fn) hT hs (by rw [hrs]; exact hq2)
  have hmem' := hs.mem
  have hoff : Off (fun b => Tch m R b ∨ RB b) w w' := hmem'.off
  have hki : KeepI Im w w' := hmem'.k0
  have hi : ∀ b o, Im b o → Im' b o := hmem'.im0
  have hib : ∀ b o, Im' b o → Im b o ∨ w.heap.size ≤ b ∨ RB b := hmem'.imb
  have hrown : ∀ g Rw b, m'.row g = some Rw → Rw.hv.ownBlock = some b → w.heap.size ≤ b ∨ RB b := hmem'.rown
  have hsame : ∀ b, b < w.heap.size → ¬ Tch m R b → ¬ RB b → w'.heap[b]? = w.heap[b]? := fun b hb h1 h2 => hoff.block b hb fun h => h.elim h1 h2
  have hmb : ∀ k b, inN R k = true → m.blk k = some b → m'.blk k = some b := fun k b hk hb => hmem'.m0 k b (by show (m.cut (inN R) (rowN R)).blk k = some b; simp [Mp.cut, hk, hb])
  have hmo : ∀ k b, inN R k = true → m.obj k = some b → m'.obj k = some b := fun k b hk hb => hmem'.m0o k b (by show (m.cut (inN R) (rowN R)).obj k = some b; simp [Mp.cut, hk, hb])
  have hm' : ∀ k b, inN R k = true → m'.blk k = some b → m.blk k = some b := fun k b hk hb => by
    rcases of_rnames hk with ⟨off, d, hm⟩ | ⟨d, hm⟩
    · obtain ⟨b', _, q1, _⟩ := hRc _ _ _ hm
      have := hmb k b' hk q1
      rw [this] at hb; cases hb; exact q1
    · obtain ⟨b', q1, _⟩ := hRo _ _ hm
      have := hmo k b' hk q1
      rw [hmem'.dis k b hb] at this; cases this
  have hmo' : ∀ k b, inN R k = true → m'.obj k = some b → m.obj k = some b := fun k b hk hb => by
    rcases of_rnames hk with ⟨off, d, hm⟩ | ⟨d, hm⟩
    · obtain ⟨b', _, q1, _⟩ := hRc _ _ _ hm
      have := hmb k b' hk q1
      rw [hmem'.dis k b' this] at hb; cases hb
    · obtain ⟨b', q1, _⟩ := hRo _ _ hm
      have := hmo k b' hk q1
      rw [this] at hb; cases hb; exact q1
  let m2 : Mp := ⟨m.blk, fun g => if rowN R g then m'.row g else m.row g, m.obj⟩
  have h2r : ∀ {g Rw}, m2.row g = some Rw → (rowN R g = true ∧ m'.row g = some Rw) ∨ (rowN R g = false ∧ m.row g = some Rw) := fun {g Rw} hg => by
    cases hr : rowN R g with
    | true => left; simp [m2, hr] at hg; exact ⟨rfl, hg⟩
    | false => right; simp [m2, hr] at hg; exact ⟨rfl, hg⟩
  have hRBr : ∀ b g Rw, RB b → m.row g = some Rw → Rw.hv.ownBlock = some b → rowN R g = true := fun b g Rw ⟨g2, R2, q1, q2, q3⟩ hg ho => by
    have := hmem.rinj g2 g R2 Rw b q2 hg q3 ho
    subst this; exact q1
  have hRBb : ∀ b k, RB b → m.blk k ≠ some b := fun b k ⟨g2, R2, q1, q2, q3⟩ => hmem.rblk g2 R2 b k q2 q3
  have hRBo : ∀ b k, RB b → m.obj k ≠ some b := fun b k ⟨g2, R2, q1, q2, q3⟩ hk => hmem.orow k g2 R2 b hk q2 q3
  have hRBw : ∀ b, RB b → cx.w0.heap.size ≤ b ∨ cx.CR b := fun b ⟨g2, R2, q1, q2, q3⟩ => hmem.rown g2 R2 b q2 q3
  have hrlt : ∀ g Rw b, m.row g = some Rw → Rw.hv.ownBlock = some b → b < w.heap.size := fun g Rw b hg ho => by
    obtain ⟨xs, hx⟩ := hmem.row g Rw hg
    exact (row_lt hx ho).2
  have hle : m.le m2 := ⟨fun _ _ h => h, fun g Rw hg => by
    cases hr : rowN R g with
    | true =>
      obtain ⟨R', q1, q2⟩ := hmem'.m0r g Rw (by show (m.cut (inN R) (rowN R)).row g = some Rw; simp [Mp.cut, hr, hg])
      exact ⟨R', by simp [m2, hr, q1], q2⟩
    | false => exact ⟨Rw, by simp [m2, hr, hg], Nat.le_refl _, fun _ => rfl⟩, fun _ _ h => h⟩
  have hcutle : (m'.cut (inN R) (rowN R)).le m2 := ⟨fun k b hk => hm' k b (Mp.cut_blk hk).1 (Mp.cut_blk hk).2, fun g Rw hg => ⟨Rw, by simp [m2, (Mp.cut_row hg).1, (Mp.cut_row hg).2], Nat.le_refl _, fun _ => rfl⟩, fun k b hk => hmo' k b (Mp.cut_obj hk).1 (Mp.cut_obj hk).2⟩
  have hrel : ∀ {x d}, Rel m' Im' w' x d → d.ok (inN R) (rowN R) = true → Rel m2 Im' w' x d := fun hx hd => (hx.cut hd).mono hcutle (KeepI.refl _ _) fun _ _ h => h
  have hmono : ∀ {x d}, Rel m Im w x d → Rel m2 Im' w' x d := fun hx => hx.mono hle hki hi
  have hmem2 : MemOk cx Fr m2 Im' w' := {
    off := ⟨hoff.os.trans hmem.off.os, hoff.tape.trans hmem.off.tape, hoff.output.trans hmem.off.output, Nat.le_trans hmem.off.size hoff.size, fun b hb hC => (hsame b (Nat.lt_of_lt_of_le hb hmem.off.size) (fun h => (hTown b h).elim hC fun h => Nat.lt_irrefl _ (Nat.lt_of_lt_of_le hb h)) (fun h => (hRBw b h).elim (fun h => Nat.lt_irrefl _ (Nat.lt_of_lt_of_le hb h)) fun h => hC (cx.hCR b h))).trans (hmem.off.block b hb hC)⟩
    im := hmem'.im
    imb := fun b o hh => by
      rcases hib b o hh with h1 | h1 | h1
      · exact hmem.imb b o h1
      · exact .inr (.inl (Nat.le_trans hmem.off.size h1))
      · exact .inr (hRBw b h1)
    im0 := fun b o hh => hi b o (hmem.im0 b o hh)
    own := hmem.own
    lt := fun k b hk => Nat.lt_of_lt_of_le (hmem.lt k b hk) hoff.size
    free := fun k b o hk => by
      cases hn : inN R k with
      | true => exact hmem'.free k b o (hmb k b hn hk)
      | false => exact (World.frozen?_of_block (a := ⟨b, o, none⟩) (hsame b (hmem.lt k b hk) (fun h => by rw [hTb b k h hk] at hn; cases hn) fun h => hRBb b k h hk)).trans (hmem.free k b o hk)
    nim := fun k b o hk hh => by
      cases hn : inN R k with
      | true => exact hmem'.nim k b o (hmb k b hn hk) hh
      | false =>
        rcases hib b o hh with h1 | h1 | h1
        · exact hmem.nim k b o hk h1
        · have := hmem.lt k b hk; omega
        · exact hRBb b k h1 hk
    inj := hmem.inj
    row := fun g Rw hg => by
      rcases h2r hg with ⟨_, hg⟩ | ⟨hn, hg⟩
      · exact hmem'.row g Rw hg
      · obtain ⟨xs, hx⟩ := hmem.row g Rw hg
        refine ⟨xs, hx.1, ?_⟩
        rcases hx.2 with h0 | ⟨g', cap, cur, e, h1, h2, h3⟩
        · exact .inl h0
        · refine .inr ⟨g', cap, cur, e, h1, ?_, h3⟩
          have ho : Rw.hv.ownBlock = some g' := by rw [e]; rfl
          rw [hsame g' (lt_of_block h2) (fun ht => hTr g' g Rw ht hg ho) fun ht => by rw [hRBr g' g Rw ht hg ho] at hn; cases hn]; exact h2
    rIm := fun g Rw b o hg ho hh => by
      rcases h2r hg with ⟨_, hg⟩ | ⟨hn, hg⟩
      · exact hmem'.rIm g Rw b o hg ho hh
      · rcases hib b o hh with h1 | h1 | h1
        · exact hmem.rIm g Rw b o hg ho h1
        · have := hrlt g Rw b hg ho; omega
        · rw [hRBr b g Rw h1 hg ho] at hn; cases hn
    rblk := fun g Rw b k hg ho hk => by
      rcases h2r hg with ⟨_, hg⟩ | ⟨hn, hg⟩
      · rcases hrown g Rw b hg ho with h1 | h1
        · have := hmem.lt k b hk; omega
        · exact hRBb b k h1 hk
      · exact hmem.rblk g Rw b k hg ho hk
    rinj := fun g g' Rw Rw' b hg hg' ho ho' => by
      rcases h2r hg with ⟨hn, hg⟩ | ⟨hn, hg⟩ <;> rcases h2r hg' with ⟨hn', hg'⟩ | ⟨hn', hg'⟩
      · exact hmem'.rinj g g' Rw Rw' b hg hg' ho ho'
      · rcases hrown g Rw b hg ho with h1 | h1
        · have := hrlt g' Rw' b hg' ho'; omega
        · rw [hRBr b g' Rw' h1 hg' ho'] at hn'; cases hn'
      · rcases hrown g' Rw' b hg' ho' with h1 | h1
        · have := hrlt g Rw b hg ho; omega
        · rw [hRBr b g Rw h1 hg ho] at hn; cases hn
      · exact hmem.rinj g g' Rw Rw' b hg hg' ho ho'
    fr := fun k hk => ⟨(hmem.fr k hk).1, by
      cases hn : rowN R k with
      | true =>
        obtain ⟨d, hm⟩ := of_rowsR hn
        obtain ⟨Rw, q1, _⟩ := hRr _ _ hm
        rw [(hmem.fr k hk).2.1] at q1; cases q1
      | false => simp [m2, hn, (hmem.fr k hk).2.1], (hmem.fr k hk).2.2⟩
    m0 := hmem.m0
    m0o := hmem.m0o
    oown := hmem.oown
    olt := fun k b hk => Nat.lt_of_lt_of_le (hmem.olt k b hk) hoff.size
    onim := fun k b o hk hh => by
      cases hn : inN R k with
      | true => exact hmem'.onim k b o (hmo k b hn hk) hh
      | false =>
        rcases hib b o hh with h1 | h1 | h1
        · exact hmem.onim k b o hk h1
        · have := hmem.olt k b hk; omega
        · exact hRBo b k h1 hk
    oinj := hmem.oinj
    oblk := hmem.oblk
    orow := fun k g Rw b hk hg ho => by
      rcases h2r hg with ⟨_, hg⟩ | ⟨hn, hg⟩
      · rcases hrown g Rw b hg ho with h1 | h1
        · have := hmem.olt k b hk; omega
        · exact hRBo b k h1 hk
      · exact hmem.orow k g Rw b hk hg ho
    dis := hmem.dis
    k0 := hmem.k0.trans (hki.weaken hmem.im0)
    rown := fun g Rw b hg ho => by
      rcases h2r hg with ⟨_, hg⟩ | ⟨hn, hg⟩
      · rcases hrown g Rw b hg ho with h1 | h1
        · exact .inl (Nat.le_trans hmem.off.size h1)
        · exact hRBw b h1
      · exact hmem.rown g Rw b hg ho
    m0r := hmem.m0r_le hle }
  have hg0 : ∀ k, get (dropT R σ) k = if touches R k then none else get σ k := fun k => by
    unfold dropT
    rw [get_filter (fun k => !touches R k)]
    cases touches R k <;> rfl
  let keep : Key → Bool := fun k => match k with | .r g => !rowN R g | _ => true
  have hg1 : ∀ k, get ((dropT R σ).filter fun p => keep p.1) k = if keep k then get (dropT R σ) k else none := fun k => get_filter keep _ k
  have hst1 : St cx Fr m2 Im' w' a ((dropT R σ).filter fun p => keep p.1) := by
    refine ⟨hmem2, hs0.df, hs0.nt, fun x d hx => ?_, fun k off d hx => ?_, fun g d hx => ?_, fun d hx => ?_, fun k d hx => ?_⟩
    · rw [hg1, if_pos rfl, hg0] at hx; simp only [touches] at hx; exact hmono (hs0.tm x d hx)
    · rw [hg1, if_pos rfl, hg0] at hx
      by_cases ht : touches R (.c k off) = true
      · rw [if_pos ht] at hx; cases hx
      · rw [if_neg ht] at hx
        obtain ⟨b, u, q1, q2, q3⟩ := hs0.ce k off d hx
        refine ⟨b, u, q1, ?_, hmono q3⟩
        refine (World.cell?_of_block (a := ⟨b, off, none⟩) (hsame b (ltOfCell q2) (fun hb => ?_) fun hb => hRBb b k hb q1)).trans q2
        rcases hb with ⟨k', off', d', hm, hb⟩ | ⟨X, J, hm, hb⟩ | ⟨k', d', hm, hb⟩
        · have := hmem.inj k k' b q1 hb
          subst this
          exact ht (by simp only [touches, List.any_eq_true]; exact ⟨_, hm, by simp⟩)
        · exact absurd hm (hnoj X J)
        · exact hmem.oblk k' k b hb q1
    · rw [hg1] at hx
      cases hn : rowN R g with
      | true => simp [keep, hn] at hx
      | false =>
        rw [if_pos (by simp [keep, hn]), hg0] at hx; simp only [touches] at hx
        obtain ⟨Rw, q1, q2⟩ := hs0.ro g d hx
        exact ⟨Rw, by simp [m2, hn, q1], q2.mono (fun b hb => hsame b (hmem.rlt q1 hb) (fun ht => hTr b g Rw ht q1 hb) fun ht => by rw [hRBr b g Rw ht q1 hb] at hn; cases hn) hle hki hi fun b o hb hh => (hib b o hh).elim id fun h2 => h2.elim (fun h2 => absurd (hmem.rlt q1 hb) (Nat.not_lt.2 h2)) fun ht => by rw [hRBr b g Rw ht q1 hb] at hn; cases hn⟩
    · rw [hg1, if_pos rfl, hg0] at hx
      have ht : touches R .j = false := by
        cases ht : touches R .j with
        | false => rfl
        | true =>
          simp only [touches, List.any_eq_true] at ht
          obtain ⟨⟨k, d'⟩, hp, hj⟩ := ht
          cases k <;> simp [isJ] at hj
          have := (w2 _ hp).2; cases this
      rw [ht] at hx
      obtain ⟨X, J, e, hX⟩ := hs0.jk d hx
      have hRX : ∀ b, X b → ¬ RB b := fun b hb ⟨g2, R2, q1, q2, q3⟩ => hX.row b g2 R2 hb q2 q3
      have hxs : ∀ b, X b → w'.heap[b]? = w.heap[b]? := fun b hb => hsame b (hX.lt b hb) (fun ht => hTX b X J ht hX hb) (hRX b hb)
      refine ⟨X, J, e, hX.stable _ hoff.size hxs, fun w2 hs2 hx2 => hX.stable w2 (Nat.le_trans hoff.size hs2) fun b hb => (hx2 b hb).trans (hxs b hb), fun b hb => Nat.lt_of_lt_of_le (hX.lt b hb) hoff.size, hX.own, fun b o hb hh => ?_, hX.blk, fun b g Rw hb hg ho => ?_, hX.obj⟩
      · rcases hib b o hh with h1 | h1 | h1
        · exact hX.nim b o hb h1
        · have := hX.lt b hb; omega
        · exact hRX b hb h1
      · rcases h2r hg with ⟨_, hg⟩ | ⟨hn, hg⟩
        · rcases hrown g Rw b hg ho with h1 | h1
          · have := hX.lt b hb; omega
          · exact hRX b hb h1
        · exact hX.row b g Rw hb hg ho
    · rw [hg1, if_pos rfl, hg0] at hx
      by_cases ht : touches R (.o k) = true
      · rw [if_pos ht] at hx; cases hx
      · rw [if_neg ht] at hx
        obtain ⟨b, q1, q2⟩ := hs0.ok k d hx
        refine ⟨b, q1, q2.mono (hsame b (hmem.olt k b q1) (fun hT => ?_) fun hb => hRBo b k hb q1) hle hki hi⟩
        rcases hT with ⟨k', off', d', hm, hb'⟩ | ⟨X', J', hm, hb'⟩ | ⟨k', d', hm, hb'⟩
        · exact hmem.oblk k k' b q1 hb'
        · exact hnoj X' J' hm
        · have := hmem.oinj k k' b q1 hb'
          subst this
          exact ht (by simp only [touches, List.any_eq_true]; exact ⟨_, hm, by simp⟩)
  have hW : Holds cx m2 Im' w' W := fun p hp => by
    have hok := w3 p hp
    have hg := hq4 p hp
    obtain ⟨key, d⟩ := p
    cases key with
    | c k off =>
      have hk : inN R k = true := hok.2
      rcases hg with hg | ⟨d', hg, e, _⟩
      · obtain ⟨b, x, q1, q2, q3⟩ := hs.ce k off d hg
        exact ⟨b, x, hm' k b hk q1, q2, hrel q3 hok.1⟩
      · obtain ⟨b, x, q1, q2, q3⟩ := hs.ce k off d' hg
        exact ⟨b, x, hm' k b hk q1, q2, hrel (e _ _ _ _ q3) hok.1⟩
    | o k =>
      have hk : inN R k = true := hok.2
      rcases hg with hg | ⟨d', hg, e, hf⟩
      · obtain ⟨b, q1, q2⟩ := hs.ok k d hg
        exact ⟨b, hmo' k b hk q1, (q2.cut hok.1).mono rfl hcutle (KeepI.refl _ _) fun _ _ h => h⟩
      · exact hf.elim
    | r g =>
      have hk : rowN R g = true := hok.2
      rcases hg with hg | ⟨d', hg, e, hf⟩
      · obtain ⟨Rw, q1, q2⟩ := hs.ro g d hg
        exact ⟨Rw, by simp [m2, hk, q1], (q2.cut hok.1).mono (fun _ _ => rfl) hcutle (KeepI.refl _ _) (fun _ _ h => h) fun _ _ _ h => h⟩
      · exact hf.elim
    | j => cases hok.2
    | t x => cases hok.2
  have hst2 := (hst1.putHolds hW).sub (σ' := puts (dropT R σ) W) fun k d hk => by
    by_cases hW : ∃ p ∈ W, p.1 = k
    · rw [← hk]; exact get_puts_in W _ _ k hW
    · have hW' : ∀ p ∈ W, p.1 ≠ k := fun p hp e => hW ⟨p, hp, e⟩
      rw [get_puts_not W _ _ hW'] at hk ⊢
      rw [hg1, if_pos]
      · exact hk
      · cases k with
        | r g =>
          show (!rowN R g) = true
          cases hn : rowN R g with
          | false => rfl
          | true =>
            have := (w6 g (by unfold rowN at hn; rwa [List.contains_iff_mem] at hn)).2
            simp only [List.any_eq_true] at this
            obtain ⟨p, hp, e⟩ := this
            exact absurd (Key.eq_iff.1 e) (hW' p hp)
        | _ => rfl
  have hfin : ∃ v' m2 Im2, Ending.returned v = .returned v' ∧ St cx Fr m2 Im2 w' a (puts (dropT R σ) W) ∧ Rel m2 Im2 w' v' V :=
    ⟨v, m2, Im', rfl, hst2, hrel (hq3 _ _ _ _ r2) w4⟩
  rcases hq1 with rfl | rfl
  · exact ⟨hs.df, v, r1, hfin⟩
  · exact ⟨hs.df, v, r1, hfin⟩
end Go.Proofs.Ytnpjjkeokcoedaa

namespace Go.Proofs.Ytnpjjkeokcoedaa
open Go.RowKit
def TP3_43 : TI := ⟨4, true, [Value.slice none 0 0, Value.int IntKind.i64 0, Value.int IntKind.i64 0, Value.slice none 0 0], [(0, 1, false), (1, 2, true), (3, 1, false)], none, 64, 6, none, false⟩
theorem TP3_43_ok : TypOk Try.prog 43 TP3_43 := ⟨by kernel_rfl, by kernel_rfl, by kernel_rfl, by kernel_rfl, by kernel_rfl⟩
def TP3_114 : TI := ⟨1, false, [Value.slice none 0 0], [], some 3, 24, 5, none, false⟩
theorem TP3_114_ok : TypOk Try.prog 114 TP3_114 := ⟨by kernel_rfl, by kernel_rfl, by kernel_rfl, by kernel_rfl, by kernel_rfl⟩
def TP3_36 : TI := ⟨1, false, [Value.slice none 0 0], [], some 52, 24, 5, none, false⟩
theorem TP3_36_ok : TypOk Try.prog 36 TP3_36 := ⟨by kernel_rfl, by kernel_rfl, by kernel_rfl, by kernel_rfl, by kernel_rfl⟩
def TP3_90 : TI := ⟨1, false, [Value.slice none 0 0], [], some 127, 24, 5, none, false⟩
theorem TP3_90_ok : TypOk Try.prog 90 TP3_90 := ⟨by kernel_rfl, by kernel_rfl, by kernel_rfl, by kernel_rfl, by kernel_rfl⟩
def TP3_3 : TI := ⟨1, false, [Value.int IntKind.i64 0], [], none, 8, 2, none, false⟩
theorem TP3_3_ok : TypOk Try.prog 3 TP3_3 := ⟨by kernel_rfl, by kernel_rfl, by kernel_rfl, by kernel_rfl, by kernel_rfl⟩
def TP3_52 : TI := ⟨2, true, [Value.slice none 0 0, Value.int IntKind.i64 0], [(0, 1, false), (1, 1, false)], none, 32, 6, none, false⟩
theorem TP3_52_ok : TypOk Try.prog 52 TP3_52 := ⟨by kernel_rfl, by kernel_rfl, by kernel_rfl, by kernel_rfl, by kernel_rfl⟩
def TP3_41 : TI := ⟨1, false, [Value.slice none 0 0], [], some 43, 24, 5, none, false⟩
theorem TP3_41_ok : TypOk Try.prog 41 TP3_41 := ⟨by kernel_rfl, by kernel_rfl, by kernel_rfl, by kernel_rfl, by kernel_rfl⟩
def TP3_48 : TI := ⟨1, false, [Value.int IntKind.i64 0], [], none, 8, 2, none, false⟩
theorem TP3_48_ok : TypOk Try.prog 48 TP3_48 := ⟨by kernel_rfl, by kernel_rfl, by kernel_rfl, by kernel_rfl, by kernel_rfl⟩
def TP3_111 : TI := ⟨1, false, [Value.slice none 0 0], [], some 36, 24, 5, none, false⟩
theorem TP3_111_ok : TypOk Try.prog 111 TP3_111 := ⟨by kernel_rfl, by kernel_rfl, by kernel_rfl, by kernel_rfl, by kernel_rfl⟩
def TP3_40 : TI := ⟨2, true, [Value.int IntKind.i64 0, Value.int IntKind.i64 0], [(0, 1, false), (1, 1, false)], none, 16, 6, none, true⟩
theorem TP3_40_ok : TypOk Try.prog 40 TP3_40 := ⟨by kernel_rfl, by kernel_rfl, by kernel_rfl, by kernel_rfl, by kernel_rfl⟩
def TP3_127 : TI := ⟨4, true, [Value.int IntKind.i64 0, Value.slice none 0 0, Value.slice none 0 0, Value.slice none 0 0], [(0, 1, false), (1, 1, false), (2, 1, false), (3, 1, false)], none, 80, 6, none, false⟩
theorem TP3_127_ok : TypOk Try.prog 127 TP3_127 := ⟨by kernel_rfl, by kernel_rfl, by kernel_rfl, by kernel_rfl, by kernel_rfl⟩
def TP3 : List (Nat × TI) := [(43, TP3_43), (114, TP3_114), (36, TP3_36), (90, TP3_90), (3, TP3_3), (52, TP3_52), (41, TP3_41), (48, TP3_48), (111, TP3_111), (40, TP3_40), (127, TP3_127)]
theorem TP3_ok : TabOk Try.prog TP3 := ((((((((((((TabOk.nil _).cons TP3_127_ok).cons TP3_40_ok).cons TP3_111_ok).cons TP3_48_ok).cons TP3_41_ok).cons TP3_52_ok).cons TP3_3_ok).cons TP3_90_ok).cons TP3_36_ok).cons TP3_114_ok).cons TP3_43_ok)

def eUse (u : Pn.Use) : List D := [.v (.int .i64 u.mt), .sl 1 (eIs u.vars) none, .sl 2 (eTys u.binds) none, .sl 1 (eIs u.path) none]
def eUses (l : List Pn.Use) : List (List D) := l.map eUse
theorem eUses_len (l : List Pn.Use) : (eUses l).length = l.length := List.length_map ..
theorem eUses_append (l r : List Pn.Use) : eUses (l ++ r) = eUses l ++ eUses r := List.map_append ..
@[simp] theorem eUses_ok (f g : Nat → Bool) (l : List Pn.Use) : D.okss f g (eUses l) = true := D.okss_map _ l fun u _ => by simp [eUse, D.oks, D.ok, eIs_ok, eTys_ok]
namespace Pn
theorem usess_app (ar : List Ty) (p : List Int) : ∀ (l r : List Tm) (k : Nat), usess (l ++ r) ar p k = if (usess l ar p k).2 then ((usess l ar p k).1 ++ (usess r ar p (k + l.length)).1, (usess r ar p (k + l.length)).2) else ((usess l ar p k).1, false)
  | [], r, k => by simp [usess]
  | t :: l, r, k => by
    simp only [List.cons_append, usess]
    rw [usess_app ar p l r (k + 1), show k + 1 + l.length = k + (t :: l).length by simp; omega]
    by_cases h : (uses t ar (p ++ [(k : Int)])).2 = true
    · simp only [h, if_true]
      by_cases h2 : (usess l ar p (k + 1)).2 = true
      · simp [h2]
      · simp [h2]
    · simp [h]
theorem usess_take (ar : List Ty) (p : List Int) (a : List Tm) (j : Nat) (hj : j < a.length) (h : (usess (a.take j) ar p 0).2 = true) :
    usess (a.take (j + 1)) ar p 0 = ((usess (a.take j) ar p 0).1 ++ (uses a[j] ar (p ++ [(j : Int)])).1, (uses a[j] ar (p ++ [(j : Int)])).2) := by
  rw [List.take_add_one, List.getElem?_eq_getElem hj]
  show usess (a.take j ++ [a[j]]) ar p 0 = _
  rw [usess_app, if_pos h, List.length_take, Nat.min_eq_left (by omega), Nat.zero_add]
  simp only [usess]
  by_cases h2 : (uses a[j] ar (p ++ [(j : Int)])).2 = true
  · simp [h2]
  · simp [h2]
theorem usess_stop (ar : List Ty) (p : List Int) (a : List Tm) (j : Nat) (h : (usess (a.take j) ar p 0).2 = false) : usess a ar p 0 = usess (a.take j) ar p 0 := by
  have h1 : usess a ar p 0 = usess (a.take j ++ a.drop j) ar p 0 := by rw [List.take_append_drop]
  rw [h1, usess_app, if_neg (by simp [h])]
  rw [← h]
theorem usess_len (ar : List Ty) (p : List Int) : ∀ (a : List Tm) (k : Nat) (_ : ∀ t ∈ a, ∀ p, (uses t ar p).1.length ≤ t.full), (usess a ar p k).1.length ≤ Tm.fulls a
  | [], k, _ => by simp [usess, Tm.fulls]
  | t :: l, k, h => by
    have h1 := h t (by simp) (p ++ [(k : Int)])
    have h2 := usess_len ar p l (k + 1) fun t ht => h t (by simp [ht])
    rw [usess, Tm.fulls]
    split
    · simp; omega
    · dsimp only; omega
theorem uses_len (t : Tm) : ∀ (ar : List Ty) (p : List Int), (uses t ar p).1.length ≤ t.full := by
  induction t using Tm.ind with
  | h bs k i a ih =>
    intro ar p
    rw [uses_eq, Tm.full_eq]
    split
    · split <;> simp
    · have := usess_len (ar ++ bs) p a 0 fun t ht p => ih t ht _ p
      omega
end Pn
def usesV (l : List Pn.Use) (r : List Pn.Use × Bool) : D := if r.2 then .tu [.sl 4 (eUses (l ++ r.1)) (some 0), .v (.int .i64 0)] else .tu [.v (.slice none 0 0), .v (.int .i64 6)]
def UsesC (t : Tm) : Prop := ∀ (ar : List Ty) (p : List Int) (l : List Pn.Use), Ty.sizes ar + t.full ≤ 700000 → p.length + t.full ≤ 700000 → l.length + t.full ≤ 800000 → t.Fit →
  CallG Try.prog 56 [.sl 4 (eUses l) (some 0), .ag (eTm t), .sl 2 (eTys ar) none, .sl 1 (eIs p) none] [(.r 0, .rw 127 4 l.length)] [(.r 0, .rw 127 4 (l ++ (Pn.uses t ar p).1).length)] (usesV l (Pn.uses t ar p))
set_option maxHeartbeats 4000000 in
theorem uses_body (t : Tm) (ih : ∀ u ∈ t.args, UsesC u) (ar : List Ty) (p : List Int) (l : List Pn.Use) (h1 : Ty.sizes ar + t.full ≤ 700000) (h2 : p.length + t.full ≤ 700000) (h3 : l.length + t.full ≤ 800000) (hf : t.Fit) (c : Code) (hc : Try.f56.body = some c)
  (cx : Cx) (hnt : cx.nt = 71) (hn0 : cx.n0 ≤ 1) : DW Try.prog cx c (argsT 0 [.sl 4 (eUses l) (some 0), .ag (eTm t), .sl 2 (eTys ar) none, .sl 1 (eIs p) none] [(.r 0, .rw 127 4 l.length)]) 1 (RetOk TP3 [ResultVar.tmp 8, ResultVar.tmp 9] (usesV l (Pn.uses t ar p)) [(.r 0, .rw 127 4 (l ++ (Pn.uses t ar p).1).length)]) := by
 cases hc
 have hfl := pflex_d t
 have hfu := full_args t
 have hal := fulls_len t.args
 have hbl := Ty.le_sizes t.binds
 have har := Ty.le_sizes ar
 have hcat := concat_d [ar, t.binds] (by simp [lens]; omega) (by simp)
 simp only [List.flatten_cons, List.flatten_nil, List.append_nil] at hcat
 have hva := pvars_d t ((ar ++ t.binds).length : Nat) (by omega) hf
 have hue : Pn.uses t ar p = if t.kind = 2 then (match Pn.varsL ((ar ++ t.binds).length : Nat) t.args [] with | some v => ([⟨t.index, v, ar ++ t.binds, p⟩], true) | none => ([], false)) else Pn.usess t.args (ar ++ t.binds) p 0 := by obtain ⟨b, k, i, a⟩ := t; exact Pn.uses_eq ..
 have hs1 : (Ty.mk [] 0).size = 1 := by simp [Ty.size, Ty.sizes]
 have harr := arrow_d (.mk [] 0) (ar ++ t.binds) (by rw [Ty.sizes_append]; omega)
 have hclo := clone_d p (by omega)
 have hcli := clip_d p
 dsimp only [Ty.args, Ty.base] at harr
 rw [List.append_nil] at harr
 rw [eTm_eq] at hfl hva ⊢
 rw [eTy_eq, eTy_eq] at harr
 dsimp only [Ty.args, Ty.base, eTys] at harr
 refine dw_seq ?_; refine dwk [] TP3_ok hnt fun K hK => ?_; refine hK _ _ ?_; clear hK K; refine dw_seq ?_; refine dwk [(18, .sl 1 (eTyss [ar, t.binds]) none)] TP3_ok hnt fun K hK => ?_; refine And.intro (VLe.untag _ _ _) ?_; refine dcl (hcat) ?_; refine hK _ _ ?_; clear hK K
 by_cases hk : t.kind = 2
 ·rw [decide_eq_true hk] at hfl
  rw [if_pos hk] at hue; refine dw_seq ?_; refine dw_seq ?_; refine dwk [] TP3_ok hnt fun K hK => ?_; refine dcl (hfl) ?_; refine hK _ _ ?_; clear hK K; refine dw_cond (t := true) rfl ?_; rw [if_pos rfl]
  have hvv : Pn.vars t ((ar ++ t.binds).length : Nat) = match Pn.varsL ((ar ++ t.binds).length : Nat) t.args [] with | some l => (l, 0) | none => ([], 6) := by unfold Pn.vars; exact if_neg (by simp [hk]; omega)
  rw [hvv] at hva
  cases hvl : Pn.varsL ((ar ++ t.binds).length : Nat) t.args [] with
  | none =>
   rw [hvl] at hva hue
   rw [hue]
   refine dw_seq ?_; refine dwk [(25, .v (.int .i64 (↑(ar ++ t.binds).length)))] TP3_ok hnt fun K hK => ?_; refine And.intro (dintE (by rw [eTys_len])) ?_; refine dcl (hva) ?_; refine hK _ _ ?_; clear hK K; refine dw_seq ?_; refine dw_seq ?_; refine dwk [(30, .v (.bool true))] TP3_ok hnt fun K hK => ?_; refine And.intro auT ?_; refine hK _ _ ?_; clear hK K; refine dw_cond (t := true) rfl ?_; rw [if_pos rfl]
   refine dw_seq ?_; refine dwk [] TP3_ok hnt fun K hK => ?_; refine hK _ _ ?_; clear hK K; refine dw_ret ?_
   exact reta rfl ((by refine And.intro ?_ trivial; simp [get, Key.eq, argsT]))
  | some v =>
   rw [hvl] at hva hue
   rw [hue]
   have hvlen := Pn.varsL_len _ _ _ _ hvl
   refine dw_seq ?_; refine dwk [(25, .v (.int .i64 (↑(ar ++ t.binds).length)))] TP3_ok hnt fun K hK => ?_; refine And.intro (dintE (by rw [eTys_len])) ?_; refine dcl (hva) ?_; refine hK _ _ ?_; clear hK K; refine dw_seq ?_; refine dw_seq ?_; refine dwk [(30, .v (.bool false))] TP3_ok hnt fun K hK => ?_; refine And.intro auF ?_; refine hK _ _ ?_; clear hK K; refine dw_cond (t := false) rfl ?_; rw [if_neg (by simp)]
   refine dw_skip ?_; refine dw_seq ?_; refine dwkD [(37, .ag [.sl 2 [] none, .v (.int .i64 0)]), (45, .sl 4 (eUses (l ++ [⟨t.index, v, ar ++ t.binds, p⟩])) (some 0))] TP3_ok hnt fun K hK => ?_; refine And.intro (auV) ?_; refine dcl (harr) ?_; refine dcl (hclo) ?_; refine And.intro (⟨by rw [eUses_len], by rw [eUses_len]; simp; omega⟩) ?_; refine And.intro (VLe.of_eq (by rw [eUses_append]; rfl)) ?_; refine hK _ _ (by kernel_rfl) ?_; clear hK K
   refine dw_ret ?_
   exact reta rfl ((by refine And.intro ?_ trivial; simp [get, Key.eq, eUses_len]))
 ·rw [decide_eq_false hk] at hfl
  rw [if_neg hk] at hue; refine dw_seq ?_; refine dw_seq ?_; refine dwk [] TP3_ok hnt fun K hK => ?_; refine dcl (hfl) ?_; refine hK _ _ ?_; clear hK K; refine dw_cond (t := false) rfl ?_; rw [if_neg (by simp)]; refine dw_skip ?_; refine dw_seq ?_; refine dw_seq ?_; refine dwk [(48, .v (.int .i64 (↑t.args.length)))] TP3_ok hnt fun K hK => ?_; refine And.intro (dintE (by rw [eTms_len])) ?_; refine hK _ _ ?_; clear hK K
  refine dw_block ?_
  refine dw_loop (ι := { j : Nat // (Pn.usess (t.args.take j) (ar ++ t.binds) p 0).2 = true }) (fun j => [(.t 0, .sl 4 (eUses (l ++ (Pn.usess (t.args.take j.1) (ar ++ t.binds) p 0).1)) (some 0)), (.r 0, .rw 127 4 (l ++ (Pn.usess (t.args.take j.1) (ar ++ t.binds) p 0).1).length), (.t 2, .sl 2 (eTys (ar ++ t.binds)) none), (.t 3, .sl 1 (eIs p) none), (.t 47, .sl 4 (eTms t.args) none), (.t 48, .v (.int .i64 ↑t.args.length)), (.t 49, .v (.int .i64 ↑j.1))]) 1 (fun j => t.args.length - j.1) (⟨0, rfl⟩) ((by simp only [List.take_zero, Pn.usess, List.append_nil]; exact VS.toA)) fun j => ?_
  obtain ⟨j, hj⟩ := j
  dsimp only
  by_cases hlt : j < t.args.length
  ·have hst := Pn.usess_take (ar ++ t.binds) p t.args j hlt hj
   have hmem := List.getElem_mem hlt
   have hfm := full_mem hmem
   have hdl := Pn.usess_len (ar ++ t.binds) p (t.args.take j) 0 fun t _ p => Pn.uses_len t _ p
   have hft := Tm.fulls_take t.args j hlt
   have hfj := Tm.fulls_take_le t.args (j + 1)
   obtain ⟨done, hdone⟩ : ∃ d, (Pn.usess (t.args.take j) (ar ++ t.binds) p 0).1 = d := ⟨_, rfl⟩
   have hih := ih _ hmem (ar ++ t.binds) (p ++ [(j : Int)]) (l ++ done) (by rw [Ty.sizes_append]; omega) (by simp; omega) (by rw [← hdone]; simp; omega) (fit_args hf _ hmem)
   obtain ⟨p2, hp2⟩ : ∃ q, p ++ [(j : Int)] = q := ⟨_, rfl⟩
   rw [hp2] at hst hih
   rw [hdone] at hst ⊢
   obtain ⟨r, hr⟩ : ∃ r, Pn.uses t.args[j] (ar ++ t.binds) p2 = r := ⟨_, rfl⟩
   rw [hr] at hst hih
   obtain ⟨us, ok⟩ := r
   rw [eTm_eq] at hih
   unfold usesV at hih
   dsimp only at hst hih
   refine dw_seq ?_; refine dwk [(50, .v (.bool true))] TP3_ok hnt fun K hK => ?_; refine And.intro auT ?_; refine hK _ _ ?_; clear hK K; refine dw_seq ?_; refine dw_cond (t := true) rfl ?_; rw [if_pos rfl]; refine dw_skip ?_; refine dw_seq ?_; refine dw_block ?_; refine dw_seq ?_; refine dwk [(52, .q [.sl 2 (eTys t.args[j].binds) none, .v (.int .i64 t.args[j].kind), .v (.int .i64 t.args[j].index), .sl 4 (eTms t.args[j].args) none])] TP3_ok hnt fun K hK => ?_
   refine And.intro (elo (eTms_len t.args)) ?_; refine And.intro (elv (eTms_getD t.args j) (eTm_eq _)) ?_; refine hK _ _ ?_; clear hK K; refine dw_seq ?_; refine dwk [] TP3_ok hnt fun K hK => ?_; refine hK _ _ ?_; clear hK K
   cases ok with
   | true =>
    rw [if_pos rfl] at hih; refine dw_seq ?_; refine dwkD [(62, .sl 1 (eIs p2) none)] TP3_ok hnt fun K hK => ?_; refine dcl (hcli) ?_; refine And.intro (⟨Nat.one_pos, by rw [eIs_len]; simp; omega⟩) ?_; refine And.intro ((by rw [← hp2, eIs_append]; exact VLe.untag _ _ _)) ?_; refine dcn (CallG.n (hih) _) ?_; refine hK _ _ (by kernel_rfl) ?_; clear hK K; refine dw_seq ?_; refine dwk [(67, .v (.bool false))] TP3_ok hnt fun K hK => ?_
    refine And.intro auF ?_; refine hK _ _ ?_; clear hK K; refine dw_cond (t := false) rfl ?_; rw [if_neg (by simp)]; refine dw_skip ?_; refine dwk [(69, .v (.int .i64 (↑(j + 1))))] TP3_ok hnt fun K hK => ?_; refine And.intro auI ?_; refine hK _ _ ?_; clear hK K
    have hd2 : (Pn.usess (t.args.take (j + 1)) (ar ++ t.binds) p 0).1 = done ++ us := by rw [hst]
    have hd3 : l ++ done ++ us = l ++ (Pn.usess (t.args.take (j + 1)) (ar ++ t.binds) p 0).1 := by rw [hd2, List.append_assoc]
    rw [hd3]
    refine ⟨⟨j + 1, by rw [hst]⟩, by first | omega | (dsimp only; omega), VS.toA⟩
   | false =>
    rw [if_neg (by simp)] at hih
    have hwh := Pn.usess_stop (ar ++ t.binds) p t.args (j + 1) (by rw [hst])
    rw [hue, hwh, hst]
    refine dw_seq ?_; refine dwkD [(62, .sl 1 (eIs p2) none)] TP3_ok hnt fun K hK => ?_; refine dcl (hcli) ?_; refine And.intro (⟨Nat.one_pos, by rw [eIs_len]; simp; omega⟩) ?_; refine And.intro ((by rw [← hp2, eIs_append]; exact VLe.untag _ _ _)) ?_; refine dcn (CallG.n (hih) _) ?_; refine hK _ _ (by kernel_rfl) ?_; clear hK K; refine dw_seq ?_; refine dwk [(67, .v (.bool true))] TP3_ok hnt fun K hK => ?_
    refine And.intro auT ?_; refine hK _ _ ?_; clear hK K; refine dw_cond (t := true) rfl ?_; rw [if_pos rfl]; refine dw_seq ?_; refine dwk [] TP3_ok hnt fun K hK => ?_; refine hK _ _ ?_; clear hK K; refine dw_ret ?_
    exact reta rfl ((by refine And.intro ?_ trivial; simp [get, Key.eq, List.append_assoc]))
  ·rw [List.take_of_length_le (by omega)] at hj ⊢
   rw [hue]
   unfold usesV
   rw [if_pos hj]; refine dw_seq ?_; refine dwk [(50, .v (.bool false))] TP3_ok hnt fun K hK => ?_; refine And.intro auF ?_; refine hK _ _ ?_; clear hK K; refine dw_seq ?_; refine dw_cond (t := false) rfl ?_; rw [if_neg (by simp)]; refine dw_exit ?_; refine dw_seq ?_; refine dwk [] TP3_ok hnt fun K hK => ?_; refine hK _ _ ?_; clear hK K; refine dw_ret ?_
   exact reta rfl
theorem uses_g : ∀ t : Tm, UsesC t := by
  intro t
  induction t using Tm.ind with
  | h bs k i a ih =>
    intro ar p l h1 h2 h3 hf
    refine callG_of_dw 1 71 [ResultVar.tmp 8, ResultVar.tmp 9] TP3_ok (by kernel_rfl) Try.func56 rfl Try.ntmps56 rfl (by simp) ?_ fun cx hnt hn0 => uses_body (.mk bs k i a) (fun u hu => ih u hu) ar p l h1 h2 h3 hf _ rfl cx hnt (by omega)
    unfold usesV
    split <;> simp [wordsG, rowN, rowsR, gkey, Key.eq, D.ok, D.oks, D.okss, rnames, inN, eUses_ok, eTm_ok, eTys_ok, eIs_ok]
theorem uses_nil (t : Tm) (h1 : t.full ≤ 700000) (hf : t.Fit) : PureC Try.prog 56 [.v (.slice none 0 0), .ag (eTm t), .v (.slice none 0 0), .v (.slice none 0 0)] (.tu [.sl 4 (if (Pn.uses t [] []).2 then eUses (Pn.uses t [] []).1 else []) none, .v (.int .i64 (if (Pn.uses t [] []).2 then 0 else 6))]) := by
  refine CallC.vle (args := [.v (.slice none 0 0), .ag (eTm t), .sl 2 (eTys []) none, .sl 1 (eIs []) none]) ?_ (.cons (VLe.refl _) (.cons (VLe.refl _) (.cons (VLe.nil _) (.cons (VLe.nil _) .nil)))) (VLe.refl _)
  refine call_of_dw 0 71 [ResultVar.tmp 8, ResultVar.tmp 9] TP3_ok (by kernel_rfl) Try.func56 rfl Try.ntmps56 rfl (by simp) ?_ fun cx hnt hn0 => ?_
  · split <;> simp [wordsOk, D.ok, D.oks, D.okss, rnames, inN, ckey, eUses_ok, eTm_ok, eTys_ok, eIs_ok]
  · have hb := uses_body t (fun u _ => uses_g u) [] [] [] (by simp [Ty.sizes]; omega) (by simp; omega) (by simp; omega) hf _ rfl cx hnt (by omega)
    refine DW.vs (VS.trans (VS.rowT (x := 0) (by rw [hnt]; decide) 127 4 rfl) ?_) (DW.mono hb fun e σ N' h => ⟨h.1, ?_, nofun⟩)
    · exact (VS.toK (by omega) (by repeat first | exact trivial | refine And.intro (And.intro (by first | rfl | simp [D.ok, D.oks, D.okss, D.okm, upto, keyOk, eUses]) (by first | exact Or.inl rfl | exact Or.inr ⟨_, rfl, (by repeat first | exact VLe.refl _ | exact VLe.nil _ | exact VLe.untag _ _ _ | refine VLe.ag ?_ | refine VLe.tu ?_ | refine VLeL.cons ?_ ?_ | exact VLeL.nil), trivial⟩ | simp [get, Key.eq, eUses])) ?_))
    · obtain ⟨V', q1, q2⟩ := h.2.1
      refine ⟨V', q1, q2.trans ?_⟩
      unfold usesV
      split
      · exact VLe.tu (.cons (VLe.untag _ _ _) (.cons (VLe.refl _) .nil))
      · exact VLe.tu (.cons (VLe.nil _) (.cons (VLe.refl _) .nil))
theorem is_d (t : Tm) (h1 : t.full ≤ 700000) (hf : t.Fit) : PureC Try.prog 19 [.ag (eTm t)] (.v (.bool (Pn.uses t [] []).2)) := by
 have hu := uses_nil t h1 hf
 have hU : PureC Try.prog 41 [.ag (eTm t)] (.tu [.sl 4 (if (Pn.uses t [] []).2 then eUses (Pn.uses t [] []).1 else []) none, .v (.int .i64 (if (Pn.uses t [] []).2 then 0 else 6))]) := by
  rw [eTm_eq] at hu ⊢
  refine call_of_dw 0 8 [ResultVar.tmp 2, ResultVar.tmp 3] TP3_ok (by kernel_rfl) Try.func41 rfl Try.ntmps41 rfl (by simp) ?dwords ?dbody
  case dwords => simp [wordsOk, D.ok, D.oks, D.okss, rnames, inN, ckey, eUses_ok, eTms_ok, eTys_ok, apply_ite]
  case dbody =>
   intro cx hnt hn0
   refine dw_seq ?_; refine dwk [] TP3_ok hnt fun K hK => ?_; refine hK _ _ ?_; clear hK K; refine dw_seq ?_; refine dwk [] TP3_ok hnt fun K hK => ?_; refine dcl (hu) ?_; refine hK _ _ ?_; clear hK K; refine dw_ret ?_
   exact reta rfl
 rw [eTm_eq] at hU ⊢
 cases h : (Pn.uses t [] []).2 with
 | true =>
  rw [h] at hU
  refine calldw 0 12 [ResultVar.tmp 2] TP3_ok Try.func19 rfl Try.ntmps19 rfl fun cx hnt hn0 => ?_
  ·skip
   refine dw_seq ?_; refine dwk [] TP3_ok hnt fun K hK => ?_; refine hK _ _ ?_; clear hK K; refine dw_seq ?_; refine dwk [] TP3_ok hnt fun K hK => ?_; refine dcl (hU) ?_; refine hK _ _ ?_; clear hK K; refine dw_seq ?_; refine dwk [(11, .v (.bool true))] TP3_ok hnt fun K hK => ?_; refine And.intro auT ?_; refine hK _ _ ?_; clear hK K; refine dw_ret ?_
   exact reta rfl
 | false =>
  rw [h] at hU
  refine calldw 0 12 [ResultVar.tmp 2] TP3_ok Try.func19 rfl Try.ntmps19 rfl fun cx hnt hn0 => ?_
  ·skip
   refine dw_seq ?_; refine dwk [] TP3_ok hnt fun K hK => ?_; refine hK _ _ ?_; clear hK K; refine dw_seq ?_; refine dwk [] TP3_ok hnt fun K hK => ?_; refine dcl (hU) ?_; refine hK _ _ ?_; clear hK K; refine dw_seq ?_; refine dwk [(11, .v (.bool false))] TP3_ok hnt fun K hK => ?_; refine And.intro auF ?_; refine hK _ _ ?_; clear hK K; refine dw_ret ?_
   exact reta rfl
end Go.Proofs.Ytnpjjkeokcoedaa

namespace Go.Proofs.Ytnpjjkeokcoedaa
open Go.RowKit

section
variable {P : Program} {T : List (Nat × TI)} {cx : Cx} {Fr Fr' : Nat → Prop} {m m' : Mp} {Im Im' : Nat → Nat → Prop} {w w' : World} {a : Act} {σ σ' τ : List (Key × D)} {N N' : Nat} {Q : Exit → List (Key × D) → Nat → Prop}
end
end Go.Proofs.Ytnpjjkeokcoedaa

namespace Go.Proofs.Ytnpjjkeokcoedaa
open Go.RowKit
namespace So
variable {α : Type} {l l' r r' : List (Int × α)}
def ins (x : Int × α) : List (Int × α) → List (Int × α)
  | [] => [x]
  | y :: l => if y.1 ≤ x.1 then y :: ins x l else x :: y :: l
def ssr : List (Int × α) → List (Int × α)
  | [] => []
  | x :: l => ins x (ssr l)
def ss (l : List (Int × α)) : List (Int × α) := ssr l.reverse
end So
end Go.Proofs.Ytnpjjkeokcoedaa

namespace Go.Proofs.Ytnpjjkeokcoedaa
open Go.RowKit

namespace Pn
abbrev Spot := Tm × List Ty × List Int
mutual
def subs : Tm → List Ty → List Int → List Spot
  | .mk bs k i a, ar, p => (.mk bs k i a, ar ++ bs, p) :: subss a (ar ++ bs) p 0
def subss : List Tm → List Ty → List Int → Nat → List Spot
  | [], _, _, _ => []
  | t :: l, ar, p, j => subs t ar (p ++ [(j : Int)]) ++ subss l ar p (j + 1)
end
mutual
def rigB : Tm → Tm → Bool
  | .mk bs k i a, t => decide (bs = t.binds) && (decide (k = 2) || ((decide (k = t.kind) && decide (i = t.index)) && (decide (a.length = t.args.length) && rigBs a t.args)))
def rigBs : List Tm → List Tm → Bool
  | [], _ => true
  | p :: l, ts => rigB p (ts.headD Tm.zero) && rigBs l ts.tail
end
end Pn
end Go.Proofs.Ytnpjjkeokcoedaa

namespace Go.Proofs.Ytnpjjkeokcoedaa
open Go.RowKit
end Go.Proofs.Ytnpjjkeokcoedaa

namespace Go.Proofs.Ytnpjjkeokcoedaa
open Go.RowKit

namespace So
end So
end Go.Proofs.Ytnpjjkeokcoedaa

namespace Go.Proofs.Ytnpjjkeokcoedaa
open Go.RowKit

end Go.Proofs.Ytnpjjkeokcoedaa

namespace Go.Proofs.Ytnpjjkeokcoedaa
open Go.RowKit
namespace So
end So
end Go.Proofs.Ytnpjjkeokcoedaa

namespace Go.Proofs.Ytnpjjkeokcoedaa
open Go.RowKit
namespace So
variable {α : Type} {f : α → Bool} {l : List α} {j : Nat}
end So
def del (m : List Int) (p : Int × Tm) : Bool := m.any fun x => decide (x = p.1)
def kept (m : List Int) (l : List (Int × Tm)) : List (Int × Tm) := l.filter fun p => !del m p
end Go.Proofs.Ytnpjjkeokcoedaa

namespace Go.Proofs.Ytnpjjkeokcoedaa
open Go.RowKit
def TRP_22 : TI := ⟨1, false, [Value.slice none 0 0], [], some 69, 24, 5, none, false⟩
theorem TRP_22_ok : TypOk Try.prog 22 TRP_22 := ⟨by kernel_rfl, by kernel_rfl, by kernel_rfl, by kernel_rfl, by kernel_rfl⟩
def TRP_69 : TI := ⟨2, true, [Value.slice none 0 0, Value.int IntKind.i64 0], [(0, 1, false), (1, 1, false)], none, 32, 6, none, false⟩
theorem TRP_69_ok : TypOk Try.prog 69 TRP_69 := ⟨by kernel_rfl, by kernel_rfl, by kernel_rfl, by kernel_rfl, by kernel_rfl⟩
def TRP : List (Nat × TI) := [(22, TRP_22), (69, TRP_69)]
theorem TRP_ok : TabOk Try.prog TRP := (((TabOk.nil _).cons TRP_69_ok).cons TRP_22_ok)

namespace Pn
mutual
def pth : Tm → List Int → List (List Int)
  | .mk _ _ _ a, p => p :: pths a p 0
def pths : List Tm → List Int → Nat → List (List Int)
  | [], _, _ => []
  | t :: l, p, j => pth t (p ++ [(j : Int)]) ++ pths l p (j + 1)
end
end Pn
def ePaths (l : List (List Int)) : List (List D) := l.map fun p => [.sl 1 (eIs p) none]
@[simp] theorem ePaths_ok (f g : Nat → Bool) (l : List (List Int)) : D.okss f g (ePaths l) = true := D.okss_map _ l fun l _ => by simp [D.oks, D.ok, eIs_ok]
theorem rbehind_d (l r : List Ty) (h : l.length + r.length ≤ 900000) : PureC Try.prog 23 [.sl 2 (eTys l) none, .sl 2 (eTys r) none] (.sl 2 (eTys (l ++ r)) none) := by
 rw [eTys_append]
 have e1 := eTys_len l
 have e2 := eTys_len r
 refine call_of_dw 0 12 [ResultVar.tmp 4] TRP_ok (by kernel_rfl) Try.func23 rfl Try.ntmps23 rfl (by simp) ?dwords ?dbody
 case dwords => simp [wordsOk, D.ok, D.oks, D.okss, rnames, inN, ckey, eTys_ok, ← eTys_append]
 case dbody =>
  intro cx hnt hn0
  refine dw_seq ?_; refine dwk [] TRP_ok hnt fun K hK => ?_; refine hK _ _ ?_; clear hK K; refine dw_seq ?_; refine dwk [] TRP_ok hnt fun K hK => ?_; refine hK _ _ ?_; clear hK K; refine dw_seq ?_; refine dwk [] TRP_ok hnt fun K hK => ?_; refine And.intro (by omega) ?_; refine hK _ _ ?_; clear hK K; refine dw_seq ?_; refine dwk [] TRP_ok hnt fun K hK => ?_; refine And.intro (⟨rfl, by omega⟩) ?_; refine hK _ _ ?_; clear hK K
  refine dw_ret ?_
  exact reta rfl
end Go.Proofs.Ytnpjjkeokcoedaa

