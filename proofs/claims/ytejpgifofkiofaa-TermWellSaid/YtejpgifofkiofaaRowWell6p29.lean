/-
  Loops over an iterator that writes cells of its own between two rounds. term.each: all terms within, each ahead of its arguments: what the iterator hands to a loop's body.
-/
import Derived.RangeFuncWrites
import Derived.Test.YtejpgifofkiofaaRowWell6p5
import Derived.Test.YtejpgifofkiofaaRowWell6p6
import Derived.Test.YtejpgifofkiofaaRowWell6p14
set_option linter.unusedVariables false
set_option linter.unusedSimpArgs false
namespace Go.Proofs.Ytejpgifofkiofaa
open Go.RowKit

def Mild {β : Type} (Ok : Obj → Prop) (B : Nat) (J : β → World → Prop) : Prop :=
  ∀ s W W' row, J s W → W.grownBy W' row → (∀ r, row = some r → B ≤ r ∧ ∃ o : Obj, W.heap[r]? = some o ∧ Ok o) → J s W'
section
variable {β : Type} {Ok : Obj → Prop} {B : Nat} {I I' : β → World → Prop}
theorem Mild.and (h : Mild Ok B I) (h' : Mild Ok B I') : Mild Ok B (fun s W => I s W ∧ I' s W) := fun s W W' row hs hg hr => ⟨h s W W' row hs.1 hg hr, h' s W W' row hs.2 hg hr⟩
theorem Mild.alloc (h : Mild Ok B I) {s : β} {W : World} (hs : I s W) (o : Obj) : I s (W.alloc o) := h s W _ none hs (World.grownBy_alloc W o none) (fun r e => by cases e)
theorem Mild.put (h : Mild Ok B I) (hOk : ∀ o : Obj, o.isCells = false → Ok o) {s : β} {W : World} (hs : I s W) {l : Nat} {o : Obj} (o' : Obj) (hl : W.heap[l]? = some o) (ho : o.isCells = false) (hB : B ≤ l) : I s (W.putObj l o') :=
  h s W _ _ hs (grownBy_putObj' W l o') (fun r e => by cases e; exact ⟨hB, o, hl, hOk o ho⟩)
theorem Mild.up {B' : Nat} (h : Mild Ok B I) (hB : B ≤ B') : Mild Ok B' I := fun s W W' row hs hg hr => h s W W' row hs hg fun r e => ⟨Nat.le_trans hB (hr r e).1, (hr r e).2⟩
theorem mild_block {k : Nat} {o : Obj} (hk : k < B) : Mild Ok B (fun (_ : β) W => W.heap[k]? = some o) := fun _ W _ row hs hg hr => (hg.block k (Array.getElem?_eq_some_iff.1 hs).1 (fun e => by have := (hr k e.symm).1; omega)).trans hs
theorem mild_below {n0 : Nat} {w0 : World} (hn : n0 ≤ w0.heap.size) (hB : n0 ≤ B) : Mild Ok B (fun (_ : β) W => Below n0 w0 W) := fun _ _ _ _ hs hg hr => hs.grown hg (Nat.le_trans hn hs.size) (fun k e => Nat.le_trans hB (hr k e).1)
end

def SeqSoft {α : Type} (Ok : Obj → Prop) (F : Fence) (n : Nat) (P : Program) (g : Nat) (lb : Array Value) (encs : α → Array Value) (Kp : World → World → Prop) (S Sp : List α → Prop) (N : Nat) (w : World) : Prop :=
  ∀ (l : Nat) (J Jx : List α → World → Prop) (W : World), Below w.heap.size w W → Mild Ok W.heap.size J → Mild Ok W.heap.size Jx →
    (∀ pre x V, J pre V → pre.length < N → YieldAt F (n - 1) P l (encs x) V fun e V' => (e = .returned (.bool true) ∧ J (pre ++ [x]) V' ∧ Kp V V') ∨ (e = .returned (.bool false) ∧ Jx (pre ++ [x]) V')) →
    J [] W → CallsIn F n P g (#[.func (.yield l) #[] #[]] ++ lb) W fun e W' => (∃ v, e = .returned v) ∧ ((∃ xs, S xs ∧ J xs W') ∨ (∃ pre, Sp pre ∧ Jx pre W'))

theorem range_soft {Ok : Obj → Prop} (hOk : ∀ o : Obj, o.isCells = false → Ok o) {F : Fence} {n : Nat} {P : Program} {α : Type} {g : Operand} {ps : Array Tmp} {assign body : Code} {Q : Exit → Act → World → Prop} {a : Act} {w : World}
    (hro : F.round = none) (hn : 1 ≤ n) {gf : Nat} {lb : Array Value} (hg : a.eval g = .func (.func gf) #[] lb) (hF : F.fn gf) (eg : ∀ args w, (callFunc gf args).run P w = .ok (.enter gf args) w)
    {encs : α → Array Value} {Kp : World → World → Prop} {S Sp : List α → Prop} {N : Nat} {w0 : World} (hseq : SeqSoft Ok F (n - 1) P gf lb encs Kp S Sp N w0)
    (hKt : ∀ {X Y Z : World}, Kp X Y → Kp Y Z → Kp X Z) (hKb : ∀ (W : World) (l : Nat) (o o' : Obj), w.heap.size ≤ l → W.heap[l]? = some o → o.isCells = false → o.isWalk = false → Kp W (W.putObj l o')) (hw0 : Below w0.heap.size w0 w) (hps : ∀ x, (encs x).size = ps.size)
    (I : List α → World → Prop) (Ix : Code → List α → World → Prop) (hI : Mild Ok w.heap.size I) (hIx : ∀ c, Mild Ok w.heap.size (Ix c)) (h0 : I [] w) (act : α → Act)
    (hassign : ∀ (l : Nat) (x : α) (W : World) (K : Act → World → Prop), K (act x) W →
      assign.wpIn (F.inRound l) (n - 1 - 1) P (Exit.then K (fun _ _ _ => False)) { tmps := (ps.zip (encs x)).foldl (fun t (p, v) => t.setIfInBounds p v) a.tmps, defers := [] } W)
    (hbody : ∀ (l : Nat) (pre : List α) (x : α) (W : World), I pre W → pre.length < N → body.wpIn (F.inRound l) (n - 1 - 1) P (ownPostG w.heap.size Kp I Ix (pre ++ [x]) W) (act x) W)
    (hdone : ∀ (D : Nat) (xs : List α) (W : World), w.heap.size ≤ D → S xs → I xs W → W.heap[D]? = some (.deferred (some [])) → Q .normal { a with defers := { target := .collected D, args := #[] } :: a.defers } W)
    (hstop : ∀ (D : Nat) (c : Code) (pre : List α) (W : World), w.heap.size ≤ D → Sp pre → Ix c pre W → W.heap[D]? = some (.deferred (some [])) → c.wpIn F n P Q { a with defers := { target := .collected D, args := #[] } :: a.defers } W) :
    (Code.rangeFunc g ps assign body).wpIn F n P Q a w := by
  refine wpIn_rangeFunc fun fn hfn => ?_
  rw [hro]
  let L : LoopState → Option Code → Obj := fun st pe => .loop { state := st, pending := pe, fn, tmps := a.tmps, params := ps, assign, body, defers := w.heap.size }
  let D : Obj := .deferred (some [])
  obtain ⟨W1, hW1⟩ : ∃ W1, (w.alloc D).alloc (L .ready none) = W1 := ⟨_, rfl⟩
  have hz : W1.heap.size = w.heap.size + 2 := by rw [← hW1]; simp
  have hL : W1.heap[w.heap.size + 1]? = some (L .ready none) := by rw [← hW1]; have h := World.alloc_heap_new (w.alloc D) (L .ready none); rwa [World.size_alloc] at h
  have hD : W1.heap[w.heap.size]? = some D := by rw [← hW1]; exact (Below.heap_alloc _ _ _ (by simp)).trans (World.alloc_heap_new w D)
  refine ⟨w.heap.size + 1, [{ target := .collected w.heap.size, args := #[] }], W1, { target := .fn (.func gf) lb, args := #[.func (.yield (w.heap.size + 1)) #[] #[]] }, W1, gf,
    #[.func (.yield (w.heap.size + 1)) #[] #[]] ++ lb, W1, by rw [← hW1]; exact run_enterLoop_outer _ _ _ _ _, by simp only [resolve, hg]; simp [go_sem], ?_, by simp [invoke, go_sem, eg], fun _ => hn, ?_⟩
  · intro f' hf'; simp [Target.leads] at hf'; subst hf'; exact hF
  have up : ∀ {β : Type} {J : β → World → Prop}, Mild Ok w.heap.size J → Mild Ok W1.heap.size J := fun h => h.up (by omega)
  have m1 : ∀ (o : Obj), Mild Ok W1.heap.size (fun (_ : List α) W => W.heap[w.heap.size + 1]? = some o) := fun o => mild_block (by omega)
  have m0 : Mild Ok W1.heap.size (fun (_ : List α) W => W.heap[w.heap.size]? = some D) := mild_block (by omega)
  refine (hseq (w.heap.size + 1)
    (fun pre W => I pre W ∧ W.heap[w.heap.size + 1]? = some (L .ready none) ∧ W.heap[w.heap.size]? = some D)
    (fun pre W => ∃ c, Ix c pre W ∧ W.heap[w.heap.size + 1]? = some (L .done (some c)) ∧ W.heap[w.heap.size]? = some D) W1
    (by rw [← hW1]; exact hw0.trans ((((Below.refl _ w).alloc (Nat.le_refl _) _).alloc (by simp) _).mono hw0.size))
    ((up hI).and ((m1 _).and m0)) (fun s A B row ⟨c, h1, h2, h3⟩ hgr hr => ⟨c, up (hIx c) s A B row h1 hgr hr, m1 _ s A B row h2 hgr hr, m0 s A B row h3 hgr hr⟩)
    ?_ ⟨by rw [← hW1]; exact hI.alloc (hI.alloc h0 _) _, hL, hD⟩).mono ?_
  · -- a round
    rintro pre x V ⟨hi, hl, hd⟩ hlen
    have hlt : w.heap.size + 1 < V.heap.size := (Array.getElem?_eq_some_iff.1 hl).1
    refine ⟨fn, _, assign, body, run_yield (P := P) (args := encs x) hl (hps x), roundIn_of_wpIn hfn (hassign _ x V _ ⟨_, run_beginRound hl rfl, ?_⟩)⟩
    obtain ⟨V2, hV2⟩ : ∃ V2, V.putObj (w.heap.size + 1) (L .busy none) = V2 := ⟨_, rfl⟩
    have hl2 : V2.heap[w.heap.size + 1]? = some (L .busy none) := by rw [← hV2]; exact World.putObj_heap_same hlt
    have hd2 : V2.heap[w.heap.size]? = some D := by rw [← hV2]; exact (World.putObj_heap_other (by omega)).trans hd
    have hk2 : Kp V V2 := by rw [← hV2]; exact hKb _ _ _ _ (by omega) hl rfl rfl
    have hi2 : I pre V2 := by rw [← hV2]; exact hI.put hOk hi _ hl rfl (by omega)
    show Code.wpIn _ _ _ _ _ _ (V.putObj (w.heap.size + 1) (L .busy none))
    rw [hV2]
    clear hV2 hl hd hi hlt
    refine wpIn_mono (hbody _ pre x V2 hi2 hlen) ?_
    have fin : ∀ (jump : Option Code) (V3 : World), KeepsFrom w.heap.size V2 V3 → V3.heap[w.heap.size + 1]? = some (L .busy none) ∧ ∃ V4, V4 = V3.putObj (w.heap.size + 1) (L (if jump.isNone then .ready else .done) jump) ∧
        (Instr.endRound (w.heap.size + 1) jump).run P V3 = .ok (.bool jump.isNone) V4 ∧ V4.heap[w.heap.size + 1]? = some (L (if jump.isNone then .ready else .done) jump) ∧ V4.heap[w.heap.size]? = some D := fun jump V3 hk => by
      have h1 := hk.same _ _ (by omega) hl2 rfl
      exact ⟨h1, _, rfl, run_endRound (P := P) jump h1, World.putObj_heap_same (Array.getElem?_eq_some_iff.1 h1).1, (World.putObj_heap_other (by omega)).trans (hk.same _ _ (Nat.le_refl _) hd2 rfl)⟩
    have out : ∀ (c : Code) (V3 : World), KeepsFrom w.heap.size V2 V3 → Ix c (pre ++ [x]) V3 → ∃ r V4, (Instr.endRound (w.heap.size + 1) (some c)).run P V3 = .ok r V4 ∧ (Ending.returned r = .returned (.bool false) ∧ ∃ c, Ix c (pre ++ [x]) V4 ∧ V4.heap[w.heap.size + 1]? = some (L .done (some c)) ∧ V4.heap[w.heap.size]? = some D) := fun c V3 hk hi => by
      obtain ⟨h3, V4, rfl, hr, h4, h5⟩ := fin (some c) V3 hk
      exact ⟨_, _, hr, rfl, c, (hIx c).put hOk hi _ h3 rfl (by omega), h4, h5⟩
    rintro e a3 V3 hp
    cases e with
    | normal =>
      obtain ⟨hk, hkp, hi⟩ := hp
      obtain ⟨h3, V4, rfl, hr, h4, h5⟩ := fin none V3 hk
      exact ⟨_, _, hr, .inl ⟨rfl, ⟨hI.put hOk hi _ h3 rfl (by omega), h4, h5⟩, hKt (hKt hk2 hkp) (hKb _ _ _ _ (by omega) h3 rfl rfl)⟩⟩
    | ret => obtain ⟨r, V4, hr, h⟩ := out .ret V3 hp.1 hp.2; exact ⟨r, V4, hr, .inr h⟩
    | exit id => obtain ⟨r, V4, hr, h⟩ := out (.exit id) V3 hp.1 hp.2; exact ⟨r, V4, hr, .inr h⟩
    | goto t => obtain ⟨r, V4, hr, h⟩ := out (.goto t) V3 hp.1 hp.2; exact ⟨r, V4, hr, .inr h⟩
    | panic ch => exact hp.elim
    | outgrown => exact hp.elim
  · -- behind the iterator
    rintro e W2 ⟨⟨v, rfl⟩, ⟨xs, hS, hi, hl, hd⟩ | ⟨pre, hSp, c, hi, hl, hd⟩⟩
    · exact ⟨none, _, run_endLoop (P := P) hl (by simp), hdone _ xs _ (Nat.le_refl _) hS (hI.put hOk hi _ hl rfl (by omega)) ((World.putObj_heap_other (by omega)).trans hd)⟩
    · exact ⟨some c, _, run_endLoop (P := P) hl (by simp), hstop _ c pre _ (Nat.le_refl _) hSp ((hIx c).put hOk hi _ hl rfl (by omega)) ((World.putObj_heap_other (by omega)).trans hd)⟩
theorem range_softA {Ok : Obj → Prop} (hOk : ∀ o : Obj, o.isCells = false → Ok o) {F : Fence} {n : Nat} {P : Program} {α : Type} {g : Operand} {ps : Array Tmp} {assign body : Code} {Q : Exit → Act → World → Prop} {a : Act} {w : World}
    (hro : F.round = none) (hn : 1 ≤ n) {gf : Nat} {lb : Array Value} (hg : a.eval g = .func (.func gf) #[] lb) (hF : F.fn gf) (eg : ∀ args w, (callFunc gf args).run P w = .ok (.enter gf args) w)
    {encs : α → Array Value} {Kp : World → World → Prop} {S Sp : List α → Prop} {N : Nat} {w0 : World} (hseq : SeqSoft Ok F (n - 1) P gf lb encs Kp S Sp N w0)
    (hKt : ∀ {X Y Z : World}, Kp X Y → Kp Y Z → Kp X Z) (hKb : ∀ (W : World) (l : Nat) (o o' : Obj), w.heap.size ≤ l → W.heap[l]? = some o → o.isCells = false → o.isWalk = false → Kp W (W.putObj l o')) (hw0 : Below w0.heap.size w0 w) (hps : ∀ x, (encs x).size = ps.size)
    (I : List α → World → Prop) (Ix : Code → List α → World → Prop) (hI : Mild Ok w.heap.size I) (hIx : ∀ c, Mild Ok w.heap.size (Ix c)) (h0 : I [] w) (Ra : α → Act → World → Prop) (hRa : ∀ x a' W l (o o' : Obj), w.heap.size ≤ l → W.heap[l]? = some o → o.isCells = false → Ra x a' W → Ra x a' (W.putObj l o'))
    (hassign : ∀ (l : Nat) (pre : List α) (x : α) (W : World) (K : Act → World → Prop), I pre W → (∀ a' W', KeepsFrom w.heap.size W W' → Kp W W' → I pre W' → Ra x a' W' → K a' W') →
      assign.wpIn (F.inRound l) (n - 1 - 1) P (Exit.then K (fun _ _ _ => False)) { tmps := (ps.zip (encs x)).foldl (fun t (p, v) => t.setIfInBounds p v) a.tmps, defers := [] } W)
    (hbody : ∀ (l : Nat) (pre : List α) (x : α) (a' : Act) (W : World), I pre W → pre.length < N → Ra x a' W → body.wpIn (F.inRound l) (n - 1 - 1) P (ownPostG w.heap.size Kp I Ix (pre ++ [x]) W) a' W)
    (hdone : ∀ (D : Nat) (xs : List α) (W : World), w.heap.size ≤ D → S xs → I xs W → W.heap[D]? = some (.deferred (some [])) → Q .normal { a with defers := { target := .collected D, args := #[] } :: a.defers } W)
    (hstop : ∀ (D : Nat) (c : Code) (pre : List α) (W : World), w.heap.size ≤ D → Sp pre → Ix c pre W → W.heap[D]? = some (.deferred (some [])) → c.wpIn F n P Q { a with defers := { target := .collected D, args := #[] } :: a.defers } W) :
    (Code.rangeFunc g ps assign body).wpIn F n P Q a w := by
  refine wpIn_rangeFunc fun fn hfn => ?_
  rw [hro]
  let L : LoopState → Option Code → Obj := fun st pe => .loop { state := st, pending := pe, fn, tmps := a.tmps, params := ps, assign, body, defers := w.heap.size }
  let D : Obj := .deferred (some [])
  obtain ⟨W1, hW1⟩ : ∃ W1, (w.alloc D).alloc (L .ready none) = W1 := ⟨_, rfl⟩
  have hz : W1.heap.size = w.heap.size + 2 := by rw [← hW1]; simp
  have hL : W1.heap[w.heap.size + 1]? = some (L .ready none) := by rw [← hW1]; have h := World.alloc_heap_new (w.alloc D) (L .ready none); rwa [World.size_alloc] at h
  have hD : W1.heap[w.heap.size]? = some D := by rw [← hW1]; exact (Below.heap_alloc _ _ _ (by simp)).trans (World.alloc_heap_new w D)
  refine ⟨w.heap.size + 1, [{ target := .collected w.heap.size, args := #[] }], W1, { target := .fn (.func gf) lb, args := #[.func (.yield (w.heap.size + 1)) #[] #[]] }, W1, gf,
    #[.func (.yield (w.heap.size + 1)) #[] #[]] ++ lb, W1, by rw [← hW1]; exact run_enterLoop_outer _ _ _ _ _, by simp only [resolve, hg]; simp [go_sem], ?_, by simp [invoke, go_sem, eg], fun _ => hn, ?_⟩
  · intro f' hf'; simp [Target.leads] at hf'; subst hf'; exact hF
  have up : ∀ {β : Type} {J : β → World → Prop}, Mild Ok w.heap.size J → Mild Ok W1.heap.size J := fun h => h.up (by omega)
  have m1 : ∀ (o : Obj), Mild Ok W1.heap.size (fun (_ : List α) W => W.heap[w.heap.size + 1]? = some o) := fun o => mild_block (by omega)
  have m0 : Mild Ok W1.heap.size (fun (_ : List α) W => W.heap[w.heap.size]? = some D) := mild_block (by omega)
  refine (hseq (w.heap.size + 1)
    (fun pre W => I pre W ∧ W.heap[w.heap.size + 1]? = some (L .ready none) ∧ W.heap[w.heap.size]? = some D)
    (fun pre W => ∃ c, Ix c pre W ∧ W.heap[w.heap.size + 1]? = some (L .done (some c)) ∧ W.heap[w.heap.size]? = some D) W1
    (by rw [← hW1]; exact hw0.trans ((((Below.refl _ w).alloc (Nat.le_refl _) _).alloc (by simp) _).mono hw0.size))
    ((up hI).and ((m1 _).and m0)) (fun s A B row ⟨c, h1, h2, h3⟩ hgr hr => ⟨c, up (hIx c) s A B row h1 hgr hr, m1 _ s A B row h2 hgr hr, m0 s A B row h3 hgr hr⟩)
    ?_ ⟨by rw [← hW1]; exact hI.alloc (hI.alloc h0 _) _, hL, hD⟩).mono ?_
  · -- a round
    rintro pre x V0 ⟨hi0, hl0, hd0⟩ hlen
    refine ⟨fn, _, assign, body, run_yield (P := P) (args := encs x) hl0 (hps x), roundIn_of_wpIn hfn (hassign _ pre x V0 _ hi0 fun a' V hkf hkp0 hi hra => ?_)⟩
    have hl := hkf.same _ _ (by omega) hl0 rfl
    have hd := hkf.same _ _ (Nat.le_refl _) hd0 rfl
    have hlt : w.heap.size + 1 < V.heap.size := (Array.getElem?_eq_some_iff.1 hl).1
    refine ⟨_, run_beginRound hl rfl, ?_⟩
    obtain ⟨V2, hV2⟩ : ∃ V2, V.putObj (w.heap.size + 1) (L .busy none) = V2 := ⟨_, rfl⟩
    have hl2 : V2.heap[w.heap.size + 1]? = some (L .busy none) := by rw [← hV2]; exact World.putObj_heap_same hlt
    have hd2 : V2.heap[w.heap.size]? = some D := by rw [← hV2]; exact (World.putObj_heap_other (by omega)).trans hd
    have hk2 : Kp V0 V2 := by rw [← hV2]; exact hKt hkp0 (hKb _ _ _ _ (by omega) hl rfl rfl)
    have hi2 : I pre V2 := by rw [← hV2]; exact hI.put hOk hi _ hl rfl (by omega)
    have hra2 : Ra x a' V2 := by rw [← hV2]; exact hRa _ _ _ _ _ _ (by omega) hl rfl hra
    show Code.wpIn _ _ _ _ _ _ (V.putObj (w.heap.size + 1) (L .busy none))
    rw [hV2]
    clear hV2 hl hd hi hlt
    refine wpIn_mono (hbody _ pre x a' V2 hi2 hlen hra2) ?_
    have fin : ∀ (jump : Option Code) (V3 : World), KeepsFrom w.heap.size V2 V3 → V3.heap[w.heap.size + 1]? = some (L .busy none) ∧ ∃ V4, V4 = V3.putObj (w.heap.size + 1) (L (if jump.isNone then .ready else .done) jump) ∧
        (Instr.endRound (w.heap.size + 1) jump).run P V3 = .ok (.bool jump.isNone) V4 ∧ V4.heap[w.heap.size + 1]? = some (L (if jump.isNone then .ready else .done) jump) ∧ V4.heap[w.heap.size]? = some D := fun jump V3 hk => by
      have h1 := hk.same _ _ (by omega) hl2 rfl
      exact ⟨h1, _, rfl, run_endRound (P := P) jump h1, World.putObj_heap_same (Array.getElem?_eq_some_iff.1 h1).1, (World.putObj_heap_other (by omega)).trans (hk.same _ _ (Nat.le_refl _) hd2 rfl)⟩
    have out : ∀ (c : Code) (V3 : World), KeepsFrom w.heap.size V2 V3 → Ix c (pre ++ [x]) V3 → ∃ r V4, (Instr.endRound (w.heap.size + 1) (some c)).run P V3 = .ok r V4 ∧ (Ending.returned r = .returned (.bool false) ∧ ∃ c, Ix c (pre ++ [x]) V4 ∧ V4.heap[w.heap.size + 1]? = some (L .done (some c)) ∧ V4.heap[w.heap.size]? = some D) := fun c V3 hk hi => by
      obtain ⟨h3, V4, rfl, hr, h4, h5⟩ := fin (some c) V3 hk
      exact ⟨_, _, hr, rfl, c, (hIx c).put hOk hi _ h3 rfl (by omega), h4, h5⟩
    rintro e a3 V3 hp
    cases e with
    | normal =>
      obtain ⟨hk, hkp, hi⟩ := hp
      obtain ⟨h3, V4, rfl, hr, h4, h5⟩ := fin none V3 hk
      exact ⟨_, _, hr, .inl ⟨rfl, ⟨hI.put hOk hi _ h3 rfl (by omega), h4, h5⟩, hKt (hKt hk2 hkp) (hKb _ _ _ _ (by omega) h3 rfl rfl)⟩⟩
    | ret => obtain ⟨r, V4, hr, h⟩ := out .ret V3 hp.1 hp.2; exact ⟨r, V4, hr, .inr h⟩
    | exit id => obtain ⟨r, V4, hr, h⟩ := out (.exit id) V3 hp.1 hp.2; exact ⟨r, V4, hr, .inr h⟩
    | goto t => obtain ⟨r, V4, hr, h⟩ := out (.goto t) V3 hp.1 hp.2; exact ⟨r, V4, hr, .inr h⟩
    | panic ch => exact hp.elim
    | outgrown => exact hp.elim
  · -- behind the iterator
    rintro e W2 ⟨⟨v, rfl⟩, ⟨xs, hS, hi, hl, hd⟩ | ⟨pre, hSp, c, hi, hl, hd⟩⟩
    · exact ⟨none, _, run_endLoop (P := P) hl (by simp), hdone _ xs _ (Nat.le_refl _) hS (hI.put hOk hi _ hl rfl (by omega)) ((World.putObj_heap_other (by omega)).trans hd)⟩
    · exact ⟨some c, _, run_endLoop (P := P) hl (by simp), hstop _ c pre _ (Nat.le_refl _) hSp ((hIx c).put hOk hi _ hl rfl (by omega)) ((World.putObj_heap_other (by omega)).trans hd)⟩
end Go.Proofs.Ytejpgifofkiofaa

namespace Go.Proofs.Ytejpgifofkiofaa
open Go.RowKit Go.Shelf
attribute [local go_sem] Oper.semAt_some

namespace Tm
mutual
def pre : Tm → Nat → Nat → List (Nat × Nat × Tm)
  | .mk b k i a, s, d => (s + b.length, d, .mk b k i a) :: pres a (s + b.length) (d + 1)
def pres : List Tm → Nat → Nat → List (Nat × Nat × Tm)
  | [], _, _ => []
  | t :: l, s, d => pre t s d ++ pres l s d
end
theorem pre_eq (b : List Ty) (k i : Int) (a : List Tm) (s d : Nat) : pre (.mk b k i a) s d = (s + b.length, d, .mk b k i a) :: pres a (s + b.length) (d + 1) := by rw [pre]
theorem pres_append (l r : List Tm) (s d : Nat) : pres (l ++ r) s d = pres l s d ++ pres r s d := by
  induction l with
  | nil => simp [pres]
  | cons t l ih => simp [pres, ih]
theorem pres_take (l : List Tm) (i s d : Nat) (h : i < l.length) : pres (l.take (i + 1)) s d = pres (l.take i) s d ++ pre l[i] s d := by
  rw [List.take_succ_eq_append_getElem h, pres_append]; simp [pres]
theorem pres_take_le (l : List Tm) (i s d : Nat) : pres (l.take i) s d <+: pres l s d := by
  conv => rhs; rw [← List.take_append_drop i l]
  rw [pres_append]; exact List.prefix_append _ _
theorem pres_length_of {l : List Tm} (h : ∀ t ∈ l, ∀ s d, (pre t s d).length = t.size) : ∀ s d, (pres l s d).length = sizes l := by
  induction l with
  | nil => intro s d; simp [pres, sizes]
  | cons t l ih => intro s d; simp [pres, sizes, h t (by simp) s d, ih (fun u hu => h u (by simp [hu])) s d]
theorem pre_length (t : Tm) : ∀ s d, (pre t s d).length = t.size := by
  induction t using Tm.ind with
  | h b k i a ih => intro s d; simp [pre_eq, size_eq, pres_length_of ih]
theorem pres_length (l : List Tm) (s d : Nat) : (pres l s d).length = sizes l := pres_length_of (fun t _ => pre_length t) s d
end Tm

structure Hit6 (F : Nat → Prop) (w : World) where
  s : Nat
  d : Nat
  pb : Option Addr
  cb : Nat
  pa : Option Addr
  ca : Nat
  t : Tm
  ok : IsTm F w (.slice pb t.binds.length cb) (.int .i64 t.kind) (.int .i64 t.index) (.slice pa t.args.length ca) t
def Hit6.key {F : Nat → Prop} {w : World} (x : Hit6 F w) : Nat × Nat × Tm := (x.s, x.d, x.t)
def Hit6.enc {F : Nat → Prop} {w : World} (x : Hit6 F w) : Array Value := #[.agg #[.int .i64 x.s, .int .i64 x.d], .agg #[.slice x.pb x.t.binds.length x.cb, .int .i64 x.t.kind, .int .i64 x.t.index, .slice x.pa x.t.args.length x.ca]]

def DownPost6 {F : Nat → Prop} {w0 : World} (G : Nat → TypeId → Prop) (J Jx : List (Hit6 F w0) → World → Prop) (pre : List (Hit6 F w0)) (l : List (Nat × Nat × Tm)) (W : World) (e : Ending) (W' : World) : Prop :=
  (e = .returned (.bool true) ∧ KeepC G W W' ∧ ∃ xs, xs.map Hit6.key = l ∧ J (pre ++ xs) W') ∨ (e = .returned (.bool false) ∧ ∃ xs, xs.map Hit6.key <+: l ∧ Jx (pre ++ xs) W')

def SpotOk (o : Obj) : Prop := o.isCells = false ∨ ∃ cs fr, o = .cells cs 148 fr
theorem KeepC.setNew {G : Nat → TypeId → Prop} {A B : World} (h : KeepC G A B) (p : Addr) (u : Value) (hp : A.heap.size ≤ p.block) : KeepC G A (B.setCell p u) :=
  ⟨by simpa using h.size, fun k cs t fr hk hc => by
    have hlt : k < A.heap.size := (Array.getElem?_eq_some_iff.1 hc).1
    exact (Below.heap_setCell _ _ _ _ (fun e => by omega)).trans (h.cells k cs t fr hk hc)⟩
theorem Mild.setSpot {β : Type} {B : Nat} {J : β → World → Prop} (h : Mild SpotOk B J) {s : β} {W : World} (hs : J s W) {n i : Nat} {cs : Array Value} (u : Value) (hb : Blk W n cs 148) (hB : B ≤ n) : J s (W.setCell ⟨n, i, none⟩ u) :=
  h s W _ (some n) hs ⟨rfl, rfl, rfl, by simp, fun k _ hk => Below.heap_setCell _ _ _ _ (fun e => hk (by rw [e]))⟩ (fun r e => by cases e; exact ⟨hB, _, hb, .inr ⟨_, _, rfl⟩⟩)

set_option maxRecDepth 100000 in
set_option maxHeartbeats 1000000 in
theorem down6_k {F : Nat → Prop} {w0 : World} (G : Nat → TypeId → Prop) (hGF : ∀ k t, F k → k < w0.heap.size → G k t) (l N B0 : Nat) (hN0 : N ≤ 1000000) (J Jx : List (Hit6 F w0) → World → Prop) (hJ : Mild SpotOk B0 J)
    (hY : ∀ m pre x W, J pre W → pre.length < N → YieldAt Fence.wide m Try.prog l (Hit6.enc x) W fun e W' =>
      (e = .returned (.bool true) ∧ J (pre ++ [x]) W' ∧ KeepC G W W') ∨ (e = .returned (.bool false) ∧ Jx (pre ++ [x]) W')) :
    ∀ t : Tm, ∀ {b k i a : Value} (_ : IsTm F w0 b k i a t) (n s d : Nat) (si di : Int) (pre : List (Hit6 F w0)) (W : World), si = s → di = d → (∀ k t, W.heap.size ≤ k → t ≠ 3 → G k t) → B0 ≤ W.heap.size → Keep F w0 W → J pre W → pre.length + t.size ≤ N → d + t.depth ≤ 1000000 → s + t.full ≤ 1000000 →
      CallsIn Fence.wide n Try.prog 126 #[.agg #[b, k, i, a], .agg #[.int .i64 si, .int .i64 di], .func (.yield l) #[] #[]] W (DownPost6 G J Jx pre (t.pre s d) W) := Tm.ind fun binds k0 i0 args ih => by
  intro b k i a ht nn s d si di pre W hsi hdi hG hB0 hw hJ0 hN hd hs
  subst hsi hdi
  obtain ⟨pa, pc, qa, qc, rfl, rfl, rfl, rfl⟩ := ht.shape
  simp only [Tm.binds, Tm.kind, Tm.index, Tm.args] at ht ⊢
  obtain ⟨_, _, _, hsl⟩ := ht.inv
  simp only [Tm.args] at hsl
  obtain ⟨_, hm, bl, off, PA, A, PN, PC, N', C, Kd, Ix, ha, h1, h2, h3, h4, h5⟩ := sl_cells6 hsl
  have hdd : ∀ k : Nat, (Fence.wide.depth.isSome = true → 1 ≤ k) := fun k h => by cases h
  have hlen : args.length ≤ 1000000 := by have := Tm.len_sizes args; rw [Tm.size_eq] at hN; omega
  have hbl : s + binds.length ≤ 1000000 := by have := Ty.le_sizes binds; rw [Tm.full_eq] at hs; omega
  have hq1 : IntKind.i64.wrap ((s : Int) + (binds.length : Int)) = (s : Int) + (binds.length : Int) := IntWalk.i64_in _ (by omega)
  have hdb : (d : Int) ≤ 1000000 := by omega
  have hq2 : IntKind.i64.wrap ((d : Int) + 1) = (d : Int) + 1 := IntWalk.i64_in _ (by omega)
  obtain ⟨W1, hW1⟩ : ∃ W1, (W.alloc (.cells #[.slice pa binds.length pc, .int .i64 k0, .int .i64 i0, .slice qa args.length qc] 37)).alloc (.cells #[.int .i64 ((s : Int) + (binds.length : Int)), .int .i64 d] 148) = W1 := ⟨_, rfl⟩
  have hJ1 : J pre W1 := by rw [← hW1]; exact hJ.alloc (hJ.alloc hJ0 _) _
  have xt : Blk W1 W.heap.size #[.slice pa binds.length pc, .int .i64 k0, .int .i64 i0, .slice qa args.length qc] 37 := by rw [← hW1]; exact (Blk.new _ _ _ rfl).alloc _
  have xs : Blk W1 (W.heap.size + 1) #[.int .i64 ((s : Int) + (binds.length : Int)), .int .i64 d] 148 := by rw [← hW1]; exact Blk.new _ _ _ (by simp)
  have hz1 : W1.heap.size = W.heap.size + 2 := by rw [← hW1]; simp
  have hk0 : KeepC G W W1 := by rw [← hW1]; exact ((KeepC.refl G W).alloc _).alloc _
  obtain ⟨X, hX⟩ : ∃ X : Hit6 F w0, X = ⟨s + binds.length, d, pa, pc, qa, qc, .mk binds k0 i0 args, ht⟩ := ⟨_, rfl⟩
  have hkey : X.key = (s + binds.length, d, .mk binds k0 i0 args) := by rw [hX]; rfl
  obtain ⟨fn, tmps, assign, body, hy, hR⟩ := hY (nn - 1) pre X W1 hJ1 (by have := Tm.size_pos (.mk binds k0 i0 args); omega)
  have henc : X.enc = #[.agg #[.int .i64 ((s : Int) + (binds.length : Int)), .int .i64 d], .agg #[.slice pa binds.length pc, .int .i64 k0, .int .i64 i0, .slice qa args.length qc]] := by rw [hX]; simp [Hit6.enc, Tm.binds, Tm.kind, Tm.index, Tm.args]
  rw [henc] at hy
  clear hX henc ht hsl
  refine callsIn_of_wp Try.func126 rfl trivial ?_ rfl
  simp only [Try.ntmps126, List.size_toArray, List.length_cons, List.length_nil, Nat.reduceAdd, Nat.reduceSub, Array.replicate_succ, Array.replicate_zero, List.push_toArray, List.append_toArray, List.nil_append, List.cons_append]
  have c0 : W1.cell? ⟨W.heap.size, 0, none⟩ = some (.slice pa binds.length pc) := xt.cell rfl
  have c1 : W1.cell? ⟨W.heap.size, 1, none⟩ = some (.int .i64 k0) := xt.cell rfl
  have c2 : W1.cell? ⟨W.heap.size, 2, none⟩ = some (.int .i64 i0) := xt.cell rfl
  have c3 : W1.cell? ⟨W.heap.size, 3, none⟩ = some (.slice qa args.length qc) := xt.cell rfl
  have s0 : W1.cell? ⟨W.heap.size + 1, 0, none⟩ = some (.int .i64 ((s : Int) + (binds.length : Int))) := xs.cell rfl
  have s1 : W1.cell? ⟨W.heap.size + 1, 1, none⟩ = some (.int .i64 d) := xs.cell rfl
  gi_wp2_with fail
  clear hW1
  refine ⟨hdd _, hR.mono ?_⟩
  clear c0 c1 c2 c3 s0 s1
  rintro e W2 (⟨rfl, hJ2, hk1⟩ | ⟨rfl, hx1⟩)
  rotate_left
  · gi_wp2_with fail
    go_ret
    exact .inr ⟨rfl, [X], ⟨Tm.pres args (s + binds.length) (d + 1), by simp [hkey, Tm.pre_eq]⟩, hx1⟩
  have yt : Blk W2 W.heap.size _ _ := hk1.blk xt (hG _ _ (Nat.le_refl _) (by decide))
  have ys : Blk W2 (W.heap.size + 1) _ _ := hk1.blk xs (hG _ _ (by omega) (by decide))
  have c0 : W2.cell? ⟨W.heap.size, 0, none⟩ = some (.slice pa binds.length pc) := yt.cell rfl
  have c1 : W2.cell? ⟨W.heap.size, 1, none⟩ = some (.int .i64 k0) := yt.cell rfl
  have c2 : W2.cell? ⟨W.heap.size, 2, none⟩ = some (.int .i64 i0) := yt.cell rfl
  have c3 : W2.cell? ⟨W.heap.size, 3, none⟩ = some (.slice qa args.length qc) := yt.cell rfl
  have s1 : W2.cell? ⟨W.heap.size + 1, 1, none⟩ = some (.int .i64 d) := ys.cell rfl
  have f1 := ys.free 1
  gi_wp2_with fail
  obtain ⟨W3, hW3⟩ : ∃ W3, W2.setCell ⟨W.heap.size + 1, 1, none⟩ (.int .i64 ((d : Int) + 1)) = W3 := ⟨_, rfl⟩
  have hJ3 : J (pre ++ [X]) W3 := by rw [← hW3]; exact hJ.setSpot hJ2 _ ys (by omega)
  have hk3 : KeepC G W W3 := by rw [← hW3]; exact (hk0.trans hk1).setNew _ _ (by simp)
  have xt3 : Blk W3 W.heap.size #[.slice pa binds.length pc, .int .i64 k0, .int .i64 i0, .slice qa args.length qc] 37 := by rw [← hW3]; exact yt.far _ _ (by simp)
  have xs3 : Blk W3 (W.heap.size + 1) #[.int .i64 ((s : Int) + (binds.length : Int)), .int .i64 ((d : Int) + 1)] 148 := by rw [← hW3]; exact ys.set 1 _
  try rw [hW3]
  clear hW3 c0 c1 c2 c3 s1 f1 hJ2 hk1 yt ys hk0 xt xs hJ1 hR hy hY hz1
  have Hih := Lib.hid ih; clear ih
  have HG := Lib.hid hG; clear hG
  have HN := Lib.hid hN; clear hN
  have Hd := Lib.hid hd; clear hd
  have Hs := Lib.hid hs; clear hs
  gi_loopw [8, 28] (fun _ i wr => ∃ (k : Nat) (xs : List (Hit6 F w0)), i = .int .i64 k ∧ k ≤ args.length ∧ Hid (xs.map Hit6.key = Tm.pres (args.take k) (s + binds.length) (d + 1)) ∧ J (pre ++ [X] ++ xs) wr ∧ KeepC G W wr ∧
      Blk wr W.heap.size #[.slice pa binds.length pc, .int .i64 k0, .int .i64 i0, .slice qa args.length qc] 37 ∧ Blk wr (W.heap.size + 1) #[.int .i64 ((s : Int) + (binds.length : Int)), .int .i64 ((d : Int) + 1)] 148) (fun _ i _ => args.length - (intOf i).toNat)
  case atStart => exact ⟨0, [], rfl, by omega, by simp [Hid, Tm.pres], by simpa using hJ3, hk3, xt3, xs3⟩
  case round =>
    clear hJ3 hk3 xt3 xs3
    obtain ⟨k, xs, rfl, hk, hxs, hJr, hkr, hbt, hbs⟩ := hrel
    have Hkr := Lib.hid hkr
    have HJr := Lib.hid hJr; clear hJr
    have hsz := hkr.size
    have hsb := hbs.lt
    have s0 : wr.cell? ⟨W.heap.size + 1, 0, none⟩ = some (.int .i64 ((s : Int) + (binds.length : Int))) := hbs.cell rfl
    have s1 : wr.cell? ⟨W.heap.size + 1, 1, none⟩ = some (.int .i64 ((d : Int) + 1)) := hbs.cell rfl
    by_cases hlt : k < args.length
    · obtain ⟨rfl, hF⟩ := ha (by omega)
      have hKp : Keep F w0 wr := hkr.keep' hw hGF
      have e1 := hKp _ _ _ hF (h1 k hlt)
      have e2 := hKp _ _ _ hF (h2 k hlt)
      have e3 := hKp _ _ _ hF (h3 k hlt)
      have e4 := hKp _ _ _ hF (h4 k hlt)
      have hs1 := Lib.hid (Tm.sizes_take args k hlt)
      have hs2 := Lib.hid (Tm.sizes_take_le args (k + 1))
      have hl : Hid (xs.length = Tm.sizes (args.take k)) := by
        show _ = _
        have := congrArg List.length hxs.out
        rw [List.length_map] at this
        rw [this, Tm.pres_length]
      have hz : pre.length + 1 + xs.length + args[k].size ≤ N := by have := HN.out; have := hl.out; have := hs1.out; have := hs2.out; rw [Tm.size_eq] at *; omega
      gi_wp2_with fail
      refine ⟨trivial, hdd _, (Hih.out args[k] (List.getElem_mem hlt) (h5 k hlt) (nn - 1) (s + binds.length) (d + 1) ((s : Int) + (binds.length : Int)) ((d : Int) + 1) (pre ++ [X] ++ xs) _ (by omega) (by omega) (fun q t hq ht => HG.out q t (by simp at hq; omega) ht) (by simp; omega) (hKp.alloc _) (hJ.alloc HJr.out _) (by simp; omega) ?_ ?_).mono ?_⟩
      · have := Hd.out; have := Tm.depth_mem (List.getElem_mem hlt); rw [Tm.depth_eq] at *; omega
      · have := Hs.out; have := Tm.full_mem (List.getElem_mem hlt); have := Ty.le_sizes binds; rw [Tm.full_eq] at *; omega
      rintro e W2 (⟨rfl, hk2, ys, hys, hJ2⟩ | ⟨rfl, ys, hys, hx2⟩)
      · have HJ2 := Lib.hid hJ2; clear hJ2
        have Hys := Lib.hid hys; clear hys
        have hbt2 := hk2.blk (hbt.alloc _) (HG.out _ _ (Nat.le_refl _) (by decide))
        have hbs2 := hk2.blk (hbs.alloc _) (HG.out _ _ (by omega) (by decide))
        gi_wp2_with fail
        go_roundw
        case rel => exact ⟨k + 1, xs ++ ys, by go_num, by omega, by show _ = _; rw [List.map_append, hxs.out, Hys.out, Tm.pres_take _ _ _ _ hlt], by rw [← List.append_assoc]; exact HJ2.out, (Hkr.out.alloc _).trans hk2, hbt2, hbs2⟩
        case measure => simp [intOf]; omega
      · have Hys := Lib.hid hys; clear hys
        have Hx2 := Lib.hid hx2; clear hx2
        gi_wp2_with fail
        go_ret
        refine .inr ⟨rfl, X :: (xs ++ ys), ?_, by simpa using Hx2.out⟩
        obtain ⟨r, hr⟩ := Hys.out
        have hp := Tm.pres_take args k (s + binds.length) (d + 1) hlt
        rw [← hr] at hp
        obtain ⟨q, hq⟩ := Tm.pres_take_le args (k + 1) (s + binds.length) (d + 1)
        refine ⟨r ++ q, ?_⟩
        simp only [Tm.pre_eq, List.map_cons, List.map_append, hkey, List.cons_append]
        rw [← hq, hp, ← hxs.out]
        simp
    · gi_wp2_with fail
      go_ret
      refine .inl ⟨rfl, Hkr.out, X :: xs, ?_, by simpa using HJr.out⟩
      have h := hxs.out
      rw [List.take_of_length_le (by omega)] at h
      simp [Tm.pre_eq, hkey, ← h]

theorem each61_k {F : Nat → Prop} {w0 : World} (G : Nat → TypeId → Prop) (hGF : ∀ k t, F k → k < w0.heap.size → G k t) (l : Nat) (J Jx : List (Hit6 F w0) → World → Prop)
    {b k i a : Value} {t : Tm} (ht : IsTm F w0 b k i a t) (hsz : t.full ≤ 500000) (n : Nat) (W : World) (hJ : Mild SpotOk W.heap.size J)
    (hY : ∀ pre x V, J pre V → pre.length < t.size → YieldAt Fence.wide (n - 1) Try.prog l (Hit6.enc x) V fun e W' =>
      (e = .returned (.bool true) ∧ J (pre ++ [x]) W' ∧ KeepC G V W') ∨ (e = .returned (.bool false) ∧ Jx (pre ++ [x]) W'))
    (hG : ∀ k t, W.heap.size ≤ k → t ≠ 3 → G k t) (hw : Keep F w0 W) (Bt : Nat) (c0 : W.cell? ⟨Bt, 0, none⟩ = some b) (c1 : W.cell? ⟨Bt, 1, none⟩ = some k) (c2 : W.cell? ⟨Bt, 2, none⟩ = some i) (c3 : W.cell? ⟨Bt, 3, none⟩ = some a) (h0 : J [] W) :
    CallsIn Fence.wide n Try.prog 125 #[.func (.yield l) #[] #[], .pointer (some ⟨Bt, 0, none⟩)] W fun e W' => (∃ v, e = .returned v) ∧
      ((∃ ys, List.map Hit6.key ys = t.pre 0 1 ∧ J ys W') ∨ (∃ pre, List.map Hit6.key pre <+: t.pre 0 1 ∧ Jx pre W')) := by
  have hdd : ∀ k : Nat, (Fence.wide.depth.isSome = true → 1 ≤ k) := fun k h => by cases h
  have hf := Tm.size_le_full t
  have hp := Lib.hid (down6_k G hGF l t.size W.heap.size (by omega) J Jx hJ (fun m pre x V hj hl => yield_any rfl m (hY pre x V hj hl)) t ht (n - 1) 0 1 0 1 [] W rfl rfl hG (Nat.le_refl _) hw h0 (by simp) (by have := Tm.depth_le_size t; omega) (by omega))
  clear hG hY
  obtain ⟨pa, pc, qa, qc, rfl, rfl, rfl, rfl⟩ := ht.shape
  refine callsIn_of_wp Try.func125 rfl trivial ?_ rfl
  simp only [Try.ntmps125, List.size_toArray, List.length_cons, List.length_nil, Nat.reduceAdd, Nat.reduceSub, Array.replicate_succ, Array.replicate_zero, List.push_toArray, List.append_toArray, List.nil_append, List.cons_append]
  gi_wp2_with fail
  refine ⟨trivial, hdd _, hp.out.mono ?_⟩
  rintro e W1 (⟨rfl, hk, ys, hys, hJ1⟩ | ⟨rfl, ys, hys, hx⟩)
  · have A1 := Lib.hid hys; clear hys
    gi_wp2_with fail
    go_end0
    exact ⟨⟨_, rfl⟩, .inl ⟨ys, A1.out, by simpa using hJ1⟩⟩
  · have A1 := Lib.hid hys; clear hys
    gi_wp2_with fail
    go_end0
    exact ⟨⟨_, rfl⟩, .inr ⟨ys, A1.out, by simpa using hx⟩⟩

theorem each6_soft {F : Nat → Prop} {w0 : World} (G : Nat → TypeId → Prop) (hGF : ∀ k t, F k → k < w0.heap.size → G k t) {b k i a : Value} {t : Tm} (ht : IsTm F w0 b k i a t) (hsz : t.full ≤ 500000) (n : Nat)
    (w : World) (hG : ∀ k t, w.heap.size ≤ k → t ≠ 3 → G k t) (hw : Keep F w0 w) (Bt : Nat) (hB : Blk w Bt #[b, k, i, a] 37) :
    SeqSoft SpotOk Fence.wide n Try.prog 125 #[.pointer (some ⟨Bt, 0, none⟩)] (Hit6.enc (F := F) (w := w0)) (KeepC G) (fun ys => ys.map Hit6.key = t.pre 0 1) (fun p => p.map Hit6.key <+: t.pre 0 1) t.size w :=
  fun l J Jx W hW hJ _ hY h0 => by
    have hB' := hB.below hW
    exact each61_k G hGF l J Jx ht hsz n W hJ hY (fun k t hk ht => hG k t (Nat.le_trans hW.size hk) ht) (hw.below hW) Bt (hB'.cell rfl) (hB'.cell rfl) (hB'.cell rfl) (hB'.cell rfl) h0

theorem each6_k (b k i a : Value) (n : Nat) (w : World) (hs : ∃ p m c, b = .slice p m c) (hk : ∃ x, k = .int .i64 x) (hi : ∃ x, i = .int .i64 x) (ha : ∃ p m c, a = .slice p m c) :
    CallsIn Fence.wide n Try.prog 112 #[.agg #[b, k, i, a]] w fun e w' => e = .returned (.func (.func 125) #[] #[.pointer (some ⟨w.heap.size, 0, none⟩)]) ∧ w' = w.alloc (.cells #[b, k, i, a] 37) := by
  obtain ⟨pb, mb, cb, rfl⟩ := hs
  obtain ⟨kx, rfl⟩ := hk
  obtain ⟨ix, rfl⟩ := hi
  obtain ⟨pa, ma, ca, rfl⟩ := ha
  refine callsIn_of_wp Try.func112 rfl trivial ?_ rfl
  simp only [Try.ntmps112, List.size_toArray, List.length_cons, List.length_nil, Nat.reduceAdd, Nat.reduceSub, Array.replicate_succ, Array.replicate_zero, List.push_toArray, List.append_toArray, List.nil_append, List.cons_append]
  gi_wp2_with fail
  go_ret
  exact ⟨rfl, rfl⟩
end Go.Proofs.Ytejpgifofkiofaa

