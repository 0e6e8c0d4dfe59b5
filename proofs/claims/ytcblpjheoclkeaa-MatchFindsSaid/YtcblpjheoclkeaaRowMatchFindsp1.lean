/-
  How plain data lie in memory: footprints that are kept, slices of any elements, slices that a call is building; and simple types. What a simple type is in plain Lean, and when memory holds one. From the readings of a row's arguments to the representations that the walks ask, and from a walk that keeps what was there to the row's end. What a term is in plain Lean, and when memory holds one. The reference's count of a type's types: how far it counts, and what its count says. A region that draws its order: a load may be taken first where every other operation that can come up ahead of it keeps its cell; of what comes behind a store nothing is asked. The reference's size, order and depth of a type, whether its bases are low, whether two types are the same: what each hands back. Whether two types are the same, as the reference asks it. kind.Equal, and slices.EqualFunc with it. The reference's count of a term's terms and types. A type, copied cell by cell: To, Of of the laws. kind.Each: all types within, each ahead of its arguments: what the iterator hands to a loop's body. kind.Size, kind.Depth, kind.Right: what the loops over all types within hand back. kind.Right: whether a type may be, by a loop that is left early. A type's order, its copy, the type of a base and arguments: what the program's functions hand back. slices.Grow from nil and slices.Concat of two slices of types. kind.Of, kind.Arrow, kind.Rest: types that are made. DERIVED: THE SHELF's CONTRACTS AT THIS DUMP, IN PLAIN WORDS (tools/lay-plain.mjs out of 'TryShelf.lean', which tools/lay-shelf.mjs wrote): THE SAME DECLARATIONS UNDER THE SAME NAMES: 'import', 'namespace', 'open', 'def', 'theorem' AND NOTHING ELSE: no command of the shelf's: FOR A HAND-IN. Each laying: the table of numbers ('.._ren') and one theorem, a field a fact of the dump's own or the kernel's comparison; each contract: ONE APPLICATION. A type's text: the reference's, and the program's. The chapter's example of the kinds' laws, kind.Text, and whether some types are few. Terms: whether they are few; copied cell by cell, there and back. The law KindParts, stepped through. The law KindTexts, stepped through, where every name has at most 1048576 bytes. The verifier's all: copies of at most twenty types. The document's Arrow and Rest. Long forms of heads, as the reference makes them. Whether two terms are the same, as the reference asks it. Long forms and their heads, as the reference tells them. The readings of a row's arguments that are heads, terms or worlds. The readings of a row's arguments that are worlds. What a call may turn. Deep values: what a value reads as, wherever it lies in memory; a store of deep values by keys. When memory and a frame read as a store of deep values; how this is kept. Deep values: stores, rows that grow. Deep values: operations that read memory at most.
-/
import Derived.WalkKit
import Derived.Deep.AppendLies
import Derived.Lib.AppendZerosOnto
import Derived.Test.YtcblpjheoclkeaaChecked
import Derived.ProofKit
import Derived.WideKeyArgs
import Derived.OpenShut
import Derived.Test.YtcblpjheoclkeaaProg
import Derived.Lib.Hide
import Derived.Deep.QuietTactic
import Derived.BigQuiet
import Derived.OrdersHeld
import Derived.Deep.RegionHeld
import Derived.Deep.RegionHeld3
import Derived.Deep.DrawnRows
import Derived.RangeFuncNested
import Derived.RangeFuncBound
import Derived.RangeFuncCalls
import Derived.RangeFuncLeaves
import Derived.Shelf.Abstract
import Derived.Shelf.RegionOpen
import Derived.OwnWalkIn
import Derived.TacticsInMore
import Derived.LoopNIn
import Derived.LoopIn
import Derived.Shelf.Small.Bits
import Derived.Shelf.Small.Wraps
import Derived.Shelf.Strconv.Itoa0
import Derived.Shelf.Sort.Plain
import Derived.Ground.Names2Prog
import Derived.Shelf.Slices.Clone
import Derived.Shelf.Slices.CompactI
import Derived.Shelf.Slices.SearchI
import Derived.Shelf.Slices.Cells
import Derived.Shelf.Slices.In.SortNone
import Derived.ArgAppend
set_option maxRecDepth 100000
set_option maxHeartbeats 1000000
set_option linter.unusedVariables false
set_option linter.unusedSimpArgs false
namespace Go.Proofs.Ytcblpjheoclkeaa
open Go.RowKit

def Keep (F : Nat → Prop) (w w' : World) : Prop := ∀ k o v, F k → w.cell? ⟨k, o, none⟩ = some v → w'.cell? ⟨k, o, none⟩ = some v
namespace Keep
variable {F : Nat → Prop} {w w' w'' : World}
theorem refl (F : Nat → Prop) (w : World) : Keep F w w := fun _ _ _ _ h => h
theorem trans (h : Keep F w w') (h' : Keep F w' w'') : Keep F w w'' := fun k o v hk hv => h' k o v hk (h k o v hk hv)
theorem weaken {F' : Nat → Prop} (h : Keep F w w') (hF : ∀ k, F' k → F k) : Keep F' w w' := fun k o v hk hv => h k o v (hF k hk) hv
theorem lt {k o : Nat} {v : Value} (h : w.cell? ⟨k, o, none⟩ = some v) : k < w.heap.size := by
  simp only [World.cell?] at h
  by_cases hk : k < w.heap.size
  · exact hk
  · rw [Array.getElem?_eq_none (by omega)] at h; simp at h
theorem below (h : Keep F w w') (hb : Below w'.heap.size w' w'') : Keep F w w'' :=
  h.trans fun k o _ _ hv => (hb.cell (p := ⟨k, o, none⟩) (lt hv)).trans hv
theorem alloc (h : Keep F w w') (o : Obj) : Keep F w (w'.alloc o) := h.below ((Below.refl _ _).alloc (Nat.le_refl _) _)
theorem drew (h : Keep F w w') : Keep F w w'.drew := h.below (Below.refl _ _).drew
theorem setCell (h : Keep F w w') (p : Addr) (u : Value) (hp : ¬ F p.block) : Keep F w (w'.setCell p u) :=
  h.trans fun k o v hk hv => by
    rw [← hv]; exact World.cell?_of_block (w := w') (a := ⟨k, o, none⟩) (Below.heap_setCell _ _ _ _ (fun e => hp (e ▸ hk)))
theorem grown (h : Keep F w w') {row : Option Nat} (hg : w'.grownBy w'' row) (hr : ∀ k, row = some k → ¬ F k) : Keep F w w'' :=
  h.trans fun k _ _ hk hv => hg.cell hv (fun e => hr k e.symm hk)
end Keep

theorem heap_alloc? (w : World) (o : Obj) (n : Nat) : (w.alloc o).heap[n]? = if n = w.heap.size then some o else w.heap[n]? := by
  by_cases h : n = w.heap.size
  · subst h; rw [if_pos rfl]; exact heap_alloc_new _ _
  · rw [if_neg h]
    show (w.heap.push o)[n]? = _
    rw [Array.getElem?_push, if_neg h]

def Blk (w : World) (n : Nat) (cs : Array Value) (t : TypeId) : Prop := w.heap[n]? = some (.cells cs t (0, 0))
namespace Blk
variable {w w' : World} {n : Nat} {cs : Array Value} {t : TypeId}
theorem lt (h : Blk w n cs t) : n < w.heap.size := lt_of_block h
theorem new (w : World) (cs : Array Value) (t : TypeId) {n : Nat} (h : n = w.heap.size) : Blk (w.alloc (.cells cs t)) n cs t := by
  subst h; exact heap_alloc_new _ _
theorem same (h : Blk w n cs t) (hw : w'.heap[n]? = w.heap[n]?) : Blk w' n cs t := Eq.trans hw h
theorem alloc (h : Blk w n cs t) (o : Obj) : Blk (w.alloc o) n cs t := h.same (by rw [heap_alloc?, if_neg (Nat.ne_of_lt h.lt)])
theorem drew (h : Blk w n cs t) : Blk w.drew n cs t := h
theorem below (h : Blk w n cs t) (hb : Below w.heap.size w w') : Blk w' n cs t := h.same (hb.block n h.lt)
theorem grown (h : Blk w n cs t) {row : Option Nat} (hg : w.grownBy w' row) (hne : row ≠ some n) : Blk w' n cs t := h.same (hg.block n h.lt (Ne.symm hne))
theorem far (h : Blk w n cs t) (p : Addr) (u : Value) (hp : n ≠ p.block) : Blk (w.setCell p u) n cs t := h.same (Below.heap_setCell _ _ _ _ hp)
theorem set (h : Blk w n cs t) (i : Nat) (u : Value) : Blk (w.setCell ⟨n, i, none⟩ u) n (cs.setIfInBounds i u) t := by
  have h' : w.heap[n]? = some (.cells cs t (0, 0)) := h
  show (w.heap.modify n _)[n]? = _
  simp [Array.getElem?_modify, h']
theorem cell (h : Blk w n cs t) {i : Nat} {v : Value} (hv : cs[i]? = some v) : w.cell? ⟨n, i, none⟩ = some v := by
  have h' : w.heap[n]? = some (.cells cs t (0, 0)) := h
  simp [World.cell?, h', hv]
theorem free (h : Blk w n cs t) (i : Nat) : w.frozen? ⟨n, i, none⟩ = false := by
  have h' : w.heap[n]? = some (.cells cs t (0, 0)) := h
  simp [World.frozen?, h']
end Blk
theorem Blk.push {w w1 w2 : World} {o : Obj} {row : Option Nat} {n : Nat} {cs : Array Value} {t : TypeId} (h : Blk w n cs t) (hb1 : Below w.drew.heap.size w.drew w1) (hg : (w1.alloc o).grownBy w2 row) (hne : row ≠ some n) : Blk w2 n cs t :=
  ((Blk.below (w := w.drew) h hb1).alloc o).grown hg hne

structure Rp (α : Type) where
  n : Nat
  R : (Nat → Prop) → World → List Value → α → Prop
  len : ∀ {F w x a}, R F w x a → x.length = n
  one : ∀ {F w x a}, R F w x a → ∀ u ∈ x, u.oneCell' = true
  keep : ∀ {F w w' x a}, R F w x a → Keep F w w' → R F w' x a
  weaken : ∀ {F F' w x a}, R F w x a → (∀ k, k < w.heap.size → F k → F' k) → R F' w x a

def IsSl {α : Type} (r : Rp α) (F : Nat → Prop) (w : World) (v : Value) (l : List α) : Prop :=
  ∃ (a : Option Addr) (c bl off : Nat) (X : Nat → List Value), v = .slice a l.length c ∧ (l.length ≤ maxLen ∧ l.length ≤ c) ∧ (0 < l.length → a = some ⟨bl, off, none⟩ ∧ F bl) ∧
    (∀ i j u, i < l.length → (X i)[j]? = some u → w.cell? ⟨bl, off + i * r.n + j, none⟩ = some u) ∧ ∀ i (h : i < l.length), r.R F w (X i) l[i]

theorem IsSl.keep {α : Type} {r : Rp α} {F : Nat → Prop} {w w' : World} {v : Value} {l : List α} (h : IsSl r F w v l) (hw : Keep F w w') : IsSl r F w' v l := by
  obtain ⟨a, c, bl, off, X, hv, hl, ha, h1, h2⟩ := h
  exact ⟨a, c, bl, off, X, hv, hl, ha, fun i j u hi hu => hw _ _ _ (ha (by omega)).2 (h1 i j u hi hu), fun i hi => r.keep (h2 i hi) hw⟩
theorem IsSl.weaken {α : Type} {r : Rp α} {F F' : Nat → Prop} {w : World} {v : Value} {l : List α} (hn : 0 < r.n) (h : IsSl r F w v l) (hF : ∀ k, k < w.heap.size → F k → F' k) : IsSl r F' w v l := by
  obtain ⟨a, c, bl, off, X, hv, hl, ha, h1, h2⟩ := h
  refine ⟨a, c, bl, off, X, hv, hl, fun h0 => ⟨(ha h0).1, hF _ ?_ (ha h0).2⟩, h1, fun i hi => r.weaken (h2 i hi) hF⟩
  have hx := r.len (h2 0 h0)
  exact Keep.lt (h1 0 0 ((X 0)[0]'(by omega)) h0 (by simp))

def Acc {α : Type} (r : Rp α) (E : TypeId) (base : Nat) (F : Nat → Prop) (w : World) (v : Value) (l : List α) : Prop :=
  ∃ X : List (List Value), X.length = l.length ∧ w.ownsRow base E r.n v l.length X.flatten ∧ ∀ i (h : i < l.length), ∃ x, X[i]? = some x ∧ r.R (fun k => F k ∧ v.ownBlock ≠ some k) w x l[i]

theorem ownsRow_below {w w' : World} {base : Nat} {e : TypeId} {size : Nat} {v : Value} {n : Nat} {xs : List Value} (h : w.ownsRow base e size v n xs) (hb : Below w.heap.size w w') : w'.ownsRow base e size v n xs :=
  h.kept ⟨hb.os, hb.tape, hb.output, hb.size, fun k hk _ => hb.block k hk⟩ (row := none) (by cases h : v.ownBlock <;> simp)
namespace Acc
variable {α : Type} {r : Rp α} {E : TypeId} {base : Nat} {F : Nat → Prop} {w w' : World} {v : Value} {l : List α}
theorem nil (r : Rp α) (E : TypeId) (base : Nat) (F : Nat → Prop) (w : World) : Acc r E base F w (.slice none 0 0) [] :=
  ⟨[], rfl, World.ownsRow_nil _ _ _ _, fun i h => absurd h (by simp)⟩
theorem below (h : Acc r E base F w v l) (hb : Below w.heap.size w w') : Acc r E base F w' v l := by
  obtain ⟨X, h1, h2, h3⟩ := h
  refine ⟨X, h1, ownsRow_below h2 hb, fun i hi => ?_⟩
  obtain ⟨x, hx, hr⟩ := h3 i hi
  exact ⟨x, hx, r.keep hr ((Keep.refl _ _).below hb)⟩
theorem alloc (h : Acc r E base F w v l) (o : Obj) : Acc r E base F (w.alloc o) v l := h.below ((Below.refl _ _).alloc (Nat.le_refl _) _)
theorem drew (h : Acc r E base F w v l) : Acc r E base F w.drew v l := h.below (Below.refl _ _).drew
theorem setCell (h : Acc r E base F w v l) (p : Addr) (u : Value) (hp : ¬ F p.block) (hb : p.block < base) : Acc r E base F (w.setCell p u) v l := by
  obtain ⟨X, h1, h2, h3⟩ := h
  refine ⟨X, h1, ownsRow_setCell_below h2 hb u, fun i hi => ?_⟩
  obtain ⟨x, hx, hr⟩ := h3 i hi
  exact ⟨x, hx, r.keep hr ((Keep.refl _ _).setCell _ _ (fun hc => hp hc.1))⟩
theorem sl {F' : Nat → Prop} (h : Acc r E base F w v l) (hF : ∀ k, k < w.heap.size → F k → F' k) (hbase : ∀ k, base ≤ k → F' k) : IsSl r F' w v l := by
  obtain ⟨X, h1, h2, h3⟩ := h
  have hx : ∀ i (hi : i < l.length), r.R F' w (X.getD i []) l[i] := fun i hi => by
    obtain ⟨x, hx, hr⟩ := h3 i hi
    have : X.getD i [] = x := by simp [hx]
    rw [this]
    exact r.weaken hr fun k hk hc => hF k hk hc.1
  rcases h2.2 with ⟨rfl, h0⟩ | ⟨g, cap, cur, rfl, hg, hh, hn, hm, hs, ht⟩
  · exact ⟨none, 0, 0, 0, fun i => X.getD i [], by rw [h0], by omega, fun h => absurd h (by omega), fun i _ _ hi => absurd hi (by omega), hx⟩
  · refine ⟨some ⟨g, 0, none⟩, cap, g, 0, fun i => X.getD i [], rfl, by omega, fun _ => ⟨rfl, hbase g hg⟩, fun i j u hi hu => ?_, hx⟩
    have hl : ∀ i, i < X.length → (X.getD i []).length = r.n := fun i hi => r.len (hx i (by omega))
    have key : X.flatten[i * r.n + j]? = some u := by
      have hall : ∀ (Y : List (List Value)), (∀ i, i < Y.length → (Y.getD i []).length = r.n) → ∀ i j u, i < Y.length → (Y.getD i [])[j]? = some u → Y.flatten[i * r.n + j]? = some u := by
        intro Y
        induction Y with
        | nil => intro _ i j u hi; simp at hi
        | cons y Y ih =>
          intro hY i j u hi hu
          have hy : y.length = r.n := by have := hY 0 (by simp); simpa using this
          rw [List.flatten_cons]
          cases i with
          | zero =>
            simp at hu
            have : j < y.length := by
              rcases Nat.lt_or_ge j y.length with h | h
              · exact h
              · rw [List.getElem?_eq_none h] at hu; cases hu
            rw [List.getElem?_append_left (by omega)]; simpa using hu
          | succ i =>
            rw [List.getElem?_append_right (by rw [hy, Nat.succ_mul]; omega)]
            have := ih (fun i hi => by have := hY (i + 1) (by simpa using hi); simpa using this) i j u (by simpa using hi) (by simpa using hu)
            rw [← this]; congr 1; rw [hy, Nat.succ_mul]; omega
      exact hall X hl i j u (by omega) hu
    rw [← ht] at key
    simp only [World.cell?, hh]
    rw [List.getElem?_take] at key
    split at key
    · simpa using key
    · cases key
end Acc

def IsSl2 {α : Type} (r : Rp α) (G F : Nat → Prop) (w : World) (v : Value) (l : List α) : Prop :=
  ∃ (a : Option Addr) (c bl off : Nat) (X : Nat → List Value), v = .slice a l.length c ∧ (l.length ≤ maxLen ∧ l.length ≤ c) ∧ (0 < l.length → a = some ⟨bl, off, none⟩ ∧ G bl) ∧
    (∀ i j u, i < l.length → (X i)[j]? = some u → w.cell? ⟨bl, off + i * r.n + j, none⟩ = some u) ∧ ∀ i (h : i < l.length), r.R F w (X i) l[i]
namespace IsSl2
variable {α : Type} {r : Rp α} {G F : Nat → Prop} {w w' : World} {v : Value} {l : List α}
theorem of (h : IsSl r F w v l) : IsSl2 r F F w v l := h
theorem keep (h : IsSl2 r G F w v l) (hG : Keep G w w') (hF : Keep F w w') : IsSl2 r G F w' v l := by
  obtain ⟨a, c, bl, off, X, hv, hl, ha, h1, h2⟩ := h
  exact ⟨a, c, bl, off, X, hv, hl, ha, fun i j u hi hu => hG _ _ _ (ha (by omega)).2 (h1 i j u hi hu), fun i hi => r.keep (h2 i hi) hF⟩
theorem bel (h : IsSl2 r G F w v l) (hb : Below w.heap.size w w') : IsSl2 r G F w' v l := h.keep ((Keep.refl _ _).below hb) ((Keep.refl _ _).below hb)
theorem weaken {G' F' : Nat → Prop} (hn : 0 < r.n) (h : IsSl2 r G F w v l) (hG : ∀ k, k < w.heap.size → G k → G' k) (hF : ∀ k, k < w.heap.size → F k → F' k) : IsSl2 r G' F' w v l := by
  obtain ⟨a, c, bl, off, X, hv, hl, ha, h1, h2⟩ := h
  refine ⟨a, c, bl, off, X, hv, hl, fun h0 => ⟨(ha h0).1, hG _ ?_ (ha h0).2⟩, h1, fun i hi => r.weaken (h2 i hi) hF⟩
  have hx := r.len (h2 0 h0)
  exact Keep.lt (h1 0 0 ((X 0)[0]'(by omega)) h0 (by simp))
theorem sl (hn : 0 < r.n) (h : IsSl2 r G F w v l) {F' : Nat → Prop} (hG : ∀ k, k < w.heap.size → G k → F' k) (hF : ∀ k, k < w.heap.size → F k → F' k) : IsSl r F' w v l := h.weaken hn hG hF
theorem shape (h : IsSl2 r G F w v l) : ∃ a c, v = .slice a l.length c := by
  obtain ⟨a, c, _, _, _, hv, _⟩ := h
  exact ⟨a, c, hv⟩
end IsSl2
theorem wpList_append_eq {P : Program} {w w' : World} {ops : Array Oper} {rest : List Oper} {o : Oper} {a : Act} {Q : Exit → Act → World → Prop} (hgd : o.guard = none) (s x : Operand) (ta tb : TypeId) (v' : Value)
    (ho : o.op = .call { callee := .builtin .append, args := #[s, x], argTypes := #[ta, tb] }) (hr : (Builtin.append_ #[ta, tb] o.type #[a.eval s, a.eval x]).run P w = .ok v' w')
    (h : wpList P ops Q rest (a.put o.dst v') w') : wpList P ops Q (o :: rest) a w := by
  refine wpList_plain hgd fun _ hK => ?_
  unfold Oper.wp execOp
  simp only [ho, resolve, invoke, builtin, Sem.run_bind, Sem.run_pure, Result.andThen_ok, List.map_toArray, List.map_cons, List.map_nil, hr]
  exact hK _ _ h
end Go.Proofs.Ytcblpjheoclkeaa

namespace Go.Proofs.Ytcblpjheoclkeaa
open Go.RowKit

inductive Ty where
  | mk (args : List Ty) (base : Int)
namespace Ty
def args : Ty → List Ty | .mk a _ => a
def base : Ty → Int | .mk _ b => b
theorem ind {p : Ty → Prop} (h : ∀ args base, (∀ t ∈ args, p t) → p (.mk args base)) (t : Ty) : p t :=
  Ty.rec (motive_1 := p) (motive_2 := fun l => ∀ t ∈ l, p t) (fun a b ih => h a b ih) (by simp)
    (fun a l ha hl t ht => by
      rcases List.mem_cons.1 ht with rfl | h
      · exact ha
      · exact hl t h) t

mutual
def size : Ty → Nat
  | .mk a _ => sizes a + 1
def sizes : List Ty → Nat
  | [] => 0
  | t :: l => size t + sizes l
end
mutual
def depth : Ty → Nat
  | .mk a _ => depths a + 1
def depths : List Ty → Nat
  | [] => 0
  | t :: l => max (depth t) (depths l)
end
theorem sizes_append (l r : List Ty) : sizes (l ++ r) = sizes l + sizes r := by
  induction l with
  | nil => simp [sizes]
  | cons t l ih => simp [sizes, ih]; omega
theorem sizes_take (l : List Ty) (i : Nat) (h : i < l.length) : sizes (l.take (i + 1)) = sizes (l.take i) + size l[i] := by
  rw [List.take_succ_eq_append_getElem h, sizes_append]; simp [sizes]
theorem size_pos (t : Ty) : 1 ≤ t.size := by cases t; simp [size]
theorem sizes_take_le (l : List Ty) (i : Nat) : sizes (l.take i) ≤ sizes l := by
  conv => rhs; rw [← List.take_append_drop i l]
  rw [sizes_append]; omega
theorem le_sizes (l : List Ty) : l.length ≤ sizes l := by
  induction l with
  | nil => simp [sizes]
  | cons t l ih => have := size_pos t; simp [sizes]; omega
theorem size_mem {l : List Ty} {t : Ty} (h : t ∈ l) : t.size ≤ sizes l := by
  induction l with
  | nil => cases h
  | cons u l ih =>
    simp only [sizes]
    rcases List.mem_cons.1 h with rfl | h
    · omega
    · have := ih h; omega
theorem depth_mem {l : List Ty} {t : Ty} (h : t ∈ l) : t.depth ≤ depths l := by
  induction l with
  | nil => cases h
  | cons u l ih =>
    simp only [depths]
    rcases List.mem_cons.1 h with rfl | h
    · omega
    · have := ih h; omega
theorem size_get {l : List Ty} {b : Int} (i : Nat) (h : i < l.length) : l[i].size < (mk l b).size := by
  have := size_mem (List.getElem_mem h); simp [size]; omega
theorem length_lt {l : List Ty} {b : Int} : l.length < (mk l b).size := by
  have := le_sizes l; simp [size]; omega
end Ty

inductive IsTy (F : Nat → Prop) (w : World) : Value → Value → Ty → Prop where
  | mk (a : Option Addr) (n c : Nat) (b : Int) (args : List Ty) (bl off : Nat) (A : Nat → Option Addr) (N C : Nat → Nat) (B : Nat → Int)
      (hn : args.length = n) (hm : n ≤ maxLen ∧ n ≤ c) (ha : 0 < n → a = some ⟨bl, off, none⟩ ∧ F bl)
      (h1 : ∀ i, i < n → w.cell? ⟨bl, off + i * 2, none⟩ = some (.slice (A i) (N i) (C i)))
      (h2 : ∀ i, i < n → w.cell? ⟨bl, off + i * 2 + 1, none⟩ = some (.int .i64 (B i)))
      (h3 : ∀ i (h : i < args.length), IsTy F w (.slice (A i) (N i) (C i)) (.int .i64 (B i)) args[i]) :
      IsTy F w (.slice a n c) (.int .i64 b) (.mk args b)

theorem IsTy.keep {F : Nat → Prop} {w w' : World} {s b : Value} {t : Ty} (h : IsTy F w s b t) (hw : Keep F w w') : IsTy F w' s b t := by
  induction h with
  | mk a n c b args bl off A N C B hn hm ha h1 h2 h3 ih =>
    exact IsTy.mk a n c b args bl off A N C B hn hm ha (fun i hi => hw _ _ _ (ha (by omega)).2 (h1 i hi)) (fun i hi => hw _ _ _ (ha (by omega)).2 (h2 i hi)) ih
theorem IsTy.weaken {F F' : Nat → Prop} {w : World} {s b : Value} {t : Ty} (h : IsTy F w s b t) (hF : ∀ k, k < w.heap.size → F k → F' k) : IsTy F' w s b t := by
  induction h with
  | mk a n c b args bl off A N C B hn hm ha h1 h2 h3 ih =>
    exact IsTy.mk a n c b args bl off A N C B hn hm (fun h => ⟨(ha h).1, hF _ (Keep.lt (h1 0 h)) (ha h).2⟩) h1 h2 ih
theorem IsTy.one {F : Nat → Prop} {w : World} {s b : Value} {t : Ty} (h : IsTy F w s b t) : s.oneCell' = true ∧ b.oneCell' = true := by
  cases h; exact ⟨rfl, rfl⟩
theorem IsTy.shape {F : Nat → Prop} {w : World} {s b : Value} {t : Ty} (h : IsTy F w s b t) : ∃ a c, s = .slice a t.args.length c ∧ b = .int .i64 t.base := by
  cases h with
  | mk a n c b args bl off A N C B hn => subst hn; exact ⟨a, c, rfl, rfl⟩

def rpTy : Rp Ty where
  n := 2
  R F w x t := ∃ s b, x = [s, b] ∧ IsTy F w s b t
  len := by rintro F w x a ⟨s, b, rfl, _⟩; rfl
  one := by
    rintro F w x a ⟨s, b, rfl, h⟩ u hu
    have := h.one
    simp at hu
    rcases hu with rfl | rfl
    · exact this.1
    · exact this.2
  keep := by rintro F w w' x a ⟨s, b, rfl, h⟩ hk; exact ⟨s, b, rfl, h.keep hk⟩
  weaken := by rintro F F' w x a ⟨s, b, rfl, h⟩ hk; exact ⟨s, b, rfl, h.weaken hk⟩

theorem isTy_mk {F : Nat → Prop} {w : World} {v : Value} {l : List Ty} (h : IsSl rpTy F w v l) (b : Int) : IsTy F w v (.int .i64 b) (.mk l b) := by
  obtain ⟨a, c, bl, off, X, rfl, hl, ha, h1, h2⟩ := h
  let A : Nat → Option Addr := fun i => match (X i).getD 0 default with | .slice a _ _ => a | _ => none
  let N : Nat → Nat := fun i => match (X i).getD 0 default with | .slice _ n _ => n | _ => 0
  let C : Nat → Nat := fun i => match (X i).getD 0 default with | .slice _ _ c => c | _ => 0
  let B : Nat → Int := fun i => match (X i).getD 1 default with | .int _ b => b | _ => 0
  have hx : ∀ i (h : i < l.length), X i = [.slice (A i) (N i) (C i), .int .i64 (B i)] ∧ IsTy F w (.slice (A i) (N i) (C i)) (.int .i64 (B i)) l[i] := fun i hi => by
    obtain ⟨s, b, hx, ht⟩ := h2 i hi
    obtain ⟨a', c', rfl, rfl⟩ := ht.shape
    have e1 : A i = a' := by simp [A, hx]
    have e2 : N i = l[i].args.length := by simp [N, hx]
    have e3 : C i = c' := by simp [C, hx]
    have e4 : B i = l[i].base := by simp [B, hx]
    rw [e1, e2, e3, e4]; exact ⟨hx, ht⟩
  refine IsTy.mk a l.length c b l bl off A N C B rfl hl ha (fun i hi => ?_) (fun i hi => ?_) (fun i hi => (hx i hi).2)
  · exact h1 i 0 _ hi (by rw [(hx i hi).1]; rfl)
  · exact h1 i 1 _ hi (by rw [(hx i hi).1]; rfl)
theorem IsTy.inv {F : Nat → Prop} {w : World} {s b : Value} {t : Ty} (h : IsTy F w s b t) : b = .int .i64 t.base ∧ IsSl rpTy F w s t.args := by
  cases h with
  | mk a n c b args bl off A N C B hn hm ha h1 h2 h3 =>
    subst hn
    refine ⟨rfl, a, c, bl, off, fun i => [.slice (A i) (N i) (C i), .int .i64 (B i)], rfl, hm, ha, fun i j u hi hu => ?_, fun i hi => ⟨_, _, rfl, h3 i hi⟩⟩
    match j with
    | 0 => simp at hu; subst hu; exact h1 i hi
    | 1 => simp at hu; subst hu; exact h2 i hi
    | j + 2 => simp at hu

end Go.Proofs.Ytcblpjheoclkeaa

namespace Go.Proofs.Ytcblpjheoclkeaa
open Go.RowKit Go.ChangeShapes Go.WideShapes Go.ChangeAt

theorem own : ownKnob Try.prog.godebug = none := by kernel_rfl
theorem laidOut : laidOutB Try.prog = true := by kernel_rfl

def Rd {α H : Type} (enc : TypeId × Value → H) (W : World) (base : Nat) (sp : Nat → Bool) (hd : Bool) (t : TypeId) (r : Rp α) (D : DataW H → α → Prop) (n : Nat) : Prop :=
  ∀ cs x, DataW.trod enc Try.prog W base sp hd n t cs = some x → ∃ v, r.R (fun _ => True) W cs v ∧ D x.1 v

theorem addr_add (bl off n : Nat) : (⟨bl, off, none⟩ : Addr).add n = ⟨bl, off + n, none⟩ := by
  unfold Addr.add; split
  · subst_vars; rfl
  · rfl

theorem sl_of_trod {α H : Type} {enc : TypeId × Value → H} {W : World} {base : Nat} {sp : Nat → Bool} {hd : Bool} {t e : TypeId} {r : Rp α} {D : DataW H → α → Prop} {fuel : Nat} {cs : List Value} {x : DataW H × List MemPlace}
    (ht : Try.prog.underlying t = some (.slice e)) (hn : Try.prog.cellsOf e = r.n) (hpos : 0 < r.n) (hr : ∀ m, m < fuel → Rd enc W base sp hd e r D m) (h : DataW.trod enc Try.prog W base sp hd fuel t cs = some x) :
    ∃ a n c l, cs = [.slice a n c] ∧ n ≤ c ∧ IsSl r (fun _ => True) W (.slice a n c) l ∧ ∀ i (h : i < l.length), ∃ d es spare, x.1 = .slice es spare ∧ d ∈ es ∧ D d l[i] := by
  rcases DataW.trod_slice ht h with ⟨rfl, _⟩ | ⟨a, len, cap, elems, rest, n, rfl, rfl, rfl, hb, hl, hm, hlen, hel, _, _⟩
  · exact ⟨_, _, _, [], rfl, Nat.le_refl _, ⟨none, 0, 0, 0, fun _ => [], rfl, ⟨Nat.zero_le _, Nat.le_refl _⟩, fun h => absurd h (by simp), fun _ _ _ h => absurd h (by simp), fun _ h => absurd h (by simp)⟩, fun _ h => absurd h (by simp)⟩
  · have H : ∀ i : Fin len, ∃ y : List Value × α, W.cells? base (a.add (i * r.n)) r.n = some y.1 ∧ r.R (fun _ => True) W y.1 y.2 ∧ ∃ d ∈ elems.map (·.1), D d y.2 := fun i => by
      have h1 := hel i i.2
      rw [List.getElem?_eq_getElem (by omega), hn] at h1
      obtain ⟨cs', h2, h3⟩ := Option.bind_eq_some_iff.1 h1
      obtain ⟨v, hv, hd⟩ := hr n (by omega) _ _ h3
      exact ⟨⟨cs', v⟩, h2, hv, _, List.mem_map_of_mem (List.getElem_mem _), hd⟩
    obtain ⟨f, hf⟩ := Classical.axiomOfChoice H
    refine ⟨_, _, _, List.ofFn fun i => (f i).2, rfl, hl, ⟨some a, cap, a.block, a.off, fun i => if h : i < len then (f ⟨i, h⟩).1 else [], by simp, by simp; omega, fun h0 => ?_, fun i j u hi hu => ?_, fun i hi => ?_⟩, fun i hi => ?_⟩
    · have h0 : 0 < len := by simpa using h0
      have h1 := (World.cells?_some (hf ⟨0, h0⟩).1)
      have h2 := h1.2.2 0 hpos
      rw [List.getElem?_eq_getElem (by rw [h1.2.1]; exact hpos)] at h2
      have h3 := World.cell?_spot h2
      obtain ⟨bl, off, spot⟩ := a
      have : spot = none := by simpa [Addr.add] using h3
      subst this
      exact ⟨rfl, trivial⟩
    · have hi : i < len := by simpa using hi
      simp only [dif_pos hi] at hu
      have h1 := (World.cells?_some (hf ⟨i, hi⟩).1)
      have hj : j < r.n := by
        rcases Nat.lt_or_ge j r.n with h | h
        · exact h
        · rw [List.getElem?_eq_none (by rw [h1.2.1]; exact h)] at hu; cases hu
      have h2 := h1.2.2 j hj
      rw [hu] at h2
      have h0 := (World.cells?_some (hf ⟨0, by omega⟩).1)
      have h0' := h0.2.2 0 hpos
      rw [List.getElem?_eq_getElem (by rw [h0.2.1]; exact hpos)] at h0'
      have h3 := World.cell?_spot h0'
      obtain ⟨bl, off, spot⟩ := a
      have : spot = none := by simpa [Addr.add] using h3
      subst this
      rw [addr_add, addr_add] at h2
      exact h2
    · have hi : i < len := by simpa using hi
      simp only [dif_pos hi, List.getElem_ofFn]
      exact (hf ⟨i, hi⟩).2.1
    · have hi : i < len := by simpa using hi
      obtain ⟨d, h1, h2⟩ := (hf ⟨i, hi⟩).2.2
      exact ⟨d, _, _, rfl, h1, by simpa using h2⟩

theorem two_of {α : Type} {cs : List α} (h : cs.length = 2) : ∃ a b, cs = [a, b] := by
  match cs, h with
  | [a, b], _ => exact ⟨a, b, rfl⟩
theorem cellsInt : Try.prog.cellsOf 3 = 1 := by kernel_rfl

theorem cellsR : Try.prog.cellsOf 123 = 2 := by kernel_rfl
theorem cellsSR : Try.prog.cellsOf 22 = 1 := by kernel_rfl
theorem rdR {H : Type} (enc : TypeId × Value → H) (W : World) (base : Nat) (sp : Nat → Bool) (hd : Bool) : ∀ n, Rd enc W base sp hd 123 rpTy (fun _ _ => True) n := by
  intro n
  induction n using Nat.strongRecOn with
  | ind n ih =>
    intro cs x h
    obtain ⟨xs, m, rfl, rfl, hl, hlen, hf⟩ := DataW.trod_struct Try.underlying123 h
    rw [cellsR] at hl
    obtain ⟨v0, v1, rfl⟩ := two_of hl
    have h0 : DataW.trod enc Try.prog W base sp hd m 22 ([v0, v1].take (Try.prog.cellsOf 22)) = xs[0]? := hf 0 _ rfl
    have h1 : DataW.trod enc Try.prog W base sp hd m 3 ([v1].take (Try.prog.cellsOf 3)) = xs[1]? := hf 1 _ rfl
    rw [cellsSR] at h0
    rw [cellsInt] at h1
    have hlen : xs.length = 2 := hlen
    rw [List.getElem?_eq_getElem (by omega)] at h0 h1
    obtain ⟨va, vn, vc, l, hv, _, hs, _⟩ := sl_of_trod Try.underlying22 cellsR (by decide) (fun k hk => ih k (by omega)) h0
    obtain ⟨b, hb, _, _⟩ := DataW.trod_int Try.underlying3 h1
    have e0 : [v0] = [.slice va vn vc] := hv
    have e1 : [v1] = [.int .i64 b] := hb
    simp only [List.cons.injEq, and_true] at e0 e1
    subst e0 e1
    exact ⟨.mk l b, ⟨_, _, rfl, isTy_mk hs b⟩, trivial⟩
theorem trodAll_stays {H : Type} {enc : TypeId × Value → H} {W W' : World} {sp : Nat → Bool} : ∀ {ts : List TypeId} {vs : List Value} {ds : List (DataW H)} {p : List MemPlace},
    DataW.TrodAll enc Try.prog W 0 (fun _ => true) true ts vs ds p → (∀ t ∈ ts, Try.prog.readableRec t = true ∧ t < Try.prog.types.size) → (∀ x ∈ p, W.sameAt W' x) → (∀ x ∈ p, sp x.block = true) →
    DataW.TrodAll enc Try.prog W' 0 sp true ts vs ds p := by
  intro ts
  induction ts with
  | nil => intro vs ds p h; cases vs <;> cases ds <;> first | exact fun _ _ _ => h | exact h.elim
  | cons t ts ih =>
    intro vs ds p h hts hs hsp
    cases vs with
    | nil => exact h.elim
    | cons v vs =>
      cases ds with
      | nil => exact h.elim
      | cons d ds =>
        obtain ⟨p, q, h0, h1, rfl⟩ := h
        exact ⟨p, q, WideElems.Trod_stays laidOut (hts t (by simp)).1 (hts t (by simp)).2 h0 (fun x hx => hs x (by simp [hx])) (fun x hx => hsp x (by simp [hx])), ih h1 (fun t ht => hts t (by simp [ht])) (fun x hx => hs x (by simp [hx])) (fun x hx => hsp x (by simp [hx])), rfl⟩

set_option maxRecDepth 100000 in
theorem post_true {H : Type} {enc : TypeId × Value → H} {f : Func} {s : ChangeSpec} {fresh handsOn again apart : Bool} {W W' : World} {args : Array Value} {ds gs : List (DataW H)} {before : List MemPlace}
    (hW : DataW.Whole enc Try.prog f.params.toList s.vars apart W args.toList ds gs before) (hv : s.vars = []) (hts : ∀ t ∈ f.params.toList, Try.prog.readableRec t = true ∧ t < Try.prog.types.size)
    (hr : f.resultTypes = #[4]) (hfn : s.fn H (ds ++ gs) = { results := [.lit (.bool true)], args := ds }) (hb : Below W.heap.size W W') :
    s.post enc Try.prog f apart fresh handsOn again W args (.bool true) W' := by
  have hlt := hW.lt
  have hW' := hW
  obtain ⟨p, q, hA, hV, rfl, hz, hn⟩ := hW
  rw [hv] at hV
  obtain ⟨rfl, rfl⟩ := trodVars_none hV
  have hres : ∀ (b : Nat) (sp : Nat → Bool) (hd : Bool), DataW.TrodAll enc Try.prog W' b sp hd f.resultTypes.toList ((Value.bool true).resultList f.resultTypes.size) (s.fn H (ds ++ [])).results [] := fun _ _ _ => by
    rw [hr, hfn]; exact trodAll_cons_mk (shut_bool Try.underlying4 _) trodAll_mk0
  have hargs : ∀ sp : Nat → Bool, (∀ x ∈ p ++ [], sp x.block = true) → DataW.TrodAll enc Try.prog W' 0 sp true f.params.toList args.toList (s.fn H (ds ++ [])).args p := fun sp hs => by
    rw [hfn]; exact trodAll_stays hA hts (fun x hx => hb.same (hlt x (by simp [hx]))) (fun x hx => hs x (by simp [hx]))
  have hvars : ∀ sp : Nat → Bool, DataW.TrodVars enc Try.prog W' sp s.vars (s.fn H (ds ++ [])).vars [] := fun sp => by rw [hv, hfn]; rfl
  have hok := ok_one (P := Try.prog) (W' := W') (f := f) (v := .bool true) hr rfl (okWide_bool_mk Try.underlying4 _)
  refine ⟨ds, [], p ++ [], [], p, [], hW', hres _ _ _, hargs _ (fun x hx => by simpa using hlt x hx), hvars _, World.keptBut_mono (fun p hp => ⟨hp, .inr (by simpa using hp)⟩) (hb.frame _), fun _ => ?_⟩
  refine ⟨hok, _, _, ([] ++ p) ++ [], ⟨[] ++ p, [], trodAll_append (hargs _ (fun _ _ => rfl)) (hres _ _ _), hvars _, rfl, ?_, ?_⟩, ?_⟩
  · intro b off hp
    rw [hb.frozen (hlt (.cell b off) (by simpa using hp))]
    exact hz b off (by simpa using hp)
  · intro ha
    simpa using hn ha
  · intro x hx _
    simpa using hx
end Go.Proofs.Ytcblpjheoclkeaa

namespace Go.Proofs.Ytcblpjheoclkeaa
open Go.RowKit

inductive Tm where
  | mk (binds : List Ty) (kind index : Int) (args : List Tm)
namespace Tm
def binds : Tm → List Ty | .mk b _ _ _ => b
def kind : Tm → Int | .mk _ k _ _ => k
def index : Tm → Int | .mk _ _ i _ => i
def args : Tm → List Tm | .mk _ _ _ a => a
theorem ind {p : Tm → Prop} (h : ∀ binds kind index args, (∀ t ∈ args, p t) → p (.mk binds kind index args)) (t : Tm) : p t :=
  Tm.rec (motive_1 := p) (motive_2 := fun l => ∀ t ∈ l, p t) (fun b k i a ih => h b k i a ih) (by simp)
    (fun a l ha hl t ht => by
      rcases List.mem_cons.1 ht with rfl | h
      · exact ha
      · exact hl t h) t

mutual
def size : Tm → Nat
  | .mk _ _ _ a => sizes a + 1
def sizes : List Tm → Nat
  | [] => 0
  | t :: l => size t + sizes l
end
mutual
def depth : Tm → Nat
  | .mk _ _ _ a => depths a + 1
def depths : List Tm → Nat
  | [] => 0
  | t :: l => max (depth t) (depths l)
end
mutual
def full : Tm → Nat
  | .mk b _ _ a => Ty.sizes b + fulls a + 1
def fulls : List Tm → Nat
  | [] => 0
  | t :: l => full t + fulls l
end
theorem size_eq (b : List Ty) (k i : Int) (a : List Tm) : (mk b k i a).size = sizes a + 1 := by simp [size]
theorem depth_eq (b : List Ty) (k i : Int) (a : List Tm) : (mk b k i a).depth = depths a + 1 := by simp [depth]
theorem full_eq (b : List Ty) (k i : Int) (a : List Tm) : (mk b k i a).full = Ty.sizes b + fulls a + 1 := by simp [full]
theorem sizes_append (l r : List Tm) : sizes (l ++ r) = sizes l + sizes r := by
  induction l with
  | nil => simp [sizes]
  | cons t l ih => simp [sizes, ih]; omega
theorem fulls_append (l r : List Tm) : fulls (l ++ r) = fulls l + fulls r := by
  induction l with
  | nil => simp [fulls]
  | cons t l ih => simp [fulls, ih]; omega
theorem sizes_take (l : List Tm) (i : Nat) (h : i < l.length) : sizes (l.take (i + 1)) = sizes (l.take i) + size l[i] := by
  rw [List.take_succ_eq_append_getElem h, sizes_append]; simp [sizes]
theorem fulls_take (l : List Tm) (i : Nat) (h : i < l.length) : fulls (l.take (i + 1)) = fulls (l.take i) + full l[i] := by
  rw [List.take_succ_eq_append_getElem h, fulls_append]; simp [fulls]
theorem size_pos (t : Tm) : 1 ≤ t.size := by cases t; simp [size]
theorem full_pos (t : Tm) : 1 ≤ t.full := by cases t; simp [full]
theorem sizes_take_le (l : List Tm) (i : Nat) : sizes (l.take i) ≤ sizes l := by
  conv => rhs; rw [← List.take_append_drop i l]
  rw [sizes_append]; omega
theorem fulls_take_le (l : List Tm) (i : Nat) : fulls (l.take i) ≤ fulls l := by
  conv => rhs; rw [← List.take_append_drop i l]
  rw [fulls_append]; omega
theorem len_sizes (l : List Tm) : l.length ≤ sizes l := by
  induction l with
  | nil => simp [sizes]
  | cons t l ih => have := size_pos t; simp [sizes]; omega
theorem size_mem {l : List Tm} {t : Tm} (h : t ∈ l) : t.size ≤ sizes l := by
  induction l with
  | nil => cases h
  | cons u l ih =>
    simp only [sizes]
    rcases List.mem_cons.1 h with rfl | h
    · omega
    · have := ih h; omega
theorem full_mem {l : List Tm} {t : Tm} (h : t ∈ l) : t.full ≤ fulls l := by
  induction l with
  | nil => cases h
  | cons u l ih =>
    simp only [fulls]
    rcases List.mem_cons.1 h with rfl | h
    · omega
    · have := ih h; omega
theorem depth_mem {l : List Tm} {t : Tm} (h : t ∈ l) : t.depth ≤ depths l := by
  induction l with
  | nil => cases h
  | cons u l ih =>
    simp only [depths]
    rcases List.mem_cons.1 h with rfl | h
    · omega
    · have := ih h; omega
theorem size_le_full (t : Tm) : t.size ≤ t.full := by
  induction t using Tm.ind with
  | h b k i a ih =>
    have : ∀ l : List Tm, (∀ t ∈ l, t.size ≤ t.full) → sizes l ≤ fulls l := by
      intro l
      induction l with
      | nil => intro _; simp [sizes]
      | cons t l ih2 => intro h; have := ih2 (fun t ht => h t (by simp [ht])); have := h t (by simp); simp [sizes, fulls]; omega
    have := this a ih
    rw [size_eq, full_eq]; omega
theorem depth_le_size (t : Tm) : t.depth ≤ t.size := by
  induction t using Tm.ind with
  | h b k i a ih =>
    have : ∀ l : List Tm, (∀ t ∈ l, t.depth ≤ t.size) → depths l ≤ sizes l := by
      intro l
      induction l with
      | nil => intro _; simp [depths]
      | cons t l ih2 => intro h; have := ih2 (fun t ht => h t (by simp [ht])); have := h t (by simp); simp [sizes, depths]; omega
    have := this a ih
    rw [size_eq, depth_eq]; omega
end Tm

inductive IsTm (F : Nat → Prop) (w : World) : Value → Value → Value → Value → Tm → Prop where
  | mk (bv : Value) (k i : Int) (a : Option Addr) (n c : Nat) (binds : List Ty) (args : List Tm) (bl off : Nat) (PA A : Nat → Option Addr) (PN PC N C : Nat → Nat) (K I : Nat → Int)
      (hb : IsSl rpTy F w bv binds) (hn : args.length = n) (hm : n ≤ maxLen ∧ n ≤ c) (ha : 0 < n → a = some ⟨bl, off, none⟩ ∧ F bl)
      (h1 : ∀ i, i < n → w.cell? ⟨bl, off + i * 4, none⟩ = some (.slice (PA i) (PN i) (PC i)))
      (h2 : ∀ i, i < n → w.cell? ⟨bl, off + i * 4 + 1, none⟩ = some (.int .i64 (K i)))
      (h3 : ∀ i, i < n → w.cell? ⟨bl, off + i * 4 + 2, none⟩ = some (.int .i64 (I i)))
      (h4 : ∀ i, i < n → w.cell? ⟨bl, off + i * 4 + 3, none⟩ = some (.slice (A i) (N i) (C i)))
      (h5 : ∀ i (h : i < args.length), IsTm F w (.slice (PA i) (PN i) (PC i)) (.int .i64 (K i)) (.int .i64 (I i)) (.slice (A i) (N i) (C i)) args[i]) :
      IsTm F w bv (.int .i64 k) (.int .i64 i) (.slice a n c) (.mk binds k i args)

theorem IsTm.keep {F : Nat → Prop} {w w' : World} {b k i a : Value} {t : Tm} (h : IsTm F w b k i a t) (hw : Keep F w w') : IsTm F w' b k i a t := by
  induction h with
  | mk bv k i a n c binds args bl off PA A PN PC N C K I hb hn hm ha h1 h2 h3 h4 h5 ih =>
    exact IsTm.mk bv k i a n c binds args bl off PA A PN PC N C K I (hb.keep hw) hn hm ha (fun i hi => hw _ _ _ (ha (by omega)).2 (h1 i hi)) (fun i hi => hw _ _ _ (ha (by omega)).2 (h2 i hi)) (fun i hi => hw _ _ _ (ha (by omega)).2 (h3 i hi)) (fun i hi => hw _ _ _ (ha (by omega)).2 (h4 i hi)) ih
theorem IsTm.weaken {F F' : Nat → Prop} {w : World} {b k i a : Value} {t : Tm} (h : IsTm F w b k i a t) (hF : ∀ k, k < w.heap.size → F k → F' k) : IsTm F' w b k i a t := by
  induction h with
  | mk bv k i a n c binds args bl off PA A PN PC N C K I hb hn hm ha h1 h2 h3 h4 h5 ih =>
    exact IsTm.mk bv k i a n c binds args bl off PA A PN PC N C K I (hb.weaken (by decide) hF) hn hm (fun h => ⟨(ha h).1, hF _ (Keep.lt (h1 0 h)) (ha h).2⟩) h1 h2 h3 h4 ih
theorem IsSl.shape {α : Type} {r : Rp α} {F : Nat → Prop} {w : World} {v : Value} {l : List α} (h : IsSl r F w v l) : ∃ a c, v = .slice a l.length c := by
  obtain ⟨a, c, _, _, _, hv, _⟩ := h
  exact ⟨a, c, hv⟩
theorem IsTm.shape {F : Nat → Prop} {w : World} {b k i a : Value} {t : Tm} (h : IsTm F w b k i a t) : ∃ pa pc qa qc, b = .slice pa t.binds.length pc ∧ k = .int .i64 t.kind ∧ i = .int .i64 t.index ∧ a = .slice qa t.args.length qc := by
  cases h with
  | mk bv k i a n c binds args bl off PA A PN PC N C K I hb hn =>
    obtain ⟨pa, pc, rfl⟩ := hb.shape
    subst hn
    exact ⟨pa, pc, a, c, rfl, rfl, rfl, rfl⟩
theorem IsTm.one {F : Nat → Prop} {w : World} {b k i a : Value} {t : Tm} (h : IsTm F w b k i a t) : b.oneCell' = true ∧ k.oneCell' = true ∧ i.oneCell' = true ∧ a.oneCell' = true := by
  obtain ⟨pa, pc, qa, qc, rfl, rfl, rfl, rfl⟩ := h.shape
  exact ⟨rfl, rfl, rfl, rfl⟩

def rpTm : Rp Tm where
  n := 4
  R F w x t := ∃ b k i a, x = [b, k, i, a] ∧ IsTm F w b k i a t
  len := by rintro F w x a ⟨b, k, i, a, rfl, _⟩; rfl
  one := by
    rintro F w x a ⟨b, k, i, a, rfl, h⟩ u hu
    have := h.one
    simp at hu
    rcases hu with rfl | rfl | rfl | rfl
    · exact this.1
    · exact this.2.1
    · exact this.2.2.1
    · exact this.2.2.2
  keep := by rintro F w w' x a ⟨b, k, i, a, rfl, h⟩ hk; exact ⟨b, k, i, a, rfl, h.keep hk⟩
  weaken := by rintro F F' w x a ⟨b, k, i, a, rfl, h⟩ hk; exact ⟨b, k, i, a, rfl, h.weaken hk⟩

theorem isTm_mk {F : Nat → Prop} {w : World} {bv v : Value} {binds : List Ty} {l : List Tm} (hb : IsSl rpTy F w bv binds) (h : IsSl rpTm F w v l) (k i : Int) : IsTm F w bv (.int .i64 k) (.int .i64 i) v (.mk binds k i l) := by
  obtain ⟨a, c, bl, off, X, rfl, hl, ha, h1, h2⟩ := h
  let PA : Nat → Option Addr := fun i => match (X i).getD 0 default with | .slice a _ _ => a | _ => none
  let PN : Nat → Nat := fun i => match (X i).getD 0 default with | .slice _ n _ => n | _ => 0
  let PC : Nat → Nat := fun i => match (X i).getD 0 default with | .slice _ _ c => c | _ => 0
  let K : Nat → Int := fun i => match (X i).getD 1 default with | .int _ b => b | _ => 0
  let I : Nat → Int := fun i => match (X i).getD 2 default with | .int _ b => b | _ => 0
  let A : Nat → Option Addr := fun i => match (X i).getD 3 default with | .slice a _ _ => a | _ => none
  let N : Nat → Nat := fun i => match (X i).getD 3 default with | .slice _ n _ => n | _ => 0
  let C : Nat → Nat := fun i => match (X i).getD 3 default with | .slice _ _ c => c | _ => 0
  have hx : ∀ i (h : i < l.length), X i = [.slice (PA i) (PN i) (PC i), .int .i64 (K i), .int .i64 (I i), .slice (A i) (N i) (C i)] ∧ IsTm F w (.slice (PA i) (PN i) (PC i)) (.int .i64 (K i)) (.int .i64 (I i)) (.slice (A i) (N i) (C i)) l[i] := fun i hi => by
    obtain ⟨b', k', i', a', hx, ht⟩ := h2 i hi
    obtain ⟨pa, pc, qa, qc, rfl, rfl, rfl, rfl⟩ := ht.shape
    have e1 : PA i = pa := by simp [PA, hx]
    have e2 : PN i = l[i].binds.length := by simp [PN, hx]
    have e3 : PC i = pc := by simp [PC, hx]
    have e4 : K i = l[i].kind := by simp [K, hx]
    have e5 : I i = l[i].index := by simp [I, hx]
    have e6 : A i = qa := by simp [A, hx]
    have e7 : N i = l[i].args.length := by simp [N, hx]
    have e8 : C i = qc := by simp [C, hx]
    rw [e1, e2, e3, e4, e5, e6, e7, e8]; exact ⟨hx, ht⟩
  refine IsTm.mk bv k i a l.length c binds l bl off PA A PN PC N C K I hb rfl hl ha (fun i hi => ?_) (fun i hi => ?_) (fun i hi => ?_) (fun i hi => ?_) (fun i hi => (hx i hi).2)
  · exact h1 i 0 _ hi (by rw [(hx i hi).1]; rfl)
  · exact h1 i 1 _ hi (by rw [(hx i hi).1]; rfl)
  · exact h1 i 2 _ hi (by rw [(hx i hi).1]; rfl)
  · exact h1 i 3 _ hi (by rw [(hx i hi).1]; rfl)
theorem IsTm.inv {F : Nat → Prop} {w : World} {b k i a : Value} {t : Tm} (h : IsTm F w b k i a t) : k = .int .i64 t.kind ∧ i = .int .i64 t.index ∧ IsSl rpTy F w b t.binds ∧ IsSl rpTm F w a t.args := by
  cases h with
  | mk bv k i a n c binds args bl off PA A PN PC N C K I hb hn hm ha h1 h2 h3 h4 h5 =>
    subst hn
    refine ⟨rfl, rfl, hb, a, c, bl, off, fun i => [.slice (PA i) (PN i) (PC i), .int .i64 (K i), .int .i64 (I i), .slice (A i) (N i) (C i)], rfl, hm, ha, fun i j u hi hu => ?_, fun i hi => ⟨_, _, _, _, rfl, h5 i hi⟩⟩
    match j with
    | 0 => simp at hu; subst hu; exact h1 i hi
    | 1 => simp at hu; subst hu; exact h2 i hi
    | 2 => simp at hu; subst hu; exact h3 i hi
    | 3 => simp at hu; subst hu; exact h4 i hi
    | j + 4 => simp at hu
end Go.Proofs.Ytcblpjheoclkeaa

namespace Go.Proofs.Ytcblpjheoclkeaa
open Go.RowKit

end Go.Proofs.Ytcblpjheoclkeaa

namespace Go.Proofs.Ytcblpjheoclkeaa

section
variable {P : Program} {ops : Array Oper} {Q : Exit → Act → World → Prop} {md : Region.Mode} {S : World → Prop}

def asksS (ops : Array Oper) (j : Nat) : Bool := match ops[j]? with
  | none => true
  | some o => match o.op with
    | .store .. => false
    | .assign _ => false
    | _ => true

def wpN (P : Program) (md : Region.Mode) (ops : Array Oper) (Q : Exit → Act → World → Prop) (S : World → Prop) : Nat → Array Bool → Act → World → Prop
  | 0, listed, a, w => Region.ready md ops listed = [] ∧ Q .normal a w
  | n + 1, listed, a, w =>
    (Region.ready md ops listed = [] → Q .normal a w) ∧
    ∀ i ∈ Region.ready md ops listed, wpOp P ops Q i (fun a' w' => (asksS ops i = true → S w → S w') ∧ wpN P md ops Q S n (listed.setIfInBounds i true) a' w') a w

theorem wpN_any : ∀ (n : Nat) (listed : Array Bool) (a : Act) (w : World), wpN P md ops Q S n listed a w → wpAny P md ops Q n listed a w
  | 0, _, _, _, h => h
  | n + 1, _, _, _, h => ⟨h.1, fun i hi => wpOp_mono (fun a' w' hh => wpN_any n _ a' w' hh.2) (h.2 i hi)⟩

def lateOk (md : Region.Mode) (ops : Array Oper) (listed : Array Bool) (i : Nat) : Bool :=
  (List.range ops.size).all fun j => asksS ops j || j == i || listed.getD j true || match ops[j]? with
    | some oj => oj.after.any (fun e => Region.binds md e && e.on == i)
    | none => true

theorem lateOk_spec {i : Nat} {listed : Array Bool} (h : lateOk md ops listed i = true) (j : Nat) (oj : Oper) (hj : ops[j]? = some oj) (hne : j ≠ i) (hun : listed.getD j true = false)
    (hno : ∀ e ∈ oj.after, Region.binds md e = true → e.on ≠ i) : asksS ops j = true := by
  simp only [lateOk, List.all_eq_true, List.mem_range] at h
  have h1 := h j (Array.getElem?_eq_some_iff.1 hj).1
  simp only [hj, Bool.or_eq_true, beq_iff_eq, hne, hun, or_false, Bool.false_eq_true] at h1
  rcases h1 with h1 | h1
  · exact h1
  · obtain ⟨e, he, hb⟩ := Array.any_eq_true'.1 h1
    simp only [Bool.and_eq_true, beq_iff_eq] at hb
    exact absurd hb.2 (hno e he hb.1)

theorem wpN_first {i : Nat} {oi : Oper} {v : Value} (hi : ops[i]? = some oi) (hsel : ∀ (j : Nat) (o : Oper) cs b, ops[j]? = some o → o.op ≠ .select cs b)
    (hQ : ∀ c a w, Q (.panic c) (a.put oi.dst v) w → Q (.panic c) a w) (hai : asksS ops i = true) :
    ∀ (n : Nat) (listed : Array Bool) (a : Act) (w : World),
      (∀ j oj, ops[j]? = some oj → j ≠ i → listed.getD j true = false → (∀ e ∈ oj.after, Region.binds md e = true → e.on ≠ i) → oi.apart ops oj = true ∧ asksS ops j = true) →
      i ∈ Region.ready md ops listed → YieldsIf P ops S oi v a → S w →
      wpN P md ops Q S n (listed.setIfInBounds i true) (a.put oi.dst v) w → wpN P md ops Q S (n + 1) listed a w := by
  intro n
  induction n with
  | zero =>
    intro listed a w _ hr hy hS H
    refine ⟨fun h0 => (by rw [h0] at hr; cases hr), fun j hj => ?_⟩
    by_cases hji : j = i
    · subst hji; exact hy.wpOp hi hS ⟨fun _ h => h, H⟩
    · have h0 := ready_mono hj hji
      rw [H.1] at h0; cases h0
  | succ n ih =>
    intro listed a w hfree hr hy hS H
    refine ⟨fun h0 => (by rw [h0] at hr; cases hr), fun j hj => ?_⟩
    by_cases hji : j = i
    · subst hji; exact hy.wpOp hi hS ⟨fun _ h => h, H⟩
    · have hrest := H.2 j (ready_mono hj hji)
      obtain ⟨hjun, oj, hoj, hall⟩ := mem_ready.1 hj
      have hiun := (mem_ready.1 hr).1
      have hnot : ∀ e ∈ oj.after, Region.binds md e = true → e.on ≠ i := fun e he hb heq => by
        have hl := hall e he hb
        rw [heq] at hl
        rcases Nat.lt_or_ge i listed.size with hlt | hge
        · simp [hlt] at hiun hl; rw [hiun] at hl; cases hl
        · simp [Array.getElem?_eq_none hge] at hl
      obtain ⟨hap, haj⟩ := hfree j oj hoj hji hjun hnot
      have hput := wpOp_putIf hoj hap (fun cs b => hsel i oi cs b hi) (fun cs b => hsel j oj cs b hoj) hQ hy hrest
      refine wpOp_mono (fun a' w' hh => ?_) hput
      obtain ⟨hy', hSw, hw⟩ := hh
      refine ⟨hSw, ih (listed.setIfInBounds j true) a' w' ?_ (ready_mono hr (Ne.symm hji)) hy' (hSw haj hS) ?_⟩
      · intro k ok hk hki hun hno
        refine hfree k ok hk hki ?_ hno
        by_cases hjk : j = k
        · subst hjk; exact hjun
        · rw [getD_set_ne true hjk] at hun; exact hun
      · rw [Array.setIfInBounds_comm _ _ hji]; exact hw

theorem wpN_take {i : Nat} {oi : Oper} {v : Value} {n : Nat} {listed : Array Bool} {a : Act} {w : World} (hi : ops[i]? = some oi)
    (hs : (Region.noSelect ops && Region.free md ops listed i && (Region.ready md ops listed).contains i && asksS ops i && lateOk md ops listed i) = true)
    (hQ : ∀ c a w, Q (.panic c) (a.put oi.dst v) w → Q (.panic c) a w) (hS : S w) (hy : YieldsIf P ops S oi v a)
    (h : wpN P md ops Q S n (listed.setIfInBounds i true) (a.put oi.dst v) w) : wpN P md ops Q S (n + 1) listed a w := by
  simp only [Bool.and_eq_true] at hs
  obtain ⟨⟨⟨⟨h1, h2⟩, h3⟩, h4⟩, h5⟩ := hs
  exact wpN_first hi (Region.noSelect_spec h1) hQ h4 n listed a w (fun j oj hj hne hun hno => ⟨Region.free_spec hi h2 j oj hj hne hun hno, lateOk_spec h5 j oj hj hne hun hno⟩) (by simpa using h3) hy hS h

theorem wpN_pureF {i : Nat} {oi : Oper} {v : Value} (hi : ops[i]? = some oi) (hsel : ∀ (j : Nat) (o : Oper) cs b, ops[j]? = some o → o.op ≠ .select cs b)
    (hQ : ∀ c a w, Q (.panic c) (a.put oi.dst v) w → Q (.panic c) a w) :
    ∀ (n : Nat) (listed : Array Bool) (a : Act) (w : World),
      (∀ j oj, ops[j]? = some oj → j ≠ i → listed.getD j true = false → (∀ e ∈ oj.after, Region.binds md e = true → e.on ≠ i) → oi.apart ops oj = true) →
      i ∈ Region.ready md ops listed → YieldsIf P ops (fun _ => True) oi v a →
      wpN P md ops Q S n (listed.setIfInBounds i true) (a.put oi.dst v) w → wpN P md ops Q S (n + 1) listed a w := by
  intro n
  induction n with
  | zero =>
    intro listed a w _ hr hy H
    refine ⟨fun h0 => (by rw [h0] at hr; cases hr), fun j hj => ?_⟩
    by_cases hji : j = i
    · subst hji; exact hy.wpOp hi trivial ⟨fun _ h => h, H⟩
    · have h0 := ready_mono hj hji
      rw [H.1] at h0; cases h0
  | succ n ih =>
    intro listed a w hfree hr hy H
    refine ⟨fun h0 => (by rw [h0] at hr; cases hr), fun j hj => ?_⟩
    by_cases hji : j = i
    · subst hji; exact hy.wpOp hi trivial ⟨fun _ h => h, H⟩
    · have hrest := H.2 j (ready_mono hj hji)
      obtain ⟨hjun, oj, hoj, hall⟩ := mem_ready.1 hj
      have hiun := (mem_ready.1 hr).1
      have hnot : ∀ e ∈ oj.after, Region.binds md e = true → e.on ≠ i := fun e he hb heq => by
        have hl := hall e he hb
        rw [heq] at hl
        rcases Nat.lt_or_ge i listed.size with hlt | hge
        · simp [hlt] at hiun hl; rw [hiun] at hl; cases hl
        · simp [Array.getElem?_eq_none hge] at hl
      have hap := hfree j oj hoj hji hjun hnot
      have hput := wpOp_putIf hoj hap (fun cs b => hsel i oi cs b hi) (fun cs b => hsel j oj cs b hoj) hQ hy hrest
      refine wpOp_mono (fun a' w' hh => ?_) hput
      obtain ⟨hy', hSw, hw⟩ := hh
      refine ⟨hSw, ih (listed.setIfInBounds j true) a' w' ?_ (ready_mono hr (Ne.symm hji)) hy' ?_⟩
      · intro k ok hk hki hun hno
        refine hfree k ok hk hki ?_ hno
        by_cases hjk : j = k
        · subst hjk; exact hjun
        · rw [getD_set_ne true hjk] at hun; exact hun
      · rw [Array.setIfInBounds_comm _ _ hji]; exact hw
theorem wpN_pure {i : Nat} {oi : Oper} {v : Value} {n : Nat} {listed : Array Bool} {a : Act} {w : World} (hi : ops[i]? = some oi)
    (hs : (Region.noSelect ops && Region.free md ops listed i && (Region.ready md ops listed).contains i) = true)
    (hQ : ∀ c a w, Q (.panic c) (a.put oi.dst v) w → Q (.panic c) a w) (hy : YieldsIf P ops (fun _ => True) oi v a)
    (h : wpN P md ops Q S n (listed.setIfInBounds i true) (a.put oi.dst v) w) : wpN P md ops Q S (n + 1) listed a w := by
  simp only [Bool.and_eq_true] at hs
  obtain ⟨⟨h1, h2⟩, h3⟩ := hs
  exact wpN_pureF hi (Region.noSelect_spec h1) hQ n listed a w (fun j oj hj hne hun hno => Region.free_spec hi h2 j oj hj hne hun hno) (by simpa using h3) hy h

theorem wpN_step {i : Nat} {oi : Oper} {n : Nat} {listed : Array Bool} {a : Act} {w : World} (hr : Region.ready md ops listed = [i]) (hi : ops[i]? = some oi)
    (h : ∀ K : Act → World → Prop, Shut (∀ a w, (asksS ops i = true → S w) → wpN P md ops Q S n (listed.setIfInBounds i true) a w → K a w) → if Region.wanted oi (yielded ops a.tmps) = true then Oper.wp P oi a w K Q else K (a.put oi.dst undef) w) :
    wpN P md ops Q S (n + 1) listed a w := by
  refine ⟨fun h0 => (by rw [hr] at h0; cases h0), fun j hj => ?_⟩
  rw [hr] at hj
  have : j = i := by simpa using hj
  subst this
  exact wpOp_step hi (fun K hK => h K (fun a w h1 h2 => hK a w ⟨fun ha _ => h1 ha, h2⟩))

theorem wpN_done {n : Nat} {listed : Array Bool} {a : Act} {w : World} (hr : Region.ready md ops listed = []) (h : Q .normal a w) : wpN P md ops Q S n listed a w := by
  cases n with
  | zero => exact ⟨hr, h⟩
  | succ n => exact ⟨fun _ => h, fun i hi => by rw [hr] at hi; cases hi⟩

end
end Go.Proofs.Ytcblpjheoclkeaa

namespace Go.Proofs.Ytcblpjheoclkeaa
open Go.RowKit

def RetI (n : Int) (w : World) (e : Ending) (w' : World) : Prop := e = .returned (.int .i64 n) ∧ Below w.heap.size w w'
namespace Ty
mutual
def order : Ty → Nat
  | .mk a _ => orders a
def orders : List Ty → Nat
  | [] => 0
  | t :: l => max (order t + 1) (orders l)
end
theorem depth_le_size (t : Ty) : t.depth ≤ t.size := by
  induction t using Ty.ind with
  | h args base ih =>
    simp only [size, depth]
    have : ∀ l : List Ty, (∀ t ∈ l, t.depth ≤ t.size) → depths l ≤ sizes l := by
      intro l
      induction l with
      | nil => intro _; simp [depths]
      | cons t l ih2 => intro h; have := ih2 (fun t ht => h t (by simp [ht])); have := h t (by simp); simp [sizes, depths]; omega
    have := this args ih; omega
theorem size_eq (l : List Ty) (b : Int) : (mk l b).size = sizes l + 1 := by simp [size]
theorem depth_eq (l : List Ty) (b : Int) : (mk l b).depth = depths l + 1 := by simp [depth]
end Ty

end Go.Proofs.Ytcblpjheoclkeaa

namespace Go.Proofs.Ytcblpjheoclkeaa
open Go.RowKit

end Go.Proofs.Ytcblpjheoclkeaa

namespace Go.Proofs.Ytcblpjheoclkeaa
open Go.RowKit

theorem args_mk' (l : List Ty) (b : Int) : (Ty.mk l b).args = l := rfl
theorem base_mk' (l : List Ty) (b : Int) : (Ty.mk l b).base = b := rfl

end Go.Proofs.Ytcblpjheoclkeaa

namespace Go.Proofs.Ytcblpjheoclkeaa
open Go.RowKit

end Go.Proofs.Ytcblpjheoclkeaa

namespace Go.Proofs.Ytcblpjheoclkeaa
open Go.RowKit
attribute [local go_sem ↓] Go.wp_at_zero Go.wp_at_succ

theorem infoK : (Try.prog.info? 83).map (fun i => (i.zero, i.size, i.bytes)) = some (some (.agg #[.slice none 0 0, .int .i64 0]), 2, 32) := by kernel_rfl
end Go.Proofs.Ytcblpjheoclkeaa

namespace Go.Proofs.Ytcblpjheoclkeaa
open Go.RowKit Go.Shelf
attribute [local go_sem] Oper.semAt_some

theorem room_none {F : Fence} (hd : F.depth = none) (k : Nat) : F.room k := fun d h => by rw [hd] at h; cases h
theorem round_any {F : Fence} (hd : F.depth = none) {m m' : Nat} {P : Program} {l : Nat} {f : FuncId} {tmps : Array Value} {assign body : Code} {w : World} {R : Ending → World → Prop}
    (h : RoundIn F m P l f tmps assign body w R) : RoundIn F m' P l f tmps assign body w R := ⟨h.1, fun c cs _ => h.2 c cs (room_none hd _)⟩
theorem yield_any {F : Fence} (hd : F.depth = none) {m : Nat} (m' : Nat) {P : Program} {l : Nat} {args : Array Value} {W : World} {R : Ending → World → Prop} (h : YieldAt F m P l args W R) : YieldAt F m' P l args W R := by
  obtain ⟨fn, tmps, assign, body, hy, hR⟩ := h
  exact ⟨fn, tmps, assign, body, hy, round_any hd hR⟩

structure KeepC (G : Nat → TypeId → Prop) (A B : World) : Prop where
  size : A.heap.size ≤ B.heap.size
  cells : ∀ k cs t fr, G k t → A.heap[k]? = some (.cells cs t fr) → B.heap[k]? = some (.cells cs t fr)
namespace KeepC
variable {G : Nat → TypeId → Prop} {A B C : World}
theorem refl (G : Nat → TypeId → Prop) (A : World) : KeepC G A A := ⟨Nat.le_refl _, fun _ _ _ _ _ h => h⟩
theorem trans (h : KeepC G A B) (h' : KeepC G B C) : KeepC G A C := ⟨Nat.le_trans h.size h'.size, fun k cs t fr hk hc => h'.cells k cs t fr hk (h.cells k cs t fr hk hc)⟩
theorem below (h : KeepC G A B) (hb : Below B.heap.size B C) : KeepC G A C := h.trans ⟨hb.size, fun k _ _ _ _ hc => (hb.block k (Array.getElem?_eq_some_iff.1 hc).1).trans hc⟩
theorem alloc (h : KeepC G A B) (o : Obj) : KeepC G A (B.alloc o) := h.below ((Below.refl _ _).alloc (Nat.le_refl _) _)
theorem setCell (h : KeepC G A B) (p : Addr) (u : Value) (hp : ∀ t, ¬ G p.block t) : KeepC G A (B.setCell p u) :=
  h.trans ⟨by simp, fun k cs t fr hk hc => (Below.heap_setCell _ _ _ _ (fun e => hp _ (e ▸ hk))).trans hc⟩
theorem putObj (G : Nat → TypeId → Prop) (W : World) (l : Nat) (o o' : Obj) (hl : W.heap[l]? = some o) (ho : o.isCells = false) : KeepC G W (W.putObj l o') :=
  ⟨by simp, fun k cs t fr _ hc => by
    have hne : k ≠ l := fun e => by subst e; rw [hl] at hc; cases hc; simp [Obj.isCells] at ho
    exact (World.putObj_heap_other hne).trans hc⟩
theorem keep {F : Nat → Prop} (h : KeepC G A B) (hF : ∀ k t, F k → k < A.heap.size → G k t) : Keep F A B := fun k o v hk hv => by
  have hlt := Keep.lt hv
  simp only [World.cell?] at hv ⊢
  cases hc : A.heap[k]? with
  | none => rw [hc] at hv; simp at hv
  | some x =>
    cases x with
    | cells cs t fr => rw [h.cells k cs t fr (hF k t hk hlt) hc]; rw [hc] at hv; exact hv
    | _ => rw [hc] at hv; simp at hv
theorem keep' {F : Nat → Prop} {w0 : World} (h : KeepC G A B) (hw : Keep F w0 A) (hF : ∀ k t, F k → k < w0.heap.size → G k t) : Keep F w0 B := fun k o v hk hv =>
  (h.keep (F := fun q => F q ∧ q < w0.heap.size) fun q t hq _ => hF q t hq.1 hq.2) k o v ⟨hk, Keep.lt hv⟩ (hw k o v hk hv)
theorem blk (h : KeepC G A B) {n : Nat} {cs : Array Value} {t : TypeId} (hb : Blk A n cs t) (hn : G n t) : Blk B n cs t := h.cells n cs t (0, 0) hn hb
end KeepC

namespace Ty
mutual
def pre : Ty → Nat → List (Nat × Ty)
  | .mk l b, d => (d, .mk l b) :: pres l (d + 1)
def pres : List Ty → Nat → List (Nat × Ty)
  | [], _ => []
  | t :: l, d => pre t d ++ pres l d
end
theorem pres_append (l r : List Ty) (d : Nat) : pres (l ++ r) d = pres l d ++ pres r d := by
  induction l with
  | nil => simp [pres]
  | cons t l ih => simp [pres, ih]
theorem pres_take (l : List Ty) (i d : Nat) (h : i < l.length) : pres (l.take (i + 1)) d = pres (l.take i) d ++ pre l[i] d := by
  rw [List.take_succ_eq_append_getElem h, pres_append]; simp [pres]
theorem pres_take_le (l : List Ty) (i d : Nat) : pres (l.take i) d <+: pres l d := by
  conv => rhs; rw [← List.take_append_drop i l]
  rw [pres_append]; exact List.prefix_append _ _
theorem pre_length (t : Ty) : ∀ d, (pre t d).length = t.size := by
  induction t using Ty.ind with
  | h args base ih =>
    intro d
    have : ∀ l : List Ty, (∀ t ∈ l, ∀ d, (pre t d).length = t.size) → ∀ d, (pres l d).length = sizes l := by
      intro l
      induction l with
      | nil => intro _ d; simp [pres, sizes]
      | cons t l ih2 => intro h d; simp [pres, sizes, h t (by simp) d, ih2 (fun t ht => h t (by simp [ht])) d]
    simp [pre, size, this args ih (d + 1)]
theorem pres_length (l : List Ty) (d : Nat) : (pres l d).length = sizes l := by
  induction l with
  | nil => simp [pres, sizes]
  | cons t l ih => simp [pres, sizes, pre_length, ih]
end Ty

end Go.Proofs.Ytcblpjheoclkeaa

namespace Go.Proofs.Ytcblpjheoclkeaa
open Go.RowKit Go.Shelf
attribute [local go_sem] Oper.semAt_some

def But (a b : Nat) (k : Nat) (_ : TypeId) : Prop := k < a ∨ b ≤ k

end Go.Proofs.Ytcblpjheoclkeaa

namespace Go.Proofs.Ytcblpjheoclkeaa
open Go.RowKit Go.Shelf
attribute [local go_sem] Oper.semAt_some

end Go.Proofs.Ytcblpjheoclkeaa

namespace Go.Proofs.Ytcblpjheoclkeaa
open Go.RowKit
attribute [local go_sem ↓] Go.wp_at_zero Go.wp_at_succ

end Go.Proofs.Ytcblpjheoclkeaa

namespace Go.Proofs.Ytcblpjheoclkeaa
open Go.RowKit

end Go.Proofs.Ytcblpjheoclkeaa

namespace Go.Proofs.Ytcblpjheoclkeaa
open Go.RowKit

end Go.Proofs.Ytcblpjheoclkeaa

namespace Go.Proofs
open Go.Shelf
end Go.Proofs

namespace Go.Proofs.Ytcblpjheoclkeaa
open Go.RowKit

namespace Ty
mutual
def text (names : List ByteArray) : Ty → List UInt8
  | .mk l b => texts names l ++ (names.getD b.toNat default).data.toList
def texts (names : List ByteArray) : List Ty → List UInt8
  | [] => []
  | t :: l => (if t.args = [] then text names t else 40 :: text names t ++ [41]) ++ [32, 45, 62, 32] ++ texts names l
end
def part (names : List ByteArray) (t : Ty) : List UInt8 := if t.args = [] then text names t else 40 :: text names t ++ [41]
end Ty

end Go.Proofs.Ytcblpjheoclkeaa

namespace Go.Proofs.Ytcblpjheoclkeaa
open Go.RowKit

theorem isSl_nil {α : Type} (r : Rp α) (F : Nat → Prop) (w : World) : IsSl r F w (.slice none 0 0) [] :=
  ⟨none, 0, 0, 0, fun _ => [], rfl, ⟨Nat.zero_le _, Nat.le_refl _⟩, fun h => absurd h (by simp), fun _ _ _ h => absurd h (by simp), fun _ h => absurd h (by simp)⟩

theorem IsTy.bel {F : Nat → Prop} {w w' : World} {s b : Value} {t : Ty} (h : IsTy F w s b t) (hb : Below w.heap.size w w') : IsTy F w' s b t := h.keep ((Keep.refl _ _).below hb)

end Go.Proofs.Ytcblpjheoclkeaa

namespace Go.Proofs.Ytcblpjheoclkeaa
open Go.RowKit

theorem sl_cells6 {F : Nat → Prop} {w : World} {a : Option Addr} {n c : Nat} {l : List Tm} (h : IsSl rpTm F w (.slice a n c) l) : n = l.length ∧ (l.length ≤ maxLen ∧ l.length ≤ c) ∧ ∃ (bl off : Nat) (PA A : Nat → Option Addr) (PN PC N C : Nat → Nat) (K I : Nat → Int),
    (0 < l.length → a = some ⟨bl, off, none⟩ ∧ F bl) ∧ (∀ i, i < l.length → w.cell? ⟨bl, off + i * 4, none⟩ = some (.slice (PA i) (PN i) (PC i))) ∧ (∀ i, i < l.length → w.cell? ⟨bl, off + i * 4 + 1, none⟩ = some (.int .i64 (K i))) ∧
    (∀ i, i < l.length → w.cell? ⟨bl, off + i * 4 + 2, none⟩ = some (.int .i64 (I i))) ∧ (∀ i, i < l.length → w.cell? ⟨bl, off + i * 4 + 3, none⟩ = some (.slice (A i) (N i) (C i))) ∧
    ∀ i (h : i < l.length), IsTm F w (.slice (PA i) (PN i) (PC i)) (.int .i64 (K i)) (.int .i64 (I i)) (.slice (A i) (N i) (C i)) l[i] := by
  have ht := isTm_mk (isSl_nil rpTy F w) h 0 0
  cases ht with
  | mk bv k i a n c binds args bl off PA A PN PC N C K I hb hn hm ha h1 h2 h3 h4 h5 =>
  subst hn
  exact ⟨rfl, hm, bl, off, PA, A, PN, PC, N, C, K, I, ha, h1, h2, h3, h4, h5⟩

theorem IsTm.bel {F : Nat → Prop} {w w' : World} {b k i a : Value} {t : Tm} (h : IsTm F w b k i a t) (hb : Below w.heap.size w w') : IsTm F w' b k i a t := h.keep ((Keep.refl _ _).below hb)

end Go.Proofs.Ytcblpjheoclkeaa

namespace Go.Proofs.Ytcblpjheoclkeaa
open Go.RowKit

end Go.Proofs.Ytcblpjheoclkeaa

namespace Go.Proofs.Ytcblpjheoclkeaa
open Go.RowKit

theorem IsSl.take {α : Type} {r : Rp α} {F : Nat → Prop} {w : World} {a : Option Addr} {n c : Nat} {l : List α} (h : IsSl r F w (.slice a n c) l) (k : Nat) (hk : k ≤ n) : IsSl r F w (.slice a k c) (l.take k) := by
  obtain ⟨a', c', bl, off, X, hv, hl, ha, h1, h2⟩ := h
  simp only [Value.slice.injEq] at hv
  obtain ⟨rfl, rfl, rfl⟩ := hv
  have hk' : (l.take k).length = k := by simp; omega
  refine ⟨a, c, bl, off, X, by rw [hk'], by omega, fun h => ha (by omega), fun i j u hi hu => h1 i j u (by omega) hu, fun i hi => ?_⟩
  have := h2 i (by omega)
  simpa using this

end Go.Proofs.Ytcblpjheoclkeaa

namespace Go.Proofs.Ytcblpjheoclkeaa
open Go.RowKit

end Go.Proofs.Ytcblpjheoclkeaa

namespace Go.Proofs.Ytcblpjheoclkeaa
open Go.RowKit

end Go.Proofs.Ytcblpjheoclkeaa

namespace Go.Proofs.Ytcblpjheoclkeaa
open Go.RowKit

namespace Ty
mutual
def eta : Ty → Int → Int → Tm
  | .mk l _, k, i => .mk l k (if k = 0 then i + (l.length : Nat) else i) (etas l)
def etas : List Ty → List Tm
  | [] => []
  | t :: l => eta t 0 (l.length : Nat) :: etas l
end
theorem eta_eq (l : List Ty) (b k i : Int) : eta (.mk l b) k i = .mk l k (if k = 0 then i + (l.length : Nat) else i) (etas l) := by rw [eta]
theorem etas_len (l : List Ty) : (etas l).length = l.length := by
  induction l with
  | nil => simp [etas]
  | cons t l ih => simp [etas, ih]
theorem etas_get (l : List Ty) (j : Nat) (h : j < l.length) : (etas l)[j]'(by rw [etas_len]; exact h) = eta l[j] 0 ((l.length : Int) - 1 - j) := by
  induction l generalizing j with
  | nil => simp at h
  | cons t l ih =>
    cases j with
    | zero => simp [etas]
    | succ j =>
      simp only [etas, List.getElem_cons_succ, List.length_cons]
      rw [ih j (by simpa using h)]
      congr 1
      simp; omega
end Ty

end Go.Proofs.Ytcblpjheoclkeaa

namespace Go.Proofs.Ytcblpjheoclkeaa
open Go.RowKit

end Go.Proofs.Ytcblpjheoclkeaa

namespace Go.Proofs.Ytcblpjheoclkeaa
open Go.RowKit

namespace Tm
inductive Fit : Tm → Prop where
  | mk (b : List Ty) (k i : Int) (a : List Tm) (h0 : -9223372036854775808 ≤ i) (h1 : i ≤ 9223372036854775807) (h : ∀ t ∈ a, Fit t) : Fit (.mk b k i a)
theorem fit_iff {b : List Ty} {k i : Int} {a : List Tm} : Fit (.mk b k i a) ↔ -9223372036854775808 ≤ i ∧ i ≤ 9223372036854775807 ∧ ∀ t ∈ a, Fit t :=
  ⟨fun h => by cases h with | mk _ _ _ _ h0 h1 h => exact ⟨h0, h1, h⟩, fun ⟨h0, h1, h⟩ => .mk _ _ _ _ h0 h1 h⟩
def zero : Tm := .mk [] 0 0 []
def Long (t : Tm) : Prop := t.args = Ty.etas t.binds ∧ (t.kind = 0 → (t.binds.length : Int) ≤ t.index)
def headIx (t : Tm) : Int := if t.kind = 0 then t.index - (t.binds.length : Nat) else t.index
end Tm

end Go.Proofs.Ytcblpjheoclkeaa

namespace Go.Proofs.Ytcblpjheoclkeaa
open Go.RowKit Go.ChangeShapes Go.WideShapes Go.ChangeAt

theorem wf_i64 {n : Int} (h : (Lit.int .i64 n).wf = true) : -9223372036854775808 ≤ n ∧ n ≤ 9223372036854775807 := by
  have h2 : IntKind.i64.min ≤ n ∧ n ≤ 9223372036854775807 := by simpa [Lit.wf] using h
  have h3 : IntKind.i64.min = -9223372036854775808 := by rfl
  omega

theorem four_of {α : Type} {cs : List α} (h : cs.length = 4) : ∃ a b c d, cs = [a, b, c, d] := by
  match cs, h with
  | [a, b, c, d], _ => exact ⟨a, b, c, d, rfl⟩
theorem cellsHead : Try.prog.cellsOf 24 = 2 := by kernel_rfl
theorem cellsTerm : Try.prog.cellsOf 27 = 4 := by kernel_rfl
theorem cellsSTerm : Try.prog.cellsOf 25 = 1 := by kernel_rfl

theorem headOf {H : Type} {enc : TypeId × Value → H} {W : World} {base : Nat} {sp : Nat → Bool} {hd : Bool} {n : Nat} {cs : List Value} {x : DataW H × List MemPlace} (h : DataW.trod enc Try.prog W base sp hd n 24 cs = some x) :
    ∃ k i, cs = [.int .i64 k, .int .i64 i] ∧ (-9223372036854775808 ≤ k ∧ k ≤ 9223372036854775807) ∧ (-9223372036854775808 ≤ i ∧ i ≤ 9223372036854775807) := by
  obtain ⟨xs, m, rfl, rfl, hl, hlen, hf⟩ := DataW.trod_struct Try.underlying24 h
  rw [cellsHead] at hl
  obtain ⟨v0, v1, rfl⟩ := two_of hl
  have h0 : DataW.trod enc Try.prog W base sp hd m 3 ([v0, v1].take (Try.prog.cellsOf 3)) = xs[0]? := hf 0 _ rfl
  have h1 : DataW.trod enc Try.prog W base sp hd m 3 ([v1].take (Try.prog.cellsOf 3)) = xs[1]? := hf 1 _ rfl
  rw [cellsInt] at h0 h1
  have hlen : xs.length = 2 := hlen
  rw [List.getElem?_eq_getElem (by omega)] at h0 h1
  obtain ⟨k, hk, _, hwk⟩ := DataW.trod_int Try.underlying3 h0
  obtain ⟨i, hi, _, hwi⟩ := DataW.trod_int Try.underlying3 h1
  have e0 : [v0] = [.int .i64 k] := hk
  have e1 : [v1] = [.int .i64 i] := hi
  simp only [List.cons.injEq, and_true] at e0 e1
  subst e0 e1
  exact ⟨k, i, rfl, wf_i64 hwk, wf_i64 hwi⟩

theorem rdM {H : Type} (enc : TypeId × Value → H) (W : World) (base : Nat) (sp : Nat → Bool) (hd : Bool) : ∀ n, Rd enc W base sp hd 27 rpTm (fun _ t => t.Fit) n := by
  intro n
  induction n using Nat.strongRecOn with
  | ind n ih =>
    intro cs x h
    obtain ⟨xs, m, rfl, rfl, hl, hlen, hf⟩ := DataW.trod_struct Try.underlying27 h
    rw [cellsTerm] at hl
    obtain ⟨v0, v1, v2, v3, rfl⟩ := four_of hl
    have h0 : DataW.trod enc Try.prog W base sp hd m 22 ([v0, v1, v2, v3].take (Try.prog.cellsOf 22)) = xs[0]? := hf 0 _ rfl
    have h1 : DataW.trod enc Try.prog W base sp hd m 24 ([v1, v2, v3].take (Try.prog.cellsOf 24)) = xs[1]? := hf 1 _ rfl
    have h2 : DataW.trod enc Try.prog W base sp hd m 25 ([v3].take (Try.prog.cellsOf 25)) = xs[2]? := hf 2 _ rfl
    rw [cellsSR] at h0
    rw [cellsHead] at h1
    rw [cellsSTerm] at h2
    have hlen : xs.length = 3 := hlen
    rw [List.getElem?_eq_getElem (by omega)] at h0 h1 h2
    obtain ⟨va, vn, vc, l, hv, _, hs, _⟩ := sl_of_trod Try.underlying22 cellsR (by decide) (fun j hj => rdR enc W base sp hd j) h0
    obtain ⟨k, i, hki, _, hi⟩ := headOf h1
    obtain ⟨ta, tn, tc, tl, htv, _, hts, hfit⟩ := sl_of_trod Try.underlying25 cellsTerm (by decide) (fun j hj => ih j (by omega)) h2
    have e0 : [v0] = [.slice va vn vc] := hv
    have e1 : [v1, v2] = [.int .i64 k, .int .i64 i] := hki
    have e3 : [v3] = [.slice ta tn tc] := htv
    simp only [List.cons.injEq, and_true] at e0 e1 e3
    obtain ⟨e1, e2⟩ := e1
    subst e0 e1 e2 e3
    refine ⟨.mk l k i tl, ⟨_, _, _, _, rfl, isTm_mk hs hts k i⟩, ?_⟩
    refine Tm.fit_iff.2 ⟨hi.1, hi.2, fun t ht => ?_⟩
    obtain ⟨j, hj, rfl⟩ := List.getElem_of_mem ht
    obtain ⟨_, _, _, _, _, h⟩ := hfit j hj
    exact h

set_option maxRecDepth 100000 in
theorem openTm {H : Type} {enc : TypeId × Value → H} {W : World} {base : Nat} {sp : Nat → Bool} {hd : Bool} {r : Reach} {b0 : Nat} {v : Value} {d : DataW H} {p : List MemPlace}
    (hval : Value.okWide Try.prog W r b0 27 v) (h : DataW.Trod enc Try.prog W base sp hd 27 v d p) : ∃ b k i a t, v = .agg #[b, k, i, a] ∧ IsTm (fun _ => True) W b k i a t ∧ t.Fit := by
  obtain ⟨n, h⟩ := h
  obtain ⟨t, ⟨b, k, i, a, hx, ht⟩, hf⟩ := rdM enc W base sp hd n _ _ h
  obtain ⟨cs, rfl, _⟩ := okWide_struct Try.underlying27 hval
  refine ⟨b, k, i, a, t, ?_, ht, hf⟩
  have : cs.toList = [b, k, i, a] := hx
  rw [← Array.toList_inj.1 (show cs.toList = (#[b, k, i, a] : Array Value).toList from this)]
end Go.Proofs.Ytcblpjheoclkeaa

namespace Go.Proofs.Ytcblpjheoclkeaa
open Go.RowKit Go.ChangeShapes Go.WideShapes Go.ChangeAt

end Go.Proofs.Ytcblpjheoclkeaa

namespace Go.Proofs.Ytcblpjheoclkeaa
open Go.RowKit

structure Off (F : Nat → Prop) (w w' : World) : Prop where
  os : w'.os = w.os
  tape : w'.tape = w.tape
  output : w'.output = w.output
  size : w.heap.size ≤ w'.heap.size
  block : ∀ k, k < w.heap.size → ¬ F k → w'.heap[k]? = w.heap[k]?
namespace Off
variable {F G : Nat → Prop} {w w' w'' : World}
theorem refl (F : Nat → Prop) (w : World) : Off F w w := ⟨rfl, rfl, rfl, Nat.le_refl _, fun _ _ _ => rfl⟩
theorem trans (h : Off F w w') (h' : Off F w' w'') : Off F w w'' :=
  ⟨h'.os.trans h.os, h'.tape.trans h.tape, h'.output.trans h.output, Nat.le_trans h.size h'.size, fun k hk hF => (h'.block k (Nat.lt_of_lt_of_le hk h.size) hF).trans (h.block k hk hF)⟩
theorem mono (h : Off F w w') (hF : ∀ k, k < w.heap.size → F k → G k) : Off G w w' := ⟨h.os, h.tape, h.output, h.size, fun k hk hG => h.block k hk fun hf => hG (hF k hk hf)⟩
theorem below (h : Off F w w') (hb : Below w'.heap.size w' w'') : Off F w w'' := h.trans ⟨hb.os, hb.tape, hb.output, hb.size, fun k hk _ => hb.block k hk⟩
theorem of_below (F : Nat → Prop) (hb : Below w.heap.size w w') : Off F w w' := (refl F w).below hb
theorem drew (h : Off F w w') : Off F w w'.drew := h.below (Below.refl _ _).drew
theorem alloc (h : Off F w w') (o : Obj) : Off F w (w'.alloc o) := h.below ((Below.refl _ _).alloc (Nat.le_refl _) _)
theorem grown (h : Off F w w') {row : Option Nat} (hg : w'.grownBy w'' row) (hr : ∀ k, row = some k → F k) : Off F w w'' :=
  h.trans ⟨hg.os, hg.tape, hg.output, hg.size, fun k hk hF => hg.block k hk fun e => hF (hr k e.symm)⟩
theorem set (h : Off F w w') (p : Addr) (u : Value) (hp : F p.block ∨ w.heap.size ≤ p.block) : Off F w (w'.setCell p u) := by
  have hb := (Below.refl 0 w').setCell (p := p) (Nat.zero_le _) u
  refine ⟨hb.os.trans h.os, hb.tape.trans h.tape, hb.output.trans h.output, Nat.le_trans h.size hb.size, fun k hk hF => ?_⟩
  exact (Below.heap_setCell _ _ _ _ (fun e => by rcases hp with hp | hp; exact hF (e ▸ hp); omega)).trans (h.block k hk hF)
theorem blk (h : Off F w w') {n : Nat} {cs : Array Value} {t : TypeId} (hb : Blk w n cs t) (hF : ¬ F n) : Blk w' n cs t := hb.same (h.block n hb.lt hF)
end Off
end Go.Proofs.Ytcblpjheoclkeaa

namespace Go.Proofs.Ytcblpjheoclkeaa
open Go.RowKit

inductive D where
  | v (x : Value)
  | sl (n : Nat) (l : List (List D)) (g : Option Nat)
  | p (k off : Nat)
  | q (l : List D)
  | ag (l : List D)
  | tu (l : List D)
  | fn (f : FuncId) (caps : List D)
  | rw (E n len : Nat)
  | o (k : Nat)
  | mo (k : Nat)
  | mp (l : List (Int × D))
  | ob (J : Nat → World → Prop)
  | j (X : Nat → Prop) (J : World → Prop)
  | cl (n : Nat) (l : List (List D))
  | rp (E n : Nat) (l : List (List D))
  | ps (g len : Nat)
  | pr (g len n i j : Nat)
  | pt (g len n lo : Nat)
  | mq (bm : Nat) (es : Array MapEntry) (clock : Nat) (l : List (Int × D))
  | it (k bm : Nat) (es : Array MapEntry) (clock : Nat) (rem : List Nat) (last : Option Nat)

structure RowM where
  hv : Value
  len : Nat
  E : Nat
  n : Nat
structure Mp where
  blk : Nat → Option Nat
  row : Nat → Option RowM
  obj : Nat → Option Nat
structure Mp.le (m m' : Mp) : Prop where
  blk : ∀ k b, m.blk k = some b → m'.blk k = some b
  row : ∀ g R, m.row g = some R → ∃ R', m'.row g = some R' ∧ R.len ≤ R'.len ∧ (R'.len = R.len → R'.hv = R.hv)
  obj : ∀ k b, m.obj k = some b → m'.obj k = some b
theorem Mp.le.refl (m : Mp) : m.le m := ⟨fun _ _ h => h, fun _ R h => ⟨R, h, Nat.le_refl _, fun _ => rfl⟩, fun _ _ h => h⟩
theorem Mp.le.trans {a b c : Mp} (h : a.le b) (h' : b.le c) : a.le c :=
  ⟨fun k x hk => h'.blk k x (h.blk k x hk), fun g R hg => by
    obtain ⟨R1, h1, h2, h3⟩ := h.row g R hg
    obtain ⟨R2, g1, g2, g3⟩ := h'.row g R1 h1
    refine ⟨R2, g1, by omega, fun e => ?_⟩
    have e1 : R1.len = R.len := by omega
    rw [g3 (by omega), h3 e1], fun k x hk => h'.obj k x (h.obj k x hk)⟩
def Mp.cut (m : Mp) (f g : Nat → Bool) : Mp := ⟨fun k => if f k then m.blk k else none, fun r => if g r then m.row r else none, fun k => if f k then m.obj k else none⟩
theorem Mp.cut_le (m : Mp) (f g : Nat → Bool) : (m.cut f g).le m :=
  ⟨fun k b h => by
    by_cases hk : f k = true
    · simpa [Mp.cut, hk] using h
    · simp [Mp.cut, hk] at h, fun r R h => by
    by_cases hk : g r = true
    · exact ⟨R, by simpa [Mp.cut, hk] using h, Nat.le_refl _, fun _ => rfl⟩
    · simp [Mp.cut, hk] at h, fun k b h => by
    by_cases hk : f k = true
    · simpa [Mp.cut, hk] using h
    · simp [Mp.cut, hk] at h⟩

def KeepI (Im : Nat → Nat → Prop) (w w' : World) : Prop := ∀ b o v, Im b o → w.cell? ⟨b, o, none⟩ = some v → w'.cell? ⟨b, o, none⟩ = some v
theorem KeepI.refl (Im : Nat → Nat → Prop) (w : World) : KeepI Im w w := fun _ _ _ _ h => h
theorem KeepI.trans {Im : Nat → Nat → Prop} {w w' w'' : World} (h : KeepI Im w w') (h' : KeepI Im w' w'') : KeepI Im w w'' := fun b o v hi hv => h' b o v hi (h b o v hi hv)
theorem KeepI.weaken {Im Im' : Nat → Nat → Prop} {w w' : World} (h : KeepI Im' w w') (hi : ∀ b o, Im b o → Im' b o) : KeepI Im w w' := fun b o v h1 hv => h b o v (hi b o h1) hv

inductive Rel (m : Mp) (Im : Nat → Nat → Prop) (w : World) : Value → D → Prop where
  | v (x : Value) : Rel m Im w x (.v x)
  | p (k off b : Nat) (h : m.blk k = some b) : Rel m Im w (.pointer (some ⟨b, off, none⟩)) (.p k off)
  | o (k b : Nat) (h : m.obj k = some b) : Rel m Im w (.pointer (some ⟨b, 0, none⟩)) (.o k)
  | mo (k b : Nat) (h : m.obj k = some b) : Rel m Im w (.map (some b)) (.mo k)
  | q (bl off : Nat) (X : Nat → Value) (l : List D) (h : ∀ i, i < l.length → w.cell? ⟨bl, off + i, none⟩ = some (X i) ∧ Im bl (off + i))
      (hr : ∀ i (h : i < l.length), Rel m Im w (X i) l[i]) : Rel m Im w (.pointer (some ⟨bl, off, none⟩)) (.q l)
  | sl (a : Option Addr) (c bl off n : Nat) (X : Nat → Nat → Value) (l : List (List D)) (g : Option Nat)
      (hm : l.length ≤ maxLen ∧ l.length ≤ c) (ha : 0 < l.length → a = some ⟨bl, off, none⟩)
      (hc : ∀ i j, i < l.length → j < n → w.cell? ⟨bl, off + i * n + j, none⟩ = some (X i j) ∧ Im bl (off + i * n + j))
      (hn : ∀ i (h : i < l.length), l[i].length = n)
      (h1 : ∀ i j, i < l.length → j < n → (X i j).oneCell' = true)
      (hr : ∀ i (h : i < l.length) j (h' : j < l[i].length), Rel m Im w (X i j) l[i][j])
      (hg : ∀ r, g = some r → ∃ R, m.row r = some R ∧ l.length ≤ R.len ∧ (l.length = R.len → R.hv = .slice a l.length c)) :
      Rel m Im w (.slice a l.length c) (.sl n l g)
  | cl (a : Option Addr) (n : Nat) (l : List (List D)) (h : Rel m Im w (.slice a l.length l.length) (.sl n l none)) : Rel m Im w (.slice a l.length l.length) (.cl n l)
  | ps (a : Option Addr) (c g len : Nat) (ha : 0 < len → ∃ b, a = some ⟨b, 0, none⟩) (hc : len ≤ c) (h : ∃ R, m.row g = some R ∧ len ≤ R.len ∧ (len = R.len → R.hv = .slice a len c)) : Rel m Im w (.slice a len c) (.ps g len)
  | pr (g len n i j b : Nat) (h : ∃ R, m.row g = some R ∧ len ≤ R.len ∧ (len = R.len → R.hv.ownBlock = some b)) : Rel m Im w (.pointer (some ⟨b, i * n + j, none⟩)) (.pr g len n i j)
  | pt (a : Option Addr) (c g len n lo : Nat) (h : ∃ R, m.row g = some R ∧ len ≤ R.len ∧ (len = R.len → lo < len → ∃ b, R.hv.ownBlock = some b ∧ a = some ⟨b, lo * n, none⟩)) : Rel m Im w (.slice a (len - lo) c) (.pt g len n lo)
  | ag (cs : List Value) (l : List D) (hn : cs.length = l.length) (hr : ∀ i (h : i < l.length), Rel m Im w (cs.getD i undef) l[i]) : Rel m Im w (.agg cs.toArray) (.ag l)
  | tu (cs : List Value) (l : List D) (hn : cs.length = l.length) (hr : ∀ i (h : i < l.length), Rel m Im w (cs.getD i undef) l[i]) : Rel m Im w (.tuple cs.toArray) (.tu l)
  | fn (f : FuncId) (cs : List Value) (l : List D) (hn : cs.length = l.length) (hr : ∀ i (h : i < l.length), Rel m Im w (cs.getD i undef) l[i]) : Rel m Im w (.func (.func f) #[] cs.toArray) (.fn f l)

theorem Rel.mono {m m' : Mp} {Im Im' : Nat → Nat → Prop} {w w' : World} {x : Value} {d : D} (h : Rel m Im w x d) (hm : m.le m') (hk : KeepI Im w w') (hi : ∀ b o, Im b o → Im' b o) : Rel m' Im' w' x d := by
  induction h with
  | v x => exact .v x
  | p k off b h => exact .p k off b (hm.blk k b h)
  | o k b h => exact .o k b (hm.obj k b h)
  | mo k b h => exact .mo k b (hm.obj k b h)
  | q bl off X l h hr ih => exact .q bl off X l (fun i hl => ⟨hk _ _ _ (h i hl).2 (h i hl).1, hi _ _ (h i hl).2⟩) ih
  | sl a c bl off n X l g h1 ha hc hn ho hr hg ih =>
    refine .sl a c bl off n X l g h1 ha (fun i j hl hj => ⟨hk _ _ _ (hc i j hl hj).2 (hc i j hl hj).1, hi _ _ (hc i j hl hj).2⟩) hn ho ih fun r e => ?_
    obtain ⟨R, q1, q2, q3⟩ := hg r e
    obtain ⟨R', p1, p2, p3⟩ := hm.row r R q1
    exact ⟨R', p1, by omega, fun e => by rw [p3 (by omega), q3 (by omega)]⟩
  | cl a n l h ih => exact .cl a n l ih
  | ps a c g len ha hc h =>
    obtain ⟨R, q1, q2, q3⟩ := h
    obtain ⟨R', p1, p2, p3⟩ := hm.row g R q1
    exact .ps a c g len ha hc ⟨R', p1, by omega, fun e => by rw [p3 (by omega), q3 (by omega)]⟩
  | pt a c g len n lo h =>
    obtain ⟨R, q1, q2, q3⟩ := h
    obtain ⟨R', p1, p2, p3⟩ := hm.row g R q1
    exact .pt a c g len n lo ⟨R', p1, by omega, fun e hl => by rw [p3 (by omega)]; exact q3 (by omega) hl⟩
  | pr g len n i j b h =>
    obtain ⟨R, q1, q2, q3⟩ := h
    obtain ⟨R', p1, p2, p3⟩ := hm.row g R q1
    exact .pr g len n i j b ⟨R', p1, by omega, fun e => by rw [p3 (by omega), q3 (by omega)]⟩
  | ag cs l hn hr ih => exact .ag cs l hn ih
  | tu cs l hn hr ih => exact .tu cs l hn ih
  | fn f cs l hn hr ih => exact .fn f cs l hn ih

def RelL (m : Mp) (Im : Nat → Nat → Prop) (w : World) : List Value → List D → Prop
  | [], [] => True
  | x :: xs, d :: ds => Rel m Im w x d ∧ RelL m Im w xs ds
  | _, _ => False
section
variable {m m' : Mp} {Im Im' : Nat → Nat → Prop} {w w' : World}
theorem relL_iff : ∀ {xs : List Value} {ds : List D}, RelL m Im w xs ds ↔ xs.length = ds.length ∧ ∀ i (h : i < ds.length), Rel m Im w (xs.getD i undef) ds[i]
  | [], [] => by simp [RelL]
  | [], _ :: _ => by simp [RelL]
  | _ :: _, [] => by simp [RelL]
  | x :: xs, d :: ds => by
    simp only [RelL, relL_iff (xs := xs) (ds := ds), List.length_cons]
    constructor
    · rintro ⟨h1, h2, h3⟩
      refine ⟨by omega, fun i h => ?_⟩
      cases i with
      | zero => exact h1
      | succ i => exact h3 i (by omega)
    · rintro ⟨h1, h2⟩
      exact ⟨h2 0 (by omega), by omega, fun i h => h2 (i + 1) (by omega)⟩
theorem RelL.mono (hm : m.le m') (hk : KeepI Im w w') (hi : ∀ b o, Im b o → Im' b o) {xs : List Value} {ds : List D} (h : RelL m Im w xs ds) : RelL m' Im' w' xs ds := by
  rw [relL_iff] at h ⊢
  exact ⟨h.1, fun i hl => (h.2 i hl).mono hm hk hi⟩
theorem rel_v {x : Value} {y : Value} : Rel m Im w x (.v y) ↔ x = y := ⟨fun h => by cases h; rfl, fun h => h ▸ .v x⟩
theorem rel_ag {x : Value} {l : List D} : Rel m Im w x (.ag l) ↔ ∃ cs, x = .agg cs.toArray ∧ RelL m Im w cs l :=
  ⟨fun h => by cases h with | ag cs l hn hr => exact ⟨cs, rfl, relL_iff.2 ⟨hn, hr⟩⟩, fun ⟨cs, e, h⟩ => e ▸ .ag cs l (relL_iff.1 h).1 (relL_iff.1 h).2⟩
theorem rel_tu {x : Value} {l : List D} : Rel m Im w x (.tu l) ↔ ∃ cs, x = .tuple cs.toArray ∧ RelL m Im w cs l :=
  ⟨fun h => by cases h with | tu cs l hn hr => exact ⟨cs, rfl, relL_iff.2 ⟨hn, hr⟩⟩, fun ⟨cs, e, h⟩ => e ▸ .tu cs l (relL_iff.1 h).1 (relL_iff.1 h).2⟩
theorem rel_fn {x : Value} {f : FuncId} {l : List D} : Rel m Im w x (.fn f l) ↔ ∃ cs, x = .func (.func f) #[] cs.toArray ∧ RelL m Im w cs l :=
  ⟨fun h => by cases h with | fn f cs l hn hr => exact ⟨cs, rfl, relL_iff.2 ⟨hn, hr⟩⟩, fun ⟨cs, e, h⟩ => e ▸ .fn f cs l (relL_iff.1 h).1 (relL_iff.1 h).2⟩
end

/-! names and rows of some kind -/
mutual
def D.ok (f g : Nat → Bool) : D → Bool
  | .v _ => true
  | .sl _ l r => D.okss f g l && (match r with | none => true | some r => g r)
  | .p k _ => f k
  | .q l => D.oks f g l
  | .ag l => D.oks f g l
  | .tu l => D.oks f g l
  | .fn _ l => D.oks f g l
  | .rw _ _ _ => true
  | .o k => f k
  | .mo k => f k
  | .mp l => D.okm f g l
  | .ob _ => true
  | .j _ _ => true
  | .cl _ l => D.okss f g l
  | .rp _ _ l => D.okss f g l
  | .ps r _ => g r
  | .pr r _ _ _ _ => g r
  | .pt r _ _ _ => g r
  | .mq _ _ _ l => D.okm f g l
  | .it k _ _ _ _ _ => f k
def D.oks (f g : Nat → Bool) : List D → Bool
  | [] => true
  | d :: l => D.ok f g d && D.oks f g l
def D.okss (f g : Nat → Bool) : List (List D) → Bool
  | [] => true
  | d :: l => D.oks f g d && D.okss f g l
def D.okm (f g : Nat → Bool) : List (Int × D) → Bool
  | [] => true
  | (_, d) :: l => D.ok f g d && D.okm f g l
end
theorem D.oks_get {f g : Nat → Bool} : ∀ {l : List D}, D.oks f g l = true → ∀ i (h : i < l.length), l[i].ok f g = true
  | [], _, i, h => absurd h (by simp)
  | d :: l, h, i, hi => by
    simp only [D.oks, Bool.and_eq_true] at h
    cases i with
    | zero => exact h.1
    | succ i => exact D.oks_get h.2 i (by simpa using hi)
theorem D.okss_get {f g : Nat → Bool} : ∀ {l : List (List D)}, D.okss f g l = true → ∀ i (h : i < l.length), D.oks f g l[i] = true
  | [], _, i, h => absurd h (by simp)
  | d :: l, h, i, hi => by
    simp only [D.okss, Bool.and_eq_true] at h
    cases i with
    | zero => exact h.1
    | succ i => exact D.okss_get h.2 i (by simpa using hi)
theorem D.okss_map {f g : Nat → Bool} {α : Type} (e : α → List D) (l : List α) (h : ∀ x ∈ l, D.oks f g (e x) = true) : D.okss f g (l.map e) = true := by
  induction l with
  | nil => rfl
  | cons x l ih => simp only [List.map_cons, D.okss, Bool.and_eq_true]; exact ⟨h x (by simp), ih fun y hy => h y (by simp [hy])⟩
theorem Rel.cut {m : Mp} {Im : Nat → Nat → Prop} {w : World} {x : Value} {d : D} {f g : Nat → Bool} (h : Rel m Im w x d) (hd : d.ok f g = true) : Rel (m.cut f g) Im w x d := by
  induction h with
  | v x => exact .v x
  | p k off b h => exact .p k off b (by simp only [D.ok] at hd; simp only [Mp.cut, hd, if_true]; exact h)
  | o k b h => exact .o k b (by simp only [D.ok] at hd; simp only [Mp.cut, hd, if_true]; exact h)
  | mo k b h => exact .mo k b (by simp only [D.ok] at hd; simp only [Mp.cut, hd, if_true]; exact h)
  | q bl off X l h hr ih => simp only [D.ok] at hd; exact .q bl off X l h fun i hi => ih i hi (D.oks_get hd i hi)
  | sl a c bl off n X l r h1 ha hc hn ho hr hg ih =>
    simp only [D.ok, Bool.and_eq_true] at hd
    refine .sl a c bl off n X l r h1 ha hc hn ho (fun i hi j hj => ih i hi j hj (D.oks_get (D.okss_get hd.1 i hi) j hj)) fun r' e => ?_
    obtain ⟨R, q1, q2⟩ := hg r' e
    subst e
    have hr := hd.2
    simp only at hr
    exact ⟨R, by simp only [Mp.cut, hr, if_true]; exact q1, q2⟩
  | cl a n l h ih => exact .cl a n l (ih (by simp only [D.ok] at hd ⊢; simp [hd]))
  | pt a c r len n lo h =>
    simp only [D.ok] at hd
    obtain ⟨R, q1, q2⟩ := h
    exact .pt a c r len n lo ⟨R, by simp only [Mp.cut, hd, if_true]; exact q1, q2⟩
  | ps a c r len ha hc h =>
    simp only [D.ok] at hd
    obtain ⟨R, q1, q2⟩ := h
    exact .ps a c r len ha hc ⟨R, by simp only [Mp.cut, hd, if_true]; exact q1, q2⟩
  | pr r len n i j b h =>
    simp only [D.ok] at hd
    obtain ⟨R, q1, q2⟩ := h
    exact .pr r len n i j b ⟨R, by simp only [Mp.cut, hd, if_true]; exact q1, q2⟩
  | ag cs l hn hr ih => simp only [D.ok] at hd; exact .ag cs l hn fun i hi => ih i hi (D.oks_get hd i hi)
  | tu cs l hn hr ih => simp only [D.ok] at hd; exact .tu cs l hn fun i hi => ih i hi (D.oks_get hd i hi)
  | fn f cs l hn hr ih => simp only [D.ok] at hd; exact .fn f cs l hn fun i hi => ih i hi (D.oks_get hd i hi)

theorem D.okm_get {f g : Nat → Bool} : ∀ {l : List (Int × D)}, D.okm f g l = true → ∀ i (h : i < l.length), l[i].2.ok f g = true
  | [], _, i, h => absurd h (by simp)
  | (_, d) :: l, h, i, hi => by
    simp only [D.okm, Bool.and_eq_true] at h
    cases i with
    | zero => exact h.1
    | succ i => exact D.okm_get h.2 i (by simpa using hi)
def D.un1 : D → D
  | .sl n l _ => .sl n l none
  | d => d
theorem Rel.un1 {m : Mp} {Im : Nat → Nat → Prop} {w : World} {x : Value} {d : D} (h : Rel m Im w x d) : Rel m Im w x d.un1 := by
  cases h with
  | sl a c bl off n X l g h1 ha hc hn ho hr hg => exact .sl a c bl off n X l none h1 ha hc hn ho hr fun r e => by cases e
  | v x => exact .v x
  | cl a n l h => exact .cl a n l h
  | ps a c g len ha hc h => exact .ps a c g len ha hc h
  | pt a c g len n lo h => exact .pt a c g len n lo h
  | pr g len n i j b h => exact .pr g len n i j b h
  | p k off b h => exact .p k off b h
  | o k b h => exact .o k b h
  | mo k b h => exact .mo k b h
  | q bl off X l h hr => exact .q bl off X l h hr
  | ag cs l hn hr => exact .ag cs l hn hr
  | tu cs l hn hr => exact .tu cs l hn hr
  | fn f cs l hn hr => exact .fn f cs l hn hr
def VLe (d e : D) : Prop := ∀ (m : Mp) (Im : Nat → Nat → Prop) (w : World) (x : Value), Rel m Im w x d → Rel m Im w x e
def VLeL (l r : List D) : Prop := l.length = r.length ∧ ∀ i (h : i < l.length) (h' : i < r.length), VLe l[i] r[i]
@[refl, simp] theorem VLe.refl (d : D) : VLe d d := fun _ _ _ _ h => h
theorem VLe.of_eq {d e : D} (h : d = e) : VLe d e := h ▸ VLe.refl d
theorem VLe.trans {a b c : D} (h : VLe a b) (h' : VLe b c) : VLe a c := fun m Im w x hx => h' m Im w x (h m Im w x hx)
theorem VLe.untag (n : Nat) (l : List (List D)) (g : Option Nat) : VLe (.sl n l g) (.sl n l none) := fun _ _ _ _ h => h.un1
theorem VLe.nil (n : Nat) : VLe (.v (.slice none 0 0)) (.sl n [] none) := fun m Im w x h => by
  have := rel_v.1 h; subst this
  exact .sl none 0 0 0 n (fun _ _ => undef) [] none (by decide) (fun h => absurd h (by simp)) (fun _ _ h => absurd h (by simp)) (fun _ h => absurd h (by simp)) (fun _ _ h => absurd h (by simp)) (fun _ h => absurd h (by simp)) fun _ e => by cases e
theorem VLeL.nil : VLeL [] [] := ⟨rfl, fun _ h => absurd h (by simp)⟩
theorem VLeL.cons {d e : D} {l r : List D} (h : VLe d e) (h' : VLeL l r) : VLeL (d :: l) (e :: r) := ⟨by simp [h'.1], fun i hi hi' => by
  cases i with
  | zero => exact h
  | succ i => exact h'.2 i (by simpa using hi) (by simpa using hi')⟩
theorem VLeL.refl (l : List D) : VLeL l l := ⟨rfl, fun _ _ _ => VLe.refl _⟩
theorem VLe.ag {l r : List D} (h : VLeL l r) : VLe (.ag l) (.ag r) := fun m Im w x hx => by
  cases hx with
  | ag cs l hn hr => exact .ag cs r (hn.trans h.1) fun i hi => h.2 i (by rw [h.1]; exact hi) hi m Im w _ (hr i (by rw [h.1]; exact hi))
theorem VLe.tu {l r : List D} (h : VLeL l r) : VLe (.tu l) (.tu r) := fun m Im w x hx => by
  cases hx with
  | tu cs l hn hr => exact .tu cs r (hn.trans h.1) fun i hi => h.2 i (by rw [h.1]; exact hi) hi m Im w _ (hr i (by rw [h.1]; exact hi))

/-! keys -/
inductive Key where
  | t (x : Nat)
  | c (k off : Nat)
  | r (g : Nat)
  | o (k : Nat)
  | j
def Key.eq : Key → Key → Bool
  | .t x, .t y => Nat.beq x y
  | .c x z, .c y u => Nat.beq x y && Nat.beq z u
  | .r x, .r y => Nat.beq x y
  | .o x, .o y => Nat.beq x y
  | .j, .j => true
  | _, _ => false
theorem Key.eq_iff {a b : Key} : Key.eq a b = true ↔ a = b := by cases a <;> cases b <;> simp [Key.eq]
theorem Key.eq_refl (a : Key) : Key.eq a a = true := Key.eq_iff.2 rfl
def get : List (Key × D) → Key → Option D
  | [], _ => none
  | (k', d) :: r, k => if Key.eq k' k then some d else get r k
def put1 (k : Key) (d : D) (σ : List (Key × D)) : List (Key × D) := (k, d) :: σ
theorem get_put1 (k : Key) (d : D) (σ : List (Key × D)) (k' : Key) : get (put1 k d σ) k' = if Key.eq k k' then some d else get σ k' := rfl
def puts (σ : List (Key × D)) : List (Key × D) → List (Key × D)
  | [] => σ
  | (k, d) :: r => puts (put1 k d σ) r
theorem get_puts_not : ∀ (W : List (Key × D)) (σ : List (Key × D)) (k : Key), (∀ p ∈ W, p.1 ≠ k) → get (puts σ W) k = get σ k
  | [], _, _, _ => rfl
  | (k1, d1) :: W, σ, k, h => by
    rw [puts, get_puts_not W _ _ (fun p hp => h p (by simp [hp])), get_put1, if_neg]
    rw [Key.eq_iff]; exact h (k1, d1) (by simp)
theorem get_puts_in : ∀ (W : List (Key × D)) (σ σ' : List (Key × D)) (k : Key), (∃ p ∈ W, p.1 = k) → get (puts σ W) k = get (puts σ' W) k
  | [], _, _, _, h => by obtain ⟨p, hp, _⟩ := h; cases hp
  | (k1, d1) :: W, σ, σ', k, h => by
    rw [puts, puts]
    by_cases hW : ∃ p ∈ W, p.1 = k
    · exact get_puts_in W _ _ k hW
    · have hW' : ∀ p ∈ W, p.1 ≠ k := fun p hp e => hW ⟨p, hp, e⟩
      obtain ⟨p, hp, e⟩ := h
      rcases List.mem_cons.1 hp with rfl | hp
      · rw [get_puts_not W _ _ hW', get_puts_not W _ _ hW', get_put1, get_put1]; simp only at e; rw [if_pos (Key.eq_iff.2 e), if_pos (Key.eq_iff.2 e)]
      · exact absurd e (hW' p hp)
theorem get_puts_congr (W : List (Key × D)) (σ σ' : List (Key × D)) (k : Key) (h : get σ k = get σ' k) : get (puts σ W) k = get (puts σ' W) k := by
  by_cases hW : ∃ p ∈ W, p.1 = k
  · exact get_puts_in W _ _ k hW
  · have hW' : ∀ p ∈ W, p.1 ≠ k := fun p hp e => hW ⟨p, hp, e⟩
    rw [get_puts_not W _ _ hW', get_puts_not W _ _ hW', h]
end Go.Proofs.Ytcblpjheoclkeaa

namespace Go.Proofs.Ytcblpjheoclkeaa
open Go.RowKit

structure Cx where
  w0 : World
  C : Nat → Prop
  Im0 : Nat → Nat → Prop
  m0 : Mp
  nt : Nat
  n0 : Nat
  h0 : ∀ k b, m0.blk k = some b → k < n0
  h0o : ∀ k b, m0.obj k = some b → k < n0
  CR : Nat → Prop := fun _ => False
  hCR : ∀ b, CR b → C b := by exact fun _ h => h.elim
  h0r : ∀ g R, m0.row g = some R → g < n0 := by exact fun g R h => by cases h

structure MemOk (cx : Cx) (Fr : Nat → Prop) (m : Mp) (Im : Nat → Nat → Prop) (w : World) : Prop where
  off : Off cx.C cx.w0 w
  im : ∀ b o, Im b o → ∃ v, w.cell? ⟨b, o, none⟩ = some v
  imb : ∀ b o, Im b o → cx.Im0 b o ∨ cx.w0.heap.size ≤ b ∨ cx.CR b
  im0 : ∀ b o, cx.Im0 b o → Im b o
  own : ∀ k b, m.blk k = some b → cx.C b ∨ cx.w0.heap.size ≤ b
  lt : ∀ k b, m.blk k = some b → b < w.heap.size
  free : ∀ k b o, m.blk k = some b → w.frozen? ⟨b, o, none⟩ = false
  nim : ∀ k b o, m.blk k = some b → ¬ Im b o
  inj : ∀ k k' b, m.blk k = some b → m.blk k' = some b → k = k'
  row : ∀ g R, m.row g = some R → ∃ xs, w.ownsRow 0 R.E R.n R.hv R.len xs
  rIm : ∀ g R b o, m.row g = some R → R.hv.ownBlock = some b → Im b o → o < R.len * R.n
  rblk : ∀ g R b k, m.row g = some R → R.hv.ownBlock = some b → m.blk k ≠ some b
  rinj : ∀ g g' R R' b, m.row g = some R → m.row g' = some R' → R.hv.ownBlock = some b → R'.hv.ownBlock = some b → g = g'
  fr : ∀ k, Fr k → m.blk k = none ∧ m.row k = none ∧ m.obj k = none
  m0 : ∀ k b, cx.m0.blk k = some b → m.blk k = some b
  m0o : ∀ k b, cx.m0.obj k = some b → m.obj k = some b
  oown : ∀ k b, m.obj k = some b → cx.C b ∨ cx.w0.heap.size ≤ b
  olt : ∀ k b, m.obj k = some b → b < w.heap.size
  onim : ∀ k b o, m.obj k = some b → ¬ Im b o
  oinj : ∀ k k' b, m.obj k = some b → m.obj k' = some b → k = k'
  oblk : ∀ k k' b, m.obj k = some b → m.blk k' ≠ some b
  orow : ∀ k g R b, m.obj k = some b → m.row g = some R → R.hv.ownBlock ≠ some b
  dis : ∀ k b, m.blk k = some b → m.obj k = none
  k0 : KeepI cx.Im0 cx.w0 w
  rown : ∀ g R b, m.row g = some R → R.hv.ownBlock = some b → cx.w0.heap.size ≤ b ∨ cx.CR b
  m0r : ∀ g R, cx.m0.row g = some R → ∃ R', m.row g = some R' ∧ R.len ≤ R'.len ∧ (R'.len = R.len → R'.hv = R.hv)

structure XOk (cx : Cx) (m : Mp) (Im : Nat → Nat → Prop) (w : World) (X : Nat → Prop) (J : World → Prop) : Prop where
  holds : J w
  stable : ∀ w', w.heap.size ≤ w'.heap.size → (∀ b, X b → w'.heap[b]? = w.heap[b]?) → J w'
  lt : ∀ b, X b → b < w.heap.size
  own : ∀ b, X b → cx.C b ∨ cx.w0.heap.size ≤ b
  nim : ∀ b o, X b → ¬ Im b o
  blk : ∀ b k, X b → m.blk k ≠ some b
  row : ∀ b g R, X b → m.row g = some R → R.hv.ownBlock ≠ some b
  obj : ∀ b k, X b → m.obj k ≠ some b

def BornOk (es : Array MapEntry) (clock : Nat) : Prop := (es.toList.map (·.born)).Nodup ∧ ∀ e ∈ es.toList, e.born < clock
inductive ObOk (m : Mp) (Im : Nat → Nat → Prop) (w : World) (b : Nat) : D → Prop where
  | mp (es : Array MapEntry) (clock : Nat) (l : List (Int × D)) (hb : w.heap[b]? = some (.map es clock)) (hl : es.size = l.length) (hk : ∀ i (h : i < l.length), (es[i]?).map (·.key) = some (.int .i64 l[i].1))
      (hv : ∀ i (h : i < l.length) v, (es[i]?).map (·.val) = some v → Rel m Im w v l[i].2) (hbn : BornOk es clock) : ObOk m Im w b (.mp l)
  | mq (es : Array MapEntry) (clock : Nat) (l : List (Int × D)) (hb : w.heap[b]? = some (.map es clock)) (hl : es.size = l.length) (hk : ∀ i (h : i < l.length), (es[i]?).map (·.key) = some (.int .i64 l[i].1))
      (hv : ∀ i (h : i < l.length) v, (es[i]?).map (·.val) = some v → Rel m Im w v l[i].2) (hbn : BornOk es clock) : ObOk m Im w b (.mq b es clock l)
  | it (k bm : Nat) (es : Array MapEntry) (clock : Nat) (rem : List Nat) (last : Option Nat) (seen : Array Nat) (hm : m.obj k = some bm) (hb : w.heap[b]? = some (.mapIter (some bm) clock seen clock)) (hn : rem.Nodup) (hr : ∀ i e, es[i]? = some e → (i ∈ rem ↔ seen.contains e.born = false))
      (hi : ∀ i ∈ rem, i < es.size) (hl : ∀ i, last = some i → ∃ (e : MapEntry) (s0 : Array Nat), es[i]? = some e ∧ seen = s0.push e.born) : ObOk m Im w b (.it k bm es clock rem last)
  | ob (J : Nat → World → Prop) (h : J b w) (hs : ∀ w', w'.heap[b]? = w.heap[b]? → J b w') : ObOk m Im w b (.ob J)
theorem ObOk.mono {m m' : Mp} {Im Im' : Nat → Nat → Prop} {w w' : World} {b : Nat} {d : D} (h : ObOk m Im w b d) (hb : w'.heap[b]? = w.heap[b]?) (hm : m.le m') (hk : KeepI Im w w') (hi : ∀ b o, Im b o → Im' b o) : ObOk m' Im' w' b d := by
  cases h with
  | mp es clock l h1 h2 h3 h4 h5 => exact .mp es clock l (hb.trans h1) h2 h3 (fun i h v hv => (h4 i h v hv).mono hm hk hi) h5
  | mq es clock l h1 h2 h3 h4 h5 => exact .mq es clock l (hb.trans h1) h2 h3 (fun i h v hv => (h4 i h v hv).mono hm hk hi) h5
  | it k bm es clock rem last seen h1 h2 h3 h4 h5 h6 => exact .it k bm es clock rem last seen (hm.obj k bm h1) (hb.trans h2) h3 h4 h5 h6
  | ob J h hs => exact .ob J (hs w' hb) fun w2 h2 => hs w2 (h2.trans hb)
section
variable {w w' : World}
theorem ownsRow_same {base E n len : Nat} {v : Value} {xs : List Value} (h : w.ownsRow base E n v len xs) (hs : ∀ b, v.ownBlock = some b → w'.heap[b]? = w.heap[b]?) : w'.ownsRow base E n v len xs := by
  refine ⟨h.1, ?_⟩
  rcases h.2 with h0 | ⟨g', cap, cur, e, h1, h2, h3⟩
  · exact .inl h0
  · refine .inr ⟨g', cap, cur, e, h1, ?_, h3⟩
    rw [hs g' (by rw [e]; rfl)]; exact h2
inductive RoOk (m : Mp) (Im : Nat → Nat → Prop) (w : World) (R : RowM) : D → Prop where
  | rw : RoOk m Im w R (.rw R.E R.n R.len)
  | rp (l : List (List D)) (xs : List Value) (hl : l.length = R.len) (hn : ∀ i (h : i < l.length), l[i].length = R.n) (hx : w.ownsRow 0 R.E R.n R.hv R.len xs) (h1 : ∀ u ∈ xs, u.oneCell' = true)
      (hr : ∀ i (h : i < l.length) j (h' : j < l[i].length), Rel m Im w (xs.getD (i * R.n + j) undef) l[i][j]) (hni : ∀ b o, R.hv.ownBlock = some b → ¬ Im b o) : RoOk m Im w R (.rp R.E R.n l)
theorem RoOk.mono {m m' : Mp} {Im Im' : Nat → Nat → Prop} {R : RowM} {d : D} (h : RoOk m Im w R d) (hw : ∀ b, R.hv.ownBlock = some b → w'.heap[b]? = w.heap[b]?) (hm : m.le m') (hk : KeepI Im w w') (hi : ∀ b o, Im b o → Im' b o) (hni : ∀ b o, R.hv.ownBlock = some b → Im' b o → Im b o) : RoOk m' Im' w' R d := by
  cases h with
  | rw => exact .rw
  | rp l xs hl hn hx h1 hr h2 => exact .rp l xs hl hn (ownsRow_same hx hw) h1 (fun i h j h' => (hr i h j h').mono hm hk hi) fun b o ho hh => h2 b o ho (hni b o ho hh)
theorem RoOk.rwi {m : Mp} {Im : Nat → Nat → Prop} {R : RowM} {E n len : Nat} (h : RoOk m Im w R (.rw E n len)) : D.rw E n len = .rw R.E R.n R.len := by
  cases h; rfl
theorem RoOk.cut {m : Mp} {Im : Nat → Nat → Prop} {R : RowM} {d : D} {f g : Nat → Bool} (h : RoOk m Im w R d) (hd : d.ok f g = true) : RoOk (m.cut f g) Im w R d := by
  cases h with
  | rw => exact .rw
  | rp l xs hl hn hx h1 hr h2 =>
    simp only [D.ok] at hd
    exact .rp l xs hl hn hx h1 (fun i h j h' => (hr i h j h').cut (D.oks_get (D.okss_get hd i h) j h')) h2
end
structure St (cx : Cx) (Fr : Nat → Prop) (m : Mp) (Im : Nat → Nat → Prop) (w : World) (a : Act) (σ : List (Key × D)) : Prop where
  mem : MemOk cx Fr m Im w
  df : a.defers = []
  nt : a.tmps.size = cx.nt
  tm : ∀ x d, get σ (.t x) = some d → Rel m Im w (a.tmps.getD x undef) d
  ce : ∀ k off d, get σ (.c k off) = some d → ∃ b v, m.blk k = some b ∧ w.cell? ⟨b, off, none⟩ = some v ∧ Rel m Im w v d
  ro : ∀ g d, get σ (.r g) = some d → ∃ R, m.row g = some R ∧ RoOk m Im w R d
  jk : ∀ d, get σ .j = some d → ∃ X J, d = .j X J ∧ XOk cx m Im w X J
  ok : ∀ k d, get σ (.o k) = some d → ∃ b, m.obj k = some b ∧ ObOk m Im w b d

section
variable {cx : Cx} {Fr Fr' : Nat → Prop} {m m' : Mp} {Im Im' : Nat → Nat → Prop} {w w' : World} {a : Act} {σ σ' : List (Key × D)}
theorem ltOfCell {b o : Nat} {v : Value} (h : w.cell? ⟨b, o, none⟩ = some v) : b < w.heap.size := Keep.lt h

theorem KeepI.below (hb : Below w.heap.size w w') : KeepI Im w w' := fun b o v _ hv => (hb.cell (p := ⟨b, o, none⟩) (ltOfCell hv)).trans hv
theorem row_lt {base e size n : Nat} {v : Value} {xs : List Value} (h : w.ownsRow base e size v n xs) {b : Nat} (hb : v.ownBlock = some b) : base ≤ b ∧ b < w.heap.size := h.lt b hb

theorem MemOk.rlt (h : MemOk cx Fr m Im w) {g : Nat} {R : RowM} {b : Nat} (hg : m.row g = some R) (ho : R.hv.ownBlock = some b) : b < w.heap.size := by
  obtain ⟨xs, hx⟩ := h.row g R hg
  exact (row_lt hx ho).2
theorem MemOk.m0r_le (h : MemOk cx Fr m Im w) (hle : m.le m') : ∀ g R, cx.m0.row g = some R → ∃ R', m'.row g = some R' ∧ R.len ≤ R'.len ∧ (R'.len = R.len → R'.hv = R.hv) := fun g R hg => by
  obtain ⟨R1, h1, h2, h3⟩ := h.m0r g R hg
  obtain ⟨R2, g1, g2, g3⟩ := hle.row g R1 h1
  refine ⟨R2, g1, by omega, fun e => ?_⟩
  have e1 : R1.len = R.len := by omega
  rw [g3 (by omega), h3 e1]
theorem MemOk.below (h : MemOk cx Fr m Im w) (hb : Below w.heap.size w w') (hi : ∀ b o, Im b o → Im' b o) (hib : ∀ b o, Im' b o → Im b o ∨ w.heap.size ≤ b) (hex : ∀ b o, Im' b o → ∃ v, w'.cell? ⟨b, o, none⟩ = some v) : MemOk cx Fr m Im' w' where
  off := h.off.below hb
  im := hex
  imb b o hh := by
    rcases hib b o hh with h1 | h1
    · exact h.imb b o h1
    · exact .inr (.inl (Nat.le_trans h.off.size h1))
  im0 b o hh := hi b o (h.im0 b o hh)
  own := h.own
  lt k b hk := Nat.lt_of_lt_of_le (h.lt k b hk) hb.size
  free k b o hk := (World.frozen?_of_block (a := ⟨b, o, none⟩) (hb.block b (h.lt k b hk))).trans (h.free k b o hk)
  nim k b o hk hh := by
    rcases hib b o hh with h1 | h1
    · exact h.nim k b o hk h1
    · have := h.lt k b hk; omega
  inj := h.inj
  row g R hg := by
    obtain ⟨xs, hx⟩ := h.row g R hg
    exact ⟨xs, ownsRow_below hx hb⟩
  rIm g R b o hg hob hh := by
    rcases hib b o hh with h1 | h1
    · exact h.rIm g R b o hg hob h1
    · obtain ⟨xs, hx⟩ := h.row g R hg
      have := (row_lt hx hob).2; omega
  rblk := h.rblk
  rinj := h.rinj
  fr := h.fr
  m0 := h.m0
  m0o := h.m0o
  oown := h.oown
  olt k b hk := Nat.lt_of_lt_of_le (h.olt k b hk) hb.size
  onim k b o hk hh := by
    rcases hib b o hh with h1 | h1
    · exact h.onim k b o hk h1
    · have := h.olt k b hk; omega
  oinj := h.oinj
  oblk := h.oblk
  orow := h.orow
  dis := h.dis
  k0 := h.k0.trans (KeepI.below hb)
  rown := h.rown
  m0r := h.m0r
theorem XOk.below {X : Nat → Prop} {J : World → Prop} (h : XOk cx m Im w X J) (hb : Below w.heap.size w w') (hib : ∀ b o, Im' b o → Im b o ∨ w.heap.size ≤ b) : XOk cx m Im' w' X J where
  holds := h.stable w' hb.size fun b hx => hb.block b (h.lt b hx)
  stable w2 hs hx := h.stable w2 (Nat.le_trans hb.size hs) fun b hb2 => (hx b hb2).trans (hb.block b (h.lt b hb2))
  lt b hx := Nat.lt_of_lt_of_le (h.lt b hx) hb.size
  own := h.own
  nim b o hx hh := by
    rcases hib b o hh with h1 | h1
    · exact h.nim b o hx h1
    · have := h.lt b hx; omega
  blk := h.blk
  row := h.row
  obj := h.obj
theorem St.below (h : St cx Fr m Im w a σ) (hb : Below w.heap.size w w') (hi : ∀ b o, Im b o → Im' b o) (hib : ∀ b o, Im' b o → Im b o ∨ w.heap.size ≤ b) (hex : ∀ b o, Im' b o → ∃ v, w'.cell? ⟨b, o, none⟩ = some v) : St cx Fr m Im' w' a σ where
  mem := h.mem.below hb hi hib hex
  df := h.df
  nt := h.nt
  tm x d hx := (h.tm x d hx).mono (Mp.le.refl m) (KeepI.below hb) hi
  ce k off d hx := by
    obtain ⟨b, v, h1, h2, h3⟩ := h.ce k off d hx
    exact ⟨b, v, h1, (hb.cell (p := ⟨b, off, none⟩) (ltOfCell h2)).trans h2, h3.mono (Mp.le.refl m) (KeepI.below hb) hi⟩
  ro g d hx := by
    obtain ⟨R, h1, h2⟩ := h.ro g d hx
    exact ⟨R, h1, h2.mono (fun b ho => hb.block b (h.mem.rlt h1 ho)) (Mp.le.refl m) (KeepI.below hb) hi fun b o ho hh => (hib b o hh).elim id fun h2 => absurd (h.mem.rlt h1 ho) (Nat.not_lt.2 h2)⟩
  jk d hd := by
    obtain ⟨X, J, e, h1⟩ := h.jk d hd
    exact ⟨X, J, e, h1.below hb hib⟩
  ok k d hd := by
    obtain ⟨b, h1, h2⟩ := h.ok k d hd
    exact ⟨b, h1, h2.mono (hb.block b (h.mem.olt k b h1)) (Mp.le.refl m) (KeepI.below hb) hi⟩
theorem St.below0 (h : St cx Fr m Im w a σ) (hb : Below w.heap.size w w') : St cx Fr m Im w' a σ :=
  h.below hb (fun _ _ h => h) (fun _ _ h => .inl h) (fun b o hh => by
    obtain ⟨v, hv⟩ := h.mem.im b o hh
    exact ⟨v, (hb.cell (p := ⟨b, o, none⟩) (ltOfCell hv)).trans hv⟩)

theorem St.put (h : St cx Fr m Im w a σ) {dst : Tmp} {v : Value} {d : D} (hl : dst < cx.nt) (hr : Rel m Im w v d) : St cx Fr m Im w (a.put (some dst) v) (put1 (.t dst) d σ) where
  mem := h.mem
  df := h.df
  nt := by show (a.tmps.setIfInBounds dst v).size = _; simpa using h.nt
  tm x d' hx := by
    rw [get_put1] at hx
    show Rel m Im w ((a.tmps.setIfInBounds dst v).getD x undef) d'
    by_cases he : Key.eq (.t dst) (.t x) = true
    · rw [if_pos he] at hx
      cases hx
      have := Key.eq_iff.1 he
      cases this
      have hl' : dst < a.tmps.size := by rw [h.nt]; exact hl
      simpa [hl'] using hr
    · rw [if_neg he] at hx
      have hne : dst ≠ x := fun e => he (by subst e; exact Key.eq_refl _)
      have := h.tm x d' hx
      rw [Array.getD_eq_getD_getElem?] at this ⊢
      rw [Array.getElem?_setIfInBounds_ne hne]
      exact this
  ce k off d' hx := by rw [get_put1, if_neg (by simp [Key.eq])] at hx; exact h.ce k off d' hx
  ro g d' hx := by rw [get_put1, if_neg (by simp [Key.eq])] at hx; exact h.ro g d' hx
  jk d' hx := by rw [get_put1, if_neg (by simp [Key.eq])] at hx; exact h.jk d' hx
  ok k d' hx := by rw [get_put1, if_neg (by simp [Key.eq])] at hx; exact h.ok k d' hx

theorem St.sub (h : St cx Fr m Im w a σ) (hs : ∀ k d, get σ' k = some d → get σ k = some d) : St cx Fr m Im w a σ' where
  mem := h.mem
  df := h.df
  nt := h.nt
  tm x d hx := h.tm x d (hs _ _ hx)
  ce k off d hx := h.ce k off d (hs _ _ hx)
  ro g d hx := h.ro g d (hs _ _ hx)
  jk d hx := h.jk d (hs _ _ hx)
  ok k d hx := h.ok k d (hs _ _ hx)
theorem St.putc (h : St cx Fr m Im w a σ) {k off b : Nat} {v : Value} {d : D} (hb : m.blk k = some b) (hv : w.cell? ⟨b, off, none⟩ = some v) (hr : Rel m Im w v d) : St cx Fr m Im w a (put1 (.c k off) d σ) where
  mem := h.mem
  df := h.df
  nt := h.nt
  tm x d' hx := by rw [get_put1, if_neg (by simp [Key.eq])] at hx; exact h.tm x d' hx
  ce k' off' d' hx := by
    rw [get_put1] at hx
    by_cases he : Key.eq (.c k off) (.c k' off') = true
    · rw [if_pos he] at hx
      cases hx
      have := Key.eq_iff.1 he
      cases this
      exact ⟨b, v, hb, hv, hr⟩
    · rw [if_neg he] at hx
      exact h.ce k' off' d' hx
  ro g d' hx := by rw [get_put1, if_neg (by simp [Key.eq])] at hx; exact h.ro g d' hx
  jk d' hx := by rw [get_put1, if_neg (by simp [Key.eq])] at hx; exact h.jk d' hx
  ok k d' hx := by rw [get_put1, if_neg (by simp [Key.eq])] at hx; exact h.ok k d' hx

def cellsOf (k : Nat) : Nat → List D → List (Key × D)
  | _, [] => []
  | o, d :: l => (.c k o, d) :: cellsOf k (o + 1) l
theorem St.putcs {k b : Nat} (hb : m.blk k = some b) : ∀ (ds : List D) (vs : List Value) (o : Nat) {σ : List (Key × D)}, St cx Fr m Im w a σ → RelL m Im w vs ds → (∀ i v, vs[i]? = some v → w.cell? ⟨b, o + i, none⟩ = some v) → St cx Fr m Im w a (puts σ (cellsOf k o ds))
  | [], _, _, _, h, _, _ => h
  | d :: ds, [], _, _, _, hr, _ => hr.elim
  | d :: ds, v :: vs, o, σ, h, hr, hc => by
    simp only [cellsOf, puts]
    refine St.putcs hb ds vs (o + 1) (h.putc hb (hc 0 v rfl) hr.1) hr.2 fun i u hu => ?_
    have := hc (i + 1) u (by simpa using hu)
    rw [show o + 1 + i = o + (i + 1) by omega]; exact this

def Mp.setB (m : Mp) (k b : Nat) : Mp := ⟨fun x => if x = k then some b else m.blk x, m.row, m.obj⟩
def Mp.setR (m : Mp) (g : Nat) (R : RowM) : Mp := ⟨m.blk, fun x => if x = g then some R else m.row x, m.obj⟩
def Mp.setO (m : Mp) (k b : Nat) : Mp := ⟨m.blk, m.row, fun x => if x = k then some b else m.obj x⟩
theorem Mp.setB_le {k b : Nat} (h : m.blk k = none) : m.le (m.setB k b) :=
  ⟨fun x c hx => by
    by_cases e : x = k
    · subst e; rw [h] at hx; cases hx
    · simp [Mp.setB, e, hx], fun g R hg => ⟨R, hg, Nat.le_refl _, fun _ => rfl⟩, fun _ _ h => h⟩
theorem Mp.setR_le {g : Nat} {R : RowM} (h : ∀ R0, m.row g = some R0 → R0.len ≤ R.len ∧ (R.len = R0.len → R.hv = R0.hv)) : m.le (m.setR g R) :=
  ⟨fun _ _ h => h, fun x R0 hx => by
    by_cases e : x = g
    · subst e; exact ⟨R, by simp [Mp.setR], h R0 hx⟩
    · exact ⟨R0, by simp [Mp.setR, e, hx], Nat.le_refl _, fun _ => rfl⟩, fun _ _ h => h⟩
theorem Mp.setO_le {k b : Nat} (h : m.obj k = none) : m.le (m.setO k b) :=
  ⟨fun _ _ h => h, fun g R hg => ⟨R, hg, Nat.le_refl _, fun _ => rfl⟩, fun x c hx => by
    by_cases e : x = k
    · subst e; rw [h] at hx; cases hx
    · simp [Mp.setO, e, hx]⟩
def minus (Fr : Nat → Prop) (k : Nat) : Nat → Prop := fun x => Fr x ∧ x ≠ k

theorem St.name (h : St cx Fr m Im w a σ) {k b : Nat} (hk : Fr k) (hB : cx.w0.heap.size ≤ b) (hlt : b < w.heap.size) (hfr : ∀ o, w.frozen? ⟨b, o, none⟩ = false) (hni : ∀ o, ¬ Im b o)
    (hnb : ∀ k, m.blk k ≠ some b) (hnr : ∀ g R, m.row g = some R → R.hv.ownBlock ≠ some b) (hnx : ∀ X J, get σ .j = some (.j X J) → ¬ X b) (hno : ∀ k, m.obj k ≠ some b) : St cx (minus Fr k) (m.setB k b) Im w a σ := by
  have hle : m.le (m.setB k b) := Mp.setB_le (h.mem.fr k hk).1
  have hcase : ∀ {x c}, (m.setB k b).blk x = some c → (x = k ∧ c = b) ∨ (x ≠ k ∧ m.blk x = some c) := fun {x c} hx => by
    by_cases e : x = k
    · left; simp [Mp.setB, e] at hx; exact ⟨e, hx.symm⟩
    · right; simp [Mp.setB, e] at hx; exact ⟨e, hx⟩
  refine ⟨{ h.mem with own := ?_, lt := ?_, free := ?_, nim := ?_, inj := ?_, rblk := ?_, fr := ?_, m0 := ?_, oblk := ?_, dis := ?_ }, h.df, h.nt, fun x d hx => (h.tm x d hx).mono hle (KeepI.refl _ _) (fun _ _ h => h), fun x off d hx => ?_, fun g d hx => (h.ro g d hx).imp fun R hR => ⟨hR.1, hR.2.mono (fun _ _ => rfl) hle (KeepI.refl _ _) (fun _ _ h => h) fun _ _ _ h => h⟩, fun d hd => ?_, fun x d hd => ?_⟩
  · intro x c hx; rcases hcase hx with ⟨_, rfl⟩ | ⟨_, hx⟩; exact .inr hB; exact h.mem.own x c hx
  · intro x c hx; rcases hcase hx with ⟨_, rfl⟩ | ⟨_, hx⟩; exact hlt; exact h.mem.lt x c hx
  · intro x c o hx; rcases hcase hx with ⟨_, rfl⟩ | ⟨_, hx⟩; exact hfr o; exact h.mem.free x c o hx
  · intro x c o hx; rcases hcase hx with ⟨_, rfl⟩ | ⟨_, hx⟩; exact hni o; exact h.mem.nim x c o hx
  · intro x y c hx hy
    rcases hcase hx with ⟨e1, e2⟩ | ⟨_, hx⟩ <;> rcases hcase hy with ⟨e3, e4⟩ | ⟨_, hy⟩
    · rw [e1, e3]
    · exact absurd (e2 ▸ hy) (hnb y)
    · exact absurd (e4 ▸ hx) (hnb x)
    · exact h.mem.inj x y c hx hy
  · intro g R c x hg ho hx
    rcases hcase hx with ⟨_, rfl⟩ | ⟨_, hx⟩
    · exact hnr g R hg ho
    · exact h.mem.rblk g R c x hg ho hx
  · intro x hx; refine ⟨?_, (h.mem.fr x hx.1).2⟩; simp [Mp.setB, hx.2, (h.mem.fr x hx.1).1]
  · intro x c hx; exact hle.blk x c (h.mem.m0 x c hx)
  · intro x y c hx hy
    rcases hcase hy with ⟨_, rfl⟩ | ⟨_, hy⟩
    · exact hno x hx
    · exact h.mem.oblk x y c hx hy
  · intro x c hx
    rcases hcase hx with ⟨rfl, _⟩ | ⟨_, hx⟩
    · exact (h.mem.fr x hk).2.2
    · exact h.mem.dis x c hx
  · obtain ⟨c, v, h1, h2, h3⟩ := h.ce x off d hx
    exact ⟨c, v, hle.blk x c h1, h2, h3.mono hle (KeepI.refl _ _) (fun _ _ h => h)⟩
  · obtain ⟨X, J, rfl, h1⟩ := h.jk d hd
    refine ⟨X, J, rfl, { h1 with blk := fun c x hc hx => ?_ }⟩
    rcases hcase hx with ⟨_, rfl⟩ | ⟨_, hx⟩
    · exact hnx X J hd hc
    · exact h1.blk c x hc hx
  · obtain ⟨c, h1, h2⟩ := h.ok x d hd
    exact ⟨c, h1, h2.mono rfl hle (KeepI.refl _ _) fun _ _ h => h⟩

theorem St.alloc (h : St cx Fr m Im w a σ) {k : Nat} (hk : Fr k) (vs : List Value) (ds : List D) (T : TypeId) (hr : RelL m Im w vs ds) :
    St cx (minus Fr k) (m.setB k w.heap.size) Im (w.alloc (.cells vs.toArray T)) a (puts σ (cellsOf k 0 ds)) := by
  have hb : Below w.heap.size w (w.alloc (.cells vs.toArray T)) := (Below.refl _ _).alloc (Nat.le_refl _) _
  have hB := Blk.new w vs.toArray T rfl
  have hle : m.le (m.setB k w.heap.size) := Mp.setB_le (h.mem.fr k hk).1
  have h1 := (h.below0 hb).name (k := k) (b := w.heap.size) hk h.mem.off.size (by simp) (fun o => hB.free o) (fun o ho => by
      obtain ⟨v, hv⟩ := h.mem.im _ _ ho
      have := ltOfCell hv; omega) (fun x hx => by have := h.mem.lt x _ hx; omega) (fun g R hg e => by
      obtain ⟨xs, hx⟩ := h.mem.row g R hg
      have := (row_lt hx e).2; omega) (fun X J hj hx => by
      obtain ⟨X', J', e, h2⟩ := h.jk _ hj
      cases e
      have := h2.lt _ hx; omega) (fun x hx => by have := h.mem.olt x _ hx; omega)
  exact h1.putcs (k := k) (b := w.heap.size) (by simp [Mp.setB]) ds vs 0 (hr.mono hle (KeepI.below hb) fun _ _ h => h) fun i v hv => hB.cell (by simpa using hv)

theorem St.setObj (h : St cx Fr m Im w a σ) {k b : Nat} {o : Obj} {d : D} (hb : m.obj k = some b) (hd : ∀ w' : World, w'.heap[b]? = some o → KeepI Im w w' → ObOk m Im w' b d) :
    St cx Fr m Im { w with heap := w.heap.setIfInBounds b o } a (put1 (.o k) d σ) := by
  obtain ⟨w', hw'⟩ : ∃ w', ({ w with heap := w.heap.setIfInBounds b o } : World) = w' := ⟨_, rfl⟩
  have hsz : w'.heap.size = w.heap.size := by rw [← hw']; simp
  have hblk : ∀ c, c ≠ b → w'.heap[c]? = w.heap[c]? := fun c hc => by rw [← hw']; exact Array.getElem?_setIfInBounds_ne (Ne.symm hc)
  have hbb : w'.heap[b]? = some o := by rw [← hw']; have := h.mem.olt k b hb; simp [this]
  have hos : w'.os = w.os ∧ w'.tape = w.tape ∧ w'.output = w.output := by rw [← hw']; exact ⟨rfl, rfl, rfl⟩
  rw [hw']
  clear hw'
  have hki : KeepI Im w w' := fun c x v hi hv => (World.cell?_of_block (a := ⟨c, x, none⟩) (hblk c (by rintro rfl; exact h.mem.onim k _ x hb hi))).trans hv
  have hmono : ∀ {x d}, Rel m Im w x d → Rel m Im w' x d := fun hx => hx.mono (Mp.le.refl m) hki fun _ _ h => h
  refine ⟨{ h.mem with off := ?_, im := ?_, lt := ?_, free := ?_, row := ?_, olt := ?_, k0 := h.mem.k0.trans (hki.weaken h.mem.im0) }, h.df, h.nt, fun x d hx => hmono (h.tm x d (by rw [get_put1, if_neg (by simp [Key.eq])] at hx; exact hx)), fun k' off' d' hx => ?_, fun g d' hx => ?_, fun d' hx => ?_, fun k' d' hx => ?_⟩
  · refine ⟨hos.1.trans h.mem.off.os, hos.2.1.trans h.mem.off.tape, hos.2.2.trans h.mem.off.output, by rw [hsz]; exact h.mem.off.size, fun c hc hC => (hblk c ?_).trans (h.mem.off.block c hc hC)⟩
    rintro rfl
    rcases h.mem.oown k _ hb with h1 | h1
    · exact hC h1
    · omega
  · intro c x hi
    obtain ⟨v, hv⟩ := h.mem.im c x hi
    exact ⟨v, hki c x v hi hv⟩
  · intro k' c hk; rw [hsz]; exact h.mem.lt k' c hk
  · intro k' c x hk; exact (World.frozen?_of_block (a := ⟨c, x, none⟩) (hblk c (by rintro rfl; exact h.mem.oblk k k' _ hb hk))).trans (h.mem.free k' c x hk)
  · intro g R hg
    obtain ⟨xs, hx⟩ := h.mem.row g R hg
    refine ⟨xs, hx.1, ?_⟩
    rcases hx.2 with h0 | ⟨g', cap, cur, e, h1, h2, h3⟩
    · exact .inl h0
    · refine .inr ⟨g', cap, cur, e, h1, ?_, h3⟩
      rw [hblk g' (by rintro rfl; exact h.mem.orow k g R g' hb hg (by rw [e]; rfl))]; exact h2
  · intro k' c hk; rw [hsz]; exact h.mem.olt k' c hk
  · rw [get_put1, if_neg (by simp [Key.eq])] at hx
    obtain ⟨c, v, h1, h2, h3⟩ := h.ce k' off' d' hx
    exact ⟨c, v, h1, (World.cell?_of_block (a := ⟨c, off', none⟩) (hblk c (by rintro rfl; exact h.mem.oblk k k' _ hb h1))).trans h2, hmono h3⟩
  · rw [get_put1, if_neg (by simp [Key.eq])] at hx
    obtain ⟨R, h1, h2⟩ := h.ro g d' hx
    exact ⟨R, h1, h2.mono (fun c ho => hblk c (by rintro rfl; exact h.mem.orow k g R _ hb h1 ho)) (Mp.le.refl m) hki (fun _ _ h => h) fun _ _ _ h => h⟩
  · rw [get_put1, if_neg (by simp [Key.eq])] at hx
    obtain ⟨X, J, e, hX⟩ := h.jk d' hx
    have hsame : ∀ c, X c → w'.heap[c]? = w.heap[c]? := fun c hc => hblk c (by rintro rfl; exact hX.obj _ k hc hb)
    exact ⟨X, J, e, { hX with holds := hX.stable _ (by rw [hsz]; exact Nat.le_refl _) hsame, stable := fun w2 hs hx2 => hX.stable w2 (by rw [hsz] at hs; exact hs) fun c hc => (hx2 c hc).trans (hsame c hc), lt := fun c hc => by rw [hsz]; exact hX.lt c hc }⟩
  · rw [get_put1] at hx
    by_cases he : Key.eq (.o k) (.o k') = true
    · rw [if_pos he] at hx
      cases hx
      have := Key.eq_iff.1 he
      cases this
      exact ⟨b, hb, hd w' hbb hki⟩
    · rw [if_neg he] at hx
      obtain ⟨c, h1, h2⟩ := h.ok k' d' hx
      refine ⟨c, h1, h2.mono (hblk c ?_) (Mp.le.refl m) hki fun _ _ h => h⟩
      rintro rfl
      have := h.mem.oinj k k' _ hb h1
      subst this
      exact he (Key.eq_refl _)
theorem St.newObjB (h : St cx Fr m Im w a σ) {k : Nat} (hk : Fr k) {b : Nat} (hb : Below w.heap.size w w') (hbs : w.heap.size ≤ b) (hbl : b < w'.heap.size) {d : D} (hd : ∀ (m' : Mp), ObOk m' Im w' b d) :
    St cx (minus Fr k) (m.setO k b) Im w' a (put1 (.o k) d σ) ∧ m.le (m.setO k b) := by
  have h1 := h.below0 hb
  have hle : m.le (m.setO k b) := Mp.setO_le (h.mem.fr k hk).2.2
  have hcase : ∀ {x c}, (m.setO k b).obj x = some c → (x = k ∧ c = b) ∨ (x ≠ k ∧ m.obj x = some c) := fun {x c} hx => by
    by_cases e : x = k
    · left; simp [Mp.setO, e] at hx; exact ⟨e, hx.symm⟩
    · right; simp [Mp.setO, e] at hx; exact ⟨e, hx⟩
  refine ⟨⟨{ h1.mem with fr := ?_, m0o := ?_, oown := ?_, olt := ?_, onim := ?_, oinj := ?_, oblk := ?_, orow := ?_, dis := ?_ }, h1.df, h1.nt, fun x d hx => (h1.tm x d (by rw [get_put1, if_neg (by simp [Key.eq])] at hx; exact hx)).mono hle (KeepI.refl _ _) (fun _ _ h => h), fun x off d hx => ?_, fun g d hx => ?_, fun d hx => ?_, fun x d hx => ?_⟩, hle⟩
  · intro x hx; refine ⟨(h.mem.fr x hx.1).1, (h.mem.fr x hx.1).2.1, ?_⟩; simp [Mp.setO, hx.2, (h.mem.fr x hx.1).2.2]
  · intro x c hx; exact hle.obj x c (h.mem.m0o x c hx)
  · intro x c hx; rcases hcase hx with ⟨_, rfl⟩ | ⟨_, hx⟩; exact .inr (Nat.le_trans h.mem.off.size hbs); exact h.mem.oown x c hx
  · intro x c hx; rcases hcase hx with ⟨_, rfl⟩ | ⟨_, hx⟩; exact hbl; exact h1.mem.olt x c hx
  · intro x c o hx hi
    rcases hcase hx with ⟨_, rfl⟩ | ⟨_, hx⟩
    · obtain ⟨v, hv⟩ := h.mem.im _ _ hi
      exact absurd (ltOfCell hv) (Nat.not_lt.2 hbs)
    · exact h.mem.onim x c o hx hi
  · intro x y c hx hy
    rcases hcase hx with ⟨e1, e2⟩ | ⟨_, hx⟩ <;> rcases hcase hy with ⟨e3, e4⟩ | ⟨_, hy⟩
    · rw [e1, e3]
    · have := h.mem.olt y _ hy; omega
    · have := h.mem.olt x _ hx; omega
    · exact h.mem.oinj x y c hx hy
  · intro x y c hx hy
    rcases hcase hx with ⟨_, rfl⟩ | ⟨_, hx⟩
    · exact absurd (h.mem.lt y _ hy) (Nat.not_lt.2 hbs)
    · exact h.mem.oblk x y c hx hy
  · intro x g R c hx hg hc
    rcases hcase hx with ⟨_, rfl⟩ | ⟨_, hx⟩
    · obtain ⟨xs, hxs⟩ := h.mem.row g R hg
      exact absurd (row_lt hxs hc).2 (Nat.not_lt.2 hbs)
    · exact h.mem.orow x g R c hx hg hc
  · intro x c hx
    have hx' : m.blk x = some c := hx
    by_cases e : x = k
    · subst e; rw [(h.mem.fr x hk).1] at hx'; cases hx'
    · have := h.mem.dis x c hx'
      simp [Mp.setO, e, this]
  · rw [get_put1, if_neg (by simp [Key.eq])] at hx
    obtain ⟨c, v, q1, q2, q3⟩ := h1.ce x off d hx
    exact ⟨c, v, q1, q2, q3.mono hle (KeepI.refl _ _) fun _ _ h => h⟩
  · rw [get_put1, if_neg (by simp [Key.eq])] at hx
    obtain ⟨R, q1, q2⟩ := h1.ro g d hx
    exact ⟨R, q1, q2.mono (fun _ _ => rfl) hle (KeepI.refl _ _) (fun _ _ h => h) fun _ _ _ h => h⟩
  · rw [get_put1, if_neg (by simp [Key.eq])] at hx
    obtain ⟨X, J, rfl, hX0⟩ := h.jk d hx
    obtain ⟨X', J', e, hX⟩ := h1.jk _ hx
    cases e
    refine ⟨X, J, rfl, { hX with obj := fun c x hc hx => ?_ }⟩
    rcases hcase hx with ⟨_, rfl⟩ | ⟨_, hx⟩
    · exact absurd (hX0.lt _ hc) (Nat.not_lt.2 hbs)
    · exact hX0.obj c x hc hx
  · rw [get_put1] at hx
    by_cases he : Key.eq (.o k) (.o x) = true
    · rw [if_pos he] at hx
      cases hx
      have := Key.eq_iff.1 he
      cases this
      exact ⟨b, by simp [Mp.setO], hd _⟩
    · rw [if_neg he] at hx
      obtain ⟨c, q1, q2⟩ := h1.ok x d hx
      exact ⟨c, hle.obj x c q1, q2.mono rfl hle (KeepI.refl _ _) fun _ _ h => h⟩
theorem St.newObj (h : St cx Fr m Im w a σ) {k : Nat} (hk : Fr k) {o : Obj} {d : D} (hd : ∀ (m' : Mp) (w' : World), w'.heap[w.heap.size]? = some o → ObOk m' Im w' w.heap.size d) :
    St cx (minus Fr k) (m.setO k w.heap.size) Im (w.alloc o) a (put1 (.o k) d σ) ∧ m.le (m.setO k w.heap.size) :=
  h.newObjB hk ((Below.refl _ _).alloc (Nat.le_refl _) _) (Nat.le_refl _) (by simp) fun m' => hd m' _ (heap_alloc_new w o)
end
end Go.Proofs.Ytcblpjheoclkeaa

namespace Go.Proofs.Ytcblpjheoclkeaa
open Go.RowKit

section
variable {cx : Cx} {Fr Fr' : Nat → Prop} {m m' : Mp} {Im Im' : Nat → Nat → Prop} {w w' : World} {a : Act} {σ σ' : List (Key × D)}

theorem cell_set_ne {b off b' off' : Nat} {v : Value} (h : b' ≠ b ∨ off' ≠ off) : (w.setCell ⟨b, off, none⟩ v).cell? ⟨b', off', none⟩ = w.cell? ⟨b', off', none⟩ := by
  by_cases hb : b' = b
  · subst hb
    have ho : off' ≠ off := h.resolve_left (fun e => e rfl)
    show (match (w.heap.modify b' _)[b']? with | some (.cells c _ _) => _ | _ => none) = match w.heap[b']? with | some (.cells c _ _) => _ | _ => none
    rw [Array.getElem?_modify, if_pos rfl]
    cases hw : w.heap[b']? with
    | none => rfl
    | some o =>
      cases o with
      | cells c e f => simp [Array.getElem?_setIfInBounds_ne (Ne.symm ho)]
      | _ => rfl
  · exact World.cell?_of_block (w := w) (a := ⟨b', off', none⟩) (Below.heap_setCell _ _ _ _ hb)
theorem cell_set_eq {b off : Nat} {v u : Value} (h : w.cell? ⟨b, off, none⟩ = some u) : (w.setCell ⟨b, off, none⟩ v).cell? ⟨b, off, none⟩ = some v := by
  simp only [World.cell?] at h ⊢
  show (match (w.heap.modify b _)[b]? with | some (.cells c _ _) => _ | _ => none) = some v
  rw [Array.getElem?_modify, if_pos rfl]
  cases hw : w.heap[b]? with
  | none => rw [hw] at h; cases h
  | some o =>
    rw [hw] at h
    cases o with
    | cells c e f =>
      simp at h ⊢
      have : off < c.size := by
        rcases Nat.lt_or_ge off c.size with h' | h'
        · exact h'
        · rw [Array.getElem?_eq_none h'] at h; cases h
      simp [this]
    | _ => cases h
theorem frozen_set {b off : Nat} {v : Value} (p : Addr) : (w.setCell ⟨b, off, none⟩ v).frozen? p = w.frozen? p := by
  by_cases hb : p.block = b
  · subst hb
    simp only [World.frozen?]
    show (match (w.heap.modify p.block _)[p.block]? with | some (.cells _ _ (lo, hi)) => _ | _ => false) = _
    rw [Array.getElem?_modify, if_pos rfl]
    cases hw : w.heap[p.block]? with
    | none => rfl
    | some o => cases o <;> rfl
  · exact World.frozen?_of_block (w := w) (a := p) (Below.heap_setCell _ _ _ _ hb)

theorem St.setCell (h : St cx Fr m Im w a σ) {k b off : Nat} {u v : Value} {d : D} (hb : m.blk k = some b) (hu : w.cell? ⟨b, off, none⟩ = some u) (hr : Rel m Im w v d) :
    St cx Fr m Im (w.setCell ⟨b, off, none⟩ v) a (put1 (.c k off) d σ) := by
  have hki : KeepI Im w (w.setCell ⟨b, off, none⟩ v) := fun b' o x hi hx => by
    rw [cell_set_ne]; exact hx; left; rintro rfl; exact h.mem.nim k _ o hb hi
  have hmono : ∀ {x d}, Rel m Im w x d → Rel m Im (w.setCell ⟨b, off, none⟩ v) x d := fun hx => hx.mono (Mp.le.refl m) hki fun _ _ h => h
  have hblk : ∀ b', b' ≠ b → (w.setCell ⟨b, off, none⟩ v).heap[b']? = w.heap[b']? := fun b' hne => Below.heap_setCell _ _ _ _ hne
  have hsz : (w.setCell ⟨b, off, none⟩ v).heap.size = w.heap.size := by simp
  refine ⟨{ h.mem with off := ?_, im := ?_, lt := ?_, free := ?_, row := ?_, olt := ?_, k0 := h.mem.k0.trans (hki.weaken h.mem.im0) }, h.df, h.nt, fun x d hx => hmono (h.tm x d (by rw [get_put1, if_neg (by simp [Key.eq])] at hx; exact hx)), fun k' off' d' hx => ?_, fun g d' hx => ?_, fun d' hx => ?_, fun k' d' hx => ?_⟩
  · exact h.mem.off.set ⟨b, off, none⟩ v (h.mem.own k b hb)
  · intro b' o hi
    obtain ⟨x, hx⟩ := h.mem.im b' o hi
    exact ⟨x, hki b' o x hi hx⟩
  · intro k' b' hk; rw [hsz]; exact h.mem.lt k' b' hk
  · intro k' b' o hk; rw [frozen_set]; exact h.mem.free k' b' o hk
  · intro g R hg
    obtain ⟨xs, hx⟩ := h.mem.row g R hg
    refine ⟨xs, ?_⟩
    refine ⟨hx.1, ?_⟩
    rcases hx.2 with h0 | ⟨g', cap, cur, e, h1, h2, h3⟩
    · exact .inl h0
    · refine .inr ⟨g', cap, cur, e, h1, ?_, h3⟩
      rw [hblk g' (by rintro rfl; exact h.mem.rblk g R g' k hg (by rw [e]; rfl) hb)]; exact h2
  · intro k' b' hk; rw [hsz]; exact h.mem.olt k' b' hk
  · rw [get_put1] at hx
    by_cases he : Key.eq (.c k off) (.c k' off') = true
    · rw [if_pos he] at hx
      cases hx
      have := Key.eq_iff.1 he
      cases this
      exact ⟨b, v, hb, cell_set_eq hu, hmono hr⟩
    · rw [if_neg he] at hx
      obtain ⟨b', x, h1, h2, h3⟩ := h.ce k' off' d' hx
      refine ⟨b', x, h1, ?_, hmono h3⟩
      rw [cell_set_ne]; exact h2
      by_cases hbb : b' = b
      · right; rintro rfl
        subst hbb
        have := h.mem.inj k' k b' h1 hb
        subst this
        exact he (Key.eq_refl _)
      · exact .inl hbb
  · rw [get_put1, if_neg (by simp [Key.eq])] at hx
    obtain ⟨R, h1, h2⟩ := h.ro g d' hx
    exact ⟨R, h1, h2.mono (fun c ho => hblk c (by rintro rfl; exact h.mem.rblk g R _ k h1 ho hb)) (Mp.le.refl m) hki (fun _ _ h => h) fun _ _ _ h => h⟩
  · rw [get_put1, if_neg (by simp [Key.eq])] at hx
    obtain ⟨X, J, e, hX⟩ := h.jk d' hx
    have hnb : ¬ X b := fun hxb => hX.blk b k hxb hb
    refine ⟨X, J, e, { hX with holds := hX.stable _ (by rw [hsz]; exact Nat.le_refl _) (fun b' hb' => hblk b' (fun e => hnb (e ▸ hb'))), stable := fun w2 hs hx2 => hX.stable w2 (by rw [hsz] at hs; exact hs) fun b' hb' => (hx2 b' hb').trans (hblk b' (fun e => hnb (e ▸ hb'))), lt := fun b' hb' => by rw [hsz]; exact hX.lt b' hb' }⟩
  · rw [get_put1, if_neg (by simp [Key.eq])] at hx
    obtain ⟨b', h1, h2⟩ := h.ok k' d' hx
    exact ⟨b', h1, h2.mono (hblk b' (by rintro rfl; exact h.mem.oblk k' k _ h1 hb)) (Mp.le.refl m) hki fun _ _ h => h⟩

theorem St.setCells {k b : Nat} (hb : m.blk k = some b) : ∀ (ds : List D) (vs : List Value) (o : Nat) {w : World} {σ : List (Key × D)}, St cx Fr m Im w a σ → RelL m Im w vs ds → (∀ i, i < vs.length → ∃ u, w.cell? ⟨b, o + i, none⟩ = some u) →
    ∃ w', (w.setCells b o vs = w') ∧ St cx Fr m Im w' a (puts σ (cellsOf k o ds))
  | [], [], o, w, σ, h, _, _ => ⟨_, rfl, h⟩
  | [], _ :: _, _, _, _, _, hr, _ => hr.elim
  | _ :: _, [], _, _, _, _, hr, _ => hr.elim
  | d :: ds, v :: vs, o, w, σ, h, hr, hc => by
    obtain ⟨u, hu⟩ := hc 0 (by simp)
    have h1 := h.setCell hb hu hr.1
    have hki : KeepI Im w (w.setCell ⟨b, o, none⟩ v) := fun b' o' x hi hx => by
      rw [cell_set_ne]; exact hx; left; rintro rfl; exact h.mem.nim k _ o' hb hi
    obtain ⟨w', hw', h2⟩ := St.setCells hb ds vs (o + 1) h1 (hr.2.mono (Mp.le.refl m) hki fun _ _ h => h) (fun i hi => by
      obtain ⟨x, hx⟩ := hc (i + 1) (by simpa using hi)
      refine ⟨x, ?_⟩
      rw [cell_set_ne (.inr (by omega))]
      rw [show o + 1 + i = o + (i + 1) by omega]; exact hx)
    exact ⟨w', by rw [← hw']; rfl, h2⟩

/-! rows -/
theorem rel_nil {n g E : Nat} (hg : m.row g = some ⟨.slice none 0 0, 0, E, n⟩) : Rel m Im w (.slice none 0 0) (.sl n [] (some g)) :=
  .sl none 0 0 0 n (fun _ _ => undef) [] (some g) ⟨Nat.zero_le _, Nat.zero_le _⟩ (fun h => absurd h (by simp)) (fun i _ h => absurd h (by simp)) (fun i h => absurd h (by simp)) (fun i _ h => absurd h (by simp)) (fun i h => absurd h (by simp)) fun r e => by
    cases e; exact ⟨_, hg, Nat.le_refl _, fun _ => rfl⟩
theorem St.newRow (h : St cx Fr m Im w a σ) {g : Nat} (hg : Fr g) (E n : Nat) : St cx (minus Fr g) (m.setR g ⟨.slice none 0 0, 0, E, n⟩) Im w a (put1 (.r g) (.rw E n 0) σ) := by
  have hle : m.le (m.setR g ⟨.slice none 0 0, 0, E, n⟩) := Mp.setR_le fun R0 h0 => by rw [(h.mem.fr g hg).2.1] at h0; cases h0
  have hcase : ∀ {x R}, (m.setR g ⟨.slice none 0 0, 0, E, n⟩).row x = some R → (x = g ∧ R = ⟨.slice none 0 0, 0, E, n⟩) ∨ (x ≠ g ∧ m.row x = some R) := fun {x R} hx => by
    by_cases e : x = g
    · left; simp [Mp.setR, e] at hx; exact ⟨e, hx.symm⟩
    · right; simp [Mp.setR, e] at hx; exact ⟨e, hx⟩
  refine ⟨{ h.mem with row := ?_, rIm := ?_, rblk := ?_, rinj := ?_, fr := ?_, orow := ?_, rown := ?_, m0r := h.mem.m0r_le hle }, h.df, h.nt, fun x d hx => (h.tm x d (by rw [get_put1, if_neg (by simp [Key.eq])] at hx; exact hx)).mono hle (KeepI.refl _ _) (fun _ _ h => h), fun x off d hx => ?_, fun x d hx => ?_, fun d hd => ?_, fun x d hd => ?_⟩
  · intro x R hx; rcases hcase hx with ⟨_, rfl⟩ | ⟨_, hx⟩; exact ⟨[], World.ownsRow_nil _ _ _ _⟩; exact h.mem.row x R hx
  · intro x R b o hx; rcases hcase hx with ⟨_, rfl⟩ | ⟨_, hx⟩; (intro e; cases e); exact h.mem.rIm x R b o hx
  · intro x R b k hx; rcases hcase hx with ⟨_, rfl⟩ | ⟨_, hx⟩; (intro e; cases e); exact h.mem.rblk x R b k hx
  · intro x y R R' b hx hy ho ho'
    rcases hcase hx with ⟨_, rfl⟩ | ⟨_, hx⟩
    · cases ho
    · rcases hcase hy with ⟨_, rfl⟩ | ⟨_, hy⟩
      · cases ho'
      · exact h.mem.rinj x y R R' b hx hy ho ho'
  · intro x hx; refine ⟨(h.mem.fr x hx.1).1, ?_, (h.mem.fr x hx.1).2.2⟩; simp [Mp.setR, hx.2, (h.mem.fr x hx.1).2.1]
  · intro x y R b hx hy
    rcases hcase hy with ⟨_, rfl⟩ | ⟨_, hy⟩
    · intro e; cases e
    · exact h.mem.orow x y R b hx hy
  · intro x R b hx; rcases hcase hx with ⟨_, rfl⟩ | ⟨_, hx⟩; (intro e; cases e); exact h.mem.rown x R b hx
  · rw [get_put1, if_neg (by simp [Key.eq])] at hx
    obtain ⟨c, v, h1, h2, h3⟩ := h.ce x off d hx
    exact ⟨c, v, h1, h2, h3.mono hle (KeepI.refl _ _) (fun _ _ h => h)⟩
  · rw [get_put1] at hx
    by_cases he : Key.eq (.r g) (.r x) = true
    · rw [if_pos he] at hx
      cases hx
      have := Key.eq_iff.1 he
      cases this
      exact ⟨⟨.slice none 0 0, 0, E, n⟩, by simp [Mp.setR], .rw⟩
    · rw [if_neg he] at hx
      obtain ⟨R, h1, h2⟩ := h.ro x d hx
      have hne : x ≠ g := fun e => he (by rw [e]; exact Key.eq_refl _)
      exact ⟨R, by simp [Mp.setR, hne, h1], h2.mono (fun _ _ => rfl) hle (KeepI.refl _ _) (fun _ _ h => h) fun _ _ _ h => h⟩
  · rw [get_put1, if_neg (by simp [Key.eq])] at hd
    obtain ⟨X, J, rfl, h1⟩ := h.jk d hd
    refine ⟨X, J, rfl, { h1 with row := fun c x R hc hx => ?_ }⟩
    rcases hcase hx with ⟨_, rfl⟩ | ⟨_, hx⟩
    · intro e; cases e
    · exact h1.row c x R hc hx
  · rw [get_put1, if_neg (by simp [Key.eq])] at hd
    obtain ⟨c, h1, h2⟩ := h.ok x d hd
    exact ⟨c, h1, h2.mono rfl hle (KeepI.refl _ _) fun _ _ h => h⟩

theorem addr_add0 (b n : Nat) : (⟨b, 0, none⟩ : Addr).add n = ⟨b, n, none⟩ := by
  unfold Addr.add; split
  · subst_vars; rfl
  · simp
theorem run_append_deep {P : Program} (base : Nat) (t ty e : TypeId) (i : TypeInfo) (z : Value) (size bytes : Nat) (ht : P.underlying t = some (.slice e)) (hi : P.info? e = some i) (hz : i.zero = some z)
    (hsize : i.size = size) (hby : i.bytes = bytes) (hzs : z.cells.size = size) (hsz : 0 < size)
    (v : Value) (n : Nat) (xs : List Value) (hown : w.ownsRow base e size v n xs)
    (ad : Addr) (k c : Nat) (news : List Value) (hl : news.length = k * size) (hnews : ∀ j u, news[j]? = some u → w.cell? (ad.add j) = some u) (h1 : ∀ u ∈ news, u.oneCell' = true)
    (h63 : n + k ≤ maxLen) (hbytes : (n + k) * bytes ≤ 140737488355328) (hbase : base ≤ w.heap.size) :
    ∃ v' w', (Builtin.append_ #[t, t] ty #[v, .slice (some ad) k c]).run P w = .ok v' w' ∧ w'.ownsRow base e size v' (n + k) (xs ++ news) ∧
      ((v'.ownBlock = v.ownBlock ∧ w.grownBy w' v.ownBlock) ∨ (v'.ownBlock = some w.heap.size ∧ Below w.heap.size w w')) := by
  obtain ⟨v', w', hr, h2, h3, h4, h5⟩ := run_append_own_at (P := P) w base t ty e i z size bytes ht hi hz hsize hby hzs hsz v n xs hown ad k c news hl hnews h1 h63 hbytes hbase
  rcases h5 with h5 | h5
  · exact ⟨v', w', hr, h2, .inl ⟨h5, h3⟩⟩
  · refine ⟨v', w', hr, h2, .inr ⟨h5, ?_⟩⟩
    rcases hown.2 with ⟨rfl, rfl⟩ | ⟨g, cap, cur, rfl, hbg, hg, hnc, hcm, hcs, htake⟩
    · exact ⟨h3.os, h3.tape, h3.output, h3.size, fun b hb => h3.block b hb (by simp [Value.ownBlock])⟩
    · have hlt := lt_of_block hg
      by_cases hroom : n + k ≤ cap
      · exfalso
        subst hsize
        have hfit : n * i.size + news.length ≤ cur.size := by rw [hl, hcs, ← Nat.add_mul]; exact Nat.mul_le_mul_right _ hroom
        have hr2 := run_append_room (P := P) w t ty e i ht hi g n cap cur hg ad k c news hl hnews h1 hroom hfit
        have hv' : v' = .slice (some ⟨g, 0, none⟩) (n + k) cap := by
          have := hr.symm.trans hr2
          injection this with e1 _
        rw [hv'] at h5
        simp [Value.ownBlock] at h5
        omega
      · have holds : ∀ j u, xs[j]? = some u → w.cell? ((⟨g, 0, none⟩ : Addr).add j) = some u := hown.cells (g := g) rfl
        obtain ⟨v2, w2, hr2, _, hg2⟩ := run_append_arg_grows (P := P) w t ty e i z size bytes ht hi hz hsize hby hzs hsz ⟨g, 0, none⟩ n cap xs hown.1 holds ad k c news hl hnews (by omega) h63 hbytes
        have hw : w' = w2 := by
          have := hr.symm.trans hr2
          injection this
        rw [hw]
        exact ⟨hg2.os, hg2.tape, hg2.output, hg2.size, fun b hb => hg2.block b hb (by simp)⟩

theorem St.grow (h : St cx Fr m Im w a σ) {g : Nat} {R : RowM} (hg : m.row g = some R) {v' : Value} {k : Nat} {xs ys : List Value} (hn : 0 < R.n) (hk : 0 < k)
    (hold : w.ownsRow 0 R.E R.n R.hv R.len xs) (hown : w'.ownsRow 0 R.E R.n v' (R.len + k) (xs ++ ys))
    (hgr : (v'.ownBlock = R.hv.ownBlock ∧ w.grownBy w' R.hv.ownBlock) ∨ (v'.ownBlock = some w.heap.size ∧ Below w.heap.size w w')) :
    ∃ Im' b, v'.ownBlock = some b ∧ (∀ c o, Im c o → Im' c o) ∧ (∀ o, o < (R.len + k) * R.n → Im' b o) ∧ KeepI Im w w' ∧ m.le (m.setR g ⟨v', R.len + k, R.E, R.n⟩) ∧
      St cx Fr (m.setR g ⟨v', R.len + k, R.E, R.n⟩) Im' w' a (put1 (.r g) (.rw R.E R.n (R.len + k)) σ) := by
  obtain ⟨b, cap, hv', hbB, hbl⟩ := hown.form (by omega)
  have hob : v'.ownBlock = some b := by rw [hv']; rfl
  have hsame : ∀ c, c < w.heap.size → R.hv.ownBlock ≠ some c → w'.heap[c]? = w.heap[c]? := fun c hc hne => by
    rcases hgr with ⟨_, h2⟩ | ⟨_, h2⟩
    · exact h2.block c hc (Ne.symm hne)
    · exact h2.block c hc
  have hsz : w.heap.size ≤ w'.heap.size := by rcases hgr with ⟨_, h2⟩ | ⟨_, h2⟩ <;> exact h2.size
  have hcase : R.hv.ownBlock = some b ∨ (b = w.heap.size ∧ Below w.heap.size w w') := by
    rcases hgr with ⟨h1, _⟩ | ⟨h1, h2⟩
    · left; rw [← h1, hob]
    · right; rw [hob] at h1; cases h1; exact ⟨rfl, h2⟩
  have hcells : ∀ o, o < (R.len + k) * R.n → ∃ u, (xs ++ ys)[o]? = some u ∧ w'.cell? ⟨b, o, none⟩ = some u := fun o ho => by
    have hl : o < (xs ++ ys).length := by rw [hown.1]; exact ho
    refine ⟨(xs ++ ys)[o], List.getElem?_eq_getElem hl, ?_⟩
    have := hown.cells (g := b) hob o _ (List.getElem?_eq_getElem hl)
    rw [addr_add0] at this; exact this
  have hki : KeepI Im w w' := fun c o x hi hx => by
    have hcl := ltOfCell hx
    by_cases hc : R.hv.ownBlock = some c
    · rcases hcase with hb | ⟨_, hb⟩
      · have e : c = b := by rw [hc] at hb; exact Option.some.inj hb
        subst e
        have ho := h.mem.rIm g R c o hg hc hi
        obtain ⟨u, hu, hcu⟩ := hcells o (Nat.lt_of_lt_of_le ho (Nat.mul_le_mul_right _ (by omega)))
        have hol : o < xs.length := by rw [hold.1]; exact ho
        have hxo := hold.cells (g := c) hc o _ (List.getElem?_eq_getElem hol)
        rw [addr_add0, hx] at hxo
        rw [List.getElem?_append_left hol, List.getElem?_eq_getElem hol] at hu
        rw [hcu, ← hu, hxo]
      · exact (hb.cell (p := ⟨c, o, none⟩) hcl).trans hx
    · exact (World.cell?_of_block (a := ⟨c, o, none⟩) (hsame c hcl hc)).trans hx
  have hle : m.le (m.setR g ⟨v', R.len + k, R.E, R.n⟩) := Mp.setR_le fun R0 h0 => by rw [hg] at h0; cases h0; exact ⟨by simp, fun e => by simp at e; omega⟩
  have hrc : ∀ {x R0}, (m.setR g ⟨v', R.len + k, R.E, R.n⟩).row x = some R0 → (x = g ∧ R0 = ⟨v', R.len + k, R.E, R.n⟩) ∨ (x ≠ g ∧ m.row x = some R0) := fun {x R0} hx => by
    by_cases e : x = g
    · left; simp [Mp.setR, e] at hx; exact ⟨e, hx.symm⟩
    · right; simp [Mp.setR, e] at hx; exact ⟨e, hx⟩
  have hbnew : ∀ c, c < w.heap.size → R.hv.ownBlock ≠ some c → c ≠ b := fun c hc hne e => by
    subst e
    rcases hcase with hb | ⟨hb, _⟩
    · exact hne hb
    · omega
  have hmono : ∀ {x d}, Rel m Im w x d → Rel (m.setR g ⟨v', R.len + k, R.E, R.n⟩) (fun c o => Im c o ∨ (c = b ∧ o < (R.len + k) * R.n)) w' x d := fun hx => hx.mono hle hki fun _ _ h => .inl h
  refine ⟨fun c o => Im c o ∨ (c = b ∧ o < (R.len + k) * R.n), b, hob, fun _ _ h => .inl h, fun o ho => .inr ⟨rfl, ho⟩, hki, hle, ?_⟩
  have hnamed : ∀ x c, m.blk x = some c → c < w.heap.size ∧ R.hv.ownBlock ≠ some c := fun x c hx => ⟨h.mem.lt x c hx, fun e => h.mem.rblk g R c x hg e hx⟩
  refine ⟨⟨?off, ?im, ?imb, ?im0, h.mem.own, ?lt, ?free, ?nim, h.mem.inj, ?row, ?rIm, ?rblk, ?rinj, ?fr, h.mem.m0, h.mem.m0o, h.mem.oown, ?olt, ?onim, h.mem.oinj, h.mem.oblk, ?orow, h.mem.dis, h.mem.k0.trans (hki.weaken h.mem.im0), ?rown, h.mem.m0r_le hle⟩, h.df, h.nt, fun x d hx => hmono (h.tm x d (by rw [get_put1, if_neg (by simp [Key.eq])] at hx; exact hx)), fun x off d hx => ?ce, fun x d hx => ?ro, fun d hd => ?jk, fun x d hd => ?okk⟩
  case off =>
    obtain ⟨ho1, ho2, ho3⟩ : w'.os = w.os ∧ w'.tape = w.tape ∧ w'.output = w.output := by rcases hgr with ⟨_, h2⟩ | ⟨_, h2⟩ <;> exact ⟨h2.os, h2.tape, h2.output⟩
    refine ⟨ho1.trans h.mem.off.os, ho2.trans h.mem.off.tape, ho3.trans h.mem.off.output, Nat.le_trans h.mem.off.size hsz, fun c hc hC => ?_⟩
    refine (hsame c (Nat.lt_of_lt_of_le hc h.mem.off.size) fun e => ?_).trans (h.mem.off.block c hc hC)
    rcases h.mem.rown g R c hg e with h1 | h1
    · omega
    · exact hC (cx.hCR c h1)
  case im =>
    intro c o hio; rcases hio with hi | ⟨rfl, ho⟩
    · obtain ⟨x, hx⟩ := h.mem.im c o hi
      exact ⟨x, hki c o x hi hx⟩
    · obtain ⟨u, _, hu⟩ := hcells o ho; exact ⟨u, hu⟩
  case imb =>
    intro c o hio; rcases hio with hi | ⟨rfl, ho⟩
    · exact h.mem.imb c o hi
    · rcases hcase with hb | ⟨rfl, _⟩
      · exact .inr (h.mem.rown g R _ hg hb)
      · exact .inr (.inl h.mem.off.size)
  case im0 => intro c o hi; exact .inl (h.mem.im0 c o hi)
  case lt => intro x c hx; exact Nat.lt_of_lt_of_le (h.mem.lt x c hx) hsz
  case free => intro x c o hx; exact (World.frozen?_of_block (a := ⟨c, o, none⟩) (hsame c (hnamed x c hx).1 (hnamed x c hx).2)).trans (h.mem.free x c o hx)
  case nim =>
    intro x c o hx hio; rcases hio with hi | ⟨rfl, ho⟩
    · exact h.mem.nim x c o hx hi
    · exact hbnew _ (hnamed x _ hx).1 (hnamed x _ hx).2 rfl
  case row =>
    intro x R0 hx
    rcases hrc hx with ⟨rfl, rfl⟩ | ⟨hne, hx⟩
    · exact ⟨xs ++ ys, hown⟩
    · obtain ⟨zs, hz⟩ := h.mem.row x R0 hx
      refine ⟨zs, hz.1, ?_⟩
      rcases hz.2 with h0 | ⟨g', cap', cur, e, h1, h2, h3⟩
      · exact .inl h0
      · refine .inr ⟨g', cap', cur, e, h1, ?_, h3⟩
        rw [hsame g' (lt_of_block h2) (fun e2 => hne (h.mem.rinj x g R0 R g' hx hg (by rw [e]; rfl) e2))]; exact h2
  case rIm =>
    intro x R0 c o hx hc hio; rcases hio with hi | ⟨rfl, ho⟩
    · rcases hrc hx with ⟨rfl, rfl⟩ | ⟨hne, hx⟩
      · rw [hob] at hc; cases hc
        show o < (R.len + k) * R.n
        rcases hcase with hb | ⟨hb, _⟩
        · exact Nat.lt_of_lt_of_le (h.mem.rIm x R b o hg hb hi) (Nat.mul_le_mul_right _ (by omega))
        · obtain ⟨u, hu⟩ := h.mem.im b o hi
          have := ltOfCell hu; omega
      · exact h.mem.rIm x R0 c o hx hc hi
    · rcases hrc hx with ⟨rfl, rfl⟩ | ⟨hne, hx⟩
      · exact ho
      · exfalso
        rcases hcase with hb | ⟨hb, _⟩
        · exact hne (h.mem.rinj x g R0 R _ hx hg hc hb)
        · obtain ⟨zs, hz⟩ := h.mem.row x R0 hx
          have := (row_lt hz hc).2; omega
  case rblk =>
    intro x R0 c y hx hc hy
    rcases hrc hx with ⟨rfl, rfl⟩ | ⟨hne, hx⟩
    · rw [hob] at hc; cases hc
      exact hbnew _ (hnamed y _ hy).1 (hnamed y _ hy).2 rfl
    · exact h.mem.rblk x R0 c y hx hc hy
  case rinj =>
    have key : ∀ x R0 c, x ≠ g → m.row x = some R0 → R0.hv.ownBlock = some c → c ≠ b := fun x R0 c hne hx hc e => by
      subst e
      rcases hcase with hb | ⟨hb, _⟩
      · exact hne (h.mem.rinj x g R0 R _ hx hg hc hb)
      · obtain ⟨zs, hz⟩ := h.mem.row x R0 hx
        have := (row_lt hz hc).2; omega
    intro x y R0 R1 c hx hy hc hc'
    rcases hrc hx with ⟨e1, e2⟩ | ⟨n1, hx⟩ <;> rcases hrc hy with ⟨e3, e4⟩ | ⟨n2, hy⟩
    · rw [e1, e3]
    · subst e2; rw [hob] at hc; cases hc; exact absurd rfl (key y R1 _ n2 hy hc')
    · subst e4; rw [hob] at hc'; cases hc'; exact absurd rfl (key x R0 _ n1 hx hc)
    · exact h.mem.rinj x y R0 R1 c hx hy hc hc'
  case fr =>
    intro x hx
    have := h.mem.fr x hx
    refine ⟨this.1, ?_, this.2.2⟩
    have hne : x ≠ g := by rintro rfl; rw [this.2.1] at hg; cases hg
    simp [Mp.setR, hne, this.2.1]
  case olt => intro x c hx; exact Nat.lt_of_lt_of_le (h.mem.olt x c hx) hsz
  case onim =>
    intro x c o hx hio; rcases hio with hi | ⟨rfl, ho⟩
    · exact h.mem.onim x c o hx hi
    · exact hbnew _ (h.mem.olt x _ hx) (fun e => h.mem.orow x g R _ hx hg e) rfl
  case orow =>
    intro x y R0 c hx hy hc
    rcases hrc hy with ⟨rfl, rfl⟩ | ⟨hne, hy⟩
    · rw [hob] at hc; cases hc
      exact hbnew _ (h.mem.olt x _ hx) (fun e => h.mem.orow x y R _ hx hg e) rfl
    · exact h.mem.orow x y R0 c hx hy hc
  case rown =>
    intro x R0 c hx ho
    rcases hrc hx with ⟨rfl, rfl⟩ | ⟨_, hx⟩
    · rw [hob] at ho; cases ho
      rcases hcase with hb | ⟨rfl, _⟩
      · exact h.mem.rown x R _ hg hb
      · exact .inl h.mem.off.size
    · exact h.mem.rown x R0 c hx ho
  case okk =>
    rw [get_put1, if_neg (by simp [Key.eq])] at hd
    obtain ⟨c, h1, h2⟩ := h.ok x d hd
    exact ⟨c, h1, h2.mono (hsame c (h.mem.olt x c h1) fun e => h.mem.orow x g R c h1 hg e) hle hki fun _ _ h => .inl h⟩
  case ce =>
    rw [get_put1, if_neg (by simp [Key.eq])] at hx
    obtain ⟨c, v, h1, h2, h3⟩ := h.ce x off d hx
    exact ⟨c, v, h1, (World.cell?_of_block (a := ⟨c, off, none⟩) (hsame c (hnamed x c h1).1 (hnamed x c h1).2)).trans h2, hmono h3⟩
  case ro =>
    rw [get_put1] at hx
    by_cases he : Key.eq (.r g) (.r x) = true
    · rw [if_pos he] at hx
      cases hx
      have := Key.eq_iff.1 he
      cases this
      exact ⟨⟨v', R.len + k, R.E, R.n⟩, by simp [Mp.setR], .rw⟩
    · rw [if_neg he] at hx
      obtain ⟨R0, h1, h2⟩ := h.ro x d hx
      have hne : x ≠ g := fun e => he (by rw [e]; exact Key.eq_refl _)
      have hcb : ∀ c, R0.hv.ownBlock = some c → R.hv.ownBlock ≠ some c ∧ c ≠ b := fun c hc => by
        have h3 : R.hv.ownBlock ≠ some c := fun e => hne (h.mem.rinj x g R0 R c h1 hg hc e)
        exact ⟨h3, hbnew c (h.mem.rlt h1 hc) h3⟩
      exact ⟨R0, by simp [Mp.setR, hne, h1], h2.mono (fun c hc => hsame c (h.mem.rlt h1 hc) (hcb c hc).1) hle hki (fun _ _ h => .inl h) fun c o hc hh => hh.elim id fun e => absurd e.1 (hcb c hc).2⟩
  case jk =>
    rw [get_put1, if_neg (by simp [Key.eq])] at hd
    obtain ⟨X, J, e, hX⟩ := h.jk d hd
    have hxs : ∀ c, X c → w'.heap[c]? = w.heap[c]? := fun c hc => hsame c (hX.lt c hc) (hX.row c g R hc hg)
    refine ⟨X, J, e, hX.stable _ hsz hxs, fun w2 hs hx2 => hX.stable w2 (Nat.le_trans hsz hs) fun c hc => (hx2 c hc).trans (hxs c hc), fun c hc => Nat.lt_of_lt_of_le (hX.lt c hc) hsz, hX.own, ?_, hX.blk, ?_, hX.obj⟩
    · intro c o hc hio; rcases hio with hi | ⟨rfl, ho⟩
      · exact hX.nim c o hc hi
      · exact hbnew _ (hX.lt _ hc) (hX.row _ g R hc hg) rfl
    · intro c x R0 hc hx
      rcases hrc hx with ⟨rfl, rfl⟩ | ⟨hne, hx⟩
      · intro e2; rw [hob] at e2; cases e2
        exact hbnew _ (hX.lt _ hc) (hX.row _ x R hc hg) rfl
      · exact hX.row c x R0 hc hx
end
end Go.Proofs.Ytcblpjheoclkeaa

namespace Go.Proofs.Ytcblpjheoclkeaa
open Go.RowKit

structure TI where
  sz : Nat
  ag : Bool
  z : List Value
  fs : List (Nat × Nat × Bool)
  el : Option Nat
  bys : Nat
  kd : Nat
  mv : Option Nat
  eqi : Bool
def isAg : TypeDesc → Bool
  | .struct _ => true
  | .array _ _ => true
  | _ => false
def kdOf : TypeDesc → Nat
  | .bool => 1
  | .int _ => 2
  | .string => 3
  | .pointer _ => 4
  | .slice _ => 5
  | .struct _ => 6
  | .map _ _ => 7
  | .func _ _ _ => 8
  | _ => 0
def fchk (P : Program) (f : Field) (e : Nat × Nat × Bool) : Bool :=
  f.offset == e.1 && (match P.info? f.type with | some i => i.size == e.2.1 | none => false) && decide (0 < e.2.1) && (match P.underlying f.type with | some d => isAg d == e.2.2 | none => false)
def tchk (P : Program) (t : Nat) (ti : TI) : Bool := match P.info? t, P.underlying t with
  | some i, some d => i.size == ti.sz && i.bytes == ti.bys && isAg d == ti.ag && ti.z.length == ti.sz && kdOf d == ti.kd &&
    (match d with | .struct fs => fs.toList.length == ti.fs.length && (fs.toList.zip ti.fs).all (fun p => fchk P p.1 p.2) | _ => ti.fs.isEmpty) && (match d with | .slice e => ti.el == some e | _ => ti.el == none)
  | _, _ => false
def mchk (P : Program) (t : Nat) (ti : TI) : Bool := match P.underlying t with
  | some (.map k e) => (match P.underlying k with | some (.int .i64) => ti.mv == some e | _ => ti.mv == none)
  | some (.int k) => ti.mv == none && (match ti.z with | [.int k' _] => decide (k = k') | _ => false)
  | _ => ti.mv == none
def echk (P : Program) (t : Nat) (ti : TI) : Bool := !ti.eqi || (!P.stoodInHeld t && !P.eqGuardType P.depth t && (match P.underlying t with
  | some (.struct fs) => (match fs.toList with
    | [f, g] => f.name != "_" && g.name != "_" && f.offset == 0 && g.offset == 1 && (match P.underlying f.type, P.underlying g.type with | some (.int _), some (.int _) => true | _, _ => false)
    | _ => false)
  | _ => false))
def zeroOf (ti : TI) : Value := if ti.ag then .agg ti.z.toArray else ti.z.headD undef
structure TypOk (P : Program) (t : Nat) (ti : TI) : Prop where
  chk : tchk P t ti = true
  zero : (P.info? t).bind (·.zero) = some (zeroOf ti)
  one : ((ti.ag || ti.sz == 1) && ti.z.all (·.oneCell')) = true
  mp : mchk P t ti = true
  eqs : echk P t ti = true
def tget : List (Nat × TI) → Nat → Option TI
  | [], _ => none
  | (t', ti) :: r, t => match Nat.beq t' t with | true => some ti | false => tget r t
def TabOk (P : Program) (T : List (Nat × TI)) : Prop := ∀ t ti, tget T t = some ti → TypOk P t ti
theorem TabOk.nil (P : Program) : TabOk P [] := fun _ _ h => by cases h
theorem TabOk.cons {P : Program} {T : List (Nat × TI)} {t : Nat} {ti : TI} (h : TabOk P T) (h1 : TypOk P t ti) : TabOk P ((t, ti) :: T) := fun t' ti' hg => by
  simp only [tget] at hg
  split at hg
  · rename_i e; cases hg; have : t = t' := Nat.eq_of_beq_eq_true e
    subst this; exact h1
  · exact h _ _ hg
namespace TypOk
variable {P : Program} {t : Nat} {ti : TI}
theorem parts (h : TypOk P t ti) : ∃ i d, P.info? t = some i ∧ P.underlying t = some d ∧ i.size = ti.sz ∧ i.bytes = ti.bys ∧ i.zero = some (zeroOf ti) ∧ isAg d = ti.ag ∧ ti.z.length = ti.sz ∧ kdOf d = ti.kd := by
  have h1 := h.chk
  have h2 := h.zero
  unfold tchk at h1
  cases hi : P.info? t with
  | none => rw [hi] at h1; simp at h1
  | some i =>
    cases hd : P.underlying t with
    | none => rw [hi, hd] at h1; simp at h1
    | some d =>
      rw [hi, hd] at h1
      rw [hi] at h2
      simp only [Bool.and_eq_true, beq_iff_eq] at h1
      obtain ⟨⟨⟨⟨⟨⟨a1, a2⟩, a3⟩, a4⟩, a5⟩, a6⟩, a7⟩ := h1
      exact ⟨i, d, rfl, rfl, a1, a2, h2, a3, a4, a5⟩
theorem map (h : TypOk P t ti) {e : Nat} (he : ti.mv = some e) : ∃ k, P.underlying t = some (.map k e) ∧ P.underlying k = some (.int .i64) := by
  have h1 := h.mp
  unfold mchk at h1
  split at h1
  · rename_i k e' hu
    split at h1
    · rename_i hk
      have : ti.mv = some e' := by simpa using h1
      rw [he] at this; cases this
      exact ⟨k, hu, hk⟩
    · rw [he] at h1; simp at h1
  · rw [he] at h1; simp at h1
  · rw [he] at h1; simp at h1
theorem int (h : TypOk P t ti) {k : IntKind} {n : Int} (hz : ti.z = [.int k n]) (hk : ti.kd = 2) : P.underlying t = some (.int k) := by
  obtain ⟨i, d, _, h2, _, _, _, _, _, h8⟩ := h.parts
  have h1 := h.mp
  rw [← h8] at hk
  cases d <;> simp [kdOf] at hk
  rename_i k0
  unfold mchk at h1
  rw [h2] at h1
  simp only [hz, Bool.and_eq_true, decide_eq_true_eq] at h1
  rw [h2, h1.2]
theorem zsize (h : TypOk P t ti) : (zeroOf ti).cells.size = ti.sz := by
  obtain ⟨i, d, h1, h2, h3, h4, h5, h6, h7, h8⟩ := h.parts
  have h1 := h.one
  simp only [Bool.and_eq_true, Bool.or_eq_true, beq_iff_eq] at h1
  unfold zeroOf
  cases hag : ti.ag with
  | true => simp [Value.cells, h7]
  | false =>
    have hs : ti.sz = 1 := by rcases h1.1 with h | h; rw [hag] at h; cases h; exact h
    rw [hs] at h7 ⊢
    match hz : ti.z, h7 with
    | [x], _ =>
      have := h1.2
      rw [hz] at this
      simp only [List.all_cons, List.all_nil, Bool.and_true] at this
      cases x <;> first | rfl | (simp [Value.oneCell'] at this)
theorem field (h : TypOk P t ti) {f off sz : Nat} {ag : Bool} (hf : ti.fs[f]? = some (off, sz, ag)) :
    ∃ fs fd fi d, P.underlying t = some (.struct fs) ∧ fs[f]? = some fd ∧ fd.offset = off ∧ P.info? fd.type = some fi ∧ fi.size = sz ∧ 0 < sz ∧ P.underlying fd.type = some d ∧ isAg d = ag := by
  have h1 := h.chk
  unfold tchk at h1
  cases hi : P.info? t with
  | none => rw [hi] at h1; simp at h1
  | some i =>
    cases hd : P.underlying t with
    | none => rw [hi, hd] at h1; simp at h1
    | some d =>
      rw [hi, hd] at h1
      simp only [Bool.and_eq_true, beq_iff_eq] at h1
      obtain ⟨⟨⟨⟨⟨⟨a1, a2⟩, a3⟩, a4⟩, a5⟩, a6⟩, a7⟩ := h1
      cases d with
      | struct fs =>
        simp only [Bool.and_eq_true, beq_iff_eq, List.all_eq_true] at a6
        obtain ⟨b1, b2⟩ := a6
        have hlt : f < ti.fs.length := by
          rcases Nat.lt_or_ge f ti.fs.length with h' | h'
          · exact h'
          · rw [List.getElem?_eq_none h'] at hf; cases hf
        have hlt2 : f < fs.toList.length := by omega
        have hz : (fs.toList[f], ti.fs[f]) ∈ fs.toList.zip ti.fs := by
          have hl : f < (fs.toList.zip ti.fs).length := by rw [List.length_zip]; omega
          have := List.getElem_mem hl
          rwa [List.getElem_zip] at this
        have hc := b2 _ hz
        have hfe : ti.fs[f] = (off, sz, ag) := by rw [List.getElem?_eq_getElem hlt] at hf; exact Option.some.inj hf
        rw [hfe] at hc
        simp only [fchk, Bool.and_eq_true, beq_iff_eq, decide_eq_true_eq] at hc
        obtain ⟨⟨⟨c1, c2⟩, c3⟩, c4⟩ := hc
        refine ⟨fs, fs.toList[f], ?_⟩
        cases hfi : P.info? (fs.toList[f]).type with
        | none => rw [hfi] at c2; simp at c2
        | some fi =>
          cases hfd : P.underlying (fs.toList[f]).type with
          | none => rw [hfd] at c4; simp at c4
          | some d =>
            rw [hfi] at c2; rw [hfd] at c4
            simp only [beq_iff_eq] at c2 c4
            exact ⟨fi, d, rfl, by rw [← Array.getElem?_toList, List.getElem?_eq_getElem hlt2], c1, rfl, c2, c3, rfl, c4⟩
      | _ => simp at a6; rw [a6] at hf; simp at hf
theorem slice (h : TypOk P t ti) {e : Nat} (he : ti.el = some e) : P.underlying t = some (.slice e) := by
  have h1 := h.chk
  unfold tchk at h1
  cases hi : P.info? t with
  | none => rw [hi] at h1; simp at h1
  | some i =>
    cases hd : P.underlying t with
    | none => rw [hi, hd] at h1; simp at h1
    | some d =>
      rw [hi, hd] at h1
      simp only [Bool.and_eq_true, beq_iff_eq] at h1
      obtain ⟨_, a7⟩ := h1
      cases d with
      | slice e' => simp at a7; rw [a7] at he; cases he; rfl
      | _ => simp at a7; rw [a7] at he; cases he
end TypOk

def ev (σ : List (Key × D)) : Operand → Option D
  | .tmp x => get σ (.t x)
  | .const v => some (.v v)
  | .func f => some (.fn f [])
  | .global _ => none

def D.one : D → Bool
  | .v x => x.oneCell'
  | .sl _ _ _ => true
  | .p _ _ => true
  | .q _ => true
  | .fn _ _ => true
  | .o _ => true
  | .mo _ => true
  | .cl _ _ => true
  | .ps _ _ => true
  | .pr _ _ _ _ _ => true
  | .pt _ _ _ _ => true
  | _ => false
def dcells (ti : TI) : D → Option (List D)
  | .ag l => if ti.ag && l.length == ti.sz && l.all D.one then some l else none
  | d => if !ti.ag && ti.sz == 1 && d.one then some [d] else none
def cellsAt (σ : List (Key × D)) (k : Nat) : Nat → Nat → Option (List D)
  | _, 0 => some []
  | o, n + 1 => match get σ (.c k o) with
    | some d => (cellsAt σ k (o + 1) n).map (d :: ·)
    | none => none
def ofCells (ti : TI) (l : List D) : Option D := if ti.ag then (if l.length == ti.sz then some (.ag l) else none) else match l with | [d] => some d | _ => none

def intD (op : BinOp) (k : IntKind) (a b : Int) : Option D := match op with
  | .add => some (.v (.int k (k.wrap (a + b))))
  | .sub => some (.v (.int k (k.wrap (a - b))))
  | .mul => some (.v (.int k (k.wrap (a * b))))
  | .eql => some (.v (.bool (a == b)))
  | .neq => some (.v (.bool (a != b)))
  | .lss => some (.v (.bool (a < b)))
  | .leq => some (.v (.bool (a ≤ b)))
  | .gtr => some (.v (.bool (a > b)))
  | .geq => some (.v (.bool (a ≥ b)))
  | .shr => if b = 1 then some (.v (.int k (a.fdiv 2))) else none
  | _ => none
def eqD (op : BinOp) (b : Bool) : Option D := match op with
  | .eql => some (.v (.bool b))
  | .neq => some (.v (.bool (!b)))
  | _ => none
def binD (ti : TI) (op : BinOp) (x y : D) : Option D := match x, y with
  | .v (.int k a), .v (.int k' b) => if k = k' then intD op k a b else none
  | .v (.bool a), .v (.bool b) => if ti.kd == 1 then eqD op (a == b) else none
  | .p _ _, .v (.pointer none) => if ti.kd == 4 then eqD op false else none
  | .q _, .v (.pointer none) => if ti.kd == 4 then eqD op false else none
  | .o _, .v (.pointer none) => if ti.kd == 4 then eqD op false else none
  | .v (.pointer (some _)), .v (.pointer none) => if ti.kd == 4 then eqD op false else none
  | .v (.pointer none), .v (.pointer none) => if ti.kd == 4 then eqD op true else none
  | .sl _ (_ :: _) _, .v (.slice none 0 0) => if ti.kd == 5 then eqD op false else none
  | .v (.slice x _ _), .v (.slice none 0 0) => if ti.kd == 5 then eqD op x.isNone else none
  | .ag [.v (.int .i64 a), .v (.int .i64 b)], .ag [.v (.int .i64 c), .v (.int .i64 d)] => if ti.eqi then eqD op (a == c && b == d) else none
  | _, _ => none
def unD (op : UnOp) (x : D) : Option D := match op, x with
  | .not, .v (.bool b) => some (.v (.bool (!b)))
  | .neg, .v (.int k a) => some (.v (.int k (k.wrap (0 - a))))
  | _, _ => none
def evs (σ : List (Key × D)) : List Operand → Option (List D)
  | [] => some []
  | x :: r => match ev σ x with
    | some d => (evs σ r).map (d :: ·)
    | none => none
def partD (sz : Nat) (ag : Bool) (d : D) : Option (List D) := if ag then (match d with | .ag ds => if ds.length == sz then some ds else none | _ => none) else if sz == 1 && d.one then some [d] else none
def fillD (ti : TI) (l : List D) : List (Nat × D) → Option (List D)
  | [] => some l
  | (f, d) :: r => match ti.fs[f]? with
    | none => none
    | some (off, sz, ag) => match partD sz ag d with
      | none => none
      | some ds => if off + sz ≤ l.length then fillD ti (l.take off ++ ds ++ l.drop (off + sz)) r else none

section
variable {P : Program} {T : List (Nat × TI)} {cx : Cx} {Fr Fr' : Nat → Prop} {m m' : Mp} {Im Im' : Nat → Nat → Prop} {w w' : World} {a : Act} {σ σ' : List (Key × D)}
theorem St.ev (h : St cx Fr m Im w a σ) {x : Operand} {d : D} (hx : ev σ x = some d) : Rel m Im w (a.eval x) d := by
  cases x with
  | tmp x => exact h.tm x d hx
  | const v => cases hx; exact .v v
  | func f => cases hx; exact .fn f [] [] rfl fun i h => absurd h (by simp)
  | global g => cases hx
theorem Rel.one {x : Value} {d : D} (h : Rel m Im w x d) (hd : d.one = true) : x.oneCell' = true := by
  cases h with
  | v => exact hd
  | ag => cases hd
  | tu => cases hd
  | _ => rfl
theorem RelL.one {xs : List Value} {ds : List D} (h : RelL m Im w xs ds) (hd : ds.all D.one = true) : ∀ v ∈ xs, v.oneCell' = true := by
  intro v hv
  rw [relL_iff] at h
  obtain ⟨i, hi, rfl⟩ := List.getElem_of_mem hv
  have := h.2 i (by omega)
  rw [List.getD_eq_getElem?_getD, List.getElem?_eq_getElem hi] at this
  exact this.one (List.all_eq_true.1 hd _ (List.getElem_mem _))
theorem St.evs (h : St cx Fr m Im w a σ) : ∀ {xs : List Operand} {ds : List D}, evs σ xs = some ds → RelL m Im w (xs.map a.eval) ds
  | [], ds, hx => by cases hx; trivial
  | x :: xs, ds, hx => by
    simp only [Go.Proofs.Ytcblpjheoclkeaa.evs] at hx
    cases hd : Go.Proofs.Ytcblpjheoclkeaa.ev σ x with
    | none => rw [hd] at hx; cases hx
    | some d =>
      rw [hd] at hx
      cases hr : Go.Proofs.Ytcblpjheoclkeaa.evs σ xs with
      | none => rw [hr] at hx; cases hx
      | some ds' =>
        rw [hr] at hx
        cases hx
        exact ⟨h.ev hd, h.evs hr⟩
theorem rel_dcells {ti : TI} {x : Value} {d : D} {l : List D} (h : Rel m Im w x d) (hd : dcells ti d = some l) : ∃ cs : List Value, x.cells = cs.toArray ∧ RelL m Im w cs l ∧ cs.length = ti.sz ∧ l.all D.one = true ∧ (ti.ag = true → x = .agg cs.toArray) ∧ (ti.ag = false → cs = [x] ∧ l = [d]) := by
  unfold dcells at hd
  split at hd
  · rename_i l'
    split at hd
    · rename_i hc
      cases hd
      simp only [Bool.and_eq_true, beq_iff_eq] at hc
      obtain ⟨cs, rfl, hr⟩ := rel_ag.1 h
      exact ⟨cs, rfl, hr, by rw [(relL_iff.1 hr).1]; exact hc.1.2, hc.2, fun _ => rfl, fun e => by rw [hc.1.1] at e; cases e⟩
    · cases hd
  · split at hd
    · rename_i hc
      cases hd
      simp only [Bool.and_eq_true, beq_iff_eq, Bool.not_eq_true'] at hc
      have h1 := h.one hc.2
      refine ⟨[x], ?_, ⟨h, trivial⟩, by simp [hc.1.2], by simp [hc.2], (fun e => by rw [hc.1.1] at e; cases e), fun _ => ⟨rfl, rfl⟩⟩
      cases x <;> first | rfl | (simp [Value.oneCell'] at h1)
    · cases hd
theorem St.cellsAt (h : St cx Fr m Im w a σ) {k : Nat} : ∀ {n o : Nat} {l : List D}, cellsAt σ k o n = some l → l.length = n ∧ (0 < n → ∃ b, m.blk k = some b) ∧ ∀ b, m.blk k = some b → ∃ cs : List Value, RelL m Im w cs l ∧ ∀ i v, cs[i]? = some v → w.cell? ⟨b, o + i, none⟩ = some v
  | 0, o, l, hl => by cases hl; exact ⟨rfl, fun h => absurd h (by simp), fun b hb => ⟨[], trivial, fun i v hv => by simp at hv⟩⟩
  | n + 1, o, l, hl => by
    simp only [Go.Proofs.Ytcblpjheoclkeaa.cellsAt] at hl
    cases hg : get σ (.c k o) with
    | none => rw [hg] at hl; cases hl
    | some d =>
      rw [hg] at hl
      cases hr : Go.Proofs.Ytcblpjheoclkeaa.cellsAt σ k (o + 1) n with
      | none => rw [hr] at hl; cases hl
      | some l' =>
        rw [hr] at hl
        cases hl
        obtain ⟨b, v, h1, h2, h3⟩ := h.ce k o d hg
        obtain ⟨g1, g2, g3⟩ := h.cellsAt hr
        refine ⟨by simp [g1], fun _ => ⟨b, h1⟩, fun b' hb' => ?_⟩
        rw [h1] at hb'; cases hb'
        obtain ⟨cs, q1, q2⟩ := g3 b h1
        refine ⟨v :: cs, ⟨h3, q1⟩, fun i u hu => ?_⟩
        cases i with
        | zero => cases hu; exact h2
        | succ i =>
          have := q2 i u (by simpa using hu)
          rw [show o + (i + 1) = o + 1 + i by omega]; exact this
theorem addr_addN (b o i : Nat) : (⟨b, o, none⟩ : Addr).add i = ⟨b, o + i, none⟩ := by
  unfold Addr.add; split
  · subst_vars; rfl
  · rfl
theorem run_loadD {t b o : Nat} {ti : TI} (ht : TypOk P t ti) {cs : List Value} (hl : cs.length = ti.sz) (hc : ∀ i v, cs[i]? = some v → w.cell? ⟨b, o + i, none⟩ = some v) {l : List D} (hr : RelL m Im w cs l) {d : D} (hd : ofCells ti l = some d) :
    ∃ v, (Instr.loadAt t (.pointer (some ⟨b, o, none⟩))).run P w = .ok v w ∧ Rel m Im w v d := by
  obtain ⟨i, dd, h1, h2, h3, h4, h5, h6, h7, h8⟩ := ht.parts
  unfold ofCells at hd
  cases hag : ti.ag with
  | true =>
    simp only [hag, if_true] at hd
    split at hd
    · cases hd
      refine ⟨.agg cs.toArray, ?_, rel_ag.2 ⟨cs, rfl, hr⟩⟩
      have hlc := run_loadCells_list (P := P) (w := w) ⟨b, o, none⟩ cs fun j v hv => by rw [addr_addN]; exact hc j v hv
      have hag2 : (isAgg t).run P w = .ok true w := by
        unfold isAgg
        rw [hag] at h6
        cases dd <;> simp [isAg] at h6 <;> simp [run_underlying h2]
      simp [Instr.loadAt, Instr.sureAddr, loadVar, hag2, sizeOf, typeInfo, h1, h3, ← hl, hlc]
    · cases hd
  | false =>
    simp only [hag, if_false, Bool.false_eq_true] at hd
    split at hd
    · rename_i d'
      cases hd
      cases cs with
      | nil => exact hr.elim
      | cons v cs =>
        refine ⟨v, ?_, hr.1⟩
        have hcv := hc 0 v rfl
        simp only [Nat.add_zero] at hcv
        have hag2 : (isAgg t).run P w = .ok false w := by
          unfold isAgg
          rw [hag] at h6
          cases dd <;> simp [isAg] at h6 <;> simp [run_underlying h2]
        simp [Instr.loadAt, Instr.sureAddr, loadVar, hag2, hcv]
    · cases hd
end
end Go.Proofs.Ytcblpjheoclkeaa

