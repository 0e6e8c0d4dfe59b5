/-
  How plain data lie in memory: footprints that are kept, slices of any elements, slices that a call is building; and simple types. A region that draws its order: a load may be taken first where every other operation that can come up ahead of it keeps its cell; of what comes behind a store nothing is asked. Heaps as lists: what a sift up and a sift down keep. Endings, sgn, cmp.Compare and cmp.Or of ints; which of two entries comes first. A heap's row of entries in memory; what a call may turn.
-/
import Derived.WalkKit
import Derived.Deep.AppendLies
import Derived.Lib.AppendZerosOnto
import Derived.OrdersHeld
import Derived.Deep.RegionHeld
import Derived.Deep.RegionHeld3
import Derived.Test.YtplfbdkljnblmaaProg
import Derived.Lib.Hide
import Derived.Deep.DrawnRows
import Derived.RegionTactic
import Derived.Shelf.Abstract
set_option linter.unusedVariables false
set_option linter.unusedSimpArgs false
namespace Go.Proofs.Ytplfbdkljnblmaa
open Go.RowKit

def Keep (F : Nat → Prop) (w w' : World) : Prop := ∀ k o v, F k → w.cell? ⟨k, o, none⟩ = some v → w'.cell? ⟨k, o, none⟩ = some v
namespace Keep
variable {F : Nat → Prop} {w w' w'' : World}
theorem refl (F : Nat → Prop) (w : World) : Keep F w w := fun _ _ _ _ h => h
theorem trans (h : Keep F w w') (h' : Keep F w' w'') : Keep F w w'' := fun k o v hk hv => h' k o v hk (h k o v hk hv)
theorem weaken {F' : Nat → Prop} (h : Keep F w w') (hF : ∀ k, F' k → F k) : Keep F' w w' := fun k o v hk hv => h k o v (hF k hk) hv
theorem lt {k o : Nat} {v : Value} (h : w.cell? ⟨k, o, none⟩ = some v) : k < w.heap.size := by
  simp only [World.cell?] at h
  by_cases hk : k < w.heap.size
  · exact hk
  · rw [Array.getElem?_eq_none (by omega)] at h; simp at h
theorem below (h : Keep F w w') (hb : Below w'.heap.size w' w'') : Keep F w w'' :=
  h.trans fun k o _ _ hv => (hb.cell (p := ⟨k, o, none⟩) (lt hv)).trans hv
theorem alloc (h : Keep F w w') (o : Obj) : Keep F w (w'.alloc o) := h.below ((Below.refl _ _).alloc (Nat.le_refl _) _)
theorem drew (h : Keep F w w') : Keep F w w'.drew := h.below (Below.refl _ _).drew
theorem setCell (h : Keep F w w') (p : Addr) (u : Value) (hp : ¬ F p.block) : Keep F w (w'.setCell p u) :=
  h.trans fun k o v hk hv => by
    rw [← hv]; exact World.cell?_of_block (w := w') (a := ⟨k, o, none⟩) (Below.heap_setCell _ _ _ _ (fun e => hp (e ▸ hk)))
theorem grown (h : Keep F w w') {row : Option Nat} (hg : w'.grownBy w'' row) (hr : ∀ k, row = some k → ¬ F k) : Keep F w w'' :=
  h.trans fun k _ _ hk hv => hg.cell hv (fun e => hr k e.symm hk)
end Keep

theorem heap_alloc? (w : World) (o : Obj) (n : Nat) : (w.alloc o).heap[n]? = if n = w.heap.size then some o else w.heap[n]? := by
  by_cases h : n = w.heap.size
  · subst h; rw [if_pos rfl]; exact heap_alloc_new _ _
  · rw [if_neg h]
    show (w.heap.push o)[n]? = _
    rw [Array.getElem?_push, if_neg h]

def Blk (w : World) (n : Nat) (cs : Array Value) (t : TypeId) : Prop := w.heap[n]? = some (.cells cs t (0, 0))
namespace Blk
variable {w w' : World} {n : Nat} {cs : Array Value} {t : TypeId}
theorem lt (h : Blk w n cs t) : n < w.heap.size := lt_of_block h
theorem new (w : World) (cs : Array Value) (t : TypeId) {n : Nat} (h : n = w.heap.size) : Blk (w.alloc (.cells cs t)) n cs t := by
  subst h; exact heap_alloc_new _ _
theorem same (h : Blk w n cs t) (hw : w'.heap[n]? = w.heap[n]?) : Blk w' n cs t := Eq.trans hw h
theorem alloc (h : Blk w n cs t) (o : Obj) : Blk (w.alloc o) n cs t := h.same (by rw [heap_alloc?, if_neg (Nat.ne_of_lt h.lt)])
theorem drew (h : Blk w n cs t) : Blk w.drew n cs t := h
theorem below (h : Blk w n cs t) (hb : Below w.heap.size w w') : Blk w' n cs t := h.same (hb.block n h.lt)
theorem grown (h : Blk w n cs t) {row : Option Nat} (hg : w.grownBy w' row) (hne : row ≠ some n) : Blk w' n cs t := h.same (hg.block n h.lt (Ne.symm hne))
theorem far (h : Blk w n cs t) (p : Addr) (u : Value) (hp : n ≠ p.block) : Blk (w.setCell p u) n cs t := h.same (Below.heap_setCell _ _ _ _ hp)
theorem set (h : Blk w n cs t) (i : Nat) (u : Value) : Blk (w.setCell ⟨n, i, none⟩ u) n (cs.setIfInBounds i u) t := by
  have h' : w.heap[n]? = some (.cells cs t (0, 0)) := h
  show (w.heap.modify n _)[n]? = _
  simp [Array.getElem?_modify, h']
theorem cell (h : Blk w n cs t) {i : Nat} {v : Value} (hv : cs[i]? = some v) : w.cell? ⟨n, i, none⟩ = some v := by
  have h' : w.heap[n]? = some (.cells cs t (0, 0)) := h
  simp [World.cell?, h', hv]
theorem free (h : Blk w n cs t) (i : Nat) : w.frozen? ⟨n, i, none⟩ = false := by
  have h' : w.heap[n]? = some (.cells cs t (0, 0)) := h
  simp [World.frozen?, h']
end Blk
theorem below_push {w0 w w1 w2 : World} {B : Nat} {o : Obj} {row : Option Nat} (hb : Below B w0 w) (hB : B ≤ w.heap.size) (hb1 : Below w.drew.heap.size w.drew w1) (hg : (w1.alloc o).grownBy w2 row) (hr : ∀ k, row = some k → B ≤ k) : Below B w0 w2 :=
  ((hb.drew.trans (hb1.mono hB)).alloc (Nat.le_trans hB hb1.size) _).grown hg (by have := hb1.size; simp at this ⊢; omega) hr
theorem Blk.push {w w1 w2 : World} {o : Obj} {row : Option Nat} {n : Nat} {cs : Array Value} {t : TypeId} (h : Blk w n cs t) (hb1 : Below w.drew.heap.size w.drew w1) (hg : (w1.alloc o).grownBy w2 row) (hne : row ≠ some n) : Blk w2 n cs t :=
  ((Blk.below (w := w.drew) h hb1).alloc o).grown hg hne

structure Rp (α : Type) where
  n : Nat
  R : (Nat → Prop) → World → List Value → α → Prop
  len : ∀ {F w x a}, R F w x a → x.length = n
  one : ∀ {F w x a}, R F w x a → ∀ u ∈ x, u.oneCell' = true
  keep : ∀ {F w w' x a}, R F w x a → Keep F w w' → R F w' x a
  weaken : ∀ {F F' w x a}, R F w x a → (∀ k, k < w.heap.size → F k → F' k) → R F' w x a

def IsSl {α : Type} (r : Rp α) (F : Nat → Prop) (w : World) (v : Value) (l : List α) : Prop :=
  ∃ (a : Option Addr) (c bl off : Nat) (X : Nat → List Value), v = .slice a l.length c ∧ (l.length ≤ maxLen ∧ l.length ≤ c) ∧ (0 < l.length → a = some ⟨bl, off, none⟩ ∧ F bl) ∧
    (∀ i j u, i < l.length → (X i)[j]? = some u → w.cell? ⟨bl, off + i * r.n + j, none⟩ = some u) ∧ ∀ i (h : i < l.length), r.R F w (X i) l[i]

theorem IsSl.keep {α : Type} {r : Rp α} {F : Nat → Prop} {w w' : World} {v : Value} {l : List α} (h : IsSl r F w v l) (hw : Keep F w w') : IsSl r F w' v l := by
  obtain ⟨a, c, bl, off, X, hv, hl, ha, h1, h2⟩ := h
  exact ⟨a, c, bl, off, X, hv, hl, ha, fun i j u hi hu => hw _ _ _ (ha (by omega)).2 (h1 i j u hi hu), fun i hi => r.keep (h2 i hi) hw⟩
theorem IsSl.weaken {α : Type} {r : Rp α} {F F' : Nat → Prop} {w : World} {v : Value} {l : List α} (hn : 0 < r.n) (h : IsSl r F w v l) (hF : ∀ k, k < w.heap.size → F k → F' k) : IsSl r F' w v l := by
  obtain ⟨a, c, bl, off, X, hv, hl, ha, h1, h2⟩ := h
  refine ⟨a, c, bl, off, X, hv, hl, fun h0 => ⟨(ha h0).1, hF _ ?_ (ha h0).2⟩, h1, fun i hi => r.weaken (h2 i hi) hF⟩
  have hx := r.len (h2 0 h0)
  exact Keep.lt (h1 0 0 ((X 0)[0]'(by omega)) h0 (by simp))

def Acc {α : Type} (r : Rp α) (E : TypeId) (base : Nat) (F : Nat → Prop) (w : World) (v : Value) (l : List α) : Prop :=
  ∃ X : List (List Value), X.length = l.length ∧ w.ownsRow base E r.n v l.length X.flatten ∧ ∀ i (h : i < l.length), ∃ x, X[i]? = some x ∧ r.R (fun k => F k ∧ v.ownBlock ≠ some k) w x l[i]

theorem ownsRow_below {w w' : World} {base : Nat} {e : TypeId} {size : Nat} {v : Value} {n : Nat} {xs : List Value} (h : w.ownsRow base e size v n xs) (hb : Below w.heap.size w w') : w'.ownsRow base e size v n xs :=
  h.kept ⟨hb.os, hb.tape, hb.output, hb.size, fun k hk _ => hb.block k hk⟩ (row := none) (by cases h : v.ownBlock <;> simp)
namespace Acc
variable {α : Type} {r : Rp α} {E : TypeId} {base : Nat} {F : Nat → Prop} {w w' : World} {v : Value} {l : List α}
theorem nil (r : Rp α) (E : TypeId) (base : Nat) (F : Nat → Prop) (w : World) : Acc r E base F w (.slice none 0 0) [] :=
  ⟨[], rfl, World.ownsRow_nil _ _ _ _, fun i h => absurd h (by simp)⟩
theorem below (h : Acc r E base F w v l) (hb : Below w.heap.size w w') : Acc r E base F w' v l := by
  obtain ⟨X, h1, h2, h3⟩ := h
  refine ⟨X, h1, ownsRow_below h2 hb, fun i hi => ?_⟩
  obtain ⟨x, hx, hr⟩ := h3 i hi
  exact ⟨x, hx, r.keep hr ((Keep.refl _ _).below hb)⟩
theorem alloc (h : Acc r E base F w v l) (o : Obj) : Acc r E base F (w.alloc o) v l := h.below ((Below.refl _ _).alloc (Nat.le_refl _) _)
theorem drew (h : Acc r E base F w v l) : Acc r E base F w.drew v l := h.below (Below.refl _ _).drew
theorem setCell (h : Acc r E base F w v l) (p : Addr) (u : Value) (hp : ¬ F p.block) (hb : p.block < base) : Acc r E base F (w.setCell p u) v l := by
  obtain ⟨X, h1, h2, h3⟩ := h
  refine ⟨X, h1, ownsRow_setCell_below h2 hb u, fun i hi => ?_⟩
  obtain ⟨x, hx, hr⟩ := h3 i hi
  exact ⟨x, hx, r.keep hr ((Keep.refl _ _).setCell _ _ (fun hc => hp hc.1))⟩
theorem len_shape (h : Acc r E base F w v l) : ∃ a c, v = .slice a l.length c := by
  obtain ⟨X, h1, h2, h3⟩ := h
  rcases h2.2 with ⟨rfl, h0⟩ | ⟨g, cap, cur, hv, _⟩
  · exact ⟨none, 0, by rw [h0]⟩
  · exact ⟨_, _, hv⟩
theorem base_le (h : Acc r E base F w v l) : ∀ k, v.ownBlock = some k → base ≤ k ∧ k < w.heap.size := by
  obtain ⟨X, h1, h2, h3⟩ := h
  exact h2.lt
theorem sl {F' : Nat → Prop} (h : Acc r E base F w v l) (hF : ∀ k, k < w.heap.size → F k → F' k) (hbase : ∀ k, base ≤ k → F' k) : IsSl r F' w v l := by
  obtain ⟨X, h1, h2, h3⟩ := h
  have hx : ∀ i (hi : i < l.length), r.R F' w (X.getD i []) l[i] := fun i hi => by
    obtain ⟨x, hx, hr⟩ := h3 i hi
    have : X.getD i [] = x := by simp [hx]
    rw [this]
    exact r.weaken hr fun k hk hc => hF k hk hc.1
  rcases h2.2 with ⟨rfl, h0⟩ | ⟨g, cap, cur, rfl, hg, hh, hn, hm, hs, ht⟩
  · exact ⟨none, 0, 0, 0, fun i => X.getD i [], by rw [h0], by omega, fun h => absurd h (by omega), fun i _ _ hi => absurd hi (by omega), hx⟩
  · refine ⟨some ⟨g, 0, none⟩, cap, g, 0, fun i => X.getD i [], rfl, by omega, fun _ => ⟨rfl, hbase g hg⟩, fun i j u hi hu => ?_, hx⟩
    have hl : ∀ i, i < X.length → (X.getD i []).length = r.n := fun i hi => r.len (hx i (by omega))
    have key : X.flatten[i * r.n + j]? = some u := by
      have hall : ∀ (Y : List (List Value)), (∀ i, i < Y.length → (Y.getD i []).length = r.n) → ∀ i j u, i < Y.length → (Y.getD i [])[j]? = some u → Y.flatten[i * r.n + j]? = some u := by
        intro Y
        induction Y with
        | nil => intro _ i j u hi; simp at hi
        | cons y Y ih =>
          intro hY i j u hi hu
          have hy : y.length = r.n := by have := hY 0 (by simp); simpa using this
          rw [List.flatten_cons]
          cases i with
          | zero =>
            simp at hu
            have : j < y.length := by
              rcases Nat.lt_or_ge j y.length with h | h
              · exact h
              · rw [List.getElem?_eq_none h] at hu; cases hu
            rw [List.getElem?_append_left (by omega)]; simpa using hu
          | succ i =>
            rw [List.getElem?_append_right (by rw [hy, Nat.succ_mul]; omega)]
            have := ih (fun i hi => by have := hY (i + 1) (by simpa using hi); simpa using this) i j u (by simpa using hi) (by simpa using hu)
            rw [← this]; congr 1; rw [hy, Nat.succ_mul]; omega
      exact hall X hl i j u (by omega) hu
    rw [← ht] at key
    simp only [World.cell?, hh]
    rw [List.getElem?_take] at key
    split at key
    · simpa using key
    · cases key
theorem push_own {X : List (List Value)} {x : List Value} {a : α} {v' : Value} (hX : X.length = l.length) (h3 : ∀ i (h : i < l.length), ∃ x, X[i]? = some x ∧ r.R (fun k => F k ∧ v.ownBlock ≠ some k) w x l[i])
    (hx : r.R (fun k => F k ∧ v.ownBlock ≠ some k) w x a) (hown : w'.ownsRow base E r.n v' (l.length + 1) (X.flatten ++ x)) (hgrow : w.grownBy w' v.ownBlock) (hat : v'.ownBlock = v.ownBlock ∨ v'.ownBlock = some w.heap.size) :
    Acc r E base F w' v' (l ++ [a]) := by
  have hk : ∀ {x : List Value} {b : α}, r.R (fun k => F k ∧ v.ownBlock ≠ some k) w x b → r.R (fun k => F k ∧ v'.ownBlock ≠ some k) w' x b := fun {x b} h => by
    have h0 := r.keep h ((Keep.refl _ _).grown hgrow (fun k hk hc => hc.2 hk))
    rcases hat with hat | hat
    · rw [hat]; exact h0
    · have h1 : r.R (fun k => F k ∧ k < w.heap.size ∧ v.ownBlock ≠ some k) w x b := r.weaken h fun k hk hc => ⟨hc.1, hk, hc.2⟩
      have h2 := r.keep h1 ((Keep.refl _ _).grown hgrow (fun k hk hc => hc.2.2 hk))
      exact r.weaken h2 fun k _ hc => ⟨hc.1, by rw [hat]; intro e; cases e; omega⟩
  refine ⟨X ++ [x], by simp [hX], by simpa using hown, fun i hi => ?_⟩
  by_cases hi' : i < l.length
  · obtain ⟨y, hy, hr⟩ := h3 i hi'
    refine ⟨y, by rw [List.getElem?_append_left (by omega)]; exact hy, ?_⟩
    rw [List.getElem_append_left hi']; exact hk hr
  · have hie : i = l.length := by simp at hi; omega
    subst hie
    refine ⟨x, by rw [List.getElem?_append_right (by omega)]; simp [hX], ?_⟩
    rw [List.getElem_append_right (by omega)]; simpa using hk hx
end Acc

theorem step_push {α : Type} (r : Rp α) (hrn : 0 < r.n) {P : Program} {w : World} {ops : Array Oper} {o : Oper} {a : Act} {K : Act → World → Prop} {Q : Exit → Act → World → Prop} {E0 : Prop} (hgd : o.guard = none) (s x : Operand) (t : TypeId)
    (ho : o.op = .call { callee := .builtin .append, args := #[s, x], argTypes := #[t, t] })
    (base : Nat) (e : TypeId) (i : TypeInfo) (z : Value) (bytes : Nat) (ht : P.underlying t = some (.slice e)) (hi : P.info? e = some i) (hz : i.zero = some z)
    (hsize : i.size = r.n) (hby : i.bytes = bytes) (hzs : z.cells.size = r.n) (hbb : bytes ≤ 1000)
    (F : Nat → Prop) (v : Value) (l : List α) (hs : a.eval s = v) (hacc : Acc r e base F w v l) (hl : l.length ≤ 1000000)
    (B c : Nat) (y : List Value) (b : α) (hx : a.eval x = .slice (some ⟨B, 0, none⟩) 1 c) (hB : w.heap[B]? = some (.cells y.toArray e (0, 0))) (hy : r.R (fun k => F k ∧ v.ownBlock ≠ some k) w y b)
    (hbase : base ≤ w.heap.size)
    (h : ∀ g cap w', Acc r e base F w' (.slice (some ⟨g, 0, none⟩) (l.length + 1) cap) (l ++ [b]) → w.grownBy w' v.ownBlock → (v.ownBlock = some g ∨ g = w.heap.size) → g < w'.heap.size → K (a.put o.dst (.slice (some ⟨g, 0, none⟩) (l.length + 1) cap)) w') :
    if Region.wanted o (yielded ops a.tmps) = true then Oper.wp P o a w K Q else E0 := by
  obtain ⟨X, h1, h2, h3⟩ := hacc
  refine step_append_lies w hgd s x t ho base e i z r.n bytes ht hi hz hsize hby hzs hrn v l.length X.flatten hs h2 ⟨B, 0, none⟩ 1 c y hx (by rw [r.len hy]; omega) (World.news_of_block hB) (r.one hy) (by omega) (by unfold maxLen; omega) ?_ hbase w.heap.size rfl ?_
  · have : (l.length + 1) * bytes ≤ 1000001 * 1000 := Nat.mul_le_mul (by omega) hbb
    omega
  · intro g cap w' hown hgrow hat hlt
    refine h g cap w' (Acc.push_own h1 h3 hy hown hgrow ?_) hgrow hat hlt
    rcases hat with hat | hat
    · exact .inl (by rw [hat]; rfl)
    · exact .inr (by rw [hat]; rfl)
theorem wpList_push {α : Type} (r : Rp α) (hrn : 0 < r.n) {P : Program} {w : World} {ops : Array Oper} {rest : List Oper} {o : Oper} {a : Act} {Q : Exit → Act → World → Prop} (hgd : o.guard = none) (s x : Operand) (t : TypeId)
    (ho : o.op = .call { callee := .builtin .append, args := #[s, x], argTypes := #[t, t] })
    (base : Nat) (e : TypeId) (i : TypeInfo) (z : Value) (bytes : Nat) (ht : P.underlying t = some (.slice e)) (hi : P.info? e = some i) (hz : i.zero = some z)
    (hsize : i.size = r.n) (hby : i.bytes = bytes) (hzs : z.cells.size = r.n) (hbb : bytes ≤ 1000)
    (F : Nat → Prop) (v : Value) (l : List α) (hs : a.eval s = v) (hacc : Acc r e base F w v l) (hl : l.length ≤ 1000000)
    (B c : Nat) (y : List Value) (b : α) (hx : a.eval x = .slice (some ⟨B, 0, none⟩) 1 c) (hB : w.heap[B]? = some (.cells y.toArray e (0, 0))) (hy : r.R (fun k => F k ∧ v.ownBlock ≠ some k) w y b)
    (hbase : base ≤ w.heap.size)
    (h : ∀ g cap w', Acc r e base F w' (.slice (some ⟨g, 0, none⟩) (l.length + 1) cap) (l ++ [b]) → w.grownBy w' v.ownBlock → (v.ownBlock = some g ∨ g = w.heap.size) → g < w'.heap.size → wpList P ops Q rest (a.put o.dst (.slice (some ⟨g, 0, none⟩) (l.length + 1) cap)) w') :
    wpList P ops Q (o :: rest) a w := by
  obtain ⟨X, h1, h2, h3⟩ := hacc
  refine wpList_append_lies w hgd s x t ho base e i z r.n bytes ht hi hz hsize hby hzs hrn v l.length X.flatten hs h2 ⟨B, 0, none⟩ 1 c y hx (by rw [r.len hy]; omega) (World.news_of_block hB) (r.one hy) (by omega) (by unfold maxLen; omega) ?_ hbase w.heap.size rfl ?_
  · have : (l.length + 1) * bytes ≤ 1000001 * 1000 := Nat.mul_le_mul (by omega) hbb
    omega
  · intro g cap w' hown hgrow hat hlt
    refine h g cap w' (Acc.push_own h1 h3 hy hown hgrow ?_) hgrow hat hlt
    rcases hat with hat | hat
    · exact .inl (by rw [hat]; rfl)
    · exact .inr (by rw [hat]; rfl)

def IsSl2 {α : Type} (r : Rp α) (G F : Nat → Prop) (w : World) (v : Value) (l : List α) : Prop :=
  ∃ (a : Option Addr) (c bl off : Nat) (X : Nat → List Value), v = .slice a l.length c ∧ (l.length ≤ maxLen ∧ l.length ≤ c) ∧ (0 < l.length → a = some ⟨bl, off, none⟩ ∧ G bl) ∧
    (∀ i j u, i < l.length → (X i)[j]? = some u → w.cell? ⟨bl, off + i * r.n + j, none⟩ = some u) ∧ ∀ i (h : i < l.length), r.R F w (X i) l[i]
namespace IsSl2
variable {α : Type} {r : Rp α} {G F : Nat → Prop} {w w' : World} {v : Value} {l : List α}
theorem of (h : IsSl r F w v l) : IsSl2 r F F w v l := h
theorem keep (h : IsSl2 r G F w v l) (hG : Keep G w w') (hF : Keep F w w') : IsSl2 r G F w' v l := by
  obtain ⟨a, c, bl, off, X, hv, hl, ha, h1, h2⟩ := h
  exact ⟨a, c, bl, off, X, hv, hl, ha, fun i j u hi hu => hG _ _ _ (ha (by omega)).2 (h1 i j u hi hu), fun i hi => r.keep (h2 i hi) hF⟩
theorem bel (h : IsSl2 r G F w v l) (hb : Below w.heap.size w w') : IsSl2 r G F w' v l := h.keep ((Keep.refl _ _).below hb) ((Keep.refl _ _).below hb)
theorem weaken {G' F' : Nat → Prop} (hn : 0 < r.n) (h : IsSl2 r G F w v l) (hG : ∀ k, k < w.heap.size → G k → G' k) (hF : ∀ k, k < w.heap.size → F k → F' k) : IsSl2 r G' F' w v l := by
  obtain ⟨a, c, bl, off, X, hv, hl, ha, h1, h2⟩ := h
  refine ⟨a, c, bl, off, X, hv, hl, fun h0 => ⟨(ha h0).1, hG _ ?_ (ha h0).2⟩, h1, fun i hi => r.weaken (h2 i hi) hF⟩
  have hx := r.len (h2 0 h0)
  exact Keep.lt (h1 0 0 ((X 0)[0]'(by omega)) h0 (by simp))
theorem anyRow (hn : 0 < r.n) (h : IsSl2 r G F w v l) : IsSl2 r (fun _ => True) F w v l := h.weaken hn (fun _ _ _ => trivial) (fun _ _ h => h)
theorem sl (hn : 0 < r.n) (h : IsSl2 r G F w v l) {F' : Nat → Prop} (hG : ∀ k, k < w.heap.size → G k → F' k) (hF : ∀ k, k < w.heap.size → F k → F' k) : IsSl r F' w v l := h.weaken hn hG hF
theorem shape (h : IsSl2 r G F w v l) : ∃ a c, v = .slice a l.length c := by
  obtain ⟨a, c, _, _, _, hv, _⟩ := h
  exact ⟨a, c, hv⟩
end IsSl2
theorem Acc.sl2 {α : Type} {r : Rp α} {E : TypeId} {base : Nat} {F : Nat → Prop} {w : World} {v : Value} {l : List α} (h : Acc r E base F w v l) : IsSl2 r (fun q => base ≤ q) F w v l := by
  obtain ⟨X, h1, h2, h3⟩ := h
  let r2 : Rp α := { n := r.n, R := fun _ _ x a => r.R F w x a, len := r.len, one := r.one, keep := fun h _ => h, weaken := fun h _ => h }
  have h0 : IsSl r2 (fun k => base ≤ k ∨ False) w v l := Acc.sl (F := fun _ => False) ⟨X, h1, h2, fun i hi => by
    obtain ⟨x, hx, hr⟩ := h3 i hi
    exact ⟨x, hx, r.weaken hr fun _ _ hc => hc.1⟩⟩ (fun _ _ h => .inr h) (fun _ h => .inl h)
  obtain ⟨a, c, bl, off, Y, hv, hl, ha, g1, g2⟩ := h0
  exact ⟨a, c, bl, off, Y, hv, hl, fun h => ⟨(ha h).1, (ha h).2.resolve_right id⟩, g1, g2⟩

/-! a whole slice appended -/
theorem flat_len {X : Nat → List Value} {n : Nat} : ∀ m, (∀ i, i < m → (X i).length = n) → ((List.range m).map X).flatten.length = m * n := by
  intro m
  induction m with
  | zero => intro _; simp
  | succ m ih =>
    intro h
    rw [List.range_succ, List.map_append, List.flatten_append, List.length_append, ih (fun i hi => h i (by omega))]
    simp [h m (by omega), Nat.succ_mul]
theorem flat_get {X : Nat → List Value} {n : Nat} (hn : 0 < n) : ∀ m, (∀ i, i < m → (X i).length = n) → ∀ j u, ((List.range m).map X).flatten[j]? = some u → j / n < m ∧ (X (j / n))[j % n]? = some u := by
  intro m
  induction m with
  | zero => intro _ j u h; simp at h
  | succ m ih =>
    intro h j u hj
    have hl := flat_len m (fun i hi => h i (by omega))
    rw [List.range_succ, List.map_append, List.flatten_append] at hj
    by_cases hjm : j < m * n
    · rw [List.getElem?_append_left (by omega)] at hj
      have := ih (fun i hi => h i (by omega)) j u hj
      exact ⟨by omega, this.2⟩
    · rw [List.getElem?_append_right (by omega), hl] at hj
      simp at hj
      have hx := h m (by omega)
      have hlt : j - m * n < n := by
        rcases Nat.lt_or_ge (j - m * n) n with h' | h'
        · exact h'
        · rw [List.getElem?_eq_none (by omega)] at hj; cases hj
      have e1 : j = (j - m * n) + n * m := by rw [Nat.mul_comm n m]; omega
      have e2 : j / n = m := by rw [e1, Nat.add_mul_div_left _ _ hn, Nat.div_eq_of_lt hlt]; omega
      have e3 : j % n = j - m * n := by
        conv => lhs; rw [e1]
        rw [Nat.add_mul_mod_self_left, Nat.mod_eq_of_lt hlt]
      exact ⟨by omega, by rw [e2, e3]; exact hj⟩

theorem run_append_none {P : Program} (w : World) (t ty e : TypeId) (i : TypeInfo) (ht : P.underlying t = some (.slice e)) (hi : P.info? e = some i) {base : Nat} {size : Nat} {v : Value} {n : Nat} {xs : List Value}
    (hown : w.ownsRow base e size v n xs) (c : Nat) : (Builtin.append_ #[t, t] ty #[v, .slice none 0 c]).run P w = .ok v w := by
  rcases hown.2 with ⟨rfl, rfl⟩ | ⟨g, cap, cur, rfl, hbg, hg, hnc, hcm, hcs, htake⟩
  · simp [Builtin.append_, run_underlying ht, sizeOf, typeInfo, hi, Builtin.lenOf, Builtin.firstCells]
  · simp [Builtin.append_, run_underlying ht, sizeOf, typeInfo, hi, Builtin.lenOf, Builtin.firstCells, hnc, storeCells]

theorem run_append_sl {α : Type} (r : Rp α) (hrn : 0 < r.n) {P : Program} (w : World) (t ty : TypeId) (base : Nat) (e : TypeId) (i : TypeInfo) (z : Value) (bytes : Nat) (ht : P.underlying t = some (.slice e)) (hi : P.info? e = some i) (hz : i.zero = some z)
    (hsize : i.size = r.n) (hby : i.bytes = bytes) (hzs : z.cells.size = r.n) (hbb : bytes ≤ 1000)
    (F : Nat → Prop) (v : Value) (l : List α) (hacc : Acc r e base F w v l) (x : Value) (l2 : List α) {G : Nat → Prop} (hx : IsSl2 r G (fun k => F k ∧ v.ownBlock ≠ some k) w x l2) (hl : l.length + l2.length ≤ 1000000) (hbase : base ≤ w.heap.size) :
    ∃ v' w', (Builtin.append_ #[t, t] ty #[v, x]).run P w = .ok v' w' ∧ Acc r e base F w' v' (l ++ l2) ∧ w.grownBy w' v.ownBlock ∧ (v'.ownBlock = v.ownBlock ∨ v'.ownBlock = some w.heap.size) := by
  obtain ⟨X, h1, h2, h3⟩ := hacc
  obtain ⟨a, c, bl, off, Y, rfl, hm, ha, g1, g2⟩ := hx
  have hlen : ∀ i, i < l2.length → (Y i).length = r.n := fun i hi => r.len (g2 i hi)
  have step : ∀ v' w', w'.ownsRow base e r.n v' (l.length + l2.length) (X.flatten ++ ((List.range l2.length).map Y).flatten) → w.grownBy w' v.ownBlock → (v'.ownBlock = v.ownBlock ∨ v'.ownBlock = some w.heap.size) → Acc r e base F w' v' (l ++ l2) := by
    intro v' w' hown hgrow hat
    have hk : ∀ {x : List Value} {b : α}, r.R (fun k => F k ∧ v.ownBlock ≠ some k) w x b → r.R (fun k => F k ∧ v'.ownBlock ≠ some k) w' x b := fun {x b} h => by
      have h0 := r.keep h ((Keep.refl _ _).grown hgrow (fun k hk hc => hc.2 hk))
      rcases hat with hat | hat
      · rw [hat]; exact h0
      · have h1 : r.R (fun k => F k ∧ k < w.heap.size ∧ v.ownBlock ≠ some k) w x b := r.weaken h fun k hk hc => ⟨hc.1, hk, hc.2⟩
        have h2 := r.keep h1 ((Keep.refl _ _).grown hgrow (fun k hk hc => hc.2.2 hk))
        exact r.weaken h2 fun k _ hc => ⟨hc.1, by rw [hat]; intro e; cases e; omega⟩
    refine ⟨X ++ (List.range l2.length).map Y, by simp [h1], by simpa using hown, fun i hi => ?_⟩
    by_cases hi' : i < l.length
    · obtain ⟨y, hy, hr⟩ := h3 i hi'
      refine ⟨y, by rw [List.getElem?_append_left (by omega)]; exact hy, ?_⟩
      rw [List.getElem_append_left hi']; exact hk hr
    · rw [List.length_append] at hi
      have hr := g2 (i - l.length) (by omega)
      refine ⟨Y (i - l.length), by rw [List.getElem?_append_right (by omega), h1, List.getElem?_map, List.getElem?_range (by omega)]; rfl, ?_⟩
      rw [List.getElem_append_right (by omega)]; exact hk hr
  by_cases h0 : l2.length = 0
  · have hn : l2 = [] := List.eq_nil_of_length_eq_zero h0
    subst hn
    cases a with
    | none =>
      refine ⟨v, w, run_append_none w t ty e i ht hi h2 c, by rw [List.append_nil]; exact ⟨X, h1, h2, h3⟩, ⟨rfl, rfl, rfl, Nat.le_refl _, fun _ _ _ => rfl⟩, .inl rfl⟩
    | some a =>
      obtain ⟨v', w', hr, h4, h5, h6, h7⟩ := run_append_own_at (P := P) w base t ty e i z r.n bytes ht hi hz hsize hby hzs hrn v l.length X.flatten h2 a 0 c [] (by simp) (by simp) (by simp) (by unfold maxLen; simp at hl; omega) (by
        have : (l.length + 0) * bytes ≤ 1000000 * 1000 := Nat.mul_le_mul (by simp at hl; omega) hbb
        omega) hbase
      exact ⟨v', w', hr, step v' w' (by simpa using h4) h5 h7, h5, h7⟩
  · obtain ⟨rfl, hF⟩ := ha (by omega)
    obtain ⟨v', w', hr, h4, h5, h6, h7⟩ := run_append_own_at (P := P) w base t ty e i z r.n bytes ht hi hz hsize hby hzs hrn v l.length X.flatten h2 ⟨bl, off, none⟩ l2.length c ((List.range l2.length).map Y).flatten
      (flat_len _ hlen) (fun j u hj => by
        obtain ⟨q1, q2⟩ := flat_get hrn _ hlen j u hj
        have := g1 _ _ u q1 q2
        have hadd : (⟨bl, off, none⟩ : Addr).add j = ⟨bl, off + j / r.n * r.n + j % r.n, none⟩ := by
          have hq := Nat.div_add_mod' j r.n
          unfold Addr.add
          split
          · rename_i hj0; simp [hj0]
          · simp; omega
        rw [hadd]; exact this) (fun u hu => by
        obtain ⟨y, hy, hu⟩ := List.mem_flatten.1 hu
        obtain ⟨i, hi, rfl⟩ := List.mem_map.1 hy
        exact r.one (g2 i (by simpa using hi)) u hu) (by unfold maxLen; omega) (by
        have : (l.length + l2.length) * bytes ≤ 1000000 * 1000 := Nat.mul_le_mul (by omega) hbb
        omega) hbase
    exact ⟨v', w', hr, step v' w' h4 h5 h7, h5, h7⟩

theorem wpList_append_eq {P : Program} {w w' : World} {ops : Array Oper} {rest : List Oper} {o : Oper} {a : Act} {Q : Exit → Act → World → Prop} (hgd : o.guard = none) (s x : Operand) (ta tb : TypeId) (v' : Value)
    (ho : o.op = .call { callee := .builtin .append, args := #[s, x], argTypes := #[ta, tb] }) (hr : (Builtin.append_ #[ta, tb] o.type #[a.eval s, a.eval x]).run P w = .ok v' w')
    (h : wpList P ops Q rest (a.put o.dst v') w') : wpList P ops Q (o :: rest) a w := by
  refine wpList_plain hgd fun _ hK => ?_
  unfold Oper.wp execOp
  simp only [ho, resolve, invoke, builtin, Sem.run_bind, Sem.run_pure, Result.andThen_ok, List.map_toArray, List.map_cons, List.map_nil, hr]
  exact hK _ _ h
theorem wpList_push_sl {α : Type} (r : Rp α) (hrn : 0 < r.n) {P : Program} {w : World} {ops : Array Oper} {rest : List Oper} {o : Oper} {a : Act} {Q : Exit → Act → World → Prop} (hgd : o.guard = none) (s x : Operand) (t : TypeId)
    (ho : o.op = .call { callee := .builtin .append, args := #[s, x], argTypes := #[t, t] })
    (base : Nat) (e : TypeId) (i : TypeInfo) (z : Value) (bytes : Nat) (ht : P.underlying t = some (.slice e)) (hi : P.info? e = some i) (hz : i.zero = some z)
    (hsize : i.size = r.n) (hby : i.bytes = bytes) (hzs : z.cells.size = r.n) (hbb : bytes ≤ 1000)
    (F : Nat → Prop) (v : Value) (l : List α) (hs : a.eval s = v) (hacc : Acc r e base F w v l) (y : Value) (l2 : List α) (hx : a.eval x = y) {G : Nat → Prop} (hy : IsSl2 r G (fun k => F k ∧ v.ownBlock ≠ some k) w y l2) (hl : l.length + l2.length ≤ 1000000) (hbase : base ≤ w.heap.size)
    (h : ∀ v' w', Acc r e base F w' v' (l ++ l2) → w.grownBy w' v.ownBlock → (v'.ownBlock = v.ownBlock ∨ v'.ownBlock = some w.heap.size) → wpList P ops Q rest (a.put o.dst v') w') :
    wpList P ops Q (o :: rest) a w := by
  obtain ⟨v', w', hr, h2, h3, h4⟩ := run_append_sl r hrn (P := P) w t o.type base e i z bytes ht hi hz hsize hby hzs hbb F v l hacc y l2 hy hl hbase
  refine wpList_plain hgd fun _ hK => ?_
  unfold Oper.wp execOp
  simp only [ho, resolve, invoke, builtin, Sem.run_bind, Sem.run_pure, Result.andThen_ok, List.map_toArray, List.map_cons, List.map_nil, hs, hx, hr]
  exact hK _ _ (h v' w' h2 h3 h4)

end Go.Proofs.Ytplfbdkljnblmaa

namespace Go.Proofs.Ytplfbdkljnblmaa

section
variable {P : Program} {ops : Array Oper} {Q : Exit → Act → World → Prop} {md : Region.Mode} {S : World → Prop}

def asksS (ops : Array Oper) (j : Nat) : Bool := match ops[j]? with
  | none => true
  | some o => match o.op with
    | .store .. => false
    | .assign _ => false
    | _ => true

def wpN (P : Program) (md : Region.Mode) (ops : Array Oper) (Q : Exit → Act → World → Prop) (S : World → Prop) : Nat → Array Bool → Act → World → Prop
  | 0, listed, a, w => Region.ready md ops listed = [] ∧ Q .normal a w
  | n + 1, listed, a, w =>
    (Region.ready md ops listed = [] → Q .normal a w) ∧
    ∀ i ∈ Region.ready md ops listed, wpOp P ops Q i (fun a' w' => (asksS ops i = true → S w → S w') ∧ wpN P md ops Q S n (listed.setIfInBounds i true) a' w') a w

theorem wpN_any : ∀ (n : Nat) (listed : Array Bool) (a : Act) (w : World), wpN P md ops Q S n listed a w → wpAny P md ops Q n listed a w
  | 0, _, _, _, h => h
  | n + 1, _, _, _, h => ⟨h.1, fun i hi => wpOp_mono (fun a' w' hh => wpN_any n _ a' w' hh.2) (h.2 i hi)⟩

def lateOk (md : Region.Mode) (ops : Array Oper) (listed : Array Bool) (i : Nat) : Bool :=
  (List.range ops.size).all fun j => asksS ops j || j == i || listed.getD j true || match ops[j]? with
    | some oj => oj.after.any (fun e => Region.binds md e && e.on == i)
    | none => true

theorem lateOk_spec {i : Nat} {listed : Array Bool} (h : lateOk md ops listed i = true) (j : Nat) (oj : Oper) (hj : ops[j]? = some oj) (hne : j ≠ i) (hun : listed.getD j true = false)
    (hno : ∀ e ∈ oj.after, Region.binds md e = true → e.on ≠ i) : asksS ops j = true := by
  simp only [lateOk, List.all_eq_true, List.mem_range] at h
  have h1 := h j (Array.getElem?_eq_some_iff.1 hj).1
  simp only [hj, Bool.or_eq_true, beq_iff_eq, hne, hun, or_false, Bool.false_eq_true] at h1
  rcases h1 with h1 | h1
  · exact h1
  · obtain ⟨e, he, hb⟩ := Array.any_eq_true'.1 h1
    simp only [Bool.and_eq_true, beq_iff_eq] at hb
    exact absurd hb.2 (hno e he hb.1)

theorem wpN_first {i : Nat} {oi : Oper} {v : Value} (hi : ops[i]? = some oi) (hsel : ∀ (j : Nat) (o : Oper) cs b, ops[j]? = some o → o.op ≠ .select cs b)
    (hQ : ∀ c a w, Q (.panic c) (a.put oi.dst v) w → Q (.panic c) a w) (hai : asksS ops i = true) :
    ∀ (n : Nat) (listed : Array Bool) (a : Act) (w : World),
      (∀ j oj, ops[j]? = some oj → j ≠ i → listed.getD j true = false → (∀ e ∈ oj.after, Region.binds md e = true → e.on ≠ i) → oi.apart ops oj = true ∧ asksS ops j = true) →
      i ∈ Region.ready md ops listed → YieldsIf P ops S oi v a → S w →
      wpN P md ops Q S n (listed.setIfInBounds i true) (a.put oi.dst v) w → wpN P md ops Q S (n + 1) listed a w := by
  intro n
  induction n with
  | zero =>
    intro listed a w _ hr hy hS H
    refine ⟨fun h0 => (by rw [h0] at hr; cases hr), fun j hj => ?_⟩
    by_cases hji : j = i
    · subst hji; exact hy.wpOp hi hS ⟨fun _ h => h, H⟩
    · have h0 := ready_mono hj hji
      rw [H.1] at h0; cases h0
  | succ n ih =>
    intro listed a w hfree hr hy hS H
    refine ⟨fun h0 => (by rw [h0] at hr; cases hr), fun j hj => ?_⟩
    by_cases hji : j = i
    · subst hji; exact hy.wpOp hi hS ⟨fun _ h => h, H⟩
    · have hrest := H.2 j (ready_mono hj hji)
      obtain ⟨hjun, oj, hoj, hall⟩ := mem_ready.1 hj
      have hiun := (mem_ready.1 hr).1
      have hnot : ∀ e ∈ oj.after, Region.binds md e = true → e.on ≠ i := fun e he hb heq => by
        have hl := hall e he hb
        rw [heq] at hl
        rcases Nat.lt_or_ge i listed.size with hlt | hge
        · simp [hlt] at hiun hl; rw [hiun] at hl; cases hl
        · simp [Array.getElem?_eq_none hge] at hl
      obtain ⟨hap, haj⟩ := hfree j oj hoj hji hjun hnot
      have hput := wpOp_putIf hoj hap (fun cs b => hsel i oi cs b hi) (fun cs b => hsel j oj cs b hoj) hQ hy hrest
      refine wpOp_mono (fun a' w' hh => ?_) hput
      obtain ⟨hy', hSw, hw⟩ := hh
      refine ⟨hSw, ih (listed.setIfInBounds j true) a' w' ?_ (ready_mono hr (Ne.symm hji)) hy' (hSw haj hS) ?_⟩
      · intro k ok hk hki hun hno
        refine hfree k ok hk hki ?_ hno
        by_cases hjk : j = k
        · subst hjk; exact hjun
        · rw [getD_set_ne true hjk] at hun; exact hun
      · rw [Array.setIfInBounds_comm _ _ hji]; exact hw

theorem wpN_take {i : Nat} {oi : Oper} {v : Value} {n : Nat} {listed : Array Bool} {a : Act} {w : World} (hi : ops[i]? = some oi)
    (hs : (Region.noSelect ops && Region.free md ops listed i && (Region.ready md ops listed).contains i && asksS ops i && lateOk md ops listed i) = true)
    (hQ : ∀ c a w, Q (.panic c) (a.put oi.dst v) w → Q (.panic c) a w) (hS : S w) (hy : YieldsIf P ops S oi v a)
    (h : wpN P md ops Q S n (listed.setIfInBounds i true) (a.put oi.dst v) w) : wpN P md ops Q S (n + 1) listed a w := by
  simp only [Bool.and_eq_true] at hs
  obtain ⟨⟨⟨⟨h1, h2⟩, h3⟩, h4⟩, h5⟩ := hs
  exact wpN_first hi (Region.noSelect_spec h1) hQ h4 n listed a w (fun j oj hj hne hun hno => ⟨Region.free_spec hi h2 j oj hj hne hun hno, lateOk_spec h5 j oj hj hne hun hno⟩) (by simpa using h3) hy hS h

theorem wpN_pureF {i : Nat} {oi : Oper} {v : Value} (hi : ops[i]? = some oi) (hsel : ∀ (j : Nat) (o : Oper) cs b, ops[j]? = some o → o.op ≠ .select cs b)
    (hQ : ∀ c a w, Q (.panic c) (a.put oi.dst v) w → Q (.panic c) a w) :
    ∀ (n : Nat) (listed : Array Bool) (a : Act) (w : World),
      (∀ j oj, ops[j]? = some oj → j ≠ i → listed.getD j true = false → (∀ e ∈ oj.after, Region.binds md e = true → e.on ≠ i) → oi.apart ops oj = true) →
      i ∈ Region.ready md ops listed → YieldsIf P ops (fun _ => True) oi v a →
      wpN P md ops Q S n (listed.setIfInBounds i true) (a.put oi.dst v) w → wpN P md ops Q S (n + 1) listed a w := by
  intro n
  induction n with
  | zero =>
    intro listed a w _ hr hy H
    refine ⟨fun h0 => (by rw [h0] at hr; cases hr), fun j hj => ?_⟩
    by_cases hji : j = i
    · subst hji; exact hy.wpOp hi trivial ⟨fun _ h => h, H⟩
    · have h0 := ready_mono hj hji
      rw [H.1] at h0; cases h0
  | succ n ih =>
    intro listed a w hfree hr hy H
    refine ⟨fun h0 => (by rw [h0] at hr; cases hr), fun j hj => ?_⟩
    by_cases hji : j = i
    · subst hji; exact hy.wpOp hi trivial ⟨fun _ h => h, H⟩
    · have hrest := H.2 j (ready_mono hj hji)
      obtain ⟨hjun, oj, hoj, hall⟩ := mem_ready.1 hj
      have hiun := (mem_ready.1 hr).1
      have hnot : ∀ e ∈ oj.after, Region.binds md e = true → e.on ≠ i := fun e he hb heq => by
        have hl := hall e he hb
        rw [heq] at hl
        rcases Nat.lt_or_ge i listed.size with hlt | hge
        · simp [hlt] at hiun hl; rw [hiun] at hl; cases hl
        · simp [Array.getElem?_eq_none hge] at hl
      have hap := hfree j oj hoj hji hjun hnot
      have hput := wpOp_putIf hoj hap (fun cs b => hsel i oi cs b hi) (fun cs b => hsel j oj cs b hoj) hQ hy hrest
      refine wpOp_mono (fun a' w' hh => ?_) hput
      obtain ⟨hy', hSw, hw⟩ := hh
      refine ⟨hSw, ih (listed.setIfInBounds j true) a' w' ?_ (ready_mono hr (Ne.symm hji)) hy' ?_⟩
      · intro k ok hk hki hun hno
        refine hfree k ok hk hki ?_ hno
        by_cases hjk : j = k
        · subst hjk; exact hjun
        · rw [getD_set_ne true hjk] at hun; exact hun
      · rw [Array.setIfInBounds_comm _ _ hji]; exact hw
theorem wpN_pure {i : Nat} {oi : Oper} {v : Value} {n : Nat} {listed : Array Bool} {a : Act} {w : World} (hi : ops[i]? = some oi)
    (hs : (Region.noSelect ops && Region.free md ops listed i && (Region.ready md ops listed).contains i) = true)
    (hQ : ∀ c a w, Q (.panic c) (a.put oi.dst v) w → Q (.panic c) a w) (hy : YieldsIf P ops (fun _ => True) oi v a)
    (h : wpN P md ops Q S n (listed.setIfInBounds i true) (a.put oi.dst v) w) : wpN P md ops Q S (n + 1) listed a w := by
  simp only [Bool.and_eq_true] at hs
  obtain ⟨⟨h1, h2⟩, h3⟩ := hs
  exact wpN_pureF hi (Region.noSelect_spec h1) hQ n listed a w (fun j oj hj hne hun hno => Region.free_spec hi h2 j oj hj hne hun hno) (by simpa using h3) hy h

theorem wpN_step {i : Nat} {oi : Oper} {n : Nat} {listed : Array Bool} {a : Act} {w : World} (hr : Region.ready md ops listed = [i]) (hi : ops[i]? = some oi)
    (h : ∀ K : Act → World → Prop, Shut (∀ a w, (asksS ops i = true → S w) → wpN P md ops Q S n (listed.setIfInBounds i true) a w → K a w) → if Region.wanted oi (yielded ops a.tmps) = true then Oper.wp P oi a w K Q else K (a.put oi.dst undef) w) :
    wpN P md ops Q S (n + 1) listed a w := by
  refine ⟨fun h0 => (by rw [hr] at h0; cases h0), fun j hj => ?_⟩
  rw [hr] at hj
  have : j = i := by simpa using hj
  subst this
  exact wpOp_step hi (fun K hK => h K (fun a w h1 h2 => hK a w ⟨fun ha _ => h1 ha, h2⟩))

theorem wpN_done {n : Nat} {listed : Array Bool} {a : Act} {w : World} (hr : Region.ready md ops listed = []) (h : Q .normal a w) : wpN P md ops Q S n listed a w := by
  cases n with
  | zero => exact ⟨hr, h⟩
  | succ n => exact ⟨fun _ => h, fun i hi => by rw [hr] at hi; cases hi⟩

theorem wp_region_need {id : Nat} {a : Act} {w : World} (hm : P.follows .mixedOrders = true) (h : wpN P .any ops Q S ops.size (Array.replicate ops.size false) a w.drew) : (Code.region id ops true).wp P Q a w :=
  wp_region_any hm (wpN_any _ _ _ _ h)
end
end Go.Proofs.Ytplfbdkljnblmaa

namespace Go.Proofs.Ytplfbdkljnblmaa

structure Ent where
  key : Int
  weight : Int
  age : Int
deriving DecidableEq

namespace Hp
def z0 : Ent := ⟨0, 0, 0⟩
def at_ (l : List Ent) (j : Nat) : Ent := l.getD j z0
def swap (l : List Ent) (i j : Nat) : List Ent := (l.set i (at_ l j)).set j (at_ l i)
def par (j : Nat) : Nat := (j - 1) / 2

structure Ord (lt : Ent → Ent → Bool) : Prop where
  asym : ∀ a b, lt a b = true → lt b a = false
  trans : ∀ a b c, lt b a = false → lt c b = false → lt c a = false

def Heap (lt : Ent → Ent → Bool) (l : List Ent) : Prop := ∀ j, j < l.length → 0 < j → lt (at_ l j) (at_ l (par j)) = false
structure Up (lt : Ent → Ent → Bool) (l : List Ent) (i : Nat) : Prop where
  rest : ∀ j, j < l.length → 0 < j → j ≠ i → lt (at_ l j) (at_ l (par j)) = false
  over : 0 < i → ∀ j, j < l.length → 0 < j → par j = i → lt (at_ l j) (at_ l (par i)) = false
structure Down (lt : Ent → Ent → Bool) (l : List Ent) (i : Nat) : Prop where
  rest : ∀ j, j < l.length → 0 < j → par j ≠ i → lt (at_ l j) (at_ l (par j)) = false
  over : 0 < i → ∀ j, j < l.length → 0 < j → par j = i → lt (at_ l j) (at_ l (par i)) = false

theorem at_set {l : List Ent} {i j : Nat} {x : Ent} (hi : i < l.length) : at_ (l.set i x) j = if j = i then x else at_ l j := by
  unfold at_
  simp only [List.getD_eq_getElem?_getD, List.getElem?_set]
  by_cases h : i = j
  · subst h; simp [hi]
  · rw [if_neg h, if_neg (fun e => h e.symm)]
@[simp] theorem length_swap (l : List Ent) (i j : Nat) : (swap l i j).length = l.length := by simp [swap]
theorem at_swap {l : List Ent} {i j k : Nat} (hi : i < l.length) (hj : j < l.length) : at_ (swap l i j) k = if k = j then at_ l i else if k = i then at_ l j else at_ l k := by
  unfold swap
  rw [at_set (by simpa using hj), at_set hi]
theorem at_get {l : List Ent} {i : Nat} (hi : i < l.length) : at_ l i = l[i] := by simp [at_, List.getD_eq_getElem?_getD, hi]
theorem swap_perm (l : List Ent) (i j : Nat) (hi : i < l.length) (hj : j < l.length) : (swap l i j).Perm l := by
  have h := Array.swap_perm (xs := l.toArray) (i := i) (j := j) (by simpa using hi) (by simpa using hj)
  rw [List.swap_toArray] at h
  have := (Array.perm_iff_toList_perm).1 h
  simpa [swap, at_get hi, at_get hj] using this

theorem par_lt {j : Nat} (h : 0 < j) : par j < j := by unfold par; omega

section
variable {lt : Ent → Ent → Bool} (O : Ord lt) {l : List Ent} {i : Nat}
include O

omit O in
theorem Up.start {x : Ent} (h : Heap lt l) : Up lt (l ++ [x]) l.length := by
  have e : ∀ j, j < l.length → at_ (l ++ [x]) j = at_ l j := fun j hj => by
    unfold at_; simp [List.getD_eq_getElem?_getD, List.getElem?_append, hj]
  refine ⟨fun j hj h0 hne => ?_, fun h0 j hj h0j hp => ?_⟩
  · have hl : j < l.length := by simp at hj; omega
    have := par_lt h0
    rw [e j hl, e _ (by omega)]
    exact h j hl h0
  · simp at hj; unfold par at hp; omega

theorem Up.step (h : Up lt l i) (hi : i < l.length) (h0 : 0 < i) (hlt : lt (at_ l i) (at_ l (par i)) = true) : Up lt (swap l i (par i)) (par i) := by
  have hp := par_lt h0
  have hpl : par i < l.length := by omega
  have A := O.asym _ _ hlt
  refine ⟨fun j hj hj0 hne => ?_, fun hp0 j hj hj0 hpj => ?_⟩
  · rw [length_swap] at hj
    rw [at_swap hi hpl, at_swap hi hpl, if_neg hne]
    by_cases hji : j = i
    · subst hji; rw [if_pos rfl, if_pos rfl]; exact A
    · rw [if_neg hji]
      by_cases hq : par j = par i
      · rw [if_pos hq]
        have h1 := h.rest j hj hj0 hji
        rw [hq] at h1
        exact O.trans _ _ _ A h1
      · rw [if_neg hq]
        by_cases hqi : par j = i
        · rw [if_pos hqi]; exact h.over h0 j hj hj0 hqi
        · rw [if_neg hqi]; exact h.rest j hj hj0 hji
  · rw [length_swap] at hj
    have hpp := par_lt hp0
    rw [at_swap hi hpl, at_swap hi hpl, if_neg (show par (par i) ≠ par i by omega), if_neg (show par (par i) ≠ i by omega)]
    have h1 := h.rest (par i) hpl hp0 (by omega)
    have hjp : j ≠ par i := fun e => by have := par_lt hj0; rw [hpj, e] at this; omega
    rw [if_neg hjp]
    by_cases hji : j = i
    · rw [if_pos hji]; exact h1
    · rw [if_neg hji]
      have h2 := h.rest j hj hj0 hji
      rw [hpj] at h2
      exact O.trans _ _ _ h1 h2

omit O in
theorem Up.done (h : Up lt l i) (he : 0 < i → lt (at_ l i) (at_ l (par i)) = false) : Heap lt l := fun j hj h0 => by
  by_cases hji : j = i
  · subst hji; exact he h0
  · exact h.rest j hj h0 hji

omit O in
theorem Down.start (h : Heap lt l) (n : Nat) (hn : l.length = n + 1) : Down lt ((l.set 0 (at_ l n)).take n) 0 := by
  have e : ∀ j, 0 < j → j < n → at_ ((l.set 0 (at_ l n)).take n) j = at_ l j := fun j h0 hj => by
    have h1 : at_ ((l.set 0 (at_ l n)).take n) j = at_ (l.set 0 (at_ l n)) j := by
      unfold at_; simp [List.getD_eq_getElem?_getD, List.getElem?_take, hj]
    rw [h1, at_set (by omega), if_neg (by omega)]
  refine ⟨fun j hj h0 hp => ?_, fun h => absurd h (by omega)⟩
  have hj' : j < n := by simp at hj; omega
  have := par_lt h0
  rw [e j h0 hj', e _ (by omega) (by omega)]
  exact h j (by omega) h0

omit O in
theorem Down.step (h : Down lt l i) (hi : i < l.length) {b : Nat} (hb : b < l.length) (hb0 : 0 < b) (hpb : par b = i) (h1 : lt (at_ l i) (at_ l b) = false) (h2 : ∀ c, c < l.length → 0 < c → par c = i → lt (at_ l c) (at_ l b) = false) : Down lt (swap l i b) b := by
  have hib := par_lt hb0
  rw [hpb] at hib
  refine ⟨fun j hj hj0 hne => ?_, fun _ j hj hj0 hpj => ?_⟩
  · rw [length_swap] at hj
    rw [at_swap hi hb, at_swap hi hb, if_neg hne]
    by_cases hpi : par j = i
    · rw [if_pos hpi]
      by_cases hjb : j = b
      · rw [if_pos hjb]; exact h1
      · rw [if_neg hjb, if_neg (show j ≠ i by have := par_lt hj0; omega)]; exact h2 j hj hj0 hpi
    · rw [if_neg hpi]
      have hjb : j ≠ b := fun e => hpi (by rw [e, hpb])
      rw [if_neg hjb]
      by_cases hji : j = i
      · subst hji; rw [if_pos rfl]; exact h.over hj0 b hb hb0 hpb
      · rw [if_neg hji]; exact h.rest j hj hj0 hpi
  · rw [length_swap] at hj
    rw [hpb, at_swap hi hb, at_swap hi hb, if_neg (show i ≠ b by omega), if_pos rfl]
    have := par_lt hj0
    rw [if_neg (show j ≠ b by omega), if_neg (show j ≠ i by omega)]
    have h3 := h.rest j hj hj0 (by omega)
    rwa [hpj] at h3

omit O in
theorem Down.done (h : Down lt l i) (h2 : ∀ c, c < l.length → 0 < c → par c = i → lt (at_ l c) (at_ l i) = false) : Heap lt l := fun j hj h0 => by
  by_cases hp : par j = i
  · rw [hp]; exact h2 j hj h0 hp
  · exact h.rest j hj h0 hp

theorem Heap.first (h : Heap lt l) : ∀ j, j < l.length → lt (at_ l j) (at_ l 0) = false := by
  intro j
  induction j using Nat.strongRecOn with
  | ind j ih =>
    intro hj
    by_cases h0 : j = 0
    · subst h0
      cases hq : lt (at_ l 0) (at_ l 0)
      · rfl
      · have := O.asym _ _ hq; rw [hq] at this; exact this
    · have hp := par_lt (Nat.pos_of_ne_zero h0)
      exact O.trans _ _ _ (ih _ hp (by omega)) (h j hj (by omega))
end

theorem pop_perm {l : List Ent} {n : Nat} (hn : l.length = n + 1) : l.Perm (at_ l 0 :: ((l.set 0 (at_ l n)).take n)) := by
  match l, hn with
  | x :: r, hn =>
    simp at hn
    have e0 : at_ (x :: r) 0 = x := rfl
    rw [e0]
    refine List.Perm.cons _ ?_
    match n, hn with
    | 0, hn => have : r = [] := List.length_eq_zero_iff.1 hn; subst this; simp
    | m + 1, hn =>
      have e1 : at_ (x :: r) (m + 1) = at_ r m := by unfold at_; simp [List.getD_eq_getElem?_getD]
      rw [e1]
      simp only [List.set_cons_zero, List.take_succ_cons]
      have hm : m < r.length := by omega
      have h2 : r = r.take m ++ [at_ r m] := by
        rw [at_get hm]
        conv => lhs; rw [← List.take_append_drop m r, List.drop_eq_getElem_cons hm, List.drop_eq_nil_of_le (by omega)]
      conv => lhs; rw [h2]
      exact List.perm_append_comm

def elder (a b : Ent) : Bool := decide (a.age < b.age)
def lighter (a b : Ent) : Bool := decide (a.weight < b.weight ∨ (a.weight = b.weight ∧ a.age < b.age))
theorem elder_ord : Ord elder := ⟨fun a b h => by simp [elder] at *; omega, fun a b c h1 h2 => by simp [elder] at *; omega⟩
theorem lighter_ord : Ord lighter := ⟨fun a b h => by simp [lighter] at *; omega, fun a b c h1 h2 => by simp [lighter] at *; omega⟩
end Hp
end Go.Proofs.Ytplfbdkljnblmaa

namespace Go.Proofs.Ytplfbdkljnblmaa
open Go.RowKit

def RetI (n : Int) (w : World) (e : Ending) (w' : World) : Prop := e = .returned (.int .i64 n) ∧ Below w.heap.size w w'
def RetB (p : Prop) (w : World) (e : Ending) (w' : World) : Prop := ∃ b : Bool, (b = true ↔ p) ∧ e = .returned (.bool b) ∧ Below w.heap.size w w'
theorem no_of {p : Prop} (h : false = true ↔ p) : ¬ p := fun hp => by simpa using h.2 hp
theorem yes_of {p : Prop} (h : true = true ↔ p) : p := h.1 rfl

def sgn (x y : Int) : Int := if x < y then -1 else if y < x then 1 else 0
def orl (a b : Int) : Int := if a = 0 then b else a
def orls : List Int → Int
  | [] => 0
  | a :: l => orl a (orls l)
@[simp] theorem orl_zero (b : Int) : orl 0 b = b := by simp [orl]
@[simp] theorem orl_zero_right (a : Int) : orl a 0 = a := by unfold orl; split <;> simp_all
theorem orl_eq_zero {a b : Int} : orl a b = 0 ↔ a = 0 ∧ b = 0 := by unfold orl; split <;> simp_all
theorem orl_ne {a b : Int} (h : a ≠ 0) : orl a b = a := by simp [orl, h]
theorem orl_neg (a b : Int) : orl (-a) (-b) = - orl a b := by unfold orl; split <;> split <;> omega
theorem orl_assoc (a b c : Int) : orl (orl a b) c = orl a (orl b c) := by
  unfold orl
  by_cases h : a = 0 <;> simp [h]
theorem sgn_neg (x y : Int) : sgn y x = - sgn x y := by unfold sgn; split <;> split <;> (try split) <;> omega
theorem sgn_zero {x y : Int} : sgn x y = 0 ↔ x = y := by unfold sgn; constructor <;> intro h <;> (repeat split at h) <;> (repeat split) <;> omega
theorem sgn_range (x y : Int) : -1 ≤ sgn x y ∧ sgn x y ≤ 1 := by unfold sgn; repeat split <;> omega
theorem orl_range {a b : Int} (ha : -1 ≤ a ∧ a ≤ 1) (hb : -1 ≤ b ∧ b ≤ 1) : -1 ≤ orl a b ∧ orl a b ≤ 1 := by unfold orl; split <;> omega

theorem sgn_lt {x y : Int} (h : x < y) : sgn x y = -1 := by simp [sgn, h]
theorem sgn_gt {x y : Int} (h : y < x) : sgn x y = 1 := by simp [sgn, h, show ¬ x < y by omega]
theorem sgn_eq {x y : Int} (h1 : ¬ x < y) (h2 : ¬ y < x) : sgn x y = 0 := by simp [sgn, h1, h2]


theorem isNaN_i (w : World) (x : Int) : Calls Try.prog 37 #[.int .i64 x] w fun e w' => e = .returned (.bool false) ∧ w' = w := by
  have h : (x != x) = false := by simp
  go_enter Try.func37, Try.ntmps37
  go_wp2_with fail
  go_ret
  exact ⟨rfl, rfl⟩

theorem compare_i (w : World) (x y : Int) : Calls Try.prog 32 #[.int .i64 x, .int .i64 y] w (RetI (sgn x y) w) := by
  by_cases h1 : x < y
  · have Hs := Lib.hid (sgn_lt h1)
    go_enter Try.func32, Try.ntmps32
    go_wp2_with fail
    refine (isNaN_i w x).mono ?_
    rintro e w1 ⟨rfl, rfl⟩
    go_wp2_with fail
    refine (isNaN_i _ y).mono ?_
    rintro e w2 ⟨rfl, rfl⟩
    go_wp2_with fail
    go_ret
    exact ⟨by rw [Hs.out]; rfl, Below.refl _ _⟩
  · by_cases h2 : y < x
    · have Hs := Lib.hid (sgn_gt h2)
      have h2' : x > y := h2
      go_enter Try.func32, Try.ntmps32
      go_wp2_with fail
      refine (isNaN_i w x).mono ?_
      rintro e w1 ⟨rfl, rfl⟩
      go_wp2_with fail
      refine (isNaN_i _ y).mono ?_
      rintro e w2 ⟨rfl, rfl⟩
      go_wp2_with fail
      go_ret
      exact ⟨by rw [Hs.out]; rfl, Below.refl _ _⟩
    · have Hs := Lib.hid (sgn_eq h1 h2)
      have h2' : ¬ x > y := h2
      go_enter Try.func32, Try.ntmps32
      go_wp2_with fail
      refine (isNaN_i w x).mono ?_
      rintro e w1 ⟨rfl, rfl⟩
      go_wp2_with fail
      refine (isNaN_i _ y).mono ?_
      rintro e w2 ⟨rfl, rfl⟩
      go_wp2_with fail
      go_ret
      exact ⟨by rw [Hs.out]; rfl, Below.refl _ _⟩

theorem orls_drop {l : List Int} {k : Nat} (hk : k < l.length) (h : l[k] = 0) : orls (l.drop k) = orls (l.drop (k + 1)) := by
  rw [List.drop_eq_getElem_cons hk, orls, h, orl_zero]
theorem orls_drop_ne {l : List Int} {k : Nat} (hk : k < l.length) (h : l[k] ≠ 0) : orls (l.drop k) = l[k] := by
  rw [List.drop_eq_getElem_cons hk, orls, orl_ne h]

theorem or_i (w : World) (bl off n c : Nat) (l : List Int) (hl : l.length = n) (hn : n ≤ 1000) (h : ∀ i (hi : i < l.length), w.cell? ⟨bl, off + i, none⟩ = some (.int .i64 l[i])) : Calls Try.prog 33 #[.slice (some ⟨bl, off, none⟩) n c] w (RetI (orls l) w) := by
  have Hc := Lib.hid h; clear h
  have Hl := Lib.hid hl; clear hl
  go_enter Try.func33, Try.ntmps33
  go_wp2_with fail
  go_loopw [8] (fun i wr => ∃ k : Nat, i = .int .i64 k ∧ k ≤ n ∧ wr = w ∧ Hid (orls l = orls (l.drop k))) (fun i _ => n - (intOf i).toNat)
  case atStart => exact ⟨0, rfl, by omega, rfl, rfl⟩
  case round =>
    obtain ⟨k, rfl, hk, rfl, hrel⟩ := hrel
    by_cases hlt : k < n
    · have hkl : k < l.length := by rw [Hl.out]; exact hlt
      have e1 := Hc.out k hkl
      by_cases h0 : l[k] = 0
      · have hd := Lib.hid (orls_drop hkl h0)
        rw [h0] at e1
        go_wp2_with fail
        go_roundw
        case rel => exact ⟨k + 1, by go_num, by omega, by trivial, hrel.out.trans hd.out⟩
        case measure => simp [intOf]; omega
      · have hd := Lib.hid (orls_drop_ne hkl h0)
        generalize l[k] = x at *
        have hx : (x != 0) = true := by simpa using h0
        have hx : (x == 0) = false := by simpa using h0
        go_wp2_with fail
        go_ret
        exact ⟨by rw [hrel.out, hd.out]; rfl, Below.refl _ _⟩
    · have hd : Hid (orls (l.drop k) = 0) := by show _ = _; rw [List.drop_of_length_le (by rw [Hl.out]; omega)]; rfl
      go_wp2_with fail
      go_ret
      exact ⟨by rw [hrel.out, hd.out]; rfl, Below.refl _ _⟩
theorem or2_i (w : World) (bl c : Nat) (x y : Int) (h : Blk w bl #[.int .i64 x, .int .i64 y] 3) : Calls Try.prog 33 #[.slice (some ⟨bl, 0, none⟩) 2 c] w (RetI (orl x y) w) := by
  have hi := or_i w bl 0 2 c [x, y] rfl (by omega) fun i hi => by
    match i, hi with
    | 0, _ => exact h.cell rfl
    | 1, _ => exact h.cell rfl
  have e : orls [x, y] = orl x y := by simp [orls]
  rw [e] at hi
  exact hi

def Ent.v (e : Ent) : Value := .agg #[.int .i64 e.key, .int .i64 e.weight, .int .i64 e.age]

theorem elder_q (a b : Ent) (w : World) : Calls Try.prog 23 #[a.v, b.v] w fun e w' => e = .returned (.bool (Hp.elder a b)) ∧ Below w.heap.size w w' := by
  obtain ⟨k, x, g⟩ := a
  obtain ⟨k', x', g'⟩ := b
  unfold Ent.v
  go_enter Try.func23, Try.ntmps23
  go_wp2_with fail
  go_ret
  exact ⟨rfl, ((Below.refl _ _).alloc (Nat.le_refl _) _).alloc (by simp) _⟩

theorem orl_sgn_lighter (a b : Ent) : decide (orl (sgn a.weight b.weight) (sgn a.age b.age) < 0) = Hp.lighter a b := by
  unfold Hp.lighter
  congr 1
  apply propext
  unfold orl sgn
  constructor
  · intro h
    (repeat split at h) <;> first | omega | (simp at *; omega)
  · intro h
    (repeat split) <;> first | omega | (simp at *; omega)

set_option maxHeartbeats 1000000 in
theorem lighter_q (a b : Ent) (w : World) : Calls Try.prog 22 #[a.v, b.v] w fun e w' => e = .returned (.bool (Hp.lighter a b)) ∧ Below w.heap.size w w' := by
  have HL := Lib.hid (orl_sgn_lighter a b)
  obtain ⟨k, x, g⟩ := a
  obtain ⟨k', x', g'⟩ := b
  dsimp only at HL
  obtain ⟨r, hr⟩ : ∃ r, Hp.lighter ⟨k, x, g⟩ ⟨k', x', g'⟩ = r := ⟨_, rfl⟩
  rw [hr] at HL ⊢
  clear hr
  unfold Ent.v
  obtain ⟨wB, hwB⟩ : ∃ wB, (w.alloc (.cells #[.int .i64 k, .int .i64 x, .int .i64 g] 30)).alloc (.cells #[.int .i64 k', .int .i64 x', .int .i64 g'] 30) = wB := ⟨_, rfl⟩
  have B0 : Below w.heap.size w wB := by rw [← hwB]; exact ((Below.refl _ _).alloc (Nat.le_refl _) _).alloc (by simp) _
  have x0 : Blk wB w.heap.size #[.int .i64 k, .int .i64 x, .int .i64 g] 30 := by rw [← hwB]; exact (Blk.new _ _ _ rfl).alloc _
  have x1 : Blk wB (w.heap.size + 1) #[.int .i64 k', .int .i64 x', .int .i64 g'] 30 := by rw [← hwB]; exact Blk.new _ _ _ (by simp)
  go_enter Try.func22, Try.ntmps22
  go_wp2_with fail
  try rw [hwB]
  clear hwB
  refine wp_region_noPanic (wp_region_need (S := fun w' => w'.cell? ⟨w.heap.size, 1, none⟩ = some (.int .i64 x) ∧ w'.cell? ⟨w.heap.size + 1, 1, none⟩ = some (.int .i64 x') ∧ w'.cell? ⟨w.heap.size, 2, none⟩ = some (.int .i64 g) ∧ w'.cell? ⟨w.heap.size + 1, 2, none⟩ = some (.int .i64 g')) (by kernel_rfl) ?_)
  have hS : (wB.drew).cell? ⟨w.heap.size, 1, none⟩ = some (.int .i64 x) ∧ (wB.drew).cell? ⟨w.heap.size + 1, 1, none⟩ = some (.int .i64 x') ∧ (wB.drew).cell? ⟨w.heap.size, 2, none⟩ = some (.int .i64 g) ∧ (wB.drew).cell? ⟨w.heap.size + 1, 2, none⟩ = some (.int .i64 g') := ⟨x0.drew.cell rfl, x1.drew.cell rfl, x0.drew.cell rfl, x1.drew.cell rfl⟩
  refine wpN_take (i := 0) (v := ?v1) rfl (by kernel_rfl) (fun _ _ _ h => h) hS (Or.inl ⟨by rfl, ?hy1⟩) ?hr1
  case hy1 => (intro wS hSw; (try dsimp only at hSw); go_simp; (try with_reducible rfl))
  try simp only [Act.put, List.setIfInBounds_toArray, List.set_cons_zero, List.set_cons_succ, List.getElem_toArray, List.getElem_cons_zero, List.getElem_cons_succ]
  refine wpN_take (i := 1) (v := ?v2) rfl (by kernel_rfl) (fun _ _ _ h => h) hS (Or.inl ⟨by rfl, ?hy2⟩) ?hr2
  case hy2 => (intro wS hSw; (try dsimp only at hSw); go_simp; (try with_reducible rfl))
  try simp only [Act.put, List.setIfInBounds_toArray, List.set_cons_zero, List.set_cons_succ, List.getElem_toArray, List.getElem_cons_zero, List.getElem_cons_succ]
  refine wpN_take (i := 2) (v := ?v3) rfl (by kernel_rfl) (fun _ _ _ h => h) hS (Or.inl ⟨by rfl, ?hy3⟩) ?hr3
  case hy3 => (intro wS hSw; (try dsimp only at hSw); go_simp; (try with_reducible rfl))
  try simp only [Act.put, List.setIfInBounds_toArray, List.set_cons_zero, List.set_cons_succ, List.getElem_toArray, List.getElem_cons_zero, List.getElem_cons_succ]
  refine wpN_take (i := 3) (v := ?v4) rfl (by kernel_rfl) (fun _ _ _ h => h) hS (Or.inl ⟨by rfl, ?hy4⟩) ?hr4
  case hy4 => (intro wS hSw; (try dsimp only at hSw); go_simp; (try with_reducible rfl))
  try simp only [Act.put, List.setIfInBounds_toArray, List.set_cons_zero, List.set_cons_succ, List.getElem_toArray, List.getElem_cons_zero, List.getElem_cons_succ]
  refine wpN_take (i := 5) (v := ?v5) rfl (by kernel_rfl) (fun _ _ _ h => h) hS (Or.inl ⟨by rfl, ?hy5⟩) ?hr5
  case hy5 => (intro wS hSw; (try dsimp only at hSw); go_simp; (try with_reducible rfl))
  try simp only [Act.put, List.setIfInBounds_toArray, List.set_cons_zero, List.set_cons_succ, List.getElem_toArray, List.getElem_cons_zero, List.getElem_cons_succ]
  refine wpN_take (i := 6) (v := ?v6) rfl (by kernel_rfl) (fun _ _ _ h => h) hS (Or.inl ⟨by rfl, ?hy6⟩) ?hr6
  case hy6 => (intro wS hSw; (try dsimp only at hSw); go_simp; (try with_reducible rfl))
  try simp only [Act.put, List.setIfInBounds_toArray, List.set_cons_zero, List.set_cons_succ, List.getElem_toArray, List.getElem_cons_zero, List.getElem_cons_succ]
  refine wpN_take (i := 7) (v := ?v7) rfl (by kernel_rfl) (fun _ _ _ h => h) hS (Or.inl ⟨by rfl, ?hy7⟩) ?hr7
  case hy7 => (intro wS hSw; (try dsimp only at hSw); go_simp; (try with_reducible rfl))
  try simp only [Act.put, List.setIfInBounds_toArray, List.set_cons_zero, List.set_cons_succ, List.getElem_toArray, List.getElem_cons_zero, List.getElem_cons_succ]
  refine wpN_take (i := 8) (v := ?v8) rfl (by kernel_rfl) (fun _ _ _ h => h) hS (Or.inl ⟨by rfl, ?hy8⟩) ?hr8
  case hy8 => (intro wS hSw; (try dsimp only at hSw); go_simp; (try with_reducible rfl))
  try simp only [Act.put, List.setIfInBounds_toArray, List.set_cons_zero, List.set_cons_succ, List.getElem_toArray, List.getElem_cons_zero, List.getElem_cons_succ]
  refine wpN_step (i := 4) (by kernel_rfl) rfl (fun K hK => ?_)
  go_simp
  refine (compare_i _ _ _).mono ?_
  rintro e w1 ⟨rfl, hb1⟩
  have B1 := B0.drew.trans (hb1.mono B0.size)
  have y0 := x0.drew.below hb1
  have y1 := x1.drew.below hb1
  have hS : (w1).cell? ⟨w.heap.size, 1, none⟩ = some (.int .i64 x) ∧ (w1).cell? ⟨w.heap.size + 1, 1, none⟩ = some (.int .i64 x') ∧ (w1).cell? ⟨w.heap.size, 2, none⟩ = some (.int .i64 g) ∧ (w1).cell? ⟨w.heap.size + 1, 2, none⟩ = some (.int .i64 g') := ⟨y0.cell rfl, y1.cell rfl, y0.cell rfl, y1.cell rfl⟩
  refine hK.out _ _ (fun _ => hS) ?_
  clear hK K
  try simp only [Act.put, List.setIfInBounds_toArray, List.set_cons_zero, List.set_cons_succ, List.getElem_toArray, List.getElem_cons_zero, List.getElem_cons_succ]
  refine wpN_step (i := 9) (by kernel_rfl) rfl (fun K hK => ?_)
  go_simp
  refine (compare_i _ _ _).mono ?_
  rintro e w2 ⟨rfl, hb2⟩
  have B2 := B1.trans (hb2.mono B1.size)
  have z0 := y0.below hb2
  have z1 := y1.below hb2
  have hS : (w2).cell? ⟨w.heap.size, 1, none⟩ = some (.int .i64 x) ∧ (w2).cell? ⟨w.heap.size + 1, 1, none⟩ = some (.int .i64 x') ∧ (w2).cell? ⟨w.heap.size, 2, none⟩ = some (.int .i64 g) ∧ (w2).cell? ⟨w.heap.size + 1, 2, none⟩ = some (.int .i64 g') := ⟨z0.cell rfl, z1.cell rfl, z0.cell rfl, z1.cell rfl⟩
  refine hK.out _ _ (fun _ => hS) ?_
  clear hK K
  try simp only [Act.put, List.setIfInBounds_toArray, List.set_cons_zero, List.set_cons_succ, List.getElem_toArray, List.getElem_cons_zero, List.getElem_cons_succ]
  refine wpN_step (i := 10) (by kernel_rfl) rfl (fun K hK => ?_)
  go_simp
  have B3 := B2.alloc B2.size (.cells #[.int .i64 (sgn x x'), .int .i64 (sgn g g')] 3)
  have u0 := z0.alloc (.cells #[.int .i64 (sgn x x'), .int .i64 (sgn g g')] 3)
  have u1 := z1.alloc (.cells #[.int .i64 (sgn x x'), .int .i64 (sgn g g')] 3)
  have u2 := Blk.new w2 #[.int .i64 (sgn x x'), .int .i64 (sgn g g')] 3 rfl
  have hS : (w2.alloc (.cells #[.int .i64 (sgn x x'), .int .i64 (sgn g g')] 3)).cell? ⟨w.heap.size, 1, none⟩ = some (.int .i64 x) ∧ (w2.alloc (.cells #[.int .i64 (sgn x x'), .int .i64 (sgn g g')] 3)).cell? ⟨w.heap.size + 1, 1, none⟩ = some (.int .i64 x') ∧ (w2.alloc (.cells #[.int .i64 (sgn x x'), .int .i64 (sgn g g')] 3)).cell? ⟨w.heap.size, 2, none⟩ = some (.int .i64 g) ∧ (w2.alloc (.cells #[.int .i64 (sgn x x'), .int .i64 (sgn g g')] 3)).cell? ⟨w.heap.size + 1, 2, none⟩ = some (.int .i64 g') := ⟨u0.cell rfl, u1.cell rfl, u0.cell rfl, u1.cell rfl⟩
  refine hK.out _ _ (fun _ => hS) ?_
  clear hK K
  try simp only [Act.put, List.setIfInBounds_toArray, List.set_cons_zero, List.set_cons_succ, List.getElem_toArray, List.getElem_cons_zero, List.getElem_cons_succ]
  refine wpN_step (i := 11) (by kernel_rfl) rfl (fun K hK => ?_)
  go_simp
  refine (or2_i _ _ _ _ _ u2).mono ?_
  rintro e w6 ⟨rfl, hb6⟩
  have B6 := B3.trans (hb6.mono B3.size)
  have z0 := u0.below hb6
  have z1 := u1.below hb6
  have hS : (w6).cell? ⟨w.heap.size, 1, none⟩ = some (.int .i64 x) ∧ (w6).cell? ⟨w.heap.size + 1, 1, none⟩ = some (.int .i64 x') ∧ (w6).cell? ⟨w.heap.size, 2, none⟩ = some (.int .i64 g) ∧ (w6).cell? ⟨w.heap.size + 1, 2, none⟩ = some (.int .i64 g') := ⟨z0.cell rfl, z1.cell rfl, z0.cell rfl, z1.cell rfl⟩
  refine hK.out _ _ (fun _ => hS) ?_
  clear hK K
  try simp only [Act.put, List.setIfInBounds_toArray, List.set_cons_zero, List.set_cons_succ, List.getElem_toArray, List.getElem_cons_zero, List.getElem_cons_succ]
  refine wpN_pure (i := 12) (v := ?v9) rfl (by kernel_rfl) (fun _ _ _ h => h) (Or.inl ⟨by rfl, ?hy9⟩) ?hr9
  case hy9 => (intro wS hSw; go_simp; (try with_reducible rfl))
  try simp only [Act.put, List.setIfInBounds_toArray, List.set_cons_zero, List.set_cons_succ, List.getElem_toArray, List.getElem_cons_zero, List.getElem_cons_succ]
  refine wpN_pure (i := 13) (v := ?v10) rfl (by kernel_rfl) (fun _ _ _ h => h) (Or.inl ⟨by rfl, ?hy10⟩) ?hr10
  case hy10 => (intro wS hSw; go_simp; (try with_reducible rfl))
  try simp only [Act.put, List.setIfInBounds_toArray, List.set_cons_zero, List.set_cons_succ, List.getElem_toArray, List.getElem_cons_zero, List.getElem_cons_succ]
  refine wpN_done (by kernel_rfl) ?_
  refine NoPanic.normal ?_
  go_wp2_with fail
  go_ret
  exact ⟨by rw [← HL.out]; rfl, B6⟩
end Go.Proofs.Ytplfbdkljnblmaa

namespace Go.Proofs.Ytplfbdkljnblmaa
open Go.RowKit

structure Fst (f : FuncId) (lt : Ent → Ent → Bool) : Prop where
  enters : ∀ args w, (callFunc f args).run Try.prog w = .ok (.enter f args) w
  calls : ∀ (a b : Ent) (w : World), Calls Try.prog f #[a.v, b.v] w fun e w' => e = .returned (.bool (lt a b)) ∧ Below w.heap.size w w'
theorem fst_elder : Fst 23 Hp.elder := ⟨enters_of Try.func23 (by kernel_rfl) rfl, elder_q⟩
theorem fst_lighter : Fst 22 Hp.lighter := ⟨enters_of Try.func22 (by kernel_rfl) rfl, lighter_q⟩

structure Off (F : Nat → Prop) (w w' : World) : Prop where
  os : w'.os = w.os
  tape : w'.tape = w.tape
  output : w'.output = w.output
  size : w.heap.size ≤ w'.heap.size
  block : ∀ k, k < w.heap.size → ¬ F k → w'.heap[k]? = w.heap[k]?
namespace Off
variable {F G : Nat → Prop} {w w' w'' : World}
theorem refl (F : Nat → Prop) (w : World) : Off F w w := ⟨rfl, rfl, rfl, Nat.le_refl _, fun _ _ _ => rfl⟩
theorem trans (h : Off F w w') (h' : Off F w' w'') : Off F w w'' :=
  ⟨h'.os.trans h.os, h'.tape.trans h.tape, h'.output.trans h.output, Nat.le_trans h.size h'.size, fun k hk hF => (h'.block k (Nat.lt_of_lt_of_le hk h.size) hF).trans (h.block k hk hF)⟩
theorem mono (h : Off F w w') (hF : ∀ k, k < w.heap.size → F k → G k) : Off G w w' := ⟨h.os, h.tape, h.output, h.size, fun k hk hG => h.block k hk fun hf => hG (hF k hk hf)⟩
theorem below (h : Off F w w') (hb : Below w'.heap.size w' w'') : Off F w w'' := h.trans ⟨hb.os, hb.tape, hb.output, hb.size, fun k hk _ => hb.block k hk⟩
theorem of_below (F : Nat → Prop) (hb : Below w.heap.size w w') : Off F w w' := (refl F w).below hb
theorem drew (h : Off F w w') : Off F w w'.drew := h.below (Below.refl _ _).drew
theorem alloc (h : Off F w w') (o : Obj) : Off F w (w'.alloc o) := h.below ((Below.refl _ _).alloc (Nat.le_refl _) _)
theorem grown (h : Off F w w') {row : Option Nat} (hg : w'.grownBy w'' row) (hr : ∀ k, row = some k → F k) : Off F w w'' :=
  h.trans ⟨hg.os, hg.tape, hg.output, hg.size, fun k hk hF => hg.block k hk fun e => hF (hr k e.symm)⟩
theorem set (h : Off F w w') (p : Addr) (u : Value) (hp : F p.block ∨ w.heap.size ≤ p.block) : Off F w (w'.setCell p u) := by
  have hb := (Below.refl 0 w').setCell (p := p) (Nat.zero_le _) u
  refine ⟨hb.os.trans h.os, hb.tape.trans h.tape, hb.output.trans h.output, Nat.le_trans h.size hb.size, fun k hk hF => ?_⟩
  exact (Below.heap_setCell _ _ _ _ (fun e => by rcases hp with hp | hp; exact hF (e ▸ hp); omega)).trans (h.block k hk hF)
theorem toBelow (h : Off F w w') {n : Nat} (hn : n ≤ w.heap.size) (hF : ∀ k, F k → n ≤ k) : Below n w w' :=
  ⟨h.os, h.tape, h.output, h.size, fun k hk => h.block k (by omega) fun hf => by have := hF k hf; omega⟩
theorem blk (h : Off F w w') {n : Nat} {cs : Array Value} {t : TypeId} (hb : Blk w n cs t) (hF : ¬ F n) : Blk w' n cs t := hb.same (h.block n hb.lt hF)
end Off

def encs (l : List Ent) : List Value := l.flatMap fun e => [.int .i64 e.key, .int .i64 e.weight, .int .i64 e.age]
theorem length_encs (l : List Ent) : (encs l).length = l.length * 3 := by
  induction l with
  | nil => rfl
  | cons e l ih => simp only [encs, List.flatMap_cons, List.length_append, List.length_cons, List.length_nil] at *; omega
theorem encs_append (l r : List Ent) : encs (l ++ r) = encs l ++ encs r := by simp [encs]
theorem encs_get (l : List Ent) (i : Nat) (hi : i < l.length) : (encs l)[i * 3]? = some (.int .i64 l[i].key) ∧ (encs l)[i * 3 + 1]? = some (.int .i64 l[i].weight) ∧ (encs l)[i * 3 + 2]? = some (.int .i64 l[i].age) := by
  have h : l = l.take i ++ (l[i] :: l.drop (i + 1)) := by rw [← List.drop_eq_getElem_cons hi, List.take_append_drop]
  have hl : (encs (l.take i)).length = i * 3 := by rw [length_encs]; simp; omega
  have e : encs l = encs (l.take i) ++ ([.int .i64 l[i].key, .int .i64 l[i].weight, .int .i64 l[i].age] ++ encs (l.drop (i + 1))) := by
    conv => lhs; rw [h]
    rw [encs_append]; rfl
  rw [e]
  refine ⟨?_, ?_, ?_⟩ <;> rw [List.getElem?_append_right (by omega), hl] <;> simp
theorem encs_take (l : List Ent) (k : Nat) : encs (l.take k) = (encs l).take (k * 3) := by
  induction l generalizing k with
  | nil => simp [encs]
  | cons e l ih =>
    cases k with
    | zero => simp [encs]
    | succ k =>
      have : (k + 1) * 3 = k * 3 + 1 + 1 + 1 := by omega
      rw [this]
      simp only [List.take_succ_cons]
      have h1 : encs (e :: l) = .int .i64 e.key :: .int .i64 e.weight :: .int .i64 e.age :: encs l := rfl
      have h2 : encs (e :: l.take k) = .int .i64 e.key :: .int .i64 e.weight :: .int .i64 e.age :: encs (l.take k) := rfl
      rw [h1, h2, ih]; rfl

def Row (w : World) (base : Nat) (v : Value) (l : List Ent) : Prop := w.ownsRow base 30 3 v l.length (encs l)
namespace Row
variable {w w' : World} {base : Nat} {v : Value} {l : List Ent}
theorem nil (w : World) (base : Nat) : Row w base (.slice none 0 0) [] := World.ownsRow_nil _ _ _ _
theorem shape (h : Row w base v l) : ∃ a c, v = .slice a l.length c := by
  rcases h.2 with ⟨rfl, h0⟩ | ⟨g, cap, cur, rfl, _⟩
  · exact ⟨none, 0, by rw [h0]⟩
  · exact ⟨_, _, rfl⟩
theorem below (h : Row w base v l) (hb : Below w.heap.size w w') : Row w' base v l :=
  h.kept ⟨hb.os, hb.tape, hb.output, hb.size, fun k hk _ => hb.block k hk⟩ (row := none) (by cases h : v.ownBlock <;> simp)
theorem base_le (h : Row w base v l) : ∀ g, v.ownBlock = some g → base ≤ g ∧ g < w.heap.size := by
  intro g hg
  rcases h.2 with ⟨rfl, h0⟩ | ⟨g', cap, cur, rfl, hb, hc, _⟩
  · cases hg
  · cases hg; exact ⟨hb, (Array.getElem?_eq_some_iff.1 hc).1⟩
theorem far (h : Row w base v l) (p : Addr) (u : Value) (hp : v.ownBlock ≠ some p.block) : Row (w.setCell p u) base v l := by
  rcases h with ⟨h1, h2 | ⟨g, cap, cur, rfl, hb, hc, h3⟩⟩
  · exact ⟨h1, .inl h2⟩
  · refine ⟨h1, .inr ⟨g, cap, cur, rfl, hb, ?_, h3⟩⟩
    rw [← hc]; exact Below.heap_setCell _ _ _ _ (fun e => hp (by rw [← e]; rfl))
theorem open_ (h : Row w base v l) (h0 : 0 < l.length) : ∃ g cap, v = .slice (some ⟨g, 0, none⟩) l.length cap ∧ base ≤ g ∧ l.length ≤ cap ∧ cap ≤ maxLen ∧
    (∀ i (hi : i < l.length), w.cell? ⟨g, i * 3, none⟩ = some (.int .i64 l[i].key) ∧ w.cell? ⟨g, i * 3 + 1, none⟩ = some (.int .i64 l[i].weight) ∧ w.cell? ⟨g, i * 3 + 2, none⟩ = some (.int .i64 l[i].age)) ∧ ∀ o, w.frozen? ⟨g, o, none⟩ = false := by
  rcases h.2 with ⟨rfl, he⟩ | ⟨g, cap, cur, rfl, hb, hc, h1, h2, h3, h4⟩
  · omega
  · refine ⟨g, cap, rfl, hb, h1, h2, fun i hi => ?_, fun o => Blk.free (cs := cur) hc o⟩
    obtain ⟨e1, e2, e3⟩ := encs_get l i hi
    rw [← h4] at e1 e2 e3
    have key : ∀ j u, (cur.toList.take (l.length * 3))[j]? = some u → w.cell? ⟨g, j, none⟩ = some u := fun j u hj => by
      rw [List.getElem?_take] at hj
      split at hj
      · exact Blk.cell (cs := cur) hc (by rw [← Array.getElem?_toList]; exact hj)
      · cases hj
    exact ⟨key _ _ e1, key _ _ e2, key _ _ e3⟩
theorem take (h : Row w base v l) (k : Nat) (hk : k ≤ l.length) {a : Option Addr} {c : Nat} (hv : v = .slice a l.length c) : Row w base (.slice a k c) (l.take k) := by
  subst hv
  have hl : (l.take k).length = k := by simp; omega
  rcases h with ⟨h1, ⟨h2, h0⟩ | ⟨g, cap, cur, h2, hb, hc, h3, h4, h5, h6⟩⟩
  · injection h2 with q1 q2 q3
    subst q1; subst q3
    obtain rfl : k = 0 := by omega
    exact ⟨by rw [length_encs], .inl ⟨rfl, by simp⟩⟩
  · cases h2
    refine ⟨by rw [length_encs], .inr ⟨g, _, cur, by rw [hl], hb, hc, by omega, h4, h5, ?_⟩⟩
    rw [hl, encs_take, ← h6, List.take_take, Nat.min_eq_left (by omega)]
theorem set (h : Row w base v l) (i : Nat) (hi : i < l.length) (e : Ent) {g cap : Nat} (hv : v = .slice (some ⟨g, 0, none⟩) l.length cap) :
    Row (((w.setCell ⟨g, i * 3, none⟩ (.int .i64 e.key)).setCell ⟨g, i * 3 + 1, none⟩ (.int .i64 e.weight)).setCell ⟨g, i * 3 + 2, none⟩ (.int .i64 e.age)) base v (l.set i e) := by
  subst hv
  rcases h with ⟨h1, ⟨h2, h0⟩ | ⟨g', cap', cur, h2, hb, hc, h3, h4, h5, h6⟩⟩
  · cases h2
  · cases h2
    refine ⟨by rw [length_encs], .inr ⟨g, _, ((cur.setIfInBounds (i * 3) (.int .i64 e.key)).setIfInBounds (i * 3 + 1) (.int .i64 e.weight)).setIfInBounds (i * 3 + 2) (.int .i64 e.age), by simp, hb, ?_, by simpa using h3, h4, by simpa using h5, ?_⟩⟩
    · have b0 : Blk w g cur 30 := hc
      exact ((b0.set (i * 3) (.int .i64 e.key)).set (i * 3 + 1) (.int .i64 e.weight)).set (i * 3 + 2) (.int .i64 e.age)
    · simp only [List.length_set, Array.toList_setIfInBounds]
      apply List.ext_getElem?
      intro j
      rw [List.getElem?_take]
      by_cases hj : j < l.length * 3
      · rw [if_pos hj]
        have hcur : cur.toList.length = cap * 3 := by simpa using h5
        obtain ⟨d, m, rfl, hm⟩ : ∃ d m, j = d * 3 + m ∧ (m = 0 ∨ m = 1 ∨ m = 2) := ⟨j / 3, j % 3, by omega, by omega⟩
        have hd : d < l.length := by omega
        obtain ⟨q1, q2, q3⟩ := encs_get (l.set i e) d (by simpa using hd)
        have hold : ∀ j, j < l.length * 3 → cur.toList[j]? = (encs l)[j]? := fun j hj => by
          rw [← h6, List.getElem?_take, if_pos hj]
        obtain ⟨p1, p2, p3⟩ := encs_get l d hd
        simp only [List.getElem?_set, List.length_set]
        by_cases hji : d = i
        · subst hji
          have eE : (l.set d e)[d]'(by simpa using hd) = e := by simp
          rw [eE] at q1 q2 q3
          rcases hm with rfl | rfl | rfl
          · rw [if_neg (by omega), if_neg (by omega), if_pos (by omega), if_pos (by omega)]; exact q1.symm
          · rw [if_neg (by omega), if_pos rfl, if_pos (by omega)]; exact q2.symm
          · rw [if_pos rfl, if_pos (by omega)]; exact q3.symm
        · have eE : (l.set i e)[d]'(by simpa using hd) = l[d] := by rw [List.getElem_set_ne (by omega)]
          rw [eE] at q1 q2 q3
          rw [if_neg (by omega), if_neg (by omega), if_neg (by omega), hold _ hj]
          rcases hm with rfl | rfl | rfl
          · exact p1.trans q1.symm
          · exact p2.trans q2.symm
          · exact p3.trans q3.symm
      · rw [if_neg hj, List.getElem?_eq_none (by rw [length_encs]; simp; omega)]
end Row

def rpE : Rp Ent where
  n := 3
  R _ _ x e := x = [.int .i64 e.key, .int .i64 e.weight, .int .i64 e.age]
  len := by rintro F w x a rfl; rfl
  one := by
    rintro F w x a rfl u hu
    simp at hu
    rcases hu with rfl | rfl | rfl <;> rfl
  keep := by intro F w w' x a h _; exact h
  weaken := by intro F F' w x a h _; exact h
end Go.Proofs.Ytplfbdkljnblmaa

