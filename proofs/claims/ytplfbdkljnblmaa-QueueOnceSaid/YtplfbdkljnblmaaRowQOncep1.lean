/-
  How plain data lie in memory: footprints that are kept, slices of any elements, slices that a call is building; and simple types.
-/
import Derived.WalkKit
import Derived.Deep.AppendLies
import Derived.Lib.AppendZerosOnto
set_option linter.unusedVariables false
set_option linter.unusedSimpArgs false
namespace Go.Proofs.Ytplfbdkljnblmaa
open Go.RowKit

def Keep (F : Nat → Prop) (w w' : World) : Prop := ∀ k o v, F k → w.cell? ⟨k, o, none⟩ = some v → w'.cell? ⟨k, o, none⟩ = some v
namespace Keep
variable {F : Nat → Prop} {w w' w'' : World}
theorem refl (F : Nat → Prop) (w : World) : Keep F w w := fun _ _ _ _ h => h
theorem trans (h : Keep F w w') (h' : Keep F w' w'') : Keep F w w'' := fun k o v hk hv => h' k o v hk (h k o v hk hv)
theorem weaken {F' : Nat → Prop} (h : Keep F w w') (hF : ∀ k, F' k → F k) : Keep F' w w' := fun k o v hk hv => h k o v (hF k hk) hv
theorem lt {k o : Nat} {v : Value} (h : w.cell? ⟨k, o, none⟩ = some v) : k < w.heap.size := by
  simp only [World.cell?] at h
  by_cases hk : k < w.heap.size
  · exact hk
  · rw [Array.getElem?_eq_none (by omega)] at h; simp at h
theorem below (h : Keep F w w') (hb : Below w'.heap.size w' w'') : Keep F w w'' :=
  h.trans fun k o _ _ hv => (hb.cell (p := ⟨k, o, none⟩) (lt hv)).trans hv
theorem alloc (h : Keep F w w') (o : Obj) : Keep F w (w'.alloc o) := h.below ((Below.refl _ _).alloc (Nat.le_refl _) _)
theorem drew (h : Keep F w w') : Keep F w w'.drew := h.below (Below.refl _ _).drew
theorem setCell (h : Keep F w w') (p : Addr) (u : Value) (hp : ¬ F p.block) : Keep F w (w'.setCell p u) :=
  h.trans fun k o v hk hv => by
    rw [← hv]; exact World.cell?_of_block (w := w') (a := ⟨k, o, none⟩) (Below.heap_setCell _ _ _ _ (fun e => hp (e ▸ hk)))
theorem grown (h : Keep F w w') {row : Option Nat} (hg : w'.grownBy w'' row) (hr : ∀ k, row = some k → ¬ F k) : Keep F w w'' :=
  h.trans fun k _ _ hk hv => hg.cell hv (fun e => hr k e.symm hk)
end Keep

theorem heap_alloc? (w : World) (o : Obj) (n : Nat) : (w.alloc o).heap[n]? = if n = w.heap.size then some o else w.heap[n]? := by
  by_cases h : n = w.heap.size
  · subst h; rw [if_pos rfl]; exact heap_alloc_new _ _
  · rw [if_neg h]
    show (w.heap.push o)[n]? = _
    rw [Array.getElem?_push, if_neg h]

def Blk (w : World) (n : Nat) (cs : Array Value) (t : TypeId) : Prop := w.heap[n]? = some (.cells cs t (0, 0))
namespace Blk
variable {w w' : World} {n : Nat} {cs : Array Value} {t : TypeId}
theorem lt (h : Blk w n cs t) : n < w.heap.size := lt_of_block h
theorem new (w : World) (cs : Array Value) (t : TypeId) {n : Nat} (h : n = w.heap.size) : Blk (w.alloc (.cells cs t)) n cs t := by
  subst h; exact heap_alloc_new _ _
theorem same (h : Blk w n cs t) (hw : w'.heap[n]? = w.heap[n]?) : Blk w' n cs t := Eq.trans hw h
theorem alloc (h : Blk w n cs t) (o : Obj) : Blk (w.alloc o) n cs t := h.same (by rw [heap_alloc?, if_neg (Nat.ne_of_lt h.lt)])
theorem drew (h : Blk w n cs t) : Blk w.drew n cs t := h
theorem below (h : Blk w n cs t) (hb : Below w.heap.size w w') : Blk w' n cs t := h.same (hb.block n h.lt)
theorem grown (h : Blk w n cs t) {row : Option Nat} (hg : w.grownBy w' row) (hne : row ≠ some n) : Blk w' n cs t := h.same (hg.block n h.lt (Ne.symm hne))
theorem far (h : Blk w n cs t) (p : Addr) (u : Value) (hp : n ≠ p.block) : Blk (w.setCell p u) n cs t := h.same (Below.heap_setCell _ _ _ _ hp)
theorem set (h : Blk w n cs t) (i : Nat) (u : Value) : Blk (w.setCell ⟨n, i, none⟩ u) n (cs.setIfInBounds i u) t := by
  have h' : w.heap[n]? = some (.cells cs t (0, 0)) := h
  show (w.heap.modify n _)[n]? = _
  simp [Array.getElem?_modify, h']
theorem cell (h : Blk w n cs t) {i : Nat} {v : Value} (hv : cs[i]? = some v) : w.cell? ⟨n, i, none⟩ = some v := by
  have h' : w.heap[n]? = some (.cells cs t (0, 0)) := h
  simp [World.cell?, h', hv]
theorem free (h : Blk w n cs t) (i : Nat) : w.frozen? ⟨n, i, none⟩ = false := by
  have h' : w.heap[n]? = some (.cells cs t (0, 0)) := h
  simp [World.frozen?, h']
end Blk
theorem below_push {w0 w w1 w2 : World} {B : Nat} {o : Obj} {row : Option Nat} (hb : Below B w0 w) (hB : B ≤ w.heap.size) (hb1 : Below w.drew.heap.size w.drew w1) (hg : (w1.alloc o).grownBy w2 row) (hr : ∀ k, row = some k → B ≤ k) : Below B w0 w2 :=
  ((hb.drew.trans (hb1.mono hB)).alloc (Nat.le_trans hB hb1.size) _).grown hg (by have := hb1.size; simp at this ⊢; omega) hr
theorem Blk.push {w w1 w2 : World} {o : Obj} {row : Option Nat} {n : Nat} {cs : Array Value} {t : TypeId} (h : Blk w n cs t) (hb1 : Below w.drew.heap.size w.drew w1) (hg : (w1.alloc o).grownBy w2 row) (hne : row ≠ some n) : Blk w2 n cs t :=
  ((Blk.below (w := w.drew) h hb1).alloc o).grown hg hne

structure Rp (α : Type) where
  n : Nat
  R : (Nat → Prop) → World → List Value → α → Prop
  len : ∀ {F w x a}, R F w x a → x.length = n
  one : ∀ {F w x a}, R F w x a → ∀ u ∈ x, u.oneCell' = true
  keep : ∀ {F w w' x a}, R F w x a → Keep F w w' → R F w' x a
  weaken : ∀ {F F' w x a}, R F w x a → (∀ k, k < w.heap.size → F k → F' k) → R F' w x a

def IsSl {α : Type} (r : Rp α) (F : Nat → Prop) (w : World) (v : Value) (l : List α) : Prop :=
  ∃ (a : Option Addr) (c bl off : Nat) (X : Nat → List Value), v = .slice a l.length c ∧ (l.length ≤ maxLen ∧ l.length ≤ c) ∧ (0 < l.length → a = some ⟨bl, off, none⟩ ∧ F bl) ∧
    (∀ i j u, i < l.length → (X i)[j]? = some u → w.cell? ⟨bl, off + i * r.n + j, none⟩ = some u) ∧ ∀ i (h : i < l.length), r.R F w (X i) l[i]

theorem IsSl.keep {α : Type} {r : Rp α} {F : Nat → Prop} {w w' : World} {v : Value} {l : List α} (h : IsSl r F w v l) (hw : Keep F w w') : IsSl r F w' v l := by
  obtain ⟨a, c, bl, off, X, hv, hl, ha, h1, h2⟩ := h
  exact ⟨a, c, bl, off, X, hv, hl, ha, fun i j u hi hu => hw _ _ _ (ha (by omega)).2 (h1 i j u hi hu), fun i hi => r.keep (h2 i hi) hw⟩
theorem IsSl.weaken {α : Type} {r : Rp α} {F F' : Nat → Prop} {w : World} {v : Value} {l : List α} (hn : 0 < r.n) (h : IsSl r F w v l) (hF : ∀ k, k < w.heap.size → F k → F' k) : IsSl r F' w v l := by
  obtain ⟨a, c, bl, off, X, hv, hl, ha, h1, h2⟩ := h
  refine ⟨a, c, bl, off, X, hv, hl, fun h0 => ⟨(ha h0).1, hF _ ?_ (ha h0).2⟩, h1, fun i hi => r.weaken (h2 i hi) hF⟩
  have hx := r.len (h2 0 h0)
  exact Keep.lt (h1 0 0 ((X 0)[0]'(by omega)) h0 (by simp))

def Acc {α : Type} (r : Rp α) (E : TypeId) (base : Nat) (F : Nat → Prop) (w : World) (v : Value) (l : List α) : Prop :=
  ∃ X : List (List Value), X.length = l.length ∧ w.ownsRow base E r.n v l.length X.flatten ∧ ∀ i (h : i < l.length), ∃ x, X[i]? = some x ∧ r.R (fun k => F k ∧ v.ownBlock ≠ some k) w x l[i]

theorem ownsRow_below {w w' : World} {base : Nat} {e : TypeId} {size : Nat} {v : Value} {n : Nat} {xs : List Value} (h : w.ownsRow base e size v n xs) (hb : Below w.heap.size w w') : w'.ownsRow base e size v n xs :=
  h.kept ⟨hb.os, hb.tape, hb.output, hb.size, fun k hk _ => hb.block k hk⟩ (row := none) (by cases h : v.ownBlock <;> simp)
namespace Acc
variable {α : Type} {r : Rp α} {E : TypeId} {base : Nat} {F : Nat → Prop} {w w' : World} {v : Value} {l : List α}
theorem nil (r : Rp α) (E : TypeId) (base : Nat) (F : Nat → Prop) (w : World) : Acc r E base F w (.slice none 0 0) [] :=
  ⟨[], rfl, World.ownsRow_nil _ _ _ _, fun i h => absurd h (by simp)⟩
theorem below (h : Acc r E base F w v l) (hb : Below w.heap.size w w') : Acc r E base F w' v l := by
  obtain ⟨X, h1, h2, h3⟩ := h
  refine ⟨X, h1, ownsRow_below h2 hb, fun i hi => ?_⟩
  obtain ⟨x, hx, hr⟩ := h3 i hi
  exact ⟨x, hx, r.keep hr ((Keep.refl _ _).below hb)⟩
theorem alloc (h : Acc r E base F w v l) (o : Obj) : Acc r E base F (w.alloc o) v l := h.below ((Below.refl _ _).alloc (Nat.le_refl _) _)
theorem drew (h : Acc r E base F w v l) : Acc r E base F w.drew v l := h.below (Below.refl _ _).drew
theorem setCell (h : Acc r E base F w v l) (p : Addr) (u : Value) (hp : ¬ F p.block) (hb : p.block < base) : Acc r E base F (w.setCell p u) v l := by
  obtain ⟨X, h1, h2, h3⟩ := h
  refine ⟨X, h1, ownsRow_setCell_below h2 hb u, fun i hi => ?_⟩
  obtain ⟨x, hx, hr⟩ := h3 i hi
  exact ⟨x, hx, r.keep hr ((Keep.refl _ _).setCell _ _ (fun hc => hp hc.1))⟩
theorem len_shape (h : Acc r E base F w v l) : ∃ a c, v = .slice a l.length c := by
  obtain ⟨X, h1, h2, h3⟩ := h
  rcases h2.2 with ⟨rfl, h0⟩ | ⟨g, cap, cur, hv, _⟩
  · exact ⟨none, 0, by rw [h0]⟩
  · exact ⟨_, _, hv⟩
theorem base_le (h : Acc r E base F w v l) : ∀ k, v.ownBlock = some k → base ≤ k ∧ k < w.heap.size := by
  obtain ⟨X, h1, h2, h3⟩ := h
  exact h2.lt
theorem sl {F' : Nat → Prop} (h : Acc r E base F w v l) (hF : ∀ k, k < w.heap.size → F k → F' k) (hbase : ∀ k, base ≤ k → F' k) : IsSl r F' w v l := by
  obtain ⟨X, h1, h2, h3⟩ := h
  have hx : ∀ i (hi : i < l.length), r.R F' w (X.getD i []) l[i] := fun i hi => by
    obtain ⟨x, hx, hr⟩ := h3 i hi
    have : X.getD i [] = x := by simp [hx]
    rw [this]
    exact r.weaken hr fun k hk hc => hF k hk hc.1
  rcases h2.2 with ⟨rfl, h0⟩ | ⟨g, cap, cur, rfl, hg, hh, hn, hm, hs, ht⟩
  · exact ⟨none, 0, 0, 0, fun i => X.getD i [], by rw [h0], by omega, fun h => absurd h (by omega), fun i _ _ hi => absurd hi (by omega), hx⟩
  · refine ⟨some ⟨g, 0, none⟩, cap, g, 0, fun i => X.getD i [], rfl, by omega, fun _ => ⟨rfl, hbase g hg⟩, fun i j u hi hu => ?_, hx⟩
    have hl : ∀ i, i < X.length → (X.getD i []).length = r.n := fun i hi => r.len (hx i (by omega))
    have key : X.flatten[i * r.n + j]? = some u := by
      have hall : ∀ (Y : List (List Value)), (∀ i, i < Y.length → (Y.getD i []).length = r.n) → ∀ i j u, i < Y.length → (Y.getD i [])[j]? = some u → Y.flatten[i * r.n + j]? = some u := by
        intro Y
        induction Y with
        | nil => intro _ i j u hi; simp at hi
        | cons y Y ih =>
          intro hY i j u hi hu
          have hy : y.length = r.n := by have := hY 0 (by simp); simpa using this
          rw [List.flatten_cons]
          cases i with
          | zero =>
            simp at hu
            have : j < y.length := by
              rcases Nat.lt_or_ge j y.length with h | h
              · exact h
              · rw [List.getElem?_eq_none h] at hu; cases hu
            rw [List.getElem?_append_left (by omega)]; simpa using hu
          | succ i =>
            rw [List.getElem?_append_right (by rw [hy, Nat.succ_mul]; omega)]
            have := ih (fun i hi => by have := hY (i + 1) (by simpa using hi); simpa using this) i j u (by simpa using hi) (by simpa using hu)
            rw [← this]; congr 1; rw [hy, Nat.succ_mul]; omega
      exact hall X hl i j u (by omega) hu
    rw [← ht] at key
    simp only [World.cell?, hh]
    rw [List.getElem?_take] at key
    split at key
    · simpa using key
    · cases key
theorem push_own {X : List (List Value)} {x : List Value} {a : α} {v' : Value} (hX : X.length = l.length) (h3 : ∀ i (h : i < l.length), ∃ x, X[i]? = some x ∧ r.R (fun k => F k ∧ v.ownBlock ≠ some k) w x l[i])
    (hx : r.R (fun k => F k ∧ v.ownBlock ≠ some k) w x a) (hown : w'.ownsRow base E r.n v' (l.length + 1) (X.flatten ++ x)) (hgrow : w.grownBy w' v.ownBlock) (hat : v'.ownBlock = v.ownBlock ∨ v'.ownBlock = some w.heap.size) :
    Acc r E base F w' v' (l ++ [a]) := by
  have hk : ∀ {x : List Value} {b : α}, r.R (fun k => F k ∧ v.ownBlock ≠ some k) w x b → r.R (fun k => F k ∧ v'.ownBlock ≠ some k) w' x b := fun {x b} h => by
    have h0 := r.keep h ((Keep.refl _ _).grown hgrow (fun k hk hc => hc.2 hk))
    rcases hat with hat | hat
    · rw [hat]; exact h0
    · have h1 : r.R (fun k => F k ∧ k < w.heap.size ∧ v.ownBlock ≠ some k) w x b := r.weaken h fun k hk hc => ⟨hc.1, hk, hc.2⟩
      have h2 := r.keep h1 ((Keep.refl _ _).grown hgrow (fun k hk hc => hc.2.2 hk))
      exact r.weaken h2 fun k _ hc => ⟨hc.1, by rw [hat]; intro e; cases e; omega⟩
  refine ⟨X ++ [x], by simp [hX], by simpa using hown, fun i hi => ?_⟩
  by_cases hi' : i < l.length
  · obtain ⟨y, hy, hr⟩ := h3 i hi'
    refine ⟨y, by rw [List.getElem?_append_left (by omega)]; exact hy, ?_⟩
    rw [List.getElem_append_left hi']; exact hk hr
  · have hie : i = l.length := by simp at hi; omega
    subst hie
    refine ⟨x, by rw [List.getElem?_append_right (by omega)]; simp [hX], ?_⟩
    rw [List.getElem_append_right (by omega)]; simpa using hk hx
end Acc

theorem step_push {α : Type} (r : Rp α) (hrn : 0 < r.n) {P : Program} {w : World} {ops : Array Oper} {o : Oper} {a : Act} {K : Act → World → Prop} {Q : Exit → Act → World → Prop} {E0 : Prop} (hgd : o.guard = none) (s x : Operand) (t : TypeId)
    (ho : o.op = .call { callee := .builtin .append, args := #[s, x], argTypes := #[t, t] })
    (base : Nat) (e : TypeId) (i : TypeInfo) (z : Value) (bytes : Nat) (ht : P.underlying t = some (.slice e)) (hi : P.info? e = some i) (hz : i.zero = some z)
    (hsize : i.size = r.n) (hby : i.bytes = bytes) (hzs : z.cells.size = r.n) (hbb : bytes ≤ 1000)
    (F : Nat → Prop) (v : Value) (l : List α) (hs : a.eval s = v) (hacc : Acc r e base F w v l) (hl : l.length ≤ 1000000)
    (B c : Nat) (y : List Value) (b : α) (hx : a.eval x = .slice (some ⟨B, 0, none⟩) 1 c) (hB : w.heap[B]? = some (.cells y.toArray e (0, 0))) (hy : r.R (fun k => F k ∧ v.ownBlock ≠ some k) w y b)
    (hbase : base ≤ w.heap.size)
    (h : ∀ g cap w', Acc r e base F w' (.slice (some ⟨g, 0, none⟩) (l.length + 1) cap) (l ++ [b]) → w.grownBy w' v.ownBlock → (v.ownBlock = some g ∨ g = w.heap.size) → g < w'.heap.size → K (a.put o.dst (.slice (some ⟨g, 0, none⟩) (l.length + 1) cap)) w') :
    if Region.wanted o (yielded ops a.tmps) = true then Oper.wp P o a w K Q else E0 := by
  obtain ⟨X, h1, h2, h3⟩ := hacc
  refine step_append_lies w hgd s x t ho base e i z r.n bytes ht hi hz hsize hby hzs hrn v l.length X.flatten hs h2 ⟨B, 0, none⟩ 1 c y hx (by rw [r.len hy]; omega) (World.news_of_block hB) (r.one hy) (by omega) (by unfold maxLen; omega) ?_ hbase w.heap.size rfl ?_
  · have : (l.length + 1) * bytes ≤ 1000001 * 1000 := Nat.mul_le_mul (by omega) hbb
    omega
  · intro g cap w' hown hgrow hat hlt
    refine h g cap w' (Acc.push_own h1 h3 hy hown hgrow ?_) hgrow hat hlt
    rcases hat with hat | hat
    · exact .inl (by rw [hat]; rfl)
    · exact .inr (by rw [hat]; rfl)
theorem wpList_push {α : Type} (r : Rp α) (hrn : 0 < r.n) {P : Program} {w : World} {ops : Array Oper} {rest : List Oper} {o : Oper} {a : Act} {Q : Exit → Act → World → Prop} (hgd : o.guard = none) (s x : Operand) (t : TypeId)
    (ho : o.op = .call { callee := .builtin .append, args := #[s, x], argTypes := #[t, t] })
    (base : Nat) (e : TypeId) (i : TypeInfo) (z : Value) (bytes : Nat) (ht : P.underlying t = some (.slice e)) (hi : P.info? e = some i) (hz : i.zero = some z)
    (hsize : i.size = r.n) (hby : i.bytes = bytes) (hzs : z.cells.size = r.n) (hbb : bytes ≤ 1000)
    (F : Nat → Prop) (v : Value) (l : List α) (hs : a.eval s = v) (hacc : Acc r e base F w v l) (hl : l.length ≤ 1000000)
    (B c : Nat) (y : List Value) (b : α) (hx : a.eval x = .slice (some ⟨B, 0, none⟩) 1 c) (hB : w.heap[B]? = some (.cells y.toArray e (0, 0))) (hy : r.R (fun k => F k ∧ v.ownBlock ≠ some k) w y b)
    (hbase : base ≤ w.heap.size)
    (h : ∀ g cap w', Acc r e base F w' (.slice (some ⟨g, 0, none⟩) (l.length + 1) cap) (l ++ [b]) → w.grownBy w' v.ownBlock → (v.ownBlock = some g ∨ g = w.heap.size) → g < w'.heap.size → wpList P ops Q rest (a.put o.dst (.slice (some ⟨g, 0, none⟩) (l.length + 1) cap)) w') :
    wpList P ops Q (o :: rest) a w := by
  obtain ⟨X, h1, h2, h3⟩ := hacc
  refine wpList_append_lies w hgd s x t ho base e i z r.n bytes ht hi hz hsize hby hzs hrn v l.length X.flatten hs h2 ⟨B, 0, none⟩ 1 c y hx (by rw [r.len hy]; omega) (World.news_of_block hB) (r.one hy) (by omega) (by unfold maxLen; omega) ?_ hbase w.heap.size rfl ?_
  · have : (l.length + 1) * bytes ≤ 1000001 * 1000 := Nat.mul_le_mul (by omega) hbb
    omega
  · intro g cap w' hown hgrow hat hlt
    refine h g cap w' (Acc.push_own h1 h3 hy hown hgrow ?_) hgrow hat hlt
    rcases hat with hat | hat
    · exact .inl (by rw [hat]; rfl)
    · exact .inr (by rw [hat]; rfl)

def IsSl2 {α : Type} (r : Rp α) (G F : Nat → Prop) (w : World) (v : Value) (l : List α) : Prop :=
  ∃ (a : Option Addr) (c bl off : Nat) (X : Nat → List Value), v = .slice a l.length c ∧ (l.length ≤ maxLen ∧ l.length ≤ c) ∧ (0 < l.length → a = some ⟨bl, off, none⟩ ∧ G bl) ∧
    (∀ i j u, i < l.length → (X i)[j]? = some u → w.cell? ⟨bl, off + i * r.n + j, none⟩ = some u) ∧ ∀ i (h : i < l.length), r.R F w (X i) l[i]
namespace IsSl2
variable {α : Type} {r : Rp α} {G F : Nat → Prop} {w w' : World} {v : Value} {l : List α}
theorem of (h : IsSl r F w v l) : IsSl2 r F F w v l := h
theorem keep (h : IsSl2 r G F w v l) (hG : Keep G w w') (hF : Keep F w w') : IsSl2 r G F w' v l := by
  obtain ⟨a, c, bl, off, X, hv, hl, ha, h1, h2⟩ := h
  exact ⟨a, c, bl, off, X, hv, hl, ha, fun i j u hi hu => hG _ _ _ (ha (by omega)).2 (h1 i j u hi hu), fun i hi => r.keep (h2 i hi) hF⟩
theorem bel (h : IsSl2 r G F w v l) (hb : Below w.heap.size w w') : IsSl2 r G F w' v l := h.keep ((Keep.refl _ _).below hb) ((Keep.refl _ _).below hb)
theorem weaken {G' F' : Nat → Prop} (hn : 0 < r.n) (h : IsSl2 r G F w v l) (hG : ∀ k, k < w.heap.size → G k → G' k) (hF : ∀ k, k < w.heap.size → F k → F' k) : IsSl2 r G' F' w v l := by
  obtain ⟨a, c, bl, off, X, hv, hl, ha, h1, h2⟩ := h
  refine ⟨a, c, bl, off, X, hv, hl, fun h0 => ⟨(ha h0).1, hG _ ?_ (ha h0).2⟩, h1, fun i hi => r.weaken (h2 i hi) hF⟩
  have hx := r.len (h2 0 h0)
  exact Keep.lt (h1 0 0 ((X 0)[0]'(by omega)) h0 (by simp))
theorem anyRow (hn : 0 < r.n) (h : IsSl2 r G F w v l) : IsSl2 r (fun _ => True) F w v l := h.weaken hn (fun _ _ _ => trivial) (fun _ _ h => h)
theorem sl (hn : 0 < r.n) (h : IsSl2 r G F w v l) {F' : Nat → Prop} (hG : ∀ k, k < w.heap.size → G k → F' k) (hF : ∀ k, k < w.heap.size → F k → F' k) : IsSl r F' w v l := h.weaken hn hG hF
theorem shape (h : IsSl2 r G F w v l) : ∃ a c, v = .slice a l.length c := by
  obtain ⟨a, c, _, _, _, hv, _⟩ := h
  exact ⟨a, c, hv⟩
end IsSl2
theorem Acc.sl2 {α : Type} {r : Rp α} {E : TypeId} {base : Nat} {F : Nat → Prop} {w : World} {v : Value} {l : List α} (h : Acc r E base F w v l) : IsSl2 r (fun q => base ≤ q) F w v l := by
  obtain ⟨X, h1, h2, h3⟩ := h
  let r2 : Rp α := { n := r.n, R := fun _ _ x a => r.R F w x a, len := r.len, one := r.one, keep := fun h _ => h, weaken := fun h _ => h }
  have h0 : IsSl r2 (fun k => base ≤ k ∨ False) w v l := Acc.sl (F := fun _ => False) ⟨X, h1, h2, fun i hi => by
    obtain ⟨x, hx, hr⟩ := h3 i hi
    exact ⟨x, hx, r.weaken hr fun _ _ hc => hc.1⟩⟩ (fun _ _ h => .inr h) (fun _ h => .inl h)
  obtain ⟨a, c, bl, off, Y, hv, hl, ha, g1, g2⟩ := h0
  exact ⟨a, c, bl, off, Y, hv, hl, fun h => ⟨(ha h).1, (ha h).2.resolve_right id⟩, g1, g2⟩

/-! a whole slice appended -/
theorem flat_len {X : Nat → List Value} {n : Nat} : ∀ m, (∀ i, i < m → (X i).length = n) → ((List.range m).map X).flatten.length = m * n := by
  intro m
  induction m with
  | zero => intro _; simp
  | succ m ih =>
    intro h
    rw [List.range_succ, List.map_append, List.flatten_append, List.length_append, ih (fun i hi => h i (by omega))]
    simp [h m (by omega), Nat.succ_mul]
theorem flat_get {X : Nat → List Value} {n : Nat} (hn : 0 < n) : ∀ m, (∀ i, i < m → (X i).length = n) → ∀ j u, ((List.range m).map X).flatten[j]? = some u → j / n < m ∧ (X (j / n))[j % n]? = some u := by
  intro m
  induction m with
  | zero => intro _ j u h; simp at h
  | succ m ih =>
    intro h j u hj
    have hl := flat_len m (fun i hi => h i (by omega))
    rw [List.range_succ, List.map_append, List.flatten_append] at hj
    by_cases hjm : j < m * n
    · rw [List.getElem?_append_left (by omega)] at hj
      have := ih (fun i hi => h i (by omega)) j u hj
      exact ⟨by omega, this.2⟩
    · rw [List.getElem?_append_right (by omega), hl] at hj
      simp at hj
      have hx := h m (by omega)
      have hlt : j - m * n < n := by
        rcases Nat.lt_or_ge (j - m * n) n with h' | h'
        · exact h'
        · rw [List.getElem?_eq_none (by omega)] at hj; cases hj
      have e1 : j = (j - m * n) + n * m := by rw [Nat.mul_comm n m]; omega
      have e2 : j / n = m := by rw [e1, Nat.add_mul_div_left _ _ hn, Nat.div_eq_of_lt hlt]; omega
      have e3 : j % n = j - m * n := by
        conv => lhs; rw [e1]
        rw [Nat.add_mul_mod_self_left, Nat.mod_eq_of_lt hlt]
      exact ⟨by omega, by rw [e2, e3]; exact hj⟩

theorem run_append_none {P : Program} (w : World) (t ty e : TypeId) (i : TypeInfo) (ht : P.underlying t = some (.slice e)) (hi : P.info? e = some i) {base : Nat} {size : Nat} {v : Value} {n : Nat} {xs : List Value}
    (hown : w.ownsRow base e size v n xs) (c : Nat) : (Builtin.append_ #[t, t] ty #[v, .slice none 0 c]).run P w = .ok v w := by
  rcases hown.2 with ⟨rfl, rfl⟩ | ⟨g, cap, cur, rfl, hbg, hg, hnc, hcm, hcs, htake⟩
  · simp [Builtin.append_, run_underlying ht, sizeOf, typeInfo, hi, Builtin.lenOf, Builtin.firstCells]
  · simp [Builtin.append_, run_underlying ht, sizeOf, typeInfo, hi, Builtin.lenOf, Builtin.firstCells, hnc, storeCells]

theorem run_append_sl {α : Type} (r : Rp α) (hrn : 0 < r.n) {P : Program} (w : World) (t ty : TypeId) (base : Nat) (e : TypeId) (i : TypeInfo) (z : Value) (bytes : Nat) (ht : P.underlying t = some (.slice e)) (hi : P.info? e = some i) (hz : i.zero = some z)
    (hsize : i.size = r.n) (hby : i.bytes = bytes) (hzs : z.cells.size = r.n) (hbb : bytes ≤ 1000)
    (F : Nat → Prop) (v : Value) (l : List α) (hacc : Acc r e base F w v l) (x : Value) (l2 : List α) {G : Nat → Prop} (hx : IsSl2 r G (fun k => F k ∧ v.ownBlock ≠ some k) w x l2) (hl : l.length + l2.length ≤ 1000000) (hbase : base ≤ w.heap.size) :
    ∃ v' w', (Builtin.append_ #[t, t] ty #[v, x]).run P w = .ok v' w' ∧ Acc r e base F w' v' (l ++ l2) ∧ w.grownBy w' v.ownBlock ∧ (v'.ownBlock = v.ownBlock ∨ v'.ownBlock = some w.heap.size) := by
  obtain ⟨X, h1, h2, h3⟩ := hacc
  obtain ⟨a, c, bl, off, Y, rfl, hm, ha, g1, g2⟩ := hx
  have hlen : ∀ i, i < l2.length → (Y i).length = r.n := fun i hi => r.len (g2 i hi)
  have step : ∀ v' w', w'.ownsRow base e r.n v' (l.length + l2.length) (X.flatten ++ ((List.range l2.length).map Y).flatten) → w.grownBy w' v.ownBlock → (v'.ownBlock = v.ownBlock ∨ v'.ownBlock = some w.heap.size) → Acc r e base F w' v' (l ++ l2) := by
    intro v' w' hown hgrow hat
    have hk : ∀ {x : List Value} {b : α}, r.R (fun k => F k ∧ v.ownBlock ≠ some k) w x b → r.R (fun k => F k ∧ v'.ownBlock ≠ some k) w' x b := fun {x b} h => by
      have h0 := r.keep h ((Keep.refl _ _).grown hgrow (fun k hk hc => hc.2 hk))
      rcases hat with hat | hat
      · rw [hat]; exact h0
      · have h1 : r.R (fun k => F k ∧ k < w.heap.size ∧ v.ownBlock ≠ some k) w x b := r.weaken h fun k hk hc => ⟨hc.1, hk, hc.2⟩
        have h2 := r.keep h1 ((Keep.refl _ _).grown hgrow (fun k hk hc => hc.2.2 hk))
        exact r.weaken h2 fun k _ hc => ⟨hc.1, by rw [hat]; intro e; cases e; omega⟩
    refine ⟨X ++ (List.range l2.length).map Y, by simp [h1], by simpa using hown, fun i hi => ?_⟩
    by_cases hi' : i < l.length
    · obtain ⟨y, hy, hr⟩ := h3 i hi'
      refine ⟨y, by rw [List.getElem?_append_left (by omega)]; exact hy, ?_⟩
      rw [List.getElem_append_left hi']; exact hk hr
    · rw [List.length_append] at hi
      have hr := g2 (i - l.length) (by omega)
      refine ⟨Y (i - l.length), by rw [List.getElem?_append_right (by omega), h1, List.getElem?_map, List.getElem?_range (by omega)]; rfl, ?_⟩
      rw [List.getElem_append_right (by omega)]; exact hk hr
  by_cases h0 : l2.length = 0
  · have hn : l2 = [] := List.eq_nil_of_length_eq_zero h0
    subst hn
    cases a with
    | none =>
      refine ⟨v, w, run_append_none w t ty e i ht hi h2 c, by rw [List.append_nil]; exact ⟨X, h1, h2, h3⟩, ⟨rfl, rfl, rfl, Nat.le_refl _, fun _ _ _ => rfl⟩, .inl rfl⟩
    | some a =>
      obtain ⟨v', w', hr, h4, h5, h6, h7⟩ := run_append_own_at (P := P) w base t ty e i z r.n bytes ht hi hz hsize hby hzs hrn v l.length X.flatten h2 a 0 c [] (by simp) (by simp) (by simp) (by unfold maxLen; simp at hl; omega) (by
        have : (l.length + 0) * bytes ≤ 1000000 * 1000 := Nat.mul_le_mul (by simp at hl; omega) hbb
        omega) hbase
      exact ⟨v', w', hr, step v' w' (by simpa using h4) h5 h7, h5, h7⟩
  · obtain ⟨rfl, hF⟩ := ha (by omega)
    obtain ⟨v', w', hr, h4, h5, h6, h7⟩ := run_append_own_at (P := P) w base t ty e i z r.n bytes ht hi hz hsize hby hzs hrn v l.length X.flatten h2 ⟨bl, off, none⟩ l2.length c ((List.range l2.length).map Y).flatten
      (flat_len _ hlen) (fun j u hj => by
        obtain ⟨q1, q2⟩ := flat_get hrn _ hlen j u hj
        have := g1 _ _ u q1 q2
        have hadd : (⟨bl, off, none⟩ : Addr).add j = ⟨bl, off + j / r.n * r.n + j % r.n, none⟩ := by
          have hq := Nat.div_add_mod' j r.n
          unfold Addr.add
          split
          · rename_i hj0; simp [hj0]
          · simp; omega
        rw [hadd]; exact this) (fun u hu => by
        obtain ⟨y, hy, hu⟩ := List.mem_flatten.1 hu
        obtain ⟨i, hi, rfl⟩ := List.mem_map.1 hy
        exact r.one (g2 i (by simpa using hi)) u hu) (by unfold maxLen; omega) (by
        have : (l.length + l2.length) * bytes ≤ 1000000 * 1000 := Nat.mul_le_mul (by omega) hbb
        omega) hbase
    exact ⟨v', w', hr, step v' w' h4 h5 h7, h5, h7⟩

theorem wpList_append_eq {P : Program} {w w' : World} {ops : Array Oper} {rest : List Oper} {o : Oper} {a : Act} {Q : Exit → Act → World → Prop} (hgd : o.guard = none) (s x : Operand) (ta tb : TypeId) (v' : Value)
    (ho : o.op = .call { callee := .builtin .append, args := #[s, x], argTypes := #[ta, tb] }) (hr : (Builtin.append_ #[ta, tb] o.type #[a.eval s, a.eval x]).run P w = .ok v' w')
    (h : wpList P ops Q rest (a.put o.dst v') w') : wpList P ops Q (o :: rest) a w := by
  refine wpList_plain hgd fun _ hK => ?_
  unfold Oper.wp execOp
  simp only [ho, resolve, invoke, builtin, Sem.run_bind, Sem.run_pure, Result.andThen_ok, List.map_toArray, List.map_cons, List.map_nil, hr]
  exact hK _ _ h
theorem wpList_push_sl {α : Type} (r : Rp α) (hrn : 0 < r.n) {P : Program} {w : World} {ops : Array Oper} {rest : List Oper} {o : Oper} {a : Act} {Q : Exit → Act → World → Prop} (hgd : o.guard = none) (s x : Operand) (t : TypeId)
    (ho : o.op = .call { callee := .builtin .append, args := #[s, x], argTypes := #[t, t] })
    (base : Nat) (e : TypeId) (i : TypeInfo) (z : Value) (bytes : Nat) (ht : P.underlying t = some (.slice e)) (hi : P.info? e = some i) (hz : i.zero = some z)
    (hsize : i.size = r.n) (hby : i.bytes = bytes) (hzs : z.cells.size = r.n) (hbb : bytes ≤ 1000)
    (F : Nat → Prop) (v : Value) (l : List α) (hs : a.eval s = v) (hacc : Acc r e base F w v l) (y : Value) (l2 : List α) (hx : a.eval x = y) {G : Nat → Prop} (hy : IsSl2 r G (fun k => F k ∧ v.ownBlock ≠ some k) w y l2) (hl : l.length + l2.length ≤ 1000000) (hbase : base ≤ w.heap.size)
    (h : ∀ v' w', Acc r e base F w' v' (l ++ l2) → w.grownBy w' v.ownBlock → (v'.ownBlock = v.ownBlock ∨ v'.ownBlock = some w.heap.size) → wpList P ops Q rest (a.put o.dst v') w') :
    wpList P ops Q (o :: rest) a w := by
  obtain ⟨v', w', hr, h2, h3, h4⟩ := run_append_sl r hrn (P := P) w t o.type base e i z bytes ht hi hz hsize hby hzs hbb F v l hacc y l2 hy hl hbase
  refine wpList_plain hgd fun _ hK => ?_
  unfold Oper.wp execOp
  simp only [ho, resolve, invoke, builtin, Sem.run_bind, Sem.run_pure, Result.andThen_ok, List.map_toArray, List.map_cons, List.map_nil, hs, hx, hr]
  exact hK _ _ (h v' w' h2 h3 h4)

end Go.Proofs.Ytplfbdkljnblmaa

