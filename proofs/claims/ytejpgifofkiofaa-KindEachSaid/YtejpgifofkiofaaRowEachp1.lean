/-
  How plain data lie in memory: footprints that are kept, slices of any elements, slices that a call is building; and simple types. What a simple type is in plain Lean, and when memory holds one. From the readings of a row's arguments to the representations that the walks ask, and from a walk that keeps what was there to the row's end. The reference's count of a type's types: how far it counts, and what its count says.
-/
import Derived.WalkKit
import Derived.Deep.AppendLies
import Derived.Lib.AppendZerosOnto
import Derived.Test.YtejpgifofkiofaaChecked
import Derived.ProofKit
import Derived.WideKeyArgs
import Derived.OpenShut
import Derived.Test.YtejpgifofkiofaaProg
import Derived.Lib.Hide
import Derived.Deep.QuietTactic
import Derived.BigQuiet
set_option linter.unusedVariables false
set_option linter.unusedSimpArgs false
namespace Go.Proofs.Ytejpgifofkiofaa
open Go.RowKit

def Keep (F : Nat → Prop) (w w' : World) : Prop := ∀ k o v, F k → w.cell? ⟨k, o, none⟩ = some v → w'.cell? ⟨k, o, none⟩ = some v
namespace Keep
variable {F : Nat → Prop} {w w' w'' : World}
theorem refl (F : Nat → Prop) (w : World) : Keep F w w := fun _ _ _ _ h => h
theorem trans (h : Keep F w w') (h' : Keep F w' w'') : Keep F w w'' := fun k o v hk hv => h' k o v hk (h k o v hk hv)
theorem weaken {F' : Nat → Prop} (h : Keep F w w') (hF : ∀ k, F' k → F k) : Keep F' w w' := fun k o v hk hv => h k o v (hF k hk) hv
theorem lt {k o : Nat} {v : Value} (h : w.cell? ⟨k, o, none⟩ = some v) : k < w.heap.size := by
  simp only [World.cell?] at h
  by_cases hk : k < w.heap.size
  · exact hk
  · rw [Array.getElem?_eq_none (by omega)] at h; simp at h
theorem below (h : Keep F w w') (hb : Below w'.heap.size w' w'') : Keep F w w'' :=
  h.trans fun k o _ _ hv => (hb.cell (p := ⟨k, o, none⟩) (lt hv)).trans hv
theorem alloc (h : Keep F w w') (o : Obj) : Keep F w (w'.alloc o) := h.below ((Below.refl _ _).alloc (Nat.le_refl _) _)
theorem drew (h : Keep F w w') : Keep F w w'.drew := h.below (Below.refl _ _).drew
theorem setCell (h : Keep F w w') (p : Addr) (u : Value) (hp : ¬ F p.block) : Keep F w (w'.setCell p u) :=
  h.trans fun k o v hk hv => by
    rw [← hv]; exact World.cell?_of_block (w := w') (a := ⟨k, o, none⟩) (Below.heap_setCell _ _ _ _ (fun e => hp (e ▸ hk)))
theorem grown (h : Keep F w w') {row : Option Nat} (hg : w'.grownBy w'' row) (hr : ∀ k, row = some k → ¬ F k) : Keep F w w'' :=
  h.trans fun k _ _ hk hv => hg.cell hv (fun e => hr k e.symm hk)
end Keep

theorem heap_alloc? (w : World) (o : Obj) (n : Nat) : (w.alloc o).heap[n]? = if n = w.heap.size then some o else w.heap[n]? := by
  by_cases h : n = w.heap.size
  · subst h; rw [if_pos rfl]; exact heap_alloc_new _ _
  · rw [if_neg h]
    show (w.heap.push o)[n]? = _
    rw [Array.getElem?_push, if_neg h]

def Blk (w : World) (n : Nat) (cs : Array Value) (t : TypeId) : Prop := w.heap[n]? = some (.cells cs t (0, 0))
namespace Blk
variable {w w' : World} {n : Nat} {cs : Array Value} {t : TypeId}
theorem lt (h : Blk w n cs t) : n < w.heap.size := lt_of_block h
theorem new (w : World) (cs : Array Value) (t : TypeId) {n : Nat} (h : n = w.heap.size) : Blk (w.alloc (.cells cs t)) n cs t := by
  subst h; exact heap_alloc_new _ _
theorem same (h : Blk w n cs t) (hw : w'.heap[n]? = w.heap[n]?) : Blk w' n cs t := Eq.trans hw h
theorem alloc (h : Blk w n cs t) (o : Obj) : Blk (w.alloc o) n cs t := h.same (by rw [heap_alloc?, if_neg (Nat.ne_of_lt h.lt)])
theorem drew (h : Blk w n cs t) : Blk w.drew n cs t := h
theorem below (h : Blk w n cs t) (hb : Below w.heap.size w w') : Blk w' n cs t := h.same (hb.block n h.lt)
theorem grown (h : Blk w n cs t) {row : Option Nat} (hg : w.grownBy w' row) (hne : row ≠ some n) : Blk w' n cs t := h.same (hg.block n h.lt (Ne.symm hne))
theorem far (h : Blk w n cs t) (p : Addr) (u : Value) (hp : n ≠ p.block) : Blk (w.setCell p u) n cs t := h.same (Below.heap_setCell _ _ _ _ hp)
theorem set (h : Blk w n cs t) (i : Nat) (u : Value) : Blk (w.setCell ⟨n, i, none⟩ u) n (cs.setIfInBounds i u) t := by
  have h' : w.heap[n]? = some (.cells cs t (0, 0)) := h
  show (w.heap.modify n _)[n]? = _
  simp [Array.getElem?_modify, h']
theorem cell (h : Blk w n cs t) {i : Nat} {v : Value} (hv : cs[i]? = some v) : w.cell? ⟨n, i, none⟩ = some v := by
  have h' : w.heap[n]? = some (.cells cs t (0, 0)) := h
  simp [World.cell?, h', hv]
theorem free (h : Blk w n cs t) (i : Nat) : w.frozen? ⟨n, i, none⟩ = false := by
  have h' : w.heap[n]? = some (.cells cs t (0, 0)) := h
  simp [World.frozen?, h']
end Blk
theorem below_push {w0 w w1 w2 : World} {B : Nat} {o : Obj} {row : Option Nat} (hb : Below B w0 w) (hB : B ≤ w.heap.size) (hb1 : Below w.drew.heap.size w.drew w1) (hg : (w1.alloc o).grownBy w2 row) (hr : ∀ k, row = some k → B ≤ k) : Below B w0 w2 :=
  ((hb.drew.trans (hb1.mono hB)).alloc (Nat.le_trans hB hb1.size) _).grown hg (by have := hb1.size; simp at this ⊢; omega) hr
theorem Blk.push {w w1 w2 : World} {o : Obj} {row : Option Nat} {n : Nat} {cs : Array Value} {t : TypeId} (h : Blk w n cs t) (hb1 : Below w.drew.heap.size w.drew w1) (hg : (w1.alloc o).grownBy w2 row) (hne : row ≠ some n) : Blk w2 n cs t :=
  ((Blk.below (w := w.drew) h hb1).alloc o).grown hg hne

structure Rp (α : Type) where
  n : Nat
  R : (Nat → Prop) → World → List Value → α → Prop
  len : ∀ {F w x a}, R F w x a → x.length = n
  one : ∀ {F w x a}, R F w x a → ∀ u ∈ x, u.oneCell' = true
  keep : ∀ {F w w' x a}, R F w x a → Keep F w w' → R F w' x a
  weaken : ∀ {F F' w x a}, R F w x a → (∀ k, k < w.heap.size → F k → F' k) → R F' w x a

def IsSl {α : Type} (r : Rp α) (F : Nat → Prop) (w : World) (v : Value) (l : List α) : Prop :=
  ∃ (a : Option Addr) (c bl off : Nat) (X : Nat → List Value), v = .slice a l.length c ∧ (l.length ≤ maxLen ∧ l.length ≤ c) ∧ (0 < l.length → a = some ⟨bl, off, none⟩ ∧ F bl) ∧
    (∀ i j u, i < l.length → (X i)[j]? = some u → w.cell? ⟨bl, off + i * r.n + j, none⟩ = some u) ∧ ∀ i (h : i < l.length), r.R F w (X i) l[i]

theorem IsSl.keep {α : Type} {r : Rp α} {F : Nat → Prop} {w w' : World} {v : Value} {l : List α} (h : IsSl r F w v l) (hw : Keep F w w') : IsSl r F w' v l := by
  obtain ⟨a, c, bl, off, X, hv, hl, ha, h1, h2⟩ := h
  exact ⟨a, c, bl, off, X, hv, hl, ha, fun i j u hi hu => hw _ _ _ (ha (by omega)).2 (h1 i j u hi hu), fun i hi => r.keep (h2 i hi) hw⟩
theorem IsSl.weaken {α : Type} {r : Rp α} {F F' : Nat → Prop} {w : World} {v : Value} {l : List α} (hn : 0 < r.n) (h : IsSl r F w v l) (hF : ∀ k, k < w.heap.size → F k → F' k) : IsSl r F' w v l := by
  obtain ⟨a, c, bl, off, X, hv, hl, ha, h1, h2⟩ := h
  refine ⟨a, c, bl, off, X, hv, hl, fun h0 => ⟨(ha h0).1, hF _ ?_ (ha h0).2⟩, h1, fun i hi => r.weaken (h2 i hi) hF⟩
  have hx := r.len (h2 0 h0)
  exact Keep.lt (h1 0 0 ((X 0)[0]'(by omega)) h0 (by simp))

def Acc {α : Type} (r : Rp α) (E : TypeId) (base : Nat) (F : Nat → Prop) (w : World) (v : Value) (l : List α) : Prop :=
  ∃ X : List (List Value), X.length = l.length ∧ w.ownsRow base E r.n v l.length X.flatten ∧ ∀ i (h : i < l.length), ∃ x, X[i]? = some x ∧ r.R (fun k => F k ∧ v.ownBlock ≠ some k) w x l[i]

theorem ownsRow_below {w w' : World} {base : Nat} {e : TypeId} {size : Nat} {v : Value} {n : Nat} {xs : List Value} (h : w.ownsRow base e size v n xs) (hb : Below w.heap.size w w') : w'.ownsRow base e size v n xs :=
  h.kept ⟨hb.os, hb.tape, hb.output, hb.size, fun k hk _ => hb.block k hk⟩ (row := none) (by cases h : v.ownBlock <;> simp)
namespace Acc
variable {α : Type} {r : Rp α} {E : TypeId} {base : Nat} {F : Nat → Prop} {w w' : World} {v : Value} {l : List α}
theorem nil (r : Rp α) (E : TypeId) (base : Nat) (F : Nat → Prop) (w : World) : Acc r E base F w (.slice none 0 0) [] :=
  ⟨[], rfl, World.ownsRow_nil _ _ _ _, fun i h => absurd h (by simp)⟩
theorem below (h : Acc r E base F w v l) (hb : Below w.heap.size w w') : Acc r E base F w' v l := by
  obtain ⟨X, h1, h2, h3⟩ := h
  refine ⟨X, h1, ownsRow_below h2 hb, fun i hi => ?_⟩
  obtain ⟨x, hx, hr⟩ := h3 i hi
  exact ⟨x, hx, r.keep hr ((Keep.refl _ _).below hb)⟩
theorem alloc (h : Acc r E base F w v l) (o : Obj) : Acc r E base F (w.alloc o) v l := h.below ((Below.refl _ _).alloc (Nat.le_refl _) _)
theorem drew (h : Acc r E base F w v l) : Acc r E base F w.drew v l := h.below (Below.refl _ _).drew
theorem setCell (h : Acc r E base F w v l) (p : Addr) (u : Value) (hp : ¬ F p.block) (hb : p.block < base) : Acc r E base F (w.setCell p u) v l := by
  obtain ⟨X, h1, h2, h3⟩ := h
  refine ⟨X, h1, ownsRow_setCell_below h2 hb u, fun i hi => ?_⟩
  obtain ⟨x, hx, hr⟩ := h3 i hi
  exact ⟨x, hx, r.keep hr ((Keep.refl _ _).setCell _ _ (fun hc => hp hc.1))⟩
theorem len_shape (h : Acc r E base F w v l) : ∃ a c, v = .slice a l.length c := by
  obtain ⟨X, h1, h2, h3⟩ := h
  rcases h2.2 with ⟨rfl, h0⟩ | ⟨g, cap, cur, hv, _⟩
  · exact ⟨none, 0, by rw [h0]⟩
  · exact ⟨_, _, hv⟩
theorem base_le (h : Acc r E base F w v l) : ∀ k, v.ownBlock = some k → base ≤ k ∧ k < w.heap.size := by
  obtain ⟨X, h1, h2, h3⟩ := h
  exact h2.lt
theorem sl {F' : Nat → Prop} (h : Acc r E base F w v l) (hF : ∀ k, k < w.heap.size → F k → F' k) (hbase : ∀ k, base ≤ k → F' k) : IsSl r F' w v l := by
  obtain ⟨X, h1, h2, h3⟩ := h
  have hx : ∀ i (hi : i < l.length), r.R F' w (X.getD i []) l[i] := fun i hi => by
    obtain ⟨x, hx, hr⟩ := h3 i hi
    have : X.getD i [] = x := by simp [hx]
    rw [this]
    exact r.weaken hr fun k hk hc => hF k hk hc.1
  rcases h2.2 with ⟨rfl, h0⟩ | ⟨g, cap, cur, rfl, hg, hh, hn, hm, hs, ht⟩
  · exact ⟨none, 0, 0, 0, fun i => X.getD i [], by rw [h0], by omega, fun h => absurd h (by omega), fun i _ _ hi => absurd hi (by omega), hx⟩
  · refine ⟨some ⟨g, 0, none⟩, cap, g, 0, fun i => X.getD i [], rfl, by omega, fun _ => ⟨rfl, hbase g hg⟩, fun i j u hi hu => ?_, hx⟩
    have hl : ∀ i, i < X.length → (X.getD i []).length = r.n := fun i hi => r.len (hx i (by omega))
    have key : X.flatten[i * r.n + j]? = some u := by
      have hall : ∀ (Y : List (List Value)), (∀ i, i < Y.length → (Y.getD i []).length = r.n) → ∀ i j u, i < Y.length → (Y.getD i [])[j]? = some u → Y.flatten[i * r.n + j]? = some u := by
        intro Y
        induction Y with
        | nil => intro _ i j u hi; simp at hi
        | cons y Y ih =>
          intro hY i j u hi hu
          have hy : y.length = r.n := by have := hY 0 (by simp); simpa using this
          rw [List.flatten_cons]
          cases i with
          | zero =>
            simp at hu
            have : j < y.length := by
              rcases Nat.lt_or_ge j y.length with h | h
              · exact h
              · rw [List.getElem?_eq_none h] at hu; cases hu
            rw [List.getElem?_append_left (by omega)]; simpa using hu
          | succ i =>
            rw [List.getElem?_append_right (by rw [hy, Nat.succ_mul]; omega)]
            have := ih (fun i hi => by have := hY (i + 1) (by simpa using hi); simpa using this) i j u (by simpa using hi) (by simpa using hu)
            rw [← this]; congr 1; rw [hy, Nat.succ_mul]; omega
      exact hall X hl i j u (by omega) hu
    rw [← ht] at key
    simp only [World.cell?, hh]
    rw [List.getElem?_take] at key
    split at key
    · simpa using key
    · cases key
theorem push_own {X : List (List Value)} {x : List Value} {a : α} {v' : Value} (hX : X.length = l.length) (h3 : ∀ i (h : i < l.length), ∃ x, X[i]? = some x ∧ r.R (fun k => F k ∧ v.ownBlock ≠ some k) w x l[i])
    (hx : r.R (fun k => F k ∧ v.ownBlock ≠ some k) w x a) (hown : w'.ownsRow base E r.n v' (l.length + 1) (X.flatten ++ x)) (hgrow : w.grownBy w' v.ownBlock) (hat : v'.ownBlock = v.ownBlock ∨ v'.ownBlock = some w.heap.size) :
    Acc r E base F w' v' (l ++ [a]) := by
  have hk : ∀ {x : List Value} {b : α}, r.R (fun k => F k ∧ v.ownBlock ≠ some k) w x b → r.R (fun k => F k ∧ v'.ownBlock ≠ some k) w' x b := fun {x b} h => by
    have h0 := r.keep h ((Keep.refl _ _).grown hgrow (fun k hk hc => hc.2 hk))
    rcases hat with hat | hat
    · rw [hat]; exact h0
    · have h1 : r.R (fun k => F k ∧ k < w.heap.size ∧ v.ownBlock ≠ some k) w x b := r.weaken h fun k hk hc => ⟨hc.1, hk, hc.2⟩
      have h2 := r.keep h1 ((Keep.refl _ _).grown hgrow (fun k hk hc => hc.2.2 hk))
      exact r.weaken h2 fun k _ hc => ⟨hc.1, by rw [hat]; intro e; cases e; omega⟩
  refine ⟨X ++ [x], by simp [hX], by simpa using hown, fun i hi => ?_⟩
  by_cases hi' : i < l.length
  · obtain ⟨y, hy, hr⟩ := h3 i hi'
    refine ⟨y, by rw [List.getElem?_append_left (by omega)]; exact hy, ?_⟩
    rw [List.getElem_append_left hi']; exact hk hr
  · have hie : i = l.length := by simp at hi; omega
    subst hie
    refine ⟨x, by rw [List.getElem?_append_right (by omega)]; simp [hX], ?_⟩
    rw [List.getElem_append_right (by omega)]; simpa using hk hx
end Acc

theorem step_push {α : Type} (r : Rp α) (hrn : 0 < r.n) {P : Program} {w : World} {ops : Array Oper} {o : Oper} {a : Act} {K : Act → World → Prop} {Q : Exit → Act → World → Prop} {E0 : Prop} (hgd : o.guard = none) (s x : Operand) (t : TypeId)
    (ho : o.op = .call { callee := .builtin .append, args := #[s, x], argTypes := #[t, t] })
    (base : Nat) (e : TypeId) (i : TypeInfo) (z : Value) (bytes : Nat) (ht : P.underlying t = some (.slice e)) (hi : P.info? e = some i) (hz : i.zero = some z)
    (hsize : i.size = r.n) (hby : i.bytes = bytes) (hzs : z.cells.size = r.n) (hbb : bytes ≤ 1000)
    (F : Nat → Prop) (v : Value) (l : List α) (hs : a.eval s = v) (hacc : Acc r e base F w v l) (hl : l.length ≤ 1000000)
    (B c : Nat) (y : List Value) (b : α) (hx : a.eval x = .slice (some ⟨B, 0, none⟩) 1 c) (hB : w.heap[B]? = some (.cells y.toArray e (0, 0))) (hy : r.R (fun k => F k ∧ v.ownBlock ≠ some k) w y b)
    (hbase : base ≤ w.heap.size)
    (h : ∀ g cap w', Acc r e base F w' (.slice (some ⟨g, 0, none⟩) (l.length + 1) cap) (l ++ [b]) → w.grownBy w' v.ownBlock → (v.ownBlock = some g ∨ g = w.heap.size) → g < w'.heap.size → K (a.put o.dst (.slice (some ⟨g, 0, none⟩) (l.length + 1) cap)) w') :
    if Region.wanted o (yielded ops a.tmps) = true then Oper.wp P o a w K Q else E0 := by
  obtain ⟨X, h1, h2, h3⟩ := hacc
  refine step_append_lies w hgd s x t ho base e i z r.n bytes ht hi hz hsize hby hzs hrn v l.length X.flatten hs h2 ⟨B, 0, none⟩ 1 c y hx (by rw [r.len hy]; omega) (World.news_of_block hB) (r.one hy) (by omega) (by unfold maxLen; omega) ?_ hbase w.heap.size rfl ?_
  · have : (l.length + 1) * bytes ≤ 1000001 * 1000 := Nat.mul_le_mul (by omega) hbb
    omega
  · intro g cap w' hown hgrow hat hlt
    refine h g cap w' (Acc.push_own h1 h3 hy hown hgrow ?_) hgrow hat hlt
    rcases hat with hat | hat
    · exact .inl (by rw [hat]; rfl)
    · exact .inr (by rw [hat]; rfl)
theorem wpList_push {α : Type} (r : Rp α) (hrn : 0 < r.n) {P : Program} {w : World} {ops : Array Oper} {rest : List Oper} {o : Oper} {a : Act} {Q : Exit → Act → World → Prop} (hgd : o.guard = none) (s x : Operand) (t : TypeId)
    (ho : o.op = .call { callee := .builtin .append, args := #[s, x], argTypes := #[t, t] })
    (base : Nat) (e : TypeId) (i : TypeInfo) (z : Value) (bytes : Nat) (ht : P.underlying t = some (.slice e)) (hi : P.info? e = some i) (hz : i.zero = some z)
    (hsize : i.size = r.n) (hby : i.bytes = bytes) (hzs : z.cells.size = r.n) (hbb : bytes ≤ 1000)
    (F : Nat → Prop) (v : Value) (l : List α) (hs : a.eval s = v) (hacc : Acc r e base F w v l) (hl : l.length ≤ 1000000)
    (B c : Nat) (y : List Value) (b : α) (hx : a.eval x = .slice (some ⟨B, 0, none⟩) 1 c) (hB : w.heap[B]? = some (.cells y.toArray e (0, 0))) (hy : r.R (fun k => F k ∧ v.ownBlock ≠ some k) w y b)
    (hbase : base ≤ w.heap.size)
    (h : ∀ g cap w', Acc r e base F w' (.slice (some ⟨g, 0, none⟩) (l.length + 1) cap) (l ++ [b]) → w.grownBy w' v.ownBlock → (v.ownBlock = some g ∨ g = w.heap.size) → g < w'.heap.size → wpList P ops Q rest (a.put o.dst (.slice (some ⟨g, 0, none⟩) (l.length + 1) cap)) w') :
    wpList P ops Q (o :: rest) a w := by
  obtain ⟨X, h1, h2, h3⟩ := hacc
  refine wpList_append_lies w hgd s x t ho base e i z r.n bytes ht hi hz hsize hby hzs hrn v l.length X.flatten hs h2 ⟨B, 0, none⟩ 1 c y hx (by rw [r.len hy]; omega) (World.news_of_block hB) (r.one hy) (by omega) (by unfold maxLen; omega) ?_ hbase w.heap.size rfl ?_
  · have : (l.length + 1) * bytes ≤ 1000001 * 1000 := Nat.mul_le_mul (by omega) hbb
    omega
  · intro g cap w' hown hgrow hat hlt
    refine h g cap w' (Acc.push_own h1 h3 hy hown hgrow ?_) hgrow hat hlt
    rcases hat with hat | hat
    · exact .inl (by rw [hat]; rfl)
    · exact .inr (by rw [hat]; rfl)

def IsSl2 {α : Type} (r : Rp α) (G F : Nat → Prop) (w : World) (v : Value) (l : List α) : Prop :=
  ∃ (a : Option Addr) (c bl off : Nat) (X : Nat → List Value), v = .slice a l.length c ∧ (l.length ≤ maxLen ∧ l.length ≤ c) ∧ (0 < l.length → a = some ⟨bl, off, none⟩ ∧ G bl) ∧
    (∀ i j u, i < l.length → (X i)[j]? = some u → w.cell? ⟨bl, off + i * r.n + j, none⟩ = some u) ∧ ∀ i (h : i < l.length), r.R F w (X i) l[i]
namespace IsSl2
variable {α : Type} {r : Rp α} {G F : Nat → Prop} {w w' : World} {v : Value} {l : List α}
theorem of (h : IsSl r F w v l) : IsSl2 r F F w v l := h
theorem keep (h : IsSl2 r G F w v l) (hG : Keep G w w') (hF : Keep F w w') : IsSl2 r G F w' v l := by
  obtain ⟨a, c, bl, off, X, hv, hl, ha, h1, h2⟩ := h
  exact ⟨a, c, bl, off, X, hv, hl, ha, fun i j u hi hu => hG _ _ _ (ha (by omega)).2 (h1 i j u hi hu), fun i hi => r.keep (h2 i hi) hF⟩
theorem bel (h : IsSl2 r G F w v l) (hb : Below w.heap.size w w') : IsSl2 r G F w' v l := h.keep ((Keep.refl _ _).below hb) ((Keep.refl _ _).below hb)
theorem weaken {G' F' : Nat → Prop} (hn : 0 < r.n) (h : IsSl2 r G F w v l) (hG : ∀ k, k < w.heap.size → G k → G' k) (hF : ∀ k, k < w.heap.size → F k → F' k) : IsSl2 r G' F' w v l := by
  obtain ⟨a, c, bl, off, X, hv, hl, ha, h1, h2⟩ := h
  refine ⟨a, c, bl, off, X, hv, hl, fun h0 => ⟨(ha h0).1, hG _ ?_ (ha h0).2⟩, h1, fun i hi => r.weaken (h2 i hi) hF⟩
  have hx := r.len (h2 0 h0)
  exact Keep.lt (h1 0 0 ((X 0)[0]'(by omega)) h0 (by simp))
theorem anyRow (hn : 0 < r.n) (h : IsSl2 r G F w v l) : IsSl2 r (fun _ => True) F w v l := h.weaken hn (fun _ _ _ => trivial) (fun _ _ h => h)
theorem sl (hn : 0 < r.n) (h : IsSl2 r G F w v l) {F' : Nat → Prop} (hG : ∀ k, k < w.heap.size → G k → F' k) (hF : ∀ k, k < w.heap.size → F k → F' k) : IsSl r F' w v l := h.weaken hn hG hF
theorem shape (h : IsSl2 r G F w v l) : ∃ a c, v = .slice a l.length c := by
  obtain ⟨a, c, _, _, _, hv, _⟩ := h
  exact ⟨a, c, hv⟩
end IsSl2
theorem Acc.sl2 {α : Type} {r : Rp α} {E : TypeId} {base : Nat} {F : Nat → Prop} {w : World} {v : Value} {l : List α} (h : Acc r E base F w v l) : IsSl2 r (fun q => base ≤ q) F w v l := by
  obtain ⟨X, h1, h2, h3⟩ := h
  let r2 : Rp α := { n := r.n, R := fun _ _ x a => r.R F w x a, len := r.len, one := r.one, keep := fun h _ => h, weaken := fun h _ => h }
  have h0 : IsSl r2 (fun k => base ≤ k ∨ False) w v l := Acc.sl (F := fun _ => False) ⟨X, h1, h2, fun i hi => by
    obtain ⟨x, hx, hr⟩ := h3 i hi
    exact ⟨x, hx, r.weaken hr fun _ _ hc => hc.1⟩⟩ (fun _ _ h => .inr h) (fun _ h => .inl h)
  obtain ⟨a, c, bl, off, Y, hv, hl, ha, g1, g2⟩ := h0
  exact ⟨a, c, bl, off, Y, hv, hl, fun h => ⟨(ha h).1, (ha h).2.resolve_right id⟩, g1, g2⟩

/-! a whole slice appended -/
theorem flat_len {X : Nat → List Value} {n : Nat} : ∀ m, (∀ i, i < m → (X i).length = n) → ((List.range m).map X).flatten.length = m * n := by
  intro m
  induction m with
  | zero => intro _; simp
  | succ m ih =>
    intro h
    rw [List.range_succ, List.map_append, List.flatten_append, List.length_append, ih (fun i hi => h i (by omega))]
    simp [h m (by omega), Nat.succ_mul]
theorem flat_get {X : Nat → List Value} {n : Nat} (hn : 0 < n) : ∀ m, (∀ i, i < m → (X i).length = n) → ∀ j u, ((List.range m).map X).flatten[j]? = some u → j / n < m ∧ (X (j / n))[j % n]? = some u := by
  intro m
  induction m with
  | zero => intro _ j u h; simp at h
  | succ m ih =>
    intro h j u hj
    have hl := flat_len m (fun i hi => h i (by omega))
    rw [List.range_succ, List.map_append, List.flatten_append] at hj
    by_cases hjm : j < m * n
    · rw [List.getElem?_append_left (by omega)] at hj
      have := ih (fun i hi => h i (by omega)) j u hj
      exact ⟨by omega, this.2⟩
    · rw [List.getElem?_append_right (by omega), hl] at hj
      simp at hj
      have hx := h m (by omega)
      have hlt : j - m * n < n := by
        rcases Nat.lt_or_ge (j - m * n) n with h' | h'
        · exact h'
        · rw [List.getElem?_eq_none (by omega)] at hj; cases hj
      have e1 : j = (j - m * n) + n * m := by rw [Nat.mul_comm n m]; omega
      have e2 : j / n = m := by rw [e1, Nat.add_mul_div_left _ _ hn, Nat.div_eq_of_lt hlt]; omega
      have e3 : j % n = j - m * n := by
        conv => lhs; rw [e1]
        rw [Nat.add_mul_mod_self_left, Nat.mod_eq_of_lt hlt]
      exact ⟨by omega, by rw [e2, e3]; exact hj⟩

theorem run_append_none {P : Program} (w : World) (t ty e : TypeId) (i : TypeInfo) (ht : P.underlying t = some (.slice e)) (hi : P.info? e = some i) {base : Nat} {size : Nat} {v : Value} {n : Nat} {xs : List Value}
    (hown : w.ownsRow base e size v n xs) (c : Nat) : (Builtin.append_ #[t, t] ty #[v, .slice none 0 c]).run P w = .ok v w := by
  rcases hown.2 with ⟨rfl, rfl⟩ | ⟨g, cap, cur, rfl, hbg, hg, hnc, hcm, hcs, htake⟩
  · simp [Builtin.append_, run_underlying ht, sizeOf, typeInfo, hi, Builtin.lenOf, Builtin.firstCells]
  · simp [Builtin.append_, run_underlying ht, sizeOf, typeInfo, hi, Builtin.lenOf, Builtin.firstCells, hnc, storeCells]

theorem run_append_sl {α : Type} (r : Rp α) (hrn : 0 < r.n) {P : Program} (w : World) (t ty : TypeId) (base : Nat) (e : TypeId) (i : TypeInfo) (z : Value) (bytes : Nat) (ht : P.underlying t = some (.slice e)) (hi : P.info? e = some i) (hz : i.zero = some z)
    (hsize : i.size = r.n) (hby : i.bytes = bytes) (hzs : z.cells.size = r.n) (hbb : bytes ≤ 1000)
    (F : Nat → Prop) (v : Value) (l : List α) (hacc : Acc r e base F w v l) (x : Value) (l2 : List α) {G : Nat → Prop} (hx : IsSl2 r G (fun k => F k ∧ v.ownBlock ≠ some k) w x l2) (hl : l.length + l2.length ≤ 1000000) (hbase : base ≤ w.heap.size) :
    ∃ v' w', (Builtin.append_ #[t, t] ty #[v, x]).run P w = .ok v' w' ∧ Acc r e base F w' v' (l ++ l2) ∧ w.grownBy w' v.ownBlock ∧ (v'.ownBlock = v.ownBlock ∨ v'.ownBlock = some w.heap.size) := by
  obtain ⟨X, h1, h2, h3⟩ := hacc
  obtain ⟨a, c, bl, off, Y, rfl, hm, ha, g1, g2⟩ := hx
  have hlen : ∀ i, i < l2.length → (Y i).length = r.n := fun i hi => r.len (g2 i hi)
  have step : ∀ v' w', w'.ownsRow base e r.n v' (l.length + l2.length) (X.flatten ++ ((List.range l2.length).map Y).flatten) → w.grownBy w' v.ownBlock → (v'.ownBlock = v.ownBlock ∨ v'.ownBlock = some w.heap.size) → Acc r e base F w' v' (l ++ l2) := by
    intro v' w' hown hgrow hat
    have hk : ∀ {x : List Value} {b : α}, r.R (fun k => F k ∧ v.ownBlock ≠ some k) w x b → r.R (fun k => F k ∧ v'.ownBlock ≠ some k) w' x b := fun {x b} h => by
      have h0 := r.keep h ((Keep.refl _ _).grown hgrow (fun k hk hc => hc.2 hk))
      rcases hat with hat | hat
      · rw [hat]; exact h0
      · have h1 : r.R (fun k => F k ∧ k < w.heap.size ∧ v.ownBlock ≠ some k) w x b := r.weaken h fun k hk hc => ⟨hc.1, hk, hc.2⟩
        have h2 := r.keep h1 ((Keep.refl _ _).grown hgrow (fun k hk hc => hc.2.2 hk))
        exact r.weaken h2 fun k _ hc => ⟨hc.1, by rw [hat]; intro e; cases e; omega⟩
    refine ⟨X ++ (List.range l2.length).map Y, by simp [h1], by simpa using hown, fun i hi => ?_⟩
    by_cases hi' : i < l.length
    · obtain ⟨y, hy, hr⟩ := h3 i hi'
      refine ⟨y, by rw [List.getElem?_append_left (by omega)]; exact hy, ?_⟩
      rw [List.getElem_append_left hi']; exact hk hr
    · rw [List.length_append] at hi
      have hr := g2 (i - l.length) (by omega)
      refine ⟨Y (i - l.length), by rw [List.getElem?_append_right (by omega), h1, List.getElem?_map, List.getElem?_range (by omega)]; rfl, ?_⟩
      rw [List.getElem_append_right (by omega)]; exact hk hr
  by_cases h0 : l2.length = 0
  · have hn : l2 = [] := List.eq_nil_of_length_eq_zero h0
    subst hn
    cases a with
    | none =>
      refine ⟨v, w, run_append_none w t ty e i ht hi h2 c, by rw [List.append_nil]; exact ⟨X, h1, h2, h3⟩, ⟨rfl, rfl, rfl, Nat.le_refl _, fun _ _ _ => rfl⟩, .inl rfl⟩
    | some a =>
      obtain ⟨v', w', hr, h4, h5, h6, h7⟩ := run_append_own_at (P := P) w base t ty e i z r.n bytes ht hi hz hsize hby hzs hrn v l.length X.flatten h2 a 0 c [] (by simp) (by simp) (by simp) (by unfold maxLen; simp at hl; omega) (by
        have : (l.length + 0) * bytes ≤ 1000000 * 1000 := Nat.mul_le_mul (by simp at hl; omega) hbb
        omega) hbase
      exact ⟨v', w', hr, step v' w' (by simpa using h4) h5 h7, h5, h7⟩
  · obtain ⟨rfl, hF⟩ := ha (by omega)
    obtain ⟨v', w', hr, h4, h5, h6, h7⟩ := run_append_own_at (P := P) w base t ty e i z r.n bytes ht hi hz hsize hby hzs hrn v l.length X.flatten h2 ⟨bl, off, none⟩ l2.length c ((List.range l2.length).map Y).flatten
      (flat_len _ hlen) (fun j u hj => by
        obtain ⟨q1, q2⟩ := flat_get hrn _ hlen j u hj
        have := g1 _ _ u q1 q2
        have hadd : (⟨bl, off, none⟩ : Addr).add j = ⟨bl, off + j / r.n * r.n + j % r.n, none⟩ := by
          have hq := Nat.div_add_mod' j r.n
          unfold Addr.add
          split
          · rename_i hj0; simp [hj0]
          · simp; omega
        rw [hadd]; exact this) (fun u hu => by
        obtain ⟨y, hy, hu⟩ := List.mem_flatten.1 hu
        obtain ⟨i, hi, rfl⟩ := List.mem_map.1 hy
        exact r.one (g2 i (by simpa using hi)) u hu) (by unfold maxLen; omega) (by
        have : (l.length + l2.length) * bytes ≤ 1000000 * 1000 := Nat.mul_le_mul (by omega) hbb
        omega) hbase
    exact ⟨v', w', hr, step v' w' h4 h5 h7, h5, h7⟩

theorem wpList_append_eq {P : Program} {w w' : World} {ops : Array Oper} {rest : List Oper} {o : Oper} {a : Act} {Q : Exit → Act → World → Prop} (hgd : o.guard = none) (s x : Operand) (ta tb : TypeId) (v' : Value)
    (ho : o.op = .call { callee := .builtin .append, args := #[s, x], argTypes := #[ta, tb] }) (hr : (Builtin.append_ #[ta, tb] o.type #[a.eval s, a.eval x]).run P w = .ok v' w')
    (h : wpList P ops Q rest (a.put o.dst v') w') : wpList P ops Q (o :: rest) a w := by
  refine wpList_plain hgd fun _ hK => ?_
  unfold Oper.wp execOp
  simp only [ho, resolve, invoke, builtin, Sem.run_bind, Sem.run_pure, Result.andThen_ok, List.map_toArray, List.map_cons, List.map_nil, hr]
  exact hK _ _ h
theorem wpList_push_sl {α : Type} (r : Rp α) (hrn : 0 < r.n) {P : Program} {w : World} {ops : Array Oper} {rest : List Oper} {o : Oper} {a : Act} {Q : Exit → Act → World → Prop} (hgd : o.guard = none) (s x : Operand) (t : TypeId)
    (ho : o.op = .call { callee := .builtin .append, args := #[s, x], argTypes := #[t, t] })
    (base : Nat) (e : TypeId) (i : TypeInfo) (z : Value) (bytes : Nat) (ht : P.underlying t = some (.slice e)) (hi : P.info? e = some i) (hz : i.zero = some z)
    (hsize : i.size = r.n) (hby : i.bytes = bytes) (hzs : z.cells.size = r.n) (hbb : bytes ≤ 1000)
    (F : Nat → Prop) (v : Value) (l : List α) (hs : a.eval s = v) (hacc : Acc r e base F w v l) (y : Value) (l2 : List α) (hx : a.eval x = y) {G : Nat → Prop} (hy : IsSl2 r G (fun k => F k ∧ v.ownBlock ≠ some k) w y l2) (hl : l.length + l2.length ≤ 1000000) (hbase : base ≤ w.heap.size)
    (h : ∀ v' w', Acc r e base F w' v' (l ++ l2) → w.grownBy w' v.ownBlock → (v'.ownBlock = v.ownBlock ∨ v'.ownBlock = some w.heap.size) → wpList P ops Q rest (a.put o.dst v') w') :
    wpList P ops Q (o :: rest) a w := by
  obtain ⟨v', w', hr, h2, h3, h4⟩ := run_append_sl r hrn (P := P) w t o.type base e i z bytes ht hi hz hsize hby hzs hbb F v l hacc y l2 hy hl hbase
  refine wpList_plain hgd fun _ hK => ?_
  unfold Oper.wp execOp
  simp only [ho, resolve, invoke, builtin, Sem.run_bind, Sem.run_pure, Result.andThen_ok, List.map_toArray, List.map_cons, List.map_nil, hs, hx, hr]
  exact hK _ _ (h v' w' h2 h3 h4)

end Go.Proofs.Ytejpgifofkiofaa

namespace Go.Proofs.Ytejpgifofkiofaa
open Go.RowKit

inductive Ty where
  | mk (args : List Ty) (base : Int)
namespace Ty
def args : Ty → List Ty | .mk a _ => a
def base : Ty → Int | .mk _ b => b
theorem ind {p : Ty → Prop} (h : ∀ args base, (∀ t ∈ args, p t) → p (.mk args base)) (t : Ty) : p t :=
  Ty.rec (motive_1 := p) (motive_2 := fun l => ∀ t ∈ l, p t) (fun a b ih => h a b ih) (by simp)
    (fun a l ha hl t ht => by
      rcases List.mem_cons.1 ht with rfl | h
      · exact ha
      · exact hl t h) t

mutual
def size : Ty → Nat
  | .mk a _ => sizes a + 1
def sizes : List Ty → Nat
  | [] => 0
  | t :: l => size t + sizes l
end
mutual
def depth : Ty → Nat
  | .mk a _ => depths a + 1
def depths : List Ty → Nat
  | [] => 0
  | t :: l => max (depth t) (depths l)
end
theorem sizes_append (l r : List Ty) : sizes (l ++ r) = sizes l + sizes r := by
  induction l with
  | nil => simp [sizes]
  | cons t l ih => simp [sizes, ih]; omega
theorem depths_append (l r : List Ty) : depths (l ++ r) = max (depths l) (depths r) := by
  induction l with
  | nil => simp [depths]
  | cons t l ih => simp [depths, ih]
theorem sizes_take (l : List Ty) (i : Nat) (h : i < l.length) : sizes (l.take (i + 1)) = sizes (l.take i) + size l[i] := by
  rw [List.take_succ_eq_append_getElem h, sizes_append]; simp [sizes]
theorem depths_take (l : List Ty) (i : Nat) (h : i < l.length) : depths (l.take (i + 1)) = max (depths (l.take i)) (depth l[i]) := by
  rw [List.take_succ_eq_append_getElem h, depths_append]; simp [depths]
theorem size_pos (t : Ty) : 1 ≤ t.size := by cases t; simp [size]
theorem depth_pos (t : Ty) : 1 ≤ t.depth := by cases t; simp [depth]
theorem sizes_take_le (l : List Ty) (i : Nat) : sizes (l.take i) ≤ sizes l := by
  conv => rhs; rw [← List.take_append_drop i l]
  rw [sizes_append]; omega
theorem depths_take_le (l : List Ty) (i : Nat) : depths (l.take i) ≤ depths l := by
  conv => rhs; rw [← List.take_append_drop i l]
  rw [depths_append]; omega
theorem le_sizes (l : List Ty) : l.length ≤ sizes l := by
  induction l with
  | nil => simp [sizes]
  | cons t l ih => have := size_pos t; simp [sizes]; omega
theorem size_mem {l : List Ty} {t : Ty} (h : t ∈ l) : t.size ≤ sizes l := by
  induction l with
  | nil => cases h
  | cons u l ih =>
    simp only [sizes]
    rcases List.mem_cons.1 h with rfl | h
    · omega
    · have := ih h; omega
theorem depth_mem {l : List Ty} {t : Ty} (h : t ∈ l) : t.depth ≤ depths l := by
  induction l with
  | nil => cases h
  | cons u l ih =>
    simp only [depths]
    rcases List.mem_cons.1 h with rfl | h
    · omega
    · have := ih h; omega
theorem size_get {l : List Ty} {b : Int} (i : Nat) (h : i < l.length) : l[i].size < (mk l b).size := by
  have := size_mem (List.getElem_mem h); simp [size]; omega
theorem depth_get {l : List Ty} {b : Int} (i : Nat) (h : i < l.length) : l[i].depth < (mk l b).depth := by
  have := depth_mem (List.getElem_mem h); simp [depth]; omega
theorem length_lt {l : List Ty} {b : Int} : l.length < (mk l b).size := by
  have := le_sizes l; simp [size]; omega
end Ty

inductive IsTy (F : Nat → Prop) (w : World) : Value → Value → Ty → Prop where
  | mk (a : Option Addr) (n c : Nat) (b : Int) (args : List Ty) (bl off : Nat) (A : Nat → Option Addr) (N C : Nat → Nat) (B : Nat → Int)
      (hn : args.length = n) (hm : n ≤ maxLen ∧ n ≤ c) (ha : 0 < n → a = some ⟨bl, off, none⟩ ∧ F bl)
      (h1 : ∀ i, i < n → w.cell? ⟨bl, off + i * 2, none⟩ = some (.slice (A i) (N i) (C i)))
      (h2 : ∀ i, i < n → w.cell? ⟨bl, off + i * 2 + 1, none⟩ = some (.int .i64 (B i)))
      (h3 : ∀ i (h : i < args.length), IsTy F w (.slice (A i) (N i) (C i)) (.int .i64 (B i)) args[i]) :
      IsTy F w (.slice a n c) (.int .i64 b) (.mk args b)

theorem IsTy.keep {F : Nat → Prop} {w w' : World} {s b : Value} {t : Ty} (h : IsTy F w s b t) (hw : Keep F w w') : IsTy F w' s b t := by
  induction h with
  | mk a n c b args bl off A N C B hn hm ha h1 h2 h3 ih =>
    exact IsTy.mk a n c b args bl off A N C B hn hm ha (fun i hi => hw _ _ _ (ha (by omega)).2 (h1 i hi)) (fun i hi => hw _ _ _ (ha (by omega)).2 (h2 i hi)) ih
theorem IsTy.weaken {F F' : Nat → Prop} {w : World} {s b : Value} {t : Ty} (h : IsTy F w s b t) (hF : ∀ k, k < w.heap.size → F k → F' k) : IsTy F' w s b t := by
  induction h with
  | mk a n c b args bl off A N C B hn hm ha h1 h2 h3 ih =>
    exact IsTy.mk a n c b args bl off A N C B hn hm (fun h => ⟨(ha h).1, hF _ (Keep.lt (h1 0 h)) (ha h).2⟩) h1 h2 ih
theorem IsTy.one {F : Nat → Prop} {w : World} {s b : Value} {t : Ty} (h : IsTy F w s b t) : s.oneCell' = true ∧ b.oneCell' = true := by
  cases h; exact ⟨rfl, rfl⟩
theorem IsTy.shape {F : Nat → Prop} {w : World} {s b : Value} {t : Ty} (h : IsTy F w s b t) : ∃ a c, s = .slice a t.args.length c ∧ b = .int .i64 t.base := by
  cases h with
  | mk a n c b args bl off A N C B hn => subst hn; exact ⟨a, c, rfl, rfl⟩

def rpTy : Rp Ty where
  n := 2
  R F w x t := ∃ s b, x = [s, b] ∧ IsTy F w s b t
  len := by rintro F w x a ⟨s, b, rfl, _⟩; rfl
  one := by
    rintro F w x a ⟨s, b, rfl, h⟩ u hu
    have := h.one
    simp at hu
    rcases hu with rfl | rfl
    · exact this.1
    · exact this.2
  keep := by rintro F w w' x a ⟨s, b, rfl, h⟩ hk; exact ⟨s, b, rfl, h.keep hk⟩
  weaken := by rintro F F' w x a ⟨s, b, rfl, h⟩ hk; exact ⟨s, b, rfl, h.weaken hk⟩

theorem isTy_mk {F : Nat → Prop} {w : World} {v : Value} {l : List Ty} (h : IsSl rpTy F w v l) (b : Int) : IsTy F w v (.int .i64 b) (.mk l b) := by
  obtain ⟨a, c, bl, off, X, rfl, hl, ha, h1, h2⟩ := h
  let A : Nat → Option Addr := fun i => match (X i).getD 0 default with | .slice a _ _ => a | _ => none
  let N : Nat → Nat := fun i => match (X i).getD 0 default with | .slice _ n _ => n | _ => 0
  let C : Nat → Nat := fun i => match (X i).getD 0 default with | .slice _ _ c => c | _ => 0
  let B : Nat → Int := fun i => match (X i).getD 1 default with | .int _ b => b | _ => 0
  have hx : ∀ i (h : i < l.length), X i = [.slice (A i) (N i) (C i), .int .i64 (B i)] ∧ IsTy F w (.slice (A i) (N i) (C i)) (.int .i64 (B i)) l[i] := fun i hi => by
    obtain ⟨s, b, hx, ht⟩ := h2 i hi
    obtain ⟨a', c', rfl, rfl⟩ := ht.shape
    have e1 : A i = a' := by simp [A, hx]
    have e2 : N i = l[i].args.length := by simp [N, hx]
    have e3 : C i = c' := by simp [C, hx]
    have e4 : B i = l[i].base := by simp [B, hx]
    rw [e1, e2, e3, e4]; exact ⟨hx, ht⟩
  refine IsTy.mk a l.length c b l bl off A N C B rfl hl ha (fun i hi => ?_) (fun i hi => ?_) (fun i hi => (hx i hi).2)
  · exact h1 i 0 _ hi (by rw [(hx i hi).1]; rfl)
  · exact h1 i 1 _ hi (by rw [(hx i hi).1]; rfl)
theorem IsTy.inv {F : Nat → Prop} {w : World} {s b : Value} {t : Ty} (h : IsTy F w s b t) : b = .int .i64 t.base ∧ IsSl rpTy F w s t.args := by
  cases h with
  | mk a n c b args bl off A N C B hn hm ha h1 h2 h3 =>
    subst hn
    refine ⟨rfl, a, c, bl, off, fun i => [.slice (A i) (N i) (C i), .int .i64 (B i)], rfl, hm, ha, fun i j u hi hu => ?_, fun i hi => ⟨_, _, rfl, h3 i hi⟩⟩
    match j with
    | 0 => simp at hu; subst hu; exact h1 i hi
    | 1 => simp at hu; subst hu; exact h2 i hi
    | j + 2 => simp at hu

end Go.Proofs.Ytejpgifofkiofaa

namespace Go.Proofs.Ytejpgifofkiofaa
open Go.RowKit Go.ChangeShapes Go.WideShapes Go.ChangeAt

theorem own : ownKnob Try.prog.godebug = none := by kernel_rfl
theorem laidOut : laidOutB Try.prog = true := by kernel_rfl

def Rd {α H : Type} (enc : TypeId × Value → H) (W : World) (base : Nat) (sp : Nat → Bool) (hd : Bool) (t : TypeId) (r : Rp α) (D : DataW H → α → Prop) (n : Nat) : Prop :=
  ∀ cs x, DataW.trod enc Try.prog W base sp hd n t cs = some x → ∃ v, r.R (fun _ => True) W cs v ∧ D x.1 v

theorem addr_add (bl off n : Nat) : (⟨bl, off, none⟩ : Addr).add n = ⟨bl, off + n, none⟩ := by
  unfold Addr.add; split
  · subst_vars; rfl
  · rfl

theorem sl_of_trod {α H : Type} {enc : TypeId × Value → H} {W : World} {base : Nat} {sp : Nat → Bool} {hd : Bool} {t e : TypeId} {r : Rp α} {D : DataW H → α → Prop} {fuel : Nat} {cs : List Value} {x : DataW H × List MemPlace}
    (ht : Try.prog.underlying t = some (.slice e)) (hn : Try.prog.cellsOf e = r.n) (hpos : 0 < r.n) (hr : ∀ m, m < fuel → Rd enc W base sp hd e r D m) (h : DataW.trod enc Try.prog W base sp hd fuel t cs = some x) :
    ∃ a n c l, cs = [.slice a n c] ∧ n ≤ c ∧ IsSl r (fun _ => True) W (.slice a n c) l ∧ ∀ i (h : i < l.length), ∃ d es spare, x.1 = .slice es spare ∧ d ∈ es ∧ D d l[i] := by
  rcases DataW.trod_slice ht h with ⟨rfl, _⟩ | ⟨a, len, cap, elems, rest, n, rfl, rfl, rfl, hb, hl, hm, hlen, hel, _, _⟩
  · exact ⟨_, _, _, [], rfl, Nat.le_refl _, ⟨none, 0, 0, 0, fun _ => [], rfl, ⟨Nat.zero_le _, Nat.le_refl _⟩, fun h => absurd h (by simp), fun _ _ _ h => absurd h (by simp), fun _ h => absurd h (by simp)⟩, fun _ h => absurd h (by simp)⟩
  · have H : ∀ i : Fin len, ∃ y : List Value × α, W.cells? base (a.add (i * r.n)) r.n = some y.1 ∧ r.R (fun _ => True) W y.1 y.2 ∧ ∃ d ∈ elems.map (·.1), D d y.2 := fun i => by
      have h1 := hel i i.2
      rw [List.getElem?_eq_getElem (by omega), hn] at h1
      obtain ⟨cs', h2, h3⟩ := Option.bind_eq_some_iff.1 h1
      obtain ⟨v, hv, hd⟩ := hr n (by omega) _ _ h3
      exact ⟨⟨cs', v⟩, h2, hv, _, List.mem_map_of_mem (List.getElem_mem _), hd⟩
    obtain ⟨f, hf⟩ := Classical.axiomOfChoice H
    refine ⟨_, _, _, List.ofFn fun i => (f i).2, rfl, hl, ⟨some a, cap, a.block, a.off, fun i => if h : i < len then (f ⟨i, h⟩).1 else [], by simp, by simp; omega, fun h0 => ?_, fun i j u hi hu => ?_, fun i hi => ?_⟩, fun i hi => ?_⟩
    · have h0 : 0 < len := by simpa using h0
      have h1 := (World.cells?_some (hf ⟨0, h0⟩).1)
      have h2 := h1.2.2 0 hpos
      rw [List.getElem?_eq_getElem (by rw [h1.2.1]; exact hpos)] at h2
      have h3 := World.cell?_spot h2
      obtain ⟨bl, off, spot⟩ := a
      have : spot = none := by simpa [Addr.add] using h3
      subst this
      exact ⟨rfl, trivial⟩
    · have hi : i < len := by simpa using hi
      simp only [dif_pos hi] at hu
      have h1 := (World.cells?_some (hf ⟨i, hi⟩).1)
      have hj : j < r.n := by
        rcases Nat.lt_or_ge j r.n with h | h
        · exact h
        · rw [List.getElem?_eq_none (by rw [h1.2.1]; exact h)] at hu; cases hu
      have h2 := h1.2.2 j hj
      rw [hu] at h2
      have h0 := (World.cells?_some (hf ⟨0, by omega⟩).1)
      have h0' := h0.2.2 0 hpos
      rw [List.getElem?_eq_getElem (by rw [h0.2.1]; exact hpos)] at h0'
      have h3 := World.cell?_spot h0'
      obtain ⟨bl, off, spot⟩ := a
      have : spot = none := by simpa [Addr.add] using h3
      subst this
      rw [addr_add, addr_add] at h2
      exact h2
    · have hi : i < len := by simpa using hi
      simp only [dif_pos hi, List.getElem_ofFn]
      exact (hf ⟨i, hi⟩).2.1
    · have hi : i < len := by simpa using hi
      obtain ⟨d, h1, h2⟩ := (hf ⟨i, hi⟩).2.2
      exact ⟨d, _, _, rfl, h1, by simpa using h2⟩

theorem two_of {α : Type} {cs : List α} (h : cs.length = 2) : ∃ a b, cs = [a, b] := by
  match cs, h with
  | [a, b], _ => exact ⟨a, b, rfl⟩
theorem cellsInt : Try.prog.cellsOf 3 = 1 := by kernel_rfl

theorem cellsR : Try.prog.cellsOf 26 = 2 := by kernel_rfl
theorem cellsSR : Try.prog.cellsOf 24 = 1 := by kernel_rfl
theorem rdR {H : Type} (enc : TypeId × Value → H) (W : World) (base : Nat) (sp : Nat → Bool) (hd : Bool) : ∀ n, Rd enc W base sp hd 26 rpTy (fun _ _ => True) n := by
  intro n
  induction n using Nat.strongRecOn with
  | ind n ih =>
    intro cs x h
    obtain ⟨xs, m, rfl, rfl, hl, hlen, hf⟩ := DataW.trod_struct Try.underlying26 h
    rw [cellsR] at hl
    obtain ⟨v0, v1, rfl⟩ := two_of hl
    have h0 : DataW.trod enc Try.prog W base sp hd m 24 ([v0, v1].take (Try.prog.cellsOf 24)) = xs[0]? := hf 0 _ rfl
    have h1 : DataW.trod enc Try.prog W base sp hd m 3 ([v1].take (Try.prog.cellsOf 3)) = xs[1]? := hf 1 _ rfl
    rw [cellsSR] at h0
    rw [cellsInt] at h1
    have hlen : xs.length = 2 := hlen
    rw [List.getElem?_eq_getElem (by omega)] at h0 h1
    obtain ⟨va, vn, vc, l, hv, _, hs, _⟩ := sl_of_trod Try.underlying24 cellsR (by decide) (fun k hk => ih k (by omega)) h0
    obtain ⟨b, hb, _, _⟩ := DataW.trod_int Try.underlying3 h1
    have e0 : [v0] = [.slice va vn vc] := hv
    have e1 : [v1] = [.int .i64 b] := hb
    simp only [List.cons.injEq, and_true] at e0 e1
    subst e0 e1
    exact ⟨.mk l b, ⟨_, _, rfl, isTy_mk hs b⟩, trivial⟩
set_option maxRecDepth 100000 in
theorem openTyR {H : Type} {enc : TypeId × Value → H} {W : World} {base : Nat} {sp : Nat → Bool} {hd : Bool} {r : Reach} {b0 : Nat} {v : Value} {d : DataW H} {p : List MemPlace}
    (hval : Value.okWide Try.prog W r b0 26 v) (h : DataW.Trod enc Try.prog W base sp hd 26 v d p) : ∃ s b t, v = .agg #[s, b] ∧ IsTy (fun _ => True) W s b t := by
  obtain ⟨n, h⟩ := h
  obtain ⟨t, ⟨s, b, hx, ht⟩, _⟩ := rdR enc W base sp hd n _ _ h
  obtain ⟨cs, rfl, _⟩ := okWide_struct Try.underlying26 hval
  refine ⟨s, b, t, ?_, ht⟩
  have : cs.toList = [s, b] := hx
  rw [← Array.toList_inj.1 (show cs.toList = (#[s, b] : Array Value).toList from this)]
theorem cellsK : Try.prog.cellsOf 40 = 2 := by kernel_rfl
theorem cellsSK : Try.prog.cellsOf 33 = 1 := by kernel_rfl
theorem rdK {H : Type} (enc : TypeId × Value → H) (W : World) (base : Nat) (sp : Nat → Bool) (hd : Bool) : ∀ n, Rd enc W base sp hd 40 rpTy (fun _ _ => True) n := by
  intro n
  induction n using Nat.strongRecOn with
  | ind n ih =>
    intro cs x h
    obtain ⟨xs, m, rfl, rfl, hl, hlen, hf⟩ := DataW.trod_struct Try.underlying40 h
    rw [cellsK] at hl
    obtain ⟨v0, v1, rfl⟩ := two_of hl
    have h0 : DataW.trod enc Try.prog W base sp hd m 33 ([v0, v1].take (Try.prog.cellsOf 33)) = xs[0]? := hf 0 _ rfl
    have h1 : DataW.trod enc Try.prog W base sp hd m 3 ([v1].take (Try.prog.cellsOf 3)) = xs[1]? := hf 1 _ rfl
    rw [cellsSK] at h0
    rw [cellsInt] at h1
    have hlen : xs.length = 2 := hlen
    rw [List.getElem?_eq_getElem (by omega)] at h0 h1
    obtain ⟨va, vn, vc, l, hv, _, hs, _⟩ := sl_of_trod Try.underlying33 cellsK (by decide) (fun k hk => ih k (by omega)) h0
    obtain ⟨b, hb, _, _⟩ := DataW.trod_int Try.underlying3 h1
    have e0 : [v0] = [.slice va vn vc] := hv
    have e1 : [v1] = [.int .i64 b] := hb
    simp only [List.cons.injEq, and_true] at e0 e1
    subst e0 e1
    exact ⟨.mk l b, ⟨_, _, rfl, isTy_mk hs b⟩, trivial⟩
set_option maxRecDepth 100000 in
theorem openTyK {H : Type} {enc : TypeId × Value → H} {W : World} {base : Nat} {sp : Nat → Bool} {hd : Bool} {r : Reach} {b0 : Nat} {v : Value} {d : DataW H} {p : List MemPlace}
    (hval : Value.okWide Try.prog W r b0 40 v) (h : DataW.Trod enc Try.prog W base sp hd 40 v d p) : ∃ s b t, v = .agg #[s, b] ∧ IsTy (fun _ => True) W s b t := by
  obtain ⟨n, h⟩ := h
  obtain ⟨t, ⟨s, b, hx, ht⟩, _⟩ := rdK enc W base sp hd n _ _ h
  obtain ⟨cs, rfl, _⟩ := okWide_struct Try.underlying40 hval
  refine ⟨s, b, t, ?_, ht⟩
  have : cs.toList = [s, b] := hx
  rw [← Array.toList_inj.1 (show cs.toList = (#[s, b] : Array Value).toList from this)]

theorem trodAll_stays {H : Type} {enc : TypeId × Value → H} {W W' : World} {sp : Nat → Bool} : ∀ {ts : List TypeId} {vs : List Value} {ds : List (DataW H)} {p : List MemPlace},
    DataW.TrodAll enc Try.prog W 0 (fun _ => true) true ts vs ds p → (∀ t ∈ ts, Try.prog.readableRec t = true ∧ t < Try.prog.types.size) → (∀ x ∈ p, W.sameAt W' x) → (∀ x ∈ p, sp x.block = true) →
    DataW.TrodAll enc Try.prog W' 0 sp true ts vs ds p := by
  intro ts
  induction ts with
  | nil => intro vs ds p h; cases vs <;> cases ds <;> first | exact fun _ _ _ => h | exact h.elim
  | cons t ts ih =>
    intro vs ds p h hts hs hsp
    cases vs with
    | nil => exact h.elim
    | cons v vs =>
      cases ds with
      | nil => exact h.elim
      | cons d ds =>
        obtain ⟨p, q, h0, h1, rfl⟩ := h
        exact ⟨p, q, WideElems.Trod_stays laidOut (hts t (by simp)).1 (hts t (by simp)).2 h0 (fun x hx => hs x (by simp [hx])) (fun x hx => hsp x (by simp [hx])), ih h1 (fun t ht => hts t (by simp [ht])) (fun x hx => hs x (by simp [hx])) (fun x hx => hsp x (by simp [hx])), rfl⟩

set_option maxRecDepth 100000 in
theorem openSl {α H : Type} {enc : TypeId × Value → H} {W : World} {base : Nat} {sp : Nat → Bool} {hd : Bool} {t e : TypeId} {r : Rp α} {D : DataW H → α → Prop} {v : Value} {d : DataW H} {p : List MemPlace} {rch : Reach} {b0 : Nat}
    (ht : Try.prog.underlying t = some (.slice e)) (hn : Try.prog.cellsOf e = r.n) (hpos : 0 < r.n) (hr : ∀ m, Rd enc W base sp hd e r D m) (hval : Value.okWide Try.prog W rch b0 t v) (h : DataW.Trod enc Try.prog W base sp hd t v d p) :
    ∃ a n c l, v = .slice a n c ∧ n ≤ c ∧ IsSl r (fun _ => True) W (.slice a n c) l ∧ ∀ i (h : i < l.length), ∃ x es spare, d = .slice es spare ∧ x ∈ es ∧ D x l[i] := by
  obtain ⟨fuel, h⟩ := h
  obtain ⟨a, n, c, l, h1, h2, h3, h4⟩ := sl_of_trod ht hn hpos (fun m _ => hr m) h
  refine ⟨a, n, c, l, ?_, h2, h3, h4⟩
  obtain ⟨a', n', c', rfl⟩ := okWide_slice ht hval
  simpa [Value.cells] using h1

set_option maxRecDepth 100000 in
theorem post_true {H : Type} {enc : TypeId × Value → H} {f : Func} {s : ChangeSpec} {fresh handsOn again apart : Bool} {W W' : World} {args : Array Value} {ds gs : List (DataW H)} {before : List MemPlace}
    (hW : DataW.Whole enc Try.prog f.params.toList s.vars apart W args.toList ds gs before) (hv : s.vars = []) (hts : ∀ t ∈ f.params.toList, Try.prog.readableRec t = true ∧ t < Try.prog.types.size)
    (hr : f.resultTypes = #[4]) (hfn : s.fn H (ds ++ gs) = { results := [.lit (.bool true)], args := ds }) (hb : Below W.heap.size W W') :
    s.post enc Try.prog f apart fresh handsOn again W args (.bool true) W' := by
  have hlt := hW.lt
  have hW' := hW
  obtain ⟨p, q, hA, hV, rfl, hz, hn⟩ := hW
  rw [hv] at hV
  obtain ⟨rfl, rfl⟩ := trodVars_none hV
  have hres : ∀ (b : Nat) (sp : Nat → Bool) (hd : Bool), DataW.TrodAll enc Try.prog W' b sp hd f.resultTypes.toList ((Value.bool true).resultList f.resultTypes.size) (s.fn H (ds ++ [])).results [] := fun _ _ _ => by
    rw [hr, hfn]; exact trodAll_cons_mk (shut_bool Try.underlying4 _) trodAll_mk0
  have hargs : ∀ sp : Nat → Bool, (∀ x ∈ p ++ [], sp x.block = true) → DataW.TrodAll enc Try.prog W' 0 sp true f.params.toList args.toList (s.fn H (ds ++ [])).args p := fun sp hs => by
    rw [hfn]; exact trodAll_stays hA hts (fun x hx => hb.same (hlt x (by simp [hx]))) (fun x hx => hs x (by simp [hx]))
  have hvars : ∀ sp : Nat → Bool, DataW.TrodVars enc Try.prog W' sp s.vars (s.fn H (ds ++ [])).vars [] := fun sp => by rw [hv, hfn]; rfl
  have hok := ok_one (P := Try.prog) (W' := W') (f := f) (v := .bool true) hr rfl (okWide_bool_mk Try.underlying4 _)
  refine ⟨ds, [], p ++ [], [], p, [], hW', hres _ _ _, hargs _ (fun x hx => by simpa using hlt x hx), hvars _, World.keptBut_mono (fun p hp => ⟨hp, .inr (by simpa using hp)⟩) (hb.frame _), fun _ => ?_⟩
  refine ⟨hok, _, _, ([] ++ p) ++ [], ⟨[] ++ p, [], trodAll_append (hargs _ (fun _ _ => rfl)) (hres _ _ _), hvars _, rfl, ?_, ?_⟩, ?_⟩
  · intro b off hp
    rw [hb.frozen (hlt (.cell b off) (by simpa using hp))]
    exact hz b off (by simpa using hp)
  · intro ha
    simpa using hn ha
  · intro x hx _
    simpa using hx
end Go.Proofs.Ytejpgifofkiofaa

namespace Go.Proofs.Ytejpgifofkiofaa
open Go.RowKit

def fewOk (t : Ty) (most depth : Int) (r : Int) : Prop :=
  1 ≤ r ∧ r ≤ (most + 1) * (max depth 0 + 1) ∧ ((r ≤ most ∧ r = t.size ∧ (t.depth : Int) ≤ depth) ∨ (most < r ∧ ¬ ((t.size : Int) ≤ most ∧ (t.depth : Int) ≤ depth)))

def FewPost (t : Ty) (most depth : Int) (w : World) (e : Ending) (w' : World) : Prop := ∃ r : Int, fewOk t most depth r ∧ e = .returned (.int .i64 r) ∧ Below w.heap.size w w'

def FewRel (l : List Ty) (most depth : Int) (k : Nat) (r : Int) : Prop :=
  (r ≤ most ∧ r = Ty.sizes (l.take k) + 1 ∧ (Ty.depths (l.take k) : Int) + 1 ≤ depth) ∨ (most < r ∧ ¬ ((Ty.sizes l : Int) + 1 ≤ most ∧ (Ty.depths l : Int) + 1 ≤ depth))

theorem fewRel_start (l : List Ty) (most depth : Int) (hd : 1 ≤ depth) (hm : 1 ≤ most) : FewRel l most depth 0 1 := by
  unfold FewRel
  exact .inl ⟨hm, by simp [Ty.sizes], by simp [Ty.depths]; omega⟩
theorem fewRel_step (l : List Ty) (most depth : Int) (k : Nat) (r r' : Int) (h : FewRel l most depth k r) (hr : r ≤ most) (hk : k < l.length) (h' : fewOk l[k] most (depth - 1) r') (h0 : 1 ≤ r) :
    FewRel l most depth (k + 1) (r + r') := by
  unfold FewRel fewOk at *
  have s1 := Ty.sizes_take l k hk
  have s2 := Ty.depths_take l k hk
  have s3 := Ty.sizes_take_le l (k + 1)
  have s4 := Ty.depths_take_le l (k + 1)
  omega
theorem fewRel_end (l : List Ty) (b : Int) (most depth : Int) (k : Nat) (r : Int) (h : FewRel l most depth k r) (h' : most < r ∨ l.length ≤ k) (h0 : 1 ≤ r) (hb : r ≤ (most + 1) * (max depth 0 + 1)) :
    fewOk (.mk l b) most depth r := by
  unfold FewRel at h
  refine ⟨h0, hb, ?_⟩
  simp only [Ty.size, Ty.depth]
  rcases h' with h' | h'
  · omega
  · rw [List.take_of_length_le h'] at h; omega

set_option maxHeartbeats 400000 in
theorem few_any {F : Nat → Prop} {w0 : World} {s b : Value} {t : Ty} (ht : IsTy F w0 s b t) : ∀ (most depth : Int) (w : World), 1 ≤ most → most ≤ 1000 → depth ≤ 1000 → -1000 ≤ depth →
    Keep F w0 w →
    Calls Try.prog 84 #[.agg #[s, b], .int .i64 most, .int .i64 depth] w (FewPost t most depth w) := by
  induction ht with
  | mk a n c b args bl off A N C B hn hm ha h1 h2 h3 ih =>
  intro most depth w hm0 hm1 hd1 hd0 hw
  unfold maxLen at hm
  by_cases hd : depth ≤ 0
  · go_enter Try.func84, Try.ntmps84
    go_wp2_with fail
    go_ret
    refine ⟨_, ?_, rfl, (Below.refl _ _).alloc (Nat.le_refl _) _⟩
    have := Ty.depth_pos (.mk args b)
    refine ⟨by omega, ?_, .inr ⟨by omega, by omega⟩⟩
    rw [show max depth 0 = 0 from by omega]; omega
  · have hd' : 1 ≤ depth := by omega
    clear h3
    have Hih := Lib.hid ih; clear ih
    have hst := Lib.hid (fewRel_start args most depth hd' hm0)
    have hmul : Hid ((most + 1) * max (depth - 1) 0 + (most + 1) = (most + 1) * (max depth 0) ∧ 0 ≤ (most + 1) * max depth 0 ∧ (most + 1) * max depth 0 ≤ 1001 * 1000 ∧ (most + 1) * (max depth 0 + 1) = (most + 1) * max depth 0 + (most + 1) ∧ (most + 1) * (max (depth - 1) 0 + 1) = (most + 1) * max (depth - 1) 0 + (most + 1)) := by
      refine ⟨?_, Int.mul_nonneg (by omega) (by omega), Int.mul_le_mul (by omega) (by omega) (by omega) (by omega), by rw [Int.mul_add]; omega, by rw [Int.mul_add]; omega⟩
      rw [show max depth 0 = max (depth - 1) 0 + 1 from by omega, Int.mul_add]; omega
    go_enter Try.func84, Try.ntmps84
    go_wp2_with fail
    go_loopw [7, 8] (fun x i wr => ∃ (k : Nat) (r : Int), i = .int .i64 k ∧ x = .int .i64 r ∧ k ≤ n ∧ FewRel args most depth k r ∧ 1 ≤ r ∧ r ≤ most + (most + 1) * (max depth 0) ∧
      Below w.heap.size w wr ∧ wr.heap[w.heap.size]? = some (.cells #[.slice a n c, .int .i64 b] 26)) (fun _ i _ => n - (intOf i).toNat)
    case atStart =>
      have := hmul.out
      exact ⟨0, 1, rfl, rfl, by omega, hst.out, by omega, by omega, (Below.refl _ _).alloc (Nat.le_refl _) _, heap_alloc_new _ _⟩
    case round =>
      obtain ⟨k, r, rfl, rfl, hk, hrel, hr1, hr2, hb, hbox⟩ := hrel
      have c0 : wr.cell? ⟨w.heap.size, 0, none⟩ = some (.slice a n c) := by simp [World.cell?, hbox]
      have hrb : r ≤ 2000000 := by have := hmul.out; omega
      have hsz : w.heap.size < wr.heap.size := lt_of_block hbox
      have Hbox := Lib.hid hbox; clear hbox
      by_cases hlt : k < n
      · obtain ⟨rfl, hF⟩ := ha (by omega)
        have e1 : wr.cell? ⟨bl, off + k * 2, none⟩ = some (.slice (A k) (N k) (C k)) := (hw.below hb) _ _ _ hF (h1 k hlt)
        have e2 : wr.cell? ⟨bl, off + k * 2 + 1, none⟩ = some (.int .i64 (B k)) := (hw.below hb) _ _ _ hF (h2 k hlt)
        by_cases hr : r ≤ most
        · go_wp2_with fail
          refine (Hih.out k (by omega) most (depth - 1) wr hm0 hm1 (by omega) (by omega) (hw.below hb)).mono ?_
          rintro e w1 ⟨r', hf, rfl, hb1⟩
          have hr' : 1 ≤ r' ∧ r' ≤ 3000000 := by have := hmul.out; have := hf.1; have := hf.2.1; omega
          go_wp2_with fail
          go_roundw
          case rel =>
            have := hmul.out; have := hf.2.1
            exact ⟨k + 1, r + r', by go_num, rfl, by omega, fewRel_step _ _ _ _ _ _ hrel hr (by omega) hf hr1, by omega, by omega, hb.trans (hb1.mono (by omega)), by rw [hb1.block _ hsz]; exact Hbox.out⟩
          case measure => simp [intOf]; omega
        · have hend := Lib.hid (fewRel_end args b most depth k r hrel (.inl (by omega)) hr1 (by have := hmul.out; omega))
          go_wp2_with fail
          go_ret
          exact ⟨r, hend.out, rfl, hb⟩
      · have hend := Lib.hid (fewRel_end args b most depth k r hrel (.inr (by omega)) hr1 (by have := hmul.out; omega))
        go_wp2_with fail
        go_ret
        exact ⟨r, hend.out, rfl, hb⟩
end Go.Proofs.Ytejpgifofkiofaa

