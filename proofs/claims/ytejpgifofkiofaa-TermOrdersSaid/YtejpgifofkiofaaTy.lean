/-
  What a simple type is in plain Lean, and when memory holds one.
-/
import Derived.Test.YtejpgifofkiofaaRep
namespace Go.Proofs.Ytejpgifofkiofaa
open Go.RowKit

inductive Ty where
  | mk (args : List Ty) (base : Int)
namespace Ty
def args : Ty → List Ty | .mk a _ => a
def base : Ty → Int | .mk _ b => b
theorem ind {p : Ty → Prop} (h : ∀ args base, (∀ t ∈ args, p t) → p (.mk args base)) (t : Ty) : p t :=
  Ty.rec (motive_1 := p) (motive_2 := fun l => ∀ t ∈ l, p t) (fun a b ih => h a b ih) (by simp)
    (fun a l ha hl t ht => by
      rcases List.mem_cons.1 ht with rfl | h
      · exact ha
      · exact hl t h) t

mutual
def size : Ty → Nat
  | .mk a _ => sizes a + 1
def sizes : List Ty → Nat
  | [] => 0
  | t :: l => size t + sizes l
end
mutual
def depth : Ty → Nat
  | .mk a _ => depths a + 1
def depths : List Ty → Nat
  | [] => 0
  | t :: l => max (depth t) (depths l)
end
theorem sizes_append (l r : List Ty) : sizes (l ++ r) = sizes l + sizes r := by
  induction l with
  | nil => simp [sizes]
  | cons t l ih => simp [sizes, ih]; omega
theorem depths_append (l r : List Ty) : depths (l ++ r) = max (depths l) (depths r) := by
  induction l with
  | nil => simp [depths]
  | cons t l ih => simp [depths, ih]
theorem sizes_take (l : List Ty) (i : Nat) (h : i < l.length) : sizes (l.take (i + 1)) = sizes (l.take i) + size l[i] := by
  rw [List.take_succ_eq_append_getElem h, sizes_append]; simp [sizes]
theorem depths_take (l : List Ty) (i : Nat) (h : i < l.length) : depths (l.take (i + 1)) = max (depths (l.take i)) (depth l[i]) := by
  rw [List.take_succ_eq_append_getElem h, depths_append]; simp [depths]
theorem size_pos (t : Ty) : 1 ≤ t.size := by cases t; simp [size]
theorem depth_pos (t : Ty) : 1 ≤ t.depth := by cases t; simp [depth]
theorem sizes_take_le (l : List Ty) (i : Nat) : sizes (l.take i) ≤ sizes l := by
  conv => rhs; rw [← List.take_append_drop i l]
  rw [sizes_append]; omega
theorem depths_take_le (l : List Ty) (i : Nat) : depths (l.take i) ≤ depths l := by
  conv => rhs; rw [← List.take_append_drop i l]
  rw [depths_append]; omega
theorem le_sizes (l : List Ty) : l.length ≤ sizes l := by
  induction l with
  | nil => simp [sizes]
  | cons t l ih => have := size_pos t; simp [sizes]; omega
theorem size_mem {l : List Ty} {t : Ty} (h : t ∈ l) : t.size ≤ sizes l := by
  induction l with
  | nil => cases h
  | cons u l ih =>
    simp only [sizes]
    rcases List.mem_cons.1 h with rfl | h
    · omega
    · have := ih h; omega
theorem depth_mem {l : List Ty} {t : Ty} (h : t ∈ l) : t.depth ≤ depths l := by
  induction l with
  | nil => cases h
  | cons u l ih =>
    simp only [depths]
    rcases List.mem_cons.1 h with rfl | h
    · omega
    · have := ih h; omega
theorem size_get {l : List Ty} {b : Int} (i : Nat) (h : i < l.length) : l[i].size < (mk l b).size := by
  have := size_mem (List.getElem_mem h); simp [size]; omega
theorem depth_get {l : List Ty} {b : Int} (i : Nat) (h : i < l.length) : l[i].depth < (mk l b).depth := by
  have := depth_mem (List.getElem_mem h); simp [depth]; omega
theorem length_lt {l : List Ty} {b : Int} : l.length < (mk l b).size := by
  have := le_sizes l; simp [size]; omega
end Ty

/-- the two cells that hold a type; all its memory lies in blocks of F -/
inductive IsTy (F : Nat → Prop) (w : World) : Value → Value → Ty → Prop where
  | mk (a : Option Addr) (n c : Nat) (b : Int) (args : List Ty) (bl off : Nat) (A : Nat → Option Addr) (N C : Nat → Nat) (B : Nat → Int)
      (hn : args.length = n) (hm : n ≤ maxLen ∧ n ≤ c) (ha : 0 < n → a = some ⟨bl, off, none⟩ ∧ F bl)
      (h1 : ∀ i, i < n → w.cell? ⟨bl, off + i * 2, none⟩ = some (.slice (A i) (N i) (C i)))
      (h2 : ∀ i, i < n → w.cell? ⟨bl, off + i * 2 + 1, none⟩ = some (.int .i64 (B i)))
      (h3 : ∀ i (h : i < args.length), IsTy F w (.slice (A i) (N i) (C i)) (.int .i64 (B i)) args[i]) :
      IsTy F w (.slice a n c) (.int .i64 b) (.mk args b)

theorem IsTy.keep {F : Nat → Prop} {w w' : World} {s b : Value} {t : Ty} (h : IsTy F w s b t) (hw : Keep F w w') : IsTy F w' s b t := by
  induction h with
  | mk a n c b args bl off A N C B hn hm ha h1 h2 h3 ih =>
    exact IsTy.mk a n c b args bl off A N C B hn hm ha (fun i hi => hw _ _ _ (ha (by omega)).2 (h1 i hi)) (fun i hi => hw _ _ _ (ha (by omega)).2 (h2 i hi)) ih
theorem IsTy.weaken {F F' : Nat → Prop} {w : World} {s b : Value} {t : Ty} (h : IsTy F w s b t) (hF : ∀ k, k < w.heap.size → F k → F' k) : IsTy F' w s b t := by
  induction h with
  | mk a n c b args bl off A N C B hn hm ha h1 h2 h3 ih =>
    exact IsTy.mk a n c b args bl off A N C B hn hm (fun h => ⟨(ha h).1, hF _ (Keep.lt (h1 0 h)) (ha h).2⟩) h1 h2 ih
theorem IsTy.one {F : Nat → Prop} {w : World} {s b : Value} {t : Ty} (h : IsTy F w s b t) : s.oneCell' = true ∧ b.oneCell' = true := by
  cases h; exact ⟨rfl, rfl⟩
theorem IsTy.shape {F : Nat → Prop} {w : World} {s b : Value} {t : Ty} (h : IsTy F w s b t) : ∃ a c, s = .slice a t.args.length c ∧ b = .int .i64 t.base := by
  cases h with
  | mk a n c b args bl off A N C B hn => subst hn; exact ⟨a, c, rfl, rfl⟩

def rpTy : Rp Ty where
  n := 2
  R F w x t := ∃ s b, x = [s, b] ∧ IsTy F w s b t
  len := by rintro F w x a ⟨s, b, rfl, _⟩; rfl
  one := by
    rintro F w x a ⟨s, b, rfl, h⟩ u hu
    have := h.one
    simp at hu
    rcases hu with rfl | rfl
    · exact this.1
    · exact this.2
  keep := by rintro F w w' x a ⟨s, b, rfl, h⟩ hk; exact ⟨s, b, rfl, h.keep hk⟩
  weaken := by rintro F F' w x a ⟨s, b, rfl, h⟩ hk; exact ⟨s, b, rfl, h.weaken hk⟩

/-- a type is a slice of types and a base -/
theorem isTy_mk {F : Nat → Prop} {w : World} {v : Value} {l : List Ty} (h : IsSl rpTy F w v l) (b : Int) : IsTy F w v (.int .i64 b) (.mk l b) := by
  obtain ⟨a, c, bl, off, X, rfl, hl, ha, h1, h2⟩ := h
  let A : Nat → Option Addr := fun i => match (X i).getD 0 default with | .slice a _ _ => a | _ => none
  let N : Nat → Nat := fun i => match (X i).getD 0 default with | .slice _ n _ => n | _ => 0
  let C : Nat → Nat := fun i => match (X i).getD 0 default with | .slice _ _ c => c | _ => 0
  let B : Nat → Int := fun i => match (X i).getD 1 default with | .int _ b => b | _ => 0
  have hx : ∀ i (h : i < l.length), X i = [.slice (A i) (N i) (C i), .int .i64 (B i)] ∧ IsTy F w (.slice (A i) (N i) (C i)) (.int .i64 (B i)) l[i] := fun i hi => by
    obtain ⟨s, b, hx, ht⟩ := h2 i hi
    obtain ⟨a', c', rfl, rfl⟩ := ht.shape
    have e1 : A i = a' := by simp [A, hx]
    have e2 : N i = l[i].args.length := by simp [N, hx]
    have e3 : C i = c' := by simp [C, hx]
    have e4 : B i = l[i].base := by simp [B, hx]
    rw [e1, e2, e3, e4]; exact ⟨hx, ht⟩
  refine IsTy.mk a l.length c b l bl off A N C B rfl hl ha (fun i hi => ?_) (fun i hi => ?_) (fun i hi => (hx i hi).2)
  · exact h1 i 0 _ hi (by rw [(hx i hi).1]; rfl)
  · exact h1 i 1 _ hi (by rw [(hx i hi).1]; rfl)
theorem IsTy.inv {F : Nat → Prop} {w : World} {s b : Value} {t : Ty} (h : IsTy F w s b t) : b = .int .i64 t.base ∧ IsSl rpTy F w s t.args := by
  cases h with
  | mk a n c b args bl off A N C B hn hm ha h1 h2 h3 =>
    subst hn
    refine ⟨rfl, a, c, bl, off, fun i => [.slice (A i) (N i) (C i), .int .i64 (B i)], rfl, hm, ha, fun i j u hi hu => ?_, fun i hi => ⟨_, _, rfl, h3 i hi⟩⟩
    match j with
    | 0 => simp at hu; subst hu; exact h1 i hi
    | 1 => simp at hu; subst hu; exact h2 i hi
    | j + 2 => simp at hu

end Go.Proofs.Ytejpgifofkiofaa
