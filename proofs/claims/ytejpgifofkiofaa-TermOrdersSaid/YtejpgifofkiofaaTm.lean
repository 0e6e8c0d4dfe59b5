/-
  What a term is in plain Lean, and when memory holds one.
-/
import Derived.Test.YtejpgifofkiofaaTy
namespace Go.Proofs.Ytejpgifofkiofaa
open Go.RowKit

inductive Tm where
  | mk (binds : List Ty) (kind index : Int) (args : List Tm)
namespace Tm
def binds : Tm → List Ty | .mk b _ _ _ => b
def kind : Tm → Int | .mk _ k _ _ => k
def index : Tm → Int | .mk _ _ i _ => i
def args : Tm → List Tm | .mk _ _ _ a => a
theorem ind {p : Tm → Prop} (h : ∀ binds kind index args, (∀ t ∈ args, p t) → p (.mk binds kind index args)) (t : Tm) : p t :=
  Tm.rec (motive_1 := p) (motive_2 := fun l => ∀ t ∈ l, p t) (fun b k i a ih => h b k i a ih) (by simp)
    (fun a l ha hl t ht => by
      rcases List.mem_cons.1 ht with rfl | h
      · exact ha
      · exact hl t h) t

mutual
/-- how many terms -/
def size : Tm → Nat
  | .mk _ _ _ a => sizes a + 1
def sizes : List Tm → Nat
  | [] => 0
  | t :: l => size t + sizes l
end
mutual
def depth : Tm → Nat
  | .mk _ _ _ a => depths a + 1
def depths : List Tm → Nat
  | [] => 0
  | t :: l => max (depth t) (depths l)
end
mutual
/-- how many terms and types -/
def full : Tm → Nat
  | .mk b _ _ a => Ty.sizes b + fulls a + 1
def fulls : List Tm → Nat
  | [] => 0
  | t :: l => full t + fulls l
end
theorem size_eq (b : List Ty) (k i : Int) (a : List Tm) : (mk b k i a).size = sizes a + 1 := by simp [size]
theorem depth_eq (b : List Ty) (k i : Int) (a : List Tm) : (mk b k i a).depth = depths a + 1 := by simp [depth]
theorem full_eq (b : List Ty) (k i : Int) (a : List Tm) : (mk b k i a).full = Ty.sizes b + fulls a + 1 := by simp [full]
theorem sizes_append (l r : List Tm) : sizes (l ++ r) = sizes l + sizes r := by
  induction l with
  | nil => simp [sizes]
  | cons t l ih => simp [sizes, ih]; omega
theorem fulls_append (l r : List Tm) : fulls (l ++ r) = fulls l + fulls r := by
  induction l with
  | nil => simp [fulls]
  | cons t l ih => simp [fulls, ih]; omega
theorem depths_append (l r : List Tm) : depths (l ++ r) = max (depths l) (depths r) := by
  induction l with
  | nil => simp [depths]
  | cons t l ih => simp [depths, ih]
theorem sizes_take (l : List Tm) (i : Nat) (h : i < l.length) : sizes (l.take (i + 1)) = sizes (l.take i) + size l[i] := by
  rw [List.take_succ_eq_append_getElem h, sizes_append]; simp [sizes]
theorem fulls_take (l : List Tm) (i : Nat) (h : i < l.length) : fulls (l.take (i + 1)) = fulls (l.take i) + full l[i] := by
  rw [List.take_succ_eq_append_getElem h, fulls_append]; simp [fulls]
theorem depths_take (l : List Tm) (i : Nat) (h : i < l.length) : depths (l.take (i + 1)) = max (depths (l.take i)) (depth l[i]) := by
  rw [List.take_succ_eq_append_getElem h, depths_append]; simp [depths]
theorem size_pos (t : Tm) : 1 ≤ t.size := by cases t; simp [size]
theorem depth_pos (t : Tm) : 1 ≤ t.depth := by cases t; simp [depth]
theorem full_pos (t : Tm) : 1 ≤ t.full := by cases t; simp [full]
theorem sizes_take_le (l : List Tm) (i : Nat) : sizes (l.take i) ≤ sizes l := by
  conv => rhs; rw [← List.take_append_drop i l]
  rw [sizes_append]; omega
theorem fulls_take_le (l : List Tm) (i : Nat) : fulls (l.take i) ≤ fulls l := by
  conv => rhs; rw [← List.take_append_drop i l]
  rw [fulls_append]; omega
theorem depths_take_le (l : List Tm) (i : Nat) : depths (l.take i) ≤ depths l := by
  conv => rhs; rw [← List.take_append_drop i l]
  rw [depths_append]; omega
theorem len_sizes (l : List Tm) : l.length ≤ sizes l := by
  induction l with
  | nil => simp [sizes]
  | cons t l ih => have := size_pos t; simp [sizes]; omega
theorem len_fulls (l : List Tm) : l.length ≤ fulls l := by
  induction l with
  | nil => simp [fulls]
  | cons t l ih => have := full_pos t; simp [fulls]; omega
theorem size_mem {l : List Tm} {t : Tm} (h : t ∈ l) : t.size ≤ sizes l := by
  induction l with
  | nil => cases h
  | cons u l ih =>
    simp only [sizes]
    rcases List.mem_cons.1 h with rfl | h
    · omega
    · have := ih h; omega
theorem full_mem {l : List Tm} {t : Tm} (h : t ∈ l) : t.full ≤ fulls l := by
  induction l with
  | nil => cases h
  | cons u l ih =>
    simp only [fulls]
    rcases List.mem_cons.1 h with rfl | h
    · omega
    · have := ih h; omega
theorem depth_mem {l : List Tm} {t : Tm} (h : t ∈ l) : t.depth ≤ depths l := by
  induction l with
  | nil => cases h
  | cons u l ih =>
    simp only [depths]
    rcases List.mem_cons.1 h with rfl | h
    · omega
    · have := ih h; omega
theorem size_le_full (t : Tm) : t.size ≤ t.full := by
  induction t using Tm.ind with
  | h b k i a ih =>
    have : ∀ l : List Tm, (∀ t ∈ l, t.size ≤ t.full) → sizes l ≤ fulls l := by
      intro l
      induction l with
      | nil => intro _; simp [sizes]
      | cons t l ih2 => intro h; have := ih2 (fun t ht => h t (by simp [ht])); have := h t (by simp); simp [sizes, fulls]; omega
    have := this a ih
    rw [size_eq, full_eq]; omega
theorem depth_le_size (t : Tm) : t.depth ≤ t.size := by
  induction t using Tm.ind with
  | h b k i a ih =>
    have : ∀ l : List Tm, (∀ t ∈ l, t.depth ≤ t.size) → depths l ≤ sizes l := by
      intro l
      induction l with
      | nil => intro _; simp [depths]
      | cons t l ih2 => intro h; have := ih2 (fun t ht => h t (by simp [ht])); have := h t (by simp); simp [sizes, depths]; omega
    have := this a ih
    rw [size_eq, depth_eq]; omega
end Tm

/-- the four cells that hold a term; all its memory lies in blocks of F -/
inductive IsTm (F : Nat → Prop) (w : World) : Value → Value → Value → Value → Tm → Prop where
  | mk (bv : Value) (k i : Int) (a : Option Addr) (n c : Nat) (binds : List Ty) (args : List Tm) (bl off : Nat) (PA A : Nat → Option Addr) (PN PC N C : Nat → Nat) (K I : Nat → Int)
      (hb : IsSl rpTy F w bv binds) (hn : args.length = n) (hm : n ≤ maxLen ∧ n ≤ c) (ha : 0 < n → a = some ⟨bl, off, none⟩ ∧ F bl)
      (h1 : ∀ i, i < n → w.cell? ⟨bl, off + i * 4, none⟩ = some (.slice (PA i) (PN i) (PC i)))
      (h2 : ∀ i, i < n → w.cell? ⟨bl, off + i * 4 + 1, none⟩ = some (.int .i64 (K i)))
      (h3 : ∀ i, i < n → w.cell? ⟨bl, off + i * 4 + 2, none⟩ = some (.int .i64 (I i)))
      (h4 : ∀ i, i < n → w.cell? ⟨bl, off + i * 4 + 3, none⟩ = some (.slice (A i) (N i) (C i)))
      (h5 : ∀ i (h : i < args.length), IsTm F w (.slice (PA i) (PN i) (PC i)) (.int .i64 (K i)) (.int .i64 (I i)) (.slice (A i) (N i) (C i)) args[i]) :
      IsTm F w bv (.int .i64 k) (.int .i64 i) (.slice a n c) (.mk binds k i args)

theorem IsTm.keep {F : Nat → Prop} {w w' : World} {b k i a : Value} {t : Tm} (h : IsTm F w b k i a t) (hw : Keep F w w') : IsTm F w' b k i a t := by
  induction h with
  | mk bv k i a n c binds args bl off PA A PN PC N C K I hb hn hm ha h1 h2 h3 h4 h5 ih =>
    exact IsTm.mk bv k i a n c binds args bl off PA A PN PC N C K I (hb.keep hw) hn hm ha (fun i hi => hw _ _ _ (ha (by omega)).2 (h1 i hi)) (fun i hi => hw _ _ _ (ha (by omega)).2 (h2 i hi)) (fun i hi => hw _ _ _ (ha (by omega)).2 (h3 i hi)) (fun i hi => hw _ _ _ (ha (by omega)).2 (h4 i hi)) ih
theorem IsTm.weaken {F F' : Nat → Prop} {w : World} {b k i a : Value} {t : Tm} (h : IsTm F w b k i a t) (hF : ∀ k, k < w.heap.size → F k → F' k) : IsTm F' w b k i a t := by
  induction h with
  | mk bv k i a n c binds args bl off PA A PN PC N C K I hb hn hm ha h1 h2 h3 h4 h5 ih =>
    exact IsTm.mk bv k i a n c binds args bl off PA A PN PC N C K I (hb.weaken (by decide) hF) hn hm (fun h => ⟨(ha h).1, hF _ (Keep.lt (h1 0 h)) (ha h).2⟩) h1 h2 h3 h4 ih
theorem IsSl.shape {α : Type} {r : Rp α} {F : Nat → Prop} {w : World} {v : Value} {l : List α} (h : IsSl r F w v l) : ∃ a c, v = .slice a l.length c := by
  obtain ⟨a, c, _, _, _, hv, _⟩ := h
  exact ⟨a, c, hv⟩
theorem IsTm.shape {F : Nat → Prop} {w : World} {b k i a : Value} {t : Tm} (h : IsTm F w b k i a t) : ∃ pa pc qa qc, b = .slice pa t.binds.length pc ∧ k = .int .i64 t.kind ∧ i = .int .i64 t.index ∧ a = .slice qa t.args.length qc := by
  cases h with
  | mk bv k i a n c binds args bl off PA A PN PC N C K I hb hn =>
    obtain ⟨pa, pc, rfl⟩ := hb.shape
    subst hn
    exact ⟨pa, pc, a, c, rfl, rfl, rfl, rfl⟩
theorem IsTm.one {F : Nat → Prop} {w : World} {b k i a : Value} {t : Tm} (h : IsTm F w b k i a t) : b.oneCell' = true ∧ k.oneCell' = true ∧ i.oneCell' = true ∧ a.oneCell' = true := by
  obtain ⟨pa, pc, qa, qc, rfl, rfl, rfl, rfl⟩ := h.shape
  exact ⟨rfl, rfl, rfl, rfl⟩

def rpTm : Rp Tm where
  n := 4
  R F w x t := ∃ b k i a, x = [b, k, i, a] ∧ IsTm F w b k i a t
  len := by rintro F w x a ⟨b, k, i, a, rfl, _⟩; rfl
  one := by
    rintro F w x a ⟨b, k, i, a, rfl, h⟩ u hu
    have := h.one
    simp at hu
    rcases hu with rfl | rfl | rfl | rfl
    · exact this.1
    · exact this.2.1
    · exact this.2.2.1
    · exact this.2.2.2
  keep := by rintro F w w' x a ⟨b, k, i, a, rfl, h⟩ hk; exact ⟨b, k, i, a, rfl, h.keep hk⟩
  weaken := by rintro F F' w x a ⟨b, k, i, a, rfl, h⟩ hk; exact ⟨b, k, i, a, rfl, h.weaken hk⟩

/-- a term is a slice of types, a head and a slice of terms -/
theorem isTm_mk {F : Nat → Prop} {w : World} {bv v : Value} {binds : List Ty} {l : List Tm} (hb : IsSl rpTy F w bv binds) (h : IsSl rpTm F w v l) (k i : Int) : IsTm F w bv (.int .i64 k) (.int .i64 i) v (.mk binds k i l) := by
  obtain ⟨a, c, bl, off, X, rfl, hl, ha, h1, h2⟩ := h
  let PA : Nat → Option Addr := fun i => match (X i).getD 0 default with | .slice a _ _ => a | _ => none
  let PN : Nat → Nat := fun i => match (X i).getD 0 default with | .slice _ n _ => n | _ => 0
  let PC : Nat → Nat := fun i => match (X i).getD 0 default with | .slice _ _ c => c | _ => 0
  let K : Nat → Int := fun i => match (X i).getD 1 default with | .int _ b => b | _ => 0
  let I : Nat → Int := fun i => match (X i).getD 2 default with | .int _ b => b | _ => 0
  let A : Nat → Option Addr := fun i => match (X i).getD 3 default with | .slice a _ _ => a | _ => none
  let N : Nat → Nat := fun i => match (X i).getD 3 default with | .slice _ n _ => n | _ => 0
  let C : Nat → Nat := fun i => match (X i).getD 3 default with | .slice _ _ c => c | _ => 0
  have hx : ∀ i (h : i < l.length), X i = [.slice (PA i) (PN i) (PC i), .int .i64 (K i), .int .i64 (I i), .slice (A i) (N i) (C i)] ∧ IsTm F w (.slice (PA i) (PN i) (PC i)) (.int .i64 (K i)) (.int .i64 (I i)) (.slice (A i) (N i) (C i)) l[i] := fun i hi => by
    obtain ⟨b', k', i', a', hx, ht⟩ := h2 i hi
    obtain ⟨pa, pc, qa, qc, rfl, rfl, rfl, rfl⟩ := ht.shape
    have e1 : PA i = pa := by simp [PA, hx]
    have e2 : PN i = l[i].binds.length := by simp [PN, hx]
    have e3 : PC i = pc := by simp [PC, hx]
    have e4 : K i = l[i].kind := by simp [K, hx]
    have e5 : I i = l[i].index := by simp [I, hx]
    have e6 : A i = qa := by simp [A, hx]
    have e7 : N i = l[i].args.length := by simp [N, hx]
    have e8 : C i = qc := by simp [C, hx]
    rw [e1, e2, e3, e4, e5, e6, e7, e8]; exact ⟨hx, ht⟩
  refine IsTm.mk bv k i a l.length c binds l bl off PA A PN PC N C K I hb rfl hl ha (fun i hi => ?_) (fun i hi => ?_) (fun i hi => ?_) (fun i hi => ?_) (fun i hi => (hx i hi).2)
  · exact h1 i 0 _ hi (by rw [(hx i hi).1]; rfl)
  · exact h1 i 1 _ hi (by rw [(hx i hi).1]; rfl)
  · exact h1 i 2 _ hi (by rw [(hx i hi).1]; rfl)
  · exact h1 i 3 _ hi (by rw [(hx i hi).1]; rfl)
theorem IsTm.inv {F : Nat → Prop} {w : World} {b k i a : Value} {t : Tm} (h : IsTm F w b k i a t) : k = .int .i64 t.kind ∧ i = .int .i64 t.index ∧ IsSl rpTy F w b t.binds ∧ IsSl rpTm F w a t.args := by
  cases h with
  | mk bv k i a n c binds args bl off PA A PN PC N C K I hb hn hm ha h1 h2 h3 h4 h5 =>
    subst hn
    refine ⟨rfl, rfl, hb, a, c, bl, off, fun i => [.slice (PA i) (PN i) (PC i), .int .i64 (K i), .int .i64 (I i), .slice (A i) (N i) (C i)], rfl, hm, ha, fun i j u hi hu => ?_, fun i hi => ⟨_, _, _, _, rfl, h5 i hi⟩⟩
    match j with
    | 0 => simp at hu; subst hu; exact h1 i hi
    | 1 => simp at hu; subst hu; exact h2 i hi
    | 2 => simp at hu; subst hu; exact h3 i hi
    | 3 => simp at hu; subst hu; exact h4 i hi
    | j + 4 => simp at hu
end Go.Proofs.Ytejpgifofkiofaa
