/-
  What a term is in plain Lean, and when memory holds one. The reference's count of a type's types: how far it counts, and what its count says. A region that draws its order: a load may be taken first where every other operation that can come up ahead of it keeps its cell; of what comes behind a store nothing is asked. The reference's size, order and depth of a type, whether its bases are low, whether two types are the same: what each hands back.
-/
import Derived.Test.YtejpgifofkiofaaRowChecks6p1
import Derived.Test.YtejpgifofkiofaaProg
import Derived.Lib.Hide
import Derived.Deep.QuietTactic
import Derived.BigQuiet
import Derived.OrdersHeld
import Derived.Deep.RegionHeld
import Derived.Deep.RegionHeld3
set_option linter.unusedVariables false
set_option linter.unusedSimpArgs false
namespace Go.Proofs.Ytejpgifofkiofaa
open Go.RowKit

inductive Tm where
  | mk (binds : List Ty) (kind index : Int) (args : List Tm)
namespace Tm
def binds : Tm → List Ty | .mk b _ _ _ => b
def kind : Tm → Int | .mk _ k _ _ => k
def index : Tm → Int | .mk _ _ i _ => i
def args : Tm → List Tm | .mk _ _ _ a => a
theorem ind {p : Tm → Prop} (h : ∀ binds kind index args, (∀ t ∈ args, p t) → p (.mk binds kind index args)) (t : Tm) : p t :=
  Tm.rec (motive_1 := p) (motive_2 := fun l => ∀ t ∈ l, p t) (fun b k i a ih => h b k i a ih) (by simp)
    (fun a l ha hl t ht => by
      rcases List.mem_cons.1 ht with rfl | h
      · exact ha
      · exact hl t h) t

mutual
/-- how many terms -/
def size : Tm → Nat
  | .mk _ _ _ a => sizes a + 1
def sizes : List Tm → Nat
  | [] => 0
  | t :: l => size t + sizes l
end
mutual
def depth : Tm → Nat
  | .mk _ _ _ a => depths a + 1
def depths : List Tm → Nat
  | [] => 0
  | t :: l => max (depth t) (depths l)
end
mutual
/-- how many terms and types -/
def full : Tm → Nat
  | .mk b _ _ a => Ty.sizes b + fulls a + 1
def fulls : List Tm → Nat
  | [] => 0
  | t :: l => full t + fulls l
end
theorem size_eq (b : List Ty) (k i : Int) (a : List Tm) : (mk b k i a).size = sizes a + 1 := by simp [size]
theorem depth_eq (b : List Ty) (k i : Int) (a : List Tm) : (mk b k i a).depth = depths a + 1 := by simp [depth]
theorem full_eq (b : List Ty) (k i : Int) (a : List Tm) : (mk b k i a).full = Ty.sizes b + fulls a + 1 := by simp [full]
theorem sizes_append (l r : List Tm) : sizes (l ++ r) = sizes l + sizes r := by
  induction l with
  | nil => simp [sizes]
  | cons t l ih => simp [sizes, ih]; omega
theorem fulls_append (l r : List Tm) : fulls (l ++ r) = fulls l + fulls r := by
  induction l with
  | nil => simp [fulls]
  | cons t l ih => simp [fulls, ih]; omega
theorem depths_append (l r : List Tm) : depths (l ++ r) = max (depths l) (depths r) := by
  induction l with
  | nil => simp [depths]
  | cons t l ih => simp [depths, ih]
theorem sizes_take (l : List Tm) (i : Nat) (h : i < l.length) : sizes (l.take (i + 1)) = sizes (l.take i) + size l[i] := by
  rw [List.take_succ_eq_append_getElem h, sizes_append]; simp [sizes]
theorem fulls_take (l : List Tm) (i : Nat) (h : i < l.length) : fulls (l.take (i + 1)) = fulls (l.take i) + full l[i] := by
  rw [List.take_succ_eq_append_getElem h, fulls_append]; simp [fulls]
theorem depths_take (l : List Tm) (i : Nat) (h : i < l.length) : depths (l.take (i + 1)) = max (depths (l.take i)) (depth l[i]) := by
  rw [List.take_succ_eq_append_getElem h, depths_append]; simp [depths]
theorem size_pos (t : Tm) : 1 ≤ t.size := by cases t; simp [size]
theorem depth_pos (t : Tm) : 1 ≤ t.depth := by cases t; simp [depth]
theorem full_pos (t : Tm) : 1 ≤ t.full := by cases t; simp [full]
theorem sizes_take_le (l : List Tm) (i : Nat) : sizes (l.take i) ≤ sizes l := by
  conv => rhs; rw [← List.take_append_drop i l]
  rw [sizes_append]; omega
theorem fulls_take_le (l : List Tm) (i : Nat) : fulls (l.take i) ≤ fulls l := by
  conv => rhs; rw [← List.take_append_drop i l]
  rw [fulls_append]; omega
theorem depths_take_le (l : List Tm) (i : Nat) : depths (l.take i) ≤ depths l := by
  conv => rhs; rw [← List.take_append_drop i l]
  rw [depths_append]; omega
theorem len_sizes (l : List Tm) : l.length ≤ sizes l := by
  induction l with
  | nil => simp [sizes]
  | cons t l ih => have := size_pos t; simp [sizes]; omega
theorem len_fulls (l : List Tm) : l.length ≤ fulls l := by
  induction l with
  | nil => simp [fulls]
  | cons t l ih => have := full_pos t; simp [fulls]; omega
theorem size_mem {l : List Tm} {t : Tm} (h : t ∈ l) : t.size ≤ sizes l := by
  induction l with
  | nil => cases h
  | cons u l ih =>
    simp only [sizes]
    rcases List.mem_cons.1 h with rfl | h
    · omega
    · have := ih h; omega
theorem full_mem {l : List Tm} {t : Tm} (h : t ∈ l) : t.full ≤ fulls l := by
  induction l with
  | nil => cases h
  | cons u l ih =>
    simp only [fulls]
    rcases List.mem_cons.1 h with rfl | h
    · omega
    · have := ih h; omega
theorem depth_mem {l : List Tm} {t : Tm} (h : t ∈ l) : t.depth ≤ depths l := by
  induction l with
  | nil => cases h
  | cons u l ih =>
    simp only [depths]
    rcases List.mem_cons.1 h with rfl | h
    · omega
    · have := ih h; omega
theorem size_le_full (t : Tm) : t.size ≤ t.full := by
  induction t using Tm.ind with
  | h b k i a ih =>
    have : ∀ l : List Tm, (∀ t ∈ l, t.size ≤ t.full) → sizes l ≤ fulls l := by
      intro l
      induction l with
      | nil => intro _; simp [sizes]
      | cons t l ih2 => intro h; have := ih2 (fun t ht => h t (by simp [ht])); have := h t (by simp); simp [sizes, fulls]; omega
    have := this a ih
    rw [size_eq, full_eq]; omega
theorem depth_le_size (t : Tm) : t.depth ≤ t.size := by
  induction t using Tm.ind with
  | h b k i a ih =>
    have : ∀ l : List Tm, (∀ t ∈ l, t.depth ≤ t.size) → depths l ≤ sizes l := by
      intro l
      induction l with
      | nil => intro _; simp [depths]
      | cons t l ih2 => intro h; have := ih2 (fun t ht => h t (by simp [ht])); have := h t (by simp); simp [sizes, depths]; omega
    have := this a ih
    rw [size_eq, depth_eq]; omega
end Tm

/-- the four cells that hold a term; all its memory lies in blocks of F -/
inductive IsTm (F : Nat → Prop) (w : World) : Value → Value → Value → Value → Tm → Prop where
  | mk (bv : Value) (k i : Int) (a : Option Addr) (n c : Nat) (binds : List Ty) (args : List Tm) (bl off : Nat) (PA A : Nat → Option Addr) (PN PC N C : Nat → Nat) (K I : Nat → Int)
      (hb : IsSl rpTy F w bv binds) (hn : args.length = n) (hm : n ≤ maxLen ∧ n ≤ c) (ha : 0 < n → a = some ⟨bl, off, none⟩ ∧ F bl)
      (h1 : ∀ i, i < n → w.cell? ⟨bl, off + i * 4, none⟩ = some (.slice (PA i) (PN i) (PC i)))
      (h2 : ∀ i, i < n → w.cell? ⟨bl, off + i * 4 + 1, none⟩ = some (.int .i64 (K i)))
      (h3 : ∀ i, i < n → w.cell? ⟨bl, off + i * 4 + 2, none⟩ = some (.int .i64 (I i)))
      (h4 : ∀ i, i < n → w.cell? ⟨bl, off + i * 4 + 3, none⟩ = some (.slice (A i) (N i) (C i)))
      (h5 : ∀ i (h : i < args.length), IsTm F w (.slice (PA i) (PN i) (PC i)) (.int .i64 (K i)) (.int .i64 (I i)) (.slice (A i) (N i) (C i)) args[i]) :
      IsTm F w bv (.int .i64 k) (.int .i64 i) (.slice a n c) (.mk binds k i args)

theorem IsTm.keep {F : Nat → Prop} {w w' : World} {b k i a : Value} {t : Tm} (h : IsTm F w b k i a t) (hw : Keep F w w') : IsTm F w' b k i a t := by
  induction h with
  | mk bv k i a n c binds args bl off PA A PN PC N C K I hb hn hm ha h1 h2 h3 h4 h5 ih =>
    exact IsTm.mk bv k i a n c binds args bl off PA A PN PC N C K I (hb.keep hw) hn hm ha (fun i hi => hw _ _ _ (ha (by omega)).2 (h1 i hi)) (fun i hi => hw _ _ _ (ha (by omega)).2 (h2 i hi)) (fun i hi => hw _ _ _ (ha (by omega)).2 (h3 i hi)) (fun i hi => hw _ _ _ (ha (by omega)).2 (h4 i hi)) ih
theorem IsTm.weaken {F F' : Nat → Prop} {w : World} {b k i a : Value} {t : Tm} (h : IsTm F w b k i a t) (hF : ∀ k, k < w.heap.size → F k → F' k) : IsTm F' w b k i a t := by
  induction h with
  | mk bv k i a n c binds args bl off PA A PN PC N C K I hb hn hm ha h1 h2 h3 h4 h5 ih =>
    exact IsTm.mk bv k i a n c binds args bl off PA A PN PC N C K I (hb.weaken (by decide) hF) hn hm (fun h => ⟨(ha h).1, hF _ (Keep.lt (h1 0 h)) (ha h).2⟩) h1 h2 h3 h4 ih
theorem IsSl.shape {α : Type} {r : Rp α} {F : Nat → Prop} {w : World} {v : Value} {l : List α} (h : IsSl r F w v l) : ∃ a c, v = .slice a l.length c := by
  obtain ⟨a, c, _, _, _, hv, _⟩ := h
  exact ⟨a, c, hv⟩
theorem IsTm.shape {F : Nat → Prop} {w : World} {b k i a : Value} {t : Tm} (h : IsTm F w b k i a t) : ∃ pa pc qa qc, b = .slice pa t.binds.length pc ∧ k = .int .i64 t.kind ∧ i = .int .i64 t.index ∧ a = .slice qa t.args.length qc := by
  cases h with
  | mk bv k i a n c binds args bl off PA A PN PC N C K I hb hn =>
    obtain ⟨pa, pc, rfl⟩ := hb.shape
    subst hn
    exact ⟨pa, pc, a, c, rfl, rfl, rfl, rfl⟩
theorem IsTm.one {F : Nat → Prop} {w : World} {b k i a : Value} {t : Tm} (h : IsTm F w b k i a t) : b.oneCell' = true ∧ k.oneCell' = true ∧ i.oneCell' = true ∧ a.oneCell' = true := by
  obtain ⟨pa, pc, qa, qc, rfl, rfl, rfl, rfl⟩ := h.shape
  exact ⟨rfl, rfl, rfl, rfl⟩

def rpTm : Rp Tm where
  n := 4
  R F w x t := ∃ b k i a, x = [b, k, i, a] ∧ IsTm F w b k i a t
  len := by rintro F w x a ⟨b, k, i, a, rfl, _⟩; rfl
  one := by
    rintro F w x a ⟨b, k, i, a, rfl, h⟩ u hu
    have := h.one
    simp at hu
    rcases hu with rfl | rfl | rfl | rfl
    · exact this.1
    · exact this.2.1
    · exact this.2.2.1
    · exact this.2.2.2
  keep := by rintro F w w' x a ⟨b, k, i, a, rfl, h⟩ hk; exact ⟨b, k, i, a, rfl, h.keep hk⟩
  weaken := by rintro F F' w x a ⟨b, k, i, a, rfl, h⟩ hk; exact ⟨b, k, i, a, rfl, h.weaken hk⟩

/-- a term is a slice of types, a head and a slice of terms -/
theorem isTm_mk {F : Nat → Prop} {w : World} {bv v : Value} {binds : List Ty} {l : List Tm} (hb : IsSl rpTy F w bv binds) (h : IsSl rpTm F w v l) (k i : Int) : IsTm F w bv (.int .i64 k) (.int .i64 i) v (.mk binds k i l) := by
  obtain ⟨a, c, bl, off, X, rfl, hl, ha, h1, h2⟩ := h
  let PA : Nat → Option Addr := fun i => match (X i).getD 0 default with | .slice a _ _ => a | _ => none
  let PN : Nat → Nat := fun i => match (X i).getD 0 default with | .slice _ n _ => n | _ => 0
  let PC : Nat → Nat := fun i => match (X i).getD 0 default with | .slice _ _ c => c | _ => 0
  let K : Nat → Int := fun i => match (X i).getD 1 default with | .int _ b => b | _ => 0
  let I : Nat → Int := fun i => match (X i).getD 2 default with | .int _ b => b | _ => 0
  let A : Nat → Option Addr := fun i => match (X i).getD 3 default with | .slice a _ _ => a | _ => none
  let N : Nat → Nat := fun i => match (X i).getD 3 default with | .slice _ n _ => n | _ => 0
  let C : Nat → Nat := fun i => match (X i).getD 3 default with | .slice _ _ c => c | _ => 0
  have hx : ∀ i (h : i < l.length), X i = [.slice (PA i) (PN i) (PC i), .int .i64 (K i), .int .i64 (I i), .slice (A i) (N i) (C i)] ∧ IsTm F w (.slice (PA i) (PN i) (PC i)) (.int .i64 (K i)) (.int .i64 (I i)) (.slice (A i) (N i) (C i)) l[i] := fun i hi => by
    obtain ⟨b', k', i', a', hx, ht⟩ := h2 i hi
    obtain ⟨pa, pc, qa, qc, rfl, rfl, rfl, rfl⟩ := ht.shape
    have e1 : PA i = pa := by simp [PA, hx]
    have e2 : PN i = l[i].binds.length := by simp [PN, hx]
    have e3 : PC i = pc := by simp [PC, hx]
    have e4 : K i = l[i].kind := by simp [K, hx]
    have e5 : I i = l[i].index := by simp [I, hx]
    have e6 : A i = qa := by simp [A, hx]
    have e7 : N i = l[i].args.length := by simp [N, hx]
    have e8 : C i = qc := by simp [C, hx]
    rw [e1, e2, e3, e4, e5, e6, e7, e8]; exact ⟨hx, ht⟩
  refine IsTm.mk bv k i a l.length c binds l bl off PA A PN PC N C K I hb rfl hl ha (fun i hi => ?_) (fun i hi => ?_) (fun i hi => ?_) (fun i hi => ?_) (fun i hi => (hx i hi).2)
  · exact h1 i 0 _ hi (by rw [(hx i hi).1]; rfl)
  · exact h1 i 1 _ hi (by rw [(hx i hi).1]; rfl)
  · exact h1 i 2 _ hi (by rw [(hx i hi).1]; rfl)
  · exact h1 i 3 _ hi (by rw [(hx i hi).1]; rfl)
theorem IsTm.inv {F : Nat → Prop} {w : World} {b k i a : Value} {t : Tm} (h : IsTm F w b k i a t) : k = .int .i64 t.kind ∧ i = .int .i64 t.index ∧ IsSl rpTy F w b t.binds ∧ IsSl rpTm F w a t.args := by
  cases h with
  | mk bv k i a n c binds args bl off PA A PN PC N C K I hb hn hm ha h1 h2 h3 h4 h5 =>
    subst hn
    refine ⟨rfl, rfl, hb, a, c, bl, off, fun i => [.slice (PA i) (PN i) (PC i), .int .i64 (K i), .int .i64 (I i), .slice (A i) (N i) (C i)], rfl, hm, ha, fun i j u hi hu => ?_, fun i hi => ⟨_, _, _, _, rfl, h5 i hi⟩⟩
    match j with
    | 0 => simp at hu; subst hu; exact h1 i hi
    | 1 => simp at hu; subst hu; exact h2 i hi
    | 2 => simp at hu; subst hu; exact h3 i hi
    | 3 => simp at hu; subst hu; exact h4 i hi
    | j + 4 => simp at hu
end Go.Proofs.Ytejpgifofkiofaa

namespace Go.Proofs.Ytejpgifofkiofaa
open Go.RowKit

/-- what 'few' counts -/
def fewOk (t : Ty) (most depth : Int) (r : Int) : Prop :=
  1 ≤ r ∧ r ≤ (most + 1) * (max depth 0 + 1) ∧ ((r ≤ most ∧ r = t.size ∧ (t.depth : Int) ≤ depth) ∨ (most < r ∧ ¬ ((t.size : Int) ≤ most ∧ (t.depth : Int) ≤ depth)))

def FewPost (t : Ty) (most depth : Int) (w : World) (e : Ending) (w' : World) : Prop := ∃ r : Int, fewOk t most depth r ∧ e = .returned (.int .i64 r) ∧ Below w.heap.size w w'

def FewRel (l : List Ty) (most depth : Int) (k : Nat) (r : Int) : Prop :=
  (r ≤ most ∧ r = Ty.sizes (l.take k) + 1 ∧ (Ty.depths (l.take k) : Int) + 1 ≤ depth) ∨ (most < r ∧ ¬ ((Ty.sizes l : Int) + 1 ≤ most ∧ (Ty.depths l : Int) + 1 ≤ depth))

theorem fewRel_start (l : List Ty) (most depth : Int) (hd : 1 ≤ depth) (hm : 1 ≤ most) : FewRel l most depth 0 1 := by
  unfold FewRel
  exact .inl ⟨hm, by simp [Ty.sizes], by simp [Ty.depths]; omega⟩
theorem fewRel_step (l : List Ty) (most depth : Int) (k : Nat) (r r' : Int) (h : FewRel l most depth k r) (hr : r ≤ most) (hk : k < l.length) (h' : fewOk l[k] most (depth - 1) r') (h0 : 1 ≤ r) :
    FewRel l most depth (k + 1) (r + r') := by
  unfold FewRel fewOk at *
  have s1 := Ty.sizes_take l k hk
  have s2 := Ty.depths_take l k hk
  have s3 := Ty.sizes_take_le l (k + 1)
  have s4 := Ty.depths_take_le l (k + 1)
  omega
theorem fewRel_end (l : List Ty) (b : Int) (most depth : Int) (k : Nat) (r : Int) (h : FewRel l most depth k r) (h' : most < r ∨ l.length ≤ k) (h0 : 1 ≤ r) (hb : r ≤ (most + 1) * (max depth 0 + 1)) :
    fewOk (.mk l b) most depth r := by
  unfold FewRel at h
  refine ⟨h0, hb, ?_⟩
  simp only [Ty.size, Ty.depth]
  rcases h' with h' | h'
  · omega
  · rw [List.take_of_length_le h'] at h; omega

set_option maxHeartbeats 400000 in
theorem few_any {F : Nat → Prop} {w0 : World} {s b : Value} {t : Ty} (ht : IsTy F w0 s b t) : ∀ (most depth : Int) (w : World), 1 ≤ most → most ≤ 1000 → depth ≤ 1000 → -1000 ≤ depth →
    Keep F w0 w →
    Calls Try.prog 84 #[.agg #[s, b], .int .i64 most, .int .i64 depth] w (FewPost t most depth w) := by
  induction ht with
  | mk a n c b args bl off A N C B hn hm ha h1 h2 h3 ih =>
  intro most depth w hm0 hm1 hd1 hd0 hw
  unfold maxLen at hm
  by_cases hd : depth ≤ 0
  · go_enter Try.func84, Try.ntmps84
    go_wp2_with fail
    go_ret
    refine ⟨_, ?_, rfl, (Below.refl _ _).alloc (Nat.le_refl _) _⟩
    have := Ty.depth_pos (.mk args b)
    refine ⟨by omega, ?_, .inr ⟨by omega, by omega⟩⟩
    rw [show max depth 0 = 0 from by omega]; omega
  · have hd' : 1 ≤ depth := by omega
    clear h3
    have Hih := Lib.hid ih; clear ih
    have hst := Lib.hid (fewRel_start args most depth hd' hm0)
    have hmul : Hid ((most + 1) * max (depth - 1) 0 + (most + 1) = (most + 1) * (max depth 0) ∧ 0 ≤ (most + 1) * max depth 0 ∧ (most + 1) * max depth 0 ≤ 1001 * 1000 ∧ (most + 1) * (max depth 0 + 1) = (most + 1) * max depth 0 + (most + 1) ∧ (most + 1) * (max (depth - 1) 0 + 1) = (most + 1) * max (depth - 1) 0 + (most + 1)) := by
      refine ⟨?_, Int.mul_nonneg (by omega) (by omega), Int.mul_le_mul (by omega) (by omega) (by omega) (by omega), by rw [Int.mul_add]; omega, by rw [Int.mul_add]; omega⟩
      rw [show max depth 0 = max (depth - 1) 0 + 1 from by omega, Int.mul_add]; omega
    go_enter Try.func84, Try.ntmps84
    go_wp2_with fail
    go_loopw [7, 8] (fun x i wr => ∃ (k : Nat) (r : Int), i = .int .i64 k ∧ x = .int .i64 r ∧ k ≤ n ∧ FewRel args most depth k r ∧ 1 ≤ r ∧ r ≤ most + (most + 1) * (max depth 0) ∧
      Below w.heap.size w wr ∧ wr.heap[w.heap.size]? = some (.cells #[.slice a n c, .int .i64 b] 26)) (fun _ i _ => n - (intOf i).toNat)
    case atStart =>
      have := hmul.out
      exact ⟨0, 1, rfl, rfl, by omega, hst.out, by omega, by omega, (Below.refl _ _).alloc (Nat.le_refl _) _, heap_alloc_new _ _⟩
    case round =>
      obtain ⟨k, r, rfl, rfl, hk, hrel, hr1, hr2, hb, hbox⟩ := hrel
      have c0 : wr.cell? ⟨w.heap.size, 0, none⟩ = some (.slice a n c) := by simp [World.cell?, hbox]
      have hrb : r ≤ 2000000 := by have := hmul.out; omega
      have hsz : w.heap.size < wr.heap.size := lt_of_block hbox
      have Hbox := Lib.hid hbox; clear hbox
      by_cases hlt : k < n
      · obtain ⟨rfl, hF⟩ := ha (by omega)
        have e1 : wr.cell? ⟨bl, off + k * 2, none⟩ = some (.slice (A k) (N k) (C k)) := (hw.below hb) _ _ _ hF (h1 k hlt)
        have e2 : wr.cell? ⟨bl, off + k * 2 + 1, none⟩ = some (.int .i64 (B k)) := (hw.below hb) _ _ _ hF (h2 k hlt)
        by_cases hr : r ≤ most
        · go_wp2_with fail
          refine (Hih.out k (by omega) most (depth - 1) wr hm0 hm1 (by omega) (by omega) (hw.below hb)).mono ?_
          rintro e w1 ⟨r', hf, rfl, hb1⟩
          have hr' : 1 ≤ r' ∧ r' ≤ 3000000 := by have := hmul.out; have := hf.1; have := hf.2.1; omega
          go_wp2_with fail
          go_roundw
          case rel =>
            have := hmul.out; have := hf.2.1
            exact ⟨k + 1, r + r', by go_num, rfl, by omega, fewRel_step _ _ _ _ _ _ hrel hr (by omega) hf hr1, by omega, by omega, hb.trans (hb1.mono (by omega)), by rw [hb1.block _ hsz]; exact Hbox.out⟩
          case measure => simp [intOf]; omega
        · have hend := Lib.hid (fewRel_end args b most depth k r hrel (.inl (by omega)) hr1 (by have := hmul.out; omega))
          go_wp2_with fail
          go_ret
          exact ⟨r, hend.out, rfl, hb⟩
      · have hend := Lib.hid (fewRel_end args b most depth k r hrel (.inr (by omega)) hr1 (by have := hmul.out; omega))
        go_wp2_with fail
        go_ret
        exact ⟨r, hend.out, rfl, hb⟩
end Go.Proofs.Ytejpgifofkiofaa

namespace Go.Proofs.Ytejpgifofkiofaa

section
variable {P : Program} {ops : Array Oper} {Q : Exit → Act → World → Prop} {md : Region.Mode} {S : World → Prop}

/-- behind which operations S is asked: behind all but stores and assignments -/
def asksS (ops : Array Oper) (j : Nat) : Bool := match ops[j]? with
  | none => true
  | some o => match o.op with
    | .store .. => false
    | .assign _ => false
    | _ => true

def wpN (P : Program) (md : Region.Mode) (ops : Array Oper) (Q : Exit → Act → World → Prop) (S : World → Prop) : Nat → Array Bool → Act → World → Prop
  | 0, listed, a, w => Region.ready md ops listed = [] ∧ Q .normal a w
  | n + 1, listed, a, w =>
    (Region.ready md ops listed = [] → Q .normal a w) ∧
    ∀ i ∈ Region.ready md ops listed, wpOp P ops Q i (fun a' w' => (asksS ops i = true → S w → S w') ∧ wpN P md ops Q S n (listed.setIfInBounds i true) a' w') a w

theorem wpN_any : ∀ (n : Nat) (listed : Array Bool) (a : Act) (w : World), wpN P md ops Q S n listed a w → wpAny P md ops Q n listed a w
  | 0, _, _, _, h => h
  | n + 1, _, _, _, h => ⟨h.1, fun i hi => wpOp_mono (fun a' w' hh => wpN_any n _ a' w' hh.2) (h.2 i hi)⟩

/-- every operation behind which S is not asked waits for number i, or has come up -/
def lateOk (md : Region.Mode) (ops : Array Oper) (listed : Array Bool) (i : Nat) : Bool :=
  (List.range ops.size).all fun j => asksS ops j || j == i || listed.getD j true || match ops[j]? with
    | some oj => oj.after.any (fun e => Region.binds md e && e.on == i)
    | none => true

theorem lateOk_spec {i : Nat} {listed : Array Bool} (h : lateOk md ops listed i = true) (j : Nat) (oj : Oper) (hj : ops[j]? = some oj) (hne : j ≠ i) (hun : listed.getD j true = false)
    (hno : ∀ e ∈ oj.after, Region.binds md e = true → e.on ≠ i) : asksS ops j = true := by
  simp only [lateOk, List.all_eq_true, List.mem_range] at h
  have h1 := h j (Array.getElem?_eq_some_iff.1 hj).1
  simp only [hj, Bool.or_eq_true, beq_iff_eq, hne, hun, or_false, Bool.false_eq_true] at h1
  rcases h1 with h1 | h1
  · exact h1
  · obtain ⟨e, he, hb⟩ := Array.any_eq_true'.1 h1
    simp only [Bool.and_eq_true, beq_iff_eq] at hb
    exact absurd hb.2 (hno e he hb.1)

theorem wpN_first {i : Nat} {oi : Oper} {v : Value} (hi : ops[i]? = some oi) (hsel : ∀ (j : Nat) (o : Oper) cs b, ops[j]? = some o → o.op ≠ .select cs b)
    (hQ : ∀ c a w, Q (.panic c) (a.put oi.dst v) w → Q (.panic c) a w) (hai : asksS ops i = true) :
    ∀ (n : Nat) (listed : Array Bool) (a : Act) (w : World),
      (∀ j oj, ops[j]? = some oj → j ≠ i → listed.getD j true = false → (∀ e ∈ oj.after, Region.binds md e = true → e.on ≠ i) → oi.apart ops oj = true ∧ asksS ops j = true) →
      i ∈ Region.ready md ops listed → YieldsIf P ops S oi v a → S w →
      wpN P md ops Q S n (listed.setIfInBounds i true) (a.put oi.dst v) w → wpN P md ops Q S (n + 1) listed a w := by
  intro n
  induction n with
  | zero =>
    intro listed a w _ hr hy hS H
    refine ⟨fun h0 => (by rw [h0] at hr; cases hr), fun j hj => ?_⟩
    by_cases hji : j = i
    · subst hji; exact hy.wpOp hi hS ⟨fun _ h => h, H⟩
    · have h0 := ready_mono hj hji
      rw [H.1] at h0; cases h0
  | succ n ih =>
    intro listed a w hfree hr hy hS H
    refine ⟨fun h0 => (by rw [h0] at hr; cases hr), fun j hj => ?_⟩
    by_cases hji : j = i
    · subst hji; exact hy.wpOp hi hS ⟨fun _ h => h, H⟩
    · have hrest := H.2 j (ready_mono hj hji)
      obtain ⟨hjun, oj, hoj, hall⟩ := mem_ready.1 hj
      have hiun := (mem_ready.1 hr).1
      have hnot : ∀ e ∈ oj.after, Region.binds md e = true → e.on ≠ i := fun e he hb heq => by
        have hl := hall e he hb
        rw [heq] at hl
        rcases Nat.lt_or_ge i listed.size with hlt | hge
        · simp [hlt] at hiun hl; rw [hiun] at hl; cases hl
        · simp [Array.getElem?_eq_none hge] at hl
      obtain ⟨hap, haj⟩ := hfree j oj hoj hji hjun hnot
      have hput := wpOp_putIf hoj hap (fun cs b => hsel i oi cs b hi) (fun cs b => hsel j oj cs b hoj) hQ hy hrest
      refine wpOp_mono (fun a' w' hh => ?_) hput
      obtain ⟨hy', hSw, hw⟩ := hh
      refine ⟨hSw, ih (listed.setIfInBounds j true) a' w' ?_ (ready_mono hr (Ne.symm hji)) hy' (hSw haj hS) ?_⟩
      · intro k ok hk hki hun hno
        refine hfree k ok hk hki ?_ hno
        by_cases hjk : j = k
        · subst hjk; exact hjun
        · rw [getD_set_ne true hjk] at hun; exact hun
      · rw [Array.setIfInBounds_comm _ _ hji]; exact hw

/-- number i is taken now -/
theorem wpN_take {i : Nat} {oi : Oper} {v : Value} {n : Nat} {listed : Array Bool} {a : Act} {w : World} (hi : ops[i]? = some oi)
    (hs : (Region.noSelect ops && Region.free md ops listed i && (Region.ready md ops listed).contains i && asksS ops i && lateOk md ops listed i) = true)
    (hQ : ∀ c a w, Q (.panic c) (a.put oi.dst v) w → Q (.panic c) a w) (hS : S w) (hy : YieldsIf P ops S oi v a)
    (h : wpN P md ops Q S n (listed.setIfInBounds i true) (a.put oi.dst v) w) : wpN P md ops Q S (n + 1) listed a w := by
  simp only [Bool.and_eq_true] at hs
  obtain ⟨⟨⟨⟨h1, h2⟩, h3⟩, h4⟩, h5⟩ := hs
  exact wpN_first hi (Region.noSelect_spec h1) hQ h4 n listed a w (fun j oj hj hne hun hno => ⟨Region.free_spec hi h2 j oj hj hne hun hno, lateOk_spec h5 j oj hj hne hun hno⟩) (by simpa using h3) hy hS h

theorem wpN_pureF {i : Nat} {oi : Oper} {v : Value} (hi : ops[i]? = some oi) (hsel : ∀ (j : Nat) (o : Oper) cs b, ops[j]? = some o → o.op ≠ .select cs b)
    (hQ : ∀ c a w, Q (.panic c) (a.put oi.dst v) w → Q (.panic c) a w) :
    ∀ (n : Nat) (listed : Array Bool) (a : Act) (w : World),
      (∀ j oj, ops[j]? = some oj → j ≠ i → listed.getD j true = false → (∀ e ∈ oj.after, Region.binds md e = true → e.on ≠ i) → oi.apart ops oj = true) →
      i ∈ Region.ready md ops listed → YieldsIf P ops (fun _ => True) oi v a →
      wpN P md ops Q S n (listed.setIfInBounds i true) (a.put oi.dst v) w → wpN P md ops Q S (n + 1) listed a w := by
  intro n
  induction n with
  | zero =>
    intro listed a w _ hr hy H
    refine ⟨fun h0 => (by rw [h0] at hr; cases hr), fun j hj => ?_⟩
    by_cases hji : j = i
    · subst hji; exact hy.wpOp hi trivial ⟨fun _ h => h, H⟩
    · have h0 := ready_mono hj hji
      rw [H.1] at h0; cases h0
  | succ n ih =>
    intro listed a w hfree hr hy H
    refine ⟨fun h0 => (by rw [h0] at hr; cases hr), fun j hj => ?_⟩
    by_cases hji : j = i
    · subst hji; exact hy.wpOp hi trivial ⟨fun _ h => h, H⟩
    · have hrest := H.2 j (ready_mono hj hji)
      obtain ⟨hjun, oj, hoj, hall⟩ := mem_ready.1 hj
      have hiun := (mem_ready.1 hr).1
      have hnot : ∀ e ∈ oj.after, Region.binds md e = true → e.on ≠ i := fun e he hb heq => by
        have hl := hall e he hb
        rw [heq] at hl
        rcases Nat.lt_or_ge i listed.size with hlt | hge
        · simp [hlt] at hiun hl; rw [hiun] at hl; cases hl
        · simp [Array.getElem?_eq_none hge] at hl
      have hap := hfree j oj hoj hji hjun hnot
      have hput := wpOp_putIf hoj hap (fun cs b => hsel i oi cs b hi) (fun cs b => hsel j oj cs b hoj) hQ hy hrest
      refine wpOp_mono (fun a' w' hh => ?_) hput
      obtain ⟨hy', hSw, hw⟩ := hh
      refine ⟨hSw, ih (listed.setIfInBounds j true) a' w' ?_ (ready_mono hr (Ne.symm hji)) hy' ?_⟩
      · intro k ok hk hki hun hno
        refine hfree k ok hk hki ?_ hno
        by_cases hjk : j = k
        · subst hjk; exact hjun
        · rw [getD_set_ne true hjk] at hun; exact hun
      · rw [Array.setIfInBounds_comm _ _ hji]; exact hw
/-- number i, which asks nothing of memory, is taken now, whatever stores may come ahead of it -/
theorem wpN_pure {i : Nat} {oi : Oper} {v : Value} {n : Nat} {listed : Array Bool} {a : Act} {w : World} (hi : ops[i]? = some oi)
    (hs : (Region.noSelect ops && Region.free md ops listed i && (Region.ready md ops listed).contains i) = true)
    (hQ : ∀ c a w, Q (.panic c) (a.put oi.dst v) w → Q (.panic c) a w) (hy : YieldsIf P ops (fun _ => True) oi v a)
    (h : wpN P md ops Q S n (listed.setIfInBounds i true) (a.put oi.dst v) w) : wpN P md ops Q S (n + 1) listed a w := by
  simp only [Bool.and_eq_true] at hs
  obtain ⟨⟨h1, h2⟩, h3⟩ := hs
  exact wpN_pureF hi (Region.noSelect_spec h1) hQ n listed a w (fun j oj hj hne hun hno => Region.free_spec hi h2 j oj hj hne hun hno) (by simpa using h3) hy h

/-- number i alone can come up now -/
theorem wpN_step {i : Nat} {oi : Oper} {n : Nat} {listed : Array Bool} {a : Act} {w : World} (hr : Region.ready md ops listed = [i]) (hi : ops[i]? = some oi)
    (h : ∀ K : Act → World → Prop, Shut (∀ a w, (asksS ops i = true → S w) → wpN P md ops Q S n (listed.setIfInBounds i true) a w → K a w) → if Region.wanted oi (yielded ops a.tmps) = true then Oper.wp P oi a w K Q else K (a.put oi.dst undef) w) :
    wpN P md ops Q S (n + 1) listed a w := by
  refine ⟨fun h0 => (by rw [hr] at h0; cases h0), fun j hj => ?_⟩
  rw [hr] at hj
  have : j = i := by simpa using hj
  subst this
  exact wpOp_step hi (fun K hK => h K (fun a w h1 h2 => hK a w ⟨fun ha _ => h1 ha, h2⟩))

/-- all have come up -/
theorem wpN_done {n : Nat} {listed : Array Bool} {a : Act} {w : World} (hr : Region.ready md ops listed = []) (h : Q .normal a w) : wpN P md ops Q S n listed a w := by
  cases n with
  | zero => exact ⟨hr, h⟩
  | succ n => exact ⟨fun _ => h, fun i hi => by rw [hr] at hi; cases hi⟩

theorem wp_region_need {id : Nat} {a : Act} {w : World} (hm : P.follows .mixedOrders = true) (h : wpN P .any ops Q S ops.size (Array.replicate ops.size false) a w.drew) : (Code.region id ops true).wp P Q a w :=
  wp_region_any hm (wpN_any _ _ _ _ h)
end
end Go.Proofs.Ytejpgifofkiofaa

namespace Go.Proofs.Ytejpgifofkiofaa
open Go.RowKit

def RetI (n : Int) (w : World) (e : Ending) (w' : World) : Prop := e = .returned (.int .i64 n) ∧ Below w.heap.size w w'
def RetB (p : Prop) (w : World) (e : Ending) (w' : World) : Prop := ∃ b : Bool, (b = true ↔ p) ∧ e = .returned (.bool b) ∧ Below w.heap.size w w'

theorem no_of {p : Prop} (h : false = true ↔ p) : ¬ p := fun hp => by simpa using h.2 hp
theorem yes_of {p : Prop} (h : true = true ↔ p) : p := h.1 rfl

namespace Ty
mutual
/-- how high a type's functions are -/
def order : Ty → Nat
  | .mk a _ => orders a
def orders : List Ty → Nat
  | [] => 0
  | t :: l => max (order t + 1) (orders l)
end
theorem orders_append (l r : List Ty) : orders (l ++ r) = max (orders l) (orders r) := by
  induction l with
  | nil => simp [orders]
  | cons t l ih => simp [orders, ih]
theorem orders_take (l : List Ty) (i : Nat) (h : i < l.length) : orders (l.take (i + 1)) = max (orders (l.take i)) (order l[i] + 1) := by
  rw [List.take_succ_eq_append_getElem h, orders_append]; simp [orders]
theorem orders_take_le (l : List Ty) (i : Nat) : orders (l.take i) ≤ orders l := by
  conv => rhs; rw [← List.take_append_drop i l]
  rw [orders_append]; omega
theorem order_le_depth (t : Ty) : t.order < t.depth := by
  induction t using Ty.ind with
  | h args base ih =>
    simp only [order, depth]
    have : ∀ l : List Ty, (∀ t ∈ l, t.order < t.depth) → orders l ≤ depths l := by
      intro l
      induction l with
      | nil => intro _; simp [orders]
      | cons t l ih2 => intro h; have := ih2 (fun t ht => h t (by simp [ht])); have := h t (by simp); simp [orders, depths]; omega
    have := this args ih; omega
theorem depth_le_size (t : Ty) : t.depth ≤ t.size := by
  induction t using Ty.ind with
  | h args base ih =>
    simp only [size, depth]
    have : ∀ l : List Ty, (∀ t ∈ l, t.depth ≤ t.size) → depths l ≤ sizes l := by
      intro l
      induction l with
      | nil => intro _; simp [depths]
      | cons t l ih2 => intro h; have := ih2 (fun t ht => h t (by simp [ht])); have := h t (by simp); simp [sizes, depths]; omega
    have := this args ih; omega
theorem size_eq (l : List Ty) (b : Int) : (mk l b).size = sizes l + 1 := by simp [size]
theorem depth_eq (l : List Ty) (b : Int) : (mk l b).depth = depths l + 1 := by simp [depth]
theorem order_eq (l : List Ty) (b : Int) : (mk l b).order = orders l := by simp [order]

/-- are all bases such? -/
inductive Low (bases : Int) : Ty → Prop where
  | mk (l : List Ty) (b : Int) (h0 : 0 ≤ b) (h1 : b < bases) (h : ∀ t ∈ l, Low bases t) : Low bases (.mk l b)
theorem low_iff {bases : Int} {l : List Ty} {b : Int} : Low bases (.mk l b) ↔ 0 ≤ b ∧ b < bases ∧ ∀ t ∈ l, Low bases t :=
  ⟨fun h => by cases h with | mk _ _ h0 h1 h => exact ⟨h0, h1, h⟩, fun ⟨h0, h1, h⟩ => .mk _ _ h0 h1 h⟩
theorem forall_take_succ {p : Ty → Prop} {l : List Ty} {k : Nat} (hk : k < l.length) (h : ∀ t ∈ l.take k, p t) (h' : p l[k]) : ∀ t ∈ l.take (k + 1), p t := by
  intro t ht
  rw [List.take_succ_eq_append_getElem hk] at ht
  rcases List.mem_append.1 ht with ht | ht
  · exact h t ht
  · simp at ht; subst ht; exact h'
end Ty

set_option maxHeartbeats 400000 in
theorem size_r {F : Nat → Prop} {w0 : World} {s b : Value} {t : Ty} (ht : IsTy F w0 s b t) : ∀ w : World, t.size ≤ 1000000 → Keep F w0 w →
    Calls Try.prog 35 #[.agg #[s, b]] w (RetI t.size w) := by
  induction ht with
  | mk a n c b args bl off A N C B hn hm ha h1 h2 h3 ih =>
  intro w hsz hw
  clear h3 hm
  subst hn
  have hlen : args.length ≤ 1000000 := by have := Ty.length_lt (l := args) (b := b); omega
  have Hsz : Hid (∀ i (h : i < args.length), args[i].size ≤ 1000000 ∧ Ty.sizes (args.take i) + args[i].size ≤ 1000000) := fun i h => by
    have := Ty.sizes_take args i h; have := Ty.sizes_take_le args (i + 1); rw [Ty.size_eq] at hsz; omega
  have Hend : Hid ((Ty.mk args b).size = Ty.sizes args + 1) := Ty.size_eq _ _
  have Hih := Lib.hid ih; clear ih hsz
  go_enter Try.func35, Try.ntmps35
  go_wp2_with fail
  go_loopw [3, 4] (fun x i wr => ∃ k : Nat, i = .int .i64 k ∧ x = .int .i64 ((Ty.sizes (args.take k) : Int) + 1) ∧ k ≤ args.length ∧ Below w.heap.size w wr ∧ Blk wr w.heap.size #[.slice a args.length c, .int .i64 b] 26) (fun _ i _ => args.length - (intOf i).toNat)
  case atStart => exact ⟨0, rfl, rfl, by omega, (Below.refl _ _).alloc (Nat.le_refl _) _, Blk.new _ _ _ rfl⟩
  case round =>
    obtain ⟨k, rfl, rfl, hk, hb, hbox⟩ := hrel
    have c0 : wr.cell? ⟨w.heap.size, 0, none⟩ = some (.slice a args.length c) := hbox.cell rfl
    have hlt0 := hbox.lt
    by_cases hlt : k < args.length
    · obtain ⟨rfl, hF⟩ := ha (by omega)
      have e1 : wr.cell? ⟨bl, off + k * 2, none⟩ = some (.slice (A k) (N k) (C k)) := (hw.below hb) _ _ _ hF (h1 k hlt)
      have e2 : wr.cell? ⟨bl, off + k * 2 + 1, none⟩ = some (.int .i64 (B k)) := (hw.below hb) _ _ _ hF (h2 k hlt)
      have hs : Ty.sizes (args.take k) ≤ 1000000 ∧ args[k].size ≤ 1000000 := by have := Hsz.out k hlt; omega
      go_wp2_with fail
      refine (Hih.out k hlt _ (Hsz.out k hlt).1 (hw.below hb)).mono ?_
      rintro e w1 ⟨rfl, hb1⟩
      go_wp2_with fail
      go_roundw
      case rel => exact ⟨k + 1, by go_num, by rw [Ty.sizes_take _ _ hlt]; go_num, by omega, hb.trans (hb1.mono (by omega)), hbox.below hb1⟩
      case measure => simp [intOf]; omega
    · go_wp2_with fail
      go_ret
      refine ⟨?_, hb⟩
      rw [Hend.out, List.take_of_length_le (by omega)]; rfl

set_option maxHeartbeats 400000 in
theorem order_r {F : Nat → Prop} {w0 : World} {s b : Value} {t : Ty} (ht : IsTy F w0 s b t) : ∀ w : World, t.size ≤ 1000000 → Keep F w0 w →
    Calls Try.prog 37 #[.agg #[s, b]] w (RetI t.order w) := by
  induction ht with
  | mk a n c b args bl off A N C B hn hm ha h1 h2 h3 ih =>
  intro w hsz hw
  clear h3 hm
  subst hn
  have hlen : args.length ≤ 1000000 := by have := Ty.length_lt (l := args) (b := b); omega
  have Hsz : Hid (∀ i (h : i < args.length), args[i].size ≤ 1000000 ∧ args[i].depth ≤ 1000000 ∧ args[i].order ≤ 1000000) := fun i h => by
    have := Ty.size_get (b := b) i h; have := Ty.depth_le_size args[i]; have := Ty.order_le_depth args[i]; omega
  have Hall : Hid (Ty.depths args ≤ 1000000 ∧ Ty.orders args ≤ 1000000) := by
    have := Ty.depth_le_size (.mk args b); have := Ty.order_le_depth (.mk args b); rw [Ty.depth_eq, Ty.order_eq] at *; exact ⟨by omega, by omega⟩
  have Hend : Hid ((Ty.mk args b).order = Ty.orders args + 0) := by show _ = _; first | exact Ty.depth_eq _ _ | exact Ty.order_eq _ _
  have Hih := Lib.hid ih; clear ih hsz
  go_enter Try.func37, Try.ntmps37
  go_wp2_with fail
  go_loopw [3, 4, 5] (fun x i y wr => ∃ k : Nat, i = .int .i64 k ∧ x = .int .i64 ((Ty.orders (args.take k) : Int) + -1) ∧ k ≤ args.length ∧ Below w.heap.size w wr ∧ Blk wr w.heap.size #[.slice a args.length c, .int .i64 b] 26) (fun _ i _ _ => args.length - (intOf i).toNat)
  case atStart => exact ⟨0, rfl, rfl, by omega, (Below.refl _ _).alloc (Nat.le_refl _) _, Blk.new _ _ _ rfl⟩
  case round =>
    obtain ⟨k, rfl, rfl, hk, hb, hbox⟩ := hrel
    have c0 : wr.cell? ⟨w.heap.size, 0, none⟩ = some (.slice a args.length c) := hbox.cell rfl
    have hlt0 := hbox.lt
    have hs2 : Ty.orders (args.take k) ≤ 1000000 := by have := Hall.out; have := Ty.orders_take_le args k; omega
    by_cases hlt : k < args.length
    · obtain ⟨rfl, hF⟩ := ha (by omega)
      have e1 : wr.cell? ⟨bl, off + k * 2, none⟩ = some (.slice (A k) (N k) (C k)) := (hw.below hb) _ _ _ hF (h1 k hlt)
      have e2 : wr.cell? ⟨bl, off + k * 2 + 1, none⟩ = some (.int .i64 (B k)) := (hw.below hb) _ _ _ hF (h2 k hlt)
      have hs := (Hsz.out k hlt).2
      go_wp2_with fail
      refine (Hih.out k hlt _ (Hsz.out k hlt).1 (hw.below hb)).mono ?_
      rintro e w1 ⟨rfl, hb1⟩
      go_wp2_with fail
      all_goals
        go_roundw
        case rel => exact ⟨k + 1, by go_num, by rw [Ty.orders_take _ _ hlt]; first | go_num | (congr 1; omega), by omega, hb.trans (hb1.mono (by omega)), hbox.below hb1⟩
        case measure => simp [intOf]; omega
    · go_wp2_with fail
      go_ret
      refine ⟨?_, hb⟩
      rw [Hend.out, List.take_of_length_le (by omega)]; first | rfl | go_num
set_option maxHeartbeats 400000 in
theorem depth_r {F : Nat → Prop} {w0 : World} {s b : Value} {t : Ty} (ht : IsTy F w0 s b t) : ∀ w : World, t.size ≤ 1000000 → Keep F w0 w →
    Calls Try.prog 39 #[.agg #[s, b]] w (RetI t.depth w) := by
  induction ht with
  | mk a n c b args bl off A N C B hn hm ha h1 h2 h3 ih =>
  intro w hsz hw
  clear h3 hm
  subst hn
  have hlen : args.length ≤ 1000000 := by have := Ty.length_lt (l := args) (b := b); omega
  have Hsz : Hid (∀ i (h : i < args.length), args[i].size ≤ 1000000 ∧ args[i].depth ≤ 1000000 ∧ args[i].order ≤ 1000000) := fun i h => by
    have := Ty.size_get (b := b) i h; have := Ty.depth_le_size args[i]; have := Ty.order_le_depth args[i]; omega
  have Hall : Hid (Ty.depths args ≤ 1000000 ∧ Ty.orders args ≤ 1000000) := by
    have := Ty.depth_le_size (.mk args b); have := Ty.order_le_depth (.mk args b); rw [Ty.depth_eq, Ty.order_eq] at *; exact ⟨by omega, by omega⟩
  have Hend : Hid ((Ty.mk args b).depth = Ty.depths args + 1) := by show _ = _; first | exact Ty.depth_eq _ _ | exact Ty.order_eq _ _
  have Hih := Lib.hid ih; clear ih hsz
  go_enter Try.func39, Try.ntmps39
  go_wp2_with fail
  go_loopw [3, 4, 5] (fun x i y wr => ∃ k : Nat, i = .int .i64 k ∧ x = .int .i64 ((Ty.depths (args.take k) : Int) + 0) ∧ k ≤ args.length ∧ Below w.heap.size w wr ∧ Blk wr w.heap.size #[.slice a args.length c, .int .i64 b] 26) (fun _ i _ _ => args.length - (intOf i).toNat)
  case atStart => exact ⟨0, rfl, rfl, by omega, (Below.refl _ _).alloc (Nat.le_refl _) _, Blk.new _ _ _ rfl⟩
  case round =>
    obtain ⟨k, rfl, rfl, hk, hb, hbox⟩ := hrel
    have c0 : wr.cell? ⟨w.heap.size, 0, none⟩ = some (.slice a args.length c) := hbox.cell rfl
    have hlt0 := hbox.lt
    have hs2 : Ty.depths (args.take k) ≤ 1000000 := by have := Hall.out; have := Ty.depths_take_le args k; omega
    by_cases hlt : k < args.length
    · obtain ⟨rfl, hF⟩ := ha (by omega)
      have e1 : wr.cell? ⟨bl, off + k * 2, none⟩ = some (.slice (A k) (N k) (C k)) := (hw.below hb) _ _ _ hF (h1 k hlt)
      have e2 : wr.cell? ⟨bl, off + k * 2 + 1, none⟩ = some (.int .i64 (B k)) := (hw.below hb) _ _ _ hF (h2 k hlt)
      have hs := (Hsz.out k hlt).2
      go_wp2_with fail
      refine (Hih.out k hlt _ (Hsz.out k hlt).1 (hw.below hb)).mono ?_
      rintro e w1 ⟨rfl, hb1⟩
      go_wp2_with fail
      all_goals
        go_roundw
        case rel => exact ⟨k + 1, by go_num, by rw [Ty.depths_take _ _ hlt]; first | go_num | (congr 1; omega), by omega, hb.trans (hb1.mono (by omega)), hbox.below hb1⟩
        case measure => simp [intOf]; omega
    · go_wp2_with fail
      go_ret
      refine ⟨?_, hb⟩
      rw [Hend.out, List.take_of_length_le (by omega)]; first | rfl | go_num

theorem isTy_len {F : Nat → Prop} {w : World} {s b : Value} {t : Ty} (h : IsTy F w s b t) : t.args.length ≤ maxLen := by
  cases h; simp [Ty.args]; omega

set_option maxHeartbeats 400000 in
theorem Few_any {F : Nat → Prop} {w : World} {s b : Value} {t : Ty} (ht : IsTy F w s b t) (most depth : Int) (hm0 : 1 ≤ most) (hm1 : most ≤ 1000) (hd1 : depth ≤ 1000) (hd0 : -1000 ≤ depth) :
    Calls Try.prog 15 #[.agg #[s, b], .int .i64 most, .int .i64 depth] w (RetB ((t.size : Int) ≤ most ∧ (t.depth : Int) ≤ depth) w) := by
  cases ht with
  | mk a n c b args bl off A N C B hn hm ha h1 h2 h3 =>
  have Ht : Hid (IsTy F w (.slice a n c) (.int .i64 b) (.mk args b)) := IsTy.mk a n c b args bl off A N C B hn hm ha h1 h2 h3
  clear hn hm ha h1 h2 h3
  go_enter Try.func15, Try.ntmps15
  go_wp2_with fail
  refine (few_any Ht.out most depth _ hm0 hm1 hd1 hd0 ((Keep.refl _ _).alloc _)).mono ?_
  rintro e w1 ⟨r, hf, rfl, hb1⟩
  go_wp2_with fail
  go_ret
  refine ⟨decide (r ≤ most), ?_, rfl, ((Below.refl _ _).alloc (Nat.le_refl _) _).trans (hb1.mono (by simp))⟩
  unfold fewOk at hf
  rw [decide_eq_true_iff]
  constructor
  · intro h; omega
  · intro h; omega

set_option maxHeartbeats 400000 in
theorem low_r {F : Nat → Prop} {w0 : World} {s b : Value} {t : Ty} (ht : IsTy F w0 s b t) : ∀ (bases : Int) (w : World), t.size ≤ 1000000 → Keep F w0 w →
    Calls Try.prog 95 #[.agg #[s, b], .int .i64 bases] w (RetB (Ty.Low bases t) w) := by
  induction ht with
  | mk a n c b args bl off A N C B hn hm ha h1 h2 h3 ih =>
  intro bases w hsz hw
  clear h3 hm
  subst hn
  have hlen : args.length ≤ 1000000 := by have := Ty.length_lt (l := args) (b := b); omega
  have Hsz : Hid (∀ i (h : i < args.length), args[i].size ≤ 1000000) := fun i h => by
    have := Ty.size_get (b := b) i h; omega
  have Hlow : Hid (Ty.Low bases (.mk args b) ↔ 0 ≤ b ∧ b < bases ∧ ∀ t ∈ args, Ty.Low bases t) := Ty.low_iff
  have Hih := Lib.hid ih; clear ih hsz
  by_cases hb0 : b < 0
  · skip
    go_enter Try.func95, Try.ntmps95
    go_wp2_with fail
    go_ret
    refine ⟨false, ?_, rfl, (Below.refl _ _).alloc (Nat.le_refl _) _⟩
    rw [Hlow.out]; simp; omega
  by_cases hb1 : bases ≤ b
  · skip
    go_enter Try.func95, Try.ntmps95
    go_wp2_with fail
    go_ret
    refine ⟨false, ?_, rfl, (Below.refl _ _).alloc (Nat.le_refl _) _⟩
    rw [Hlow.out]; simp; omega
  go_enter Try.func95, Try.ntmps95
  go_wp2_with fail
  go_loopw [5] (fun i wr => ∃ k : Nat, i = .int .i64 k ∧ k ≤ args.length ∧ (∀ t ∈ args.take k, Ty.Low bases t) ∧ Below w.heap.size w wr ∧ Blk wr w.heap.size #[.slice a args.length c, .int .i64 b] 26) (fun i _ => args.length - (intOf i).toNat)
  case atStart => exact ⟨0, rfl, by omega, by simp, (Below.refl _ _).alloc (Nat.le_refl _) _, Blk.new _ _ _ rfl⟩
  case round =>
    obtain ⟨k, rfl, hk, hall, hb, hbox⟩ := hrel
    have Hall := Lib.hid hall; clear hall
    have c0 : wr.cell? ⟨w.heap.size, 0, none⟩ = some (.slice a args.length c) := hbox.cell rfl
    have hlt0 := hbox.lt
    by_cases hlt : k < args.length
    · obtain ⟨rfl, hF⟩ := ha (by omega)
      have e1 : wr.cell? ⟨bl, off + k * 2, none⟩ = some (.slice (A k) (N k) (C k)) := (hw.below hb) _ _ _ hF (h1 k hlt)
      have e2 : wr.cell? ⟨bl, off + k * 2 + 1, none⟩ = some (.int .i64 (B k)) := (hw.below hb) _ _ _ hF (h2 k hlt)
      go_wp2_with fail
      refine (Hih.out k hlt _ _ (Hsz.out k hlt) (hw.below hb)).mono ?_
      rintro e w1 ⟨r, hr, rfl, hb2⟩
      cases r
      · have Hr := Lib.hid (no_of hr); clear hr
        go_wp2_with fail
        go_ret
        refine ⟨false, ?_, rfl, hb.trans (hb2.mono (by omega))⟩
        rw [Hlow.out]; simp
        intro _ _
        exact ⟨args[k], List.getElem_mem hlt, Hr.out⟩
      · have Hr := Lib.hid (yes_of hr); clear hr
        go_wp2_with fail
        go_roundw
        case rel => exact ⟨k + 1, by go_num, by omega, Ty.forall_take_succ hlt Hall.out Hr.out, hb.trans (hb2.mono (by omega)), hbox.below hb2⟩
        case measure => simp [intOf]; omega
    · go_wp2_with fail
      go_ret
      refine ⟨true, ?_, rfl, hb⟩
      rw [Hlow.out]; simp
      have h := Hall.out
      rw [List.take_of_length_le (by omega)] at h
      exact ⟨by omega, by omega, h⟩

set_option maxHeartbeats 400000 in
theorem right_r {F : Nat → Prop} {w : World} {s b : Value} {t : Ty} (ht : IsTy F w s b t) (bases : Int) :
    Calls Try.prog 33 #[.agg #[s, b], .int .i64 bases] w (RetB (t.size ≤ 1000 ∧ t.depth ≤ 60 ∧ Ty.Low bases t) w) := by
  cases ht with
  | mk a n c b args bl off A N C B hn hm ha h1 h2 h3 =>
  have Ht : Hid (IsTy F w (.slice a n c) (.int .i64 b) (.mk args b)) := IsTy.mk a n c b args bl off A N C B hn hm ha h1 h2 h3
  clear hn hm ha h1 h2 h3
  go_enter Try.func33, Try.ntmps33
  go_wp2_with fail
  refine (Few_any (Ht.out.keep ((Keep.refl _ _).alloc _)) 1000 60 (by omega) (by omega) (by omega) (by omega)).mono ?_
  rintro e w1 ⟨r, hr, rfl, hb1⟩
  have hB : Below w.heap.size w w1 := ((Below.refl _ _).alloc (Nat.le_refl _) _).trans (hb1.mono (by simp))
  cases r
  · have Hr := Lib.hid (no_of hr); clear hr
    go_wp2_with fail
    go_ret
    refine ⟨false, ?_, rfl, hB⟩
    simp
    intro h1 h2
    exact absurd ⟨by omega, by omega⟩ Hr.out
  · have Hr := Lib.hid (yes_of hr); clear hr
    have c0 := ((Blk.new w #[.slice a n c, .int .i64 b] 26 rfl).below hb1)
    have c1 : w1.cell? ⟨w.heap.size, 0, none⟩ = some (.slice a n c) := c0.cell rfl
    have c2 : w1.cell? ⟨w.heap.size, 1, none⟩ = some (.int .i64 b) := c0.cell rfl
    go_wp2_with fail
    refine (low_r Ht.out bases _ (by have := Hr.out; omega) (((Keep.refl _ _).alloc _).below hb1)).mono ?_
    rintro e w2 ⟨r, hr2, rfl, hb2⟩
    go_wp2_with fail
    go_ret
    have := Hr.out
    exact ⟨r, by rw [hr2]; exact ⟨fun h => ⟨by omega, by omega, h⟩, fun h => h.2.2⟩, rfl, hB.trans (hb2.mono hB.size)⟩
end Go.Proofs.Ytejpgifofkiofaa

