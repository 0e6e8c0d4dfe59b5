/-
  From the readings of a row's arguments to the representations that the walks ask, and from a walk that keeps what was there to the row's end. What a term is in plain Lean, and when memory holds one. The reference's count of a type's types: how far it counts, and what its count says.
-/
import Derived.Test.YtejpgifofkiofaaRowParts6p1
import Derived.Test.YtejpgifofkiofaaChecked
import Derived.ProofKit
import Derived.WalkKit
import Derived.WideKeyArgs
import Derived.OpenShut
import Derived.Test.YtejpgifofkiofaaProg
import Derived.Lib.Hide
import Derived.Deep.QuietTactic
import Derived.BigQuiet
set_option linter.unusedVariables false
set_option linter.unusedSimpArgs false
namespace Go.Proofs.Ytejpgifofkiofaa
open Go.RowKit Go.ChangeShapes Go.WideShapes Go.ChangeAt

theorem own : ownKnob Try.prog.godebug = none := by kernel_rfl
theorem laidOut : laidOutB Try.prog = true := by kernel_rfl

def Rd {α H : Type} (enc : TypeId × Value → H) (W : World) (base : Nat) (sp : Nat → Bool) (hd : Bool) (t : TypeId) (r : Rp α) (D : DataW H → α → Prop) (n : Nat) : Prop :=
  ∀ cs x, DataW.trod enc Try.prog W base sp hd n t cs = some x → ∃ v, r.R (fun _ => True) W cs v ∧ D x.1 v

theorem addr_add (bl off n : Nat) : (⟨bl, off, none⟩ : Addr).add n = ⟨bl, off + n, none⟩ := by
  unfold Addr.add; split
  · subst_vars; rfl
  · rfl

theorem sl_of_trod {α H : Type} {enc : TypeId × Value → H} {W : World} {base : Nat} {sp : Nat → Bool} {hd : Bool} {t e : TypeId} {r : Rp α} {D : DataW H → α → Prop} {fuel : Nat} {cs : List Value} {x : DataW H × List MemPlace}
    (ht : Try.prog.underlying t = some (.slice e)) (hn : Try.prog.cellsOf e = r.n) (hpos : 0 < r.n) (hr : ∀ m, m < fuel → Rd enc W base sp hd e r D m) (h : DataW.trod enc Try.prog W base sp hd fuel t cs = some x) :
    ∃ a n c l, cs = [.slice a n c] ∧ n ≤ c ∧ IsSl r (fun _ => True) W (.slice a n c) l ∧ ∀ i (h : i < l.length), ∃ d es spare, x.1 = .slice es spare ∧ d ∈ es ∧ D d l[i] := by
  rcases DataW.trod_slice ht h with ⟨rfl, _⟩ | ⟨a, len, cap, elems, rest, n, rfl, rfl, rfl, hb, hl, hm, hlen, hel, _, _⟩
  · exact ⟨_, _, _, [], rfl, Nat.le_refl _, ⟨none, 0, 0, 0, fun _ => [], rfl, ⟨Nat.zero_le _, Nat.le_refl _⟩, fun h => absurd h (by simp), fun _ _ _ h => absurd h (by simp), fun _ h => absurd h (by simp)⟩, fun _ h => absurd h (by simp)⟩
  · have H : ∀ i : Fin len, ∃ y : List Value × α, W.cells? base (a.add (i * r.n)) r.n = some y.1 ∧ r.R (fun _ => True) W y.1 y.2 ∧ ∃ d ∈ elems.map (·.1), D d y.2 := fun i => by
      have h1 := hel i i.2
      rw [List.getElem?_eq_getElem (by omega), hn] at h1
      obtain ⟨cs', h2, h3⟩ := Option.bind_eq_some_iff.1 h1
      obtain ⟨v, hv, hd⟩ := hr n (by omega) _ _ h3
      exact ⟨⟨cs', v⟩, h2, hv, _, List.mem_map_of_mem (List.getElem_mem _), hd⟩
    obtain ⟨f, hf⟩ := Classical.axiomOfChoice H
    refine ⟨_, _, _, List.ofFn fun i => (f i).2, rfl, hl, ⟨some a, cap, a.block, a.off, fun i => if h : i < len then (f ⟨i, h⟩).1 else [], by simp, by simp; omega, fun h0 => ?_, fun i j u hi hu => ?_, fun i hi => ?_⟩, fun i hi => ?_⟩
    · have h0 : 0 < len := by simpa using h0
      have h1 := (World.cells?_some (hf ⟨0, h0⟩).1)
      have h2 := h1.2.2 0 hpos
      rw [List.getElem?_eq_getElem (by rw [h1.2.1]; exact hpos)] at h2
      have h3 := World.cell?_spot h2
      obtain ⟨bl, off, spot⟩ := a
      have : spot = none := by simpa [Addr.add] using h3
      subst this
      exact ⟨rfl, trivial⟩
    · have hi : i < len := by simpa using hi
      simp only [dif_pos hi] at hu
      have h1 := (World.cells?_some (hf ⟨i, hi⟩).1)
      have hj : j < r.n := by
        rcases Nat.lt_or_ge j r.n with h | h
        · exact h
        · rw [List.getElem?_eq_none (by rw [h1.2.1]; exact h)] at hu; cases hu
      have h2 := h1.2.2 j hj
      rw [hu] at h2
      have h0 := (World.cells?_some (hf ⟨0, by omega⟩).1)
      have h0' := h0.2.2 0 hpos
      rw [List.getElem?_eq_getElem (by rw [h0.2.1]; exact hpos)] at h0'
      have h3 := World.cell?_spot h0'
      obtain ⟨bl, off, spot⟩ := a
      have : spot = none := by simpa [Addr.add] using h3
      subst this
      rw [addr_add, addr_add] at h2
      exact h2
    · have hi : i < len := by simpa using hi
      simp only [dif_pos hi, List.getElem_ofFn]
      exact (hf ⟨i, hi⟩).2.1
    · have hi : i < len := by simpa using hi
      obtain ⟨d, h1, h2⟩ := (hf ⟨i, hi⟩).2.2
      exact ⟨d, _, _, rfl, h1, by simpa using h2⟩

theorem two_of {α : Type} {cs : List α} (h : cs.length = 2) : ∃ a b, cs = [a, b] := by
  match cs, h with
  | [a, b], _ => exact ⟨a, b, rfl⟩
theorem cellsInt : Try.prog.cellsOf 3 = 1 := by kernel_rfl

theorem cellsR : Try.prog.cellsOf 26 = 2 := by kernel_rfl
theorem cellsSR : Try.prog.cellsOf 24 = 1 := by kernel_rfl
theorem rdR {H : Type} (enc : TypeId × Value → H) (W : World) (base : Nat) (sp : Nat → Bool) (hd : Bool) : ∀ n, Rd enc W base sp hd 26 rpTy (fun _ _ => True) n := by
  intro n
  induction n using Nat.strongRecOn with
  | ind n ih =>
    intro cs x h
    obtain ⟨xs, m, rfl, rfl, hl, hlen, hf⟩ := DataW.trod_struct Try.underlying26 h
    rw [cellsR] at hl
    obtain ⟨v0, v1, rfl⟩ := two_of hl
    have h0 : DataW.trod enc Try.prog W base sp hd m 24 ([v0, v1].take (Try.prog.cellsOf 24)) = xs[0]? := hf 0 _ rfl
    have h1 : DataW.trod enc Try.prog W base sp hd m 3 ([v1].take (Try.prog.cellsOf 3)) = xs[1]? := hf 1 _ rfl
    rw [cellsSR] at h0
    rw [cellsInt] at h1
    have hlen : xs.length = 2 := hlen
    rw [List.getElem?_eq_getElem (by omega)] at h0 h1
    obtain ⟨va, vn, vc, l, hv, _, hs, _⟩ := sl_of_trod Try.underlying24 cellsR (by decide) (fun k hk => ih k (by omega)) h0
    obtain ⟨b, hb, _, _⟩ := DataW.trod_int Try.underlying3 h1
    have e0 : [v0] = [.slice va vn vc] := hv
    have e1 : [v1] = [.int .i64 b] := hb
    simp only [List.cons.injEq, and_true] at e0 e1
    subst e0 e1
    exact ⟨.mk l b, ⟨_, _, rfl, isTy_mk hs b⟩, trivial⟩
set_option maxRecDepth 100000 in
theorem openTyR {H : Type} {enc : TypeId × Value → H} {W : World} {base : Nat} {sp : Nat → Bool} {hd : Bool} {r : Reach} {b0 : Nat} {v : Value} {d : DataW H} {p : List MemPlace}
    (hval : Value.okWide Try.prog W r b0 26 v) (h : DataW.Trod enc Try.prog W base sp hd 26 v d p) : ∃ s b t, v = .agg #[s, b] ∧ IsTy (fun _ => True) W s b t := by
  obtain ⟨n, h⟩ := h
  obtain ⟨t, ⟨s, b, hx, ht⟩, _⟩ := rdR enc W base sp hd n _ _ h
  obtain ⟨cs, rfl, _⟩ := okWide_struct Try.underlying26 hval
  refine ⟨s, b, t, ?_, ht⟩
  have : cs.toList = [s, b] := hx
  rw [← Array.toList_inj.1 (show cs.toList = (#[s, b] : Array Value).toList from this)]
theorem cellsK : Try.prog.cellsOf 40 = 2 := by kernel_rfl
theorem cellsSK : Try.prog.cellsOf 33 = 1 := by kernel_rfl
theorem rdK {H : Type} (enc : TypeId × Value → H) (W : World) (base : Nat) (sp : Nat → Bool) (hd : Bool) : ∀ n, Rd enc W base sp hd 40 rpTy (fun _ _ => True) n := by
  intro n
  induction n using Nat.strongRecOn with
  | ind n ih =>
    intro cs x h
    obtain ⟨xs, m, rfl, rfl, hl, hlen, hf⟩ := DataW.trod_struct Try.underlying40 h
    rw [cellsK] at hl
    obtain ⟨v0, v1, rfl⟩ := two_of hl
    have h0 : DataW.trod enc Try.prog W base sp hd m 33 ([v0, v1].take (Try.prog.cellsOf 33)) = xs[0]? := hf 0 _ rfl
    have h1 : DataW.trod enc Try.prog W base sp hd m 3 ([v1].take (Try.prog.cellsOf 3)) = xs[1]? := hf 1 _ rfl
    rw [cellsSK] at h0
    rw [cellsInt] at h1
    have hlen : xs.length = 2 := hlen
    rw [List.getElem?_eq_getElem (by omega)] at h0 h1
    obtain ⟨va, vn, vc, l, hv, _, hs, _⟩ := sl_of_trod Try.underlying33 cellsK (by decide) (fun k hk => ih k (by omega)) h0
    obtain ⟨b, hb, _, _⟩ := DataW.trod_int Try.underlying3 h1
    have e0 : [v0] = [.slice va vn vc] := hv
    have e1 : [v1] = [.int .i64 b] := hb
    simp only [List.cons.injEq, and_true] at e0 e1
    subst e0 e1
    exact ⟨.mk l b, ⟨_, _, rfl, isTy_mk hs b⟩, trivial⟩
set_option maxRecDepth 100000 in
theorem openTyK {H : Type} {enc : TypeId × Value → H} {W : World} {base : Nat} {sp : Nat → Bool} {hd : Bool} {r : Reach} {b0 : Nat} {v : Value} {d : DataW H} {p : List MemPlace}
    (hval : Value.okWide Try.prog W r b0 40 v) (h : DataW.Trod enc Try.prog W base sp hd 40 v d p) : ∃ s b t, v = .agg #[s, b] ∧ IsTy (fun _ => True) W s b t := by
  obtain ⟨n, h⟩ := h
  obtain ⟨t, ⟨s, b, hx, ht⟩, _⟩ := rdK enc W base sp hd n _ _ h
  obtain ⟨cs, rfl, _⟩ := okWide_struct Try.underlying40 hval
  refine ⟨s, b, t, ?_, ht⟩
  have : cs.toList = [s, b] := hx
  rw [← Array.toList_inj.1 (show cs.toList = (#[s, b] : Array Value).toList from this)]

theorem trodAll_stays {H : Type} {enc : TypeId × Value → H} {W W' : World} {sp : Nat → Bool} : ∀ {ts : List TypeId} {vs : List Value} {ds : List (DataW H)} {p : List MemPlace},
    DataW.TrodAll enc Try.prog W 0 (fun _ => true) true ts vs ds p → (∀ t ∈ ts, Try.prog.readableRec t = true ∧ t < Try.prog.types.size) → (∀ x ∈ p, W.sameAt W' x) → (∀ x ∈ p, sp x.block = true) →
    DataW.TrodAll enc Try.prog W' 0 sp true ts vs ds p := by
  intro ts
  induction ts with
  | nil => intro vs ds p h; cases vs <;> cases ds <;> first | exact fun _ _ _ => h | exact h.elim
  | cons t ts ih =>
    intro vs ds p h hts hs hsp
    cases vs with
    | nil => exact h.elim
    | cons v vs =>
      cases ds with
      | nil => exact h.elim
      | cons d ds =>
        obtain ⟨p, q, h0, h1, rfl⟩ := h
        exact ⟨p, q, WideElems.Trod_stays laidOut (hts t (by simp)).1 (hts t (by simp)).2 h0 (fun x hx => hs x (by simp [hx])) (fun x hx => hsp x (by simp [hx])), ih h1 (fun t ht => hts t (by simp [ht])) (fun x hx => hs x (by simp [hx])) (fun x hx => hsp x (by simp [hx])), rfl⟩

set_option maxRecDepth 100000 in
theorem openSl {α H : Type} {enc : TypeId × Value → H} {W : World} {base : Nat} {sp : Nat → Bool} {hd : Bool} {t e : TypeId} {r : Rp α} {D : DataW H → α → Prop} {v : Value} {d : DataW H} {p : List MemPlace} {rch : Reach} {b0 : Nat}
    (ht : Try.prog.underlying t = some (.slice e)) (hn : Try.prog.cellsOf e = r.n) (hpos : 0 < r.n) (hr : ∀ m, Rd enc W base sp hd e r D m) (hval : Value.okWide Try.prog W rch b0 t v) (h : DataW.Trod enc Try.prog W base sp hd t v d p) :
    ∃ a n c l, v = .slice a n c ∧ n ≤ c ∧ IsSl r (fun _ => True) W (.slice a n c) l ∧ ∀ i (h : i < l.length), ∃ x es spare, d = .slice es spare ∧ x ∈ es ∧ D x l[i] := by
  obtain ⟨fuel, h⟩ := h
  obtain ⟨a, n, c, l, h1, h2, h3, h4⟩ := sl_of_trod ht hn hpos (fun m _ => hr m) h
  refine ⟨a, n, c, l, ?_, h2, h3, h4⟩
  obtain ⟨a', n', c', rfl⟩ := okWide_slice ht hval
  simpa [Value.cells] using h1

set_option maxRecDepth 100000 in
theorem post_true {H : Type} {enc : TypeId × Value → H} {f : Func} {s : ChangeSpec} {fresh handsOn again apart : Bool} {W W' : World} {args : Array Value} {ds gs : List (DataW H)} {before : List MemPlace}
    (hW : DataW.Whole enc Try.prog f.params.toList s.vars apart W args.toList ds gs before) (hv : s.vars = []) (hts : ∀ t ∈ f.params.toList, Try.prog.readableRec t = true ∧ t < Try.prog.types.size)
    (hr : f.resultTypes = #[4]) (hfn : s.fn H (ds ++ gs) = { results := [.lit (.bool true)], args := ds }) (hb : Below W.heap.size W W') :
    s.post enc Try.prog f apart fresh handsOn again W args (.bool true) W' := by
  have hlt := hW.lt
  have hW' := hW
  obtain ⟨p, q, hA, hV, rfl, hz, hn⟩ := hW
  rw [hv] at hV
  obtain ⟨rfl, rfl⟩ := trodVars_none hV
  have hres : ∀ (b : Nat) (sp : Nat → Bool) (hd : Bool), DataW.TrodAll enc Try.prog W' b sp hd f.resultTypes.toList ((Value.bool true).resultList f.resultTypes.size) (s.fn H (ds ++ [])).results [] := fun _ _ _ => by
    rw [hr, hfn]; exact trodAll_cons_mk (shut_bool Try.underlying4 _) trodAll_mk0
  have hargs : ∀ sp : Nat → Bool, (∀ x ∈ p ++ [], sp x.block = true) → DataW.TrodAll enc Try.prog W' 0 sp true f.params.toList args.toList (s.fn H (ds ++ [])).args p := fun sp hs => by
    rw [hfn]; exact trodAll_stays hA hts (fun x hx => hb.same (hlt x (by simp [hx]))) (fun x hx => hs x (by simp [hx]))
  have hvars : ∀ sp : Nat → Bool, DataW.TrodVars enc Try.prog W' sp s.vars (s.fn H (ds ++ [])).vars [] := fun sp => by rw [hv, hfn]; rfl
  have hok := ok_one (P := Try.prog) (W' := W') (f := f) (v := .bool true) hr rfl (okWide_bool_mk Try.underlying4 _)
  refine ⟨ds, [], p ++ [], [], p, [], hW', hres _ _ _, hargs _ (fun x hx => by simpa using hlt x hx), hvars _, World.keptBut_mono (fun p hp => ⟨hp, .inr (by simpa using hp)⟩) (hb.frame _), fun _ => ?_⟩
  refine ⟨hok, _, _, ([] ++ p) ++ [], ⟨[] ++ p, [], trodAll_append (hargs _ (fun _ _ => rfl)) (hres _ _ _), hvars _, rfl, ?_, ?_⟩, ?_⟩
  · intro b off hp
    rw [hb.frozen (hlt (.cell b off) (by simpa using hp))]
    exact hz b off (by simpa using hp)
  · intro ha
    simpa using hn ha
  · intro x hx _
    simpa using hx
end Go.Proofs.Ytejpgifofkiofaa

namespace Go.Proofs.Ytejpgifofkiofaa
open Go.RowKit

inductive Tm where
  | mk (binds : List Ty) (kind index : Int) (args : List Tm)
namespace Tm
def binds : Tm → List Ty | .mk b _ _ _ => b
def kind : Tm → Int | .mk _ k _ _ => k
def index : Tm → Int | .mk _ _ i _ => i
def args : Tm → List Tm | .mk _ _ _ a => a
theorem ind {p : Tm → Prop} (h : ∀ binds kind index args, (∀ t ∈ args, p t) → p (.mk binds kind index args)) (t : Tm) : p t :=
  Tm.rec (motive_1 := p) (motive_2 := fun l => ∀ t ∈ l, p t) (fun b k i a ih => h b k i a ih) (by simp)
    (fun a l ha hl t ht => by
      rcases List.mem_cons.1 ht with rfl | h
      · exact ha
      · exact hl t h) t

mutual
def size : Tm → Nat
  | .mk _ _ _ a => sizes a + 1
def sizes : List Tm → Nat
  | [] => 0
  | t :: l => size t + sizes l
end
mutual
def depth : Tm → Nat
  | .mk _ _ _ a => depths a + 1
def depths : List Tm → Nat
  | [] => 0
  | t :: l => max (depth t) (depths l)
end
mutual
def full : Tm → Nat
  | .mk b _ _ a => Ty.sizes b + fulls a + 1
def fulls : List Tm → Nat
  | [] => 0
  | t :: l => full t + fulls l
end
theorem size_eq (b : List Ty) (k i : Int) (a : List Tm) : (mk b k i a).size = sizes a + 1 := by simp [size]
theorem depth_eq (b : List Ty) (k i : Int) (a : List Tm) : (mk b k i a).depth = depths a + 1 := by simp [depth]
theorem full_eq (b : List Ty) (k i : Int) (a : List Tm) : (mk b k i a).full = Ty.sizes b + fulls a + 1 := by simp [full]
theorem sizes_append (l r : List Tm) : sizes (l ++ r) = sizes l + sizes r := by
  induction l with
  | nil => simp [sizes]
  | cons t l ih => simp [sizes, ih]; omega
theorem fulls_append (l r : List Tm) : fulls (l ++ r) = fulls l + fulls r := by
  induction l with
  | nil => simp [fulls]
  | cons t l ih => simp [fulls, ih]; omega
theorem depths_append (l r : List Tm) : depths (l ++ r) = max (depths l) (depths r) := by
  induction l with
  | nil => simp [depths]
  | cons t l ih => simp [depths, ih]
theorem sizes_take (l : List Tm) (i : Nat) (h : i < l.length) : sizes (l.take (i + 1)) = sizes (l.take i) + size l[i] := by
  rw [List.take_succ_eq_append_getElem h, sizes_append]; simp [sizes]
theorem fulls_take (l : List Tm) (i : Nat) (h : i < l.length) : fulls (l.take (i + 1)) = fulls (l.take i) + full l[i] := by
  rw [List.take_succ_eq_append_getElem h, fulls_append]; simp [fulls]
theorem depths_take (l : List Tm) (i : Nat) (h : i < l.length) : depths (l.take (i + 1)) = max (depths (l.take i)) (depth l[i]) := by
  rw [List.take_succ_eq_append_getElem h, depths_append]; simp [depths]
theorem size_pos (t : Tm) : 1 ≤ t.size := by cases t; simp [size]
theorem depth_pos (t : Tm) : 1 ≤ t.depth := by cases t; simp [depth]
theorem full_pos (t : Tm) : 1 ≤ t.full := by cases t; simp [full]
theorem sizes_take_le (l : List Tm) (i : Nat) : sizes (l.take i) ≤ sizes l := by
  conv => rhs; rw [← List.take_append_drop i l]
  rw [sizes_append]; omega
theorem fulls_take_le (l : List Tm) (i : Nat) : fulls (l.take i) ≤ fulls l := by
  conv => rhs; rw [← List.take_append_drop i l]
  rw [fulls_append]; omega
theorem depths_take_le (l : List Tm) (i : Nat) : depths (l.take i) ≤ depths l := by
  conv => rhs; rw [← List.take_append_drop i l]
  rw [depths_append]; omega
theorem len_sizes (l : List Tm) : l.length ≤ sizes l := by
  induction l with
  | nil => simp [sizes]
  | cons t l ih => have := size_pos t; simp [sizes]; omega
theorem len_fulls (l : List Tm) : l.length ≤ fulls l := by
  induction l with
  | nil => simp [fulls]
  | cons t l ih => have := full_pos t; simp [fulls]; omega
theorem size_mem {l : List Tm} {t : Tm} (h : t ∈ l) : t.size ≤ sizes l := by
  induction l with
  | nil => cases h
  | cons u l ih =>
    simp only [sizes]
    rcases List.mem_cons.1 h with rfl | h
    · omega
    · have := ih h; omega
theorem full_mem {l : List Tm} {t : Tm} (h : t ∈ l) : t.full ≤ fulls l := by
  induction l with
  | nil => cases h
  | cons u l ih =>
    simp only [fulls]
    rcases List.mem_cons.1 h with rfl | h
    · omega
    · have := ih h; omega
theorem depth_mem {l : List Tm} {t : Tm} (h : t ∈ l) : t.depth ≤ depths l := by
  induction l with
  | nil => cases h
  | cons u l ih =>
    simp only [depths]
    rcases List.mem_cons.1 h with rfl | h
    · omega
    · have := ih h; omega
theorem size_le_full (t : Tm) : t.size ≤ t.full := by
  induction t using Tm.ind with
  | h b k i a ih =>
    have : ∀ l : List Tm, (∀ t ∈ l, t.size ≤ t.full) → sizes l ≤ fulls l := by
      intro l
      induction l with
      | nil => intro _; simp [sizes]
      | cons t l ih2 => intro h; have := ih2 (fun t ht => h t (by simp [ht])); have := h t (by simp); simp [sizes, fulls]; omega
    have := this a ih
    rw [size_eq, full_eq]; omega
theorem depth_le_size (t : Tm) : t.depth ≤ t.size := by
  induction t using Tm.ind with
  | h b k i a ih =>
    have : ∀ l : List Tm, (∀ t ∈ l, t.depth ≤ t.size) → depths l ≤ sizes l := by
      intro l
      induction l with
      | nil => intro _; simp [depths]
      | cons t l ih2 => intro h; have := ih2 (fun t ht => h t (by simp [ht])); have := h t (by simp); simp [sizes, depths]; omega
    have := this a ih
    rw [size_eq, depth_eq]; omega
end Tm

inductive IsTm (F : Nat → Prop) (w : World) : Value → Value → Value → Value → Tm → Prop where
  | mk (bv : Value) (k i : Int) (a : Option Addr) (n c : Nat) (binds : List Ty) (args : List Tm) (bl off : Nat) (PA A : Nat → Option Addr) (PN PC N C : Nat → Nat) (K I : Nat → Int)
      (hb : IsSl rpTy F w bv binds) (hn : args.length = n) (hm : n ≤ maxLen ∧ n ≤ c) (ha : 0 < n → a = some ⟨bl, off, none⟩ ∧ F bl)
      (h1 : ∀ i, i < n → w.cell? ⟨bl, off + i * 4, none⟩ = some (.slice (PA i) (PN i) (PC i)))
      (h2 : ∀ i, i < n → w.cell? ⟨bl, off + i * 4 + 1, none⟩ = some (.int .i64 (K i)))
      (h3 : ∀ i, i < n → w.cell? ⟨bl, off + i * 4 + 2, none⟩ = some (.int .i64 (I i)))
      (h4 : ∀ i, i < n → w.cell? ⟨bl, off + i * 4 + 3, none⟩ = some (.slice (A i) (N i) (C i)))
      (h5 : ∀ i (h : i < args.length), IsTm F w (.slice (PA i) (PN i) (PC i)) (.int .i64 (K i)) (.int .i64 (I i)) (.slice (A i) (N i) (C i)) args[i]) :
      IsTm F w bv (.int .i64 k) (.int .i64 i) (.slice a n c) (.mk binds k i args)

theorem IsTm.keep {F : Nat → Prop} {w w' : World} {b k i a : Value} {t : Tm} (h : IsTm F w b k i a t) (hw : Keep F w w') : IsTm F w' b k i a t := by
  induction h with
  | mk bv k i a n c binds args bl off PA A PN PC N C K I hb hn hm ha h1 h2 h3 h4 h5 ih =>
    exact IsTm.mk bv k i a n c binds args bl off PA A PN PC N C K I (hb.keep hw) hn hm ha (fun i hi => hw _ _ _ (ha (by omega)).2 (h1 i hi)) (fun i hi => hw _ _ _ (ha (by omega)).2 (h2 i hi)) (fun i hi => hw _ _ _ (ha (by omega)).2 (h3 i hi)) (fun i hi => hw _ _ _ (ha (by omega)).2 (h4 i hi)) ih
theorem IsTm.weaken {F F' : Nat → Prop} {w : World} {b k i a : Value} {t : Tm} (h : IsTm F w b k i a t) (hF : ∀ k, k < w.heap.size → F k → F' k) : IsTm F' w b k i a t := by
  induction h with
  | mk bv k i a n c binds args bl off PA A PN PC N C K I hb hn hm ha h1 h2 h3 h4 h5 ih =>
    exact IsTm.mk bv k i a n c binds args bl off PA A PN PC N C K I (hb.weaken (by decide) hF) hn hm (fun h => ⟨(ha h).1, hF _ (Keep.lt (h1 0 h)) (ha h).2⟩) h1 h2 h3 h4 ih
theorem IsSl.shape {α : Type} {r : Rp α} {F : Nat → Prop} {w : World} {v : Value} {l : List α} (h : IsSl r F w v l) : ∃ a c, v = .slice a l.length c := by
  obtain ⟨a, c, _, _, _, hv, _⟩ := h
  exact ⟨a, c, hv⟩
theorem IsTm.shape {F : Nat → Prop} {w : World} {b k i a : Value} {t : Tm} (h : IsTm F w b k i a t) : ∃ pa pc qa qc, b = .slice pa t.binds.length pc ∧ k = .int .i64 t.kind ∧ i = .int .i64 t.index ∧ a = .slice qa t.args.length qc := by
  cases h with
  | mk bv k i a n c binds args bl off PA A PN PC N C K I hb hn =>
    obtain ⟨pa, pc, rfl⟩ := hb.shape
    subst hn
    exact ⟨pa, pc, a, c, rfl, rfl, rfl, rfl⟩
theorem IsTm.one {F : Nat → Prop} {w : World} {b k i a : Value} {t : Tm} (h : IsTm F w b k i a t) : b.oneCell' = true ∧ k.oneCell' = true ∧ i.oneCell' = true ∧ a.oneCell' = true := by
  obtain ⟨pa, pc, qa, qc, rfl, rfl, rfl, rfl⟩ := h.shape
  exact ⟨rfl, rfl, rfl, rfl⟩

def rpTm : Rp Tm where
  n := 4
  R F w x t := ∃ b k i a, x = [b, k, i, a] ∧ IsTm F w b k i a t
  len := by rintro F w x a ⟨b, k, i, a, rfl, _⟩; rfl
  one := by
    rintro F w x a ⟨b, k, i, a, rfl, h⟩ u hu
    have := h.one
    simp at hu
    rcases hu with rfl | rfl | rfl | rfl
    · exact this.1
    · exact this.2.1
    · exact this.2.2.1
    · exact this.2.2.2
  keep := by rintro F w w' x a ⟨b, k, i, a, rfl, h⟩ hk; exact ⟨b, k, i, a, rfl, h.keep hk⟩
  weaken := by rintro F F' w x a ⟨b, k, i, a, rfl, h⟩ hk; exact ⟨b, k, i, a, rfl, h.weaken hk⟩

theorem isTm_mk {F : Nat → Prop} {w : World} {bv v : Value} {binds : List Ty} {l : List Tm} (hb : IsSl rpTy F w bv binds) (h : IsSl rpTm F w v l) (k i : Int) : IsTm F w bv (.int .i64 k) (.int .i64 i) v (.mk binds k i l) := by
  obtain ⟨a, c, bl, off, X, rfl, hl, ha, h1, h2⟩ := h
  let PA : Nat → Option Addr := fun i => match (X i).getD 0 default with | .slice a _ _ => a | _ => none
  let PN : Nat → Nat := fun i => match (X i).getD 0 default with | .slice _ n _ => n | _ => 0
  let PC : Nat → Nat := fun i => match (X i).getD 0 default with | .slice _ _ c => c | _ => 0
  let K : Nat → Int := fun i => match (X i).getD 1 default with | .int _ b => b | _ => 0
  let I : Nat → Int := fun i => match (X i).getD 2 default with | .int _ b => b | _ => 0
  let A : Nat → Option Addr := fun i => match (X i).getD 3 default with | .slice a _ _ => a | _ => none
  let N : Nat → Nat := fun i => match (X i).getD 3 default with | .slice _ n _ => n | _ => 0
  let C : Nat → Nat := fun i => match (X i).getD 3 default with | .slice _ _ c => c | _ => 0
  have hx : ∀ i (h : i < l.length), X i = [.slice (PA i) (PN i) (PC i), .int .i64 (K i), .int .i64 (I i), .slice (A i) (N i) (C i)] ∧ IsTm F w (.slice (PA i) (PN i) (PC i)) (.int .i64 (K i)) (.int .i64 (I i)) (.slice (A i) (N i) (C i)) l[i] := fun i hi => by
    obtain ⟨b', k', i', a', hx, ht⟩ := h2 i hi
    obtain ⟨pa, pc, qa, qc, rfl, rfl, rfl, rfl⟩ := ht.shape
    have e1 : PA i = pa := by simp [PA, hx]
    have e2 : PN i = l[i].binds.length := by simp [PN, hx]
    have e3 : PC i = pc := by simp [PC, hx]
    have e4 : K i = l[i].kind := by simp [K, hx]
    have e5 : I i = l[i].index := by simp [I, hx]
    have e6 : A i = qa := by simp [A, hx]
    have e7 : N i = l[i].args.length := by simp [N, hx]
    have e8 : C i = qc := by simp [C, hx]
    rw [e1, e2, e3, e4, e5, e6, e7, e8]; exact ⟨hx, ht⟩
  refine IsTm.mk bv k i a l.length c binds l bl off PA A PN PC N C K I hb rfl hl ha (fun i hi => ?_) (fun i hi => ?_) (fun i hi => ?_) (fun i hi => ?_) (fun i hi => (hx i hi).2)
  · exact h1 i 0 _ hi (by rw [(hx i hi).1]; rfl)
  · exact h1 i 1 _ hi (by rw [(hx i hi).1]; rfl)
  · exact h1 i 2 _ hi (by rw [(hx i hi).1]; rfl)
  · exact h1 i 3 _ hi (by rw [(hx i hi).1]; rfl)
theorem IsTm.inv {F : Nat → Prop} {w : World} {b k i a : Value} {t : Tm} (h : IsTm F w b k i a t) : k = .int .i64 t.kind ∧ i = .int .i64 t.index ∧ IsSl rpTy F w b t.binds ∧ IsSl rpTm F w a t.args := by
  cases h with
  | mk bv k i a n c binds args bl off PA A PN PC N C K I hb hn hm ha h1 h2 h3 h4 h5 =>
    subst hn
    refine ⟨rfl, rfl, hb, a, c, bl, off, fun i => [.slice (PA i) (PN i) (PC i), .int .i64 (K i), .int .i64 (I i), .slice (A i) (N i) (C i)], rfl, hm, ha, fun i j u hi hu => ?_, fun i hi => ⟨_, _, _, _, rfl, h5 i hi⟩⟩
    match j with
    | 0 => simp at hu; subst hu; exact h1 i hi
    | 1 => simp at hu; subst hu; exact h2 i hi
    | 2 => simp at hu; subst hu; exact h3 i hi
    | 3 => simp at hu; subst hu; exact h4 i hi
    | j + 4 => simp at hu
end Go.Proofs.Ytejpgifofkiofaa

namespace Go.Proofs.Ytejpgifofkiofaa
open Go.RowKit

def fewOk (t : Ty) (most depth : Int) (r : Int) : Prop :=
  1 ≤ r ∧ r ≤ (most + 1) * (max depth 0 + 1) ∧ ((r ≤ most ∧ r = t.size ∧ (t.depth : Int) ≤ depth) ∨ (most < r ∧ ¬ ((t.size : Int) ≤ most ∧ (t.depth : Int) ≤ depth)))

def FewPost (t : Ty) (most depth : Int) (w : World) (e : Ending) (w' : World) : Prop := ∃ r : Int, fewOk t most depth r ∧ e = .returned (.int .i64 r) ∧ Below w.heap.size w w'

def FewRel (l : List Ty) (most depth : Int) (k : Nat) (r : Int) : Prop :=
  (r ≤ most ∧ r = Ty.sizes (l.take k) + 1 ∧ (Ty.depths (l.take k) : Int) + 1 ≤ depth) ∨ (most < r ∧ ¬ ((Ty.sizes l : Int) + 1 ≤ most ∧ (Ty.depths l : Int) + 1 ≤ depth))

theorem fewRel_start (l : List Ty) (most depth : Int) (hd : 1 ≤ depth) (hm : 1 ≤ most) : FewRel l most depth 0 1 := by
  unfold FewRel
  exact .inl ⟨hm, by simp [Ty.sizes], by simp [Ty.depths]; omega⟩
theorem fewRel_step (l : List Ty) (most depth : Int) (k : Nat) (r r' : Int) (h : FewRel l most depth k r) (hr : r ≤ most) (hk : k < l.length) (h' : fewOk l[k] most (depth - 1) r') (h0 : 1 ≤ r) :
    FewRel l most depth (k + 1) (r + r') := by
  unfold FewRel fewOk at *
  have s1 := Ty.sizes_take l k hk
  have s2 := Ty.depths_take l k hk
  have s3 := Ty.sizes_take_le l (k + 1)
  have s4 := Ty.depths_take_le l (k + 1)
  omega
theorem fewRel_end (l : List Ty) (b : Int) (most depth : Int) (k : Nat) (r : Int) (h : FewRel l most depth k r) (h' : most < r ∨ l.length ≤ k) (h0 : 1 ≤ r) (hb : r ≤ (most + 1) * (max depth 0 + 1)) :
    fewOk (.mk l b) most depth r := by
  unfold FewRel at h
  refine ⟨h0, hb, ?_⟩
  simp only [Ty.size, Ty.depth]
  rcases h' with h' | h'
  · omega
  · rw [List.take_of_length_le h'] at h; omega

set_option maxHeartbeats 400000 in
theorem few_any {F : Nat → Prop} {w0 : World} {s b : Value} {t : Ty} (ht : IsTy F w0 s b t) : ∀ (most depth : Int) (w : World), 1 ≤ most → most ≤ 1000 → depth ≤ 1000 → -1000 ≤ depth →
    Keep F w0 w →
    Calls Try.prog 84 #[.agg #[s, b], .int .i64 most, .int .i64 depth] w (FewPost t most depth w) := by
  induction ht with
  | mk a n c b args bl off A N C B hn hm ha h1 h2 h3 ih =>
  intro most depth w hm0 hm1 hd1 hd0 hw
  unfold maxLen at hm
  by_cases hd : depth ≤ 0
  · go_enter Try.func84, Try.ntmps84
    go_wp2_with fail
    go_ret
    refine ⟨_, ?_, rfl, (Below.refl _ _).alloc (Nat.le_refl _) _⟩
    have := Ty.depth_pos (.mk args b)
    refine ⟨by omega, ?_, .inr ⟨by omega, by omega⟩⟩
    rw [show max depth 0 = 0 from by omega]; omega
  · have hd' : 1 ≤ depth := by omega
    clear h3
    have Hih := Lib.hid ih; clear ih
    have hst := Lib.hid (fewRel_start args most depth hd' hm0)
    have hmul : Hid ((most + 1) * max (depth - 1) 0 + (most + 1) = (most + 1) * (max depth 0) ∧ 0 ≤ (most + 1) * max depth 0 ∧ (most + 1) * max depth 0 ≤ 1001 * 1000 ∧ (most + 1) * (max depth 0 + 1) = (most + 1) * max depth 0 + (most + 1) ∧ (most + 1) * (max (depth - 1) 0 + 1) = (most + 1) * max (depth - 1) 0 + (most + 1)) := by
      refine ⟨?_, Int.mul_nonneg (by omega) (by omega), Int.mul_le_mul (by omega) (by omega) (by omega) (by omega), by rw [Int.mul_add]; omega, by rw [Int.mul_add]; omega⟩
      rw [show max depth 0 = max (depth - 1) 0 + 1 from by omega, Int.mul_add]; omega
    go_enter Try.func84, Try.ntmps84
    go_wp2_with fail
    go_loopw [7, 8] (fun x i wr => ∃ (k : Nat) (r : Int), i = .int .i64 k ∧ x = .int .i64 r ∧ k ≤ n ∧ FewRel args most depth k r ∧ 1 ≤ r ∧ r ≤ most + (most + 1) * (max depth 0) ∧
      Below w.heap.size w wr ∧ wr.heap[w.heap.size]? = some (.cells #[.slice a n c, .int .i64 b] 26)) (fun _ i _ => n - (intOf i).toNat)
    case atStart =>
      have := hmul.out
      exact ⟨0, 1, rfl, rfl, by omega, hst.out, by omega, by omega, (Below.refl _ _).alloc (Nat.le_refl _) _, heap_alloc_new _ _⟩
    case round =>
      obtain ⟨k, r, rfl, rfl, hk, hrel, hr1, hr2, hb, hbox⟩ := hrel
      have c0 : wr.cell? ⟨w.heap.size, 0, none⟩ = some (.slice a n c) := by simp [World.cell?, hbox]
      have hrb : r ≤ 2000000 := by have := hmul.out; omega
      have hsz : w.heap.size < wr.heap.size := lt_of_block hbox
      have Hbox := Lib.hid hbox; clear hbox
      by_cases hlt : k < n
      · obtain ⟨rfl, hF⟩ := ha (by omega)
        have e1 : wr.cell? ⟨bl, off + k * 2, none⟩ = some (.slice (A k) (N k) (C k)) := (hw.below hb) _ _ _ hF (h1 k hlt)
        have e2 : wr.cell? ⟨bl, off + k * 2 + 1, none⟩ = some (.int .i64 (B k)) := (hw.below hb) _ _ _ hF (h2 k hlt)
        by_cases hr : r ≤ most
        · go_wp2_with fail
          refine (Hih.out k (by omega) most (depth - 1) wr hm0 hm1 (by omega) (by omega) (hw.below hb)).mono ?_
          rintro e w1 ⟨r', hf, rfl, hb1⟩
          have hr' : 1 ≤ r' ∧ r' ≤ 3000000 := by have := hmul.out; have := hf.1; have := hf.2.1; omega
          go_wp2_with fail
          go_roundw
          case rel =>
            have := hmul.out; have := hf.2.1
            exact ⟨k + 1, r + r', by go_num, rfl, by omega, fewRel_step _ _ _ _ _ _ hrel hr (by omega) hf hr1, by omega, by omega, hb.trans (hb1.mono (by omega)), by rw [hb1.block _ hsz]; exact Hbox.out⟩
          case measure => simp [intOf]; omega
        · have hend := Lib.hid (fewRel_end args b most depth k r hrel (.inl (by omega)) hr1 (by have := hmul.out; omega))
          go_wp2_with fail
          go_ret
          exact ⟨r, hend.out, rfl, hb⟩
      · have hend := Lib.hid (fewRel_end args b most depth k r hrel (.inr (by omega)) hr1 (by have := hmul.out; omega))
        go_wp2_with fail
        go_ret
        exact ⟨r, hend.out, rfl, hb⟩
end Go.Proofs.Ytejpgifofkiofaa

