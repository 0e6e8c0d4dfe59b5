/-
  From the readings of a row's arguments to the representations that the walks ask, and from a walk that keeps what was there to the row's end. DERIVED: THE SHELF's CONTRACTS AT THIS DUMP, IN PLAIN WORDS (tools/lay-plain.mjs out of 'TryShelf.lean', which tools/lay-shelf.mjs wrote): THE SAME DECLARATIONS UNDER THE SAME NAMES: 'import', 'namespace', 'open', 'def', 'theorem' AND NOTHING ELSE: no command of the shelf's: FOR A HAND-IN. Each laying: the table of numbers ('.._ren') and one theorem, a field a fact of the dump's own or the kernel's comparison; each contract: ONE APPLICATION. Queue.waits and heap.top: those ahead that wait no more go; the first that waits is told. A region that draws its order where several operations can come up. A queue in memory: what waits, by ages; Peek. Queue.Next: the next one is taken. Queue.Put: one more.
-/
import Derived.Test.YtplfbdkljnblmaaRowQPlaysp1
import Derived.Test.YtplfbdkljnblmaaRowQPlaysp2
import Derived.Test.YtplfbdkljnblmaaChecked
import Derived.ProofKit
import Derived.WalkKit
import Derived.WideKeyArgs
import Derived.OpenShut
import Derived.Shelf.SlSortCmp.WholeK
import Derived.Test.YtplfbdkljnblmaaProg
import Derived.RegionTactic
set_option linter.unusedVariables false
set_option linter.unusedSimpArgs false
namespace Go.Proofs.Ytplfbdkljnblmaa
open Go.RowKit Go.ChangeShapes Go.WideShapes Go.ChangeAt

theorem own : ownKnob Try.prog.godebug = none := by kernel_rfl
theorem laidOut : laidOutB Try.prog = true := by kernel_rfl

def Rd {α H : Type} (enc : TypeId × Value → H) (W : World) (base : Nat) (sp : Nat → Bool) (hd : Bool) (t : TypeId) (r : Rp α) (D : DataW H → α → Prop) (n : Nat) : Prop :=
  ∀ cs x, DataW.trod enc Try.prog W base sp hd n t cs = some x → ∃ v, r.R (fun _ => True) W cs v ∧ D x.1 v

theorem addr_add (bl off n : Nat) : (⟨bl, off, none⟩ : Addr).add n = ⟨bl, off + n, none⟩ := by
  unfold Addr.add; split
  · subst_vars; rfl
  · rfl

theorem sl_of_trod {α H : Type} {enc : TypeId × Value → H} {W : World} {base : Nat} {sp : Nat → Bool} {hd : Bool} {t e : TypeId} {r : Rp α} {D : DataW H → α → Prop} {fuel : Nat} {cs : List Value} {x : DataW H × List MemPlace}
    (ht : Try.prog.underlying t = some (.slice e)) (hn : Try.prog.cellsOf e = r.n) (hpos : 0 < r.n) (hr : ∀ m, m < fuel → Rd enc W base sp hd e r D m) (h : DataW.trod enc Try.prog W base sp hd fuel t cs = some x) :
    ∃ a n c l, cs = [.slice a n c] ∧ n ≤ c ∧ IsSl r (fun _ => True) W (.slice a n c) l ∧ ∀ i (h : i < l.length), ∃ d es spare, x.1 = .slice es spare ∧ d ∈ es ∧ D d l[i] := by
  rcases DataW.trod_slice ht h with ⟨rfl, _⟩ | ⟨a, len, cap, elems, rest, n, rfl, rfl, rfl, hb, hl, hm, hlen, hel, _, _⟩
  · exact ⟨_, _, _, [], rfl, Nat.le_refl _, ⟨none, 0, 0, 0, fun _ => [], rfl, ⟨Nat.zero_le _, Nat.le_refl _⟩, fun h => absurd h (by simp), fun _ _ _ h => absurd h (by simp), fun _ h => absurd h (by simp)⟩, fun _ h => absurd h (by simp)⟩
  · have H : ∀ i : Fin len, ∃ y : List Value × α, W.cells? base (a.add (i * r.n)) r.n = some y.1 ∧ r.R (fun _ => True) W y.1 y.2 ∧ ∃ d ∈ elems.map (·.1), D d y.2 := fun i => by
      have h1 := hel i i.2
      rw [List.getElem?_eq_getElem (by omega), hn] at h1
      obtain ⟨cs', h2, h3⟩ := Option.bind_eq_some_iff.1 h1
      obtain ⟨v, hv, hd⟩ := hr n (by omega) _ _ h3
      exact ⟨⟨cs', v⟩, h2, hv, _, List.mem_map_of_mem (List.getElem_mem _), hd⟩
    obtain ⟨f, hf⟩ := Classical.axiomOfChoice H
    refine ⟨_, _, _, List.ofFn fun i => (f i).2, rfl, hl, ⟨some a, cap, a.block, a.off, fun i => if h : i < len then (f ⟨i, h⟩).1 else [], by simp, by simp; omega, fun h0 => ?_, fun i j u hi hu => ?_, fun i hi => ?_⟩, fun i hi => ?_⟩
    · have h0 : 0 < len := by simpa using h0
      have h1 := (World.cells?_some (hf ⟨0, h0⟩).1)
      have h2 := h1.2.2 0 hpos
      rw [List.getElem?_eq_getElem (by rw [h1.2.1]; exact hpos)] at h2
      have h3 := World.cell?_spot h2
      obtain ⟨bl, off, spot⟩ := a
      have : spot = none := by simpa [Addr.add] using h3
      subst this
      exact ⟨rfl, trivial⟩
    · have hi : i < len := by simpa using hi
      simp only [dif_pos hi] at hu
      have h1 := (World.cells?_some (hf ⟨i, hi⟩).1)
      have hj : j < r.n := by
        rcases Nat.lt_or_ge j r.n with h | h
        · exact h
        · rw [List.getElem?_eq_none (by rw [h1.2.1]; exact h)] at hu; cases hu
      have h2 := h1.2.2 j hj
      rw [hu] at h2
      have h0 := (World.cells?_some (hf ⟨0, by omega⟩).1)
      have h0' := h0.2.2 0 hpos
      rw [List.getElem?_eq_getElem (by rw [h0.2.1]; exact hpos)] at h0'
      have h3 := World.cell?_spot h0'
      obtain ⟨bl, off, spot⟩ := a
      have : spot = none := by simpa [Addr.add] using h3
      subst this
      rw [addr_add, addr_add] at h2
      exact h2
    · have hi : i < len := by simpa using hi
      simp only [dif_pos hi, List.getElem_ofFn]
      exact (hf ⟨i, hi⟩).2.1
    · have hi : i < len := by simpa using hi
      obtain ⟨d, h1, h2⟩ := (hf ⟨i, hi⟩).2.2
      exact ⟨d, _, _, rfl, h1, by simpa using h2⟩

theorem two_of {α : Type} {cs : List α} (h : cs.length = 2) : ∃ a b, cs = [a, b] := by
  match cs, h with
  | [a, b], _ => exact ⟨a, b, rfl⟩
theorem cellsInt : Try.prog.cellsOf 3 = 1 := by kernel_rfl

def rpI : Rp Int where
  n := 1
  R _ _ x v := x = [.int .i64 v]
  len := by rintro F w x a rfl; rfl
  one := by rintro F w x a rfl u hu; simp at hu; subst hu; rfl
  keep := by intro F w w' x a h _; exact h
  weaken := by intro F F' w x a h _; exact h
theorem wf_i64q {k : Int} (h : (Lit.int .i64 k).wf = true) : W64 k := by
  simp [Lit.wf, IntKind.min, IntKind.max, IntKind.signed, IntKind.bits] at h
  exact h
theorem rdI {H : Type} (enc : TypeId × Value → H) (W : World) (base : Nat) (sp : Nat → Bool) (hd : Bool) : ∀ n, Rd enc W base sp hd 3 rpI (fun _ v => W64 v) n := by
  intro n cs x h
  obtain ⟨k, hk, _, hw⟩ := DataW.trod_int Try.underlying3 h
  exact ⟨k, hk, wf_i64q hw⟩
theorem cellsSI : Try.prog.cellsOf 22 = 1 := by kernel_rfl
theorem cellsAct : Try.prog.cellsOf 45 = 4 := by kernel_rfl
theorem four_of {α : Type} {cs : List α} (h : cs.length = 4) : ∃ a b c d, cs = [a, b, c, d] := by
  match cs, h with
  | [a, b, c, d], _ => exact ⟨a, b, c, d, rfl⟩
structure Act25 where
  kind : Int
  key : Int
  weight : Int
  keys : List Int
def rpA : Rp Act25 where
  n := 4
  R F w x v := ∃ a c, x = [.int .i64 v.kind, .int .i64 v.key, .int .i64 v.weight, .slice a v.keys.length c] ∧ IsSl rpI F w (.slice a v.keys.length c) v.keys
  len := by rintro F w x a ⟨_, _, rfl, _⟩; rfl
  one := by
    rintro F w x a ⟨_, _, rfl, _⟩ u hu
    simp at hu
    rcases hu with rfl | rfl | rfl | rfl <;> rfl
  keep := by rintro F w w' x a ⟨p, c, h, hs⟩ hk; exact ⟨p, c, h, hs.keep hk⟩
  weaken := by rintro F F' w x a ⟨p, c, h, hs⟩ hF; exact ⟨p, c, h, hs.weaken (by decide) hF⟩
def Act25.ok (v : Act25) : Prop := W64 v.key ∧ W64 v.weight ∧ ∀ k ∈ v.keys, W64 k
theorem rdA {H : Type} (enc : TypeId × Value → H) (W : World) (base : Nat) (sp : Nat → Bool) (hd : Bool) : ∀ n, Rd enc W base sp hd 45 rpA (fun _ v => v.ok) n := by
  intro n cs x h
  obtain ⟨xs, m, rfl, rfl, hl, hlen, hf⟩ := DataW.trod_struct Try.underlying45 h
  rw [cellsAct] at hl
  obtain ⟨v0, v1, v2, v3, rfl⟩ := four_of hl
  have h0 : DataW.trod enc Try.prog W base sp hd m 3 ([v0, v1, v2, v3].take (Try.prog.cellsOf 3)) = xs[0]? := hf 0 _ rfl
  have h1 : DataW.trod enc Try.prog W base sp hd m 3 ([v1, v2, v3].take (Try.prog.cellsOf 3)) = xs[1]? := hf 1 _ rfl
  have h2 : DataW.trod enc Try.prog W base sp hd m 3 ([v2, v3].take (Try.prog.cellsOf 3)) = xs[2]? := hf 2 _ rfl
  have h3 : DataW.trod enc Try.prog W base sp hd m 22 ([v3].take (Try.prog.cellsOf 22)) = xs[3]? := hf 3 _ rfl
  rw [cellsInt] at h0 h1 h2
  rw [cellsSI] at h3
  have hlen : xs.length = 4 := hlen
  rw [List.getElem?_eq_getElem (by omega)] at h0 h1 h2 h3
  obtain ⟨a, ha, _, _⟩ := DataW.trod_int Try.underlying3 h0
  obtain ⟨b, hb, _, hwb⟩ := DataW.trod_int Try.underlying3 h1
  obtain ⟨c, hc, _, hwc⟩ := DataW.trod_int Try.underlying3 h2
  obtain ⟨pa, pn, pc, l, hv, _, hs, hw⟩ := sl_of_trod Try.underlying22 cellsInt (by decide) (fun j _ => rdI enc W base sp hd j) h3
  have e0 : [v0] = [.int .i64 a] := ha
  have e1 : [v1] = [.int .i64 b] := hb
  have e2 : [v2] = [.int .i64 c] := hc
  have e3 : [v3] = [.slice pa pn pc] := hv
  simp only [List.cons.injEq, and_true] at e0 e1 e2 e3
  subst e0 e1 e2 e3
  have hl : pn = l.length := by
    obtain ⟨_, _, _, _, _, hq, _⟩ := hs
    injection hq
  subst hl
  refine ⟨⟨a, b, c, l⟩, ⟨pa, pc, rfl, hs⟩, wf_i64q hwb, wf_i64q hwc, fun k hk => ?_⟩
  obtain ⟨j, hj, rfl⟩ := List.getElem_of_mem hk
  obtain ⟨_, _, _, _, _, h⟩ := hw j hj
  exact h
set_option maxRecDepth 100000 in
theorem openAct {H : Type} {enc : TypeId × Value → H} {W : World} {base : Nat} {sp : Nat → Bool} {hd : Bool} {r : Reach} {b0 : Nat} {v : Value} {d : DataW H} {p : List MemPlace}
    (hval : Value.okWide Try.prog W r b0 45 v) (h : DataW.Trod enc Try.prog W base sp hd 45 v d p) :
    ∃ (x : Act25) (a : Option Addr) (c : Nat), v = .agg #[.int .i64 x.kind, .int .i64 x.key, .int .i64 x.weight, .slice a x.keys.length c] ∧ IsSl rpI (fun _ => True) W (.slice a x.keys.length c) x.keys ∧ x.ok := by
  obtain ⟨n, h⟩ := h
  obtain ⟨x, ⟨a, c, hx, hs⟩, hok⟩ := rdA enc W base sp hd n _ _ h
  obtain ⟨cs, rfl, _⟩ := okWide_struct Try.underlying45 hval
  refine ⟨x, a, c, ?_, hs, hok⟩
  have : cs.toList = [.int .i64 x.kind, .int .i64 x.key, .int .i64 x.weight, .slice a x.keys.length c] := hx
  rw [← Array.toList_inj.1 (show cs.toList = (#[.int .i64 x.kind, .int .i64 x.key, .int .i64 x.weight, .slice a x.keys.length c] : Array Value).toList from this)]


theorem trodAll_stays {H : Type} {enc : TypeId × Value → H} {W W' : World} {sp : Nat → Bool} : ∀ {ts : List TypeId} {vs : List Value} {ds : List (DataW H)} {p : List MemPlace},
    DataW.TrodAll enc Try.prog W 0 (fun _ => true) true ts vs ds p → (∀ t ∈ ts, Try.prog.readableRec t = true ∧ t < Try.prog.types.size) → (∀ x ∈ p, W.sameAt W' x) → (∀ x ∈ p, sp x.block = true) →
    DataW.TrodAll enc Try.prog W' 0 sp true ts vs ds p := by
  intro ts
  induction ts with
  | nil => intro vs ds p h; cases vs <;> cases ds <;> first | exact fun _ _ _ => h | exact h.elim
  | cons t ts ih =>
    intro vs ds p h hts hs hsp
    cases vs with
    | nil => exact h.elim
    | cons v vs =>
      cases ds with
      | nil => exact h.elim
      | cons d ds =>
        obtain ⟨p, q, h0, h1, rfl⟩ := h
        exact ⟨p, q, WideElems.Trod_stays laidOut (hts t (by simp)).1 (hts t (by simp)).2 h0 (fun x hx => hs x (by simp [hx])) (fun x hx => hsp x (by simp [hx])), ih h1 (fun t ht => hts t (by simp [ht])) (fun x hx => hs x (by simp [hx])) (fun x hx => hsp x (by simp [hx])), rfl⟩

set_option maxRecDepth 100000 in
theorem openSl {α H : Type} {enc : TypeId × Value → H} {W : World} {base : Nat} {sp : Nat → Bool} {hd : Bool} {t e : TypeId} {r : Rp α} {D : DataW H → α → Prop} {v : Value} {d : DataW H} {p : List MemPlace} {rch : Reach} {b0 : Nat}
    (ht : Try.prog.underlying t = some (.slice e)) (hn : Try.prog.cellsOf e = r.n) (hpos : 0 < r.n) (hr : ∀ m, Rd enc W base sp hd e r D m) (hval : Value.okWide Try.prog W rch b0 t v) (h : DataW.Trod enc Try.prog W base sp hd t v d p) :
    ∃ a n c l, v = .slice a n c ∧ n ≤ c ∧ IsSl r (fun _ => True) W (.slice a n c) l ∧ ∀ i (h : i < l.length), ∃ x es spare, d = .slice es spare ∧ x ∈ es ∧ D x l[i] := by
  obtain ⟨fuel, h⟩ := h
  obtain ⟨a, n, c, l, h1, h2, h3, h4⟩ := sl_of_trod ht hn hpos (fun m _ => hr m) h
  refine ⟨a, n, c, l, ?_, h2, h3, h4⟩
  obtain ⟨a', n', c', rfl⟩ := okWide_slice ht hval
  simpa [Value.cells] using h1

set_option maxRecDepth 100000 in
theorem post_true {H : Type} {enc : TypeId × Value → H} {f : Func} {s : ChangeSpec} {fresh handsOn again apart : Bool} {W W' : World} {args : Array Value} {ds gs : List (DataW H)} {before : List MemPlace}
    (hW : DataW.Whole enc Try.prog f.params.toList s.vars apart W args.toList ds gs before) (hv : s.vars = []) (hts : ∀ t ∈ f.params.toList, Try.prog.readableRec t = true ∧ t < Try.prog.types.size)
    (hr : f.resultTypes = #[4]) (hfn : s.fn H (ds ++ gs) = { results := [.lit (.bool true)], args := ds }) (hb : Below W.heap.size W W') :
    s.post enc Try.prog f apart fresh handsOn again W args (.bool true) W' := by
  have hlt := hW.lt
  have hW' := hW
  obtain ⟨p, q, hA, hV, rfl, hz, hn⟩ := hW
  rw [hv] at hV
  obtain ⟨rfl, rfl⟩ := trodVars_none hV
  have hres : ∀ (b : Nat) (sp : Nat → Bool) (hd : Bool), DataW.TrodAll enc Try.prog W' b sp hd f.resultTypes.toList ((Value.bool true).resultList f.resultTypes.size) (s.fn H (ds ++ [])).results [] := fun _ _ _ => by
    rw [hr, hfn]; exact trodAll_cons_mk (shut_bool Try.underlying4 _) trodAll_mk0
  have hargs : ∀ sp : Nat → Bool, (∀ x ∈ p ++ [], sp x.block = true) → DataW.TrodAll enc Try.prog W' 0 sp true f.params.toList args.toList (s.fn H (ds ++ [])).args p := fun sp hs => by
    rw [hfn]; exact trodAll_stays hA hts (fun x hx => hb.same (hlt x (by simp [hx]))) (fun x hx => hs x (by simp [hx]))
  have hvars : ∀ sp : Nat → Bool, DataW.TrodVars enc Try.prog W' sp s.vars (s.fn H (ds ++ [])).vars [] := fun sp => by rw [hv, hfn]; rfl
  have hok := ok_one (P := Try.prog) (W' := W') (f := f) (v := .bool true) hr rfl (okWide_bool_mk Try.underlying4 _)
  refine ⟨ds, [], p ++ [], [], p, [], hW', hres _ _ _, hargs _ (fun x hx => by simpa using hlt x hx), hvars _, World.keptBut_mono (fun p hp => ⟨hp, .inr (by simpa using hp)⟩) (hb.frame _), fun _ => ?_⟩
  refine ⟨hok, _, _, ([] ++ p) ++ [], ⟨[] ++ p, [], trodAll_append (hargs _ (fun _ _ => rfl)) (hres _ _ _), hvars _, rfl, ?_, ?_⟩, ?_⟩
  · intro b off hp
    rw [hb.frozen (hlt (.cell b off) (by simpa using hp))]
    exact hz b off (by simpa using hp)
  · intro ha
    simpa using hn ha
  · intro x hx _
    simpa using hx
end Go.Proofs.Ytplfbdkljnblmaa

namespace Go.Proofs
open Go.Shelf
def Try.sortEnt_ren : Go.Shelf.Ren := ⟨fun | 6 => 30 | 15 => 36 | 14 => 35 | 28 => 46 | 29 => 47 | 20 => 38 | 21 => 39 | 22 => 40 | 23 => 41 | 24 => 42 | 25 => 43 | 26 => 44 | 27 => 45 | 46 => 48 | 47 => 49 | 48 => 50 | 49 => 51 | 50 => 52 | 57 => 53 | n => n, fun | 22 => 53 | 24 => 30 | 25 => 69 | 3 => 3 | 39 => 73 | 0 => 0 | 53 => 84 | 55 => 23 | 4 => 4 | 46 => 77 | 45 => 76 | 50 => 81 | 5 => 5 | 9 => 9 | 66 => 86 | 70 => 90 | 76 => 92 | 77 => 93 | n => n, fun | n => n⟩
theorem Try.sortEnt : Go.Proofs.SlLaysF0.n6 Try.prog Try.sortEnt_ren := {
  mixed := by kernel_rfl
  f6 := ⟨Try.f30.name, by decide, Try.func30.trans (congrArg some (by kernel_rfl))⟩
  f14 := ⟨Try.f35.name, by decide, Try.func35.trans (congrArg some (by kernel_rfl))⟩
  f15 := Try.func36.trans (congrArg some (by kernel_rfl))
  f20 := ⟨Try.f38.name, by decide, Try.func38.trans (congrArg some (by kernel_rfl))⟩
  f21 := ⟨Try.f39.name, by decide, Try.func39.trans (congrArg some (by kernel_rfl))⟩
  f22 := ⟨Try.f40.name, by decide, Try.func40.trans (congrArg some (by kernel_rfl))⟩
  f23 := ⟨Try.f41.name, by decide, Try.func41.trans (congrArg some (by kernel_rfl))⟩
  f24 := ⟨Try.f42.name, by decide, Try.func42.trans (congrArg some (by kernel_rfl))⟩
  f25 := ⟨Try.f43.name, by decide, Try.func43.trans (congrArg some (by kernel_rfl))⟩
  f26 := ⟨Try.f44.name, by decide, Try.func44.trans (congrArg some (by kernel_rfl))⟩
  f27 := ⟨Try.f45.name, by decide, Try.func45.trans (congrArg some (by kernel_rfl))⟩
  f28 := Try.func46.trans (congrArg some (by kernel_rfl))
  f29 := Try.func47.trans (congrArg some (by kernel_rfl))
  f46 := ⟨Try.f48.name, by decide, Try.func48.trans (congrArg some (by kernel_rfl))⟩
  f47 := Try.func49.trans (congrArg some (by kernel_rfl))
  f48 := Try.func50.trans (congrArg some (by kernel_rfl))
  f49 := ⟨Try.f51.name, by decide, Try.func51.trans (congrArg some (by kernel_rfl))⟩
  f50 := ⟨Try.f52.name, by decide, Try.func52.trans (congrArg some (by kernel_rfl))⟩
  f57 := ⟨Try.f53.name, by decide, Try.func53.trans (congrArg some (by kernel_rfl))⟩
  t0 := Try.underlying0
  a0 := Try.isAgg0
  z0 := Try.sizeOf0
  v0 := Try.zeroValue0
  t3 := Try.underlying3
  a3 := Try.isAgg3
  z3 := Try.sizeOf3
  v3 := Try.zeroValue3
  t4 := Try.underlying4
  a4 := Try.isAgg4
  z4 := Try.sizeOf4
  v4 := Try.zeroValue4
  t5 := Try.underlying5
  a5 := Try.isAgg5
  z5 := Try.sizeOf5
  v5 := Try.zeroValue5
  t9 := Try.underlying9
  a9 := Try.isAgg9
  z9 := Try.sizeOf9
  v9 := Try.zeroValue9
  t22 := Try.underlying53
  a22 := Try.isAgg53
  z22 := Try.sizeOf53
  v22 := Try.zeroValue53
  t25 := Try.underlying69
  a25 := Try.isAgg69
  z25 := Try.sizeOf69
  v25 := Try.zeroValue69
  t39 := Try.underlying73
  a39 := Try.isAgg73
  z39 := Try.sizeOf73
  v39 := Try.zeroValue73
  t45 := Try.underlying76
  a45 := Try.isAgg76
  z45 := Try.sizeOf76
  v45 := Try.zeroValue76
  t46 := Try.underlying77
  a46 := Try.isAgg77
  z46 := Try.sizeOf77
  v46 := Try.zeroValue77
  t50 := Try.underlying81
  a50 := Try.isAgg81
  z50 := Try.sizeOf81
  v50 := Try.zeroValue81
  t53 := Try.underlying84
  a53 := Try.isAgg84
  z53 := Try.sizeOf84
  v53 := Try.zeroValue84
  t55 := Try.underlying23
  a55 := Try.isAgg23
  z55 := Try.sizeOf23
  v55 := Try.zeroValue23
  t66 := Try.underlying86
  a66 := Try.isAgg86
  z66 := Try.sizeOf86
  v66 := Try.zeroValue86
  t70 := Try.underlying90
  a70 := Try.isAgg90
  z70 := Try.sizeOf90
  v70 := Try.zeroValue90
  t76 := Try.underlying92
  a76 := Try.isAgg92
  z76 := Try.sizeOf92
  v76 := Try.zeroValue92
  t77 := Try.underlying93
  a77 := Try.isAgg93
  z77 := Try.sizeOf93
  v77 := Try.zeroValue93 }
end Go.Proofs

namespace Go.Proofs.Ytplfbdkljnblmaa
open Go.RowKit Go.Maps

set_option maxRecDepth 100000 in
set_option maxHeartbeats 4000000 in
theorem waits_q {w : World} {q m n : Nat} {cs : Array Value} {t : TypeId} {L : List Ent} (hq : Blk w q cs t) (h7 : cs[7]? = some (.map (some m))) (hm : MapOf w m n L) (x : Ent) (hx : W64 x.key) :
    Calls Try.prog 29 #[.pointer (some ⟨q, 0, none⟩), x.v] w fun e w' => e = .returned (.bool (decide (findK L x.key = some x))) ∧ Below w.heap.size w w' := by
  obtain ⟨y, hy⟩ : ∃ y, (findK L x.key).getD Hp.z0 = y := ⟨_, rfl⟩
  obtain ⟨ok, hok⟩ : ∃ ok, (findK L x.key).isSome = ok := ⟨_, rfl⟩
  have Hl : Hid (∀ w', MapOf w' m n L → (Instr.lookup 60 (.map (some m)) (.int .i64 x.key) true).run Try.prog w' = .ok (.tuple #[y.v, .bool ok]) w') := fun w' h => by
    rw [← hy, ← hok]; exact h.look hx
  have Hr : Hid (decide (findK L x.key = some x) = (ok && decide (y = x))) := by
    show _ = _
    rw [← hy, ← hok]
    cases findK L x.key <;> simp
  rw [Hr.out]
  clear hy hok Hr
  obtain ⟨xk, xw, xg⟩ := x
  obtain ⟨yk, yw, yg⟩ := y
  unfold Ent.v at *
  dsimp only at *
  obtain ⟨wB, hwB⟩ : ∃ wB, w.alloc (.cells #[.int .i64 xk, .int .i64 xw, .int .i64 xg] 30) = wB := ⟨_, rfl⟩
  have B0 : Below w.heap.size w wB := by rw [← hwB]; exact (Below.refl _ _).alloc (Nat.le_refl _) _
  have x0 : Blk wB w.heap.size #[.int .i64 xk, .int .i64 xw, .int .i64 xg] 30 := by rw [← hwB]; exact Blk.new _ _ _ rfl
  have hqB := hq.below B0
  have hmB := hm.below B0
  go_enter Try.func29, Try.ntmps29
  go_wp2_with fail
  try rw [hwB]
  clear hwB
  refine wp_region_noPanic (wp_region_need (S := fun w' => w'.cell? ⟨q, 7, none⟩ = some (.map (some m)) ∧ w'.cell? ⟨w.heap.size, 0, none⟩ = some (.int .i64 xk) ∧ (Instr.lookup 60 (.map (some m)) (.int .i64 xk) true).run Try.prog w' = .ok (.tuple #[.agg #[.int .i64 yk, .int .i64 yw, .int .i64 yg], .bool ok]) w') (by kernel_rfl) ?_)
  have hS : (wB.drew).cell? ⟨q, 7, none⟩ = some (.map (some m)) ∧ (wB.drew).cell? ⟨w.heap.size, 0, none⟩ = some (.int .i64 xk) ∧ (Instr.lookup 60 (.map (some m)) (.int .i64 xk) true).run Try.prog (wB.drew) = .ok (.tuple #[.agg #[.int .i64 yk, .int .i64 yw, .int .i64 yg], .bool ok]) (wB.drew) := ⟨hqB.drew.cell h7, x0.drew.cell rfl, Hl.out _ hmB.drew⟩
  refine wpN_take (i := 0) (v := ?v1) rfl (by kernel_rfl) (fun _ _ _ h => h) hS (Or.inl ⟨by rfl, ?hy1⟩) ?hr1
  case hy1 => (intro wS hSw; (try dsimp only at hSw); go_simp; (try with_reducible rfl))
  try simp only [Act.put, List.setIfInBounds_toArray, List.set_cons_zero, List.set_cons_succ, List.getElem_toArray, List.getElem_cons_zero, List.getElem_cons_succ]
  refine wpN_take (i := 1) (v := ?v2) rfl (by kernel_rfl) (fun _ _ _ h => h) hS (Or.inl ⟨by rfl, ?hy2⟩) ?hr2
  case hy2 => (intro wS hSw; (try dsimp only at hSw); go_simp; (try with_reducible rfl))
  try simp only [Act.put, List.setIfInBounds_toArray, List.set_cons_zero, List.set_cons_succ, List.getElem_toArray, List.getElem_cons_zero, List.getElem_cons_succ]
  refine wpN_take (i := 2) (v := ?v3) rfl (by kernel_rfl) (fun _ _ _ h => h) hS (Or.inl ⟨by rfl, ?hy3⟩) ?hr3
  case hy3 => (intro wS hSw; (try dsimp only at hSw); go_simp; (try with_reducible rfl))
  try simp only [Act.put, List.setIfInBounds_toArray, List.set_cons_zero, List.set_cons_succ, List.getElem_toArray, List.getElem_cons_zero, List.getElem_cons_succ]
  refine wpN_take (i := 3) (v := ?v4) rfl (by kernel_rfl) (fun _ _ _ h => h) hS (Or.inl ⟨by rfl, ?hy4⟩) ?hr4
  case hy4 => (intro wS hSw; (try dsimp only at hSw); go_simp; (try with_reducible rfl))
  try simp only [Act.put, List.setIfInBounds_toArray, List.set_cons_zero, List.set_cons_succ, List.getElem_toArray, List.getElem_cons_zero, List.getElem_cons_succ]
  refine wpN_take (i := 4) (v := ?v5) rfl (by kernel_rfl) (fun _ _ _ h => h) hS (Or.inl ⟨by rfl, ?hy5⟩) ?hr5
  case hy5 => (intro wS hSw; (try dsimp only at hSw); go_simp; (try with_reducible rfl))
  try simp only [Act.put, List.setIfInBounds_toArray, List.set_cons_zero, List.set_cons_succ, List.getElem_toArray, List.getElem_cons_zero, List.getElem_cons_succ]
  refine wpN_take (i := 5) (v := ?v6) rfl (by kernel_rfl) (fun _ _ _ h => h) hS (Or.inl ⟨by rfl, ?hy6⟩) ?hr6
  case hy6 => (intro wS hSw; (try dsimp only at hSw); go_simp; (try with_reducible rfl))
  try simp only [Act.put, List.setIfInBounds_toArray, List.set_cons_zero, List.set_cons_succ, List.getElem_toArray, List.getElem_cons_zero, List.getElem_cons_succ]
  refine wpN_take (i := 6) (v := ?v7) rfl (by kernel_rfl) (fun _ _ _ h => h) hS (Or.inl ⟨by rfl, ?hy7⟩) ?hr7
  case hy7 => (intro wS hSw; (try dsimp only at hSw); go_simp; (try with_reducible rfl))
  try simp only [Act.put, List.setIfInBounds_toArray, List.set_cons_zero, List.set_cons_succ, List.getElem_toArray, List.getElem_cons_zero, List.getElem_cons_succ]
  refine wpN_pure (i := 7) (v := ?v8) rfl (by kernel_rfl) (fun _ _ _ h => h) (Or.inl ⟨by rfl, ?hy8⟩) ?hr8
  case hy8 => (intro wS hSw; go_simp; (try with_reducible rfl))
  try simp only [Act.put, List.setIfInBounds_toArray, List.set_cons_zero, List.set_cons_succ, List.getElem_toArray, List.getElem_cons_zero, List.getElem_cons_succ]
  refine wpN_pure (i := 8) (v := ?v9) rfl (by kernel_rfl) (fun _ _ _ h => h) (Or.inl ⟨by rfl, ?hy9⟩) ?hr9
  case hy9 => (intro wS hSw; go_simp; (try with_reducible rfl))
  try simp only [Act.put, List.setIfInBounds_toArray, List.set_cons_zero, List.set_cons_succ, List.getElem_toArray, List.getElem_cons_zero, List.getElem_cons_succ]
  refine wpN_pure (i := 9) (v := ?v10) rfl (by kernel_rfl) (fun _ _ _ h => h) (Or.inl ⟨by rfl, ?hy10⟩) ?hr10
  case hy10 => (intro wS hSw; go_simp; (try with_reducible rfl))
  try simp only [Act.put, List.setIfInBounds_toArray, List.set_cons_zero, List.set_cons_succ, List.getElem_toArray, List.getElem_cons_zero, List.getElem_cons_succ]
  refine wpN_step (i := 10) (by kernel_rfl) rfl (fun K hK => ?_)
  go_simp
  have hx1 := x0.alloc (.cells #[.int .i64 0, .int .i64 0, .int .i64 0] 30)
  have hq1 := hqB.alloc (.cells #[.int .i64 0, .int .i64 0, .int .i64 0] 30)
  have B1 := B0.alloc B0.size (.cells #[.int .i64 0, .int .i64 0, .int .i64 0] 30)
  have hm1 := hm.below B1
  have y1 : Blk (wB.alloc (.cells #[.int .i64 0, .int .i64 0, .int .i64 0] 30)) wB.heap.size _ _ := Blk.new _ _ _ rfl
  obtain ⟨w1, hw1⟩ : ∃ w1, (wB.alloc (.cells #[.int .i64 0, .int .i64 0, .int .i64 0] 30)).drew = w1 := ⟨_, rfl⟩
  have hx2 := hx1.drew
  have hq2 := hq1.drew
  have B2 := B1.drew
  have hm2 := hm1.drew
  have y2 := y1.drew
  rw [hw1] at hx2 hq2 B2 hm2 y2 ⊢
  clear hw1 hx1 hq1 B1 hm1 y1
  have hS : (w1).cell? ⟨q, 7, none⟩ = some (.map (some m)) ∧ (w1).cell? ⟨w.heap.size, 0, none⟩ = some (.int .i64 xk) ∧ (Instr.lookup 60 (.map (some m)) (.int .i64 xk) true).run Try.prog (w1) = .ok (.tuple #[.agg #[.int .i64 yk, .int .i64 yw, .int .i64 yg], .bool ok]) (w1) := ⟨hq2.cell h7, hx2.cell rfl, Hl.out _ hm2⟩
  refine hK.out _ _ (fun _ => hS) ?_
  clear hK K
  try simp only [Act.put, List.setIfInBounds_toArray, List.set_cons_zero, List.set_cons_succ, List.getElem_toArray, List.getElem_cons_zero, List.getElem_cons_succ]
  have f1 := y2.free 0; have f2 := y2.free 1; have f3 := y2.free 2
  have d0 := y2.cell (i := 0) rfl; have d1 := y2.cell (i := 1) rfl; have d2 := y2.cell (i := 2) rfl
  refine wpN_step (i := 11) (by kernel_rfl) rfl (fun K hK => ?_)
  go_simp
  obtain ⟨Y, hY⟩ : ∃ Y, wB.heap.size = Y := ⟨_, rfl⟩
  have hYs : w.heap.size < Y := by rw [← hY]; have := x0.lt; exact this
  rw [hY] at y2 ⊢
  have z0 := ((y2.set 0 (.int .i64 yk)).set 1 (.int .i64 yw)).set 2 (.int .i64 yg)
  have zx := ((hx2.far ⟨Y, 0, none⟩ (.int .i64 yk) (by simp; omega)).far ⟨Y, 1, none⟩ (.int .i64 yw) (by simp; omega)).far ⟨Y, 2, none⟩ (.int .i64 yg) (by simp; omega)
  have B3 := ((B2.setCell (p := ⟨Y, 0, none⟩) (by simp; omega) (.int .i64 yk)).setCell (p := ⟨Y, 1, none⟩) (by simp; omega) (.int .i64 yw)).setCell (p := ⟨Y, 2, none⟩) (by simp; omega) (.int .i64 yg)
  obtain ⟨w2, hw2⟩ : ∃ w2, ((w1.setCell ⟨Y, 0, none⟩ (.int .i64 yk)).setCell ⟨Y, 1, none⟩ (.int .i64 yw)).setCell ⟨Y, 2, none⟩ (.int .i64 yg) = w2 := ⟨_, rfl⟩
  rw [hw2] at z0 zx B3 ⊢
  clear hw2
  refine hK.out _ _ (fun h => absurd h (by decide)) ?_
  clear hK K
  try simp only [Act.put, List.setIfInBounds_toArray, List.set_cons_zero, List.set_cons_succ, List.getElem_toArray, List.getElem_cons_zero, List.getElem_cons_succ]
  refine wpN_pure (i := 12) (v := ?v11) rfl (by kernel_rfl) (fun _ _ _ h => h) (Or.inl ⟨by rfl, ?hy11⟩) ?hr11
  case hy11 => (intro wS hSw; go_simp; (try with_reducible rfl))
  try simp only [Act.put, List.setIfInBounds_toArray, List.set_cons_zero, List.set_cons_succ, List.getElem_toArray, List.getElem_cons_zero, List.getElem_cons_succ]
  refine wpN_done (by kernel_rfl) ?_
  refine NoPanic.normal ?_
  have e0 := z0.cell (i := 0) rfl; have e1 := z0.cell (i := 1) rfl; have e2 := z0.cell (i := 2) rfl
  have e3 := zx.cell (i := 0) rfl; have e4 := zx.cell (i := 1) rfl; have e5 := zx.cell (i := 2) rfl
  simp only [List.getElem?_toArray, Array.setIfInBounds, List.getElem?_cons_zero] at e0 e1 e2
  cases ok
  · go_wp2_with fail
    go_ret
    exact ⟨by simp, B3⟩
  · go_wp2_with fail
    all_goals
      go_ret
      refine ⟨?_, B3⟩
      first
        | (simp; done)
        | (simp; omega)
        | (simp_all; done)
        | (simp_all; omega)

theorem results_ent {fn : Func} {c u : Tmp} (h : fn.results = #[.cell c 30, .tmp u]) (tmps : Array Value) (w : World) {r : Nat} (hp : tmps.getD c undef = .pointer (some ⟨r, 0, none⟩)) {e : Ent} (hb : Blk w r #[.int .i64 e.key, .int .i64 e.weight, .int .i64 e.age] 30) :
    (results fn tmps).run Try.prog w = .ok (.tuple #[e.v, tmps.getD u undef]) w := by
  have c0 := hb.cell (i := 0) rfl; have c1 := hb.cell (i := 1) rfl; have c2 := hb.cell (i := 2) rfl
  rw [Array.getD_eq_getD_getElem?] at hp
  simp [results, h, hp]
  go_simp
  rfl

def lenAt (w : World) (q o : Nat) : Nat := match w.cell? ⟨q, o, none⟩ with
  | some (.slice _ n _) => n
  | _ => 0

def TopPost (lt : Ent → Ent → Bool) (q o : Nat) (cs : Array Value) (t : TypeId) (v : Value) (base : Nat) (l L : List Ent) (w : World) (e : Ending) (w' : World) : Prop :=
  ∃ v' l' gone, (Blk w' q (cs.setIfInBounds o v') t ∧ Row w' base v' l' ∧ v'.ownBlock = v.ownBlock) ∧ Hp.Heap lt l' ∧ l.Perm (gone ++ l') ∧ (∀ x ∈ gone, findK L x.key ≠ some x) ∧ Off (Turn q v) w w' ∧
    ((l' = [] ∧ e = .returned (.tuple #[Hp.z0.v, .bool false])) ∨ (0 < l'.length ∧ findK L (Hp.at_ l' 0).key = some (Hp.at_ l' 0) ∧ e = .returned (.tuple #[(Hp.at_ l' 0).v, .bool true])))

set_option maxRecDepth 100000 in
set_option maxHeartbeats 8000000 in
theorem top_q {f : FuncId} {lt : Ent → Ent → Bool} (hf : Fst f lt) (O : Hp.Ord lt) {w : World} {q o m n : Nat} {cs : Array Value} {t : TypeId} {v : Value} {l L : List Ent} {base : Nat} (hq : Blk w q cs t) (ho : cs[o]? = some v) (hf' : cs[o + 1]? = some (.func (.func f) #[] #[]))
    (h7 : cs[7]? = some (.map (some m))) (ho7 : o ≠ 7) (hr : Row w base v l) (hh : Hp.Heap lt l) (hv : v.ownBlock ≠ some q) (hvm : v.ownBlock ≠ some m) (hqm : m ≠ q) (hm : MapOf w m n L) (hw : ∀ e ∈ l, W64 e.key) (hl : l.length ≤ 900001) :
    Calls Try.prog 28 #[.pointer (some ⟨q, o, none⟩), .func (.func 29) #[.pointer (some ⟨q, 0, none⟩)] #[]] w (TopPost lt q o cs t v base l L w) := by
  obtain ⟨wB, hwB⟩ : ∃ wB, w.alloc (.cells #[.int .i64 0, .int .i64 0, .int .i64 0] 30) = wB := ⟨_, rfl⟩
  have B0 : Below w.heap.size w wB := by rw [← hwB]; exact (Below.refl _ _).alloc (Nat.le_refl _) _
  have x0 : Blk wB w.heap.size #[.int .i64 0, .int .i64 0, .int .i64 0] 30 := by rw [← hwB]; exact Blk.new _ _ _ rfl
  have hqB := hq.below B0
  have hmB := hm.below B0
  have hrB := hr.below B0
  go_enter Try.func28, Try.ntmps28
  go_wp2_with fail
  try rw [hwB]
  clear hwB
  have hvl := hr.base_le
  go_loopw [] (fun wr => ∃ (v' : Value) (l' gone : List Ent), Blk wr q (cs.setIfInBounds o v') t ∧ Row wr base v' l' ∧ v'.ownBlock = v.ownBlock ∧ Hid (Hp.Heap lt l') ∧ Hid (l.Perm (gone ++ l')) ∧ Hid (∀ x ∈ gone, findK L x.key ≠ some x) ∧ Off (Turn q v) w wr ∧ Blk wr w.heap.size #[.int .i64 0, .int .i64 0, .int .i64 0] 30) (fun wr => lenAt wr q o)
  case atStart =>
    have hss : cs.setIfInBounds o v = cs := by
      apply Array.ext_getElem?
      intro j
      by_cases hj : j = o
      · subst hj; rw [Array.getElem?_setIfInBounds_self_of_lt (Array.getElem?_eq_some_iff.1 ho).1, ho]
      · rw [Array.getElem?_setIfInBounds_ne (Ne.symm hj)]
    exact ⟨v, l, [], by rw [hss]; exact hqB, hrB, rfl, hh, List.Perm.refl _, fun x hx => by simp at hx, Off.of_below _ B0, x0⟩
  case round =>
    obtain ⟨v', l', gone, hq5, hr5, hvb, hh5, hp5, hg5, B5, hx5⟩ := hrel
    obtain ⟨cs5, hcs⟩ : ∃ cs5, cs.setIfInBounds o v' = cs5 := ⟨_, rfl⟩
    have ho5 : cs5[o]? = some v' := by rw [← hcs, Array.getElem?_setIfInBounds_self_of_lt (Array.getElem?_eq_some_iff.1 ho).1]
    have hf5 : cs5[o + 1]? = some (.func (.func f) #[] #[]) := by rw [← hcs, Array.getElem?_setIfInBounds_ne (by omega)]; exact hf'
    have h75 : cs5[7]? = some (.map (some m)) := by rw [← hcs, Array.getElem?_setIfInBounds_ne ho7]; exact h7
    have hm5 : MapOf wr m n L := hm.off B5 (fun h => by rcases h with h | h; exact hqm h; exact hvm h)
    have Hcs := Lib.hid hcs
    rw [hcs] at hq5
    clear hcs
    have c0 := hq5.cell ho5
    have Hll : Hid (l'.length ≤ 900001) := by show _ ≤ _; have := hp5.out.length_eq; simp at this; omega
    by_cases h0 : 0 < l'.length
    · obtain ⟨g, cap, rfl, hgb, hlc, hcm, hcell, hfree⟩ := hr5.open_ h0
      obtain ⟨a0, a1, a2⟩ := hcell 0 h0
      rw [← Hp.at_get] at a0 a1 a2
      obtain ⟨x, hx⟩ : ∃ x, Hp.at_ l' 0 = x := ⟨_, rfl⟩
      rw [hx] at a0 a1 a2
      simp only [Nat.zero_mul, Nat.zero_add] at a0 a1 a2
      have hxm : x ∈ l' := by rw [← hx, Hp.at_get h0]; exact List.getElem_mem h0
      have hxw : W64 x.key := hw x (hp5.out.mem_iff.2 (List.mem_append_right _ hxm))
      have Hx := Lib.hid hx; have Hxw := Lib.hid hxw
      clear hx hxm hxw hcell hfree
      obtain ⟨N, hN⟩ : ∃ N, l'.length = N := ⟨_, rfl⟩
      have HN := Lib.hid hN
      rw [hN] at c0 h0 Hll ho5 Hcs hr5 hvb
      clear hN
      have h0I : (0 : Int) < N := by omega
      have hNI : (N : Int) ≤ 900001 := by have := Hll.out; omega
      obtain ⟨xk, xw, xg⟩ := x
      dsimp only at a0 a1 a2
      have hxl := hx5.lt
      go_wp2_with fail
      refine (waits_q hq5 h75 hm5 ⟨xk, xw, xg⟩ Hxw.out).mono ?_
      rintro e w6 ⟨rfl, hb6⟩
      have B6 := B5.below hb6
      have hq6 := hq5.below hb6
      have hr6 := hr5.below hb6
      have hx6 := hx5.below hb6
      have hm6 := hm5.below hb6
      have K6 := (Keep.refl (fun _ => True) wr).below hb6
      have cW := Lib.hid c0
      have c0 := K6 _ _ _ trivial c0
      have a0 := K6 _ _ _ trivial a0; have a1 := K6 _ _ _ trivial a1; have a2 := K6 _ _ _ trivial a2
      clear hb6 K6
      by_cases hk : findK L xk = some ⟨xk, xw, xg⟩
      · have hd : decide (findK L (⟨xk, xw, xg⟩ : Ent).key = some ⟨xk, xw, xg⟩) = true := decide_eq_true hk
        rw [hd]
        have Hk := Lib.hid hk; clear hk hd
        have f1 := hx6.free 0; have f2 := hx6.free 1; have f3 := hx6.free 2
        have d0 := hx6.cell (i := 0) rfl; have d1 := hx6.cell (i := 1) rfl; have d2 := hx6.cell (i := 2) rfl
        go_wp2_with fail
        have z := ((hx6.set 0 (.int .i64 xk)).set 1 (.int .i64 xw)).set 2 (.int .i64 xg)
        have hxq : q ≠ w.heap.size := fun e => by have := hq.lt; omega
        have hqz := ((hq6.far ⟨w.heap.size, 0, none⟩ (.int .i64 xk) hxq).far ⟨w.heap.size, 1, none⟩ (.int .i64 xw) hxq).far ⟨w.heap.size, 2, none⟩ (.int .i64 xg) hxq
        have hgx : (Value.slice (some ⟨g, 0, none⟩) N cap).ownBlock ≠ some w.heap.size := fun e => by
          have := (hvl w.heap.size (by rw [← hvb]; exact e)).2; omega
        have hrz := ((hr6.far ⟨w.heap.size, 0, none⟩ (.int .i64 xk) hgx).far ⟨w.heap.size, 1, none⟩ (.int .i64 xw) hgx).far ⟨w.heap.size, 2, none⟩ (.int .i64 xg) hgx
        have Bz := ((B6.set ⟨w.heap.size, 0, none⟩ (.int .i64 xk) (.inr (Nat.le_refl _))).set ⟨w.heap.size, 1, none⟩ (.int .i64 xw) (.inr (Nat.le_refl _))).set ⟨w.heap.size, 2, none⟩ (.int .i64 xg) (.inr (Nat.le_refl _))
        (try simp only [Exit.inBlock, Exit.then]); refine bodyPost_ret (results_ent rfl _ _ rfl (e := ⟨xk, xw, xg⟩) z) rfl ?_
        refine ⟨_, l', gone, ⟨by rw [Hcs.out]; exact hqz, hrz, hvb⟩, hh5.out, hp5.out, hg5.out, Bz, .inr ⟨by rw [HN.out]; exact h0, by rw [Hx.out]; exact Hk.out, by rw [Hx.out]; rfl⟩⟩
      · have hd : decide (findK L (⟨xk, xw, xg⟩ : Ent).key = some ⟨xk, xw, xg⟩) = false := decide_eq_false hk
        rw [hd]
        have Hk := Lib.hid hk; clear hk hd
        go_wp2_with fail
        refine (pop_q hf O hq6 ho5 hf5 hr6 hh5.out (by rw [hvb]; exact hv) (by rw [HN.out]; exact Hll.out) (by rw [HN.out]; exact h0)).mono ?_
        rintro e w7 ⟨rfl, v7, l7, hq7, hr7, hp7, hh7, hvb7, B7⟩
        rw [← Hcs.out, Array.setIfInBounds_setIfInBounds] at hq7
        have Hp7 := Lib.hid hp7; have Hh7 := Lib.hid hh7; clear hp7 hh7
        go_wp2_with fail
        go_roundw
        case rel =>
          refine ⟨v7, l7, gone ++ [⟨xk, xw, xg⟩], hq7, hr7, hvb7.trans hvb, Hh7.out, ?_, ?_, B6.trans (B7.mono fun k hk h => h.imp id fun h => by rw [← hvb]; exact h), B7.blk hx6 ?_⟩
          · have h := Hp7.out
            rw [Hx.out] at h
            have := hp5.out.trans (List.Perm.append_left gone h)
            rw [List.append_assoc]; exact this
          · intro x hx
            rcases List.mem_append.1 hx with hx | hx
            · exact hg5.out x hx
            · simp at hx; subst hx; exact Hk.out
          · rintro (h | h)
            · have := hq.lt; omega
            · have := (hvl w.heap.size (by rw [← hvb]; exact h)).2; omega
        case measure =>
          obtain ⟨a7, c7, rfl⟩ := hr7.shape
          have hlen := Hp7.out.length_eq
          rw [HN.out] at hlen
          have e1 : w7.cell? ⟨q, o, none⟩ = some (.slice a7 l7.length c7) := hq7.cell (by rw [Array.getElem?_setIfInBounds_self_of_lt (Array.getElem?_eq_some_iff.1 ho).1])
          have e2 := cW.out
          unfold lenAt
          rw [e1, e2]
          simp at hlen ⊢
          omega
    · have hl0 : l' = [] := List.length_eq_zero_iff.1 (by omega)
      obtain ⟨a', c', hvs⟩ := hr5.shape
      rw [hl0] at hvs
      simp only [List.length_nil] at hvs
      subst hvs
      have f1 := hx5.free 0; have f2 := hx5.free 1; have f3 := hx5.free 2
      have d0 := hx5.cell (i := 0) rfl; have d1 := hx5.cell (i := 1) rfl; have d2 := hx5.cell (i := 2) rfl
      have hxl := hx5.lt
      go_wp2_with fail
      have z := (((hx5.set 0 (.int .i64 0)).set 1 (.int .i64 0)).set 2 (.int .i64 0)).alloc (.cells #[.int .i64 0, .int .i64 0, .int .i64 0] 30)
      have hxq : q ≠ w.heap.size := fun e => by have := hq.lt; omega
      have hqz := (((hq5.far ⟨w.heap.size, 0, none⟩ (.int .i64 0) hxq).far ⟨w.heap.size, 1, none⟩ (.int .i64 0) hxq).far ⟨w.heap.size, 2, none⟩ (.int .i64 0) hxq).alloc (.cells #[.int .i64 0, .int .i64 0, .int .i64 0] 30)
      have hgx : (Value.slice a' 0 c').ownBlock ≠ some w.heap.size := fun e => by
        have := (hvl w.heap.size (by rw [← hvb]; exact e)).2; omega
      have hrz := (((hr5.far ⟨w.heap.size, 0, none⟩ (.int .i64 0) hgx).far ⟨w.heap.size, 1, none⟩ (.int .i64 0) hgx).far ⟨w.heap.size, 2, none⟩ (.int .i64 0) hgx).below ((Below.refl _ _).alloc (Nat.le_refl _) (.cells #[.int .i64 0, .int .i64 0, .int .i64 0] 30))
      have Bz := (((B5.set ⟨w.heap.size, 0, none⟩ (.int .i64 0) (.inr (Nat.le_refl _))).set ⟨w.heap.size, 1, none⟩ (.int .i64 0) (.inr (Nat.le_refl _))).set ⟨w.heap.size, 2, none⟩ (.int .i64 0) (.inr (Nat.le_refl _))).alloc (.cells #[.int .i64 0, .int .i64 0, .int .i64 0] 30)
      (try simp only [Exit.inBlock, Exit.then]); refine bodyPost_ret (results_ent rfl _ _ rfl (e := ⟨0, 0, 0⟩) z) rfl ?_
      exact ⟨_, l', gone, ⟨by rw [Hcs.out]; exact hqz, hrz, hvb⟩, hh5.out, hp5.out, hg5.out, Bz, .inl ⟨hl0, rfl⟩⟩
end Go.Proofs.Ytplfbdkljnblmaa

namespace Go.Proofs.Ytplfbdkljnblmaa

section
variable {P : Program} {ops : Array Oper} {Q : Exit → Act → World → Prop} {md : Region.Mode} {S : World → Prop}

theorem wpN_pick (rs : List Nat) {n : Nat} {listed : Array Bool} {a : Act} {w : World} (hr : Region.ready md ops listed = rs) (hne : rs ≠ [])
    (h : ∀ i ∈ rs, wpOp P ops Q i (fun a' w' => (asksS ops i = true → S w') ∧ wpN P md ops Q S n (listed.setIfInBounds i true) a' w') a w) : wpN P md ops Q S (n + 1) listed a w :=
  ⟨fun h0 => absurd (hr.symm.trans h0) hne, fun i hi => wpOp_mono (fun _ _ hh => ⟨fun ha _ => hh.1 ha, hh.2⟩) (h i (by rw [hr] at hi; exact hi))⟩

theorem wpN_name {n : Nat} {listed : Array Bool} {a : Act} {w : World}
    (h : ∀ ops' Q' S' a', ops' = ops → Q' = Q → S' = S → a' = a → wpN P md ops' Q' S' n listed a' w) : wpN P md ops Q S n listed a w := h _ _ _ _ rfl rfl rfl rfl

def waitsFor (md : Region.Mode) (ops : Array Oper) (listed : Array Bool) (i : Nat) (D : List Nat) : Bool :=
  D.all fun k => !(listed.getD k true) && match ops[k]? with
    | some o => o.after.any fun e => Region.binds md e && (e.on == i || D.contains e.on)
    | none => false
def freeBut (ops : Array Oper) (listed : Array Bool) (i : Nat) (D : List Nat) : Bool :=
  match ops[i]? with
  | none => false
  | some oi => (List.range ops.size).all fun j => j == i || listed.getD j true || D.contains j || match ops[j]? with
    | some oj => oi.apart ops oj && asksS ops j
    | none => true

theorem waits_not_ready {i j : Nat} {D : List Nat} {listed : Array Bool} (hw : ∀ k ∈ D, listed.getD k true = false ∧ ∃ o, ops[k]? = some o ∧ ∃ e ∈ o.after, Region.binds md e = true ∧ (e.on = i ∨ e.on ∈ D)) (hi : listed.getD i true = false) (hj : j ∈ D) : j ∉ Region.ready md ops listed := by
  intro hr
  obtain ⟨_, o, ho, hall⟩ := mem_ready.1 hr
  obtain ⟨_, o', ho', e, he, hb, hon⟩ := hw j hj
  rw [ho] at ho'; cases ho'
  have hl := hall e he hb
  have hun : listed.getD e.on true = false := by
    rcases hon with h | h
    · rw [h]; exact hi
    · exact (hw _ h).1
  rcases Nat.lt_or_ge e.on listed.size with hlt | hge
  · simp [hlt] at hun hl; rw [hun] at hl; cases hl
  · simp [Array.getElem?_eq_none hge] at hl

theorem wpN_firstD {i : Nat} {oi : Oper} {v : Value} {D : List Nat} (hi : ops[i]? = some oi) (hiD : i ∉ D) (hsel : ∀ (j : Nat) (o : Oper) cs b, ops[j]? = some o → o.op ≠ .select cs b)
    (hQ : ∀ c a w, Q (.panic c) (a.put oi.dst v) w → Q (.panic c) a w) (hai : asksS ops i = true) :
    ∀ (n : Nat) (listed : Array Bool) (a : Act) (w : World),
      (∀ k ∈ D, listed.getD k true = false ∧ ∃ o, ops[k]? = some o ∧ ∃ e ∈ o.after, Region.binds md e = true ∧ (e.on = i ∨ e.on ∈ D)) →
      (∀ j oj, ops[j]? = some oj → j ≠ i → listed.getD j true = false → j ∉ D → oi.apart ops oj = true ∧ asksS ops j = true) →
      i ∈ Region.ready md ops listed → YieldsIf P ops S oi v a → S w →
      wpN P md ops Q S n (listed.setIfInBounds i true) (a.put oi.dst v) w → wpN P md ops Q S (n + 1) listed a w := by
  intro n
  induction n with
  | zero =>
    intro listed a w _ _ hr hy hS H
    refine ⟨fun h0 => (by rw [h0] at hr; cases hr), fun j hj => ?_⟩
    by_cases hji : j = i
    · subst hji; exact hy.wpOp hi hS ⟨fun _ h => h, H⟩
    · have h0 := ready_mono hj hji
      rw [H.1] at h0; cases h0
  | succ n ih =>
    intro listed a w hw hfree hr hy hS H
    refine ⟨fun h0 => (by rw [h0] at hr; cases hr), fun j hj => ?_⟩
    by_cases hji : j = i
    · subst hji; exact hy.wpOp hi hS ⟨fun _ h => h, H⟩
    · have hrest := H.2 j (ready_mono hj hji)
      obtain ⟨hjun, oj, hoj, hall⟩ := mem_ready.1 hj
      have hiun := (mem_ready.1 hr).1
      have hjD : j ∉ D := fun h => waits_not_ready hw hiun h hj
      obtain ⟨hap, haj⟩ := hfree j oj hoj hji hjun hjD
      have hput := wpOp_putIf hoj hap (fun cs b => hsel i oi cs b hi) (fun cs b => hsel j oj cs b hoj) hQ hy hrest
      refine wpOp_mono (fun a' w' hh => ?_) hput
      obtain ⟨hy', hSw, hw'⟩ := hh
      refine ⟨hSw, ih (listed.setIfInBounds j true) a' w' ?_ ?_ (ready_mono hr (Ne.symm hji)) hy' (hSw haj hS) ?_⟩
      · intro k hk
        have hkj : j ≠ k := fun h => hjD (h ▸ hk)
        refine ⟨?_, (hw k hk).2⟩
        rw [getD_set_ne true hkj]; exact (hw k hk).1
      · intro k ok hk hki hun hkD
        refine hfree k ok hk hki ?_ hkD
        by_cases hjk : j = k
        · subst hjk; exact hjun
        · rw [getD_set_ne true hjk] at hun; exact hun
      · rw [Array.setIfInBounds_comm _ _ hji]; exact hw'

theorem wpN_takeD (D : List Nat) {i : Nat} {oi : Oper} {v : Value} {n : Nat} {listed : Array Bool} {a : Act} {w : World} (hi : ops[i]? = some oi)
    (hs : (Region.noSelect ops && freeBut ops listed i D && (Region.ready md ops listed).contains i && asksS ops i && waitsFor md ops listed i D && !(D.contains i)) = true)
    (hQ : ∀ c a w, Q (.panic c) (a.put oi.dst v) w → Q (.panic c) a w) (hS : S w) (hy : YieldsIf P ops S oi v a)
    (h : wpN P md ops Q S n (listed.setIfInBounds i true) (a.put oi.dst v) w) : wpN P md ops Q S (n + 1) listed a w := by
  simp only [Bool.and_eq_true] at hs
  obtain ⟨⟨⟨⟨⟨h1, h2⟩, h3⟩, h4⟩, h5⟩, h6⟩ := hs
  refine wpN_firstD (D := D) hi (by simpa using h6) (Region.noSelect_spec h1) hQ h4 n listed a w (fun k hk => ?_) (fun j oj hj hne hun hD => ?_) (by simpa using h3) hy hS h
  · simp only [waitsFor, List.all_eq_true] at h5
    have h7 := h5 k hk
    simp only [Bool.and_eq_true, Bool.not_eq_true'] at h7
    refine ⟨h7.1, ?_⟩
    have h8 := h7.2
    cases ho : ops[k]? with
    | none => rw [ho] at h8; cases h8
    | some o =>
      rw [ho] at h8
      obtain ⟨e, he, hb⟩ := Array.any_eq_true'.1 h8
      simp only [Bool.and_eq_true, Bool.or_eq_true, beq_iff_eq, List.contains_iff_mem] at hb
      exact ⟨o, rfl, e, he, hb.1, hb.2⟩
  · simp only [freeBut, hi, List.all_eq_true, List.mem_range] at h2
    have h7 := h2 j (Array.getElem?_eq_some_iff.1 hj).1
    simp only [hj, Bool.or_eq_true, beq_iff_eq, hne, hun, Bool.false_eq_true, false_or, List.contains_iff_mem, hD, Bool.and_eq_true] at h7
    exact h7

theorem pick_two {p : Nat → Prop} {i j : Nat} (hi : p i) (hj : p j) : ∀ x ∈ [i, j], p x := by
  intro x hx
  simp only [List.mem_cons, List.not_mem_nil, or_false] at hx
  rcases hx with rfl | rfl
  · exact hi
  · exact hj
theorem pick_three {p : Nat → Prop} {i j k : Nat} (hi : p i) (hj : p j) (hk : p k) : ∀ x ∈ [i, j, k], p x := by
  intro x hx
  simp only [List.mem_cons, List.not_mem_nil, or_false] at hx
  rcases hx with rfl | rfl | rfl
  · exact hi
  · exact hj
  · exact hk
theorem pick_one {p : Nat → Prop} {i : Nat} (hi : p i) : ∀ x ∈ [i], p x := by
  intro x hx
  simp only [List.mem_cons, List.not_mem_nil, or_false] at hx
  rcases hx with rfl
  exact hi
end
end Go.Proofs.Ytplfbdkljnblmaa

namespace Go.Proofs.Ytplfbdkljnblmaa
open Go.RowKit Go.Maps

structure QS where
  period : Int
  taken : Int
  put : Nat
  L : List Ent

structure QInv (s : QS) (light old : List Ent) : Prop where
  per : 1 ≤ s.period ∧ s.period ≤ 1000
  tak : 0 ≤ s.taken ∧ s.taken ≤ 800000
  many : s.put ≤ 800000
  keys : (s.L.map Ent.key).Nodup
  ages : s.L.Pairwise fun a b => a.age < b.age
  inl : ∀ e ∈ s.L, e ∈ light
  ino : ∀ e ∈ s.L, e ∈ old
  wkl : ∀ e ∈ light, W64 e.key
  wko : ∀ e ∈ old, W64 e.key
  last : ∀ e ∈ s.L, e.age < s.put
  lenl : light.length ≤ s.put
  leno : old.length ≤ s.put

def qCells (s : QS) (lv ov : Value) (m : Nat) : Array Value :=
  #[.int .i64 s.period, .int .i64 s.taken, .int .i64 s.put, lv, .func (.func 22) #[] #[], ov, .func (.func 23) #[] #[], .map (some m)]

structure QMem (F : Nat → Prop) (w : World) (q : Nat) (s : QS) (lv ov : Value) (m n : Nat) (light old : List Ent) : Prop where
  inv : QInv s light old
  blk : Blk w q (qCells s lv ov m) 62
  rl : Row w 0 lv light
  ro : Row w 0 ov old
  mp : MapOf w m n s.L
  hn : n ≤ s.put
  hl : Hp.Heap Hp.lighter light
  ho : Hp.Heap Hp.elder old
  lq : lv.ownBlock ≠ some q
  lm : lv.ownBlock ≠ some m
  oq : ov.ownBlock ≠ some q
  om : ov.ownBlock ≠ some m
  mq : m ≠ q
  lo : ∀ g, lv.ownBlock = some g → ov.ownBlock ≠ some g
  fq : F q
  fm : F m
  fl : ∀ g, lv.ownBlock = some g → F g
  fo : ∀ g, ov.ownBlock = some g → F g
def QueueAt (F : Nat → Prop) (w : World) (q : Nat) (s : QS) : Prop := ∃ lv ov m n light old, QMem F w q s lv ov m n light old

theorem Row.off {w w' : World} {base : Nat} {v : Value} {l : List Ent} {F : Nat → Prop} (h : Row w base v l) (ho : Off F w w') (hF : ∀ g, v.ownBlock = some g → ¬ F g) : Row w' base v l := by
  rcases h with ⟨h1, h2 | ⟨g, cap, cur, rfl, hb, hc, h3⟩⟩
  · exact ⟨h1, .inl h2⟩
  · exact ⟨h1, .inr ⟨g, cap, cur, rfl, hb, (ho.block g (Array.getElem?_eq_some_iff.1 hc).1 (hF g rfl)).trans hc, h3⟩⟩

def QB (q m : Nat) (lv ov : Value) (k : Nat) : Prop := k = q ∨ k = m ∨ lv.ownBlock = some k ∨ ov.ownBlock = some k
theorem QMem.qb {F : Nat → Prop} {w : World} {q : Nat} {s : QS} {lv ov : Value} {m n : Nat} {light old : List Ent} (h : QMem F w q s lv ov m n light old) {k : Nat} (hk : QB q m lv ov k) : k < w.heap.size ∧ F k := by
  rcases hk with rfl | rfl | hk | hk
  · exact ⟨h.blk.lt, h.fq⟩
  · exact ⟨h.mp.lt, h.fm⟩
  · exact ⟨(h.rl.base_le k hk).2, h.fl k hk⟩
  · exact ⟨(h.ro.base_le k hk).2, h.fo k hk⟩
theorem QMem.off {F G : Nat → Prop} {w w' : World} {q : Nat} {s : QS} {lv ov : Value} {m n : Nat} {light old : List Ent} (h : QMem F w q s lv ov m n light old) (ho : Off G w w') (hG : ∀ k, QB q m lv ov k → ¬ G k) : QMem F w' q s lv ov m n light old :=
  { h with
    blk := ho.blk h.blk (hG _ (.inl rfl))
    rl := h.rl.off ho fun g hg => hG g (.inr (.inr (.inl hg)))
    ro := h.ro.off ho fun g hg => hG g (.inr (.inr (.inr hg)))
    mp := h.mp.off ho (hG _ (.inr (.inl rfl))) }
theorem QueueAt.off {F G : Nat → Prop} {w w' : World} {q : Nat} {s : QS} (h : QueueAt F w q s) (ho : Off G w w') (hG : ∀ k, k < w.heap.size → F k → ¬ G k) : QueueAt F w' q s := by
  obtain ⟨lv, ov, m, n, light, old, h⟩ := h
  exact ⟨lv, ov, m, n, light, old, h.off ho fun k hk => hG k (h.qb hk).1 (h.qb hk).2⟩
theorem QueueAt.below {F : Nat → Prop} {w w' : World} {q : Nat} {s : QS} (h : QueueAt F w q s) (hb : Below w.heap.size w w') : QueueAt F w' q s :=
  h.off (Off.of_below (fun _ => False) hb) fun _ _ _ h => h
theorem QueueAt.weaken {F G : Nat → Prop} {w : World} {q : Nat} {s : QS} (h : QueueAt F w q s) (hG : ∀ k, F k → G k) : QueueAt G w q s := by
  obtain ⟨lv, ov, m, n, light, old, h⟩ := h
  exact ⟨lv, ov, m, n, light, old, { h with fq := hG _ h.fq, fm := hG _ h.fm, fl := fun g hg => hG _ (h.fl g hg), fo := fun g hg => hG _ (h.fo g hg) }⟩

theorem findK_mem {L : List Ent} {k : Int} {e : Ent} (h : findK L k = some e) : e ∈ L ∧ e.key = k := by
  unfold findK at h
  exact ⟨List.mem_of_find?_eq_some h, by have := List.find?_some h; simpa using this⟩
theorem findK_of_mem {L : List Ent} (hL : (L.map Ent.key).Nodup) {e : Ent} (he : e ∈ L) : findK L e.key = some e := by
  induction L with
  | nil => cases he
  | cons x L ih =>
    simp only [List.map_cons, List.nodup_cons] at hL
    unfold findK
    rcases List.mem_cons.1 he with rfl | he
    · simp
    · have : x.key ≠ e.key := fun h => hL.1 (h ▸ List.mem_map.2 ⟨e, he, rfl⟩)
      rw [List.find?_cons_of_neg (by simpa using this)]
      exact ih hL.2 he
theorem findK_none {L : List Ent} {k : Int} (h : findK L k = none) : ∀ e ∈ L, e.key ≠ k := by
  unfold findK at h
  intro e he hk
  have := List.find?_eq_none.1 h e he
  simp [hk] at this

def QS.lt (s : QS) : Ent → Ent → Bool := if (s.taken + 1).tmod s.period = 0 then Hp.elder else Hp.lighter

def PeekRes (s : QS) (e : Ending) : Prop :=
  (s.L = [] ∧ e = .returned (.tuple #[Hp.z0.v, .bool false])) ∨ ∃ x ∈ s.L, (∀ y ∈ s.L, s.lt y x = false) ∧ e = .returned (.tuple #[x.v, .bool true])

theorem top_says {lt : Ent → Ent → Bool} (O : Hp.Ord lt) {l l' gone L : List Ent} (hk : (L.map Ent.key).Nodup) (hin : ∀ e ∈ L, e ∈ l) (hp : l.Perm (gone ++ l')) (hg : ∀ x ∈ gone, findK L x.key ≠ some x) (hh : Hp.Heap lt l') :
    (∀ e ∈ L, e ∈ l') ∧ (l' = [] → L = []) ∧ (0 < l'.length → findK L (Hp.at_ l' 0).key = some (Hp.at_ l' 0) → Hp.at_ l' 0 ∈ L ∧ ∀ y ∈ L, lt y (Hp.at_ l' 0) = false) := by
  have h1 : ∀ e ∈ L, e ∈ l' := fun e he => by
    have := hp.mem_iff.1 (hin e he)
    rcases List.mem_append.1 this with h | h
    · exact absurd (findK_of_mem hk he) (hg e h)
    · exact h
  refine ⟨h1, fun h => ?_, fun h0 hf => ⟨(findK_mem hf).1, fun y hy => ?_⟩⟩
  · rw [List.eq_nil_iff_forall_not_mem]
    intro e he
    have := h1 e he
    rw [h] at this; cases this
  · obtain ⟨j, hj, he⟩ := List.getElem_of_mem (h1 y hy)
    rw [← he, ← Hp.at_get hj]
    exact hh.first O j hj

theorem QMem.topOld {F : Nat → Prop} {w w' : World} {q : Nat} {s : QS} {lv ov : Value} {m n : Nat} {light old : List Ent} (h : QMem F w q s lv ov m n light old) {e : Ending} (ht : TopPost Hp.elder q 5 (qCells s lv ov m) 62 ov 0 old s.L w e w') :
    (∃ ov' old', QMem F w' q s lv ov' m n light old' ∧ ov'.ownBlock = ov.ownBlock) ∧ Off (Turn q ov) w w' ∧ ((s.L = [] ∧ e = .returned (.tuple #[Hp.z0.v, .bool false])) ∨ ∃ x ∈ s.L, (∀ y ∈ s.L, Hp.elder y x = false) ∧ e = .returned (.tuple #[x.v, .bool true])) := by
  obtain ⟨v', l', gone, ⟨h1, h2, h3⟩, h4, h5, h6, h7, h8⟩ := ht
  obtain ⟨t1, t2, t3⟩ := top_says Hp.elder_ord h.inv.keys h.inv.ino h5 h6 h4
  have hlen := h5.length_eq
  simp only [List.length_append] at hlen
  refine ⟨⟨v', l', { h with inv := { h.inv with ino := t1, wko := fun e he => h.inv.wko e (h5.mem_iff.2 (List.mem_append_right _ he)), leno := by have := h.inv.leno; omega }, blk := h1, rl := ?_, ro := h2, mp := ?_, ho := h4, oq := by rw [h3]; exact h.oq, om := by rw [h3]; exact h.om, lo := fun g hg => by rw [h3]; exact h.lo g hg, fo := fun g hg => h.fo g (by rw [← h3]; exact hg) }, h3⟩, h7, ?_⟩
  · exact h.rl.off h7 fun g hg => by rintro (rfl | e); exact h.lq hg; exact h.lo g hg e
  · exact h.mp.off h7 (by rintro (e | e); exact h.mq e; exact h.om e)
  · rcases h8 with ⟨h8, h9⟩ | ⟨h8, h9, h10⟩
    · exact .inl ⟨t2 h8, h9⟩
    · exact .inr ⟨_, (t3 h8 h9).1, (t3 h8 h9).2, h10⟩
theorem QMem.topLight {F : Nat → Prop} {w w' : World} {q : Nat} {s : QS} {lv ov : Value} {m n : Nat} {light old : List Ent} (h : QMem F w q s lv ov m n light old) {e : Ending} (ht : TopPost Hp.lighter q 3 (qCells s lv ov m) 62 lv 0 light s.L w e w') :
    (∃ lv' light', QMem F w' q s lv' ov m n light' old ∧ lv'.ownBlock = lv.ownBlock) ∧ Off (Turn q lv) w w' ∧ ((s.L = [] ∧ e = .returned (.tuple #[Hp.z0.v, .bool false])) ∨ ∃ x ∈ s.L, (∀ y ∈ s.L, Hp.lighter y x = false) ∧ e = .returned (.tuple #[x.v, .bool true])) := by
  obtain ⟨v', l', gone, ⟨h1, h2, h3⟩, h4, h5, h6, h7, h8⟩ := ht
  obtain ⟨t1, t2, t3⟩ := top_says Hp.lighter_ord h.inv.keys h.inv.inl h5 h6 h4
  have hlen := h5.length_eq
  simp only [List.length_append] at hlen
  refine ⟨⟨v', l', { h with inv := { h.inv with inl := t1, wkl := fun e he => h.inv.wkl e (h5.mem_iff.2 (List.mem_append_right _ he)), lenl := by have := h.inv.lenl; omega }, blk := h1, rl := h2, ro := ?_, mp := ?_, hl := h4, lq := by rw [h3]; exact h.lq, lm := by rw [h3]; exact h.lm, lo := fun g hg => h.lo g (by rw [← h3]; exact hg), fl := fun g hg => h.fl g (by rw [← h3]; exact hg) }, h3⟩, h7, ?_⟩
  · exact h.ro.off h7 fun g hg => by rintro (rfl | e); exact h.oq hg; exact h.lo g e hg
  · exact h.mp.off h7 (by rintro (e | e); exact h.mq e; exact h.lm e)
  · rcases h8 with ⟨h8, h9⟩ | ⟨h8, h9, h10⟩
    · exact .inl ⟨t2 h8, h9⟩
    · exact .inr ⟨_, (t3 h8 h9).1, (t3 h8 h9).2, h10⟩

set_option maxRecDepth 100000 in
set_option maxHeartbeats 4000000 in
theorem peek_q {F : Nat → Prop} {w : World} {q : Nat} {s : QS} (h : QueueAt F w q s) :
    Calls Try.prog 16 #[.pointer (some ⟨q, 0, none⟩)] w fun e w' => PeekRes s e ∧ QueueAt F w' q s ∧ Off F w w' := by
  obtain ⟨lv, ov, m, n, light, old, h⟩ := h
  obtain ⟨wB, hwB⟩ : ∃ wB, w.alloc (.cells #[.int .i64 0, .int .i64 0, .int .i64 0] 30) = wB := ⟨_, rfl⟩
  have B0 : Below w.heap.size w wB := by rw [← hwB]; exact (Below.refl _ _).alloc (Nat.le_refl _) _
  have x0 : Blk wB w.heap.size #[.int .i64 0, .int .i64 0, .int .i64 0] 30 := by rw [← hwB]; exact Blk.new _ _ _ rfl
  have hqB := h.blk.below B0
  have Hh := Lib.hid h
  have p1 := h.inv.per.1
  have p2 := h.inv.per.2
  have p3 := h.inv.tak.1
  have p4 := h.inv.tak.2
  clear h
  obtain ⟨per, tak, put, L⟩ := s
  unfold qCells at hqB
  dsimp only at *
  have p5 : ¬ per = 0 := by omega
  have p6 : IntKind.i64.wrap (tak + 1) = tak + 1 := IntWalk.i64_in _ (by omega)
  go_enter Try.func16, Try.ntmps16
  go_wp2_with fail
  try rw [hwB]
  clear hwB
  have c0 : wB.cell? ⟨q, 0, none⟩ = some (.int .i64 per) := hqB.cell rfl
  have c1 : wB.cell? ⟨q, 1, none⟩ = some (.int .i64 tak) := hqB.cell rfl
  refine wp_region_noPanic (wp_region_need (S := fun w' => w'.cell? ⟨q, 1, none⟩ = some (.int .i64 tak) ∧ w'.cell? ⟨q, 0, none⟩ = some (.int .i64 per)) (by kernel_rfl) ?_)
  have hS : (wB.drew).cell? ⟨q, 1, none⟩ = some (.int .i64 tak) ∧ (wB.drew).cell? ⟨q, 0, none⟩ = some (.int .i64 per) := ⟨c1, c0⟩
  refine wpN_pure (i := 0) (v := ?v1) rfl (by kernel_rfl) (fun _ _ _ h => h) (Or.inl ⟨by rfl, ?hy1⟩) ?hr1
  case hy1 => (intro wS hSw; go_simp; (try with_reducible rfl))
  try simp only [Act.put, List.setIfInBounds_toArray, List.set_cons_zero, List.set_cons_succ, List.getElem_toArray, List.getElem_cons_zero, List.getElem_cons_succ]
  refine wpN_pure (i := 1) (v := ?v2) rfl (by kernel_rfl) (fun _ _ _ h => h) (Or.inl ⟨by rfl, ?hy2⟩) ?hr2
  case hy2 => (intro wS hSw; go_simp; (try with_reducible rfl))
  try simp only [Act.put, List.setIfInBounds_toArray, List.set_cons_zero, List.set_cons_succ, List.getElem_toArray, List.getElem_cons_zero, List.getElem_cons_succ]
  refine wpN_pure (i := 2) (v := ?v3) rfl (by kernel_rfl) (fun _ _ _ h => h) (Or.inl ⟨by rfl, ?hy3⟩) ?hr3
  case hy3 => (intro wS hSw; go_simp; (try with_reducible rfl))
  try simp only [Act.put, List.setIfInBounds_toArray, List.set_cons_zero, List.set_cons_succ, List.getElem_toArray, List.getElem_cons_zero, List.getElem_cons_succ]
  refine wpN_takeD [4, 9, 10, 11] (i := 3) (v := ?v4) rfl (by kernel_rfl) (fun _ _ _ h => h) hS (Or.inl ⟨by rfl, ?hy4⟩) ?hr4
  case hy4 => (intro wS hSw; (try dsimp only at hSw); go_simp; (try with_reducible rfl))
  try simp only [Act.put, List.setIfInBounds_toArray, List.set_cons_zero, List.set_cons_succ, List.getElem_toArray, List.getElem_cons_zero, List.getElem_cons_succ]
  refine wpN_pure (i := 4) (v := ?v5) rfl (by kernel_rfl) (fun _ _ _ h => h) (Or.inl ⟨by rfl, ?hy5⟩) ?hr5
  case hy5 => (intro wS hSw; go_simp; (try with_reducible rfl))
  try simp only [Act.put, List.setIfInBounds_toArray, List.set_cons_zero, List.set_cons_succ, List.getElem_toArray, List.getElem_cons_zero, List.getElem_cons_succ]
  refine wpN_pure (i := 5) (v := ?v6) rfl (by kernel_rfl) (fun _ _ _ h => h) (Or.inl ⟨by rfl, ?hy6⟩) ?hr6
  case hy6 => (intro wS hSw; go_simp; (try with_reducible rfl))
  try simp only [Act.put, List.setIfInBounds_toArray, List.set_cons_zero, List.set_cons_succ, List.getElem_toArray, List.getElem_cons_zero, List.getElem_cons_succ]
  refine wpN_pure (i := 6) (v := ?v7) rfl (by kernel_rfl) (fun _ _ _ h => h) (Or.inl ⟨by rfl, ?hy7⟩) ?hr7
  case hy7 => (intro wS hSw; go_simp; (try with_reducible rfl))
  try simp only [Act.put, List.setIfInBounds_toArray, List.set_cons_zero, List.set_cons_succ, List.getElem_toArray, List.getElem_cons_zero, List.getElem_cons_succ]
  refine wpN_pure (i := 7) (v := ?v8) rfl (by kernel_rfl) (fun _ _ _ h => h) (Or.inl ⟨by rfl, ?hy8⟩) ?hr8
  case hy8 => (intro wS hSw; go_simp; (try with_reducible rfl))
  try simp only [Act.put, List.setIfInBounds_toArray, List.set_cons_zero, List.set_cons_succ, List.getElem_toArray, List.getElem_cons_zero, List.getElem_cons_succ]
  refine wpN_takeD [9, 10, 11] (i := 8) (v := ?v9) rfl (by kernel_rfl) (fun _ _ _ h => h) hS (Or.inl ⟨by rfl, ?hy9⟩) ?hr9
  case hy9 => (intro wS hSw; (try dsimp only at hSw); go_simp; (try with_reducible rfl))
  try simp only [Act.put, List.setIfInBounds_toArray, List.set_cons_zero, List.set_cons_succ, List.getElem_toArray, List.getElem_cons_zero, List.getElem_cons_succ]
  refine wpN_pure (i := 9) (v := ?v10) rfl (by kernel_rfl) (fun _ _ _ h => h) (Or.inl ⟨by rfl, ?hy10⟩) ?hr10
  case hy10 => (intro wS hSw; go_simp; (try with_reducible rfl))
  try simp only [Act.put, List.setIfInBounds_toArray, List.set_cons_zero, List.set_cons_succ, List.getElem_toArray, List.getElem_cons_zero, List.getElem_cons_succ]
  refine wpN_pure (i := 10) (v := ?v11) rfl (by kernel_rfl) (fun _ _ _ h => h) (Or.inl ⟨by rfl, ?hy11⟩) ?hr11
  case hy11 => (intro wS hSw; go_simp; (try with_reducible rfl))
  try simp only [Act.put, List.setIfInBounds_toArray, List.set_cons_zero, List.set_cons_succ, List.getElem_toArray, List.getElem_cons_zero, List.getElem_cons_succ]
  refine wpN_pure (i := 11) (v := ?v12) rfl (by kernel_rfl) (fun _ _ _ h => h) (Or.inl ⟨by rfl, ?hy12⟩) ?hr12
  case hy12 => (intro wS hSw; go_simp; (try with_reducible rfl))
  try simp only [Act.put, List.setIfInBounds_toArray, List.set_cons_zero, List.set_cons_succ, List.getElem_toArray, List.getElem_cons_zero, List.getElem_cons_succ]
  refine wpN_done (by kernel_rfl) ?_
  refine NoPanic.normal ?_
  have hB1 : Below w.heap.size w wB.drew := B0.drew
  have h1 := Lib.hid (Hh.out.off (Off.of_below (fun _ => False) hB1) fun _ _ h => h)
  have x1 := x0.drew
  obtain ⟨w1, hw1⟩ : ∃ w1, wB.drew = w1 := ⟨_, rfl⟩
  rw [hw1] at h1 x1 hB1 ⊢
  clear hw1 hqB x0 hS c0 c1 B0
  by_cases hc : (tak + 1).tmod per = 0
  · have hcb : ((tak + 1).tmod per == 0) = true := by simpa using hc
    have Hlt : Hid (QS.lt ⟨per, tak, put, L⟩ = Hp.elder) := by show _ = _; unfold QS.lt; rw [if_pos hc]
    clear hc
    go_wp2_with fail
    refine (top_q fst_elder Hp.elder_ord (o := 5) h1.out.blk rfl rfl rfl (by decide) h1.out.ro h1.out.ho h1.out.oq h1.out.om h1.out.mq h1.out.mp h1.out.inv.wko (by have a := h1.out.inv.leno; have b := h1.out.inv.many; dsimp only at a b; omega)).mono ?_
    intro e w2 ht
    obtain ⟨⟨v2, l2, h2, hv2⟩, B2, hres⟩ := h1.out.topOld ht
    have H2 := Lib.hid h2
    have hlt : ∀ k, QB q m lv ov k → k < w.heap.size := fun k hk => (Hh.out.qb hk).1
    have x2 := B2.blk x1 (by rintro (e | e); exact absurd (hlt _ (.inl rfl)) (by omega); exact absurd (hlt _ (.inr (.inr (.inr e)))) (by omega))
    have hBo : Off F w w2 := (Off.of_below F hB1).trans (B2.mono fun k _ hk => by rcases hk with rfl | hk; exact Hh.out.fq; exact Hh.out.fo k hk)
    have Hlt2 := Lib.hid hlt; have Hv2 := Lib.hid hv2; clear hlt hv2
    have hsz := B2.size
    have hsz1 := x1.lt
    have f1 := x2.free 0; have f2 := x2.free 1; have f3 := x2.free 2
    have d0 := x2.cell (i := 0) rfl; have d1 := x2.cell (i := 1) rfl; have d2 := x2.cell (i := 2) rfl
    clear ht h2
    have fin : ∀ (e : Ent) (w3 : World), w3 = ((w2.setCell ⟨w.heap.size, 0, none⟩ (.int .i64 e.key)).setCell ⟨w.heap.size, 1, none⟩ (.int .i64 e.weight)).setCell ⟨w.heap.size, 2, none⟩ (.int .i64 e.age) →
        Blk w3 w.heap.size #[.int .i64 e.key, .int .i64 e.weight, .int .i64 e.age] 30 ∧ QueueAt F w3 q ⟨per, tak, put, L⟩ ∧ Off F w w3 := by
      rintro e w3 rfl
      refine ⟨((x2.set 0 (.int .i64 e.key)).set 1 (.int .i64 e.weight)).set 2 (.int .i64 e.age), ?_, ((hBo.set ⟨w.heap.size, 0, none⟩ (.int .i64 e.key) (.inr (Nat.le_refl _))).set ⟨w.heap.size, 1, none⟩ (.int .i64 e.weight) (.inr (Nat.le_refl _))).set ⟨w.heap.size, 2, none⟩ (.int .i64 e.age) (.inr (Nat.le_refl _))⟩
      refine ⟨_, _, _, _, _, _, H2.out.off (G := fun k => k = w.heap.size) ((((Off.refl (fun k => k = w.heap.size) w2).set ⟨w.heap.size, 0, none⟩ (.int .i64 e.key) (.inl rfl)).set ⟨w.heap.size, 1, none⟩ (.int .i64 e.weight) (.inl rfl)).set ⟨w.heap.size, 2, none⟩ (.int .i64 e.age) (.inl rfl)) fun k hk e => by have := Hlt2.out k (by unfold QB at hk ⊢; rw [← Hv2.out]; exact hk); omega⟩
    have Fin := Lib.hid fin; clear fin
    rcases hres with ⟨hL, rfl⟩ | ⟨x, hx, hmin, rfl⟩
    · have HL := Lib.hid hL; clear hL
      unfold Ent.v Hp.z0
      dsimp only
      go_wp2_with fail
      obtain ⟨z1, z2, z3⟩ := Fin.out ⟨0, 0, 0⟩ _ rfl
      (try simp only [Exit.inBlock, Exit.then]); refine bodyPost_ret (results_ent rfl _ _ rfl (e := ⟨0, 0, 0⟩) z1) rfl ?_
      exact ⟨.inl ⟨HL.out, rfl⟩, z2, z3⟩
    · have HX := Lib.hid hx; have HM := Lib.hid hmin; clear hx hmin
      obtain ⟨xk, xw, xg⟩ := x
      unfold Ent.v
      dsimp only
      go_wp2_with fail
      obtain ⟨z1, z2, z3⟩ := Fin.out ⟨xk, xw, xg⟩ _ rfl
      (try simp only [Exit.inBlock, Exit.then]); refine bodyPost_ret (results_ent rfl _ _ rfl (e := ⟨xk, xw, xg⟩) z1) rfl ?_
      exact ⟨.inr ⟨⟨xk, xw, xg⟩, HX.out, fun y hy => by rw [Hlt.out]; exact HM.out y hy, rfl⟩, z2, z3⟩
  · have hcb : ((tak + 1).tmod per == 0) = false := by simpa using hc
    have Hlt : Hid (QS.lt ⟨per, tak, put, L⟩ = Hp.lighter) := by show _ = _; unfold QS.lt; rw [if_neg hc]
    clear hc
    go_wp2_with fail
    refine (top_q fst_lighter Hp.lighter_ord (o := 3) h1.out.blk rfl rfl rfl (by decide) h1.out.rl h1.out.hl h1.out.lq h1.out.lm h1.out.mq h1.out.mp h1.out.inv.wkl (by have a := h1.out.inv.lenl; have b := h1.out.inv.many; dsimp only at a b; omega)).mono ?_
    intro e w2 ht
    obtain ⟨⟨v2, l2, h2, hv2⟩, B2, hres⟩ := h1.out.topLight ht
    have H2 := Lib.hid h2
    have hlt : ∀ k, QB q m lv ov k → k < w.heap.size := fun k hk => (Hh.out.qb hk).1
    have x2 := B2.blk x1 (by rintro (e | e); exact absurd (hlt _ (.inl rfl)) (by omega); exact absurd (hlt _ (.inr (.inr (.inl e)))) (by omega))
    have hBo : Off F w w2 := (Off.of_below F hB1).trans (B2.mono fun k _ hk => by rcases hk with rfl | hk; exact Hh.out.fq; exact Hh.out.fl k hk)
    have Hlt2 := Lib.hid hlt; have Hv2 := Lib.hid hv2; clear hlt hv2
    have hsz := B2.size
    have hsz1 := x1.lt
    have f1 := x2.free 0; have f2 := x2.free 1; have f3 := x2.free 2
    have d0 := x2.cell (i := 0) rfl; have d1 := x2.cell (i := 1) rfl; have d2 := x2.cell (i := 2) rfl
    clear ht h2
    have fin : ∀ (e : Ent) (w3 : World), w3 = ((w2.setCell ⟨w.heap.size, 0, none⟩ (.int .i64 e.key)).setCell ⟨w.heap.size, 1, none⟩ (.int .i64 e.weight)).setCell ⟨w.heap.size, 2, none⟩ (.int .i64 e.age) →
        Blk w3 w.heap.size #[.int .i64 e.key, .int .i64 e.weight, .int .i64 e.age] 30 ∧ QueueAt F w3 q ⟨per, tak, put, L⟩ ∧ Off F w w3 := by
      rintro e w3 rfl
      refine ⟨((x2.set 0 (.int .i64 e.key)).set 1 (.int .i64 e.weight)).set 2 (.int .i64 e.age), ?_, ((hBo.set ⟨w.heap.size, 0, none⟩ (.int .i64 e.key) (.inr (Nat.le_refl _))).set ⟨w.heap.size, 1, none⟩ (.int .i64 e.weight) (.inr (Nat.le_refl _))).set ⟨w.heap.size, 2, none⟩ (.int .i64 e.age) (.inr (Nat.le_refl _))⟩
      refine ⟨_, _, _, _, _, _, H2.out.off (G := fun k => k = w.heap.size) ((((Off.refl (fun k => k = w.heap.size) w2).set ⟨w.heap.size, 0, none⟩ (.int .i64 e.key) (.inl rfl)).set ⟨w.heap.size, 1, none⟩ (.int .i64 e.weight) (.inl rfl)).set ⟨w.heap.size, 2, none⟩ (.int .i64 e.age) (.inl rfl)) fun k hk e => by have := Hlt2.out k (by unfold QB at hk ⊢; rw [← Hv2.out]; exact hk); omega⟩
    have Fin := Lib.hid fin; clear fin
    rcases hres with ⟨hL, rfl⟩ | ⟨x, hx, hmin, rfl⟩
    · have HL := Lib.hid hL; clear hL
      unfold Ent.v Hp.z0
      dsimp only
      go_wp2_with fail
      obtain ⟨z1, z2, z3⟩ := Fin.out ⟨0, 0, 0⟩ _ rfl
      (try simp only [Exit.inBlock, Exit.then]); refine bodyPost_ret (results_ent rfl _ _ rfl (e := ⟨0, 0, 0⟩) z1) rfl ?_
      exact ⟨.inl ⟨HL.out, rfl⟩, z2, z3⟩
    · have HX := Lib.hid hx; have HM := Lib.hid hmin; clear hx hmin
      obtain ⟨xk, xw, xg⟩ := x
      unfold Ent.v
      dsimp only
      go_wp2_with fail
      obtain ⟨z1, z2, z3⟩ := Fin.out ⟨xk, xw, xg⟩ _ rfl
      (try simp only [Exit.inBlock, Exit.then]); refine bodyPost_ret (results_ent rfl _ _ rfl (e := ⟨xk, xw, xg⟩) z1) rfl ?_
      exact ⟨.inr ⟨⟨xk, xw, xg⟩, HX.out, fun y hy => by rw [Hlt.out]; exact HM.out y hy, rfl⟩, z2, z3⟩
end Go.Proofs.Ytplfbdkljnblmaa

namespace Go.Proofs.Ytplfbdkljnblmaa
open Go.RowKit Go.Maps

theorem oper_delete_eq {P : Program} {w w' : World} {o : Oper} {a : Act} {K : Act → World → Prop} {Q : Exit → Act → World → Prop} (s x : Operand) (ta tb : TypeId) (v' : Value)
    (ho : o.op = .call { callee := .builtin .delete, args := #[s, x], argTypes := #[ta, tb] }) (hr : (Builtin.delete_ #[ta, tb] o.type #[a.eval s, a.eval x]).run P w = .ok v' w')
    (h : K (a.put o.dst v') w') : o.wp P a w K Q := by
  unfold Oper.wp execOp
  simp only [ho, resolve, invoke, builtin, Sem.run_bind, Sem.run_pure, Result.andThen_ok, List.map_toArray, List.map_cons, List.map_nil, hr]
  exact h

def QS.took (s : QS) (k : Int) : QS := { s with taken := s.taken + 1, L := MapOf.less s.L k }
def NextRes (s : QS) (e : Ending) (s' : QS) : Prop :=
  (s.L = [] ∧ e = .returned (.tuple #[Hp.z0.v, .bool false]) ∧ s' = s) ∨ ∃ x ∈ s.L, (∀ y ∈ s.L, s.lt y x = false) ∧ e = .returned (.tuple #[x.v, .bool true]) ∧ s' = s.took x.key

theorem QInv.took {s : QS} {light old : List Ent} (h : QInv s light old) (ht : s.taken ≤ 799999) (k : Int) : QInv (s.took k) light old :=
  have hs : ∀ e ∈ (s.took k).L, e ∈ s.L := fun e he => (List.mem_filter.1 he).1
  { per := h.per, tak := ⟨by show 0 ≤ s.taken + 1; have := h.tak.1; omega, by show s.taken + 1 ≤ 800000; omega⟩, many := h.many, keys := h.keys.sublist (List.Sublist.map _ List.filter_sublist), ages := h.ages.sublist List.filter_sublist
    inl := fun e he => h.inl e (hs e he), ino := fun e he => h.ino e (hs e he), wkl := h.wkl, wko := h.wko, last := fun e he => h.last e (hs e he), lenl := h.lenl, leno := h.leno }

set_option maxRecDepth 100000 in
set_option maxHeartbeats 4000000 in
theorem next_q {F : Nat → Prop} {w : World} {q : Nat} {s : QS} (h : QueueAt F w q s) (ht : s.taken ≤ 799999) :
    Calls Try.prog 9 #[.pointer (some ⟨q, 0, none⟩)] w fun e w' => ∃ s', NextRes s e s' ∧ QueueAt F w' q s' ∧ Off F w w' := by
  obtain ⟨wB, hwB⟩ : ∃ wB, w.alloc (.cells #[.int .i64 0, .int .i64 0, .int .i64 0] 30) = wB := ⟨_, rfl⟩
  have B0 : Below w.heap.size w wB := by rw [← hwB]; exact (Below.refl _ _).alloc (Nat.le_refl _) _
  have x0 : Blk wB w.heap.size #[.int .i64 0, .int .i64 0, .int .i64 0] 30 := by rw [← hwB]; exact Blk.new _ _ _ rfl
  have hA : QueueAt (fun k => F k ∧ k < w.heap.size) w q s := by
    obtain ⟨lv, ov, m, n, light, old, h⟩ := h
    exact ⟨lv, ov, m, n, light, old, { h with fq := h.qb (.inl rfl) |>.symm, fm := h.qb (.inr (.inl rfl)) |>.symm, fl := fun g hg => (h.qb (.inr (.inr (.inl hg)))).symm, fo := fun g hg => (h.qb (.inr (.inr (.inr hg)))).symm }⟩
  have Hht := Lib.hid ht; clear ht
  go_enter Try.func9, Try.ntmps9
  go_wp2_with fail
  try rw [hwB]
  clear hwB
  refine (peek_q (hA.below B0)).mono ?_
  rintro e w1 ⟨hres, hQ, hO⟩
  have x1 := hO.blk x0 (fun hf => by have := hf.2; omega)
  have B1 : Off F w w1 := (Off.of_below F B0).trans (hO.mono fun k _ hk => hk.1)
  clear hO x0 B0 hA h
  have hqlt : w.heap.size < w1.heap.size := x1.lt
  obtain ⟨lv, ov, m, n, light, old, hM⟩ := hQ
  obtain ⟨per, tak, put, L⟩ := s
  rcases hres with ⟨hL, rfl⟩ | ⟨x, hx, hmin, rfl⟩
  · have HL := Lib.hid hL; clear hL
    unfold Ent.v Hp.z0
    dsimp only
    have f1 := x1.free 0; have f2 := x1.free 1; have f3 := x1.free 2
    have d0 := x1.cell (i := 0) rfl; have d1 := x1.cell (i := 1) rfl; have d2 := x1.cell (i := 2) rfl
    go_wp2_with fail
    have z := (((x1.set 0 (.int .i64 0)).set 1 (.int .i64 0)).set 2 (.int .i64 0)).alloc (.cells #[.int .i64 0, .int .i64 0, .int .i64 0] 30)
    have hW : Off (fun k => k = w.heap.size) w1 ((((w1.setCell ⟨w.heap.size, 0, none⟩ (.int .i64 0)).setCell ⟨w.heap.size, 1, none⟩ (.int .i64 0)).setCell ⟨w.heap.size, 2, none⟩ (.int .i64 0)).alloc (.cells #[.int .i64 0, .int .i64 0, .int .i64 0] 30)) :=
      ((((Off.refl (fun k => k = w.heap.size) w1).set ⟨w.heap.size, 0, none⟩ (.int .i64 0) (.inl rfl)).set ⟨w.heap.size, 1, none⟩ (.int .i64 0) (.inl rfl)).set ⟨w.heap.size, 2, none⟩ (.int .i64 0) (.inl rfl)).alloc _
    have hq' := hM.off hW fun k hk e => by have := (hM.qb hk).2.2; omega
    have hB' : Off F w _ := ((((B1.set ⟨w.heap.size, 0, none⟩ (.int .i64 0) (.inr (Nat.le_refl _))).set ⟨w.heap.size, 1, none⟩ (.int .i64 0) (.inr (Nat.le_refl _))).set ⟨w.heap.size, 2, none⟩ (.int .i64 0) (.inr (Nat.le_refl _))).alloc (.cells #[.int .i64 0, .int .i64 0, .int .i64 0] 30))
    (try simp only [Exit.inBlock, Exit.then]); refine bodyPost_ret (results_ent rfl _ _ rfl (e := ⟨0, 0, 0⟩) z) rfl ?_
    exact ⟨_, .inl ⟨HL.out, rfl, rfl⟩, QueueAt.weaken ⟨_, _, _, _, _, _, hq'⟩ fun k hk => hk.1, hB'⟩
  · have HX := Lib.hid hx; have HM := Lib.hid hmin; clear hx hmin
    obtain ⟨xk, xw, xg⟩ := x
    unfold Ent.v
    dsimp only
    go_wp2_with fail
    obtain ⟨w2, hw2⟩ : ∃ w2, w1.alloc (.cells #[.int .i64 xk, .int .i64 xw, .int .i64 xg] 30) = w2 := ⟨_, rfl⟩
    have y2 : Blk w2 w1.heap.size #[.int .i64 xk, .int .i64 xw, .int .i64 xg] 30 := by rw [← hw2]; exact Blk.new _ _ _ rfl
    have hb12 : Below w1.heap.size w1 w2 := by rw [← hw2]; exact (Below.refl _ _).alloc (Nat.le_refl _) _
    have x2 := x1.below hb12
    have B2 := B1.below hb12
    have hM2 := hM.off (Off.of_below (fun _ => False) hb12) fun _ _ h => h
    rw [hw2]
    clear hw2
    have hxin : (⟨xk, xw, xg⟩ : Ent) ∈ L := HX.out
    have hxk : W64 xk := hM.inv.wkl _ (hM.inv.inl _ hxin)
    obtain ⟨Y, hY⟩ : ∃ Y, w1.heap.size = Y := ⟨_, rfl⟩
    rw [hY] at y2 hqlt ⊢
    have hYnew : ∀ k, QB q m lv ov k → k ≠ Y ∧ k ≠ w.heap.size := fun k hk => by have h1 := hM.qb hk; refine ⟨by omega, by have := h1.2.2; omega⟩
    have HYnew := Lib.hid hYnew
    clear hY hb12 x1 B1 hM hYnew hxin
    have c7 : w2.cell? ⟨q, 7, none⟩ = some (.map (some m)) := hM2.blk.cell rfl
    have cy := y2.cell (i := 0) rfl
    refine wp_region_noPanic (wp_region_need (S := fun w' => w'.cell? ⟨q, 7, none⟩ = some (.map (some m)) ∧ w'.cell? ⟨Y, 0, none⟩ = some (.int .i64 xk)) (by kernel_rfl) ?_)
    have hS : (w2.drew).cell? ⟨q, 7, none⟩ = some (.map (some m)) ∧ (w2.drew).cell? ⟨Y, 0, none⟩ = some (.int .i64 xk) := ⟨c7, cy⟩
    refine wpN_take (i := 0) (v := ?v1) rfl (by kernel_rfl) (fun _ _ _ h => h) hS (Or.inl ⟨by rfl, ?hy1⟩) ?hr1
    case hy1 => (intro wS hSw; (try dsimp only at hSw); go_simp; (try with_reducible rfl))
    try simp only [Act.put, List.setIfInBounds_toArray, List.set_cons_zero, List.set_cons_succ, List.getElem_toArray, List.getElem_cons_zero, List.getElem_cons_succ]
    refine wpN_take (i := 1) (v := ?v2) rfl (by kernel_rfl) (fun _ _ _ h => h) hS (Or.inl ⟨by rfl, ?hy2⟩) ?hr2
    case hy2 => (intro wS hSw; (try dsimp only at hSw); go_simp; (try with_reducible rfl))
    try simp only [Act.put, List.setIfInBounds_toArray, List.set_cons_zero, List.set_cons_succ, List.getElem_toArray, List.getElem_cons_zero, List.getElem_cons_succ]
    refine wpN_take (i := 2) (v := ?v3) rfl (by kernel_rfl) (fun _ _ _ h => h) hS (Or.inl ⟨by rfl, ?hy3⟩) ?hr3
    case hy3 => (intro wS hSw; (try dsimp only at hSw); go_simp; (try with_reducible rfl))
    try simp only [Act.put, List.setIfInBounds_toArray, List.set_cons_zero, List.set_cons_succ, List.getElem_toArray, List.getElem_cons_zero, List.getElem_cons_succ]
    refine wpN_take (i := 3) (v := ?v4) rfl (by kernel_rfl) (fun _ _ _ h => h) hS (Or.inl ⟨by rfl, ?hy4⟩) ?hr4
    case hy4 => (intro wS hSw; (try dsimp only at hSw); go_simp; (try with_reducible rfl))
    try simp only [Act.put, List.setIfInBounds_toArray, List.set_cons_zero, List.set_cons_succ, List.getElem_toArray, List.getElem_cons_zero, List.getElem_cons_succ]
    refine wpN_take (i := 4) (v := ?v5) rfl (by kernel_rfl) (fun _ _ _ h => h) hS (Or.inl ⟨by rfl, ?hy5⟩) ?hr5
    case hy5 => (intro wS hSw; (try dsimp only at hSw); go_simp; (try with_reducible rfl))
    try simp only [Act.put, List.setIfInBounds_toArray, List.set_cons_zero, List.set_cons_succ, List.getElem_toArray, List.getElem_cons_zero, List.getElem_cons_succ]
    refine wpN_take (i := 5) (v := ?v6) rfl (by kernel_rfl) (fun _ _ _ h => h) hS (Or.inl ⟨by rfl, ?hy6⟩) ?hr6
    case hy6 => (intro wS hSw; (try dsimp only at hSw); go_simp; (try with_reducible rfl))
    try simp only [Act.put, List.setIfInBounds_toArray, List.set_cons_zero, List.set_cons_succ, List.getElem_toArray, List.getElem_cons_zero, List.getElem_cons_succ]
    have y3 := y2.drew
    have x3 := x2.drew
    have B3 := B2.drew
    have hM3 := hM2.off ((Off.refl (fun _ => False) w2).drew) fun _ _ h => h
    obtain ⟨w3, hw3⟩ : ∃ w3, w2.drew = w3 := ⟨_, rfl⟩
    rw [hw3] at y3 x3 B3 hM3 ⊢
    clear hw3 y2 x2 B2 hM2 hS c7 cy
    refine wpN_step (i := 6) (by kernel_rfl) rfl (fun K hK => ?_)
    obtain ⟨w4, hrun, hmap, hg⟩ := hM3.mp.drop hM3.inv.keys hxk 1
    rw [if_pos (by rfl)]
    refine oper_delete_eq (.tmp 15) (.tmp 17) _ _ _ rfl hrun ?_
    try simp only [Act.put, List.setIfInBounds_toArray, List.set_cons_zero, List.set_cons_succ, List.getElem_toArray, List.getElem_cons_zero, List.getElem_cons_succ]
    have hO4 : Off (fun k => k = m) w3 w4 := (Off.refl _ _).grown hg fun k e => by cases e; rfl
    have hmn := HYnew.out m (.inr (.inl rfl))
    have y4 := hO4.blk y3 (Ne.symm hmn.1)
    have x4 := hO4.blk x3 (Ne.symm hmn.2)
    have q4 := hO4.blk hM3.blk (Ne.symm hM3.mq)
    have B4 : Off F w w4 := B3.grown hg fun k e => by cases e; exact hM3.fm.1
    have rl4 := hM3.rl.off hO4 (fun g hg e => hM3.lm (by rw [hg, e]))
    have ro4 := hM3.ro.off hO4 (fun g hg e => hM3.om (by rw [hg, e]))
    clear hrun hg
    have hS : (w4).cell? ⟨q, 7, none⟩ = some (.map (some m)) ∧ (w4).cell? ⟨Y, 0, none⟩ = some (.int .i64 xk) := ⟨q4.cell rfl, y4.cell rfl⟩
    refine hK.out _ _ (fun _ => hS) ?_
    clear hK K
    try simp only [Act.put, List.setIfInBounds_toArray, List.set_cons_zero, List.set_cons_succ, List.getElem_toArray, List.getElem_cons_zero, List.getElem_cons_succ]
    refine wpN_done (by kernel_rfl) ?_
    refine NoPanic.normal ?_
    have c1 : w4.cell? ⟨q, 1, none⟩ = some (.int .i64 tak) := q4.cell rfl
    have g1 := q4.free 1
    have t1 : (tak : Int) ≤ 799999 := Hht.out
    have t2 : (0 : Int) ≤ tak := hM3.inv.tak.1
    have t3 : IntKind.i64.wrap (tak + 1) = tak + 1 := IntWalk.i64_in _ (by omega)
    have hqn := HYnew.out q (.inl rfl)
    have n1 : ¬ q = Y := hqn.1
    have n2 : ¬ Y = q := Ne.symm hqn.1
    have n3 : ¬ q = w.heap.size := hqn.2
    have n4 : ¬ w.heap.size = q := Ne.symm hqn.2
    have n5 : ¬ Y = w.heap.size := by omega
    have n6 : ¬ w.heap.size = Y := by omega
    have e0 := y4.cell (i := 0) rfl; have e1 := y4.cell (i := 1) rfl; have e2 := y4.cell (i := 2) rfl
    have d0 := x4.cell (i := 0) rfl; have d1 := x4.cell (i := 1) rfl; have d2 := x4.cell (i := 2) rfl
    have f1 := x4.free 0; have f2 := x4.free 1; have f3 := x4.free 2
    go_wp2_with fail
    have hM5 : QMem (fun k => F k ∧ k < w.heap.size) (w4.setCell ⟨q, 1, none⟩ (.int .i64 (tak + 1))) q (QS.took ⟨per, tak, put, L⟩ xk) lv ov m n light old :=
      { hM3 with
        inv := hM3.inv.took t1 xk
        blk := q4.set 1 (.int .i64 (tak + 1))
        rl := rl4.far ⟨q, 1, none⟩ _ hM3.lq
        ro := ro4.far ⟨q, 1, none⟩ _ hM3.oq
        mp := hmap.far ⟨q, 1, none⟩ _ hM3.mq }
    have x5 := x4.far ⟨q, 1, none⟩ (.int .i64 (tak + 1)) n4
    have B5 := B4.set ⟨q, 1, none⟩ (.int .i64 (tak + 1)) (.inl hM3.fq.1)
    have hW : Off (fun k => k = w.heap.size) (w4.setCell ⟨q, 1, none⟩ (.int .i64 (tak + 1))) ((((w4.setCell ⟨q, 1, none⟩ (.int .i64 (tak + 1))).setCell ⟨w.heap.size, 0, none⟩ (.int .i64 xk)).setCell ⟨w.heap.size, 1, none⟩ (.int .i64 xw)).setCell ⟨w.heap.size, 2, none⟩ (.int .i64 xg)) :=
      (((Off.refl (fun k => k = w.heap.size) _).set ⟨w.heap.size, 0, none⟩ _ (.inl rfl)).set ⟨w.heap.size, 1, none⟩ _ (.inl rfl)).set ⟨w.heap.size, 2, none⟩ _ (.inl rfl)
    have hM6 := hM5.off hW fun k hk e => (HYnew.out k hk).2 e
    have z := ((x5.set 0 (.int .i64 xk)).set 1 (.int .i64 xw)).set 2 (.int .i64 xg)
    have B6 : Off F w _ := ((B5.set ⟨w.heap.size, 0, none⟩ (.int .i64 xk) (.inr (Nat.le_refl _))).set ⟨w.heap.size, 1, none⟩ (.int .i64 xw) (.inr (Nat.le_refl _))).set ⟨w.heap.size, 2, none⟩ (.int .i64 xg) (.inr (Nat.le_refl _))
    (try simp only [Exit.inBlock, Exit.then]); refine bodyPost_ret (results_ent rfl _ _ rfl (e := ⟨xk, xw, xg⟩) z) rfl ?_
    exact ⟨_, .inr ⟨⟨xk, xw, xg⟩, HX.out, HM.out, rfl, rfl⟩, QueueAt.weaken ⟨_, _, _, _, _, _, hM6⟩ fun k hk => hk.1, B6⟩
end Go.Proofs.Ytplfbdkljnblmaa

namespace Go.Proofs.Ytplfbdkljnblmaa
open Go.RowKit Go.Maps

theorem oper_mapUpdate_eq {P : Program} {w w' : World} {o : Oper} {a : Act} {K : Act → World → Prop} {Q : Exit → Act → World → Prop} (s x v : Operand) (ta : TypeId)
    (ho : o.op = .mapUpdate ta s x v) (hr : (Instr.mapUpdate ta (a.eval s) (a.eval x) (a.eval v)).run P w = .ok () w')
    (h : K (a.put o.dst undef) w') : o.wp P a w K Q := by
  unfold Oper.wp
  simp [execOp, ho, hr, Result.andThen]
  exact h

def QS.more (s : QS) (e : Ent) : QS := { s with put := s.put + 1, L := s.L ++ [e] }
def PutRes (s : QS) (key weight : Int) (e : Ending) (s' : QS) : Prop :=
  ((findK s.L key).isSome = true ∧ e = .returned (.int .i64 4) ∧ s' = s) ∨ (findK s.L key = none ∧ s.L.length = 10000 ∧ e = .returned (.int .i64 2) ∧ s' = s) ∨
  (findK s.L key = none ∧ s.L.length ≠ 10000 ∧ e = .returned (.int .i64 0) ∧ s' = s.more ⟨key, weight, s.put⟩)

theorem QInv.more {s : QS} {light old light' old' : List Ent} (h : QInv s light old) (hp : s.put ≤ 799999) {e : Ent} (he : e.age = s.put) (hw : W64 e.key) (hn : findK s.L e.key = none) (hl : light'.Perm (e :: light)) (ho : old'.Perm (e :: old)) : QInv (s.more e) light' old' :=
  { per := h.per, tak := h.tak, many := by show s.put + 1 ≤ 800000; omega
    keys := by
      show ((s.L ++ [e]).map Ent.key).Nodup
      rw [List.map_append, List.nodup_append]
      refine ⟨h.keys, by simp, ?_⟩
      intro a ha b hb
      obtain ⟨x, hx, rfl⟩ := List.mem_map.1 ha
      simp at hb; subst hb
      exact findK_none hn x hx
    ages := by
      show (s.L ++ [e]).Pairwise _
      rw [List.pairwise_append]
      refine ⟨h.ages, by simp, ?_⟩
      intro a ha b hb
      simp at hb; subst hb
      rw [he]; exact h.last a ha
    inl := fun x hx => hl.mem_iff.2 (by
      rcases List.mem_append.1 hx with hx | hx
      · exact List.mem_cons_of_mem _ (h.inl x hx)
      · simp at hx; subst hx; simp)
    ino := fun x hx => ho.mem_iff.2 (by
      rcases List.mem_append.1 hx with hx | hx
      · exact List.mem_cons_of_mem _ (h.ino x hx)
      · simp at hx; subst hx; simp)
    wkl := fun x hx => by
      rcases List.mem_cons.1 (hl.mem_iff.1 hx) with rfl | hx
      · exact hw
      · exact h.wkl x hx
    wko := fun x hx => by
      rcases List.mem_cons.1 (ho.mem_iff.1 hx) with rfl | hx
      · exact hw
      · exact h.wko x hx
    last := fun x hx => by
      show x.age < ((s.put + 1 : Nat) : Int)
      rcases List.mem_append.1 hx with hx | hx
      · have := h.last x hx; omega
      · simp at hx; subst hx; omega
    lenl := by have := hl.length_eq; have h2 := h.lenl; show light'.length ≤ s.put + 1; simp at this; omega
    leno := by have := ho.length_eq; have h2 := h.leno; show old'.length ≤ s.put + 1; simp at this; omega }

set_option maxRecDepth 100000 in
set_option maxHeartbeats 4000000 in
theorem put_q {F : Nat → Prop} {w : World} {q : Nat} {s : QS} (h : QueueAt F w q s) (hp : s.put ≤ 799999) (hF : ∀ k, w.heap.size ≤ k → F k) (key weight : Int) (hk : W64 key) :
    Calls Try.prog 8 #[.pointer (some ⟨q, 0, none⟩), .int .i64 key, .int .i64 weight] w fun e w' => ∃ s', PutRes s key weight e s' ∧ QueueAt F w' q s' ∧ Off F w w' := by
  obtain ⟨lv, ov, m, n, light, old, hM⟩ := h
  obtain ⟨per, tak, put, L⟩ := s
  have hlk := hM.mp.look hk
  dsimp only at hp hlk
  have HM := Lib.hid hM; have Hk := Lib.hid hk
  obtain ⟨y, hy⟩ : ∃ y, (findK L key).getD Hp.z0 = y := ⟨_, rfl⟩
  obtain ⟨ok, hok⟩ : ∃ ok, (findK L key).isSome = ok := ⟨_, rfl⟩
  rw [hy, hok] at hlk
  have Hok := Lib.hid hok
  clear hy hok
  obtain ⟨yk, yw, yg⟩ := y
  unfold Ent.v at hlk
  dsimp only at hlk
  have c7 : w.cell? ⟨q, 7, none⟩ = some (.map (some m)) := hM.blk.cell rfl
  have hql := hM.blk.lt
  have hln : ∀ o : Obj, (Builtin.len_ #[60] 3 #[.map (some m)]).run Try.prog (w.alloc o) = .ok (.int .i64 L.length) (w.alloc o) := fun o => (hM.mp.below ((Below.refl _ _).alloc (Nat.le_refl _) o)).len _
  have c2 : w.cell? ⟨q, 2, none⟩ = some (.int .i64 put) := hM.blk.cell rfl
  have g2 := hM.blk.free 2
  clear hM hk
  cases ok
  rotate_left
  · skip
    go_enter Try.func8, Try.ntmps8
    go_wp2_with fail
    go_ret
    have hb : Below w.heap.size w (w.alloc (.cells #[.int .i64 yk, .int .i64 yw, .int .i64 yg] 30)) := (Below.refl _ _).alloc (Nat.le_refl _) _
    exact ⟨_, .inl ⟨Hok.out, rfl, rfl⟩, QueueAt.below ⟨_, _, _, _, _, _, HM.out⟩ hb, Off.of_below _ hb⟩
  have Hno : Hid (findK L key = none) := by
    have h := Hok.out
    show _ = _
    cases hf : findK L key with
    | none => rfl
    | some e => rw [hf] at h; cases h
  clear Hok
  by_cases hlen : L.length = 10000
  · have hl1 : (((L.length : Nat) : Int) == 10000) = true := by rw [hlen]; rfl
    have hl2 : ((L.length : Nat) : Int) = 10000 := by rw [hlen]; rfl
    have Hlen := Lib.hid hlen; clear hlen
    rw [hl2] at hln
    clear hl1 hl2
    go_enter Try.func8, Try.ntmps8
    go_wp2_with fail
    go_ret
    have hb : Below w.heap.size w (w.alloc (.cells #[.int .i64 yk, .int .i64 yw, .int .i64 yg] 30)) := (Below.refl _ _).alloc (Nat.le_refl _) _
    exact ⟨_, .inr (.inl ⟨Hno.out, Hlen.out, rfl, rfl⟩), QueueAt.below ⟨_, _, _, _, _, _, HM.out⟩ hb, Off.of_below _ hb⟩
  · have hl2 : ¬ ((L.length : Nat) : Int) = 10000 := by omega
    have Hlen := Lib.hid hlen; clear hlen
    obtain ⟨ll, hll⟩ : ∃ ll : Int, ((L.length : Nat) : Int) = ll := ⟨_, rfl⟩
    rw [hll] at hln hl2
    clear hll
    have hpI : (put : Int) ≤ 799999 := by omega
    have hp0 : (0 : Int) ≤ put := by omega
    go_enter Try.func8, Try.ntmps8
    go_wp2_with fail
    have b1 : Below w.heap.size (w.setCell ⟨q, 2, none⟩ (.int .i64 ((put : Int) + 1))) (((w.setCell ⟨q, 2, none⟩ (.int .i64 ((put : Int) + 1))).alloc (.cells #[.int .i64 yk, .int .i64 yw, .int .i64 yg] 30)).alloc (.cells #[.int .i64 key, .int .i64 weight, .int .i64 put] 30)) := by
      have h0 : w.heap.size ≤ (w.setCell ⟨q, 2, none⟩ (.int .i64 ((put : Int) + 1))).heap.size := by simp
      exact ((Below.refl _ _).alloc h0 _).alloc (by simp) _
    have hM := HM.out
    have hqs := hM.blk.set 2 (.int .i64 ((put : Int) + 1))
    have q2 : Blk _ q #[.int .i64 per, .int .i64 tak, .int .i64 ((put : Int) + 1), lv, .func (.func 22) #[] #[], ov, .func (.func 23) #[] #[], .map (some m)] 62 := hqs.same (b1.block q hql)
    have hS1 : Off (fun k => k = q) w (w.setCell ⟨q, 2, none⟩ (.int .i64 ((put : Int) + 1))) := (Off.refl _ _).set ⟨q, 2, none⟩ _ (.inl rfl)
    have hS2 : Off (fun k => k = q) w (((w.setCell ⟨q, 2, none⟩ (.int .i64 ((put : Int) + 1))).alloc (.cells #[.int .i64 yk, .int .i64 yw, .int .i64 yg] 30)).alloc (.cells #[.int .i64 key, .int .i64 weight, .int .i64 put] 30)) := (hS1.alloc _).alloc _
    have x2 : Blk (((w.setCell ⟨q, 2, none⟩ (.int .i64 ((put : Int) + 1))).alloc (.cells #[.int .i64 yk, .int .i64 yw, .int .i64 yg] 30)).alloc (.cells #[.int .i64 key, .int .i64 weight, .int .i64 put] 30)) (w.heap.size + 1) #[.int .i64 key, .int .i64 weight, .int .i64 put] 30 := Blk.new _ _ _ (by simp)
    have rl2 := hM.rl.off hS2 (fun g hg e => hM.lq (by rw [hg, e]))
    have ro2 := hM.ro.off hS2 (fun g hg e => hM.oq (by rw [hg, e]))
    have mp2 := hM.mp.off hS2 hM.mq
    have B2 := hS2.mono (G := F) (fun k _ e => e ▸ hM.fq)
    obtain ⟨w2, hw2⟩ : ∃ w2, ((w.setCell ⟨q, 2, none⟩ (.int .i64 ((put : Int) + 1))).alloc (.cells #[.int .i64 yk, .int .i64 yw, .int .i64 yg] 30)).alloc (.cells #[.int .i64 key, .int .i64 weight, .int .i64 put] 30) = w2 := ⟨_, rfl⟩
    rw [hw2] at q2 x2 rl2 ro2 mp2 B2 ⊢
    have hml := hM.mp.lt
    have hll := hM.rl.base_le
    have hlo := hM.ro.base_le
    have hmX : m ≠ w.heap.size + 1 := by omega
    have hqX : q ≠ w.heap.size + 1 := by omega
    have hlX : lv.ownBlock ≠ some (w.heap.size + 1) := fun e => by have := (hll _ e).2; omega
    have hoX : ov.ownBlock ≠ some (w.heap.size + 1) := fun e => by have := (hlo _ e).2; omega
    clear hw2 hS1 hS2 hqs b1 hlk hln c7 c2 g2
    refine wp_region_noPanic (wp_region_need (S := fun w' => w'.cell? ⟨q, 7, none⟩ = some (.map (some m)) ∧ w'.cell? ⟨w.heap.size + 1, 0, none⟩ = some (.int .i64 key) ∧ w'.cell? ⟨w.heap.size + 1, 1, none⟩ = some (.int .i64 weight) ∧ w'.cell? ⟨w.heap.size + 1, 2, none⟩ = some (.int .i64 put)) (by kernel_rfl) ?_)
    have hS : (w2.drew).cell? ⟨q, 7, none⟩ = some (.map (some m)) ∧ (w2.drew).cell? ⟨w.heap.size + 1, 0, none⟩ = some (.int .i64 key) ∧ (w2.drew).cell? ⟨w.heap.size + 1, 1, none⟩ = some (.int .i64 weight) ∧ (w2.drew).cell? ⟨w.heap.size + 1, 2, none⟩ = some (.int .i64 put) := ⟨q2.drew.cell rfl, x2.drew.cell rfl, x2.drew.cell rfl, x2.drew.cell rfl⟩
    refine wpN_take (i := 0) (v := ?v1) rfl (by kernel_rfl) (fun _ _ _ h => h) hS (Or.inl ⟨by rfl, ?hy1⟩) ?hr1
    case hy1 => (intro wS hSw; (try dsimp only at hSw); go_simp; (try with_reducible rfl))
    try simp only [Act.put, List.setIfInBounds_toArray, List.set_cons_zero, List.set_cons_succ, List.getElem_toArray, List.getElem_cons_zero, List.getElem_cons_succ]
    refine wpN_take (i := 1) (v := ?v2) rfl (by kernel_rfl) (fun _ _ _ h => h) hS (Or.inl ⟨by rfl, ?hy2⟩) ?hr2
    case hy2 => (intro wS hSw; (try dsimp only at hSw); go_simp; (try with_reducible rfl))
    try simp only [Act.put, List.setIfInBounds_toArray, List.set_cons_zero, List.set_cons_succ, List.getElem_toArray, List.getElem_cons_zero, List.getElem_cons_succ]
    refine wpN_take (i := 2) (v := ?v3) rfl (by kernel_rfl) (fun _ _ _ h => h) hS (Or.inl ⟨by rfl, ?hy3⟩) ?hr3
    case hy3 => (intro wS hSw; (try dsimp only at hSw); go_simp; (try with_reducible rfl))
    try simp only [Act.put, List.setIfInBounds_toArray, List.set_cons_zero, List.set_cons_succ, List.getElem_toArray, List.getElem_cons_zero, List.getElem_cons_succ]
    refine wpN_take (i := 3) (v := ?v4) rfl (by kernel_rfl) (fun _ _ _ h => h) hS (Or.inl ⟨by rfl, ?hy4⟩) ?hr4
    case hy4 => (intro wS hSw; (try dsimp only at hSw); go_simp; (try with_reducible rfl))
    try simp only [Act.put, List.setIfInBounds_toArray, List.set_cons_zero, List.set_cons_succ, List.getElem_toArray, List.getElem_cons_zero, List.getElem_cons_succ]
    refine wpN_take (i := 4) (v := ?v5) rfl (by kernel_rfl) (fun _ _ _ h => h) hS (Or.inl ⟨by rfl, ?hy5⟩) ?hr5
    case hy5 => (intro wS hSw; (try dsimp only at hSw); go_simp; (try with_reducible rfl))
    try simp only [Act.put, List.setIfInBounds_toArray, List.set_cons_zero, List.set_cons_succ, List.getElem_toArray, List.getElem_cons_zero, List.getElem_cons_succ]
    refine wpN_take (i := 5) (v := ?v6) rfl (by kernel_rfl) (fun _ _ _ h => h) hS (Or.inl ⟨by rfl, ?hy6⟩) ?hr6
    case hy6 => (intro wS hSw; (try dsimp only at hSw); go_simp; (try with_reducible rfl))
    try simp only [Act.put, List.setIfInBounds_toArray, List.set_cons_zero, List.set_cons_succ, List.getElem_toArray, List.getElem_cons_zero, List.getElem_cons_succ]
    have hd : Below w2.heap.size w2 w2.drew := (Below.refl _ _).drew
    have q3 := q2.below hd
    have x3 := x2.below hd
    have rl3 := rl2.below hd
    have ro3 := ro2.below hd
    have mp3 := mp2.below hd
    have B3 := B2.below hd
    obtain ⟨w3, hw3⟩ : ∃ w3, w2.drew = w3 := ⟨_, rfl⟩
    rw [hw3] at q3 x3 rl3 ro3 mp3 B3 ⊢
    clear hw3 hd q2 x2 rl2 ro2 mp2 B2 hS
    refine wpN_step (i := 6) (by kernel_rfl) rfl (fun K hK => ?_)
    obtain ⟨w4, hrun, mp4, hg⟩ := mp3.store (by have := hM.hn; dsimp only at this; simp only [maxLen]; omega) ⟨key, weight, put⟩ Hk.out Hno.out
    rw [if_pos (by rfl)]
    refine oper_mapUpdate_eq (.tmp 45) (.tmp 46) (.tmp 47) _ rfl hrun ?_
    try simp only [Act.put, List.setIfInBounds_toArray, List.set_cons_zero, List.set_cons_succ, List.getElem_toArray, List.getElem_cons_zero, List.getElem_cons_succ]
    have hO4 : Off (fun k => k = m) w3 w4 := (Off.refl _ _).grown hg fun k e => by cases e; rfl
    have x4 := hO4.blk x3 (Ne.symm hmX)
    have q4 := hO4.blk q3 (Ne.symm hM.mq)
    have B4 : Off F w w4 := B3.grown hg fun k e => by cases e; exact hM.fm
    have rl4 := rl3.off hO4 (fun g hg e => hM.lm (by rw [hg, e]))
    have ro4 := ro3.off hO4 (fun g hg e => hM.om (by rw [hg, e]))
    clear hrun hg hO4 x3 q3 rl3 ro3 mp3 B3
    have hS : (w4).cell? ⟨q, 7, none⟩ = some (.map (some m)) ∧ (w4).cell? ⟨w.heap.size + 1, 0, none⟩ = some (.int .i64 key) ∧ (w4).cell? ⟨w.heap.size + 1, 1, none⟩ = some (.int .i64 weight) ∧ (w4).cell? ⟨w.heap.size + 1, 2, none⟩ = some (.int .i64 put) := ⟨q4.cell rfl, x4.cell rfl, x4.cell rfl, x4.cell rfl⟩
    refine hK.out _ _ (fun _ => hS) ?_
    clear hK K
    try simp only [Act.put, List.setIfInBounds_toArray, List.set_cons_zero, List.set_cons_succ, List.getElem_toArray, List.getElem_cons_zero, List.getElem_cons_succ]
    refine wpN_done (by kernel_rfl) ?_
    refine NoPanic.normal ?_
    go_wp2_with fail
    have hs24 : w.heap.size + 2 ≤ w4.heap.size := by have := x4.lt; omega
    refine wp_region_noPanic (wp_region_need (S := fun w' => w'.cell? ⟨w.heap.size + 1, 0, none⟩ = some (.int .i64 key) ∧ w'.cell? ⟨w.heap.size + 1, 1, none⟩ = some (.int .i64 weight) ∧ w'.cell? ⟨w.heap.size + 1, 2, none⟩ = some (.int .i64 put)) (by kernel_rfl) ?_)
    have hS : (w4.drew).cell? ⟨w.heap.size + 1, 0, none⟩ = some (.int .i64 key) ∧ (w4.drew).cell? ⟨w.heap.size + 1, 1, none⟩ = some (.int .i64 weight) ∧ (w4.drew).cell? ⟨w.heap.size + 1, 2, none⟩ = some (.int .i64 put) := ⟨x4.drew.cell rfl, x4.drew.cell rfl, x4.drew.cell rfl⟩
    refine wpN_take (i := 0) (v := ?v7) rfl (by kernel_rfl) (fun _ _ _ h => h) hS (Or.inl ⟨by rfl, ?hy7⟩) ?hr7
    case hy7 => (intro wS hSw; (try dsimp only at hSw); go_simp; (try with_reducible rfl))
    try simp only [Act.put, List.setIfInBounds_toArray, List.set_cons_zero, List.set_cons_succ, List.getElem_toArray, List.getElem_cons_zero, List.getElem_cons_succ]
    refine wpN_take (i := 1) (v := ?v8) rfl (by kernel_rfl) (fun _ _ _ h => h) hS (Or.inl ⟨by rfl, ?hy8⟩) ?hr8
    case hy8 => (intro wS hSw; (try dsimp only at hSw); go_simp; (try with_reducible rfl))
    try simp only [Act.put, List.setIfInBounds_toArray, List.set_cons_zero, List.set_cons_succ, List.getElem_toArray, List.getElem_cons_zero, List.getElem_cons_succ]
    refine wpN_take (i := 2) (v := ?v9) rfl (by kernel_rfl) (fun _ _ _ h => h) hS (Or.inl ⟨by rfl, ?hy9⟩) ?hr9
    case hy9 => (intro wS hSw; (try dsimp only at hSw); go_simp; (try with_reducible rfl))
    try simp only [Act.put, List.setIfInBounds_toArray, List.set_cons_zero, List.set_cons_succ, List.getElem_toArray, List.getElem_cons_zero, List.getElem_cons_succ]
    refine wpN_take (i := 3) (v := ?v10) rfl (by kernel_rfl) (fun _ _ _ h => h) hS (Or.inl ⟨by rfl, ?hy10⟩) ?hr10
    case hy10 => (intro wS hSw; (try dsimp only at hSw); go_simp; (try with_reducible rfl))
    try simp only [Act.put, List.setIfInBounds_toArray, List.set_cons_zero, List.set_cons_succ, List.getElem_toArray, List.getElem_cons_zero, List.getElem_cons_succ]
    have hd : Below w4.heap.size w4 w4.drew := (Below.refl _ _).drew
    have q5 := q4.below hd
    have x5 := x4.below hd
    have rl5 := rl4.below hd
    have ro5 := ro4.below hd
    have mp5 := mp4.below hd
    have B5 := B4.below hd
    obtain ⟨w5, hw5⟩ : ∃ w5, w4.drew = w5 := ⟨_, rfl⟩
    have hs5 : w.heap.size + 2 ≤ w5.heap.size := by rw [← hw5]; simpa using hs24
    rw [hw5] at q5 x5 rl5 ro5 mp5 B5 ⊢
    clear hw5 hd q4 x4 rl4 ro4 mp4 B4 hS hs24
    refine wpN_step (i := 4) (by kernel_rfl) rfl (fun K hK => ?_)
    go_simp
    refine (push_q fst_lighter Hp.lighter_ord (o := 3) q5 rfl rfl rl5 hM.hl hM.lq (Nat.zero_le _) (by have := hM.inv.lenl; dsimp only at this; omega) ⟨key, weight, put⟩).mono ?_
    rintro e w6 ⟨rfl, v6, l6, q6, rl6, p6, h6, own6, O6⟩
    have hX6 : ∀ k, k < w5.heap.size → Turn q lv k → F k := fun k _ hk => by rcases hk with rfl | hk; exact hM.fq; exact hM.fl k hk
    have x6 := O6.blk x5 (by rintro (e | e); exact hqX e.symm; exact hlX e)
    have ro6 := ro5.off O6 (fun g hg => by rintro (e | e); exact hM.oq (by rw [hg, e]); exact hM.lo g e hg)
    have mp6 := mp5.off O6 (by rintro (e | e); exact hM.mq e; exact hM.lm e)
    have B6 := B5.trans (O6.mono hX6)
    have hs6 : w.heap.size + 2 ≤ w6.heap.size := Nat.le_trans hs5 O6.size
    have own6' : ∀ g, v6.ownBlock = some g → lv.ownBlock = some g ∨ w.heap.size + 2 ≤ g := fun g hg => (own6 g hg).imp id (fun h => by omega)
    have q6' : Blk w6 q #[.int .i64 per, .int .i64 tak, .int .i64 ((put : Int) + 1), v6, .func (.func 22) #[] #[], ov, .func (.func 23) #[] #[], .map (some m)] 62 := q6
    clear q6 O6 own6 q5 x5 rl5 ro5 mp5 B5 hX6
    have hS : (w6).cell? ⟨w.heap.size + 1, 0, none⟩ = some (.int .i64 key) ∧ (w6).cell? ⟨w.heap.size + 1, 1, none⟩ = some (.int .i64 weight) ∧ (w6).cell? ⟨w.heap.size + 1, 2, none⟩ = some (.int .i64 put) := ⟨x6.cell rfl, x6.cell rfl, x6.cell rfl⟩
    refine hK.out _ _ (fun _ => hS) ?_
    clear hK K
    try simp only [Act.put, List.setIfInBounds_toArray, List.set_cons_zero, List.set_cons_succ, List.getElem_toArray, List.getElem_cons_zero, List.getElem_cons_succ]
    refine wpN_done (by kernel_rfl) ?_
    refine NoPanic.normal ?_
    go_wp2_with fail
    refine wp_region_noPanic (wp_region_need (S := fun w' => w'.cell? ⟨w.heap.size + 1, 0, none⟩ = some (.int .i64 key) ∧ w'.cell? ⟨w.heap.size + 1, 1, none⟩ = some (.int .i64 weight) ∧ w'.cell? ⟨w.heap.size + 1, 2, none⟩ = some (.int .i64 put)) (by kernel_rfl) ?_)
    have hS : (w6.drew).cell? ⟨w.heap.size + 1, 0, none⟩ = some (.int .i64 key) ∧ (w6.drew).cell? ⟨w.heap.size + 1, 1, none⟩ = some (.int .i64 weight) ∧ (w6.drew).cell? ⟨w.heap.size + 1, 2, none⟩ = some (.int .i64 put) := ⟨x6.drew.cell rfl, x6.drew.cell rfl, x6.drew.cell rfl⟩
    refine wpN_take (i := 0) (v := ?v11) rfl (by kernel_rfl) (fun _ _ _ h => h) hS (Or.inl ⟨by rfl, ?hy11⟩) ?hr11
    case hy11 => (intro wS hSw; (try dsimp only at hSw); go_simp; (try with_reducible rfl))
    try simp only [Act.put, List.setIfInBounds_toArray, List.set_cons_zero, List.set_cons_succ, List.getElem_toArray, List.getElem_cons_zero, List.getElem_cons_succ]
    refine wpN_take (i := 1) (v := ?v12) rfl (by kernel_rfl) (fun _ _ _ h => h) hS (Or.inl ⟨by rfl, ?hy12⟩) ?hr12
    case hy12 => (intro wS hSw; (try dsimp only at hSw); go_simp; (try with_reducible rfl))
    try simp only [Act.put, List.setIfInBounds_toArray, List.set_cons_zero, List.set_cons_succ, List.getElem_toArray, List.getElem_cons_zero, List.getElem_cons_succ]
    refine wpN_take (i := 2) (v := ?v13) rfl (by kernel_rfl) (fun _ _ _ h => h) hS (Or.inl ⟨by rfl, ?hy13⟩) ?hr13
    case hy13 => (intro wS hSw; (try dsimp only at hSw); go_simp; (try with_reducible rfl))
    try simp only [Act.put, List.setIfInBounds_toArray, List.set_cons_zero, List.set_cons_succ, List.getElem_toArray, List.getElem_cons_zero, List.getElem_cons_succ]
    refine wpN_take (i := 3) (v := ?v14) rfl (by kernel_rfl) (fun _ _ _ h => h) hS (Or.inl ⟨by rfl, ?hy14⟩) ?hr14
    case hy14 => (intro wS hSw; (try dsimp only at hSw); go_simp; (try with_reducible rfl))
    try simp only [Act.put, List.setIfInBounds_toArray, List.set_cons_zero, List.set_cons_succ, List.getElem_toArray, List.getElem_cons_zero, List.getElem_cons_succ]
    have hd : Below w6.heap.size w6 w6.drew := (Below.refl _ _).drew
    have q7 := q6'.below hd
    have x7 := x6.below hd
    have rl7 := rl6.below hd
    have ro7 := ro6.below hd
    have mp7 := mp6.below hd
    have B7 := B6.below hd
    obtain ⟨w7, hw7⟩ : ∃ w7, w6.drew = w7 := ⟨_, rfl⟩
    have hs7 : w.heap.size + 2 ≤ w7.heap.size := by rw [← hw7]; simpa using hs6
    rw [hw7] at q7 x7 rl7 ro7 mp7 B7 ⊢
    clear hw7 hd q6' x6 rl6 ro6 mp6 B6 hS hs6
    refine wpN_step (i := 4) (by kernel_rfl) rfl (fun K hK => ?_)
    go_simp
    refine (push_q fst_elder Hp.elder_ord (o := 5) q7 rfl rfl ro7 hM.ho hM.oq (Nat.zero_le _) (by have := hM.inv.leno; dsimp only at this; omega) ⟨key, weight, put⟩).mono ?_
    rintro e w8 ⟨rfl, v8, l8, q8, ro8, p8, h8, own8, O8⟩
    have hX8 : ∀ k, k < w7.heap.size → Turn q ov k → F k := fun k _ hk => by rcases hk with rfl | hk; exact hM.fq; exact hM.fo k hk
    have n6q : v6.ownBlock ≠ some q := fun e => by rcases own6' q e with h | h; exact hM.lq h; omega
    have n6m : v6.ownBlock ≠ some m := fun e => by rcases own6' m e with h | h; exact hM.lm h; omega
    have n6o : ∀ g, v6.ownBlock = some g → ov.ownBlock ≠ some g := fun g hg e => by
      rcases own6' g hg with h | h
      · exact hM.lo g h e
      · have := (hlo g e).2; omega
    have x8 := O8.blk x7 (by rintro (e | e); exact hqX e.symm; exact hoX e)
    have rl8 := rl7.off O8 (fun g hg => by rintro (e | e); exact n6q (by rw [hg, e]); exact n6o g hg e)
    have mp8 := mp7.off O8 (by rintro (e | e); exact hM.mq e; exact hM.om e)
    have B8 := B7.trans (O8.mono hX8)
    have h6lt := rl7.base_le
    have hfin : QMem F w8 q (QS.more ⟨per, tak, put, L⟩ ⟨key, weight, put⟩) v6 v8 m (n + 1) l6 l8 :=
      { inv := hM.inv.more hp rfl Hk.out Hno.out p6 p8
        blk := q8
        rl := rl8
        ro := ro8
        mp := mp8
        hn := by have := hM.hn; dsimp only at this; show n + 1 ≤ put + 1; omega
        hl := h6
        ho := h8
        lq := n6q
        lm := n6m
        oq := fun e => by rcases own8 q e with h | h; exact hM.oq h; omega
        om := fun e => by rcases own8 m e with h | h; exact hM.om h; omega
        mq := hM.mq
        lo := fun g hg e => by
          rcases own8 g e with h | h
          · exact n6o g hg h
          · have := (h6lt g hg).2; omega
        fq := hM.fq
        fm := hM.fm
        fl := fun g hg => by rcases own6' g hg with h | h; exact hM.fl g h; exact hF g (by omega)
        fo := fun g hg => by rcases own8 g hg with h | h; exact hM.fo g h; exact hF g (by omega) }
    have Hfin := Lib.hid hfin
    clear hfin O8 q8 own8 q7 x7 rl7 ro7 mp7 B7 hX8
    have hS : (w8).cell? ⟨w.heap.size + 1, 0, none⟩ = some (.int .i64 key) ∧ (w8).cell? ⟨w.heap.size + 1, 1, none⟩ = some (.int .i64 weight) ∧ (w8).cell? ⟨w.heap.size + 1, 2, none⟩ = some (.int .i64 put) := ⟨x8.cell rfl, x8.cell rfl, x8.cell rfl⟩
    refine hK.out _ _ (fun _ => hS) ?_
    clear hK K
    try simp only [Act.put, List.setIfInBounds_toArray, List.set_cons_zero, List.set_cons_succ, List.getElem_toArray, List.getElem_cons_zero, List.getElem_cons_succ]
    refine wpN_done (by kernel_rfl) ?_
    refine NoPanic.normal ?_
    go_wp2_with fail
    go_ret
    exact ⟨_, .inr (.inr ⟨Hno.out, Hlen.out, rfl, rfl⟩), ⟨_, _, _, _, _, _, Hfin.out⟩, B8⟩
end Go.Proofs.Ytplfbdkljnblmaa

