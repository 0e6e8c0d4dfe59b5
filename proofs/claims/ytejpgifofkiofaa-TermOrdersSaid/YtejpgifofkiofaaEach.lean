/-
  kind.Each: all types within, each ahead of its arguments: what the iterator hands to a loop's body.
-/
import Derived.Test.YtejpgifofkiofaaRefSame
import Derived.RangeFuncNested
import Derived.RangeFuncBound
import Derived.RangeFuncCalls
import Derived.RangeFuncLeaves
import Derived.Shelf.Abstract
import Derived.Shelf.RegionOpen
import Derived.OwnWalkIn
import Derived.TacticsInMore
import Derived.LoopNIn
import Derived.LoopIn
namespace Go.Proofs.Ytejpgifofkiofaa
open Go.RowKit Go.Shelf
attribute [local go_sem] Oper.semAt_some

theorem room_none {F : Fence} (hd : F.depth = none) (k : Nat) : F.room k := fun d h => by rw [hd] at h; cases h
theorem round_any {F : Fence} (hd : F.depth = none) {m m' : Nat} {P : Program} {l : Nat} {f : FuncId} {tmps : Array Value} {assign body : Code} {w : World} {R : Ending → World → Prop}
    (h : RoundIn F m P l f tmps assign body w R) : RoundIn F m' P l f tmps assign body w R := ⟨h.1, fun c cs _ => h.2 c cs (room_none hd _)⟩
theorem yield_any {F : Fence} (hd : F.depth = none) {m : Nat} (m' : Nat) {P : Program} {l : Nat} {args : Array Value} {W : World} {R : Ending → World → Prop} (h : YieldAt F m P l args W R) : YieldAt F m' P l args W R := by
  obtain ⟨fn, tmps, assign, body, hy, hR⟩ := h
  exact ⟨fn, tmps, assign, body, hy, round_any hd hR⟩

/-- blocks of cells that lie in G are as they were -/
structure KeepC (G : Nat → Prop) (A B : World) : Prop where
  size : A.heap.size ≤ B.heap.size
  cells : ∀ k cs t fr, G k → A.heap[k]? = some (.cells cs t fr) → B.heap[k]? = some (.cells cs t fr)
namespace KeepC
variable {G : Nat → Prop} {A B C : World}
theorem refl (G : Nat → Prop) (A : World) : KeepC G A A := ⟨Nat.le_refl _, fun _ _ _ _ _ h => h⟩
theorem trans (h : KeepC G A B) (h' : KeepC G B C) : KeepC G A C := ⟨Nat.le_trans h.size h'.size, fun k cs t fr hk hc => h'.cells k cs t fr hk (h.cells k cs t fr hk hc)⟩
theorem below (h : KeepC G A B) (hb : Below B.heap.size B C) : KeepC G A C := h.trans ⟨hb.size, fun k _ _ _ _ hc => (hb.block k (Array.getElem?_eq_some_iff.1 hc).1).trans hc⟩
theorem alloc (h : KeepC G A B) (o : Obj) : KeepC G A (B.alloc o) := h.below ((Below.refl _ _).alloc (Nat.le_refl _) _)
theorem setCell (h : KeepC G A B) (p : Addr) (u : Value) (hp : ¬ G p.block) : KeepC G A (B.setCell p u) :=
  h.trans ⟨by simp, fun k cs t fr hk hc => (Below.heap_setCell _ _ _ _ (fun e => hp (e ▸ hk))).trans hc⟩
theorem putObj (G : Nat → Prop) (W : World) (l : Nat) (o o' : Obj) (hl : W.heap[l]? = some o) (ho : o.isCells = false) : KeepC G W (W.putObj l o') :=
  ⟨by simp, fun k cs t fr _ hc => by
    have hne : k ≠ l := fun e => by subst e; rw [hl] at hc; cases hc; simp [Obj.isCells] at ho
    exact (World.putObj_heap_other hne).trans hc⟩
theorem keep {F : Nat → Prop} (h : KeepC G A B) (hF : ∀ k, F k → k < A.heap.size → G k) : Keep F A B := fun k o v hk hv => by
  have hlt := Keep.lt hv
  simp only [World.cell?] at hv ⊢
  cases hc : A.heap[k]? with
  | none => rw [hc] at hv; simp at hv
  | some x =>
    cases x with
    | cells cs t fr => rw [h.cells k cs t fr (hF k hk hlt) hc]; rw [hc] at hv; exact hv
    | _ => rw [hc] at hv; simp at hv
theorem keep' {F : Nat → Prop} {w0 : World} (h : KeepC G A B) (hw : Keep F w0 A) (hF : ∀ k, F k → k < w0.heap.size → G k) : Keep F w0 B := fun k o v hk hv =>
  (h.keep (F := fun q => F q ∧ q < w0.heap.size) fun q hq _ => hF q hq.1 hq.2) k o v ⟨hk, Keep.lt hv⟩ (hw k o v hk hv)
theorem blk (h : KeepC G A B) {n : Nat} {cs : Array Value} {t : TypeId} (hb : Blk A n cs t) (hn : G n) : Blk B n cs t := h.cells n cs t (0, 0) hn hb
end KeepC

namespace Ty
mutual
/-- a type and those within, each ahead of its arguments', with their depths -/
def pre : Ty → Nat → List (Nat × Ty)
  | .mk l b, d => (d, .mk l b) :: pres l (d + 1)
def pres : List Ty → Nat → List (Nat × Ty)
  | [], _ => []
  | t :: l, d => pre t d ++ pres l d
end
theorem pres_append (l r : List Ty) (d : Nat) : pres (l ++ r) d = pres l d ++ pres r d := by
  induction l with
  | nil => simp [pres]
  | cons t l ih => simp [pres, ih]
theorem pres_take (l : List Ty) (i d : Nat) (h : i < l.length) : pres (l.take (i + 1)) d = pres (l.take i) d ++ pre l[i] d := by
  rw [List.take_succ_eq_append_getElem h, pres_append]; simp [pres]
theorem pres_take_le (l : List Ty) (i d : Nat) : pres (l.take i) d <+: pres l d := by
  conv => rhs; rw [← List.take_append_drop i l]
  rw [pres_append]; exact List.prefix_append _ _
theorem pre_length (t : Ty) : ∀ d, (pre t d).length = t.size := by
  induction t using Ty.ind with
  | h args base ih =>
    intro d
    have : ∀ l : List Ty, (∀ t ∈ l, ∀ d, (pre t d).length = t.size) → ∀ d, (pres l d).length = sizes l := by
      intro l
      induction l with
      | nil => intro _ d; simp [pres, sizes]
      | cons t l ih2 => intro h d; simp [pres, sizes, h t (by simp) d, ih2 (fun t ht => h t (by simp [ht])) d]
    simp [pre, size, this args ih (d + 1)]
theorem pres_length (l : List Ty) (d : Nat) : (pres l d).length = sizes l := by
  induction l with
  | nil => simp [pres, sizes]
  | cons t l ih => simp [pres, sizes, pre_length, ih]
end Ty

/-- what a loop over kind.Each is handed: a depth and a type that lies in memory -/
structure Hit (F : Nat → Prop) (w : World) where
  d : Nat
  a : Option Addr
  n : Nat
  c : Nat
  b : Int
  t : Ty
  ok : IsTy F w (.slice a n c) (.int .i64 b) t
def Hit.key {F : Nat → Prop} {w : World} (x : Hit F w) : Nat × Ty := (x.d, x.t)
def Hit.enc {F : Nat → Prop} {w : World} (x : Hit F w) : Array Value := #[.int .i64 x.d, .agg #[.slice x.a x.n x.c, .int .i64 x.b]]

def DownPost {F : Nat → Prop} {w0 : World} (G : Nat → Prop) (J Jx : List (Hit F w0) → World → Prop) (pre : List (Hit F w0)) (l : List (Nat × Ty)) (W : World) (e : Ending) (W' : World) : Prop :=
  (e = .returned (.bool true) ∧ KeepC G W W' ∧ ∃ xs, xs.map Hit.key = l ∧ J (pre ++ xs) W') ∨ (e = .returned (.bool false) ∧ ∃ xs, xs.map Hit.key <+: l ∧ Jx (pre ++ xs) W')

set_option maxRecDepth 100000 in
set_option maxHeartbeats 1000000 in
theorem down_k {F : Nat → Prop} {w0 : World} (G : Nat → Prop) (hGF : ∀ k, F k → k < w0.heap.size → G k) (l N : Nat) (hN0 : N ≤ 1000000) (J Jx : List (Hit F w0) → World → Prop) (hJ : ∀ p W o, J p W → J p (W.alloc o))
    (hY : ∀ m pre x W, J pre W → pre.length < N → YieldAt Fence.wide m Try.prog l (Hit.enc x) W fun e W' =>
      (e = .returned (.bool true) ∧ J (pre ++ [x]) W' ∧ KeepC G W W') ∨ (e = .returned (.bool false) ∧ Jx (pre ++ [x]) W'))
    {s b : Value} {t : Ty} (ht : IsTy F w0 s b t) : ∀ (n d : Nat) (di : Int) (pre : List (Hit F w0)) (W : World), di = d → (∀ k, W.heap.size ≤ k → G k) → Keep F w0 W → J pre W → pre.length + t.size ≤ N → d + t.depth ≤ 1000000 →
      CallsIn Fence.wide n Try.prog 114 #[.agg #[s, b], .int .i64 di, .func (.yield l) #[] #[]] W (DownPost G J Jx pre (t.pre d) W) := by
  induction ht with
  | mk a n c b args bl off A N' C B hn hm ha h1 h2 h3 ih =>
  intro nn d di pre W hdi hG hw hJ0 hN hd
  subst hdi
  have ht : IsTy F w0 (.slice a n c) (.int .i64 b) (.mk args b) := IsTy.mk a n c b args bl off A N' C B hn hm ha h1 h2 h3
  clear h3 hm
  subst hn
  have hdd : ∀ k : Nat, (Fence.wide.depth.isSome = true → 1 ≤ k) := fun k h => by cases h
  have hlen : args.length ≤ 1000000 := by have := Ty.length_lt (l := args) (b := b); omega
  obtain ⟨fn, tmps, assign, body, hy, hR⟩ := hY (nn - 1) pre ⟨d, _, _, _, _, _, ht⟩ (W.alloc (.cells #[.slice a args.length c, .int .i64 b] 40)) (hJ _ _ _ hJ0) (by have := Ty.size_pos (.mk args b); omega)
  dsimp only [Hit.enc] at hy
  refine callsIn_of_wp Try.func114 rfl trivial ?_ rfl
  simp only [Try.ntmps114, List.size_toArray, List.length_cons, List.length_nil, Nat.reduceAdd, Nat.reduceSub, Array.replicate_succ, Array.replicate_zero, List.push_toArray, List.append_toArray, List.nil_append, List.cons_append]
  gi_wp2_with fail
  refine ⟨hdd _, hR.mono ?_⟩
  rintro e W1 (⟨rfl, hJ1, hk1⟩ | ⟨rfl, hx1⟩)
  rotate_left
  · gi_wp2_with fail
    go_ret
    exact .inr ⟨rfl, [⟨d, _, _, _, _, _, ht⟩], ⟨Ty.pres args (d + 1), by simp [Hit.key, Ty.pre]⟩, hx1⟩
  have hk0 : KeepC G W W1 := ((KeepC.refl G W).alloc _).trans hk1
  have hbox : Blk W1 W.heap.size #[.slice a args.length c, .int .i64 b] 40 := hk1.blk (Blk.new _ _ _ rfl) (hG _ (Nat.le_refl _))
  have c0 : W1.cell? ⟨W.heap.size, 0, none⟩ = some (.slice a args.length c) := hbox.cell rfl
  have Hih := Lib.hid ih; clear ih
  have hG' := Lib.hid hG; clear hG
  have hN' := Lib.hid hN; clear hN
  have hd' := Lib.hid hd; clear hd
  have Ht := Lib.hid ht
  have hJ1' := Lib.hid hJ1
  clear hR hy hY
  gi_wp2_with fail
  gi_loopw [8, 17] (fun _ i wr => ∃ (k : Nat) (xs : List (Hit F w0)), i = .int .i64 k ∧ k ≤ args.length ∧ Hid (xs.map Hit.key = Ty.pres (args.take k) (d + 1)) ∧ J (pre ++ [⟨d, _, _, _, _, _, Ht.out⟩] ++ xs) wr ∧ KeepC G W wr) (fun _ i _ => args.length - (intOf i).toNat)
  case atStart => exact ⟨0, [], rfl, by omega, by simp [Hid, Ty.pres], by simpa using hJ1, hk0⟩
  case round =>
    obtain ⟨k, xs, rfl, hk, hxs, hJr, hkr⟩ := hrel
    have Hkr := Lib.hid hkr
    have HJr := Lib.hid hJr; clear hJr
    have hsz := hkr.size
    by_cases hlt : k < args.length
    · obtain ⟨rfl, hF⟩ := ha (by omega)
      have hKp : Keep F w0 wr := hkr.keep' hw hGF
      have e1 : wr.cell? ⟨bl, off + k * 2, none⟩ = some (.slice (A k) (N' k) (C k)) := hKp _ _ _ hF (h1 k hlt)
      have e2 : wr.cell? ⟨bl, off + k * 2 + 1, none⟩ = some (.int .i64 (B k)) := hKp _ _ _ hF (h2 k hlt)
      have hdb : (d : Int) ≤ 1000000 := by have := hd'.out; omega
      have hs1 := Lib.hid (Ty.sizes_take args k hlt)
      have hs2 := Lib.hid (Ty.sizes_take_le args (k + 1))
      have hl : Hid (xs.length = Ty.sizes (args.take k)) := by
        show _ = _
        have := congrArg List.length hxs.out
        rw [List.length_map] at this
        rw [this, Ty.pres_length]
      gi_wp2_with fail
      refine ⟨trivial, hdd _, (Hih.out k hlt (nn - 1) (d + 1) ((d : Int) + 1) _ _ (by omega) (fun q hq => hG'.out q (by simp at hq; omega)) (hKp.alloc _) (hJ _ _ _ HJr.out) ?_ ?_).mono ?_⟩
      · have := hN'.out; have := hl.out; have := hs1.out; have := hs2.out; simp [Ty.size_eq] at *; omega
      · have := hd'.out; have := Ty.depth_get (b := b) k hlt; omega
      rintro e W2 (⟨rfl, hk2, ys, hys, hJ2⟩ | ⟨rfl, ys, hys, hx2⟩)
      · have HJ2 := Lib.hid hJ2; clear hJ2
        have Hys := Lib.hid hys; clear hys
        gi_wp2_with fail
        go_roundw
        case rel => exact ⟨k + 1, xs ++ ys, by go_num, by omega, by show _ = _; rw [List.map_append, hxs.out, Hys.out, Ty.pres_take _ _ _ hlt], by rw [← List.append_assoc]; exact HJ2.out, (Hkr.out.alloc _).trans hk2⟩
        case measure => simp [intOf]; omega
      · have Hys := Lib.hid hys; clear hys
        have Hx2 := Lib.hid hx2; clear hx2
        gi_wp2_with fail
        go_ret
        refine .inr ⟨rfl, ⟨d, _, _, _, _, _, Ht.out⟩ :: (xs ++ ys), ?_, by simpa using Hx2.out⟩
        obtain ⟨r, hr⟩ := Hys.out
        have hp := Ty.pres_take args k (d + 1) hlt
        rw [← hr] at hp
        obtain ⟨q, hq⟩ := Ty.pres_take_le args (k + 1) (d + 1)
        refine ⟨r ++ q, ?_⟩
        simp only [Ty.pre, List.map_cons, List.map_append, Hit.key, List.cons_append]
        rw [← hq, hp, ← hxs.out]
        simp [Hit.key, Function.comp_def]
    · gi_wp2_with fail
      go_ret
      refine .inl ⟨rfl, Hkr.out, ⟨d, _, _, _, _, _, Ht.out⟩ :: xs, ?_, by simpa using HJr.out⟩
      have h := hxs.out
      rw [List.take_of_length_le (by omega)] at h
      simp [Ty.pre, Hit.key, ← h]

/-- the closure that kind.Each hands back -/
theorem each1_k {F : Nat → Prop} {w0 : World} (G : Nat → Prop) (hGF : ∀ k, F k → k < w0.heap.size → G k) (l : Nat) (J Jx : List (Hit F w0) → World → Prop) (hJ : ∀ p W o, J p W → J p (W.alloc o))
    {s b : Value} {t : Ty} (ht : IsTy F w0 s b t) (hsz : t.size ≤ 500000) (n : Nat)
    (hY : ∀ pre x W, J pre W → pre.length < t.size → YieldAt Fence.wide (n - 1) Try.prog l (Hit.enc x) W fun e W' =>
      (e = .returned (.bool true) ∧ J (pre ++ [x]) W' ∧ KeepC G W W') ∨ (e = .returned (.bool false) ∧ Jx (pre ++ [x]) W'))
    (W : World) (hG : ∀ k, W.heap.size ≤ k → G k) (hw : Keep F w0 W) (Bt : Nat) (c0 : W.cell? ⟨Bt, 0, none⟩ = some s) (c1 : W.cell? ⟨Bt, 1, none⟩ = some b) (h0 : J [] W) :
    CallsIn Fence.wide n Try.prog 113 #[.func (.yield l) #[] #[], .pointer (some ⟨Bt, 0, none⟩)] W fun e W' => (∃ v, e = .returned v) ∧
      ((∃ ys, List.map Hit.key ys = t.pre 1 ∧ J ys W') ∨ (∃ pre, List.map Hit.key pre <+: t.pre 1 ∧ Jx pre W')) := by
  have hdd : ∀ k : Nat, (Fence.wide.depth.isSome = true → 1 ≤ k) := fun k h => by cases h
  have hp := Lib.hid (down_k G hGF l t.size (by omega) J Jx hJ (fun m pre x W hj hl => yield_any rfl m (hY pre x W hj hl)) ht (n - 1) 1 1 [] W rfl hG hw h0 (by simp) (by have := Ty.depth_le_size t; omega))
  have hG' := Lib.hid hG; clear hG hY
  obtain ⟨a, c, rfl, rfl⟩ := ht.shape
  refine callsIn_of_wp Try.func113 rfl trivial ?_ rfl
  simp only [Try.ntmps113, List.size_toArray, List.length_cons, List.length_nil, Nat.reduceAdd, Nat.reduceSub, Array.replicate_succ, Array.replicate_zero, List.push_toArray, List.append_toArray, List.nil_append, List.cons_append]
  gi_wp2_with fail
  refine ⟨trivial, hdd _, hp.out.mono ?_⟩
  rintro e W1 (⟨rfl, hk, ys, hys, hJ1⟩ | ⟨rfl, ys, hys, hx⟩)
  · have A1 := Lib.hid hys; clear hys
    gi_wp2_with fail
    go_end0
    exact ⟨⟨_, rfl⟩, .inl ⟨ys, A1.out, by simpa using hJ1⟩⟩
  · have A1 := Lib.hid hys; clear hys
    gi_wp2_with fail
    go_end0
    exact ⟨⟨_, rfl⟩, .inr ⟨ys, A1.out, by simpa using hx⟩⟩

theorem each_stops {F : Nat → Prop} {w0 : World} (G : Nat → Prop) (hGF : ∀ k, F k → k < w0.heap.size → G k) {s b : Value} {t : Ty} (ht : IsTy F w0 s b t) (hsz : t.size ≤ 500000) (n : Nat)
    (w : World) (hG : ∀ k, w.heap.size ≤ k → G k) (hw : Keep F w0 w) (Bt : Nat) (hB : Blk w Bt #[s, b] 40) :
    SeqStopsK Fence.wide n Try.prog 113 #[.pointer (some ⟨Bt, 0, none⟩)] (Hit.enc (F := F) (w := w0)) (KeepC G) (fun ys => ys.map Hit.key = t.pre 1) (fun p => p.map Hit.key <+: t.pre 1) t.size w :=
  fun l J Jx W hW hJ _ hY h0 => by
    have hB' := hB.below hW
    exact each1_k G hGF l J Jx (fun p W' o hj => hJ p W' _ none hj (World.grownBy_alloc W' o none) (fun r e => by cases e)) ht hsz n hY W (fun k hk => hG k (Nat.le_trans hW.size hk)) (hw.below hW) Bt (hB'.cell rfl) (hB'.cell rfl) h0

theorem each_k (s b : Value) (n : Nat) (w : World) (hs : ∃ a m c, s = .slice a m c) (hb : ∃ i, b = .int .i64 i) :
    CallsIn Fence.wide n Try.prog 71 #[.agg #[s, b]] w fun e w' => e = .returned (.func (.func 113) #[] #[.pointer (some ⟨w.heap.size, 0, none⟩)]) ∧ w' = w.alloc (.cells #[s, b] 40) := by
  obtain ⟨a, m, c, rfl⟩ := hs
  obtain ⟨i, rfl⟩ := hb
  refine callsIn_of_wp Try.func71 rfl trivial ?_ rfl
  simp only [Try.ntmps71, List.size_toArray, List.length_cons, List.length_nil, Nat.reduceAdd, Nat.reduceSub, Array.replicate_succ, Array.replicate_zero, List.push_toArray, List.append_toArray, List.nil_append, List.cons_append]
  gi_wp2_with fail
  go_ret
  exact ⟨rfl, rfl⟩
end Go.Proofs.Ytejpgifofkiofaa
