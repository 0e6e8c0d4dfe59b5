/-
  term.each: all terms within, each ahead of its arguments: what the iterator hands to a loop's body. term.Size, term.Depth, term.Right, term.Loose: what the loops over all terms within hand back. term.Right. A loop over a function, whose round writes to what its own assignment laid. term.Count.
-/
import Derived.Test.YtejpgifofkiofaaRowEachp2
import Derived.Test.YtejpgifofkiofaaRowEachp3
import Derived.Test.YtejpgifofkiofaaRowEachp9
import Derived.Test.YtejpgifofkiofaaRowEachp14
set_option linter.unusedVariables false
set_option linter.unusedSimpArgs false
namespace Go.Proofs.Ytejpgifofkiofaa
open Go.RowKit Go.Shelf
attribute [local go_sem] Oper.semAt_some

namespace Tm
mutual
def pre : Tm → Nat → Nat → List (Nat × Nat × Tm)
  | .mk b k i a, s, d => (s + b.length, d, .mk b k i a) :: pres a (s + b.length) (d + 1)
def pres : List Tm → Nat → Nat → List (Nat × Nat × Tm)
  | [], _, _ => []
  | t :: l, s, d => pre t s d ++ pres l s d
end
theorem pre_eq (b : List Ty) (k i : Int) (a : List Tm) (s d : Nat) : pre (.mk b k i a) s d = (s + b.length, d, .mk b k i a) :: pres a (s + b.length) (d + 1) := by rw [pre]
theorem pres_append (l r : List Tm) (s d : Nat) : pres (l ++ r) s d = pres l s d ++ pres r s d := by
  induction l with
  | nil => simp [pres]
  | cons t l ih => simp [pres, ih]
theorem pres_take (l : List Tm) (i s d : Nat) (h : i < l.length) : pres (l.take (i + 1)) s d = pres (l.take i) s d ++ pre l[i] s d := by
  rw [List.take_succ_eq_append_getElem h, pres_append]; simp [pres]
theorem pres_take_le (l : List Tm) (i s d : Nat) : pres (l.take i) s d <+: pres l s d := by
  conv => rhs; rw [← List.take_append_drop i l]
  rw [pres_append]; exact List.prefix_append _ _
theorem pres_length_of {l : List Tm} (h : ∀ t ∈ l, ∀ s d, (pre t s d).length = t.size) : ∀ s d, (pres l s d).length = sizes l := by
  induction l with
  | nil => intro s d; simp [pres, sizes]
  | cons t l ih => intro s d; simp [pres, sizes, h t (by simp) s d, ih (fun u hu => h u (by simp [hu])) s d]
theorem pre_length (t : Tm) : ∀ s d, (pre t s d).length = t.size := by
  induction t using Tm.ind with
  | h b k i a ih => intro s d; simp [pre_eq, size_eq, pres_length_of ih]
theorem pres_length (l : List Tm) (s d : Nat) : (pres l s d).length = sizes l := pres_length_of (fun t _ => pre_length t) s d
end Tm

structure Hit6 (F : Nat → Prop) (w : World) where
  s : Nat
  d : Nat
  pb : Option Addr
  cb : Nat
  pa : Option Addr
  ca : Nat
  t : Tm
  ok : IsTm F w (.slice pb t.binds.length cb) (.int .i64 t.kind) (.int .i64 t.index) (.slice pa t.args.length ca) t
def Hit6.key {F : Nat → Prop} {w : World} (x : Hit6 F w) : Nat × Nat × Tm := (x.s, x.d, x.t)
def Hit6.enc {F : Nat → Prop} {w : World} (x : Hit6 F w) : Array Value := #[.agg #[.int .i64 x.s, .int .i64 x.d], .agg #[.slice x.pb x.t.binds.length x.cb, .int .i64 x.t.kind, .int .i64 x.t.index, .slice x.pa x.t.args.length x.ca]]

def DownPost6 {F : Nat → Prop} {w0 : World} (G : Nat → TypeId → Prop) (J Jx : List (Hit6 F w0) → World → Prop) (pre : List (Hit6 F w0)) (l : List (Nat × Nat × Tm)) (W : World) (e : Ending) (W' : World) : Prop :=
  (e = .returned (.bool true) ∧ KeepC G W W' ∧ ∃ xs, xs.map Hit6.key = l ∧ J (pre ++ xs) W') ∨ (e = .returned (.bool false) ∧ ∃ xs, xs.map Hit6.key <+: l ∧ Jx (pre ++ xs) W')

def SpotOk (o : Obj) : Prop := o.isCells = false ∨ ∃ cs fr, o = .cells cs 148 fr
theorem KeepC.setNew {G : Nat → TypeId → Prop} {A B : World} (h : KeepC G A B) (p : Addr) (u : Value) (hp : A.heap.size ≤ p.block) : KeepC G A (B.setCell p u) :=
  ⟨by simpa using h.size, fun k cs t fr hk hc => by
    have hlt : k < A.heap.size := (Array.getElem?_eq_some_iff.1 hc).1
    exact (Below.heap_setCell _ _ _ _ (fun e => by omega)).trans (h.cells k cs t fr hk hc)⟩
theorem Mild.setSpot {β : Type} {B : Nat} {J : β → World → Prop} (h : Mild SpotOk B J) {s : β} {W : World} (hs : J s W) {n i : Nat} {cs : Array Value} (u : Value) (hb : Blk W n cs 148) (hB : B ≤ n) : J s (W.setCell ⟨n, i, none⟩ u) :=
  h s W _ (some n) hs ⟨rfl, rfl, rfl, by simp, fun k _ hk => Below.heap_setCell _ _ _ _ (fun e => hk (by rw [e]))⟩ (fun r e => by cases e; exact ⟨hB, _, hb, .inr ⟨_, _, rfl⟩⟩)

set_option maxRecDepth 100000 in
set_option maxHeartbeats 1000000 in
theorem down6_k {F : Nat → Prop} {w0 : World} (G : Nat → TypeId → Prop) (hGF : ∀ k t, F k → k < w0.heap.size → G k t) (l N B0 : Nat) (hN0 : N ≤ 1000000) (J Jx : List (Hit6 F w0) → World → Prop) (hJ : Mild SpotOk B0 J)
    (hY : ∀ m pre x W, J pre W → pre.length < N → YieldAt Fence.wide m Try.prog l (Hit6.enc x) W fun e W' =>
      (e = .returned (.bool true) ∧ J (pre ++ [x]) W' ∧ KeepC G W W') ∨ (e = .returned (.bool false) ∧ Jx (pre ++ [x]) W')) :
    ∀ t : Tm, ∀ {b k i a : Value} (_ : IsTm F w0 b k i a t) (n s d : Nat) (si di : Int) (pre : List (Hit6 F w0)) (W : World), si = s → di = d → (∀ k t, W.heap.size ≤ k → t ≠ 3 → G k t) → B0 ≤ W.heap.size → Keep F w0 W → J pre W → pre.length + t.size ≤ N → d + t.depth ≤ 1000000 → s + t.full ≤ 1000000 →
      CallsIn Fence.wide n Try.prog 126 #[.agg #[b, k, i, a], .agg #[.int .i64 si, .int .i64 di], .func (.yield l) #[] #[]] W (DownPost6 G J Jx pre (t.pre s d) W) := Tm.ind fun binds k0 i0 args ih => by
  intro b k i a ht nn s d si di pre W hsi hdi hG hB0 hw hJ0 hN hd hs
  subst hsi hdi
  obtain ⟨pa, pc, qa, qc, rfl, rfl, rfl, rfl⟩ := ht.shape
  simp only [Tm.binds, Tm.kind, Tm.index, Tm.args] at ht ⊢
  obtain ⟨_, _, _, hsl⟩ := ht.inv
  simp only [Tm.args] at hsl
  obtain ⟨_, hm, bl, off, PA, A, PN, PC, N', C, Kd, Ix, ha, h1, h2, h3, h4, h5⟩ := sl_cells6 hsl
  have hdd : ∀ k : Nat, (Fence.wide.depth.isSome = true → 1 ≤ k) := fun k h => by cases h
  have hlen : args.length ≤ 1000000 := by have := Tm.len_sizes args; rw [Tm.size_eq] at hN; omega
  have hbl : s + binds.length ≤ 1000000 := by have := Ty.le_sizes binds; rw [Tm.full_eq] at hs; omega
  have hq1 : IntKind.i64.wrap ((s : Int) + (binds.length : Int)) = (s : Int) + (binds.length : Int) := IntWalk.i64_in _ (by omega)
  have hdb : (d : Int) ≤ 1000000 := by omega
  have hq2 : IntKind.i64.wrap ((d : Int) + 1) = (d : Int) + 1 := IntWalk.i64_in _ (by omega)
  obtain ⟨W1, hW1⟩ : ∃ W1, (W.alloc (.cells #[.slice pa binds.length pc, .int .i64 k0, .int .i64 i0, .slice qa args.length qc] 37)).alloc (.cells #[.int .i64 ((s : Int) + (binds.length : Int)), .int .i64 d] 148) = W1 := ⟨_, rfl⟩
  have hJ1 : J pre W1 := by rw [← hW1]; exact hJ.alloc (hJ.alloc hJ0 _) _
  have xt : Blk W1 W.heap.size #[.slice pa binds.length pc, .int .i64 k0, .int .i64 i0, .slice qa args.length qc] 37 := by rw [← hW1]; exact (Blk.new _ _ _ rfl).alloc _
  have xs : Blk W1 (W.heap.size + 1) #[.int .i64 ((s : Int) + (binds.length : Int)), .int .i64 d] 148 := by rw [← hW1]; exact Blk.new _ _ _ (by simp)
  have hz1 : W1.heap.size = W.heap.size + 2 := by rw [← hW1]; simp
  have hk0 : KeepC G W W1 := by rw [← hW1]; exact ((KeepC.refl G W).alloc _).alloc _
  obtain ⟨X, hX⟩ : ∃ X : Hit6 F w0, X = ⟨s + binds.length, d, pa, pc, qa, qc, .mk binds k0 i0 args, ht⟩ := ⟨_, rfl⟩
  have hkey : X.key = (s + binds.length, d, .mk binds k0 i0 args) := by rw [hX]; rfl
  obtain ⟨fn, tmps, assign, body, hy, hR⟩ := hY (nn - 1) pre X W1 hJ1 (by have := Tm.size_pos (.mk binds k0 i0 args); omega)
  have henc : X.enc = #[.agg #[.int .i64 ((s : Int) + (binds.length : Int)), .int .i64 d], .agg #[.slice pa binds.length pc, .int .i64 k0, .int .i64 i0, .slice qa args.length qc]] := by rw [hX]; simp [Hit6.enc, Tm.binds, Tm.kind, Tm.index, Tm.args]
  rw [henc] at hy
  clear hX henc ht hsl
  refine callsIn_of_wp Try.func126 rfl trivial ?_ rfl
  simp only [Try.ntmps126, List.size_toArray, List.length_cons, List.length_nil, Nat.reduceAdd, Nat.reduceSub, Array.replicate_succ, Array.replicate_zero, List.push_toArray, List.append_toArray, List.nil_append, List.cons_append]
  have c0 : W1.cell? ⟨W.heap.size, 0, none⟩ = some (.slice pa binds.length pc) := xt.cell rfl
  have c1 : W1.cell? ⟨W.heap.size, 1, none⟩ = some (.int .i64 k0) := xt.cell rfl
  have c2 : W1.cell? ⟨W.heap.size, 2, none⟩ = some (.int .i64 i0) := xt.cell rfl
  have c3 : W1.cell? ⟨W.heap.size, 3, none⟩ = some (.slice qa args.length qc) := xt.cell rfl
  have s0 : W1.cell? ⟨W.heap.size + 1, 0, none⟩ = some (.int .i64 ((s : Int) + (binds.length : Int))) := xs.cell rfl
  have s1 : W1.cell? ⟨W.heap.size + 1, 1, none⟩ = some (.int .i64 d) := xs.cell rfl
  gi_wp2_with fail
  clear hW1
  refine ⟨hdd _, hR.mono ?_⟩
  clear c0 c1 c2 c3 s0 s1
  rintro e W2 (⟨rfl, hJ2, hk1⟩ | ⟨rfl, hx1⟩)
  rotate_left
  · gi_wp2_with fail
    go_ret
    exact .inr ⟨rfl, [X], ⟨Tm.pres args (s + binds.length) (d + 1), by simp [hkey, Tm.pre_eq]⟩, hx1⟩
  have yt : Blk W2 W.heap.size _ _ := hk1.blk xt (hG _ _ (Nat.le_refl _) (by decide))
  have ys : Blk W2 (W.heap.size + 1) _ _ := hk1.blk xs (hG _ _ (by omega) (by decide))
  have c0 : W2.cell? ⟨W.heap.size, 0, none⟩ = some (.slice pa binds.length pc) := yt.cell rfl
  have c1 : W2.cell? ⟨W.heap.size, 1, none⟩ = some (.int .i64 k0) := yt.cell rfl
  have c2 : W2.cell? ⟨W.heap.size, 2, none⟩ = some (.int .i64 i0) := yt.cell rfl
  have c3 : W2.cell? ⟨W.heap.size, 3, none⟩ = some (.slice qa args.length qc) := yt.cell rfl
  have s1 : W2.cell? ⟨W.heap.size + 1, 1, none⟩ = some (.int .i64 d) := ys.cell rfl
  have f1 := ys.free 1
  gi_wp2_with fail
  obtain ⟨W3, hW3⟩ : ∃ W3, W2.setCell ⟨W.heap.size + 1, 1, none⟩ (.int .i64 ((d : Int) + 1)) = W3 := ⟨_, rfl⟩
  have hJ3 : J (pre ++ [X]) W3 := by rw [← hW3]; exact hJ.setSpot hJ2 _ ys (by omega)
  have hk3 : KeepC G W W3 := by rw [← hW3]; exact (hk0.trans hk1).setNew _ _ (by simp)
  have xt3 : Blk W3 W.heap.size #[.slice pa binds.length pc, .int .i64 k0, .int .i64 i0, .slice qa args.length qc] 37 := by rw [← hW3]; exact yt.far _ _ (by simp)
  have xs3 : Blk W3 (W.heap.size + 1) #[.int .i64 ((s : Int) + (binds.length : Int)), .int .i64 ((d : Int) + 1)] 148 := by rw [← hW3]; exact ys.set 1 _
  try rw [hW3]
  clear hW3 c0 c1 c2 c3 s1 f1 hJ2 hk1 yt ys hk0 xt xs hJ1 hR hy hY hz1
  have Hih := Lib.hid ih; clear ih
  have HG := Lib.hid hG; clear hG
  have HN := Lib.hid hN; clear hN
  have Hd := Lib.hid hd; clear hd
  have Hs := Lib.hid hs; clear hs
  gi_loopw [8, 28] (fun _ i wr => ∃ (k : Nat) (xs : List (Hit6 F w0)), i = .int .i64 k ∧ k ≤ args.length ∧ Hid (xs.map Hit6.key = Tm.pres (args.take k) (s + binds.length) (d + 1)) ∧ J (pre ++ [X] ++ xs) wr ∧ KeepC G W wr ∧
      Blk wr W.heap.size #[.slice pa binds.length pc, .int .i64 k0, .int .i64 i0, .slice qa args.length qc] 37 ∧ Blk wr (W.heap.size + 1) #[.int .i64 ((s : Int) + (binds.length : Int)), .int .i64 ((d : Int) + 1)] 148) (fun _ i _ => args.length - (intOf i).toNat)
  case atStart => exact ⟨0, [], rfl, by omega, by simp [Hid, Tm.pres], by simpa using hJ3, hk3, xt3, xs3⟩
  case round =>
    clear hJ3 hk3 xt3 xs3
    obtain ⟨k, xs, rfl, hk, hxs, hJr, hkr, hbt, hbs⟩ := hrel
    have Hkr := Lib.hid hkr
    have HJr := Lib.hid hJr; clear hJr
    have hsz := hkr.size
    have hsb := hbs.lt
    have s0 : wr.cell? ⟨W.heap.size + 1, 0, none⟩ = some (.int .i64 ((s : Int) + (binds.length : Int))) := hbs.cell rfl
    have s1 : wr.cell? ⟨W.heap.size + 1, 1, none⟩ = some (.int .i64 ((d : Int) + 1)) := hbs.cell rfl
    by_cases hlt : k < args.length
    · obtain ⟨rfl, hF⟩ := ha (by omega)
      have hKp : Keep F w0 wr := hkr.keep' hw hGF
      have e1 := hKp _ _ _ hF (h1 k hlt)
      have e2 := hKp _ _ _ hF (h2 k hlt)
      have e3 := hKp _ _ _ hF (h3 k hlt)
      have e4 := hKp _ _ _ hF (h4 k hlt)
      have hs1 := Lib.hid (Tm.sizes_take args k hlt)
      have hs2 := Lib.hid (Tm.sizes_take_le args (k + 1))
      have hl : Hid (xs.length = Tm.sizes (args.take k)) := by
        show _ = _
        have := congrArg List.length hxs.out
        rw [List.length_map] at this
        rw [this, Tm.pres_length]
      have hz : pre.length + 1 + xs.length + args[k].size ≤ N := by have := HN.out; have := hl.out; have := hs1.out; have := hs2.out; rw [Tm.size_eq] at *; omega
      gi_wp2_with fail
      refine ⟨trivial, hdd _, (Hih.out args[k] (List.getElem_mem hlt) (h5 k hlt) (nn - 1) (s + binds.length) (d + 1) ((s : Int) + (binds.length : Int)) ((d : Int) + 1) (pre ++ [X] ++ xs) _ (by omega) (by omega) (fun q t hq ht => HG.out q t (by simp at hq; omega) ht) (by simp; omega) (hKp.alloc _) (hJ.alloc HJr.out _) (by simp; omega) ?_ ?_).mono ?_⟩
      · have := Hd.out; have := Tm.depth_mem (List.getElem_mem hlt); rw [Tm.depth_eq] at *; omega
      · have := Hs.out; have := Tm.full_mem (List.getElem_mem hlt); have := Ty.le_sizes binds; rw [Tm.full_eq] at *; omega
      rintro e W2 (⟨rfl, hk2, ys, hys, hJ2⟩ | ⟨rfl, ys, hys, hx2⟩)
      · have HJ2 := Lib.hid hJ2; clear hJ2
        have Hys := Lib.hid hys; clear hys
        have hbt2 := hk2.blk (hbt.alloc _) (HG.out _ _ (Nat.le_refl _) (by decide))
        have hbs2 := hk2.blk (hbs.alloc _) (HG.out _ _ (by omega) (by decide))
        gi_wp2_with fail
        go_roundw
        case rel => exact ⟨k + 1, xs ++ ys, by go_num, by omega, by show _ = _; rw [List.map_append, hxs.out, Hys.out, Tm.pres_take _ _ _ _ hlt], by rw [← List.append_assoc]; exact HJ2.out, (Hkr.out.alloc _).trans hk2, hbt2, hbs2⟩
        case measure => simp [intOf]; omega
      · have Hys := Lib.hid hys; clear hys
        have Hx2 := Lib.hid hx2; clear hx2
        gi_wp2_with fail
        go_ret
        refine .inr ⟨rfl, X :: (xs ++ ys), ?_, by simpa using Hx2.out⟩
        obtain ⟨r, hr⟩ := Hys.out
        have hp := Tm.pres_take args k (s + binds.length) (d + 1) hlt
        rw [← hr] at hp
        obtain ⟨q, hq⟩ := Tm.pres_take_le args (k + 1) (s + binds.length) (d + 1)
        refine ⟨r ++ q, ?_⟩
        simp only [Tm.pre_eq, List.map_cons, List.map_append, hkey, List.cons_append]
        rw [← hq, hp, ← hxs.out]
        simp
    · gi_wp2_with fail
      go_ret
      refine .inl ⟨rfl, Hkr.out, X :: xs, ?_, by simpa using HJr.out⟩
      have h := hxs.out
      rw [List.take_of_length_le (by omega)] at h
      simp [Tm.pre_eq, hkey, ← h]

theorem each61_k {F : Nat → Prop} {w0 : World} (G : Nat → TypeId → Prop) (hGF : ∀ k t, F k → k < w0.heap.size → G k t) (l : Nat) (J Jx : List (Hit6 F w0) → World → Prop)
    {b k i a : Value} {t : Tm} (ht : IsTm F w0 b k i a t) (hsz : t.full ≤ 500000) (n : Nat) (W : World) (hJ : Mild SpotOk W.heap.size J)
    (hY : ∀ pre x V, J pre V → pre.length < t.size → YieldAt Fence.wide (n - 1) Try.prog l (Hit6.enc x) V fun e W' =>
      (e = .returned (.bool true) ∧ J (pre ++ [x]) W' ∧ KeepC G V W') ∨ (e = .returned (.bool false) ∧ Jx (pre ++ [x]) W'))
    (hG : ∀ k t, W.heap.size ≤ k → t ≠ 3 → G k t) (hw : Keep F w0 W) (Bt : Nat) (c0 : W.cell? ⟨Bt, 0, none⟩ = some b) (c1 : W.cell? ⟨Bt, 1, none⟩ = some k) (c2 : W.cell? ⟨Bt, 2, none⟩ = some i) (c3 : W.cell? ⟨Bt, 3, none⟩ = some a) (h0 : J [] W) :
    CallsIn Fence.wide n Try.prog 125 #[.func (.yield l) #[] #[], .pointer (some ⟨Bt, 0, none⟩)] W fun e W' => (∃ v, e = .returned v) ∧
      ((∃ ys, List.map Hit6.key ys = t.pre 0 1 ∧ J ys W') ∨ (∃ pre, List.map Hit6.key pre <+: t.pre 0 1 ∧ Jx pre W')) := by
  have hdd : ∀ k : Nat, (Fence.wide.depth.isSome = true → 1 ≤ k) := fun k h => by cases h
  have hf := Tm.size_le_full t
  have hp := Lib.hid (down6_k G hGF l t.size W.heap.size (by omega) J Jx hJ (fun m pre x V hj hl => yield_any rfl m (hY pre x V hj hl)) t ht (n - 1) 0 1 0 1 [] W rfl rfl hG (Nat.le_refl _) hw h0 (by simp) (by have := Tm.depth_le_size t; omega) (by omega))
  clear hG hY
  obtain ⟨pa, pc, qa, qc, rfl, rfl, rfl, rfl⟩ := ht.shape
  refine callsIn_of_wp Try.func125 rfl trivial ?_ rfl
  simp only [Try.ntmps125, List.size_toArray, List.length_cons, List.length_nil, Nat.reduceAdd, Nat.reduceSub, Array.replicate_succ, Array.replicate_zero, List.push_toArray, List.append_toArray, List.nil_append, List.cons_append]
  gi_wp2_with fail
  refine ⟨trivial, hdd _, hp.out.mono ?_⟩
  rintro e W1 (⟨rfl, hk, ys, hys, hJ1⟩ | ⟨rfl, ys, hys, hx⟩)
  · have A1 := Lib.hid hys; clear hys
    gi_wp2_with fail
    go_end0
    exact ⟨⟨_, rfl⟩, .inl ⟨ys, A1.out, by simpa using hJ1⟩⟩
  · have A1 := Lib.hid hys; clear hys
    gi_wp2_with fail
    go_end0
    exact ⟨⟨_, rfl⟩, .inr ⟨ys, A1.out, by simpa using hx⟩⟩

theorem each6_soft {F : Nat → Prop} {w0 : World} (G : Nat → TypeId → Prop) (hGF : ∀ k t, F k → k < w0.heap.size → G k t) {b k i a : Value} {t : Tm} (ht : IsTm F w0 b k i a t) (hsz : t.full ≤ 500000) (n : Nat)
    (w : World) (hG : ∀ k t, w.heap.size ≤ k → t ≠ 3 → G k t) (hw : Keep F w0 w) (Bt : Nat) (hB : Blk w Bt #[b, k, i, a] 37) :
    SeqSoft SpotOk Fence.wide n Try.prog 125 #[.pointer (some ⟨Bt, 0, none⟩)] (Hit6.enc (F := F) (w := w0)) (KeepC G) (fun ys => ys.map Hit6.key = t.pre 0 1) (fun p => p.map Hit6.key <+: t.pre 0 1) t.size w :=
  fun l J Jx W hW hJ _ hY h0 => by
    have hB' := hB.below hW
    exact each61_k G hGF l J Jx ht hsz n W hJ hY (fun k t hk ht => hG k t (Nat.le_trans hW.size hk) ht) (hw.below hW) Bt (hB'.cell rfl) (hB'.cell rfl) (hB'.cell rfl) (hB'.cell rfl) h0

theorem each6_k (b k i a : Value) (n : Nat) (w : World) (hs : ∃ p m c, b = .slice p m c) (hk : ∃ x, k = .int .i64 x) (hi : ∃ x, i = .int .i64 x) (ha : ∃ p m c, a = .slice p m c) :
    CallsIn Fence.wide n Try.prog 112 #[.agg #[b, k, i, a]] w fun e w' => e = .returned (.func (.func 125) #[] #[.pointer (some ⟨w.heap.size, 0, none⟩)]) ∧ w' = w.alloc (.cells #[b, k, i, a] 37) := by
  obtain ⟨pb, mb, cb, rfl⟩ := hs
  obtain ⟨kx, rfl⟩ := hk
  obtain ⟨ix, rfl⟩ := hi
  obtain ⟨pa, ma, ca, rfl⟩ := ha
  refine callsIn_of_wp Try.func112 rfl trivial ?_ rfl
  simp only [Try.ntmps112, List.size_toArray, List.length_cons, List.length_nil, Nat.reduceAdd, Nat.reduceSub, Array.replicate_succ, Array.replicate_zero, List.push_toArray, List.append_toArray, List.nil_append, List.cons_append]
  gi_wp2_with fail
  go_ret
  exact ⟨rfl, rfl⟩
end Go.Proofs.Ytejpgifofkiofaa

namespace Go.Proofs.Ytejpgifofkiofaa
open Go.RowKit Go.Shelf
attribute [local go_sem] Oper.semAt_some

theorem spot_int {W : World} {n : Nat} {cs : Array Value} {T : TypeId} (hT : T ≠ 148) {W' : World} {B : Nat} {row : Option Nat} (h : Blk W n cs T) (hg : W.grownBy W' row) (hr : ∀ r, row = some r → B ≤ r ∧ ∃ o : Obj, W.heap[r]? = some o ∧ SpotOk o) : Blk W' n cs T :=
  h.grown hg fun e => by
    obtain ⟨_, o, ho, h'⟩ := hr _ e
    have hb : W.heap[n]? = _ := h
    rw [hb] at ho; cases ho
    rcases h' with h' | ⟨cs', fr, h'⟩
    · simp [Obj.isCells] at h'
    · cases h'; exact hT rfl
theorem mild_blk {β : Type} {n B : Nat} {T : TypeId} (hT : T ≠ 148) (f : β → Array Value) : Mild SpotOk B (fun s W => Blk W n (f s) T) := fun _ _ _ _ hs hg hr => spot_int hT hs hg hr

set_option maxRecDepth 100000 in
set_option maxHeartbeats 2000000 in
theorem size6_k {F : Nat → Prop} {w : World} {b k i a : Value} {t : Tm} (ht : IsTm F w b k i a t) (hsz : t.full ≤ 500000) : Calls Try.prog 67 #[.agg #[b, k, i, a]] w (RetI t.size w) := by
  refine (callsIn_wide (n := 9)).1 ?_
  have Ht := Lib.hid (ht.weaken (F' := fun _ => True) fun _ _ _ => trivial)
  obtain ⟨pa, pc, qa, qc, rfl, rfl, rfl, rfl⟩ := ht.shape
  clear ht
  obtain ⟨x1, hx1⟩ : ∃ x, t.binds.length = x := ⟨_, rfl⟩
  obtain ⟨x2, hx2⟩ : ∃ x, t.args.length = x := ⟨_, rfl⟩
  obtain ⟨x3, hx3⟩ : ∃ x, t.kind = x := ⟨_, rfl⟩
  obtain ⟨x4, hx4⟩ : ∃ x, t.index = x := ⟨_, rfl⟩
  rw [hx1, hx2, hx3, hx4] at Ht ⊢
  clear hx1 hx2 hx3 hx4
  refine callsIn_of_wp_marks Try.func67 rfl trivial ?_ rfl
  simp only [Try.ntmps67, List.size_toArray, List.length_cons, List.length_nil, Nat.reduceAdd, Nat.reduceSub, Array.replicate_succ, Array.replicate_zero, List.push_toArray, List.append_toArray, List.nil_append, List.cons_append]
  gi_wp2_with fail
  refine ⟨trivial, (each6_k _ _ _ _ _ _ ⟨_, _, _, rfl⟩ ⟨_, rfl⟩ ⟨_, rfl⟩ ⟨_, _, _, rfl⟩).mono ?_⟩
  rintro e w' ⟨rfl, rfl⟩
  gi_wp2_with fail
  have hsz' := Lib.hid hsz
  have hfl := Tm.size_le_full t
  have hB0 : Below w.heap.size w (((w.alloc (.cells #[.slice pa x1 pc, .int .i64 x3, .int .i64 x4, .slice qa x2 qc] 37)).alloc (.cells #[.int .i64 0] 3)).alloc (.cells #[.slice pa x1 pc, .int .i64 x3, .int .i64 x4, .slice qa x2 qc] 37)) := (((Below.refl _ w).alloc (Nat.le_refl _) _).alloc (by simp) _).alloc (by simp; omega) _
  refine range_soft (Ok := SpotOk) (fun o h => .inl h) rfl (by omega) (gf := 125) (lb := #[.pointer (some ⟨w.heap.size + 1 + 1, 0, none⟩)]) rfl trivial (enters_of Try.func125 (by kernel_rfl) rfl)
    (each6_soft (But w.heap.size (w.heap.size + 2)) (fun k _ _ hk => .inl hk) Ht.out hsz (9 - 1) _ (fun k _ hk _ => .inr (by simp at hk; omega)) ((Keep.refl _ _).below hB0) (w.heap.size + 1 + 1) (Blk.new _ _ _ (by simp)))
    (fun h h' => h.trans h') (fun W l o o' _ hl ho _ => KeepC.putObj _ W l o o' hl ho) (Below.refl _ _) (fun _ => rfl)
    (fun pre W => Blk W (w.heap.size + 1) #[.int .i64 (pre.length : Int)] 3 ∧ Below w.heap.size w W)
    (fun _ _ _ => False)
    (Mild.and (mild_blk (by decide) (fun (pre : List (Hit6 (fun _ => True) w)) => #[.int .i64 (pre.length : Int)])) (mild_below (Nat.le_refl _) (by simp; omega)))
    (fun _ _ _ _ _ hs _ _ => hs)
    ⟨(Blk.new _ _ _ (by simp)).alloc _, hB0⟩
    (fun x => { tmps := #[.agg #[.slice pa x1 pc, .int .i64 x3, .int .i64 x4, .slice qa x2 qc], .pointer (some ⟨w.heap.size, 0, none⟩), .int .i64 0, .pointer (some ⟨w.heap.size + 1, 0, none⟩), .agg #[.slice pa x1 pc, .int .i64 x3, .int .i64 x4, .slice qa x2 qc], .func (.func 125) #[] #[.pointer (some ⟨w.heap.size + 1 + 1, 0, none⟩)], .agg #[.int .i64 x.s, .int .i64 x.d], .agg #[.slice x.pb x.t.binds.length x.cb, .int .i64 x.t.kind, .int .i64 x.t.index, .slice x.pa x.t.args.length x.ca], undef, undef, undef], defers := [] }) ?assign ?body ?done ?stop
  case assign =>
    intro l x W K hK
    simp only [Hit6.enc]
    gi_wp2
    first | exact hK | simpa using hK
  case body =>
    rintro l pre x W ⟨hn, hB⟩ hlt
    have c0 : W.cell? ⟨w.heap.size + 1, 0, none⟩ = some (.int .i64 (pre.length : Int)) := hn.cell rfl
    have f0 := hn.free 0
    have hlt2 : (pre.length : Int) ≤ 1000000 := by omega
    gi_wp2
    refine ⟨(KeepsOthers.setCell _ _ _).from _, (KeepC.refl _ W).setCell _ _ (by simp [But]), ?_, hB.setCell (p := ⟨w.heap.size + 1, 0, none⟩) (by simp) _⟩
    have := hn.set 0 (.int .i64 ((pre.length : Int) + 1))
    simpa using this
  case done =>
    rintro D ys W hD hys ⟨hn, hB⟩ hK
    have c0 : W.cell? ⟨w.heap.size + 1, 0, none⟩ = some (.int .i64 (ys.length : Int)) := hn.cell rfl
    have hl : ys.length = t.size := by rw [← Tm.pre_length t 0 1, ← hys, List.length_map]
    have Hl := Lib.hid hl
    clear hys hl
    gi_wp2
    refine ⟨by simp, .inl ⟨_, _, rfl, run_takeDeferred hK, ?_⟩⟩
    exact ⟨_, results_tmp rfl _ _ _, by rw [Hl.out]; rfl, hB.trans (belowK_b (w := w) (Nat.le_refl _) W D _ _ (by simp at hD; omega) hK rfl rfl)⟩
  case stop =>
    rintro D c pre W _ _ h _
    exact h.elim
end Go.Proofs.Ytejpgifofkiofaa

namespace Go.Proofs.Ytejpgifofkiofaa
open Go.RowKit Go.Shelf
attribute [local go_sem] Oper.semAt_some

namespace Tm
theorem pres_depth_of {l : List Tm} (h : ∀ t ∈ l, ∀ s d m, (∀ p ∈ pre t s d, p.2.1 ≤ m) ↔ d + t.depth ≤ m + 1) : ∀ s d m, d ≤ m + 1 → ((∀ p ∈ pres l s d, p.2.1 ≤ m) ↔ d + depths l ≤ m + 1) := by
  intro s d m hd
  induction l with
  | nil => simp [pres, depths, hd]
  | cons t l ih =>
    have h1 := h t (by simp) s d m
    have h2 := ih (fun u hu => h u (by simp [hu]))
    simp only [pres, depths, List.mem_append]
    constructor
    · intro h3
      have a := h1.1 fun p hp => h3 p (.inl hp)
      have b := h2.1 fun p hp => h3 p (.inr hp)
      omega
    · intro h3 p hp
      rcases hp with hp | hp
      · exact h1.2 (by omega) p hp
      · exact h2.2 (by omega) p hp
theorem pre_depth (t : Tm) : ∀ s d m, (∀ p ∈ pre t s d, p.2.1 ≤ m) ↔ d + t.depth ≤ m + 1 := by
  induction t using Tm.ind with
  | h b k i a ih =>
    intro s d m
    have h := pres_depth_of ih (s + b.length) (d + 1) m
    rw [pre_eq, depth_eq]
    simp only [List.mem_cons, forall_eq_or_imp]
    constructor
    · rintro ⟨h1, h2⟩
      have := (h (by omega)).1 h2
      omega
    · intro h1
      exact ⟨by omega, (h (by omega)).2 (by omega)⟩
end Tm

set_option maxRecDepth 100000 in
set_option maxHeartbeats 2000000 in
theorem right6_k {F : Nat → Prop} {w : World} {b k i a : Value} {t : Tm} (ht : IsTm F w b k i a t) (hsz : t.full ≤ 500000) : Calls Try.prog 73 #[.agg #[b, k, i, a]] w (RetB (t.size ≤ 5000 ∧ t.depth ≤ 60) w) := by
  refine (callsIn_wide (n := 9)).1 ?_
  have Ht := Lib.hid (ht.weaken (F' := fun _ => True) fun _ _ _ => trivial)
  obtain ⟨pa, pc, qa, qc, rfl, rfl, rfl, rfl⟩ := ht.shape
  clear ht
  obtain ⟨x1, hx1⟩ : ∃ x, t.binds.length = x := ⟨_, rfl⟩
  obtain ⟨x2, hx2⟩ : ∃ x, t.args.length = x := ⟨_, rfl⟩
  obtain ⟨x3, hx3⟩ : ∃ x, t.kind = x := ⟨_, rfl⟩
  obtain ⟨x4, hx4⟩ : ∃ x, t.index = x := ⟨_, rfl⟩
  rw [hx1, hx2, hx3, hx4] at Ht ⊢
  clear hx1 hx2 hx3 hx4
  refine callsIn_of_wp_marks Try.func73 rfl trivial ?_ rfl
  simp only [Try.ntmps73, List.size_toArray, List.length_cons, List.length_nil, Nat.reduceAdd, Nat.reduceSub, Array.replicate_succ, Array.replicate_zero, List.push_toArray, List.append_toArray, List.nil_append, List.cons_append]
  gi_wp2_with fail
  refine ⟨trivial, (each6_k _ _ _ _ _ _ ⟨_, _, _, rfl⟩ ⟨_, rfl⟩ ⟨_, rfl⟩ ⟨_, _, _, rfl⟩).mono ?_⟩
  rintro e w' ⟨rfl, rfl⟩
  gi_wp2_with fail
  have hsz' := Lib.hid hsz
  have hfl := Tm.size_le_full t
  obtain ⟨w5, hw5⟩ : ∃ w5, (((w.alloc (.cells #[.slice pa x1 pc, .int .i64 x3, .int .i64 x4, .slice qa x2 qc] 37)).alloc (.cells #[.bool false] 4)).alloc (.cells #[.int .i64 0] 3)).alloc (.cells #[.slice pa x1 pc, .int .i64 x3, .int .i64 x4, .slice qa x2 qc] 37) = w5 := ⟨_, rfl⟩
  have hB0 : Below w.heap.size w w5 := by rw [← hw5]; exact ((((Below.refl _ w).alloc (Nat.le_refl _) _).alloc (by simp) _).alloc (by simp; omega) _).alloc (by simp; omega) _
  have hz : w5.heap.size = w.heap.size + 4 := by rw [← hw5]; simp
  have y1 : Blk w5 (w.heap.size + 1) #[.bool false] 4 := by rw [← hw5]; exact ((Blk.new _ _ _ (by simp)).alloc _).alloc _
  have y2 : Blk w5 (w.heap.size + 2) #[.int .i64 0] 3 := by rw [← hw5]; exact (Blk.new _ _ _ (by simp)).alloc _
  have y3 : Blk w5 (w.heap.size + 1 + 1 + 1) #[.slice pa x1 pc, .int .i64 x3, .int .i64 x4, .slice qa x2 qc] 37 := by rw [← hw5]; exact Blk.new _ _ _ (by simp)
  rw [hw5]
  clear hw5
  refine range_softA (Ok := SpotOk) (fun o h => .inl h) rfl (by omega) (gf := 125) (lb := #[.pointer (some ⟨w.heap.size + 1 + 1 + 1, 0, none⟩)]) rfl trivial (enters_of Try.func125 (by kernel_rfl) rfl)
    (each6_soft (But w.heap.size (w.heap.size + 3)) (fun k _ _ hk => .inl hk) Ht.out hsz (9 - 1) w5 (fun k _ hk _ => .inr (by omega)) ((Keep.refl _ _).below hB0) (w.heap.size + 1 + 1 + 1) y3)
    (fun h h' => h.trans h') (fun W l o o' _ hl ho _ => KeepC.putObj _ W l o o' hl ho) (Below.refl _ _) (fun _ => rfl)
    (fun pre W => (Blk W (w.heap.size + 1) #[.bool false] 4 ∧ Blk W (w.heap.size + 2) #[.int .i64 (pre.length : Int)] 3) ∧ (Hid (pre.length ≤ 5000 ∧ ∀ x ∈ pre, x.d ≤ 60) ∧ Below w.heap.size w W))
    (fun c pre W => (Blk W (w.heap.size + 1) #[.bool false] 4 ∧ Below w.heap.size w W) ∧ (c = .ret ∧ Hid (5000 < pre.length ∨ ∃ x ∈ pre, ¬ x.d ≤ 60)))
    (Mild.and (Mild.and (mild_blk (by decide) (fun (_ : List (Hit6 (fun _ => True) w)) => #[.bool false])) (mild_blk (by decide) (fun (pre : List (Hit6 (fun _ => True) w)) => #[.int .i64 (pre.length : Int)]))) (Mild.and (fun _ _ _ _ h _ _ => h) (mild_below (Nat.le_refl _) (by omega))))
    (fun c => Mild.and (Mild.and (mild_blk (by decide) (fun (_ : List (Hit6 (fun _ => True) w)) => #[.bool false])) (mild_below (Nat.le_refl _) (by omega))) (fun _ _ _ _ h _ _ => h))
    ⟨⟨y1, y2⟩, ⟨by simp, by simp⟩, hB0⟩
    (fun x a' W => ∃ Bx, w.heap.size + 2 < Bx ∧ Blk W Bx #[.int .i64 x.s, .int .i64 x.d] 148 ∧ a' = { tmps := #[.agg #[.slice pa x1 pc, .int .i64 x3, .int .i64 x4, .slice qa x2 qc], .pointer (some ⟨w.heap.size, 0, none⟩), .pointer (some ⟨w.heap.size + 1, 0, none⟩), .pointer (some ⟨w.heap.size + 1 + 1, 0, none⟩), .pointer (some ⟨Bx, 0, none⟩), .agg #[.slice pa x1 pc, .int .i64 x3, .int .i64 x4, .slice qa x2 qc], .func (.func 125) #[] #[.pointer (some ⟨w.heap.size + 1 + 1 + 1, 0, none⟩)], .agg #[.int .i64 x.s, .int .i64 x.d], .agg #[.slice x.pb x.t.binds.length x.cb, .int .i64 x.t.kind, .int .i64 x.t.index, .slice x.pa x.t.args.length x.ca], undef, undef, undef, undef, undef, undef, undef, undef, undef], defers := [] })
    (fun x a' W l o o' hl ho hoc => by
      rintro ⟨Bx, h1, h2, h3⟩
      refine ⟨Bx, h1, ?_, h3⟩
      have hne : l ≠ Bx := fun e => by
        subst e
        have hb : W.heap[l]? = _ := h2
        rw [hb] at ho; cases ho; simp [Obj.isCells] at hoc
      exact (World.putObj_heap_other (Ne.symm hne)).trans h2) ?assign ?body ?done ?stop
  case assign =>
    rintro l pre x W K ⟨⟨z1, z2⟩, hp, hB⟩ hK
    have HK := Lib.hid hK; clear hK
    have Hp := Lib.hid hp; clear hp
    simp only [Hit6.enc] at *
    gi_wp2
    have hs := hB.size
    exact HK.out _ _ ((KeepsOthers.alloc _ _).from _) ((KeepC.refl _ W).alloc _) ⟨⟨z1.alloc _, z2.alloc _⟩, Hp.out, hB.alloc hs _⟩ ⟨W.heap.size, z2.lt, Blk.new _ _ _ rfl, rfl⟩
  case body =>
    rintro l pre x a' W ⟨⟨z1, z2⟩, hp, hB⟩ hlt ⟨Bx, hBx, bX, rfl⟩
    have c1 : W.cell? ⟨w.heap.size + 1, 0, none⟩ = some (.bool false) := z1.cell rfl
    have f1 := z1.free 0
    have c2 : W.cell? ⟨w.heap.size + 1 + 1, 0, none⟩ = some (.int .i64 (pre.length : Int)) := z2.cell rfl
    have f2 := z2.free 0
    have cx : W.cell? ⟨Bx, 1, none⟩ = some (.int .i64 x.d) := bX.cell rfl
    have hlt2 : (pre.length : Int) ≤ 1000000 := by omega
    have hBn : ¬ (Bx = w.heap.size + 1 + 1) := by omega
    have Hp := Lib.hid hp.out; clear hp
    have hbd : Hid (Below w.heap.size w ((W.setCell ⟨w.heap.size + 1 + 1, 0, none⟩ (.int .i64 ((pre.length : Int) + 1))).setCell ⟨w.heap.size + 1, 0, none⟩ (.bool false))) := (hB.setCell (by simp; omega) _).setCell (by simp) _
    by_cases h2 : (5000 : Int) < (pre.length : Int) + 1
    · gi_wp2
      first
      | exact ⟨((KeepsOthers.setCell W _ _).trans (KeepsOthers.setCell _ _ _)).from _, ⟨(z1.far ⟨w.heap.size + 1 + 1, 0, none⟩ _ (by simp)).set 0 _, hbd.out⟩, rfl, .inl (by simp; omega)⟩
      | exact ⟨(KeepsOthers.setCell W _ _).from _, ⟨z1.far ⟨w.heap.size + 1 + 1, 0, none⟩ _ (by simp), hB.setCell (by simp; omega) _⟩, rfl, .inl (by simp; omega)⟩
    by_cases h1 : 60 < x.d
    · have h1' : (60 : Int) < (x.d : Int) := by omega
      gi_wp2
      first
      | exact ⟨((KeepsOthers.setCell W _ _).trans (KeepsOthers.setCell _ _ _)).from _, ⟨(z1.far ⟨w.heap.size + 1 + 1, 0, none⟩ _ (by simp)).set 0 _, hbd.out⟩, rfl, .inr ⟨x, by simp, by omega⟩⟩
      | exact ⟨(KeepsOthers.setCell W _ _).from _, ⟨z1.far ⟨w.heap.size + 1 + 1, 0, none⟩ _ (by simp), hB.setCell (by simp; omega) _⟩, rfl, .inr ⟨x, by simp, by omega⟩⟩
    have h1' : ¬ (60 : Int) < (x.d : Int) := by omega
    gi_wp2
    refine ⟨(KeepsOthers.setCell W _ _).from _, (KeepC.refl _ W).setCell _ _ (by simp [But]; omega), ⟨z1.far _ _ (by simp), ?_⟩, ⟨by have := Hp.out.1; simp; omega, fun y hy => ?_⟩, hB.setCell (by simp; omega) _⟩
    · have := z2.set 0 (.int .i64 ((pre.length : Int) + 1))
      simpa using this
    · rcases List.mem_append.1 hy with hy | hy
      · exact Hp.out.2 y hy
      · simp at hy; subst hy; omega
  case done =>
    rintro D ys W hD hys ⟨⟨z1, z2⟩, hp, hB⟩ hK
    have c1 : W.cell? ⟨w.heap.size + 1, 0, none⟩ = some (.bool false) := z1.cell rfl
    have f1 := z1.free 0
    have Hys := Lib.hid hys; clear hys
    have Hp := Lib.hid hp.out; clear hp
    gi_wp2
    have hK' := (KeepsOthers.setCell W ⟨w.heap.size + 1, 0, none⟩ (.bool true)).same D _ hK rfl
    refine ⟨by simp, .inl ⟨_, _, rfl, run_takeDeferred hK', ?_⟩⟩
    have hc5 := cell_kept ((z1.set 0 (.bool true)).cell (i := 0) (v := .bool true) rfl) (grownBy_putObj' _ D (.deferred none)) (fun r e => by cases e; exact ⟨_, hK', rfl⟩)
    refine ⟨.bool true, ?_, ⟨true, ?_, rfl, ?_⟩⟩
    · simp [results, Try.results73, go_sem, hc5]
    · have hl : ys.length = t.size := by rw [← Tm.pre_length t 0 1, ← Hys.out, List.length_map]
      have hd := (Tm.pre_depth t 0 1 60).1 (fun p hp' => by
        rw [← Hys.out] at hp'
        obtain ⟨y, hy, he⟩ := List.mem_map.1 hp'
        rw [← he]; exact Hp.out.2 y hy)
      have := Hp.out.1
      simp; omega
    · exact (hB.setCell (p := ⟨w.heap.size + 1, 0, none⟩) (by simp) _).trans (belowK_b (w := w) (Nat.le_refl _) _ D _ _ (by omega) hK' rfl rfl)
  case stop =>
    rintro D c pre W hD hpre ⟨⟨z1, hB⟩, rfl, hbad⟩ hK
    gi_wp2
    refine ⟨by simp, .inl ⟨_, _, rfl, run_takeDeferred hK, ?_⟩⟩
    have hc5 := cell_kept (z1.cell (i := 0) (v := .bool false) rfl) (grownBy_putObj' _ D (.deferred none)) (fun r e => by cases e; exact ⟨_, hK, rfl⟩)
    refine ⟨.bool false, ?_, ⟨false, ?_, rfl, ?_⟩⟩
    · simp [results, Try.results73, go_sem, hc5]
    · simp only [Bool.false_eq_true, false_iff, not_and]
      intro h1 h2
      rcases hbad.out with h | ⟨y, hy, h⟩
      · have := hpre.length_le
        rw [List.length_map, Tm.pre_length] at this; omega
      · exact h ((Tm.pre_depth t 0 1 60).2 (by omega) y.key (hpre.subset (List.mem_map.2 ⟨y, hy, rfl⟩)))
    · exact hB.trans (belowK_b (w := w) (Nat.le_refl _) W D _ _ (by omega) hK rfl rfl)
end Go.Proofs.Ytejpgifofkiofaa

namespace Go.Proofs.Ytejpgifofkiofaa
open Go.RowKit
variable {β : Type} {Ok : Obj → Prop} {B : Nat} {I I' : β → World → Prop}

set_option maxHeartbeats 800000 in
theorem range_softB {Ok : Obj → Prop} (hOk : ∀ o : Obj, o.isCells = false → Ok o) {F : Fence} {n : Nat} {P : Program} {α : Type} {g : Operand} {ps : Array Tmp} {assign body : Code} {Q : Exit → Act → World → Prop} {a : Act} {w : World}
    (hro : F.round = none) (hn : 1 ≤ n) {gf : Nat} {lb : Array Value} (hg : a.eval g = .func (.func gf) #[] lb) (hF : F.fn gf) (eg : ∀ args w, (callFunc gf args).run P w = .ok (.enter gf args) w)
    {encs : α → Array Value} {Kp : World → World → Prop} {S Sp : List α → Prop} {N : Nat} {w0 : World} (hseq : SeqSoft Ok F (n - 1) P gf lb encs Kp S Sp N w0)
    (hKt : ∀ {X Y Z : World}, Kp X Y → Kp Y Z → Kp X Z) (hKb : ∀ (W : World) (l : Nat) (o o' : Obj), w.heap.size ≤ l → W.heap[l]? = some o → o.isCells = false → o.isWalk = false → Kp W (W.putObj l o')) (Rr : World → World → Prop) (hRb : ∀ (V0 V : World) (l : Nat) (o o' : Obj), w.heap.size ≤ l → V.heap[l]? = some o → o.isCells = false → o.isWalk = false → Rr V0 V → Rr V0 (V.putObj l o')) (hw0 : Below w0.heap.size w0 w) (hps : ∀ x, (encs x).size = ps.size)
    (I : List α → World → Prop) (Ix : Code → List α → World → Prop) (hI : Mild Ok w.heap.size I) (hIx : ∀ c, Mild Ok w.heap.size (Ix c)) (h0 : I [] w) (Ra : α → Act → World → Prop) (hRa : ∀ x a' W l (o o' : Obj), w.heap.size ≤ l → W.heap[l]? = some o → o.isCells = false → Ra x a' W → Ra x a' (W.putObj l o'))
    (hassign : ∀ (l : Nat) (pre : List α) (x : α) (W : World) (K : Act → World → Prop), I pre W → (∀ a' W', KeepsFrom w.heap.size W W' → Rr W W' → I pre W' → Ra x a' W' → K a' W') →
      assign.wpIn (F.inRound l) (n - 1 - 1) P (Exit.then K (fun _ _ _ => False)) { tmps := (ps.zip (encs x)).foldl (fun t (p, v) => t.setIfInBounds p v) a.tmps, defers := [] } W)
    (hbody : ∀ (l : Nat) (pre : List α) (x : α) (a' : Act) (W : World), I pre W → pre.length < N → Ra x a' W → body.wpIn (F.inRound l) (n - 1 - 1) P (ownPostG w.heap.size (fun W W' => ∀ V0, Rr V0 W → Kp V0 W') I Ix (pre ++ [x]) W) a' W)
    (hdone : ∀ (D : Nat) (xs : List α) (W : World), w.heap.size ≤ D → S xs → I xs W → W.heap[D]? = some (.deferred (some [])) → Q .normal { a with defers := { target := .collected D, args := #[] } :: a.defers } W)
    (hstop : ∀ (D : Nat) (c : Code) (pre : List α) (W : World), w.heap.size ≤ D → Sp pre → Ix c pre W → W.heap[D]? = some (.deferred (some [])) → c.wpIn F n P Q { a with defers := { target := .collected D, args := #[] } :: a.defers } W) :
    (Code.rangeFunc g ps assign body).wpIn F n P Q a w := by
  refine wpIn_rangeFunc fun fn hfn => ?_
  rw [hro]
  let L : LoopState → Option Code → Obj := fun st pe => .loop { state := st, pending := pe, fn, tmps := a.tmps, params := ps, assign, body, defers := w.heap.size }
  let D : Obj := .deferred (some [])
  obtain ⟨W1, hW1⟩ : ∃ W1, (w.alloc D).alloc (L .ready none) = W1 := ⟨_, rfl⟩
  have hz : W1.heap.size = w.heap.size + 2 := by rw [← hW1]; simp
  have hL : W1.heap[w.heap.size + 1]? = some (L .ready none) := by rw [← hW1]; have h := World.alloc_heap_new (w.alloc D) (L .ready none); rwa [World.size_alloc] at h
  have hD : W1.heap[w.heap.size]? = some D := by rw [← hW1]; exact (Below.heap_alloc _ _ _ (by simp)).trans (World.alloc_heap_new w D)
  refine ⟨w.heap.size + 1, [{ target := .collected w.heap.size, args := #[] }], W1, { target := .fn (.func gf) lb, args := #[.func (.yield (w.heap.size + 1)) #[] #[]] }, W1, gf,
    #[.func (.yield (w.heap.size + 1)) #[] #[]] ++ lb, W1, by rw [← hW1]; exact run_enterLoop_outer _ _ _ _ _, by simp only [resolve, hg]; simp [go_sem], ?_, by simp [invoke, go_sem, eg], fun _ => hn, ?_⟩
  · intro f' hf'; simp [Target.leads] at hf'; subst hf'; exact hF
  have up : ∀ {β : Type} {J : β → World → Prop}, Mild Ok w.heap.size J → Mild Ok W1.heap.size J := fun h => h.up (by omega)
  have m1 : ∀ (o : Obj), Mild Ok W1.heap.size (fun (_ : List α) W => W.heap[w.heap.size + 1]? = some o) := fun o => mild_block (by omega)
  have m0 : Mild Ok W1.heap.size (fun (_ : List α) W => W.heap[w.heap.size]? = some D) := mild_block (by omega)
  refine (hseq (w.heap.size + 1)
    (fun pre W => I pre W ∧ W.heap[w.heap.size + 1]? = some (L .ready none) ∧ W.heap[w.heap.size]? = some D)
    (fun pre W => ∃ c, Ix c pre W ∧ W.heap[w.heap.size + 1]? = some (L .done (some c)) ∧ W.heap[w.heap.size]? = some D) W1
    (by rw [← hW1]; exact hw0.trans ((((Below.refl _ w).alloc (Nat.le_refl _) _).alloc (by simp) _).mono hw0.size))
    ((up hI).and ((m1 _).and m0)) (fun s A B row ⟨c, h1, h2, h3⟩ hgr hr => ⟨c, up (hIx c) s A B row h1 hgr hr, m1 _ s A B row h2 hgr hr, m0 s A B row h3 hgr hr⟩)
    ?_ ⟨by rw [← hW1]; exact hI.alloc (hI.alloc h0 _) _, hL, hD⟩).mono ?_
  · -- a round
    rintro pre x V0 ⟨hi0, hl0, hd0⟩ hlen
    refine ⟨fn, _, assign, body, run_yield (P := P) (args := encs x) hl0 (hps x), roundIn_of_wpIn hfn (hassign _ pre x V0 _ hi0 fun a' V hkf hkp0 hi hra => ?_)⟩
    have hl := hkf.same _ _ (by omega) hl0 rfl
    have hd := hkf.same _ _ (Nat.le_refl _) hd0 rfl
    have hlt : w.heap.size + 1 < V.heap.size := (Array.getElem?_eq_some_iff.1 hl).1
    refine ⟨_, run_beginRound hl rfl, ?_⟩
    obtain ⟨V2, hV2⟩ : ∃ V2, V.putObj (w.heap.size + 1) (L .busy none) = V2 := ⟨_, rfl⟩
    have hl2 : V2.heap[w.heap.size + 1]? = some (L .busy none) := by rw [← hV2]; exact World.putObj_heap_same hlt
    have hd2 : V2.heap[w.heap.size]? = some D := by rw [← hV2]; exact (World.putObj_heap_other (by omega)).trans hd
    have hk2 : Rr V0 V2 := by rw [← hV2]; exact hRb _ _ _ _ _ (by omega) hl rfl rfl hkp0
    have hi2 : I pre V2 := by rw [← hV2]; exact hI.put hOk hi _ hl rfl (by omega)
    have hra2 : Ra x a' V2 := by rw [← hV2]; exact hRa _ _ _ _ _ _ (by omega) hl rfl hra
    show Code.wpIn _ _ _ _ _ _ (V.putObj (w.heap.size + 1) (L .busy none))
    rw [hV2]
    clear hV2 hl hd hi hlt
    refine wpIn_mono (hbody _ pre x a' V2 hi2 hlen hra2) ?_
    have fin : ∀ (jump : Option Code) (V3 : World), KeepsFrom w.heap.size V2 V3 → V3.heap[w.heap.size + 1]? = some (L .busy none) ∧ ∃ V4, V4 = V3.putObj (w.heap.size + 1) (L (if jump.isNone then .ready else .done) jump) ∧
        (Instr.endRound (w.heap.size + 1) jump).run P V3 = .ok (.bool jump.isNone) V4 ∧ V4.heap[w.heap.size + 1]? = some (L (if jump.isNone then .ready else .done) jump) ∧ V4.heap[w.heap.size]? = some D := fun jump V3 hk => by
      have h1 := hk.same _ _ (by omega) hl2 rfl
      exact ⟨h1, _, rfl, run_endRound (P := P) jump h1, World.putObj_heap_same (Array.getElem?_eq_some_iff.1 h1).1, (World.putObj_heap_other (by omega)).trans (hk.same _ _ (Nat.le_refl _) hd2 rfl)⟩
    have out : ∀ (c : Code) (V3 : World), KeepsFrom w.heap.size V2 V3 → Ix c (pre ++ [x]) V3 → ∃ r V4, (Instr.endRound (w.heap.size + 1) (some c)).run P V3 = .ok r V4 ∧ (Ending.returned r = .returned (.bool false) ∧ ∃ c, Ix c (pre ++ [x]) V4 ∧ V4.heap[w.heap.size + 1]? = some (L .done (some c)) ∧ V4.heap[w.heap.size]? = some D) := fun c V3 hk hi => by
      obtain ⟨h3, V4, rfl, hr, h4, h5⟩ := fin (some c) V3 hk
      exact ⟨_, _, hr, rfl, c, (hIx c).put hOk hi _ h3 rfl (by omega), h4, h5⟩
    rintro e a3 V3 hp
    cases e with
    | normal =>
      obtain ⟨hk, hkp, hi⟩ := hp
      obtain ⟨h3, V4, rfl, hr, h4, h5⟩ := fin none V3 hk
      exact ⟨_, _, hr, .inl ⟨rfl, ⟨hI.put hOk hi _ h3 rfl (by omega), h4, h5⟩, hKt (hkp V0 hk2) (hKb _ _ _ _ (by omega) h3 rfl rfl)⟩⟩
    | ret => obtain ⟨r, V4, hr, h⟩ := out .ret V3 hp.1 hp.2; exact ⟨r, V4, hr, .inr h⟩
    | exit id => obtain ⟨r, V4, hr, h⟩ := out (.exit id) V3 hp.1 hp.2; exact ⟨r, V4, hr, .inr h⟩
    | goto t => obtain ⟨r, V4, hr, h⟩ := out (.goto t) V3 hp.1 hp.2; exact ⟨r, V4, hr, .inr h⟩
    | panic ch => exact hp.elim
    | outgrown => exact hp.elim
  · -- behind the iterator
    rintro e W2 ⟨⟨v, rfl⟩, ⟨xs, hS, hi, hl, hd⟩ | ⟨pre, hSp, c, hi, hl, hd⟩⟩
    · exact ⟨none, _, run_endLoop (P := P) hl (by simp), hdone _ xs _ (Nat.le_refl _) hS (hI.put hOk hi _ hl rfl (by omega)) ((World.putObj_heap_other (by omega)).trans hd)⟩
    · exact ⟨some c, _, run_endLoop (P := P) hl (by simp), hstop _ c pre _ (Nat.le_refl _) hSp ((hIx c).put hOk hi _ hl rfl (by omega)) ((World.putObj_heap_other (by omega)).trans hd)⟩
end Go.Proofs.Ytejpgifofkiofaa

namespace Go.Proofs.Ytejpgifofkiofaa
open Go.RowKit Go.Shelf
attribute [local go_sem] Oper.semAt_some

def hdOf (p : Nat × Nat × Tm) : Option (Int × Int) := if p.2.2.kind ≠ 0 then some (p.2.2.kind, p.2.2.index) else if (p.1 : Int) ≤ p.2.2.index then some (0, IntKind.i64.wrap (p.2.2.index - p.1)) else none
theorem heads_pres_of {l : List Tm} (h : ∀ t ∈ l, ∀ (s d : Nat), t.Fit → t.heads s = (t.pre s d).filterMap hdOf) : ∀ (s d : Nat), (∀ t ∈ l, t.Fit) → Tm.headss l s = (Tm.pres l s d).filterMap hdOf := by
  induction l with
  | nil => intro s d _; simp [Tm.pres, Tm.headss]
  | cons t l ih =>
    intro s d hf
    rw [Tm.pres, Tm.headss, List.filterMap_append, h t (by simp) s d (hf t (by simp)), ih (fun u hu => h u (by simp [hu])) s d (fun u hu => hf u (by simp [hu]))]
theorem heads_pre (t : Tm) : ∀ (s d : Nat), t.Fit → t.heads s = (t.pre s d).filterMap hdOf := by
  induction t using Tm.ind with
  | h b k i a ih =>
    intro s d hf
    obtain ⟨hi0, hi1, hfa⟩ := Tm.fit_iff.1 hf
    rw [Tm.pre_eq, Tm.heads_eq _ _ _ _ _ ((s + b.length : Nat) : Int) (by simp), List.filterMap_cons, heads_pres_of ih _ _ hfa]
    have e : hdOf (s + b.length, d, .mk b k i a) = if k ≠ 0 then some (k, i) else if ((s + b.length : Nat) : Int) ≤ i then some (0, IntKind.i64.wrap (i - ((s + b.length : Nat) : Int))) else none := rfl
    rw [e]
    by_cases hk : k = 0
    · have hk' : ¬ (k ≠ 0) := by simpa using hk
      by_cases h : ((s + b.length : Nat) : Int) ≤ i
      · have hw : IntKind.i64.wrap (i - ((s + b.length : Nat) : Int)) = i - ((s + b.length : Nat) : Int) := IntWalk.i64_in _ (by omega)
        simp only [if_neg hk', if_pos h, hw]; rfl
      · simp only [if_neg hk', if_neg h]; rfl
    · simp only [if_pos hk]; rfl

def cntP (l : List (Nat × Nat × Tm)) (k i : Int) : Nat := countHd (l.filterMap hdOf) k i
theorem cntP_snoc (l : List (Nat × Nat × Tm)) (p : Nat × Nat × Tm) (k i : Int) : cntP (l ++ [p]) k i = cntP l k i + if hdOf p = some (k, i) then 1 else 0 := by
  unfold cntP countHd
  rw [List.filterMap_append, List.filter_append, List.length_append]
  congr 1
  rw [List.filterMap_cons, List.filterMap_nil]
  cases hdOf p with
  | none => simp
  | some q =>
    obtain ⟨a, b⟩ := q
    by_cases h : a = k ∧ b = i
    · simp [h]
    · have h' : ¬ (some (a, b) = some (k, i)) := fun e => h (by cases e; exact ⟨rfl, rfl⟩)
      simp [h]
theorem cntP_le (l : List (Nat × Nat × Tm)) (k i : Int) : cntP l k i ≤ l.length := by
  unfold cntP countHd
  exact Nat.le_trans (List.length_filter_le _ _) (List.length_filterMap_le _ _)
theorem cntP_pre (t : Tm) (hf : t.Fit) (k i : Int) : cntP (t.pre 0 1) k i = countHd (t.heads 0) k i := by
  unfold cntP; rw [← heads_pre t 0 1 hf]; rfl

def TwoMore (G : Nat → TypeId → Prop) (V0 V : World) : Prop := V.heap.size = V0.heap.size + 2 ∧ KeepC G V0 V

set_option maxRecDepth 100000 in
set_option maxHeartbeats 4000000 in
theorem count6_k {F : Nat → Prop} {w : World} {b k i a : Value} {t : Tm} (ht : IsTm F w b k i a t) (hsz : t.full ≤ 500000) (hfit : t.Fit) (hk hi : Int) : Calls Try.prog 81 #[.agg #[b, k, i, a], .agg #[.int .i64 hk, .int .i64 hi]] w (RetI (countHd (t.heads 0) hk hi) w) := by
  refine (callsIn_wide (n := 9)).1 ?_
  have Ht := Lib.hid (ht.weaken (F' := fun _ => True) fun _ _ _ => trivial)
  obtain ⟨pa, pc, qa, qc, rfl, rfl, rfl, rfl⟩ := ht.shape
  clear ht
  obtain ⟨x1, hx1⟩ : ∃ x, t.binds.length = x := ⟨_, rfl⟩
  obtain ⟨x2, hx2⟩ : ∃ x, t.args.length = x := ⟨_, rfl⟩
  obtain ⟨x3, hx3⟩ : ∃ x, t.kind = x := ⟨_, rfl⟩
  obtain ⟨x4, hx4⟩ : ∃ x, t.index = x := ⟨_, rfl⟩
  rw [hx1, hx2, hx3, hx4] at Ht ⊢
  clear hx1 hx2 hx3 hx4
  refine callsIn_of_wp_marks Try.func81 rfl trivial ?_ rfl
  simp only [Try.ntmps81, List.size_toArray, List.length_cons, List.length_nil, Nat.reduceAdd, Nat.reduceSub, Array.replicate_succ, Array.replicate_zero, List.push_toArray, List.append_toArray, List.nil_append, List.cons_append]
  gi_wp2_with fail
  refine ⟨trivial, (each6_k _ _ _ _ _ _ ⟨_, _, _, rfl⟩ ⟨_, rfl⟩ ⟨_, rfl⟩ ⟨_, _, _, rfl⟩).mono ?_⟩
  rintro e w' ⟨rfl, rfl⟩
  gi_wp2_with fail
  have hsz' := Lib.hid hsz
  have Hfit := Lib.hid hfit; clear hfit
  have hfl := Tm.size_le_full t
  obtain ⟨w5, hw5⟩ : ∃ w5, (((w.alloc (.cells #[.slice pa x1 pc, .int .i64 x3, .int .i64 x4, .slice qa x2 qc] 37)).alloc (.cells #[.int .i64 hk, .int .i64 hi] 34)).alloc (.cells #[.int .i64 0] 3)).alloc (.cells #[.slice pa x1 pc, .int .i64 x3, .int .i64 x4, .slice qa x2 qc] 37) = w5 := ⟨_, rfl⟩
  have hB0 : Below w.heap.size w w5 := by rw [← hw5]; exact ((((Below.refl _ w).alloc (Nat.le_refl _) _).alloc (by simp) _).alloc (by simp <;> omega) _).alloc (by simp <;> omega) _
  have hz : w5.heap.size = w.heap.size + 4 := by rw [← hw5]; simp
  have y1 : Blk w5 (w.heap.size + 1) #[.int .i64 hk, .int .i64 hi] 34 := by rw [← hw5]; exact ((Blk.new _ _ _ (by simp)).alloc _).alloc _
  have y2 : Blk w5 (w.heap.size + 2) #[.int .i64 0] 3 := by rw [← hw5]; exact (Blk.new _ _ _ (by simp)).alloc _
  have y3 : Blk w5 (w.heap.size + 1 + 1 + 1) #[.slice pa x1 pc, .int .i64 x3, .int .i64 x4, .slice qa x2 qc] 37 := by rw [← hw5]; exact Blk.new _ _ _ (by simp)
  rw [hw5]
  clear hw5
  refine range_softB (Ok := SpotOk) (fun o h => .inl h) rfl (by omega) (gf := 125) (lb := #[.pointer (some ⟨w.heap.size + 1 + 1 + 1, 0, none⟩)]) rfl trivial (enters_of Try.func125 (by kernel_rfl) rfl)
    (each6_soft (But w.heap.size (w.heap.size + 3)) (fun k _ _ hk => .inl hk) Ht.out hsz (9 - 1) w5 (fun k _ hk _ => .inr (by omega)) ((Keep.refl _ _).below hB0) (w.heap.size + 1 + 1 + 1) y3)
    (fun h h' => h.trans h') (fun W l o o' _ hl ho _ => KeepC.putObj _ W l o o' hl ho)
    (TwoMore (But w.heap.size (w.heap.size + 3)))
    (fun V0 V l o o' _ ho hoc _ h => ⟨by simpa using h.1, h.2.trans (KeepC.putObj _ _ _ _ _ ho hoc)⟩) (Below.refl _ _) (fun _ => rfl)
    (fun pre W => (Blk W (w.heap.size + 1) #[.int .i64 hk, .int .i64 hi] 34 ∧ Blk W (w.heap.size + 2) #[.int .i64 (cntP (pre.map Hit6.key) hk hi : Int)] 3) ∧ Below w.heap.size w W)
    (fun _ _ _ => False)
    (Mild.and (Mild.and (mild_blk (by decide) (fun (_ : List (Hit6 (fun _ => True) w)) => #[.int .i64 hk, .int .i64 hi])) (mild_blk (by decide) (fun (pre : List (Hit6 (fun _ => True) w)) => #[.int .i64 (cntP (pre.map Hit6.key) hk hi : Int)]))) (mild_below (Nat.le_refl _) (by omega)))
    (fun _ _ _ _ _ hs _ _ => hs)
    ⟨⟨y1, by simpa [cntP, countHd] using y2⟩, hB0⟩
    (fun x a' W => ∃ Bs, (W.heap.size = Bs + 2 ∧ w.heap.size + 2 < Bs) ∧ Blk W Bs #[.int .i64 x.s, .int .i64 x.d] 148 ∧ Blk W (Bs + 1) #[.slice x.pb x.t.binds.length x.cb, .int .i64 x.t.kind, .int .i64 x.t.index, .slice x.pa x.t.args.length x.ca] 37 ∧ a' = { tmps := #[.agg #[.slice pa x1 pc, .int .i64 x3, .int .i64 x4, .slice qa x2 qc], .agg #[.int .i64 hk, .int .i64 hi], .pointer (some ⟨w.heap.size, 0, none⟩), .pointer (some ⟨w.heap.size + 1, 0, none⟩), .int .i64 0, .pointer (some ⟨w.heap.size + 1 + 1, 0, none⟩), .pointer (some ⟨Bs, 0, none⟩), .pointer (some ⟨Bs + 1, 0, none⟩), .agg #[.slice pa x1 pc, .int .i64 x3, .int .i64 x4, .slice qa x2 qc], .func (.func 125) #[] #[.pointer (some ⟨w.heap.size + 1 + 1 + 1, 0, none⟩)], .agg #[.int .i64 x.s, .int .i64 x.d], .agg #[.slice x.pb x.t.binds.length x.cb, .int .i64 x.t.kind, .int .i64 x.t.index, .slice x.pa x.t.args.length x.ca], undef, undef, undef, undef, undef, undef, undef, undef, undef, undef, undef, undef, undef, undef, undef, undef, undef, undef, undef, undef, undef, undef, undef, undef, undef, undef, undef, undef, undef, undef, undef, undef, undef, undef, undef], defers := [] })
    (fun x a' W l o o' hl ho hoc => by
      rintro ⟨Bs, h1, h2, h3, h4⟩
      have key : ∀ {B : Nat} {cs : Array Value} {T : TypeId}, Blk W B cs T → Blk (W.putObj l o') B cs T := fun {B cs T} h => by
        have hne : l ≠ B := fun e => by
          subst e
          have hb : W.heap[l]? = _ := h
          rw [hb] at ho; cases ho; simp [Obj.isCells] at hoc
        exact (World.putObj_heap_other (Ne.symm hne)).trans h
      exact ⟨Bs, ⟨by simpa using h1.1, h1.2⟩, key h2, key h3, h4⟩) ?assign ?body ?done ?stop
  case assign =>
    rintro l pre x W K ⟨⟨z1, z2⟩, hB⟩ hK
    have HK := Lib.hid hK; clear hK
    simp only [Hit6.enc] at *
    gi_wp2
    have hs := hB.size
    have hlt := z2.lt
    exact HK.out _ _ (((KeepsOthers.alloc _ _).trans (KeepsOthers.alloc _ _)).from _) ⟨by simp, ((KeepC.refl _ W).alloc _).alloc _⟩ ⟨⟨(z1.alloc _).alloc _, (z2.alloc _).alloc _⟩, (hB.alloc hs _).alloc (by simp <;> omega) _⟩ ⟨W.heap.size, ⟨by simp, by omega⟩, (Blk.new _ _ _ rfl).alloc _, Blk.new _ _ _ (by simp), rfl⟩
  case body =>
    rintro l pre x a' W ⟨⟨z1, z2⟩, hB⟩ hlt ⟨Bs, hBB, bS, bX, rfl⟩
    have hr : cntP (pre.map Hit6.key) hk hi ≤ 500000 := by have := cntP_le (pre.map Hit6.key) hk hi; simp only [List.length_map] at this; omega
    have Hst := Lib.hid (cntP_snoc (pre.map Hit6.key) x.key hk hi)
    obtain ⟨n, hn⟩ : ∃ n, cntP (pre.map Hit6.key) hk hi = n := ⟨_, rfl⟩
    rw [hn] at z2 hr Hst
    clear hn
    have c1 : W.cell? ⟨w.heap.size + 1, 0, none⟩ = some (.int .i64 hk) := z1.cell rfl
    have c1' : W.cell? ⟨w.heap.size + 1, 1, none⟩ = some (.int .i64 hi) := z1.cell rfl
    have c2 : W.cell? ⟨w.heap.size + 1 + 1, 0, none⟩ = some (.int .i64 n) := z2.cell rfl
    have f2 := z2.free 0
    have cs0 : W.cell? ⟨Bs, 0, none⟩ = some (.int .i64 x.s) := bS.cell rfl
    have cx1 : W.cell? ⟨Bs + 1, 1, none⟩ = some (.int .i64 x.t.kind) := bX.cell rfl
    have cx2 : W.cell? ⟨Bs + 1, 2, none⟩ = some (.int .i64 x.t.index) := bX.cell rfl
    have fx2 := bX.free 2
    obtain ⟨kk, hkk⟩ : ∃ k, x.t.kind = k := ⟨_, rfl⟩
    obtain ⟨ii, hii⟩ : ∃ k, x.t.index = k := ⟨_, rfl⟩
    have Hd : Hid (hdOf x.key = if kk ≠ 0 then some (kk, ii) else if (x.s : Int) ≤ ii then some (0, IntKind.i64.wrap (ii - x.s)) else none) := by
      show _ = _; rw [← hkk, ← hii]; rfl
    rw [hkk] at cx1 ⊢
    rw [hii] at cx2 ⊢
    clear hkk hii
    have hlen : (pre ++ [x]).map Hit6.key = pre.map Hit6.key ++ [x.key] := by simp
    have hd1 : ¬ (w.heap.size + 1 + 1 = Bs + 1) := by omega
    have hd2 : ¬ (Bs + 1 = w.heap.size + 1 + 1) := by omega
    have hd3 : ¬ (Bs + 1 = w.heap.size + 1) := by omega
    have hd4 : ¬ (Bs + 1 = Bs) := by omega
    have hnn : (n : Int) ≤ 500000 := by omega
    have fin : ∀ (n0 : Nat) (W1 W' : World) (b : Bool), (W1 = W ∨ ∃ v, W1 = W.setCell ⟨Bs + 1, 2, none⟩ v) → cntP (pre.map Hit6.key ++ [x.key]) hk hi = n + (if b then 1 else 0) → (W' = if b then W1.setCell ⟨w.heap.size + 1 + 1, 0, none⟩ (.int .i64 ((n : Int) + 1)) else W1) →
        KeepsFrom n0 W W' ∧ (∀ V0, TwoMore (But w.heap.size (w.heap.size + 3)) V0 W → KeepC (But w.heap.size (w.heap.size + 3)) V0 W') ∧
        ((Blk W' (w.heap.size + 1) #[.int .i64 hk, .int .i64 hi] 34 ∧ Blk W' (w.heap.size + 2) #[.int .i64 (cntP ((pre ++ [x]).map Hit6.key) hk hi : Int)] 3) ∧ Below w.heap.size w W') := by
      intro n0 W1 W' m h1 hm h2
      have s1 : KeepsOthers W W1 ∧ (∀ V0, TwoMore (But w.heap.size (w.heap.size + 3)) V0 W → KeepC (But w.heap.size (w.heap.size + 3)) V0 W1) ∧ Blk W1 (w.heap.size + 1) #[.int .i64 hk, .int .i64 hi] 34 ∧ Blk W1 (w.heap.size + 2) #[.int .i64 (n : Int)] 3 ∧ Below w.heap.size w W1 := by
        rcases h1 with rfl | ⟨v, rfl⟩
        · exact ⟨KeepsOthers.refl _, fun V0 h => h.2, z1, z2, hB⟩
        · exact ⟨KeepsOthers.setCell _ _ _, fun V0 h => h.2.setNew _ _ (by have := h.1; simp <;> omega), z1.far _ _ (by simp <;> omega), z2.far _ _ (by simp <;> omega), hB.setCell (by simp <;> omega) _⟩
      obtain ⟨k1, k2, k3, k4, k5⟩ := s1
      rw [hlen, hm]
      subst h2
      cases m
      · exact ⟨k1.from _, k2, ⟨k3, by simpa using k4⟩, k5⟩
      · exact ⟨(k1.trans (KeepsOthers.setCell _ _ _)).from _, fun V0 h => (k2 V0 h).setCell _ _ (by simp [But] <;> omega), ⟨k3.far _ _ (by simp), by simpa using k4.set 0 (.int .i64 ((n : Int) + 1))⟩, k5.setCell (by simp <;> omega) _⟩
    have Fin := Lib.hid fin; clear fin
    by_cases h0 : hk = 0
    · subst h0
      by_cases hc : kk = 0 ∧ (x.s : Int) ≤ ii
      · obtain ⟨rfl, hi'⟩ := hc
        obtain ⟨q, hq⟩ : ∃ q, IntKind.i64.wrap (ii - (x.s : Int)) = q := ⟨_, rfl⟩
        have Hd2 : Hid (hdOf x.key = some (0, q)) := by show _ = _; rw [Hd.out, if_neg (by simp), if_pos hi', hq]
        by_cases he : q = hi
        · subst he
          have Hm := Hst.out
          rw [Hd2.out, if_pos rfl] at Hm
          have Hm := Lib.hid Hm
          gi_wp2
          exact Fin.out _ _ _ true (.inr ⟨_, rfl⟩) Hm.out rfl
        · have Hm := Hst.out
          rw [Hd2.out, if_neg (fun e => he (by cases e; rfl))] at Hm
          have Hm := Lib.hid Hm
          gi_wp2
          exact Fin.out _ _ _ false (.inr ⟨_, rfl⟩) Hm.out rfl
      · have hne : hdOf x.key ≠ some (0, hi) := by
          rw [Hd.out]
          by_cases hk0 : kk = 0
          · rw [if_neg (by simpa using hk0), if_neg (fun h => hc ⟨hk0, h⟩)]; simp
          · rw [if_pos hk0]; exact fun e => hk0 (by cases e; rfl)
        have Hm := Hst.out
        rw [if_neg hne] at Hm
        have Hm := Lib.hid Hm
        clear hne
        by_cases hk0 : kk = 0
        · subst hk0
          have hi' : ¬ (x.s : Int) ≤ ii := fun h => hc ⟨rfl, h⟩
          have hi2 : ii < (x.s : Int) := by omega
          clear hc
          gi_wp2
          exact Fin.out _ _ _ false (.inl rfl) Hm.out rfl
        · have g0 : (kk == 0) = false := by simpa using hk0
          clear hc
          gi_wp2
          exact Fin.out _ _ _ false (.inl rfl) Hm.out rfl
    · have g1 : (hk == 0) = false := by simpa using h0
      by_cases hc : kk = hk ∧ ii = hi
      · obtain ⟨rfl, rfl⟩ := hc
        have Hm := Hst.out
        rw [Hd.out, if_pos h0, if_pos rfl] at Hm
        have Hm := Lib.hid Hm
        gi_wp2
        exact Fin.out _ _ _ true (.inl rfl) Hm.out rfl
      · have hne : hdOf x.key ≠ some (hk, hi) := by
          rw [Hd.out]
          by_cases hk0 : kk = 0
          · rw [if_neg (by simpa using hk0)]
            split
            · intro e; cases e; exact h0 rfl
            · simp
          · rw [if_pos hk0]; exact fun e => hc (by cases e; exact ⟨rfl, rfl⟩)
        have Hm := Hst.out
        rw [if_neg hne] at Hm
        have Hm := Lib.hid Hm
        clear hne
        by_cases hc1 : kk = hk
        · have hc2 : ¬ ii = hi := fun h => hc ⟨hc1, h⟩
          subst hc1
          clear hc
          gi_wp2
          exact Fin.out _ _ _ false (.inl rfl) Hm.out rfl
        · clear hc
          gi_wp2
          exact Fin.out _ _ _ false (.inl rfl) Hm.out rfl
  case done =>
    rintro D ys W hD hys ⟨⟨_, z2⟩, hB⟩ hK
    have Hys := Lib.hid hys; clear hys
    have hl := cntP_pre t Hfit.out hk hi
    rw [← Hys.out] at hl
    obtain ⟨n, hn⟩ : ∃ n, cntP (ys.map Hit6.key) hk hi = n := ⟨_, rfl⟩
    rw [hn] at z2 hl
    have Hl := Lib.hid hl
    clear hl hn
    have c2 : W.cell? ⟨w.heap.size + 1 + 1, 0, none⟩ = some (.int .i64 n) := z2.cell rfl
    gi_wp2
    refine ⟨by simp, .inl ⟨_, _, rfl, run_takeDeferred hK, ?_⟩⟩
    exact ⟨_, results_tmp rfl _ _ _, by rw [← Hl.out]; rfl, hB.trans (belowK_b (w := w) (Nat.le_refl _) W D _ _ (by omega) hK rfl rfl)⟩
  case stop =>
    rintro D c pre W _ _ h _
    exact h.elim
end Go.Proofs.Ytejpgifofkiofaa

