/-
  The document's list of all types within. A region that draws its order, walked outside any fence, is taken into the fence that asks nothing, in a round of a loop or not.
-/
import Derived.Test.YtejpgifofkiofaaRowEachp13
import Derived.Test.YtejpgifofkiofaaRowEachp17
import Derived.Test.YtejpgifofkiofaaRowEachp2
import Derived.OrdersIn
import Derived.RangeFuncCalls
set_option linter.unusedVariables false
set_option linter.unusedSimpArgs false
namespace Go.Proofs.Ytejpgifofkiofaa
open Go.RowKit

theorem Acc.grownFar {α : Type} {r : Rp α} {E : TypeId} {base : Nat} {F : Nat → Prop} {w w' : World} {v : Value} {l : List α} (h : Acc r E base F w v l) {row : Option Nat} (hg : w.grownBy w' row) (hF : ∀ k, row = some k → ¬ F k) (hne : ∀ k, row = some k → v.ownBlock ≠ some k) : Acc r E base F w' v l := by
  obtain ⟨X, h1, h2, h3⟩ := h
  refine ⟨X, h1, h2.kept hg ?_, fun i hi => ?_⟩
  · cases hv : v.ownBlock with
    | none => exact .inl rfl
    | some g => exact .inr fun e => hne g e.symm hv
  · obtain ⟨x, hx, hr⟩ := h3 i hi
    exact ⟨x, hx, r.keep hr ((Keep.refl _ _).grown hg (fun k hk hc => hF k hk hc.1))⟩
theorem Acc.row {α : Type} {r : Rp α} {E : TypeId} {base : Nat} {F : Nat → Prop} {w : World} {v : Value} {l : List α} (h : Acc r E base F w v l) : ∀ k, v.ownBlock = some k → base ≤ k ∧ ∃ cs, w.heap[k]? = some (.cells cs E (0, 0)) := by
  obtain ⟨X, h1, h2, h3⟩ := h
  exact own_row h2
theorem Acc.apart {α β : Type} {r : Rp α} {r' : Rp β} {E E' : TypeId} {base base' : Nat} {F F' : Nat → Prop} {w : World} {v v' : Value} {l : List α} {l' : List β} (h : Acc r E base F w v l) (h' : Acc r' E' base' F' w v' l') (hE : E ≠ E') : ∀ k, v.ownBlock = some k → v'.ownBlock ≠ some k := by
  intro k h1 h2
  obtain ⟨_, cs, hc⟩ := h.row k h1
  obtain ⟨_, cs', hc'⟩ := h'.row k h2
  rw [hc] at hc'; cases hc'; exact hE rfl
theorem Acc.lit {α : Type} {r : Rp α} {E : TypeId} {base : Nat} {F : Nat → Prop} {w' : World} {B : Nat} {y : List Value} {a : α} (hB : Blk w' B y.toArray E) (hb : base ≤ B) (hr : r.R (fun k => F k ∧ k ≠ B) w' y a) : Acc r E base F w' (.slice (some ⟨B, 0, none⟩) 1 1) [a] := by
  have hl := r.len hr
  refine ⟨[y], rfl, ⟨by simp [hl], .inr ⟨B, 1, y.toArray, rfl, hb, hB, Nat.le_refl _, by simp [maxLen], by simp [hl], ?_⟩⟩, fun i hi => ?_⟩
  · simp only [Nat.one_mul, List.flatten_cons, List.flatten_nil, List.append_nil]; rw [← hl]; simp
  · have : i = 0 := by simp at hi; omega
    subst this
    exact ⟨y, rfl, r.weaken hr fun k _ hc => ⟨hc.1, by simp [Value.ownBlock]; exact fun e => hc.2 e.symm⟩⟩

def WithinPost (F : Nat → Prop) (L : List Ty) (D : List Int) (w : World) (e : Ending) (w' : World) : Prop :=
  ∃ a c a' c', e = .returned (.tuple #[.slice a L.length c, .slice a' D.length c']) ∧ IsSl2 rpTy (fun q => w.heap.size ≤ q) F w' (.slice a L.length c) L ∧ IsSl rpInt (fun q => w.heap.size ≤ q) w' (.slice a' D.length c') D ∧ Below w.heap.size w w'
def tyL (l : List (Nat × Ty)) : List Ty := l.map (·.2)
def dpL (l : List (Nat × Ty)) : List Int := l.map fun p => (p.1 : Int)

set_option maxRecDepth 100000 in
set_option maxHeartbeats 4000000 in
theorem Within_r {F : Nat → Prop} {w0 : World} {s b : Value} {t : Ty} (ht : IsTy F w0 s b t) : ∀ (d : Nat) (w : World), Keep F w0 w → w0.heap.size ≤ w.heap.size → d + t.size ≤ 500000 →
    Calls Try.prog 70 #[.agg #[s, b], .int .i64 d] w (WithinPost (fun q => F q ∧ q < w0.heap.size) (tyL (t.pre d)) (dpL (t.pre d)) w) := by
  induction ht with
  | mk a n c b args bl off A N' C B hn hm ha h1 h2 h3 ih =>
  intro d w hw hw0 hd
  have ht : IsTy F w0 (.slice a n c) (.int .i64 b) (.mk args b) := IsTy.mk a n c b args bl off A N' C B hn hm ha h1 h2 h3
  have Ht := Lib.hid (ht.weaken (F' := fun q => F q ∧ q < w0.heap.size) fun k hk h => ⟨h, hk⟩)
  clear h3 ht
  subst hn
  have hlen : args.length ≤ 500000 := by have := Ty.length_lt (l := args) (b := b); omega
  have Hih := Lib.hid ih; clear ih
  have Hm := Lib.hid hm; clear hm
  have hd0 : (0 : Int) ≤ (d : Int) := Int.natCast_nonneg _
  have hd1 : (d : Int) ≤ 500000 := by omega
  obtain ⟨i2, hi2, hz0, hz1, hz2⟩ := info_parts infoI
  obtain ⟨i0, hi0, hy0, hy1, hy2⟩ := info_parts infoR
  go_enter Try.func70, Try.ntmps70
  go_wp2_with fail
  obtain ⟨w4, hw4⟩ : ∃ w4, ((w.alloc (.cells #[.slice a args.length c, .int .i64 b] 26)).alloc (.cells #[.slice a args.length c, .int .i64 b] 26)).alloc (.cells #[.int .i64 d] 3) = w4 := ⟨_, rfl⟩
  have hb4 : Below w.heap.size w w4 := by rw [← hw4]; exact (((Below.refl _ _).alloc (Nat.le_refl _) _).alloc (by simp) _).alloc (by simp; omega) _
  have x4 : Blk w4 w.heap.size #[.slice a args.length c, .int .i64 b] 26 := by rw [← hw4]; exact ((Blk.new _ _ _ rfl).alloc _).alloc _
  have l4 : Blk w4 (w.heap.size + 1) #[.slice a args.length c, .int .i64 b] 26 := by rw [← hw4]; exact (Blk.new _ _ _ (by simp)).alloc _
  have d4 : Blk w4 (w.heap.size + 1 + 1) #[.int .i64 d] 3 := by rw [← hw4]; exact Blk.new _ _ _ (by simp)
  try rw [hw4]
  clear hw4
  have hkF : Keep (fun q => F q ∧ q < w0.heap.size) w0 w4 := fun k o v hk hv => (hw.below hb4) k o v hk.1 hv
  have HL4 : Hid (Acc rpTy 26 (w.heap.size + 1) (fun q => F q ∧ q < w0.heap.size) w4 (.slice (some ⟨w.heap.size + 1, 0, none⟩) 1 1) (tyL [(d, .mk args b)])) :=
    Acc.lit (y := [.slice a args.length c, .int .i64 b]) l4 (Nat.le_refl _) ⟨_, _, rfl, (Ht.out.keep hkF).weaken fun k _ hk => ⟨hk, by omega⟩⟩
  have HD4 : Hid (Acc rpInt 3 (w.heap.size + 1) (fun _ => False) w4 (.slice (some ⟨w.heap.size + 1 + 1, 0, none⟩) 1 1) (dpL [(d, .mk args b)])) :=
    Acc.lit (y := [.int .i64 d]) d4 (by omega) rfl
  clear l4 d4 hkF
  go_loopw [6, 7, 8] (fun lv dv ii wr => ∃ (j : Nat) (lv' dv' : Value), ii = .int .i64 j ∧ lv = lv' ∧ dv = dv' ∧ j ≤ args.length ∧ Below w.heap.size w wr ∧ Blk wr w.heap.size #[.slice a args.length c, .int .i64 b] 26 ∧
    Hid (Acc rpTy 26 (w.heap.size + 1) (fun q => F q ∧ q < w0.heap.size) wr lv' (tyL ((d, .mk args b) :: Ty.pres (args.take j) (d + 1)))) ∧
    Hid (Acc rpInt 3 (w.heap.size + 1) (fun _ => False) wr dv' (dpL ((d, .mk args b) :: Ty.pres (args.take j) (d + 1))))) (fun _ _ ii _ => args.length - (intOf ii).toNat)
  case atStart => exact ⟨0, _, _, rfl, rfl, rfl, by omega, hb4, x4, by simpa [Ty.pres] using HL4, by simpa [Ty.pres] using HD4⟩
  case round =>
    clear hb4 x4 HL4 HD4
    obtain ⟨j, lv, dv, rfl, e1, e2, hj, hb, hx, HL, HD⟩ := hrel
    have e1 := e1.symm; have e2 := e2.symm
    subst e1 e2
    have hj0 : (0 : Int) ≤ (j : Int) := Int.natCast_nonneg _
    have c0 : wr.cell? ⟨w.heap.size, 0, none⟩ = some (.slice a args.length c) := hx.cell rfl
    by_cases hlt : j < args.length
    · have hj1 : (j : Int) < (args.length : Int) := by omega
      obtain ⟨rfl, hF⟩ := ha (by omega)
      have hkp : Keep F w0 wr := hw.below hb
      have f1 := hkp _ _ _ hF (h1 j hlt)
      have f2 := hkp _ _ _ hF (h2 j hlt)
      have hsz := Ty.size_get (b := b) j hlt
      have Htk := Lib.hid (Ty.pres_take args j (d + 1) hlt)
      have hlens : (Ty.pres (args.take j) (d + 1)).length + (args[j].pre (d + 1)).length ≤ 500000 := by
        rw [Ty.pres_length, Ty.pre_length, ← Ty.sizes_take args j hlt]
        have := Ty.sizes_take_le args (j + 1)
        have : (Ty.mk args b).size = Ty.sizes args + 1 := by simp [Ty.size]
        omega
      go_wp2_with fail
      refine (Hih.out j hlt (d + 1) wr hkp (by have := hb.size; omega) (by omega)).mono ?_
      intro e w1 hpost
      obtain ⟨ra, rc, sa, sc, rfl, hT, hI, hb1⟩ := hpost
      have hszr := hb.size
      have HLb := Lib.hid (HL.out.base_le); have HDb := Lib.hid (HD.out.base_le)
      have HLn := Lib.hid (HL.out.len_shape); have HDn := Lib.hid (HD.out.len_shape)
      have HL1 := Lib.hid (HL.out.below hb1)
      have HD1 := Lib.hid (HD.out.below hb1)
      have hB1 := hb.trans (hb1.mono hb.size)
      have hx1 := hx.below hb1
      have hsz1 := hB1.size
      have hlt1 := hx1.lt
      have HT := Lib.hid (hT.weaken (F' := fun k => (F k ∧ k < w0.heap.size) ∧ lv.ownBlock ≠ some k) (by decide) (fun _ _ h => h) (fun k _ hk => ⟨hk, fun e => by have := (HLb.out k e).1; omega⟩))
      have HI := Lib.hid hI
      have Hl1 : Hid ((tyL ((d, .mk args b) :: Ty.pres (args.take j) (d + 1))).length + (tyL (args[j].pre (d + 1))).length ≤ 1000000) := by show _ ≤ _; simp [tyL]; omega
      have Hl2 : Hid ((dpL ((d, .mk args b) :: Ty.pres (args.take j) (d + 1))).length + (dpL (args[j].pre (d + 1))).length ≤ 1000000) := by show _ ≤ _; simp [dpL]; omega
      have HE1 : Hid (tyL ((d, .mk args b) :: Ty.pres (args.take (j + 1)) (d + 1)) = tyL ((d, .mk args b) :: Ty.pres (args.take j) (d + 1)) ++ tyL (args[j].pre (d + 1))) := by show _ = _; rw [Htk.out]; simp [tyL]
      have HE2 : Hid (dpL ((d, .mk args b) :: Ty.pres (args.take (j + 1)) (d + 1)) = dpL ((d, .mk args b) :: Ty.pres (args.take j) (d + 1)) ++ dpL (args[j].pre (d + 1))) := by show _ = _; rw [Htk.out]; simp [dpL]
      obtain ⟨L1, hL1⟩ : ∃ x, tyL ((d, .mk args b) :: Ty.pres (args.take j) (d + 1)) = x := ⟨_, rfl⟩
      obtain ⟨D1, hD1⟩ : ∃ x, dpL ((d, .mk args b) :: Ty.pres (args.take j) (d + 1)) = x := ⟨_, rfl⟩
      obtain ⟨L2, hL2⟩ : ∃ x, tyL (args[j].pre (d + 1)) = x := ⟨_, rfl⟩
      obtain ⟨D2, hD2⟩ : ∃ x, dpL (args[j].pre (d + 1)) = x := ⟨_, rfl⟩
      rw [hL1] at HL1 Hl1 HE1
      rw [hD1] at HD1 Hl2 HE2
      rw [hL2] at HT Hl1 HE1 ⊢
      rw [hD2] at HI Hl2 HE2 ⊢
      clear hL1 hD1 hL2 hD2 hT hI HL HD hx hb f1 f2 hlens Htk hsz HLn HDn c0
      go_wp2_with (first
        | (at_builtin; refine wpList_push_sl rpTy (by decide) rfl _ _ _ rfl (w.heap.size + 1) 26 i0 _ 32 Try.underlying24 hi0 hy0 hy1 hy2 rfl (by decide) (fun q => F q ∧ q < w0.heap.size) lv L1 rfl HL1.out _ L2 rfl HT.out Hl1.out (by omega) ?_
           intro v2 w2 hacc2 hgrow2 hat2
           have HD2 := Lib.hid (HD1.out.grownFar hgrow2 (fun _ _ h => h) (fun k e => HL1.out.apart HD1.out (by decide) k e))
           have HI2 := Lib.hid (HI.out.keep ((Keep.refl _ _).grown hgrow2 (fun k e hk => by have := (HLb.out k e).2; omega)))
           have HL2 := Lib.hid hacc2
           have hB2 := hB1.grown hgrow2 hsz1 (fun q hq => by have := (HLb.out q hq).1; omega)
           have hx2 := hx1.grown hgrow2 (fun e => by have := (HLb.out _ e).1; omega)
           have hsz2 := hB2.size
           have hlt2 := hx2.lt
           clear hacc2 hgrow2 hat2 HL1 HD1 HI HT hB1 hx1)
        | (at_builtin; refine wpList_push_sl rpInt (by decide) rfl _ _ _ rfl (w.heap.size + 1) 3 i2 _ 8 Try.underlying105 hi2 hz0 hz1 hz2 rfl (by decide) (fun _ => False) dv D1 rfl HD2.out _ D2 rfl (ints_sl2 HI2.out) Hl2.out (by omega) ?_
           intro v3 w3 hacc3 hgrow3 hat3
           have HL3 := Lib.hid (HL2.out.grownFar hgrow3 (fun k e h => by have := (HDb.out k e).1; omega) (fun k e => HD2.out.apart HL2.out (by decide) k e))
           have HD3 := Lib.hid hacc3
           have hB3 := hB2.grown hgrow3 hsz2 (fun q hq => by have := (HDb.out q hq).1; omega)
           have hx3 := hx2.grown hgrow3 (fun e => by have := (HDb.out _ e).1; omega)
           clear hacc3 hgrow3 hat3 HL2 HD2 HI2 hB2 hx2))
      go_roundw
      case rel => exact ⟨j + 1, _, _, by go_num, rfl, rfl, by omega, hB3, hx3, by rw [HE1.out]; exact HL3, by rw [HE2.out]; exact HD3⟩
      case measure => simp [intOf]; omega
    · have hpe : args.take j = args := List.take_of_length_le (by omega)
      rw [hpe] at HL HD
      clear hpe
      obtain ⟨la, lc, rfl⟩ := HL.out.len_shape
      obtain ⟨da, dc, rfl⟩ := HD.out.len_shape
      have hszr := hb.size
      have HP : Hid (WithinPost (fun q => F q ∧ q < w0.heap.size) (tyL ((Ty.mk args b).pre d)) (dpL ((Ty.mk args b).pre d)) w (.returned (.tuple #[.slice la (tyL ((d, .mk args b) :: Ty.pres args (d + 1))).length lc, .slice da (dpL ((d, .mk args b) :: Ty.pres args (d + 1))).length dc])) wr) := by
        rw [show (Ty.mk args b).pre d = (d, .mk args b) :: Ty.pres args (d + 1) from by simp [Ty.pre]]
        exact ⟨_, _, _, _, rfl, HL.out.sl2.weaken (by decide) (fun q _ hq => by omega) (fun _ _ h => h), HD.out.sl (fun _ _ h => h.elim) (fun q hq => by omega), hb⟩
      go_wp2_with fail
      go_ret2
      exact HP.out
end Go.Proofs.Ytejpgifofkiofaa

namespace Go.Proofs.Ytejpgifofkiofaa

def Wide (F : Fence) : Prop := F = Fence.wide ∨ ∃ l, F = Fence.wide.inRound l
theorem wide_self : Wide Fence.wide := .inl rfl
theorem wide_round (l : Nat) : Wide (Fence.wide.inRound l) := .inr ⟨l, rfl⟩

def OnlyN (Q : Exit → Act → World → Prop) : Exit → Act → World → Prop
  | .normal, a, w => Q .normal a w
  | _, _, _ => False
theorem OnlyN.normal {Q : Exit → Act → World → Prop} {a : Act} {w : World} (h : Q .normal a w) : OnlyN Q .normal a w := h

theorem calls_wideF {F : Fence} (hw : Wide F) (n : Nat) {P : Program} {f : FuncId} {args : Array Value} {w : World} {R : Ending → World → Prop} (h : Calls P f args w R) : CallsIn F n P f args w R := by
  rcases hw with rfl | ⟨l, rfl⟩
  · exact callsIn_wide.2 h
  · exact CallsIn.inRound l (callsIn_wide.2 h)
theorem rows_wideF {F : Fence} (hw : Wide F) (n : Nat) {P : Program} {row : String} {args : Array Value} {w : World} {R : Value → World → Prop} (h : Rows P row args w R) : RowsIn F n P row args w R := by
  rcases hw with rfl | ⟨l, rfl⟩
  · exact fun c cs _ => let ⟨v, w', r, s⟩ := h c cs; ⟨v, w', r, stepsIn_wide.2 s⟩
  · exact fun c cs _ => let ⟨v, w', r, s⟩ := h c cs; ⟨v, w', r, stepsIn_wide.2 s⟩
theorem oper_in {F : Fence} (hw : Wide F) {n : Nat} {P : Program} {o : Oper} (ho : ∀ c, o.op ≠ .defer c) {a : Act} {w : World} {K : Act → World → Prop} {Q : Exit → Act → World → Prop} (h : o.wp P a w K (OnlyN Q)) : o.wpIn F n P a w K Q := by
  have hfn : ∀ f, F.fn f := by rcases hw with rfl | ⟨l, rfl⟩ <;> intro f <;> trivial
  have hd : F.depth = none := by rcases hw with rfl | ⟨l, rfl⟩ <;> rfl
  refine ⟨fun f _ => hfn f, ?_⟩
  rw [Oper.semAt_eq _ _ _ ho]
  unfold Oper.wp at h
  generalize (execOp a.eval o).run P w = r at *
  have hdd : F.depth.isSome = true → 1 ≤ n := fun e => by rw [hd] at e; cases e
  cases r with
  | ok x w' =>
    cases x <;> simp only [Oper.upon, Oper.uponIn] at h ⊢ <;>
      first
        | exact h
        | exact ⟨hdd, (calls_wideF hw _ h).mono (fun e w'' he => by cases e <;> first | exact he | exact he.elim | (obtain ⟨_, _, he⟩ := he; exact he.elim))⟩
        | exact ⟨hdd, rows_wideF hw _ h⟩
  | halt x w' => cases x <;> simp only [Oper.upon, Oper.uponIn] at h ⊢ <;> first | exact h.elim | exact h

def noDefer (ops : Array Oper) : Bool := ops.toList.all fun o => match o.op with | .defer _ => false | _ => true
theorem noDefer_spec {ops : Array Oper} (h : noDefer ops = true) {i : Nat} {o : Oper} (ho : ops[i]? = some o) (c : Call) : o.op ≠ .defer c := by
  intro e
  have hm : o ∈ ops.toList := by
    rw [← Array.getElem?_toList] at ho
    exact List.mem_of_getElem? ho
  have := List.all_eq_true.1 h o hm
  simp [e] at this

theorem wpOp_in {F : Fence} (hw : Wide F) {n : Nat} {P : Program} {ops : Array Oper} (hnd : noDefer ops = true) {Q : Exit → Act → World → Prop} {i : Nat} {K : Act → World → Prop} {a : Act} {w : World} (h : wpOp P ops (OnlyN Q) i K a w) : wpOpIn F n P ops Q i K a w := by
  have hfn : ∀ f, F.fn f := by rcases hw with rfl | ⟨l, rfl⟩ <;> intro f <;> trivial
  unfold wpOp at h
  unfold wpOpIn
  split
  · rename_i ho; simpa [ho] using h
  · rename_i o ho
    simp only [ho] at h
    by_cases hwant : Region.wanted o (yielded ops a.tmps) = true
    · rw [if_pos hwant] at h ⊢
      rcases h with h | ⟨_, _, _, h⟩
      · exact oper_in hw (noDefer_spec hnd ho) h
      · exact h.elim
    · rw [if_neg hwant] at h ⊢
      exact ⟨fun f _ => hfn f, h⟩

theorem wpAny_in {F : Fence} (hw : Wide F) {n : Nat} {P : Program} {md : Region.Mode} {ops : Array Oper} (hnd : noDefer ops = true) {Q : Exit → Act → World → Prop} : ∀ (fuel : Nat) (listed : Array Bool) (a : Act) (w : World), wpAny P md ops (OnlyN Q) fuel listed a w → wpAnyIn F n P md ops Q fuel listed a w
  | 0, _, _, _, h => h
  | fuel + 1, _, _, _, h => ⟨h.1, fun i hi => wpOpIn_mono (fun _ _ hh => wpAny_in hw hnd fuel _ _ _ hh) (wpOp_in hw hnd (h.2 i hi))⟩

theorem wpIn_region_need {F : Fence} {n : Nat} {P : Program} {ops : Array Oper} {Q : Exit → Act → World → Prop} {S : World → Prop} {id : Nat} {a : Act} {w : World} (hw : Wide F) (hm : P.follows .mixedOrders = true) (hnd : noDefer ops = true)
    (h : wpN P .any ops (OnlyN Q) S ops.size (Array.replicate ops.size false) a w.drew) : (Code.region id ops true).wpIn F n P Q a w :=
  wpIn_region_any hm (wpAny_in hw hnd _ _ _ _ (wpN_any _ _ _ _ h))
end Go.Proofs.Ytejpgifofkiofaa

