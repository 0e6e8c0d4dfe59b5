/-
  A budget that runs dry: sync.Once, once; Spend of one unit. The budget, as a deep object. A term whose loose indexes have grown: norm.lifted, subst.grown. subst.grown, walked in the deep way. Package norm, walked in the deep way. norm.lifted, walked in the deep way. What is kept where terms are put for variables: counts grow, no term gets wider. Package norm, walked in the deep way: terms put for variables. Package norm, walked in the deep way: through. Package norm, walked in the deep way: Put. Package subst, walked in the deep way. The readings of a row's arguments that are pairs, and what was opened, told as deep values. The laws' helpers of layers 8 and 9: Low, Of.
-/
import Derived.Test.YtiblklcfjakjmaaGreatRowSubstChkp5
import Derived.Test.YtiblklcfjakjmaaGreatRowSubstChkp1
import Derived.Defers
import Derived.Laws.Pointers
import Derived.RegionCalls
import Derived.ChangeAlike
import Derived.Laws.NewBlocks
import Derived.Test.YtiblklcfjakjmaaGreatRowSubstChkp4
import Derived.OwnWalk
import Derived.Test.YtiblklcfjakjmaaGreatRowSubstChkp3
set_option maxRecDepth 100000
set_option maxHeartbeats 1000000
set_option linter.unusedVariables false
set_option linter.unusedSimpArgs false
namespace Go.Proofs.YtiblklcfjakjmaaGreat
open Go.RowKit

theorem race_disable (w : World) : (callFunc 196 #[]).run Tryz.prog w = .ok (.value (.tuple #[])) w := run_call_mark0 Tryz.func196 (by kernel_rfl) (by kernel_rfl) (by kernel_rfl) .disable (by kernel_rfl) w
theorem race_enable (w : World) : (callFunc 198 #[]).run Tryz.prog w = .ok (.value (.tuple #[])) w := run_call_mark0 Tryz.func198 (by kernel_rfl) (by kernel_rfl) (by kernel_rfl) .enable (by kernel_rfl) w
theorem race_acquire (a : Addr) (w : World) : (callFunc 199 #[.pointer (some a)]).run Tryz.prog w = .ok (.value (.tuple #[])) w := run_call_marked Tryz.func199 (by kernel_rfl) (by kernel_rfl) (by kernel_rfl) .acquire (by kernel_rfl) a w
theorem race_releaseMerge (a : Addr) (w : World) : (callFunc 201 #[.pointer (some a)]).run Tryz.prog w = .ok (.value (.tuple #[])) w := run_call_marked Tryz.func201 (by kernel_rfl) (by kernel_rfl) (by kernel_rfl) .releaseMerge (by kernel_rfl) a w

theorem storeB (a : Addr) (x : Value) (w : World) (hc : w.cell? a = some x) (hz : w.frozen? a = false) :
    Calls Tryz.prog 165 #[.pointer (some a), .bool true] w fun e w' => e = .returned (.tuple #[]) ∧ w' = w.drew.setCell a (.int .u32 1) := by
  have hc' : w.drew.cell? a = some x := by go_simp
  have hz' : w.drew.frozen? a = false := by go_simp
  have hst := run_call_store (P := Tryz.prog) Tryz.func183 (by kernel_rfl) (by kernel_rfl) (by kernel_rfl) (by kernel_rfl) (k := .u32) (y := 1) hc' hz'
  go_enter Tryz.func165, Tryz.ntmps165
  go_wp2
  go_region_calls
  all_goals (go_end0; exact ⟨rfl, rfl⟩)
theorem store_deferred (a : Addr) (x : Value) (u : FrameMode) (w : World) (hc : w.cell? a = some x) (hz : w.frozen? a = false) :
    CallsD Tryz.prog 165 #[.pointer (some a), .bool true] u w fun e u' w' => u' = u ∧ (e = .returned (.tuple #[]) ∧ w' = w.drew.setCell a (.int .u32 1)) := by
  have hc' : w.drew.cell? a = some x := by go_simp
  have hz' : w.drew.frozen? a = false := by go_simp
  have hst := run_call_store (P := Tryz.prog) Tryz.func183 (by kernel_rfl) (by kernel_rfl) (by kernel_rfl) (by kernel_rfl) (k := .u32) (y := 1) hc' hz'
  go_enter_d Tryz.func165, Tryz.ntmps165
  go_wp2
  go_region_calls
  all_goals (go_end0; exact ⟨rfl, rfl⟩)
set_option maxRecDepth 100000 in
set_option maxHeartbeats 1600000 in
theorem unlock_deferred (a : Addr) (u : FrameMode) (w : World) (hc : w.cell? a = some (.int .i32 1)) (hz : w.frozen? a = false) :
    CallsD Tryz.prog 190 #[.pointer (some a)] u w fun e u' w' => u' = u ∧ (e = .returned (.tuple #[]) ∧ w' = w.setCell a (.int .i32 0)) := by
  have hd := race_disable
  have he := race_enable
  have hr := race_releaseMerge
  have hadd := run_call_add (P := Tryz.prog) Tryz.func202 (by kernel_rfl) (by kernel_rfl) (by kernel_rfl) .i32 (by kernel_rfl) (y := -1) (s := 0) hc hz (by simp [go_sem]; rfl)
  have hcv := run_convert_to_unsafe (P := Tryz.prog) (src := 284) (dst := 288) Tryz.underlying284 Tryz.underlying288 (by kernel_rfl) hc
  go_enter_d Tryz.func190, Tryz.ntmps190
  go_wp2
  go_end0
  go_wp2
  go_end0
  exact ⟨rfl, rfl⟩
set_option maxRecDepth 100000 in
set_option maxHeartbeats 1600000 in
theorem lock_free (a : Addr) (w : World) (hc : w.cell? a = some (.int .i32 0)) (hz : w.frozen? a = false) :
    Calls Tryz.prog 189 #[.pointer (some a)] w fun e w' => e = .returned (.tuple #[]) ∧ w' = w.setCell a (.int .i32 1) := by
  have hd := race_disable
  have he := race_enable
  have ha := race_acquire
  have hcas := run_call_cas_hit (P := Tryz.prog) Tryz.func197 (by kernel_rfl) (by kernel_rfl) (by kernel_rfl) .i32 (by kernel_rfl) (y := 1) hc hz
  have hc' : (w.setCell a (.int .i32 1)).cell? a = some (.int .i32 1) := World.cell?_setCell_same w a _ hc
  have hcv := run_convert_to_unsafe (P := Tryz.prog) (src := 284) (dst := 288) Tryz.underlying284 Tryz.underlying288 (by kernel_rfl) hc'
  go_enter Tryz.func189, Tryz.ntmps189
  go_wp2
  first | go_end0 | (simp only [Exit.inBlock, Exit.then]; refine bodyPost_ret (results_none rfl _ _ _) rfl ?_) | refine bodyPost_ret (results_none rfl _ _ _) rfl ?_
  go_wp2
  go_end0
  exact ⟨rfl, rfl⟩

theorem dried1 (pl : Addr) (b : Nat) (x : Value) (w : World) (hp : w.cell? pl = some (.pointer (some ⟨b, 0, none⟩))) (hc : w.cell? ⟨b, 5, none⟩ = some x) (hz : w.frozen? ⟨b, 5, none⟩ = false) :
    Calls Tryz.prog 164 #[.pointer (some pl)] w fun e w' => e = .returned (.tuple #[]) ∧ w' = w.drew.setCell ⟨b, 5, none⟩ (.int .u32 1) := by
  have hcon := storeB ⟨b, 5, none⟩ x w hc hz
  go_enter Tryz.func164, Tryz.ntmps164
  go_wp2_with fail
  refine hcon.mono ?_
  rintro e w' ⟨rfl, rfl⟩
  go_wp2_with fail
  go_end0
  exact ⟨rfl, rfl⟩

set_option maxRecDepth 100000 in
set_option maxHeartbeats 1600000 in
theorem slow_b {w : World} {b : Nat} {left used : Int} {pl : Addr} (hpb : ¬ b = pl.block) (hp : w.cell? pl = some (.pointer (some ⟨b, 0, none⟩))) (hb : Blk w b (budC left used false) 158) :
    Calls Tryz.prog 182 #[.pointer (some ⟨b, 2, none⟩), .func (.func 164) #[] #[.pointer (some pl)]] w fun e w' => e = .returned (.tuple #[]) ∧
      w' = ((((w.setCell ⟨b, 3, none⟩ (.int .i32 1)).drew.setCell ⟨b, 5, none⟩ (.int .u32 1)).drew.setCell ⟨b, 2, none⟩ (.int .u32 1)).setCell ⟨b, 3, none⟩ (.int .i32 0)) := by
  have hnot : ∀ (x : Bool) (w : World), (Op.unary .not (.bool x)).run Tryz.prog w = .ok (.bool (!x)) w := fun _ _ => rfl
  have b1 := hb.set 3 (.int .i32 1)
  have hp1 : (w.setCell ⟨b, 3, none⟩ (.int .i32 1)).cell? pl = some (.pointer (some ⟨b, 0, none⟩)) := (World.cell?_setCell_other _ ⟨b, 3, none⟩ pl _ (fun h => hpb (by rw [← h]))).trans hp
  go_enter_defers Tryz.func182, Tryz.ntmps182
  go_wp2_with fail
  refine (lock_free ⟨b, 3, none⟩ _ (hb.cell rfl) (hb.free 3)).mono ?_
  rintro e w' ⟨rfl, rfl⟩
  go_wp2_with fail
  refine (loadB _ b 2 0 (b1.cell rfl)).mono ?_
  rintro e w' ⟨rfl, rfl⟩
  go_wp2_with fail
  refine (dried1 pl b (.int .u32 0) _ hp1 (b1.cell rfl) (b1.free 5)).mono ?_
  rintro e w' ⟨rfl, rfl⟩
  have b2 := b1.drew.set 5 (.int .u32 1)
  go_wp2_with fail
  refine leaves_cons (f := 165) (args := #[.pointer (some ⟨b, 2, none⟩), .bool true]) (by simp) (by simp [go_sem]) ?_
  refine (store_deferred ⟨b, 2, none⟩ (.int .u32 0) .returning _ (b2.cell rfl) (b2.free 2)).mono ?_
  rintro e u' w'' ⟨rfl, rfl, rfl⟩
  have b3 := b2.drew.set 2 (.int .u32 1)
  refine leaves_cons (f := 190) (args := #[.pointer (some ⟨b, 3, none⟩)]) (by simp [settle]) (by simp [go_sem]) ?_
  refine (unlock_deferred ⟨b, 3, none⟩ _ _ (b3.cell rfl) (b3.free 3)).mono ?_
  rintro e u' w'' ⟨rfl, rfl, rfl⟩
  simp [Leaves, settle, results, Tryz.results182]

theorem do_first {w : World} {b : Nat} {left used : Int} {pl : Addr} (hpb : ¬ b = pl.block) (hp : w.cell? pl = some (.pointer (some ⟨b, 0, none⟩))) (hb : Blk w b (budC left used false) 158) :
    Calls Tryz.prog 163 #[.pointer (some ⟨b, 2, none⟩), .func (.func 164) #[] #[.pointer (some pl)]] w fun e w' => e = .returned (.tuple #[]) ∧
      w' = ((((w.setCell ⟨b, 3, none⟩ (.int .i32 1)).drew.setCell ⟨b, 5, none⟩ (.int .u32 1)).drew.setCell ⟨b, 2, none⟩ (.int .u32 1)).setCell ⟨b, 3, none⟩ (.int .i32 0)) := by
  have hnot : ∀ (x : Bool) (w : World), (Op.unary .not (.bool x)).run Tryz.prog w = .ok (.bool (!x)) w := fun _ _ => rfl
  have hcon := loadB w b 2 0 (hb.cell rfl)
  have hcon2 := slow_b hpb hp hb
  go_enter Tryz.func163, Tryz.ntmps163
  go_wp2_with fail
  refine hcon.mono ?_
  rintro e w' ⟨rfl, rfl⟩
  go_wp2_with fail
  refine hcon2.mono ?_
  rintro e w' ⟨rfl, rfl⟩
  go_wp2_with fail
  go_end0
  exact ⟨rfl, rfl⟩
theorem do_again {w : World} {b : Nat} {left used : Int} (fv : Value) (hb : Blk w b (budC left used true) 158) :
    Calls Tryz.prog 163 #[.pointer (some ⟨b, 2, none⟩), fv] w fun e w' => e = .returned (.tuple #[]) ∧ w' = w := by
  have hnot : ∀ (x : Bool) (w : World), (Op.unary .not (.bool x)).run Tryz.prog w = .ok (.bool (!x)) w := fun _ _ => rfl
  have hcon := loadB w b 2 1 (hb.cell rfl)
  go_enter Tryz.func163, Tryz.ntmps163
  go_wp2_with fail
  refine hcon.mono ?_
  rintro e w' ⟨rfl, rfl⟩
  go_wp2_with fail
  go_end0
  exact ⟨rfl, rfl⟩

theorem dried_b {w : World} {b : Nat} {left : Int} {dry : Bool} (h : BudAt w b left dry) :
    Calls Tryz.prog 140 #[.pointer (some ⟨b, 0, none⟩)] w fun e w' => e = .returned (.tuple #[]) ∧ BudAt w' b left true ∧ Off (fun k => k = b) w w' := by
  have hmf : ∀ (fn : Fn) (first cap : Array Value) (w : World), (Instr.makeFunc fn first cap).run Tryz.prog w = .ok (.func fn first cap) w := fun _ _ _ _ => rfl
  obtain ⟨used, h⟩ := h
  have hlt := h.lt
  obtain ⟨wB, hwB⟩ : ∃ wB, w.alloc (.cells #[.pointer (some ⟨b, 0, none⟩)] 85) = wB := ⟨_, rfl⟩
  have B0 : Off (fun k => k = b) w wB := by rw [← hwB]; exact (Off.refl _ _).alloc _
  have x0 : Blk wB w.heap.size #[.pointer (some ⟨b, 0, none⟩)] 85 := by rw [← hwB]; exact Blk.new _ _ _ rfl
  have h1 : Blk wB b (budC left used dry) 158 := by rw [← hwB]; exact h.alloc _
  have c0 : wB.cell? ⟨w.heap.size, 0, none⟩ = some (.pointer (some ⟨b, 0, none⟩)) := x0.cell rfl
  clear h x0
  cases dry
  · have hcon := do_first (pl := ⟨w.heap.size, 0, none⟩) (show ¬ b = w.heap.size by omega) c0 h1
    go_enter Tryz.func140, Tryz.ntmps140
    go_wp2_with fail
    try rw [hwB]
    refine hcon.mono ?_
    rintro e w' ⟨rfl, rfl⟩
    go_wp2_with fail
    go_end0
    have h2 := (((h1.set 3 (.int .i32 1)).drew.set 5 (.int .u32 1)).drew.set 2 (.int .u32 1)).set 3 (.int .i32 0)
    exact ⟨rfl, ⟨used, h2⟩, ((((B0.set ⟨b, 3, none⟩ _ (.inl rfl)).drew.set ⟨b, 5, none⟩ _ (.inl rfl)).drew.set ⟨b, 2, none⟩ _ (.inl rfl)).set ⟨b, 3, none⟩ _ (.inl rfl))⟩
  · have hcon := do_again (.func (.func 164) #[] #[.pointer (some ⟨w.heap.size, 0, none⟩)]) h1
    go_enter Tryz.func140, Tryz.ntmps140
    go_wp2_with fail
    try rw [hwB]
    refine hcon.mono ?_
    rintro e w' ⟨rfl, rfl⟩
    go_wp2_with fail
    go_end0
    exact ⟨rfl, ⟨used, h1⟩, B0⟩

open Go.Proofs.YtiblklcfjakjmaaGreat.Nm in
set_option maxHeartbeats 1600000 in
theorem spend_b {w : World} {b : Nat} {s : Nm.St} (h : BudAt w b s.left s.dry) (h0 : 0 ≤ s.left) (h1 : s.left ≤ 1000000000) :
    Calls Tryz.prog 117 #[.pointer (some ⟨b, 0, none⟩), .int .i64 1] w fun e w' => e = .returned (.bool (spend s).1) ∧ BudAt w' b (spend s).2.left (spend s).2.dry ∧ Off (fun k => k = b) w w' := by
  obtain ⟨left, dry, count, er⟩ := s
  dsimp only at *
  have hd := dry_b h
  have hl := left_b h
  have hnot : ∀ (x : Bool) (w : World), (Op.unary .not (.bool x)).run Tryz.prog w = .ok (.bool (!x)) w := fun _ _ => rfl
  by_cases hc : dry = false ∧ 1 ≤ left
  · obtain ⟨rfl, hc⟩ := hc
    have hg : ¬ (1 : Int) > left := by omega
    have hs : Hid (spend ⟨left, false, count, er⟩ = (true, ⟨left - 1, false, count, er⟩)) := by
      show _ = _; unfold spend; rw [if_neg (by simp; omega)]
    have ht := take_b h 1 (by omega) hc h1
    rw [hs.out]
    dsimp only
    clear h
    go_enter Tryz.func117, Tryz.ntmps117
    go_wp2_with fail
    refine hd.mono ?_
    rintro e w1 ⟨rfl, rfl⟩
    go_wp2_with fail
    refine hl.mono ?_
    rintro e w1 ⟨rfl, rfl⟩
    go_wp2_with fail
    refine ht.mono ?_
    rintro e w2 ⟨rfl, hB, hbl, hbk⟩
    go_wp2_with fail
    go_ret
    have hz := hbl 0 (Nat.zero_le _)
    exact ⟨rfl, hB, ⟨hz.os, hz.tape, hz.output, hz.size, fun k _ hk => hbk k hk⟩⟩
  · have hs : Hid (spend ⟨left, dry, count, er⟩ = (false, ⟨0, true, count, er⟩)) := by
      show _ = _; unfold spend
      rw [if_pos]
      cases dry
      · right; show left < 1; simp at hc; omega
      · left; rfl
    have ht := take_b h left h0 (Int.le_refl _) h1
    rw [Int.sub_self] at ht
    rw [hs.out]
    dsimp only
    cases dry
    · have hg : (1 : Int) > left := by simp at hc; omega
      clear h hc
      go_enter Tryz.func117, Tryz.ntmps117
      go_wp2_with fail
      refine hd.mono ?_
      rintro e w1 ⟨rfl, rfl⟩
      go_wp2_with fail
      refine hl.mono ?_
      rintro e w1 ⟨rfl, rfl⟩
      go_wp2_with fail
      refine hl.mono ?_
      rintro e w1 ⟨rfl, rfl⟩
      go_wp2_with fail
      refine ht.mono ?_
      rintro e w2 ⟨rfl, hB, hbl, hbk⟩
      go_wp2_with fail
      refine (dried_b hB).mono ?_
      rintro e w3 ⟨rfl, hB3, hO3⟩
      go_wp2_with fail
      go_ret
      have hz := hbl 0 (Nat.zero_le _)
      exact ⟨rfl, hB3, Off.trans ⟨hz.os, hz.tape, hz.output, hz.size, fun k _ hk => hbk k hk⟩ hO3⟩
    · clear h hc
      go_enter Tryz.func117, Tryz.ntmps117
      go_wp2_with fail
      refine hd.mono ?_
      rintro e w1 ⟨rfl, rfl⟩
      go_wp2_with fail
      refine hl.mono ?_
      rintro e w1 ⟨rfl, rfl⟩
      go_wp2_with fail
      refine ht.mono ?_
      rintro e w2 ⟨rfl, hB, hbl, hbk⟩
      go_wp2_with fail
      refine (dried_b hB).mono ?_
      rintro e w3 ⟨rfl, hB3, hO3⟩
      go_wp2_with fail
      go_ret
      have hz := hbl 0 (Nat.zero_le _)
      exact ⟨rfl, hB3, Off.trans ⟨hz.os, hz.tape, hz.output, hz.size, fun k _ hk => hbk k hk⟩ hO3⟩
end Go.Proofs.YtiblklcfjakjmaaGreat

namespace Go.Proofs.YtiblklcfjakjmaaGreat
open Go.RowKit

def BudJ (left : Int) (dry : Bool) : Nat → World → Prop := fun b w => BudAt w b left dry
theorem BudAt.sameD {w w' : World} {b : Nat} {left : Int} {dry : Bool} (h : BudAt w b left dry) (hb : w'.heap[b]? = w.heap[b]?) : BudAt w' b left dry := by
  obtain ⟨u, h⟩ := h; exact ⟨u, h.same hb⟩
theorem BudAt.ltD {w : World} {b : Nat} {left : Int} {dry : Bool} (h : BudAt w b left dry) : b < w.heap.size := by
  obtain ⟨u, h⟩ := h; exact h.lt
theorem BudAt.ob {m : Mp} {Im : Nat → Nat → Prop} {w : World} {b : Nat} {left : Int} {dry : Bool} (h : BudAt w b left dry) : ObOk m Im w b (.ob (BudJ left dry)) :=
  .ob _ h fun _ hb => BudAt.sameD h hb
theorem obOk_ob {m : Mp} {Im : Nat → Nat → Prop} {w : World} {b : Nat} {J : Nat → World → Prop} (h : ObOk m Im w b (.ob J)) : J b w := by
  cases h with | ob J h hs => exact h
theorem rel_oE {m : Mp} {Im : Nat → Nat → Prop} {w : World} {x : Value} {k : Nat} (h : Rel m Im w x (.o k)) : ∃ b, x = .pointer (some ⟨b, 0, none⟩) ∧ m.obj k = some b := by
  cases h with | o k b h => exact ⟨b, rfl, h⟩

theorem callC_obj {P : Program} {f : FuncId} (hf : entersB P f = true) {k : Nat} {ds : List D} {J J' : Nat → World → Prop} {V : Value} (hs : ∀ b w w', J' b w → w'.heap[b]? = w.heap[b]? → J' b w')
    (h : ∀ (m : Mp) (Im : Nat → Nat → Prop) (w : World) (b : Nat) (vs : List Value), J b w → RelL m Im w vs ds → Calls P f (.pointer (some ⟨b, 0, none⟩) :: vs).toArray w fun e w' => e = .returned V ∧ J' b w' ∧ Off (fun x => x = b) w w') :
    CallC P f (.o k :: ds) [(.o k, .ob J)] [(.o k, .ob J')] (.v V) := by
  refine ⟨hf, fun cx Fr m Im w vs hmem hargs hR => ?_⟩
  obtain ⟨b, q1, q2⟩ := hR (.o k, .ob J) (by simp)
  cases vs with
  | nil => exact hargs.elim
  | cons x vs =>
    obtain ⟨b', rfl, q3⟩ := rel_oE hargs.1
    rw [q1] at q3; cases q3
    refine (h m Im w b vs (obOk_ob q2) hargs.2).mono ?_
    rintro e w' ⟨rfl, h1, h2⟩
    have hki : KeepI Im w w' := fun c o v hi hv => (World.cell?_of_block (a := ⟨c, o, none⟩) (h2.block c (ltOfCell hv) fun e => by subst e; exact hmem.onim k c o q1 hi)).trans hv
    refine ⟨V, Im, rfl, ⟨h2.os, h2.tape, h2.output, h2.size, fun c hc hn => h2.block c hc fun e => hn ?_⟩, fun _ _ h => h, fun _ _ h => .inl h, fun c o hi => ?_, fun k' c o hk => ?_, .v _, fun p hp => ?_⟩
    · subst e; exact .inr (.inr ⟨k, .ob J, by simp, q1⟩)
    · obtain ⟨v, hv⟩ := hmem.im c o hi; exact ⟨v, hki c o v hi hv⟩
    · exact (World.frozen?_of_block (a := ⟨c, o, none⟩) (h2.block c (hmem.lt k' c hk) fun e => by subst e; exact hmem.oblk k k' c q1 hk)).trans (hmem.free k' c o hk)
    · simp only [List.mem_singleton] at hp
      subst hp
      exact ⟨b, q1, .ob _ h1 fun w2 hb => hs b w' w2 h1 hb⟩

theorem spend_d (k : Nat) (s : Nm.St) (h0 : 0 ≤ s.left) (h1 : s.left ≤ 1000000000) : CallC Tryz.prog 117 [.o k, .v (.int .i64 1)] [(.o k, .ob (BudJ s.left s.dry))] [(.o k, .ob (BudJ (Nm.spend s).2.left (Nm.spend s).2.dry))] (.v (.bool (Nm.spend s).1)) := by
  refine callC_obj (by kernel_rfl) (fun b w w' h hb => BudAt.sameD h hb) fun m Im w b vs hJ hv => ?_
  match vs, hv with
  | [x], hv =>
    have := rel_v.1 hv.1; subst this
    exact spend_b hJ h0 h1
theorem new_d (n : Int) (h0 : 0 ≤ n) (nm : Nat) : CallN Tryz.prog 42 [.v (.int .i64 n)] [] nm [(.o nm, .ob (BudJ n false))] (.o nm) := by
  refine ⟨by kernel_rfl, fun cx Fr m Im w a σ vs hn hs hv _ => ?_⟩
  match vs, hv with
  | [x], hv =>
    have := rel_v.1 hv.1; subst this
    refine (new_b w n h0).mono ?_
    rintro e w' ⟨rfl, h1, h2⟩
    rw [dropT_nil]
    obtain ⟨r1, r2⟩ := hs.newObjB hn h2 (Nat.le_refl _) h1.ltD (d := .ob (BudJ n false)) fun m' => h1.ob
    exact ⟨_, m.setO nm w.heap.size, Im, rfl, r1, .o nm _ (by simp [Mp.setO])⟩
end Go.Proofs.YtiblklcfjakjmaaGreat

namespace Go.Proofs.YtiblklcfjakjmaaGreat
open Go.RowKit

inductive Wide : Tm → Prop where
  | mk (b : List Ty) (k i : Int) (a : List Tm) : b.length ≤ 100000 → a.length ≤ 100000 → (∀ t ∈ a, Wide t) → Wide (.mk b k i a)
theorem Wide.inv {b : List Ty} {k i : Int} {a : List Tm} (h : Wide (.mk b k i a)) : b.length ≤ 100000 ∧ a.length ≤ 100000 ∧ ∀ t ∈ a, Wide t := by
  cases h with
  | mk _ _ _ _ h1 h2 h3 => exact ⟨h1, h2, h3⟩
theorem Nm.lift_len (y : Int) (l : List Tm) (m : Int) : (Nm.lifts y l m).length = l.length := by rw [Nm.lifts_map]; simp
theorem Nm.lift_take (y : Int) (l : List Tm) (m : Int) (j : Nat) (h : j < l.length) : Nm.lifts y (l.take (j + 1)) m = Nm.lifts y (l.take j) m ++ [Nm.lift y l[j] m] := by
  rw [Nm.lifts_map, Nm.lifts_map, List.take_succ_eq_append_getElem h, List.map_append]; rfl
theorem Wide.lift {t : Tm} (y : Int) (h : Wide t) : ∀ m, Wide (Nm.lift y t m) := by
  induction h with
  | mk b k i a h1 h2 h3 ih =>
    intro m
    rw [Nm.lift_eq]
    refine .mk _ _ _ _ h1 (by rw [Nm.lift_len]; exact h2) fun t ht => ?_
    rw [Nm.lifts_map] at ht
    obtain ⟨u, hu, rfl⟩ := List.mem_map.1 ht
    exact ih u hu _

end Go.Proofs.YtiblklcfjakjmaaGreat

namespace Go.Proofs.YtiblklcfjakjmaaGreat
open Go.RowKit
def TG_52 : TI := ⟨4, true, [Value.slice none 0 0, Value.int IntKind.i64 0, Value.int IntKind.i64 0, Value.slice none 0 0], [(0, 1, false), (1, 2, true), (3, 1, false)], none, 64, 6, none⟩
theorem TG_52_ok : TypOk Tryz.prog 52 TG_52 := ⟨by kernel_rfl, by kernel_rfl, by kernel_rfl, by kernel_rfl⟩
def TG_3 : TI := ⟨1, false, [Value.int IntKind.i64 0], [], none, 8, 2, none⟩
theorem TG_3_ok : TypOk Tryz.prog 3 TG_3 := ⟨by kernel_rfl, by kernel_rfl, by kernel_rfl, by kernel_rfl⟩
def TG_50 : TI := ⟨1, false, [Value.slice none 0 0], [], some 52, 24, 5, none⟩
theorem TG_50_ok : TypOk Tryz.prog 50 TG_50 := ⟨by kernel_rfl, by kernel_rfl, by kernel_rfl, by kernel_rfl⟩
def TG_49 : TI := ⟨2, true, [Value.int IntKind.i64 0, Value.int IntKind.i64 0], [(0, 1, false), (1, 1, false)], none, 16, 6, none⟩
theorem TG_49_ok : TypOk Tryz.prog 49 TG_49 := ⟨by kernel_rfl, by kernel_rfl, by kernel_rfl, by kernel_rfl⟩
def TG_34 : TI := ⟨1, false, [Value.slice none 0 0], [], some 77, 24, 5, none⟩
theorem TG_34_ok : TypOk Tryz.prog 34 TG_34 := ⟨by kernel_rfl, by kernel_rfl, by kernel_rfl, by kernel_rfl⟩
def TG_77 : TI := ⟨2, true, [Value.slice none 0 0, Value.int IntKind.i64 0], [(0, 1, false), (1, 1, false)], none, 32, 6, none⟩
theorem TG_77_ok : TypOk Tryz.prog 77 TG_77 := ⟨by kernel_rfl, by kernel_rfl, by kernel_rfl, by kernel_rfl⟩
def TG : List (Nat × TI) := [(52, TG_52), (3, TG_3), (50, TG_50), (49, TG_49), (34, TG_34), (77, TG_77)]
theorem TG_ok : TabOk Tryz.prog TG := (((((((TabOk.nil _).cons TG_77_ok).cons TG_34_ok).cons TG_49_ok).cons TG_50_ok).cons TG_3_ok).cons TG_52_ok)

theorem wr_wrap (x : Int) : Nm.wr x = IntKind.i64.wrap x := by rw [IntKind.wrap_i64]; unfold Nm.wr RowKit.wrap64; rfl
theorem dtrue {p : Prop} [Decidable p] (h : p) : VLe (.v (.bool (decide p))) (.v (.bool true)) := .of_eq (by simp [h])
theorem dfalse {p : Prop} [Decidable p] (h : ¬ p) : VLe (.v (.bool (decide p))) (.v (.bool false)) := .of_eq (by simp [h])
theorem dintE {a b : Int} (h : a = b) : VLe (.v (.int .i64 a)) (.v (.int .i64 b)) := .of_eq (by rw [h])

set_option maxHeartbeats 1000000 in
theorem grown_d : ∀ (t : Tm) (_ : Wide t) (y ins : Int), PureC Tryz.prog 119 [.ag (eTm t), .v (.int .i64 y), .v (.int .i64 ins)] (.ag (eTm (Nm.lift y t ins))) := by
  intro t
  induction t using Tm.ind with
  | h bs k i a ih =>
  intro hw y ins
  obtain ⟨w1, w2, w3⟩ := hw.inv
  obtain ⟨m, hm⟩ : ∃ m, IntKind.i64.wrap (ins + (bs.length : Int)) = m := ⟨_, rfl⟩
  obtain ⟨i', hi'⟩ : ∃ i', (if k = 0 ∧ m ≤ i then IntKind.i64.wrap (i + y) else i) = i' := ⟨_, rfl⟩
  have hL : Nm.lift y (.mk bs k i a) ins = .mk bs k i' (Nm.lifts y a m) := by rw [Nm.lift_eq, wr_wrap, wr_wrap, hm, hi']
  rw [hL]
  refine call_of_dw 0 55 [ResultVar.cell 6 52] TG_ok (by kernel_rfl) Tryz.func119 rfl Tryz.ntmps119 rfl (by simp) ?dwords ?dbody
  case dwords => simp [wordsOk, D.ok, D.oks, eTm_ok, rnames]
  case dbody =>
    intro cx hnt hn0
    refine dw_seq ?_
    refine dw_k [] TG_ok (by kernel_rfl) hnt (by kernel_rfl) (by simp only [List.size_toArray, List.length_cons, List.length_nil, Nat.reduceAdd]; rfl) ?_
    intro K hK
    refine hK _ _ ?_
    clear hK K
    refine dw_seq ?_
    refine dw_k [(13, .v (.int .i64 bs.length)), (14, .v (.int .i64 m))] TG_ok (by kernel_rfl) hnt (by kernel_rfl) (by simp only [List.size_toArray, List.length_cons, List.length_nil, Nat.reduceAdd]; rfl) ?_
    intro K hK
    refine And.intro (dintE (by rw [eTys_len])) ?_
    refine And.intro (dintE hm) ?_
    refine hK _ _ ?_
    clear hK K
    refine dw_cut (τ := [(.t 1, .v (.int .i64 y)), (.t 2, .v (.int .i64 m)), (.t 3, .p 0 0), (.t 6, .p 1 0), (.c 0 0, .sl 2 (eTys bs) none), (.c 0 1, .v (.int .i64 k)), (.c 0 2, .v (.int .i64 i')), (.c 0 3, .sl 4 (eTms a) none), (.c 1 0, .v (.slice none 0 0)), (.c 1 1, .v (.int .i64 0)), (.c 1 2, .v (.int .i64 0)), (.c 1 3, .v (.slice none 0 0))]) (N1 := 2) ?_ ?_
    · by_cases hk : k = 0
      · subst hk
        by_cases hi : m ≤ i
        · rw [if_pos ⟨rfl, hi⟩] at hi'
          refine dw_seq ?_
          refine dw_k [(18, .v (.bool true)), (24, .v (.bool true))] TG_ok (by kernel_rfl) hnt (by kernel_rfl) (by simp only [List.size_toArray, List.length_cons, List.length_nil, Nat.reduceAdd]; rfl) ?_
          intro K hK
          refine And.intro (VLe.refl _) ?_
          refine And.intro (dtrue hi) ?_
          refine hK _ _ ?_
          clear hK K
          refine dw_cond (t := true) rfl ?_
          rw [if_pos rfl]
          refine dw_k [(30, .v (.int .i64 i'))] TG_ok (by kernel_rfl) hnt (by kernel_rfl) (by simp only [List.size_toArray, List.length_cons, List.length_nil, Nat.reduceAdd]; rfl) ?_
          intro K hK
          refine And.intro (dintE hi') ?_
          refine hK _ _ ?_
          clear hK K
          exact cut_ok (VS.toK (by first | omega | simp [hn0]) (by repeat first | exact trivial | refine And.intro (And.intro (by first | rfl | simp [D.ok, D.oks, D.okss, D.okm, eTm_ok, eTy_ok, eTys_ok, eTms_ok, upto, keyOk]) (by first | exact Or.inl rfl | exact Or.inr ⟨_, rfl, (by repeat first | exact VLe.refl _ | exact VLe.nil _ | exact VLe.untag _ _ _ | refine VLe.ag ?_ | refine VLe.tu ?_ | refine VLeL.cons ?_ ?_ | exact VLeL.nil), trivial⟩ | simp [get, Key.eq])) ?_))
        · rw [if_neg (fun h => hi h.2)] at hi'
          subst hi'
          refine dw_seq ?_
          refine dw_k [(18, .v (.bool true)), (24, .v (.bool false))] TG_ok (by kernel_rfl) hnt (by kernel_rfl) (by simp only [List.size_toArray, List.length_cons, List.length_nil, Nat.reduceAdd]; rfl) ?_
          intro K hK
          refine And.intro (VLe.refl _) ?_
          refine And.intro (dfalse hi) ?_
          refine hK _ _ ?_
          clear hK K
          refine dw_cond (t := false) rfl ?_
          rw [if_neg (by simp)]
          refine dw_skip ?_
          exact cut_ok (VS.toK (by first | omega | simp [hn0]) (by repeat first | exact trivial | refine And.intro (And.intro (by first | rfl | simp [D.ok, D.oks, D.okss, D.okm, eTm_ok, eTy_ok, eTys_ok, eTms_ok, upto, keyOk]) (by first | exact Or.inl rfl | exact Or.inr ⟨_, rfl, (by repeat first | exact VLe.refl _ | exact VLe.nil _ | exact VLe.untag _ _ _ | refine VLe.ag ?_ | refine VLe.tu ?_ | refine VLeL.cons ?_ ?_ | exact VLeL.nil), trivial⟩ | simp [get, Key.eq])) ?_))
      · rw [if_neg (fun h => hk h.1)] at hi'
        subst hi'
        refine dw_seq ?_
        refine dw_k [(18, .v (.bool false))] TG_ok (by kernel_rfl) hnt (by kernel_rfl) (by simp only [List.size_toArray, List.length_cons, List.length_nil, Nat.reduceAdd]; rfl) ?_
        intro K hK
        refine And.intro (dfalse hk) ?_
        refine hK _ _ ?_
        clear hK K
        refine dw_cond (t := false) rfl ?_
        rw [if_neg (by simp)]
        refine dw_skip ?_
        exact cut_ok (VS.toK (by first | omega | simp [hn0]) (by repeat first | exact trivial | refine And.intro (And.intro (by first | rfl | simp [D.ok, D.oks, D.okss, D.okm, eTm_ok, eTy_ok, eTys_ok, eTms_ok, upto, keyOk]) (by first | exact Or.inl rfl | exact Or.inr ⟨_, rfl, (by repeat first | exact VLe.refl _ | exact VLe.nil _ | exact VLe.untag _ _ _ | refine VLe.ag ?_ | refine VLe.tu ?_ | refine VLeL.cons ?_ ?_ | exact VLeL.nil), trivial⟩ | simp [get, Key.eq])) ?_))
    · refine dw_seq ?_
      refine dw_k [(35, .v (.int .i64 a.length))] TG_ok (by kernel_rfl) hnt (by kernel_rfl) (by simp only [List.size_toArray, List.length_cons, List.length_nil, Nat.reduceAdd]; rfl) ?_
      intro K hK
      refine And.intro (dintE (by rw [eTms_len])) ?_
      refine And.intro ((by omega)) ?_
      refine hK _ _ ?_
      clear hK K
      refine dw_seq (dw_seq ?_)
      refine dw_k [(39, .v (.int .i64 a.length))] TG_ok (by kernel_rfl) hnt (by kernel_rfl) (by simp only [List.size_toArray, List.length_cons, List.length_nil, Nat.reduceAdd]; rfl) ?_
      intro K hK
      refine And.intro (dintE (by rw [eTms_len])) ?_
      refine hK _ _ ?_
      clear hK K
      refine dw_block ?_
      refine dw_loop (ι := Nat) (fun j => [(.t 40, .v (.int .i64 j)), (.t 7, .sl 4 (eTms (Nm.lifts y (a.take j) m)) (some 5)), (.r 5, .rw 52 4 j), (.t 1, .v (.int .i64 y)), (.t 2, .v (.int .i64 m)), (.t 3, .p 0 0), (.t 6, .p 1 0), (.t 38, .sl 4 (eTms a) none), (.t 39, .v (.int .i64 a.length)), (.c 0 0, .sl 2 (eTys bs) none), (.c 0 1, .v (.int .i64 k)), (.c 0 2, .v (.int .i64 i')), (.c 0 3, .sl 4 (eTms a) none), (.c 1 0, .v (.slice none 0 0)), (.c 1 1, .v (.int .i64 0)), (.c 1 2, .v (.int .i64 0)), (.c 1 3, .v (.slice none 0 0))]) 6 (fun j => a.length - j) 0 ?_ fun j => ?_
      · exact (VS.toK (by first | omega | simp [hn0]) (by repeat first | exact trivial | refine And.intro (And.intro (by first | rfl | simp [D.ok, D.oks, D.okss, D.okm, eTm_ok, eTy_ok, eTys_ok, eTms_ok, upto, keyOk, Nm.lifts, eTms]) (by first | exact Or.inl rfl | exact Or.inr ⟨_, rfl, (by repeat first | exact VLe.refl _ | exact VLe.nil _ | exact VLe.untag _ _ _ | refine VLe.ag ?_ | refine VLe.tu ?_ | refine VLeL.cons ?_ ?_ | exact VLeL.nil), trivial⟩ | simp [get, Key.eq, Nm.lifts, eTms])) ?_))
      · refine dw_seq ?_
        by_cases hlt : j < a.length
        · have hg := eTms_getD a j hlt
          have hih := ih a[j] (List.getElem_mem hlt) (w3 _ (List.getElem_mem hlt)) y m
          rw [eTm_eq, eTm_eq] at hih
          have hll : (Nm.lifts y (a.take j) m).length = j := by rw [Nm.lift_len, List.length_take]; omega
          refine dw_k [(41, .v (.bool true))] TG_ok (by kernel_rfl) hnt (by kernel_rfl) (by simp only [List.size_toArray, List.length_cons, List.length_nil, Nat.reduceAdd]; rfl) ?_
          intro K hK
          refine And.intro (dtrue (by omega)) ?_
          refine hK _ _ ?_
          clear hK K
          refine dw_seq (dw_cond (t := true) rfl ?_)
          rw [if_pos rfl]
          refine dw_skip (dw_seq (dw_block (dw_seq ?_)))
          refine dw_k [(42, .q [.sl 2 (eTys a[j].binds) none, .v (.int .i64 a[j].kind), .v (.int .i64 a[j].index), .sl 4 (eTms a[j].args) none])] TG_ok (by kernel_rfl) hnt (by kernel_rfl) (by simp only [List.size_toArray, List.length_cons, List.length_nil, Nat.reduceAdd]; rfl) ?_
          intro K hK
          refine And.intro (⟨by omega, by rw [eTms_len]; omega⟩) ?_
          refine And.intro (by rw [Int.toNat_natCast, hg, eTm_eq]) ?_
          refine hK _ _ ?_
          clear hK K
          refine dw_k [(50, .sl 4 (eTms (Nm.lifts y (a.take (j + 1)) m)) (some 5))] TG_ok (by kernel_rfl) hnt (by kernel_rfl) (by simp only [List.size_toArray, List.length_cons, List.length_nil, Nat.reduceAdd]; rfl) ?_
          intro K hK
          refine ⟨_, _, _, Or.inl (hih), by repeat first | exact trivial | refine And.intro ⟨rfl, rfl⟩ ?_, ?_⟩
          refine And.intro (⟨by rw [eTms_len, hll], by rw [eTms_len, hll]; simp; omega⟩) ?_
          refine And.intro (by rw [Nm.lift_take _ _ _ _ hlt, eTms_append, eTms, eTms, eTm_eq (Nm.lift y a[j] m)]) ?_
          refine hK _ _ ?_
          clear hK K
          refine dw_k [(51, .v (.int .i64 ((j + 1 : Nat) : Int)))] TG_ok (by kernel_rfl) hnt (by kernel_rfl) (by simp only [List.size_toArray, List.length_cons, List.length_nil, Nat.reduceAdd]; rfl) ?_
          intro K hK
          refine And.intro (dintE (by rw [IntWalk.i64_in _ (by omega)]; omega)) ?_
          refine hK _ _ ?_
          clear hK K
          refine ⟨j + 1, by omega, (VS.toK (by first | omega | simp [hn0]) (by repeat first | exact trivial | refine And.intro (And.intro (by first | rfl | simp [D.ok, D.oks, D.okss, D.okm, eTm_ok, eTy_ok, eTys_ok, eTms_ok, upto, keyOk, eTms_len, hll]) (by first | exact Or.inl rfl | exact Or.inr ⟨_, rfl, (by repeat first | exact VLe.refl _ | exact VLe.nil _ | exact VLe.untag _ _ _ | refine VLe.ag ?_ | refine VLe.tu ?_ | refine VLeL.cons ?_ ?_ | exact VLeL.nil), trivial⟩ | simp [get, Key.eq, eTms_len, hll])) ?_))⟩
        · skip
          refine dw_k [(41, .v (.bool false))] TG_ok (by kernel_rfl) hnt (by kernel_rfl) (by simp only [List.size_toArray, List.length_cons, List.length_nil, Nat.reduceAdd]; rfl) ?_
          intro K hK
          refine And.intro (dfalse (by omega)) ?_
          refine hK _ _ ?_
          clear hK K
          refine dw_seq (dw_cond (t := false) rfl ?_)
          rw [if_neg (by simp)]
          refine dw_exit ?_
          refine dw_seq ?_
          refine dw_k [] TG_ok (by kernel_rfl) hnt (by kernel_rfl) (by simp only [List.size_toArray, List.length_cons, List.length_nil, Nat.reduceAdd]; rfl) ?_
          intro K hK
          refine hK _ _ ?_
          clear hK K
          refine dw_seq ?_
          refine dw_k [] TG_ok (by kernel_rfl) hnt (by kernel_rfl) (by simp only [List.size_toArray, List.length_cons, List.length_nil, Nat.reduceAdd]; rfl) ?_
          intro K hK
          refine hK _ _ ?_
          clear hK K
          refine dw_ret ?_
          rw [List.take_of_length_le (by omega)]
          exact ⟨.inr rfl, ⟨_, rfl, (by repeat first | exact VLe.refl _ | exact VLe.nil _ | exact VLe.untag _ _ _ | refine VLe.ag ?_ | refine VLe.tu ?_ | refine VLeL.cons ?_ ?_ | exact VLeL.nil)⟩, nofun⟩
end Go.Proofs.YtiblklcfjakjmaaGreat

namespace Go.Proofs.YtiblklcfjakjmaaGreat
open Go.RowKit
def TN1_32 : TI := ⟨1, false, [Value.int IntKind.i64 0], [], none, 8, 2, none⟩
theorem TN1_32_ok : TypOk Tryz.prog 32 TN1_32 := ⟨by kernel_rfl, by kernel_rfl, by kernel_rfl, by kernel_rfl⟩
def TN1_253 : TI := ⟨3, true, [Value.pointer none, Value.int IntKind.i64 0, Value.int IntKind.i64 0], [(0, 1, false), (1, 1, false), (2, 1, false)], none, 24, 6, none⟩
theorem TN1_253_ok : TypOk Tryz.prog 253 TN1_253 := ⟨by kernel_rfl, by kernel_rfl, by kernel_rfl, by kernel_rfl⟩
def TN1_3 : TI := ⟨1, false, [Value.int IntKind.i64 0], [], none, 8, 2, none⟩
theorem TN1_3_ok : TypOk Tryz.prog 3 TN1_3 := ⟨by kernel_rfl, by kernel_rfl, by kernel_rfl, by kernel_rfl⟩
def TN1_85 : TI := ⟨1, false, [Value.pointer none], [], none, 8, 4, none⟩
theorem TN1_85_ok : TypOk Tryz.prog 85 TN1_85 := ⟨by kernel_rfl, by kernel_rfl, by kernel_rfl, by kernel_rfl⟩
def TN1_251 : TI := ⟨1, false, [Value.pointer none], [], none, 8, 4, none⟩
theorem TN1_251_ok : TypOk Tryz.prog 251 TN1_251 := ⟨by kernel_rfl, by kernel_rfl, by kernel_rfl, by kernel_rfl⟩
def TN1 : List (Nat × TI) := [(32, TN1_32), (253, TN1_253), (3, TN1_3), (85, TN1_85), (251, TN1_251)]
theorem TN1_ok : TabOk Tryz.prog TN1 := ((((((TabOk.nil _).cons TN1_251_ok).cons TN1_85_ok).cons TN1_3_ok).cons TN1_253_ok).cons TN1_32_ok)

def kW (σ : List (Key × D)) : List (Key × D) → Prop
  | [] => True
  | (k, d) :: r => get σ k = some d ∧ kW σ r
theorem kW_all {σ : List (Key × D)} : ∀ {W : List (Key × D)}, kW σ W → ∀ p ∈ W, get σ p.1 = some p.2 ∨ ∃ d, get σ p.1 = some d ∧ VLe d p.2 ∧ (match p.1 with | .c _ _ => True | _ => False)
  | [], _, p, hp => by cases hp
  | (k, d) :: r, h, p, hp => by
    rcases List.mem_cons.1 hp with rfl | hp
    · exact .inl h.1
    · exact kW_all h.2 p hp

def wkE (s : Nm.St) : List (Key × D) := [(.c 0 0, .o 1), (.c 0 1, .v (.int .i64 s.count)), (.c 0 2, .v (.int .i64 s.e)), (.o 1, .ob (BudJ s.left s.dry))]
structure WkOk (s : Nm.St) : Prop where
  left : 0 ≤ s.left ∧ s.left ≤ 1000000000
  count : 0 ≤ s.count ∧ s.count ≤ 100001
  e0 : s.e = 0 → s.count ≤ 100000

theorem fail_d (s : Nm.St) (c : Int) : CallC Tryz.prog 185 [.p 0 0, .v (.int .i64 c)] (wkE s) (wkE (Nm.fail s c)) (.tu []) := by
  obtain ⟨left, dry, count, er⟩ := s
  refine call_of_dw 2 13 [] TN1_ok (by kernel_rfl) Tryz.func185 rfl Tryz.ntmps185 rfl (by simp) ?dwords ?dbody
  case dwords => simp [wordsOk, wkE, D.ok, D.oks, rnames, inN, ckey]
  case dbody =>
    intro cx hnt hn0
    refine dw_seq ?_
    by_cases he : er = 0
    · subst he
      refine dw_k [(8, .v (.bool true))] TN1_ok (by kernel_rfl) hnt (by kernel_rfl) (by simp only [List.size_toArray, List.length_cons, List.length_nil, Nat.reduceAdd]; rfl) ?_
      intro K hK
      refine And.intro (VLe.refl _) ?_
      refine hK _ _ ?_
      clear hK K
      refine dw_cond (t := true) rfl ?_
      rw [if_pos rfl]
      refine dw_k [] TN1_ok (by kernel_rfl) hnt (by kernel_rfl) (by simp only [List.size_toArray, List.length_cons, List.length_nil, Nat.reduceAdd]; rfl) ?_
      intro K hK
      refine hK _ _ ?_
      clear hK K
      exact ⟨.inl rfl, ⟨_, rfl, VLe.refl _⟩, kW_all (by repeat first | exact trivial | refine And.intro rfl ?_)⟩
    · skip
      refine dw_k [(8, .v (.bool false))] TN1_ok (by kernel_rfl) hnt (by kernel_rfl) (by simp only [List.size_toArray, List.length_cons, List.length_nil, Nat.reduceAdd]; rfl) ?_
      intro K hK
      refine And.intro (dfalse he) ?_
      refine hK _ _ ?_
      clear hK K
      refine dw_cond (t := false) rfl ?_
      rw [if_neg (by simp)]
      refine dw_skip ?_
      have hf : Nm.fail ⟨left, dry, count, er⟩ c = ⟨left, dry, count, er⟩ := by simp [Nm.fail, he]
      rw [hf]
      exact ⟨.inl rfl, ⟨_, rfl, VLe.refl _⟩, kW_all (by repeat first | exact trivial | refine And.intro rfl ?_)⟩
theorem retw {T : List (Nat × TI)} {rs : List ResultVar} {V : D} {W σ : List (Key × D)} {e : Exit} {N : Nat} (he : e = .normal ∨ e = .ret) (h1 : resD T σ rs = some V) (h2 : kW σ W) : RetOk T rs V W e σ N := ⟨he, ⟨V, h1, VLe.refl _⟩, kW_all h2⟩

def unitI (s s1 : Nm.St) : Bool → List (Key × D)
  | false => (.t 0, .p 0 0) :: (.t 1, .v (.int .i64 1)) :: wkE s
  | true => (.t 0, .p 0 0) :: (.t 1, .v (.int .i64 0)) :: wkE s1
set_option maxHeartbeats 1000000 in
theorem unit_d (s : Nm.St) (hs : WkOk s) : CallC Tryz.prog 191 [.p 0 0, .v (.int .i64 1)] (wkE s) (wkE (Nm.unit s).2) (.v (.bool (Nm.unit s).1)) := by
  refine call_of_dw 2 45 [ResultVar.tmp 4] TN1_ok (by kernel_rfl) Tryz.func191 rfl Tryz.ntmps191 rfl (by simp) ?dwords ?dbody
  case dwords => simp [wordsOk, wkE, D.ok, D.oks, rnames, inN, ckey]
  case dbody =>
    intro cx hnt hn0
    refine dw_seq ?_
    refine dw_k [] TN1_ok (by kernel_rfl) hnt (by kernel_rfl) (by simp only [List.size_toArray, List.length_cons, List.length_nil, Nat.reduceAdd]; rfl) ?_
    intro K hK
    refine hK _ _ ?_
    clear hK K
    refine dw_seq (dw_block ?_)
    obtain ⟨left, dry, count, er⟩ := s
    obtain ⟨⟨hl1, hl2⟩, ⟨hc1, hc2⟩, he0⟩ := hs
    dsimp only at hl1 hl2 hc1 hc2 he0
    have hsp := spend_d 1 ⟨left, dry, count, er⟩ hl1 hl2
    by_cases he : er = 0
    · subst he
      have he0 := he0 rfl
      obtain ⟨s1, hs1⟩ : ∃ s1, (Nm.unit ⟨left, dry, count, 0⟩).2 = s1 := ⟨_, rfl⟩
      obtain ⟨b1, hb1⟩ : ∃ b1, (Nm.unit ⟨left, dry, count, 0⟩).1 = b1 := ⟨_, rfl⟩
      have hspe : (Nm.spend ⟨left, dry, count, 0⟩).2.e = 0 ∧ (Nm.spend ⟨left, dry, count, 0⟩).2.count = count := by unfold Nm.spend; split <;> exact ⟨rfl, rfl⟩
      have hb2 : D.v (.bool (decide (s1.e = 0))) = .v (.bool b1) := by
        rw [← hs1, ← hb1]
        unfold Nm.unit
        rw [if_neg (by simp)]
        split
        · simp
        · split <;> rename_i h <;> rw [h] at hspe <;> simp only at hspe <;> simp [hspe.1]
      rw [hs1, hb1]
      refine dw_loop (ι := Bool) (unitI ⟨left, dry, count, 0⟩ s1) 7 (fun b => match b with | false => 1 | true => 0) false (VS.toK (by first | omega | simp [hn0]) (by repeat first | exact trivial | refine And.intro (And.intro (by first | rfl | simp [D.ok, D.oks, D.okss, D.okm, eTm_ok, eTy_ok, eTys_ok, eTms_ok, upto, keyOk, unitI, wkE]) (by first | exact Or.inl rfl | exact Or.inr ⟨_, rfl, (by repeat first | exact VLe.refl _ | exact VLe.nil _ | exact VLe.untag _ _ _ | refine VLe.ag ?_ | refine VLe.tu ?_ | refine VLeL.cons ?_ ?_ | exact VLeL.nil), trivial⟩ | simp [get, Key.eq, unitI, wkE])) ?_)) fun b => ?_
      cases b with
      | false =>
        dsimp only [unitI, wkE]
        refine dw_seq ?_
        refine dw_seq ?_
        refine dw_k [] TN1_ok (by kernel_rfl) hnt (by kernel_rfl) (by simp only [List.size_toArray, List.length_cons, List.length_nil, Nat.reduceAdd]; rfl) ?_
        intro K hK
        refine hK _ _ ?_
        clear hK K
        refine dw_cond (t := true) rfl ?_
        rw [if_pos rfl]
        refine dw_skip ?_
        refine dw_seq (dw_block (dw_seq (dw_block (dw_seq ?_))))
        by_cases hc : count = 100000
        · have hu : Nm.unit ⟨left, dry, count, 0⟩ = (false, ⟨left, dry, count + 1, 2⟩) := by simp [Nm.unit, hc]
          rw [hu] at hs1
          subst hs1
          refine dw_k [(16, .v (.bool true))] TN1_ok (by kernel_rfl) hnt (by kernel_rfl) (by simp only [List.size_toArray, List.length_cons, List.length_nil, Nat.reduceAdd]; rfl) ?_
          intro K hK
          refine And.intro (dtrue hc) ?_
          refine hK _ _ ?_
          clear hK K
          refine dw_cond (t := true) rfl ?_
          rw [if_pos rfl]
          have hf : CallC _ _ _ _ (wkE ⟨left, dry, count, 2⟩) _ := fail_d ⟨left, dry, count, 0⟩ 2
          dsimp only [wkE] at hf
          refine dw_k [] TN1_ok (by kernel_rfl) hnt (by kernel_rfl) (by simp only [List.size_toArray, List.length_cons, List.length_nil, Nat.reduceAdd]; rfl) ?_
          intro K hK
          refine ⟨_, _, _, Or.inl (hf), by repeat first | exact trivial | refine And.intro ⟨rfl, rfl⟩ ?_, ?_⟩
          refine hK _ _ ?_
          clear hK K
          refine dw_k [(37, .v (.int .i64 (count + 1)))] TN1_ok (by kernel_rfl) hnt (by kernel_rfl) (by simp only [List.size_toArray, List.length_cons, List.length_nil, Nat.reduceAdd]; rfl) ?_
          intro K hK
          refine And.intro (dintE (IntWalk.i64_in _ (by omega))) ?_
          refine hK _ _ ?_
          clear hK K
          refine dw_k [] TN1_ok (by kernel_rfl) hnt (by kernel_rfl) (by simp only [List.size_toArray, List.length_cons, List.length_nil, Nat.reduceAdd]; rfl) ?_
          intro K hK
          refine hK _ _ ?_
          clear hK K
          refine ⟨true, by decide, (VS.toK (by first | omega | simp [hn0]) (by repeat first | exact trivial | refine And.intro (And.intro (by first | rfl | simp [D.ok, D.oks, D.okss, D.okm, eTm_ok, eTy_ok, eTys_ok, eTms_ok, upto, keyOk]) (by first | exact Or.inl rfl | exact Or.inr ⟨_, rfl, (by repeat first | exact VLe.refl _ | exact VLe.nil _ | exact VLe.untag _ _ _ | refine VLe.ag ?_ | refine VLe.tu ?_ | refine VLeL.cons ?_ ?_ | exact VLeL.nil), trivial⟩ | simp [get, Key.eq])) ?_))⟩
        · skip
          refine dw_k [(16, .v (.bool false))] TN1_ok (by kernel_rfl) hnt (by kernel_rfl) (by simp only [List.size_toArray, List.length_cons, List.length_nil, Nat.reduceAdd]; rfl) ?_
          intro K hK
          refine And.intro (dfalse hc) ?_
          refine hK _ _ ?_
          clear hK K
          refine dw_cond (t := false) rfl ?_
          rw [if_neg (by simp)]
          refine dw_seq ?_
          cases hb : (Nm.spend ⟨left, dry, count, 0⟩).1 with
          | true =>
            rw [hb] at hsp
            have hu : Nm.unit ⟨left, dry, count, 0⟩ = (true, ⟨(Nm.spend ⟨left, dry, count, 0⟩).2.left, (Nm.spend ⟨left, dry, count, 0⟩).2.dry, count + 1, 0⟩) := by
              unfold Nm.unit
              rw [if_neg (by simp), if_neg hc]
              split <;> rename_i h <;> rw [h] at hb hspe <;> cases hb
              obtain ⟨h1, h2⟩ := hspe
              simp only at h1 h2
              simp [h, h1, h2]
            rw [hu] at hs1
            subst hs1
            refine dw_k [] TN1_ok (by kernel_rfl) hnt (by kernel_rfl) (by simp only [List.size_toArray, List.length_cons, List.length_nil, Nat.reduceAdd]; rfl) ?_
            intro K hK
            refine ⟨_, _, _, Or.inl (hsp), by repeat first | exact trivial | refine And.intro ⟨rfl, rfl⟩ ?_, ?_⟩
            refine hK _ _ ?_
            clear hK K
            refine dw_cond (t := false) rfl ?_
            rw [if_neg (by simp)]
            refine dw_skip ?_
            refine dw_k [(37, .v (.int .i64 (count + 1)))] TN1_ok (by kernel_rfl) hnt (by kernel_rfl) (by simp only [List.size_toArray, List.length_cons, List.length_nil, Nat.reduceAdd]; rfl) ?_
            intro K hK
            refine And.intro (dintE (IntWalk.i64_in _ (by omega))) ?_
            refine hK _ _ ?_
            clear hK K
            refine dw_k [] TN1_ok (by kernel_rfl) hnt (by kernel_rfl) (by simp only [List.size_toArray, List.length_cons, List.length_nil, Nat.reduceAdd]; rfl) ?_
            intro K hK
            refine hK _ _ ?_
            clear hK K
            refine ⟨true, by decide, (VS.toK (by first | omega | simp [hn0]) (by repeat first | exact trivial | refine And.intro (And.intro (by first | rfl | simp [D.ok, D.oks, D.okss, D.okm, eTm_ok, eTy_ok, eTys_ok, eTms_ok, upto, keyOk]) (by first | exact Or.inl rfl | exact Or.inr ⟨_, rfl, (by repeat first | exact VLe.refl _ | exact VLe.nil _ | exact VLe.untag _ _ _ | refine VLe.ag ?_ | refine VLe.tu ?_ | refine VLeL.cons ?_ ?_ | exact VLeL.nil), trivial⟩ | simp [get, Key.eq])) ?_))⟩
          | false =>
            rw [hb] at hsp
            have hu : Nm.unit ⟨left, dry, count, 0⟩ = (false, ⟨(Nm.spend ⟨left, dry, count, 0⟩).2.left, (Nm.spend ⟨left, dry, count, 0⟩).2.dry, count + 1, 11⟩) := by
              unfold Nm.unit
              rw [if_neg (by simp), if_neg hc]
              split <;> rename_i h <;> rw [h] at hb hspe <;> cases hb
              obtain ⟨h1, h2⟩ := hspe
              simp only at h1 h2
              simp [h, h1, h2]
            rw [hu] at hs1
            subst hs1
            refine dw_k [] TN1_ok (by kernel_rfl) hnt (by kernel_rfl) (by simp only [List.size_toArray, List.length_cons, List.length_nil, Nat.reduceAdd]; rfl) ?_
            intro K hK
            refine ⟨_, _, _, Or.inl (hsp), by repeat first | exact trivial | refine And.intro ⟨rfl, rfl⟩ ?_, ?_⟩
            refine hK _ _ ?_
            clear hK K
            refine dw_cond (t := true) rfl ?_
            rw [if_pos rfl]
            have hf : CallC _ _ _ _ (wkE ⟨(Nm.spend ⟨left, dry, count, 0⟩).2.left, (Nm.spend ⟨left, dry, count, 0⟩).2.dry, count, 11⟩) _ := fail_d ⟨(Nm.spend ⟨left, dry, count, 0⟩).2.left, (Nm.spend ⟨left, dry, count, 0⟩).2.dry, count, 0⟩ 11
            dsimp only [wkE] at hf
            refine dw_k [] TN1_ok (by kernel_rfl) hnt (by kernel_rfl) (by simp only [List.size_toArray, List.length_cons, List.length_nil, Nat.reduceAdd]; rfl) ?_
            intro K hK
            refine ⟨_, _, _, Or.inl (hf), by repeat first | exact trivial | refine And.intro ⟨rfl, rfl⟩ ?_, ?_⟩
            refine hK _ _ ?_
            clear hK K
            refine dw_k [(37, .v (.int .i64 (count + 1)))] TN1_ok (by kernel_rfl) hnt (by kernel_rfl) (by simp only [List.size_toArray, List.length_cons, List.length_nil, Nat.reduceAdd]; rfl) ?_
            intro K hK
            refine And.intro (dintE (IntWalk.i64_in _ (by omega))) ?_
            refine hK _ _ ?_
            clear hK K
            refine dw_k [] TN1_ok (by kernel_rfl) hnt (by kernel_rfl) (by simp only [List.size_toArray, List.length_cons, List.length_nil, Nat.reduceAdd]; rfl) ?_
            intro K hK
            refine hK _ _ ?_
            clear hK K
            refine ⟨true, by decide, (VS.toK (by first | omega | simp [hn0]) (by repeat first | exact trivial | refine And.intro (And.intro (by first | rfl | simp [D.ok, D.oks, D.okss, D.okm, eTm_ok, eTy_ok, eTys_ok, eTms_ok, upto, keyOk]) (by first | exact Or.inl rfl | exact Or.inr ⟨_, rfl, (by repeat first | exact VLe.refl _ | exact VLe.nil _ | exact VLe.untag _ _ _ | refine VLe.ag ?_ | refine VLe.tu ?_ | refine VLeL.cons ?_ ?_ | exact VLeL.nil), trivial⟩ | simp [get, Key.eq])) ?_))⟩
      | true =>
        dsimp only [unitI, wkE]
        refine dw_seq ?_
        refine dw_seq ?_
        refine dw_k [] TN1_ok (by kernel_rfl) hnt (by kernel_rfl) (by simp only [List.size_toArray, List.length_cons, List.length_nil, Nat.reduceAdd]; rfl) ?_
        intro K hK
        refine hK _ _ ?_
        clear hK K
        refine dw_cond (t := false) rfl ?_
        rw [if_neg (by simp)]
        refine dw_exit ?_
        refine dw_seq ?_
        refine dw_k [(44, .v (.bool b1))] TN1_ok (by kernel_rfl) hnt (by kernel_rfl) (by simp only [List.size_toArray, List.length_cons, List.length_nil, Nat.reduceAdd]; rfl) ?_
        intro K hK
        refine And.intro (VLe.of_eq hb2) ?_
        refine hK _ _ ?_
        clear hK K
        refine dw_ret ?_
        exact retw (.inr rfl) rfl (by repeat first | exact trivial | refine And.intro rfl ?_)
    · have hu : Nm.unit ⟨left, dry, count, er⟩ = (false, ⟨left, dry, count, er⟩) := by simp [Nm.unit, he]
      rw [hu]
      refine dw_loop (ι := Bool) (unitI ⟨left, dry, count, er⟩ ⟨left, dry, count, er⟩) 7 (fun b => match b with | false => 1 | true => 0) false (VS.toK (by first | omega | simp [hn0]) (by repeat first | exact trivial | refine And.intro (And.intro (by first | rfl | simp [D.ok, D.oks, D.okss, D.okm, eTm_ok, eTy_ok, eTys_ok, eTms_ok, upto, keyOk]) (by first | exact Or.inl rfl | exact Or.inr ⟨_, rfl, (by repeat first | exact VLe.refl _ | exact VLe.nil _ | exact VLe.untag _ _ _ | refine VLe.ag ?_ | refine VLe.tu ?_ | refine VLeL.cons ?_ ?_ | exact VLeL.nil), trivial⟩ | simp [get, Key.eq])) ?_)) fun b => ?_
      cases b with
      | false =>
        dsimp only [unitI, wkE]
        refine dw_seq (dw_seq ?_)
        refine dw_k [(12, .v (.bool false))] TN1_ok (by kernel_rfl) hnt (by kernel_rfl) (by simp only [List.size_toArray, List.length_cons, List.length_nil, Nat.reduceAdd]; rfl) ?_
        intro K hK
        refine And.intro (dfalse he) ?_
        refine hK _ _ ?_
        clear hK K
        refine dw_cond (t := false) rfl ?_
        rw [if_neg (by simp)]
        refine dw_exit ?_
        refine dw_seq ?_
        refine dw_k [(44, .v (.bool false))] TN1_ok (by kernel_rfl) hnt (by kernel_rfl) (by simp only [List.size_toArray, List.length_cons, List.length_nil, Nat.reduceAdd]; rfl) ?_
        intro K hK
        refine And.intro (dfalse he) ?_
        refine hK _ _ ?_
        clear hK K
        refine dw_ret ?_
        exact retw (.inr rfl) rfl (by repeat first | exact trivial | refine And.intro rfl ?_)
      | true =>
        refine dw_seq (dw_seq ?_)
        refine dw_k [] TN1_ok (by kernel_rfl) hnt (by kernel_rfl) (by simp only [List.size_toArray, List.length_cons, List.length_nil, Nat.reduceAdd]; rfl) ?_
        intro K hK
        refine hK _ _ ?_
        clear hK K
        refine dw_cond (t := false) rfl ?_
        rw [if_neg (by simp)]
        refine dw_exit ?_
        refine dw_seq ?_
        refine dw_k [(44, .v (.bool false))] TN1_ok (by kernel_rfl) hnt (by kernel_rfl) (by simp only [List.size_toArray, List.length_cons, List.length_nil, Nat.reduceAdd]; rfl) ?_
        intro K hK
        refine And.intro (dfalse he) ?_
        refine hK _ _ ?_
        clear hK K
        refine dw_ret ?_
        exact retw (.inr rfl) rfl (by repeat first | exact trivial | refine And.intro rfl ?_)
end Go.Proofs.YtiblklcfjakjmaaGreat

namespace Go.Proofs.YtiblklcfjakjmaaGreat
open Go.RowKit
def TLi_52 : TI := ⟨4, true, [Value.slice none 0 0, Value.int IntKind.i64 0, Value.int IntKind.i64 0, Value.slice none 0 0], [(0, 1, false), (1, 2, true), (3, 1, false)], none, 64, 6, none⟩
theorem TLi_52_ok : TypOk Tryz.prog 52 TLi_52 := ⟨by kernel_rfl, by kernel_rfl, by kernel_rfl, by kernel_rfl⟩
def TLi_3 : TI := ⟨1, false, [Value.int IntKind.i64 0], [], none, 8, 2, none⟩
theorem TLi_3_ok : TypOk Tryz.prog 3 TLi_3 := ⟨by kernel_rfl, by kernel_rfl, by kernel_rfl, by kernel_rfl⟩
def TLi_50 : TI := ⟨1, false, [Value.slice none 0 0], [], some 52, 24, 5, none⟩
theorem TLi_50_ok : TypOk Tryz.prog 50 TLi_50 := ⟨by kernel_rfl, by kernel_rfl, by kernel_rfl, by kernel_rfl⟩
def TLi_49 : TI := ⟨2, true, [Value.int IntKind.i64 0, Value.int IntKind.i64 0], [(0, 1, false), (1, 1, false)], none, 16, 6, none⟩
theorem TLi_49_ok : TypOk Tryz.prog 49 TLi_49 := ⟨by kernel_rfl, by kernel_rfl, by kernel_rfl, by kernel_rfl⟩
def TLi_34 : TI := ⟨1, false, [Value.slice none 0 0], [], some 77, 24, 5, none⟩
theorem TLi_34_ok : TypOk Tryz.prog 34 TLi_34 := ⟨by kernel_rfl, by kernel_rfl, by kernel_rfl, by kernel_rfl⟩
def TLi_77 : TI := ⟨2, true, [Value.slice none 0 0, Value.int IntKind.i64 0], [(0, 1, false), (1, 1, false)], none, 32, 6, none⟩
theorem TLi_77_ok : TypOk Tryz.prog 77 TLi_77 := ⟨by kernel_rfl, by kernel_rfl, by kernel_rfl, by kernel_rfl⟩
def TLi : List (Nat × TI) := [(52, TLi_52), (3, TLi_3), (50, TLi_50), (49, TLi_49), (34, TLi_34), (77, TLi_77)]
theorem TLi_ok : TabOk Tryz.prog TLi := (((((((TabOk.nil _).cons TLi_77_ok).cons TLi_34_ok).cons TLi_49_ok).cons TLi_50_ok).cons TLi_3_ok).cons TLi_52_ok)

set_option maxHeartbeats 1000000 in
theorem lifted_d : ∀ (t : Tm) (_ : Wide t) (y ins : Int), PureC Tryz.prog 195 [.ag (eTm t), .v (.int .i64 y), .v (.int .i64 ins)] (.ag (eTm (Nm.lift y t ins))) := by
  intro t
  induction t using Tm.ind with
  | h bs k i a ih =>
  intro hw y ins
  obtain ⟨w1, w2, w3⟩ := hw.inv
  obtain ⟨m, hm⟩ : ∃ m, IntKind.i64.wrap (ins + (bs.length : Int)) = m := ⟨_, rfl⟩
  obtain ⟨i', hi'⟩ : ∃ i', (if k = 0 ∧ m ≤ i then IntKind.i64.wrap (i + y) else i) = i' := ⟨_, rfl⟩
  have hL : Nm.lift y (.mk bs k i a) ins = .mk bs k i' (Nm.lifts y a m) := by rw [Nm.lift_eq, wr_wrap, wr_wrap, hm, hi']
  rw [hL]
  refine call_of_dw 0 55 [ResultVar.cell 6 52] TLi_ok (by kernel_rfl) Tryz.func195 rfl Tryz.ntmps195 rfl (by simp) ?dwords ?dbody
  case dwords => simp [wordsOk, D.ok, D.oks, eTm_ok, rnames]
  case dbody =>
    intro cx hnt hn0
    refine dw_seq ?_
    refine dw_k [] TLi_ok (by kernel_rfl) hnt (by kernel_rfl) (by simp only [List.size_toArray, List.length_cons, List.length_nil, Nat.reduceAdd]; rfl) ?_
    intro K hK
    refine hK _ _ ?_
    clear hK K
    refine dw_seq ?_
    refine dw_k [(13, .v (.int .i64 bs.length)), (14, .v (.int .i64 m))] TLi_ok (by kernel_rfl) hnt (by kernel_rfl) (by simp only [List.size_toArray, List.length_cons, List.length_nil, Nat.reduceAdd]; rfl) ?_
    intro K hK
    refine And.intro (dintE (by rw [eTys_len])) ?_
    refine And.intro (dintE hm) ?_
    refine hK _ _ ?_
    clear hK K
    refine dw_cut (τ := [(.t 1, .v (.int .i64 y)), (.t 2, .v (.int .i64 m)), (.t 3, .p 0 0), (.t 6, .p 1 0), (.c 0 0, .sl 2 (eTys bs) none), (.c 0 1, .v (.int .i64 k)), (.c 0 2, .v (.int .i64 i')), (.c 0 3, .sl 4 (eTms a) none), (.c 1 0, .v (.slice none 0 0)), (.c 1 1, .v (.int .i64 0)), (.c 1 2, .v (.int .i64 0)), (.c 1 3, .v (.slice none 0 0))]) (N1 := 2) ?_ ?_
    · by_cases hk : k = 0
      · subst hk
        by_cases hi : m ≤ i
        · rw [if_pos ⟨rfl, hi⟩] at hi'
          refine dw_seq ?_
          refine dw_k [(18, .v (.bool true)), (24, .v (.bool true))] TLi_ok (by kernel_rfl) hnt (by kernel_rfl) (by simp only [List.size_toArray, List.length_cons, List.length_nil, Nat.reduceAdd]; rfl) ?_
          intro K hK
          refine And.intro (VLe.refl _) ?_
          refine And.intro (dtrue hi) ?_
          refine hK _ _ ?_
          clear hK K
          refine dw_cond (t := true) rfl ?_
          rw [if_pos rfl]
          refine dw_k [(30, .v (.int .i64 i'))] TLi_ok (by kernel_rfl) hnt (by kernel_rfl) (by simp only [List.size_toArray, List.length_cons, List.length_nil, Nat.reduceAdd]; rfl) ?_
          intro K hK
          refine And.intro (dintE hi') ?_
          refine hK _ _ ?_
          clear hK K
          exact cut_ok (VS.toK (by first | omega | simp [hn0]) (by repeat first | exact trivial | refine And.intro (And.intro (by first | rfl | simp [D.ok, D.oks, D.okss, D.okm, eTm_ok, eTy_ok, eTys_ok, eTms_ok, upto, keyOk]) (by first | exact Or.inl rfl | exact Or.inr ⟨_, rfl, (by repeat first | exact VLe.refl _ | exact VLe.nil _ | exact VLe.untag _ _ _ | refine VLe.ag ?_ | refine VLe.tu ?_ | refine VLeL.cons ?_ ?_ | exact VLeL.nil), trivial⟩ | simp [get, Key.eq])) ?_))
        · rw [if_neg (fun h => hi h.2)] at hi'
          subst hi'
          refine dw_seq ?_
          refine dw_k [(18, .v (.bool true)), (24, .v (.bool false))] TLi_ok (by kernel_rfl) hnt (by kernel_rfl) (by simp only [List.size_toArray, List.length_cons, List.length_nil, Nat.reduceAdd]; rfl) ?_
          intro K hK
          refine And.intro (VLe.refl _) ?_
          refine And.intro (dfalse hi) ?_
          refine hK _ _ ?_
          clear hK K
          refine dw_cond (t := false) rfl ?_
          rw [if_neg (by simp)]
          refine dw_skip ?_
          exact cut_ok (VS.toK (by first | omega | simp [hn0]) (by repeat first | exact trivial | refine And.intro (And.intro (by first | rfl | simp [D.ok, D.oks, D.okss, D.okm, eTm_ok, eTy_ok, eTys_ok, eTms_ok, upto, keyOk]) (by first | exact Or.inl rfl | exact Or.inr ⟨_, rfl, (by repeat first | exact VLe.refl _ | exact VLe.nil _ | exact VLe.untag _ _ _ | refine VLe.ag ?_ | refine VLe.tu ?_ | refine VLeL.cons ?_ ?_ | exact VLeL.nil), trivial⟩ | simp [get, Key.eq])) ?_))
      · rw [if_neg (fun h => hk h.1)] at hi'
        subst hi'
        refine dw_seq ?_
        refine dw_k [(18, .v (.bool false))] TLi_ok (by kernel_rfl) hnt (by kernel_rfl) (by simp only [List.size_toArray, List.length_cons, List.length_nil, Nat.reduceAdd]; rfl) ?_
        intro K hK
        refine And.intro (dfalse hk) ?_
        refine hK _ _ ?_
        clear hK K
        refine dw_cond (t := false) rfl ?_
        rw [if_neg (by simp)]
        refine dw_skip ?_
        exact cut_ok (VS.toK (by first | omega | simp [hn0]) (by repeat first | exact trivial | refine And.intro (And.intro (by first | rfl | simp [D.ok, D.oks, D.okss, D.okm, eTm_ok, eTy_ok, eTys_ok, eTms_ok, upto, keyOk]) (by first | exact Or.inl rfl | exact Or.inr ⟨_, rfl, (by repeat first | exact VLe.refl _ | exact VLe.nil _ | exact VLe.untag _ _ _ | refine VLe.ag ?_ | refine VLe.tu ?_ | refine VLeL.cons ?_ ?_ | exact VLeL.nil), trivial⟩ | simp [get, Key.eq])) ?_))
    · refine dw_seq ?_
      refine dw_k [(35, .v (.int .i64 a.length))] TLi_ok (by kernel_rfl) hnt (by kernel_rfl) (by simp only [List.size_toArray, List.length_cons, List.length_nil, Nat.reduceAdd]; rfl) ?_
      intro K hK
      refine And.intro (dintE (by rw [eTms_len])) ?_
      refine And.intro ((by omega)) ?_
      refine hK _ _ ?_
      clear hK K
      refine dw_seq (dw_seq ?_)
      refine dw_k [(39, .v (.int .i64 a.length))] TLi_ok (by kernel_rfl) hnt (by kernel_rfl) (by simp only [List.size_toArray, List.length_cons, List.length_nil, Nat.reduceAdd]; rfl) ?_
      intro K hK
      refine And.intro (dintE (by rw [eTms_len])) ?_
      refine hK _ _ ?_
      clear hK K
      refine dw_block ?_
      refine dw_loop (ι := Nat) (fun j => [(.t 40, .v (.int .i64 j)), (.t 7, .sl 4 (eTms (Nm.lifts y (a.take j) m)) (some 5)), (.r 5, .rw 52 4 j), (.t 1, .v (.int .i64 y)), (.t 2, .v (.int .i64 m)), (.t 3, .p 0 0), (.t 6, .p 1 0), (.t 38, .sl 4 (eTms a) none), (.t 39, .v (.int .i64 a.length)), (.c 0 0, .sl 2 (eTys bs) none), (.c 0 1, .v (.int .i64 k)), (.c 0 2, .v (.int .i64 i')), (.c 0 3, .sl 4 (eTms a) none), (.c 1 0, .v (.slice none 0 0)), (.c 1 1, .v (.int .i64 0)), (.c 1 2, .v (.int .i64 0)), (.c 1 3, .v (.slice none 0 0))]) 6 (fun j => a.length - j) 0 ?_ fun j => ?_
      · exact (VS.toK (by first | omega | simp [hn0]) (by repeat first | exact trivial | refine And.intro (And.intro (by first | rfl | simp [D.ok, D.oks, D.okss, D.okm, eTm_ok, eTy_ok, eTys_ok, eTms_ok, upto, keyOk, Nm.lifts, eTms]) (by first | exact Or.inl rfl | exact Or.inr ⟨_, rfl, (by repeat first | exact VLe.refl _ | exact VLe.nil _ | exact VLe.untag _ _ _ | refine VLe.ag ?_ | refine VLe.tu ?_ | refine VLeL.cons ?_ ?_ | exact VLeL.nil), trivial⟩ | simp [get, Key.eq, Nm.lifts, eTms])) ?_))
      · refine dw_seq ?_
        by_cases hlt : j < a.length
        · have hg := eTms_getD a j hlt
          have hih := ih a[j] (List.getElem_mem hlt) (w3 _ (List.getElem_mem hlt)) y m
          rw [eTm_eq, eTm_eq] at hih
          have hll : (Nm.lifts y (a.take j) m).length = j := by rw [Nm.lift_len, List.length_take]; omega
          refine dw_k [(41, .v (.bool true))] TLi_ok (by kernel_rfl) hnt (by kernel_rfl) (by simp only [List.size_toArray, List.length_cons, List.length_nil, Nat.reduceAdd]; rfl) ?_
          intro K hK
          refine And.intro (dtrue (by omega)) ?_
          refine hK _ _ ?_
          clear hK K
          refine dw_seq (dw_cond (t := true) rfl ?_)
          rw [if_pos rfl]
          refine dw_skip (dw_seq (dw_block (dw_seq ?_)))
          refine dw_k [(42, .q [.sl 2 (eTys a[j].binds) none, .v (.int .i64 a[j].kind), .v (.int .i64 a[j].index), .sl 4 (eTms a[j].args) none])] TLi_ok (by kernel_rfl) hnt (by kernel_rfl) (by simp only [List.size_toArray, List.length_cons, List.length_nil, Nat.reduceAdd]; rfl) ?_
          intro K hK
          refine And.intro (⟨by omega, by rw [eTms_len]; omega⟩) ?_
          refine And.intro (by rw [Int.toNat_natCast, hg, eTm_eq]) ?_
          refine hK _ _ ?_
          clear hK K
          refine dw_k [(50, .sl 4 (eTms (Nm.lifts y (a.take (j + 1)) m)) (some 5))] TLi_ok (by kernel_rfl) hnt (by kernel_rfl) (by simp only [List.size_toArray, List.length_cons, List.length_nil, Nat.reduceAdd]; rfl) ?_
          intro K hK
          refine ⟨_, _, _, Or.inl (hih), by repeat first | exact trivial | refine And.intro ⟨rfl, rfl⟩ ?_, ?_⟩
          refine And.intro (⟨by rw [eTms_len, hll], by rw [eTms_len, hll]; simp; omega⟩) ?_
          refine And.intro (by rw [Nm.lift_take _ _ _ _ hlt, eTms_append, eTms, eTms, eTm_eq (Nm.lift y a[j] m)]) ?_
          refine hK _ _ ?_
          clear hK K
          refine dw_k [(51, .v (.int .i64 ((j + 1 : Nat) : Int)))] TLi_ok (by kernel_rfl) hnt (by kernel_rfl) (by simp only [List.size_toArray, List.length_cons, List.length_nil, Nat.reduceAdd]; rfl) ?_
          intro K hK
          refine And.intro (dintE (by rw [IntWalk.i64_in _ (by omega)]; omega)) ?_
          refine hK _ _ ?_
          clear hK K
          refine ⟨j + 1, by omega, (VS.toK (by first | omega | simp [hn0]) (by repeat first | exact trivial | refine And.intro (And.intro (by first | rfl | simp [D.ok, D.oks, D.okss, D.okm, eTm_ok, eTy_ok, eTys_ok, eTms_ok, upto, keyOk, eTms_len, hll]) (by first | exact Or.inl rfl | exact Or.inr ⟨_, rfl, (by repeat first | exact VLe.refl _ | exact VLe.nil _ | exact VLe.untag _ _ _ | refine VLe.ag ?_ | refine VLe.tu ?_ | refine VLeL.cons ?_ ?_ | exact VLeL.nil), trivial⟩ | simp [get, Key.eq, eTms_len, hll])) ?_))⟩
        · skip
          refine dw_k [(41, .v (.bool false))] TLi_ok (by kernel_rfl) hnt (by kernel_rfl) (by simp only [List.size_toArray, List.length_cons, List.length_nil, Nat.reduceAdd]; rfl) ?_
          intro K hK
          refine And.intro (dfalse (by omega)) ?_
          refine hK _ _ ?_
          clear hK K
          refine dw_seq (dw_cond (t := false) rfl ?_)
          rw [if_neg (by simp)]
          refine dw_exit ?_
          refine dw_seq ?_
          refine dw_k [] TLi_ok (by kernel_rfl) hnt (by kernel_rfl) (by simp only [List.size_toArray, List.length_cons, List.length_nil, Nat.reduceAdd]; rfl) ?_
          intro K hK
          refine hK _ _ ?_
          clear hK K
          refine dw_seq ?_
          refine dw_k [] TLi_ok (by kernel_rfl) hnt (by kernel_rfl) (by simp only [List.size_toArray, List.length_cons, List.length_nil, Nat.reduceAdd]; rfl) ?_
          intro K hK
          refine hK _ _ ?_
          clear hK K
          refine dw_ret ?_
          rw [List.take_of_length_le (by omega)]
          exact ⟨.inr rfl, ⟨_, rfl, (by repeat first | exact VLe.refl _ | exact VLe.nil _ | exact VLe.untag _ _ _ | refine VLe.ag ?_ | refine VLe.tu ?_ | refine VLeL.cons ?_ ?_ | exact VLeL.nil)⟩, nofun⟩
theorem grown_nd (t : Tm) (hw : Wide t) (y : Int) : PureC Tryz.prog 192 [.ag (eTm t), .v (.int .i64 y)] (.ag (eTm (Nm.grown t y))) := by
  have hl := lifted_d t hw y 0
  rw [eTm_eq, eTm_eq] at hl
  obtain ⟨bs, k, i, a⟩ := t
  refine call_of_dw 0 11 [ResultVar.cell 4 52] TLi_ok (by kernel_rfl) Tryz.func192 rfl Tryz.ntmps192 rfl (by simp) ?dwords ?dbody
  case dwords => simp [wordsOk, D.ok, D.oks, eTm_ok, rnames]
  case dbody =>
    intro cx hnt hn0
    refine dw_seq ?_
    refine dw_k [] TLi_ok (by kernel_rfl) hnt (by kernel_rfl) (by simp only [List.size_toArray, List.length_cons, List.length_nil, Nat.reduceAdd]; rfl) ?_
    intro K hK
    refine hK _ _ ?_
    clear hK K
    refine dw_seq (dw_seq ?_)
    by_cases hy : y = 0
    · skip
      refine dw_k [(6, .v (.bool true))] TLi_ok (by kernel_rfl) hnt (by kernel_rfl) (by simp only [List.size_toArray, List.length_cons, List.length_nil, Nat.reduceAdd]; rfl) ?_
      intro K hK
      refine And.intro (dtrue hy) ?_
      refine hK _ _ ?_
      clear hK K
      refine dw_cond (t := true) rfl ?_
      rw [if_pos rfl]
      refine dw_seq ?_
      refine dw_k [] TLi_ok (by kernel_rfl) hnt (by kernel_rfl) (by simp only [List.size_toArray, List.length_cons, List.length_nil, Nat.reduceAdd]; rfl) ?_
      intro K hK
      refine hK _ _ ?_
      clear hK K
      refine dw_ret ?_
      have hg : Nm.grown (.mk bs k i a) y = .mk bs k i a := by simp [Nm.grown, hy]
      rw [hg]
      exact ⟨.inr rfl, ⟨_, rfl, VLe.refl _⟩, nofun⟩
    · skip
      refine dw_k [(6, .v (.bool false))] TLi_ok (by kernel_rfl) hnt (by kernel_rfl) (by simp only [List.size_toArray, List.length_cons, List.length_nil, Nat.reduceAdd]; rfl) ?_
      intro K hK
      refine And.intro (dfalse hy) ?_
      refine hK _ _ ?_
      clear hK K
      refine dw_cond (t := false) rfl ?_
      rw [if_neg (by simp)]
      refine dw_skip ?_
      refine dw_seq ?_
      refine dw_k [] TLi_ok (by kernel_rfl) hnt (by kernel_rfl) (by simp only [List.size_toArray, List.length_cons, List.length_nil, Nat.reduceAdd]; rfl) ?_
      intro K hK
      refine ⟨_, _, _, Or.inl (hl), by repeat first | exact trivial | refine And.intro ⟨rfl, rfl⟩ ?_, ?_⟩
      refine hK _ _ ?_
      clear hK K
      refine dw_ret ?_
      have hg : Nm.grown (.mk bs k i a) y = Nm.lift y (.mk bs k i a) 0 := by simp [Nm.grown, hy]
      rw [hg]
      exact ⟨.inr rfl, ⟨_, rfl, VLe.refl _⟩, nofun⟩
end Go.Proofs.YtiblklcfjakjmaaGreat

namespace Go.Proofs.YtiblklcfjakjmaaGreat
namespace Nm
theorem spend_keeps (s : St) : (spend s).2.count = s.count ∧ (spend s).2.e = s.e := by unfold spend; split <;> exact ⟨rfl, rfl⟩
theorem fail_count (s : St) (c : Int) : (fail s c).count = s.count := by unfold fail; split <;> rfl
theorem unit_count (s : St) : s.count ≤ (unit s).2.count ∧ ((unit s).1 = true → (unit s).2.count = s.count + 1 ∧ s.e = 0 ∧ (unit s).2.e = 0) := by
  unfold unit
  split
  · exact ⟨Int.le_refl _, fun h => by cases h⟩
  · rename_i he
    split
    · exact ⟨by dsimp only; omega, fun h => by cases h⟩
    · have h1 := spend_keeps s
      generalize spend s = p at h1
      obtain ⟨ok, s'⟩ := p
      cases ok
      · exact ⟨by dsimp only at h1 ⊢; omega, fun h => by cases h⟩
      · dsimp only at h1 ⊢
        exact ⟨by omega, fun _ => ⟨by omega, by omega, by omega⟩⟩
theorem seqM_count {g : Tm → St → Tm × St} (hg : ∀ t s, s.count ≤ (g t s).2.count) (l : List Tm) (s : St) : s.count ≤ (seqM g l s).2.count := by
  induction l generalizing s with
  | nil => exact Int.le_refl _
  | cons t l ih => exact Int.le_trans (hg t s) (ih _)
theorem putW_count {thr : Thr} (h : ∀ xs n t ins s, s.count ≤ (thr xs n t ins s).2.count) (t : Tm) (xs : List Tm) (s : St) : s.count ≤ (putW thr t xs s).2.count := by
  unfold putW
  split
  · rw [fail_count]; exact Int.le_refl _
  · exact h _ _ _ _ _
theorem hit_count {thr : Thr} (h : ∀ xs n t ins s, s.count ≤ (thr xs n t ins s).2.count) (xs : List Tm) (n : Nat) (t : Tm) (ins : Int) (args : List Tm) (s : St) : s.count ≤ (hit thr xs n t ins args s).2.count := by
  unfold hit
  split
  · exact Int.le_refl _
  · dsimp only
    split
    · exact Int.le_refl _
    · split
      · exact Int.le_refl _
      · split
        · rw [fail_count]; exact Int.le_refl _
        · exact putW_count h _ _ _
theorem through_count (f : Nat) : ∀ xs n t ins s, s.count ≤ (through f xs n t ins s).2.count := by
  induction f with
  | zero => intro xs n t ins s; exact Int.le_refl _
  | succ f ih =>
    intro xs n t ins s
    unfold through
    dsimp only
    split
    · exact Int.le_trans (unit_count s).1 (Int.le_trans (seqM_count (fun t s => ih _ _ _ _ _) _ _) (hit_count ih _ _ _ _ _ _))
    · exact (unit_count s).1

theorem wide_tz : Wide tz := .mk _ _ _ _ (by simp) (by simp) fun t h => by cases h
theorem wide_parts {t : Tm} (h : Wide t) : t.binds.length ≤ 100000 ∧ t.args.length ≤ 100000 ∧ ∀ u ∈ t.args, Wide u := by
  cases t with
  | mk b k i a => exact h.inv
theorem seqM_wide {g : Tm → St → Tm × St} (hg : ∀ t s, Wide t → Wide (g t s).1) (l : List Tm) (h : ∀ t ∈ l, Wide t) (s : St) : ∀ t ∈ (seqM g l s).1, Wide t := by
  induction l generalizing s with
  | nil => intro t ht; cases ht
  | cons u l ih =>
    intro t ht
    rcases List.mem_cons.1 ht with rfl | ht
    · exact hg _ _ (h u (by simp))
    · exact ih (fun t ht => h t (by simp [ht])) _ t ht
theorem grown_wide {t : Tm} (h : Wide t) (y : Int) : Wide (grown t y) := by
  unfold grown; split
  · exact h
  · exact h.lift y 0
def ThrWide (thr : Thr) : Prop := ∀ xs n t ins s, Wide t → (∀ a ∈ xs, Wide a) → Wide (thr xs n t ins s).1
theorem putW_wide {thr : Thr} (h : ThrWide thr) {t : Tm} {xs : List Tm} (ht : Wide t) (ha : ∀ a ∈ xs, Wide a) (s : St) : Wide (putW thr t xs s).1 := by
  unfold putW
  split
  · exact wide_tz
  · obtain ⟨h1, h2, h3⟩ := wide_parts ht
    have hr := h xs t.binds.length (.mk [] t.kind t.index t.args) 0 s (.mk _ _ _ _ (by simp) h2 h3) ha
    obtain ⟨r1, r2, r3⟩ := wide_parts hr
    exact .mk _ _ _ _ (by rw [List.length_drop]; omega) r2 r3
theorem hit_wide {thr : Thr} (h : ThrWide thr) {xs : List Tm} {n : Nat} {t : Tm} {ins : Int} {args : List Tm} (ht : Wide t) (ha : ∀ a ∈ xs, Wide a) (hl : args.length ≤ 100000) (hw : ∀ a ∈ args, Wide a) (s : St) : Wide (hit thr xs n t ins args s).1 := by
  obtain ⟨h1, h2, h3⟩ := wide_parts ht
  unfold hit
  split
  · exact .mk _ _ _ _ h1 hl hw
  · dsimp only
    split
    · exact .mk _ _ _ _ h1 hl hw
    · split
      · exact .mk _ _ _ _ h1 hl hw
      · split
        · exact wide_tz
        · have hu : ∀ j, Wide (xs.getD j tz) := fun j => by
            rw [List.getD_eq_getElem?_getD]
            by_cases hj : j < xs.length
            · rw [List.getElem?_eq_getElem hj]; exact ha _ (List.getElem_mem hj)
            · rw [List.getElem?_eq_none (by omega)]; exact wide_tz
          have hr := putW_wide h (grown_wide (hu ((n : Int) - 1 - wr (t.index - ins)).toNat) (wr (wr (ins + n) - xs.length))) hw s
          obtain ⟨r1, r2, r3⟩ := wide_parts hr
          exact .mk _ _ _ _ h1 r2 r3
theorem through_wide (f : Nat) : ThrWide (through f) := by
  induction f with
  | zero => intro xs n t ins s _ _; exact wide_tz
  | succ f ih =>
    intro xs n t ins s ht ha
    obtain ⟨h1, h2, h3⟩ := wide_parts ht
    unfold through
    dsimp only
    split
    · exact hit_wide ih ht ha (by rw [seqM_length]; exact h2) (seqM_wide (fun t s ht => ih _ _ _ _ _ ht ha) _ h3 _) _
    · exact wide_tz
end Nm
end Go.Proofs.YtiblklcfjakjmaaGreat

namespace Go.Proofs.YtiblklcfjakjmaaGreat
open Go.RowKit
def TN2_52 : TI := ⟨4, true, [Value.slice none 0 0, Value.int IntKind.i64 0, Value.int IntKind.i64 0, Value.slice none 0 0], [(0, 1, false), (1, 2, true), (3, 1, false)], none, 64, 6, none⟩
theorem TN2_52_ok : TypOk Tryz.prog 52 TN2_52 := ⟨by kernel_rfl, by kernel_rfl, by kernel_rfl, by kernel_rfl⟩
def TN2_3 : TI := ⟨1, false, [Value.int IntKind.i64 0], [], none, 8, 2, none⟩
theorem TN2_3_ok : TypOk Tryz.prog 3 TN2_3 := ⟨by kernel_rfl, by kernel_rfl, by kernel_rfl, by kernel_rfl⟩
def TN2_50 : TI := ⟨1, false, [Value.slice none 0 0], [], some 52, 24, 5, none⟩
theorem TN2_50_ok : TypOk Tryz.prog 50 TN2_50 := ⟨by kernel_rfl, by kernel_rfl, by kernel_rfl, by kernel_rfl⟩
def TN2_279 : TI := ⟨3, true, [Value.pointer none, Value.slice none 0 0, Value.int IntKind.i64 0], [(0, 1, false), (1, 1, false), (2, 1, false)], none, 40, 6, none⟩
theorem TN2_279_ok : TypOk Tryz.prog 279 TN2_279 := ⟨by kernel_rfl, by kernel_rfl, by kernel_rfl, by kernel_rfl⟩
def TN2_34 : TI := ⟨1, false, [Value.slice none 0 0], [], some 77, 24, 5, none⟩
theorem TN2_34_ok : TypOk Tryz.prog 34 TN2_34 := ⟨by kernel_rfl, by kernel_rfl, by kernel_rfl, by kernel_rfl⟩
def TN2_49 : TI := ⟨2, true, [Value.int IntKind.i64 0, Value.int IntKind.i64 0], [(0, 1, false), (1, 1, false)], none, 16, 6, none⟩
theorem TN2_49_ok : TypOk Tryz.prog 49 TN2_49 := ⟨by kernel_rfl, by kernel_rfl, by kernel_rfl, by kernel_rfl⟩
def TN2_251 : TI := ⟨1, false, [Value.pointer none], [], none, 8, 4, none⟩
theorem TN2_251_ok : TypOk Tryz.prog 251 TN2_251 := ⟨by kernel_rfl, by kernel_rfl, by kernel_rfl, by kernel_rfl⟩
def TN2_32 : TI := ⟨1, false, [Value.int IntKind.i64 0], [], none, 8, 2, none⟩
theorem TN2_32_ok : TypOk Tryz.prog 32 TN2_32 := ⟨by kernel_rfl, by kernel_rfl, by kernel_rfl, by kernel_rfl⟩
def TN2_253 : TI := ⟨3, true, [Value.pointer none, Value.int IntKind.i64 0, Value.int IntKind.i64 0], [(0, 1, false), (1, 1, false), (2, 1, false)], none, 24, 6, none⟩
theorem TN2_253_ok : TypOk Tryz.prog 253 TN2_253 := ⟨by kernel_rfl, by kernel_rfl, by kernel_rfl, by kernel_rfl⟩
def TN2_77 : TI := ⟨2, true, [Value.slice none 0 0, Value.int IntKind.i64 0], [(0, 1, false), (1, 1, false)], none, 32, 6, none⟩
theorem TN2_77_ok : TypOk Tryz.prog 77 TN2_77 := ⟨by kernel_rfl, by kernel_rfl, by kernel_rfl, by kernel_rfl⟩
def TN2 : List (Nat × TI) := [(52, TN2_52), (3, TN2_3), (50, TN2_50), (279, TN2_279), (34, TN2_34), (49, TN2_49), (251, TN2_251), (32, TN2_32), (253, TN2_253), (77, TN2_77)]
theorem TN2_ok : TabOk Tryz.prog TN2 := (((((((((((TabOk.nil _).cons TN2_77_ok).cons TN2_253_ok).cons TN2_32_ok).cons TN2_251_ok).cons TN2_49_ok).cons TN2_34_ok).cons TN2_279_ok).cons TN2_50_ok).cons TN2_3_ok).cons TN2_52_ok)

theorem spend_wk {s : Nm.St} (h : WkOk s) : 0 ≤ (Nm.spend s).2.left ∧ (Nm.spend s).2.left ≤ 1000000000 := by
  have := h.left
  unfold Nm.spend
  split
  · exact ⟨Int.le_refl _, by show (0 : Int) ≤ 1000000000; decide⟩
  · rename_i hc; dsimp only; omega
theorem fail_wk {s : Nm.St} (h : WkOk s) (c : Int) (hc : c ≠ 0) : WkOk (Nm.fail s c) := by
  unfold Nm.fail
  split
  · exact ⟨h.left, h.count, fun e => absurd e hc⟩
  · exact h
theorem unit_wk {s : Nm.St} (h : WkOk s) : WkOk (Nm.unit s).2 := by
  have h1 := h.count
  have h3 := spend_wk h
  have h4 := Nm.spend_keeps s
  unfold Nm.unit
  split
  · exact h
  · rename_i he
    have he : s.e = 0 := by simpa using he
    have h2 := h.e0 he
    split
    · rename_i hc
      exact ⟨h.left, ⟨by dsimp only; omega, by dsimp only; omega⟩, fun e => by cases e⟩
    · rename_i hc
      split <;> rename_i hs <;> rw [hs] at h3 h4 <;> simp only at h3 h4 <;> refine ⟨h3, ⟨by dsimp only; omega, by dsimp only; omega⟩, fun e => by dsimp only; omega⟩
theorem seqM_wk {g : Tm → Nm.St → Tm × Nm.St} (hg : ∀ t s, WkOk s → WkOk (g t s).2) : ∀ (l : List Tm) (s : Nm.St), WkOk s → WkOk (Nm.seqM g l s).2
  | [], _, h => h
  | t :: l, s, h => seqM_wk hg l _ (hg t s h)
theorem putW_wk {thr : Nm.Thr} (ht : ∀ xs n t ins s, WkOk s → WkOk (thr xs n t ins s).2) (t : Tm) (xs : List Tm) (s : Nm.St) (h : WkOk s) : WkOk (Nm.putW thr t xs s).2 := by
  unfold Nm.putW
  split
  · exact fail_wk h 1 (by decide)
  · exact ht _ _ _ _ _ h
theorem hit_wk {thr : Nm.Thr} (ht : ∀ xs n t ins s, WkOk s → WkOk (thr xs n t ins s).2) (xs : List Tm) (n : Nat) (t : Tm) (ins : Int) (args : List Tm) (s : Nm.St) (h : WkOk s) : WkOk (Nm.hit thr xs n t ins args s).2 := by
  unfold Nm.hit
  dsimp only
  repeat' split
  all_goals first | exact h | exact fail_wk h 1 (by decide) | exact putW_wk ht _ _ _ h
theorem through_wk (f : Nat) : ∀ xs n t ins s, WkOk s → WkOk (Nm.through f xs n t ins s).2 := by
  induction f with
  | zero => intro xs n t ins s h; exact h
  | succ f ih =>
    intro xs n t ins s h
    unfold Nm.through
    dsimp only
    split
    · exact hit_wk ih _ _ _ _ _ _ (seqM_wk (fun t s h => ih _ _ _ _ _ h) _ _ (unit_wk h))
    · exact unit_wk h

def ThrD (f : Nat) : Prop := ∀ (s : Nm.St) (xs : List Tm) (n : Nat) (t : Tm) (ins : Int), WkOk s → (s.e = 0 → 100001 - s.count ≤ f) → Wide t → (∀ a ∈ xs, Wide a) → xs.length ≤ n → n ≤ 100000 →
  CallC Tryz.prog 186 [.ag [.p 0 0, .sl 4 (eTms xs) none, .v (.int .i64 n)], .ag (eTm t), .v (.int .i64 ins)] (wkE s) (wkE (Nm.through f xs n t ins s).2) (.ag (eTm (Nm.through f xs n t ins s).1))

theorem tz_eq : eTm Nm.tz = [.sl 2 [] none, .v (.int .i64 0), .v (.int .i64 0), .sl 4 [] none] := rfl
theorem retv {T : List (Nat × TI)} {rs : List ResultVar} {V V' : D} {W σ : List (Key × D)} {e : Exit} {N : Nat} (he : e = .normal ∨ e = .ret) (h1 : resD T σ rs = some V') (hv : VLe V' V) (h2 : kW σ W) : RetOk T rs V W e σ N := ⟨he, ⟨V', h1, hv⟩, kW_all h2⟩

set_option maxHeartbeats 1000000 in
theorem put_dd {f : Nat} (hthr : ThrD f) (s : Nm.St) (hs : WkOk s) (hf : s.e = 0 → 100001 - s.count ≤ f) (t : Tm) (xs : List Tm) (ht : Wide t) (hx : ∀ a ∈ xs, Wide a) :
    CallC Tryz.prog 167 [.p 0 0, .ag (eTm t), .sl 4 (eTms xs) none] (wkE s) (wkE (Nm.put f t xs s).2) (.ag (eTm (Nm.put f t xs s).1)) := by
  obtain ⟨bs, k, i, a⟩ := t
  obtain ⟨w1, w2, w3⟩ := ht.inv
  obtain ⟨p, hp⟩ : ∃ p, Nm.put f (.mk bs k i a) xs s = p := ⟨_, rfl⟩
  rw [hp, eTm_eq]
  refine call_of_dw 2 45 [ResultVar.cell 6 52] TN2_ok (by kernel_rfl) Tryz.func167 rfl Tryz.ntmps167 rfl (by simp) ?dwords ?dbody
  case dwords => simp [wordsOk, wkE, D.ok, D.oks, rnames, inN, ckey, eTm_ok, eTms_ok, eTys_ok]
  case dbody =>
    intro cx hnt hn0
    obtain ⟨left, dry, count, er⟩ := s
    dsimp only [wkE, Tm.binds, Tm.kind, Tm.index, Tm.args]
    refine dw_seq ?_
    refine dw_k [] TN2_ok (by kernel_rfl) hnt (by kernel_rfl) (by simp only [List.size_toArray, List.length_cons, List.length_nil, Nat.reduceAdd]; rfl) ?_
    intro K hK
    refine hK _ _ ?_
    clear hK K
    refine dw_seq (dw_seq ?_)
    by_cases hc : er ≠ 0 ∨ xs.length > bs.length
    · have hp2 : p = (Nm.tz, Nm.fail ⟨left, dry, count, er⟩ 1) := by
        rw [← hp]; unfold Nm.put Nm.putW; exact if_pos hc
      have hfl := fail_d ⟨left, dry, count, er⟩ 1
      by_cases he : er = 0
      · have hl : xs.length > bs.length := hc.resolve_left (fun h => h he)
        refine dw_k [(13, .v (.bool false)), (20, .v (.bool true))] TN2_ok (by kernel_rfl) hnt (by kernel_rfl) (by simp only [List.size_toArray, List.length_cons, List.length_nil, Nat.reduceAdd]; rfl) ?_
        intro K hK
        refine And.intro (VLe.of_eq (by simp [he])) ?_
        refine And.intro (dtrue (by rw [eTms_len, eTys_len]; omega)) ?_
        refine hK _ _ ?_
        clear hK K
        refine dw_cond (t := true) rfl ?_
        rw [if_pos rfl]
        refine dw_seq ?_
        refine dw_k [] TN2_ok (by kernel_rfl) hnt (by kernel_rfl) (by simp only [List.size_toArray, List.length_cons, List.length_nil, Nat.reduceAdd]; rfl) ?_
        intro K hK
        refine ⟨_, _, _, Or.inl (hfl), by repeat first | exact trivial | refine And.intro ⟨rfl, rfl⟩ ?_, ?_⟩
        refine hK _ _ ?_
        clear hK K
        refine dw_seq ?_
        refine dw_k [] TN2_ok (by kernel_rfl) hnt (by kernel_rfl) (by simp only [List.size_toArray, List.length_cons, List.length_nil, Nat.reduceAdd]; rfl) ?_
        intro K hK
        refine hK _ _ ?_
        clear hK K
        refine dw_ret ?_
        rw [hp2, tz_eq]
        exact retv (N := 0) (.inr rfl) rfl (by repeat first | exact VLe.refl _ | exact VLe.nil _ | exact VLe.untag _ _ _ | refine VLe.ag ?_ | refine VLe.tu ?_ | refine VLeL.cons ?_ ?_ | exact VLeL.nil) (by repeat first | exact trivial | refine And.intro rfl ?_)
      · skip
        refine dw_k [(13, .v (.bool true))] TN2_ok (by kernel_rfl) hnt (by kernel_rfl) (by simp only [List.size_toArray, List.length_cons, List.length_nil, Nat.reduceAdd]; rfl) ?_
        intro K hK
        refine And.intro (VLe.of_eq (by simp [he])) ?_
        refine hK _ _ ?_
        clear hK K
        refine dw_cond (t := true) rfl ?_
        rw [if_pos rfl]
        refine dw_seq ?_
        refine dw_k [] TN2_ok (by kernel_rfl) hnt (by kernel_rfl) (by simp only [List.size_toArray, List.length_cons, List.length_nil, Nat.reduceAdd]; rfl) ?_
        intro K hK
        refine ⟨_, _, _, Or.inl (hfl), by repeat first | exact trivial | refine And.intro ⟨rfl, rfl⟩ ?_, ?_⟩
        refine hK _ _ ?_
        clear hK K
        refine dw_seq ?_
        refine dw_k [] TN2_ok (by kernel_rfl) hnt (by kernel_rfl) (by simp only [List.size_toArray, List.length_cons, List.length_nil, Nat.reduceAdd]; rfl) ?_
        intro K hK
        refine hK _ _ ?_
        clear hK K
        refine dw_ret ?_
        rw [hp2, tz_eq]
        exact retv (N := 0) (.inr rfl) rfl (by repeat first | exact VLe.refl _ | exact VLe.nil _ | exact VLe.untag _ _ _ | refine VLe.ag ?_ | refine VLe.tu ?_ | refine VLeL.cons ?_ ?_ | exact VLeL.nil) (by repeat first | exact trivial | refine And.intro rfl ?_)
    · have he : er = 0 := Decidable.byContradiction fun h => hc (.inl h)
      have hl : xs.length ≤ bs.length := by
        rcases Nat.lt_or_ge bs.length xs.length with h | h
        · exact absurd (.inr h) hc
        · exact h
      obtain ⟨r, hr⟩ : ∃ r, Nm.through f xs bs.length (.mk [] k i a) 0 ⟨left, dry, count, er⟩ = r := ⟨_, rfl⟩
      have hp2 : p = (.mk (bs.drop xs.length) r.1.kind r.1.index r.1.args, r.2) := by
        rw [← hp, ← hr]; unfold Nm.put Nm.putW; exact if_neg hc
      have hcon := hthr ⟨left, dry, count, er⟩ xs bs.length (.mk [] k i a) 0 hs hf (.mk _ _ _ _ (by simp) w2 w3) hx hl w1
      rw [hr, eTm_eq, eTm_eq] at hcon
      dsimp only [wkE, Tm.binds, Tm.kind, Tm.index, Tm.args, eTys] at hcon
      refine dw_k [(13, .v (.bool false)), (20, .v (.bool false))] TN2_ok (by kernel_rfl) hnt (by kernel_rfl) (by simp only [List.size_toArray, List.length_cons, List.length_nil, Nat.reduceAdd]; rfl) ?_
      intro K hK
      refine And.intro (VLe.of_eq (by simp [he])) ?_
      refine And.intro (dfalse (by rw [eTms_len, eTys_len]; omega)) ?_
      refine hK _ _ ?_
      clear hK K
      refine dw_cond (t := false) rfl ?_
      rw [if_neg (by simp)]
      refine dw_skip ?_
      refine dw_seq ?_
      refine dw_k [(29, .v (.int .i64 bs.length))] TN2_ok (by kernel_rfl) hnt (by kernel_rfl) (by simp only [List.size_toArray, List.length_cons, List.length_nil, Nat.reduceAdd]; rfl) ?_
      intro K hK
      refine And.intro (dintE (by rw [eTys_len])) ?_
      refine hK _ _ ?_
      clear hK K
      refine dw_seq ?_
      refine dw_k [(36, .ag [.sl 2 [] none, .v (.int .i64 k), .v (.int .i64 i), .sl 4 (eTms a) none])] TN2_ok (by kernel_rfl) hnt (by kernel_rfl) (by simp only [List.size_toArray, List.length_cons, List.length_nil, Nat.reduceAdd]; rfl) ?_
      intro K hK
      refine And.intro (by repeat first | exact VLe.refl _ | exact VLe.nil _ | exact VLe.untag _ _ _ | refine VLe.ag ?_ | refine VLe.tu ?_ | refine VLeL.cons ?_ ?_ | exact VLeL.nil) ?_
      refine ⟨_, _, _, Or.inl (hcon), by repeat first | exact trivial | refine And.intro ⟨rfl, rfl⟩ ?_, ?_⟩
      refine hK _ _ ?_
      clear hK K
      refine dw_seq ?_
      refine dw_k [(42, .sl 2 (eTys (bs.drop xs.length)) none)] TN2_ok (by kernel_rfl) hnt (by kernel_rfl) (by simp only [List.size_toArray, List.length_cons, List.length_nil, Nat.reduceAdd]; rfl) ?_
      intro K hK
      refine And.intro (⟨by omega, by rw [eTms_len, eTys_len]; omega⟩) ?_
      refine And.intro (VLe.of_eq (by simp [eTms_len, eTys_map, List.take_of_length_le])) ?_
      refine hK _ _ ?_
      clear hK K
      refine dw_seq ?_
      refine dw_k [] TN2_ok (by kernel_rfl) hnt (by kernel_rfl) (by simp only [List.size_toArray, List.length_cons, List.length_nil, Nat.reduceAdd]; rfl) ?_
      intro K hK
      refine hK _ _ ?_
      clear hK K
      refine dw_ret ?_
      rw [hp2, eTm_eq]
      exact retv (N := 0) (.inr rfl) rfl (VLe.refl _) (by repeat first | exact trivial | refine And.intro rfl ?_)
end Go.Proofs.YtiblklcfjakjmaaGreat

namespace Go.Proofs.YtiblklcfjakjmaaGreat
open Go.RowKit

def thE (s : Nm.St) (xs : List Tm) (n : Nat) (bs : List Ty) (k i : Int) (a : List Tm) (ins : Int) : List (Key × D) :=
  [(.t 2, .v (.int .i64 ins)), (.t 3, .p 2 0), (.t 4, .p 3 0), (.t 6, .p 4 0), (.t 7, .p 20 0), (.c 2 0, .p 0 0), (.c 2 1, .sl 4 (eTms xs) none), (.c 2 2, .v (.int .i64 n)), (.c 3 0, .sl 2 (eTys bs) none), (.c 3 1, .v (.int .i64 k)), (.c 3 2, .v (.int .i64 i)), (.c 3 3, .sl 4 (eTms a) none),
   (.c 4 0, .v (.slice none 0 0)), (.c 4 1, .v (.int .i64 0)), (.c 4 2, .v (.int .i64 0)), (.c 4 3, .v (.slice none 0 0)), (.c 20 0, .sl 2 (eTys bs) none), (.c 20 1, .v (.int .i64 k)), (.c 20 2, .v (.int .i64 i)),
   (.c 0 0, .o 1), (.c 0 1, .v (.int .i64 s.count)), (.c 0 2, .v (.int .i64 s.e)), (.o 1, .ob (BudJ s.left s.dry))]

set_option maxHeartbeats 4000000 in
theorem thr_step {f : Nat} (s : Nm.St) (ih : (Nm.unit s).1 = true → ThrD f) (xs : List Tm) (n : Nat) (t : Tm) (ins : Int) (hs : WkOk s) (hf : s.e = 0 → 100001 - s.count ≤ (f + 1 : Nat)) (ht : Wide t) (hx : ∀ a ∈ xs, Wide a) (hn : xs.length ≤ n) (hn2 : n ≤ 100000) :
    CallC Tryz.prog 186 [.ag [.p 0 0, .sl 4 (eTms xs) none, .v (.int .i64 n)], .ag (eTm t), .v (.int .i64 ins)] (wkE s) (wkE (Nm.through (f + 1) xs n t ins s).2) (.ag (eTm (Nm.through (f + 1) xs n t ins s).1)) := by
  obtain ⟨bs, k, i, a⟩ := t
  obtain ⟨w1, w2, w3⟩ := ht.inv
  obtain ⟨p, hp⟩ : ∃ p, Nm.through (f + 1) xs n (.mk bs k i a) ins s = p := ⟨_, rfl⟩
  have hun := unit_d s hs
  obtain ⟨hc1, hc2⟩ := Nm.unit_count s
  have hs1 := unit_wk hs
  obtain ⟨u, hu⟩ : ∃ u, Nm.unit s = u := ⟨_, rfl⟩
  have hp' : p = if u.1 = true then Nm.hit (Nm.through f) xs n (.mk bs k i a) (IntKind.i64.wrap (ins + (bs.length : Int))) (Nm.seqM (fun a s => Nm.through f xs n a (IntKind.i64.wrap (ins + (bs.length : Int))) s) a u.2).1 (Nm.seqM (fun a s => Nm.through f xs n a (IntKind.i64.wrap (ins + (bs.length : Int))) s) a u.2).2 else (Nm.tz, u.2) := by
    rw [← hp, ← hu, ← wr_wrap]; rfl
  rw [hu] at hun hc1 hc2 hs1 ih
  rw [hp, eTm_eq]
  clear hp hu
  obtain ⟨b, s1⟩ := u
  dsimp only at hun hc1 hc2 hs1 hp' ih
  refine call_of_dw 2 125 [ResultVar.cell 6 52] TN2_ok (by kernel_rfl) Tryz.func186 rfl Tryz.ntmps186 rfl (by simp) ?dwords ?dbody
  case dwords => simp [wordsOk, wkE, D.ok, D.oks, rnames, inN, ckey, eTm_ok, eTms_ok, eTys_ok]
  case dbody =>
    intro cx hnt hn0
    dsimp only [Tm.binds, Tm.kind, Tm.index, Tm.args]
    refine dw_seq ?_
    refine dw_k [] TN2_ok (by kernel_rfl) hnt (by kernel_rfl) (by simp only [List.size_toArray, List.length_cons, List.length_nil, Nat.reduceAdd]; rfl) ?_
    intro K hK
    refine hK _ _ ?_
    clear hK K
    cases b with
    | false =>
      rw [if_neg (by simp)] at hp'
      refine dw_seq (dw_seq ?_)
      refine dw_k [] TN2_ok (by kernel_rfl) hnt (by kernel_rfl) (by simp only [List.size_toArray, List.length_cons, List.length_nil, Nat.reduceAdd]; rfl) ?_
      intro K hK
      refine ⟨_, _, _, Or.inl (hun), by repeat first | exact trivial | refine And.intro ⟨rfl, rfl⟩ ?_, ?_⟩
      refine hK _ _ ?_
      clear hK K
      refine dw_cond (t := true) rfl ?_
      rw [if_pos rfl]
      refine dw_seq ?_
      refine dw_k [] TN2_ok (by kernel_rfl) hnt (by kernel_rfl) (by simp only [List.size_toArray, List.length_cons, List.length_nil, Nat.reduceAdd]; rfl) ?_
      intro K hK
      refine hK _ _ ?_
      clear hK K
      refine dw_ret ?_
      rw [hp', tz_eq]
      exact retv (N := 0) (.inr rfl) rfl (by repeat first | exact VLe.refl _ | exact VLe.nil _ | exact VLe.untag _ _ _ | refine VLe.ag ?_ | refine VLe.tu ?_ | refine VLeL.cons ?_ ?_ | exact VLeL.nil) (by repeat first | exact trivial | refine And.intro rfl ?_)
    | true =>
      rw [if_pos rfl] at hp'
      obtain ⟨hc2, he, he1⟩ := hc2 rfl
      have ih := ih rfl
      have hf1 := hf he
      clear hf hs
      refine dw_seq (dw_seq ?_)
      refine dw_k [] TN2_ok (by kernel_rfl) hnt (by kernel_rfl) (by simp only [List.size_toArray, List.length_cons, List.length_nil, Nat.reduceAdd]; rfl) ?_
      intro K hK
      refine ⟨_, _, _, Or.inl (hun), by repeat first | exact trivial | refine And.intro ⟨rfl, rfl⟩ ?_, ?_⟩
      refine hK _ _ ?_
      clear hK K
      refine dw_cond (t := false) rfl ?_
      rw [if_neg (by simp)]
      refine dw_skip ?_
      obtain ⟨m, hm⟩ : ∃ m, IntKind.i64.wrap (ins + (bs.length : Int)) = m := ⟨_, rfl⟩
      rw [hm] at hp'
      obtain ⟨g, hg⟩ : ∃ g : Tm → Nm.St → Tm × Nm.St, (fun a s => Nm.through f xs n a m s) = g := ⟨_, rfl⟩
      rw [hg] at hp'
      refine dw_seq ?_
      refine dw_k [(23, .v (.int .i64 m))] TN2_ok (by kernel_rfl) hnt (by kernel_rfl) (by simp only [List.size_toArray, List.length_cons, List.length_nil, Nat.reduceAdd]; rfl) ?_
      intro K hK
      refine And.intro (VLe.of_eq (by rw [eTys_len, hm])) ?_
      refine hK _ _ ?_
      clear hK K
      refine dw_cut (τ := (.c 20 3, .v (.slice none 0 0)) :: thE s1 xs n bs k i a m) (N1 := 21) ?_ ?_
      · skip
        refine dw_k [] TN2_ok (by kernel_rfl) hnt (by kernel_rfl) (by simp only [List.size_toArray, List.length_cons, List.length_nil, Nat.reduceAdd]; rfl) ?_
        intro K hK
        refine hK _ _ ?_
        clear hK K
        exact cut_ok (VS.toK (by first | omega | simp [hn0]) (by repeat first | exact trivial | refine And.intro (And.intro (by first | rfl | simp [D.ok, D.oks, D.okss, D.okm, eTm_ok, eTy_ok, eTys_ok, eTms_ok, upto, keyOk]) (by first | exact Or.inl rfl | exact Or.inr ⟨_, rfl, (by repeat first | exact VLe.refl _ | exact VLe.nil _ | exact VLe.untag _ _ _ | refine VLe.ag ?_ | refine VLe.tu ?_ | refine VLeL.cons ?_ ?_ | exact VLeL.nil), trivial⟩ | simp [get, Key.eq])) ?_))
      · dsimp only [thE]
        refine dw_seq ?_
        refine dw_seq ?_
        refine dw_k [(31, .v (.int .i64 a.length))] TN2_ok (by kernel_rfl) hnt (by kernel_rfl) (by simp only [List.size_toArray, List.length_cons, List.length_nil, Nat.reduceAdd]; rfl) ?_
        intro K hK
        refine And.intro (dintE (by rw [eTms_len])) ?_
        refine hK _ _ ?_
        clear hK K
        refine dw_block ?_
        refine dw_loop (ι := Nat) (fun j => (.t 30, .sl 4 (eTms a) none) :: (.t 31, .v (.int .i64 a.length)) :: (.t 32, .v (.int .i64 j)) :: (.c 20 3, .sl 4 (eTms (Nm.seqM g (a.take j) s1).1) (some 25)) :: (.r 25, .rw 52 4 j) :: thE (Nm.seqM g (a.take j) s1).2 xs n bs k i a m) 26 (fun j => a.length - j) 0 (VS.trans (VS.row (k := 20) (off := 3) 52 4 rfl) (VS.toK (by first | omega | simp [hn0]) (by repeat first | exact trivial | refine And.intro (And.intro (by first | rfl | simp [D.ok, D.oks, D.okss, D.okm, eTm_ok, eTy_ok, eTys_ok, eTms_ok, upto, keyOk]) (by first | exact Or.inl rfl | exact Or.inr ⟨_, rfl, (by repeat first | exact VLe.refl _ | exact VLe.nil _ | exact VLe.untag _ _ _ | refine VLe.ag ?_ | refine VLe.tu ?_ | refine VLeL.cons ?_ ?_ | exact VLeL.nil), trivial⟩ | simp [get, Key.eq])) ?_))) fun j => ?_
        dsimp only [thE]
        have hst : WkOk (Nm.seqM g (a.take j) s1).2 := seqM_wk (fun t s h => by rw [← hg]; exact through_wk f _ _ _ _ _ h) _ _ hs1
        have hsc : s1.count ≤ (Nm.seqM g (a.take j) s1).2.count := Nm.seqM_count (fun t s => by rw [← hg]; exact Nm.through_count f _ _ _ _ _) _ _
        have hwd : ∀ t ∈ (Nm.seqM g (a.take j) s1).1, Wide t := Nm.seqM_wide (fun t s h => by rw [← hg]; exact Nm.through_wide f _ _ _ _ _ h hx) _ (fun t h => w3 t (List.mem_of_mem_take h)) _
        have hll : (Nm.seqM g (a.take j) s1).1.length = (a.take j).length := Nm.seqM_length ..
        refine dw_seq ?_
        by_cases hlt : j < a.length
        · have hcon := ih (Nm.seqM g (a.take j) s1).2 xs n a[j] m hst (fun _ => by omega) (w3 _ (List.getElem_mem hlt)) hx hn hn2
          have hg2 : Nm.through f xs n a[j] m (Nm.seqM g (a.take j) s1).2 = g a[j] (Nm.seqM g (a.take j) s1).2 := by rw [← hg]
          rw [hg2] at hcon
          have hsq := Nm.seqM_take g a j hlt s1
          rw [eTm_eq, eTm_eq] at hcon
          refine dw_k [(33, .v (.bool true))] TN2_ok (by kernel_rfl) hnt (by kernel_rfl) (by simp only [List.size_toArray, List.length_cons, List.length_nil, Nat.reduceAdd]; rfl) ?_
          intro K hK
          refine And.intro (dtrue (by omega)) ?_
          refine hK _ _ ?_
          clear hK K
          refine dw_seq (dw_cond (t := true) rfl ?_)
          rw [if_pos rfl]
          refine dw_skip (dw_seq (dw_block (dw_seq ?_)))
          refine dw_k [(34, .q [.sl 2 (eTys a[j].binds) none, .v (.int .i64 a[j].kind), .v (.int .i64 a[j].index), .sl 4 (eTms a[j].args) none])] TN2_ok (by kernel_rfl) hnt (by kernel_rfl) (by simp only [List.size_toArray, List.length_cons, List.length_nil, Nat.reduceAdd]; rfl) ?_
          intro K hK
          refine And.intro (⟨by omega, by rw [eTms_len]; omega⟩) ?_
          refine And.intro (VLe.of_eq (by rw [Int.toNat_natCast, eTms_getD a j hlt, eTm_eq])) ?_
          refine hK _ _ ?_
          clear hK K
          refine dw_kD [(43, .sl 4 (eTms (Nm.seqM g (a.take (j + 1)) s1).1) (some 25))] TN2_ok (by kernel_rfl) hnt (by kernel_rfl) (by simp only [List.size_toArray, List.length_cons, List.length_nil, Nat.reduceAdd]; rfl) ?_
          intro K hK
          refine ⟨_, _, _, Or.inl (hcon), by repeat first | exact trivial | refine And.intro ⟨rfl, rfl⟩ ?_, ?_⟩
          refine And.intro (⟨by rw [eTms_len, hll, List.length_take]; omega, by rw [eTms_len, hll, List.length_take]; simp; omega⟩) ?_
          refine And.intro (VLe.of_eq (by rw [hsq, eTms_append, eTms, eTms, eTm_eq (g a[j] _).1])) ?_
          refine hK _ _ (by kernel_rfl) ?_
          clear hK K
          refine dw_k [(45, .v (.int .i64 ((j + 1 : Nat) : Int)))] TN2_ok (by kernel_rfl) hnt (by kernel_rfl) (by simp only [List.size_toArray, List.length_cons, List.length_nil, Nat.reduceAdd]; rfl) ?_
          intro K hK
          refine And.intro (dintE (by rw [IntWalk.i64_in _ (by omega)]; omega)) ?_
          refine hK _ _ ?_
          clear hK K
          refine ⟨j + 1, by omega, ?_⟩
          have hl2 : (eTms (Nm.seqM g (a.take j) s1).1).length = j := by rw [eTms_len, hll, List.length_take]; omega
          rw [hsq]
          exact (VS.toK (by first | omega | simp [hn0]) (by repeat first | exact trivial | refine And.intro (And.intro (by first | rfl | simp [D.ok, D.oks, D.okss, D.okm, eTm_ok, eTy_ok, eTys_ok, eTms_ok, upto, keyOk, hl2]) (by first | exact Or.inl rfl | exact Or.inr ⟨_, rfl, (by repeat first | exact VLe.refl _ | exact VLe.nil _ | exact VLe.untag _ _ _ | refine VLe.ag ?_ | refine VLe.tu ?_ | refine VLeL.cons ?_ ?_ | exact VLeL.nil), trivial⟩ | simp [get, Key.eq, hl2])) ?_))
        · rw [List.take_of_length_le (by omega)] at hst hsc hwd hll ⊢
          obtain ⟨q, hq⟩ : ∃ q, Nm.seqM g a s1 = q := ⟨_, rfl⟩
          rw [hq] at hst hsc hwd hll hp' ⊢
          clear hq
          obtain ⟨as', s2⟩ := q
          dsimp only at hst hsc hwd hll hp' ⊢
          have hen := eTms_len as'
          obtain ⟨left, dry, count, er⟩ := s2
          dsimp only at hsc hst hp' ⊢
          refine dw_k [(33, .v (.bool false))] TN2_ok (by kernel_rfl) hnt (by kernel_rfl) (by simp only [List.size_toArray, List.length_cons, List.length_nil, Nat.reduceAdd]; rfl) ?_
          intro K hK
          refine And.intro (dfalse (by omega)) ?_
          refine hK _ _ ?_
          clear hK K
          refine dw_seq (dw_cond (t := false) rfl ?_)
          rw [if_neg (by simp)]
          refine dw_exit ?_
          refine dw_seq ?_
          refine dw_seq ?_
          by_cases hk : k ≠ 0
          · have hp2 : p = (.mk bs k i as', ⟨left, dry, count, er⟩) := by
              rw [hp']; unfold Nm.hit; exact if_pos (.inl hk)
            refine dw_k [(49, .v (.bool true))] TN2_ok (by kernel_rfl) hnt (by kernel_rfl) (by simp only [List.size_toArray, List.length_cons, List.length_nil, Nat.reduceAdd]; rfl) ?_
            intro K hK
            refine And.intro (VLe.of_eq (by simp [hk])) ?_
            refine hK _ _ ?_
            clear hK K
            refine dw_cond (t := true) rfl ?_
            rw [if_pos rfl]
            refine dw_seq ?_
            refine dw_k [] TN2_ok (by kernel_rfl) hnt (by kernel_rfl) (by simp only [List.size_toArray, List.length_cons, List.length_nil, Nat.reduceAdd]; rfl) ?_
            intro K hK
            refine hK _ _ ?_
            clear hK K
            refine dw_ret ?_
            rw [hp2, eTm_eq]
            exact retv (N := 0) (.inr rfl) rfl (by repeat first | exact VLe.refl _ | exact VLe.nil _ | exact VLe.untag _ _ _ | refine VLe.ag ?_ | refine VLe.tu ?_ | refine VLeL.cons ?_ ?_ | exact VLeL.nil) (by repeat first | exact trivial | refine And.intro rfl ?_)
          · have hk : k = 0 := by simpa using hk
            by_cases hi : i < m
            · have hp2 : p = (.mk bs k i as', ⟨left, dry, count, er⟩) := by
                rw [hp']; unfold Nm.hit; exact if_pos (.inr hi)
              refine dw_k [(49, .v (.bool false)), (55, .v (.bool true))] TN2_ok (by kernel_rfl) hnt (by kernel_rfl) (by simp only [List.size_toArray, List.length_cons, List.length_nil, Nat.reduceAdd]; rfl) ?_
              intro K hK
              refine And.intro (VLe.of_eq (by simp [hk])) ?_
              refine And.intro (dtrue hi) ?_
              refine hK _ _ ?_
              clear hK K
              refine dw_cond (t := true) rfl ?_
              rw [if_pos rfl]
              refine dw_seq ?_
              refine dw_k [] TN2_ok (by kernel_rfl) hnt (by kernel_rfl) (by simp only [List.size_toArray, List.length_cons, List.length_nil, Nat.reduceAdd]; rfl) ?_
              intro K hK
              refine hK _ _ ?_
              clear hK K
              refine dw_ret ?_
              rw [hp2, eTm_eq]
              exact retv (N := 0) (.inr rfl) rfl (by repeat first | exact VLe.refl _ | exact VLe.nil _ | exact VLe.untag _ _ _ | refine VLe.ag ?_ | refine VLe.tu ?_ | refine VLeL.cons ?_ ?_ | exact VLeL.nil) (by repeat first | exact trivial | refine And.intro rfl ?_)
            · skip
              refine dw_k [(49, .v (.bool false)), (55, .v (.bool false))] TN2_ok (by kernel_rfl) hnt (by kernel_rfl) (by simp only [List.size_toArray, List.length_cons, List.length_nil, Nat.reduceAdd]; rfl) ?_
              intro K hK
              refine And.intro (VLe.of_eq (by simp [hk])) ?_
              refine And.intro (dfalse hi) ?_
              refine hK _ _ ?_
              clear hK K
              refine dw_cond (t := false) rfl ?_
              rw [if_neg (by simp)]
              refine dw_skip ?_
              obtain ⟨d, hd⟩ : ∃ d, IntKind.i64.wrap (i - m) = d := ⟨_, rfl⟩
              have hp2 : p = if d < (n : Int) - xs.length then (.mk bs k i as', ⟨left, dry, count, er⟩) else if (n : Int) ≤ d then (.mk bs k (IntKind.i64.wrap (i - xs.length)) as', ⟨left, dry, count, er⟩) else
                  let u := Nm.grown (xs.getD ((n : Int) - 1 - d).toNat Nm.tz) (IntKind.i64.wrap (IntKind.i64.wrap (m + n) - xs.length))
                  if u.binds.length ≠ as'.length then (Nm.tz, Nm.fail ⟨left, dry, count, er⟩ 1) else let r := Nm.putW (Nm.through f) u as' ⟨left, dry, count, er⟩; (.mk bs r.1.kind r.1.index r.1.args, r.2) := by
                rw [hp', ← hd, ← wr_wrap, ← wr_wrap, ← wr_wrap, ← wr_wrap]
                unfold Nm.hit
                exact if_neg (fun h => h.elim (fun h => h hk) hi)
              clear hp'
              refine dw_seq ?_
              refine dw_k [(60, .v (.int .i64 xs.length))] TN2_ok (by kernel_rfl) hnt (by kernel_rfl) (by simp only [List.size_toArray, List.length_cons, List.length_nil, Nat.reduceAdd]; rfl) ?_
              intro K hK
              refine And.intro (dintE (by rw [eTms_len])) ?_
              refine hK _ _ ?_
              clear hK K
              refine dw_seq (dw_seq ?_)
              refine dw_k [(65, .v (.int .i64 d))] TN2_ok (by kernel_rfl) hnt (by kernel_rfl) (by simp only [List.size_toArray, List.length_cons, List.length_nil, Nat.reduceAdd]; rfl) ?_
              intro K hK
              refine And.intro (dintE hd) ?_
              refine hK _ _ ?_
              clear hK K
              refine dw_block (dw_seq ?_)
              by_cases h1 : d < (n : Int) - xs.length
              · rw [if_pos h1] at hp2
                refine dw_k [(110, .v (.int .i64 ((n : Int) - xs.length))), (111, .v (.bool true))] TN2_ok (by kernel_rfl) hnt (by kernel_rfl) (by simp only [List.size_toArray, List.length_cons, List.length_nil, Nat.reduceAdd]; rfl) ?_
                intro K hK
                refine And.intro (dintE (IntWalk.i64_in _ (by omega))) ?_
                refine And.intro (dtrue h1) ?_
                refine hK _ _ ?_
                clear hK K
                refine dw_cond (t := true) rfl ?_
                rw [if_pos rfl]
                refine dw_skip ?_
                refine dw_seq ?_
                refine dw_k [] TN2_ok (by kernel_rfl) hnt (by kernel_rfl) (by simp only [List.size_toArray, List.length_cons, List.length_nil, Nat.reduceAdd]; rfl) ?_
                intro K hK
                refine hK _ _ ?_
                clear hK K
                refine dw_ret ?_
                rw [hp2, eTm_eq]
                exact retv (N := 0) (.inr rfl) rfl (by repeat first | exact VLe.refl _ | exact VLe.nil _ | exact VLe.untag _ _ _ | refine VLe.ag ?_ | refine VLe.tu ?_ | refine VLeL.cons ?_ ?_ | exact VLeL.nil) (by repeat first | exact trivial | refine And.intro rfl ?_)
              · rw [if_neg h1] at hp2
                refine dw_k [(110, .v (.int .i64 ((n : Int) - xs.length))), (111, .v (.bool false))] TN2_ok (by kernel_rfl) hnt (by kernel_rfl) (by simp only [List.size_toArray, List.length_cons, List.length_nil, Nat.reduceAdd]; rfl) ?_
                intro K hK
                refine And.intro (dintE (IntWalk.i64_in _ (by omega))) ?_
                refine And.intro (dfalse h1) ?_
                refine hK _ _ ?_
                clear hK K
                refine dw_cond (t := false) rfl ?_
                rw [if_neg (by simp)]
                refine dw_seq ?_
                by_cases h2 : (n : Int) ≤ d
                · rw [if_pos h2] at hp2
                  refine dw_k [(116, .v (.bool true))] TN2_ok (by kernel_rfl) hnt (by kernel_rfl) (by simp only [List.size_toArray, List.length_cons, List.length_nil, Nat.reduceAdd]; rfl) ?_
                  intro K hK
                  refine And.intro (dtrue h2) ?_
                  refine hK _ _ ?_
                  clear hK K
                  refine dw_cond (t := true) rfl ?_
                  rw [if_pos rfl]
                  refine dw_k [] TN2_ok (by kernel_rfl) hnt (by kernel_rfl) (by simp only [List.size_toArray, List.length_cons, List.length_nil, Nat.reduceAdd]; rfl) ?_
                  intro K hK
                  refine hK _ _ ?_
                  clear hK K
                  refine dw_seq ?_
                  refine dw_k [] TN2_ok (by kernel_rfl) hnt (by kernel_rfl) (by simp only [List.size_toArray, List.length_cons, List.length_nil, Nat.reduceAdd]; rfl) ?_
                  intro K hK
                  refine hK _ _ ?_
                  clear hK K
                  refine dw_ret ?_
                  rw [hp2, eTm_eq]
                  exact retv (N := 0) (.inr rfl) rfl (by repeat first | exact VLe.refl _ | exact VLe.nil _ | exact VLe.untag _ _ _ | refine VLe.ag ?_ | refine VLe.tu ?_ | refine VLeL.cons ?_ ?_ | exact VLeL.nil) (by repeat first | exact trivial | refine And.intro rfl ?_)
                · rw [if_neg h2] at hp2
                  refine dw_k [(116, .v (.bool false))] TN2_ok (by kernel_rfl) hnt (by kernel_rfl) (by simp only [List.size_toArray, List.length_cons, List.length_nil, Nat.reduceAdd]; rfl) ?_
                  intro K hK
                  refine And.intro (dfalse h2) ?_
                  refine hK _ _ ?_
                  clear hK K
                  refine dw_cond (t := false) rfl ?_
                  rw [if_neg (by simp)]
                  have hdx : ((n : Int) - 1 - d).toNat < xs.length := by omega
                  obtain ⟨x0, hx0⟩ : ∃ x0, xs[((n : Int) - 1 - d).toNat] = x0 := ⟨_, rfl⟩
                  have hx1 : (eTms xs).getD ((n : Int) - 1 - d).toNat [] = eTm x0 := by rw [eTms_getD xs _ hdx, hx0]
                  have hx2 : xs.getD ((n : Int) - 1 - d).toNat Nm.tz = x0 := by rw [List.getD_eq_getElem?_getD, List.getElem?_eq_getElem hdx, ← hx0]; rfl
                  have hxw : Wide x0 := hx _ (hx0 ▸ List.getElem_mem hdx)
                  obtain ⟨y, hy⟩ : ∃ y, IntKind.i64.wrap (IntKind.i64.wrap (m + n) - xs.length) = y := ⟨_, rfl⟩
                  have hgr := grown_nd x0 hxw y
                  have huw := Nm.grown_wide hxw y
                  rw [hx2, hy] at hp2
                  obtain ⟨v, hv⟩ : ∃ v, Nm.grown x0 y = v := ⟨_, rfl⟩
                  rw [hv] at hp2 hgr huw
                  dsimp only at hp2
                  rw [eTm_eq, eTm_eq] at hgr
                  refine dw_seq ?_
                  refine dw_kD [(70, .v (.int .i64 ((n : Int) - 1))), (72, .v (.int .i64 ((n : Int) - 1 - d))), (73, .q [.sl 2 (eTys x0.binds) none, .v (.int .i64 x0.kind), .v (.int .i64 x0.index), .sl 4 (eTms x0.args) none]), (80, .v (.int .i64 y))] TN2_ok (by kernel_rfl) hnt (by kernel_rfl) (by simp only [List.size_toArray, List.length_cons, List.length_nil, Nat.reduceAdd]; rfl) ?_
                  intro K hK
                  refine And.intro (dintE (IntWalk.i64_in _ (by omega))) ?_
                  refine And.intro (dintE (IntWalk.i64_in _ (by omega))) ?_
                  refine And.intro (⟨by omega, by rw [eTms_len]; omega⟩) ?_
                  refine And.intro (VLe.of_eq (by rw [hx1, eTm_eq])) ?_
                  refine And.intro (dintE hy) ?_
                  refine ⟨_, _, _, Or.inl (hgr), by repeat first | exact trivial | refine And.intro ⟨rfl, rfl⟩ ?_, ?_⟩
                  refine hK _ _ (by kernel_rfl) ?_
                  clear hK K
                  refine dw_seq (dw_seq ?_)
                  by_cases hbl : v.binds.length = as'.length
                  · rw [if_neg (by simp [hbl])] at hp2
                    have hput := put_dd ih ⟨left, dry, count, er⟩ hst (fun _ => by dsimp only; omega) v as' huw hwd
                    obtain ⟨r, hr⟩ : ∃ r, Nm.put f v as' ⟨left, dry, count, er⟩ = r := ⟨_, rfl⟩
                    have hp3 : p = (.mk bs r.1.kind r.1.index r.1.args, r.2) := by rw [hp2, ← hr]; rfl
                    rw [hr, eTm_eq, eTm_eq] at hput
                    refine dw_k [(88, .v (.bool false))] TN2_ok (by kernel_rfl) hnt (by kernel_rfl) (by simp only [List.size_toArray, List.length_cons, List.length_nil, Nat.reduceAdd]; rfl) ?_
                    intro K hK
                    refine And.intro (VLe.of_eq (by simp [eTys_len, eTms_len, hbl])) ?_
                    refine hK _ _ ?_
                    clear hK K
                    refine dw_cond (t := false) rfl ?_
                    rw [if_neg (by simp)]
                    refine dw_skip ?_
                    refine dw_seq ?_
                    refine dw_k [(97, .sl 4 (eTms as') none)] TN2_ok (by kernel_rfl) hnt (by kernel_rfl) (by simp only [List.size_toArray, List.length_cons, List.length_nil, Nat.reduceAdd]; rfl) ?_
                    intro K hK
                    refine And.intro (VLe.untag _ _ _) ?_
                    refine ⟨_, _, _, Or.inl (hput), by repeat first | exact trivial | refine And.intro ⟨rfl, rfl⟩ ?_, ?_⟩
                    refine hK _ _ ?_
                    clear hK K
                    refine dw_kD [] TN2_ok (by kernel_rfl) hnt (by kernel_rfl) (by simp only [List.size_toArray, List.length_cons, List.length_nil, Nat.reduceAdd]; rfl) ?_
                    intro K hK
                    refine hK _ _ (by kernel_rfl) ?_
                    clear hK K
                    refine dw_seq ?_
                    refine dw_k [] TN2_ok (by kernel_rfl) hnt (by kernel_rfl) (by simp only [List.size_toArray, List.length_cons, List.length_nil, Nat.reduceAdd]; rfl) ?_
                    intro K hK
                    refine hK _ _ ?_
                    clear hK K
                    refine dw_ret ?_
                    rw [hp3, eTm_eq]
                    exact retv (N := 0) (.inr rfl) rfl (by repeat first | exact VLe.refl _ | exact VLe.nil _ | exact VLe.untag _ _ _ | refine VLe.ag ?_ | refine VLe.tu ?_ | refine VLeL.cons ?_ ?_ | exact VLeL.nil) (by repeat first | exact trivial | refine And.intro rfl ?_)
                  · rw [if_pos hbl] at hp2
                    refine dw_k [(88, .v (.bool true))] TN2_ok (by kernel_rfl) hnt (by kernel_rfl) (by simp only [List.size_toArray, List.length_cons, List.length_nil, Nat.reduceAdd]; rfl) ?_
                    intro K hK
                    refine And.intro (VLe.of_eq (by simp [eTys_len, eTms_len]; omega)) ?_
                    refine hK _ _ ?_
                    clear hK K
                    refine dw_cond (t := true) rfl ?_
                    rw [if_pos rfl]
                    refine dw_seq ?_
                    refine dw_k [] TN2_ok (by kernel_rfl) hnt (by kernel_rfl) (by simp only [List.size_toArray, List.length_cons, List.length_nil, Nat.reduceAdd]; rfl) ?_
                    intro K hK
                    refine ⟨_, _, _, Or.inl (fail_d ⟨left, dry, count, er⟩ 1), by repeat first | exact trivial | refine And.intro ⟨rfl, rfl⟩ ?_, ?_⟩
                    refine hK _ _ ?_
                    clear hK K
                    refine dw_seq ?_
                    refine dw_k [] TN2_ok (by kernel_rfl) hnt (by kernel_rfl) (by simp only [List.size_toArray, List.length_cons, List.length_nil, Nat.reduceAdd]; rfl) ?_
                    intro K hK
                    refine hK _ _ ?_
                    clear hK K
                    refine dw_ret ?_
                    rw [hp2, tz_eq]
                    exact retv (N := 0) (.inr rfl) rfl (by repeat first | exact VLe.refl _ | exact VLe.nil _ | exact VLe.untag _ _ _ | refine VLe.ag ?_ | refine VLe.tu ?_ | refine VLeL.cons ?_ ?_ | exact VLeL.nil) (by repeat first | exact trivial | refine And.intro rfl ?_)
theorem thr_all (f : Nat) : ThrD f := by
  induction f with
  | zero =>
    intro s xs n t ins hs hf ht hx hn hn2
    have he : s.e ≠ 0 := fun h => by have := hf h; have := hs.e0 h; omega
    have hu : Nm.unit s = (false, s) := by unfold Nm.unit; exact if_pos he
    have h := thr_step (f := 0) s (fun h => by rw [hu] at h; cases h) xs n t ins hs (fun h => absurd h he) ht hx hn hn2
    have e : Nm.through (0 + 1) xs n t ins s = Nm.through 0 xs n t ins s := by
      unfold Nm.through; dsimp only; rw [hu]; simp
    rw [e] at h; exact h
  | succ f ih => exact fun s xs n t ins hs hf ht hx hn hn2 => thr_step s (fun _ => ih) xs n t ins hs hf ht hx hn hn2
theorem put_d (s : Nm.St) (hs : WkOk s) (t : Tm) (xs : List Tm) (ht : Wide t) (hx : ∀ a ∈ xs, Wide a) :
    CallC Tryz.prog 167 [.p 0 0, .ag (eTm t), .sl 4 (eTms xs) none] (wkE s) (wkE (Nm.put 100001 t xs s).2) (.ag (eTm (Nm.put 100001 t xs s).1)) :=
  put_dd (thr_all 100001) s hs (fun _ => by have := hs.count; omega) t xs ht hx
end Go.Proofs.YtiblklcfjakjmaaGreat

namespace Go.Proofs.YtiblklcfjakjmaaGreat
open Go.RowKit
def TN3_52 : TI := ⟨4, true, [Value.slice none 0 0, Value.int IntKind.i64 0, Value.int IntKind.i64 0, Value.slice none 0 0], [(0, 1, false), (1, 2, true), (3, 1, false)], none, 64, 6, none⟩
theorem TN3_52_ok : TypOk Tryz.prog 52 TN3_52 := ⟨by kernel_rfl, by kernel_rfl, by kernel_rfl, by kernel_rfl⟩
def TN3_32 : TI := ⟨1, false, [Value.int IntKind.i64 0], [], none, 8, 2, none⟩
theorem TN3_32_ok : TypOk Tryz.prog 32 TN3_32 := ⟨by kernel_rfl, by kernel_rfl, by kernel_rfl, by kernel_rfl⟩
def TN3_253 : TI := ⟨3, true, [Value.pointer none, Value.int IntKind.i64 0, Value.int IntKind.i64 0], [(0, 1, false), (1, 1, false), (2, 1, false)], none, 24, 6, none⟩
theorem TN3_253_ok : TypOk Tryz.prog 253 TN3_253 := ⟨by kernel_rfl, by kernel_rfl, by kernel_rfl, by kernel_rfl⟩
def TN3_251 : TI := ⟨1, false, [Value.pointer none], [], none, 8, 4, none⟩
theorem TN3_251_ok : TypOk Tryz.prog 251 TN3_251 := ⟨by kernel_rfl, by kernel_rfl, by kernel_rfl, by kernel_rfl⟩
def TN3_85 : TI := ⟨1, false, [Value.pointer none], [], none, 8, 4, none⟩
theorem TN3_85_ok : TypOk Tryz.prog 85 TN3_85 := ⟨by kernel_rfl, by kernel_rfl, by kernel_rfl, by kernel_rfl⟩
def TN3_50 : TI := ⟨1, false, [Value.slice none 0 0], [], some 52, 24, 5, none⟩
theorem TN3_50_ok : TypOk Tryz.prog 50 TN3_50 := ⟨by kernel_rfl, by kernel_rfl, by kernel_rfl, by kernel_rfl⟩
def TN3 : List (Nat × TI) := [(52, TN3_52), (32, TN3_32), (253, TN3_253), (251, TN3_251), (85, TN3_85), (50, TN3_50)]
theorem TN3_ok : TabOk Tryz.prog TN3 := (((((((TabOk.nil _).cons TN3_50_ok).cons TN3_85_ok).cons TN3_251_ok).cons TN3_253_ok).cons TN3_32_ok).cons TN3_52_ok)

structure DoneOk (t : Tm) : Prop where
  right : t.full ≤ 500000
  copy : t.size ≤ 5000 ∧ t.depth ≤ 60 → t.full ≤ 80000 ∧ t.Fit

theorem done_1 {t : Tm} (h : t.size ≤ 5000 ∧ t.depth ≤ 60) (l : Int) (d : Bool) (c : Int) : Nm.done (t, ⟨l, d, c, 0⟩) = (t, ⟨l, d, c, 0⟩) := by
  have : ¬ ((0 : Int) = 0 ∧ ¬ (t.size ≤ 5000 ∧ t.depth ≤ 60)) := fun h' => h'.2 h
  unfold Nm.done; dsimp only; rw [if_neg this]; simp
theorem done_2 {t : Tm} (h : ¬ (t.size ≤ 5000 ∧ t.depth ≤ 60)) (l : Int) (d : Bool) (c : Int) : Nm.done (t, ⟨l, d, c, 0⟩) = (Nm.tz, ⟨l, d, c, 2⟩) := by
  have : (0 : Int) = 0 ∧ ¬ (t.size ≤ 5000 ∧ t.depth ≤ 60) := ⟨rfl, h⟩
  unfold Nm.done; dsimp only; rw [if_pos this]; rfl
theorem done_3 {t : Tm} {e : Int} (h : e ≠ 0) (l : Int) (d : Bool) (c : Int) : Nm.done (t, ⟨l, d, c, e⟩) = (Nm.tz, ⟨l, d, c, e⟩) := by
  have : ¬ (e = 0 ∧ ¬ (t.size ≤ 5000 ∧ t.depth ≤ 60)) := fun h' => h h'.1
  unfold Nm.done; dsimp only; rw [if_neg this]; exact if_pos h
theorem done_d (s : Nm.St) (t : Tm) (ho : s.e = 0 → DoneOk t) : CallC Tryz.prog 166 [.p 0 0, .ag (eTm t)] (wkE s) (wkE (Nm.done (t, s)).2) (.tu [.ag (eTm (Nm.done (t, s)).1), .v (.int .i64 (Nm.done (t, s)).2.e)]) := by
  obtain ⟨left, dry, count, er⟩ := s
  obtain ⟨p, hp⟩ : ∃ p, Nm.done (t, ⟨left, dry, count, er⟩) = p := ⟨_, rfl⟩
  rw [hp]
  have hpd := hp.symm
  clear hp
  dsimp only at ho
  have hrt : er = 0 → PureC Tryz.prog 82 [.ag (eTm t)] (.v (.bool (decide (t.size ≤ 5000 ∧ t.depth ≤ 60)))) := fun h => right_d t (ho h).right
  have hcp : er = 0 → (t.size ≤ 5000 ∧ t.depth ≤ 60) → PureC Tryz.prog 61 [.ag (eTm t)] (.ag (eTm t)) := fun h h' => copy_d t ((ho h).copy h').1 ((ho h).copy h').2
  obtain ⟨bs, k, i, a⟩ := t
  refine call_of_dw 2 30 [ResultVar.cell 4 52, ResultVar.tmp 5] TN3_ok (by kernel_rfl) Tryz.func166 rfl Tryz.ntmps166 rfl (by simp) ?dwords ?dbody
  case dwords => simp [wordsOk, wkE, D.ok, D.oks, rnames, inN, ckey, eTm_ok, eTms_ok, eTys_ok]
  case dbody =>
    intro cx hnt hn0
    refine dw_seq ?_
    refine dw_k [] TN3_ok (by kernel_rfl) hnt (by kernel_rfl) (by simp only [List.size_toArray, List.length_cons, List.length_nil, Nat.reduceAdd]; rfl) ?_
    intro K hK
    refine hK _ _ ?_
    clear hK K
    refine dw_seq (dw_seq ?_)
    by_cases he : er = 0
    · subst he
      have hrt := hrt rfl
      have hcp := hcp rfl
      by_cases hR : (Tm.mk bs k i a).size ≤ 5000 ∧ (Tm.mk bs k i a).depth ≤ 60
      · have hcp := hcp hR
        rw [done_1 hR] at hpd
        subst hpd
        simp only [hR, and_self, decide_true] at hrt
        refine dw_k [(10, .v (.bool true))] TN3_ok (by kernel_rfl) hnt (by kernel_rfl) (by simp only [List.size_toArray, List.length_cons, List.length_nil, Nat.reduceAdd]; rfl) ?_
        intro K hK
        refine And.intro (VLe.refl _) ?_
        refine ⟨_, _, _, Or.inl (hrt), by repeat first | exact trivial | refine And.intro ⟨rfl, rfl⟩ ?_, ?_⟩
        refine hK _ _ ?_
        clear hK K
        refine dw_cond (t := false) rfl ?_
        rw [if_neg (by simp)]
        refine dw_skip ?_
        refine dw_seq (dw_seq ?_)
        refine dw_k [(22, .v (.bool false))] TN3_ok (by kernel_rfl) hnt (by kernel_rfl) (by simp only [List.size_toArray, List.length_cons, List.length_nil, Nat.reduceAdd]; rfl) ?_
        intro K hK
        refine And.intro (VLe.refl _) ?_
        refine hK _ _ ?_
        clear hK K
        refine dw_cond (t := false) rfl ?_
        rw [if_neg (by simp)]
        refine dw_skip ?_
        refine dw_seq ?_
        refine dw_k [] TN3_ok (by kernel_rfl) hnt (by kernel_rfl) (by simp only [List.size_toArray, List.length_cons, List.length_nil, Nat.reduceAdd]; rfl) ?_
        intro K hK
        refine ⟨_, _, _, Or.inl (hcp), by repeat first | exact trivial | refine And.intro ⟨rfl, rfl⟩ ?_, ?_⟩
        refine hK _ _ ?_
        clear hK K
        refine dw_ret ?_
        exact retv (N := 0) (.inr rfl) rfl (by repeat first | exact VLe.refl _ | exact VLe.nil _ | exact VLe.untag _ _ _ | refine VLe.ag ?_ | refine VLe.tu ?_ | refine VLeL.cons ?_ ?_ | exact VLeL.nil) (by repeat first | exact trivial | refine And.intro rfl ?_)
      · rw [done_2 hR] at hpd
        subst hpd
        have hd : decide ((Tm.mk bs k i a).size ≤ 5000 ∧ (Tm.mk bs k i a).depth ≤ 60) = false := decide_eq_false hR
        rw [hd] at hrt
        have hf : CallC _ _ _ _ (wkE ⟨left, dry, count, 2⟩) _ := fail_d ⟨left, dry, count, 0⟩ 2
        refine dw_k [(10, .v (.bool true))] TN3_ok (by kernel_rfl) hnt (by kernel_rfl) (by simp only [List.size_toArray, List.length_cons, List.length_nil, Nat.reduceAdd]; rfl) ?_
        intro K hK
        refine And.intro (VLe.refl _) ?_
        refine ⟨_, _, _, Or.inl (hrt), by repeat first | exact trivial | refine And.intro ⟨rfl, rfl⟩ ?_, ?_⟩
        refine hK _ _ ?_
        clear hK K
        refine dw_cond (t := true) rfl ?_
        rw [if_pos rfl]
        refine dw_k [] TN3_ok (by kernel_rfl) hnt (by kernel_rfl) (by simp only [List.size_toArray, List.length_cons, List.length_nil, Nat.reduceAdd]; rfl) ?_
        intro K hK
        refine ⟨_, _, _, Or.inl (hf), by repeat first | exact trivial | refine And.intro ⟨rfl, rfl⟩ ?_, ?_⟩
        refine hK _ _ ?_
        clear hK K
        refine dw_seq (dw_seq ?_)
        refine dw_k [(22, .v (.bool true))] TN3_ok (by kernel_rfl) hnt (by kernel_rfl) (by simp only [List.size_toArray, List.length_cons, List.length_nil, Nat.reduceAdd]; rfl) ?_
        intro K hK
        refine And.intro (VLe.refl _) ?_
        refine hK _ _ ?_
        clear hK K
        refine dw_cond (t := true) rfl ?_
        rw [if_pos rfl]
        refine dw_seq ?_
        refine dw_kD [] TN3_ok (by kernel_rfl) hnt (by kernel_rfl) (by simp only [List.size_toArray, List.length_cons, List.length_nil, Nat.reduceAdd]; rfl) ?_
        intro K hK
        refine hK _ _ (by kernel_rfl) ?_
        clear hK K
        refine dw_ret ?_
        rw [tz_eq]
        exact retv (N := 0) (.inr rfl) rfl (by repeat first | exact VLe.refl _ | exact VLe.nil _ | exact VLe.untag _ _ _ | refine VLe.ag ?_ | refine VLe.tu ?_ | refine VLeL.cons ?_ ?_ | exact VLeL.nil) (by repeat first | exact trivial | refine And.intro rfl ?_)
    · rw [done_3 he] at hpd
      subst hpd
      refine dw_k [(10, .v (.bool false))] TN3_ok (by kernel_rfl) hnt (by kernel_rfl) (by simp only [List.size_toArray, List.length_cons, List.length_nil, Nat.reduceAdd]; rfl) ?_
      intro K hK
      refine And.intro (dfalse he) ?_
      refine hK _ _ ?_
      clear hK K
      refine dw_cond (t := false) rfl ?_
      rw [if_neg (by simp)]
      refine dw_skip ?_
      refine dw_seq (dw_seq ?_)
      refine dw_k [(22, .v (.bool true))] TN3_ok (by kernel_rfl) hnt (by kernel_rfl) (by simp only [List.size_toArray, List.length_cons, List.length_nil, Nat.reduceAdd]; rfl) ?_
      intro K hK
      refine And.intro (VLe.of_eq (by simp [he])) ?_
      refine hK _ _ ?_
      clear hK K
      refine dw_cond (t := true) rfl ?_
      rw [if_pos rfl]
      refine dw_seq ?_
      refine dw_kD [] TN3_ok (by kernel_rfl) hnt (by kernel_rfl) (by simp only [List.size_toArray, List.length_cons, List.length_nil, Nat.reduceAdd]; rfl) ?_
      intro K hK
      refine hK _ _ (by kernel_rfl) ?_
      clear hK K
      refine dw_ret ?_
      rw [tz_eq]
      exact retv (N := 0) (.inr rfl) rfl (by repeat first | exact VLe.refl _ | exact VLe.nil _ | exact VLe.untag _ _ _ | refine VLe.ag ?_ | refine VLe.tu ?_ | refine VLeL.cons ?_ ?_ | exact VLeL.nil) (by repeat first | exact trivial | refine And.intro rfl ?_)

def wkR (kw kb : Nat) (s : Nm.St) : List (Key × D) := [(.c kw 0, .o kb), (.c kw 1, .v (.int .i64 s.count)), (.c kw 2, .v (.int .i64 s.e)), (.o kb, .ob (BudJ s.left s.dry))]
def ren2 (kw kb : Nat) : Nat → Nat := fun k => if k = 0 then kw else kb
theorem put_at (kw kb : Nat) (hk : kw ≠ kb) (s : Nm.St) (hs : WkOk s) (t : Tm) (xs : List Tm) (ht : Wide t) (hx : ∀ a ∈ xs, Wide a) :
    CallC Tryz.prog 167 [.p kw 0, .ag (eTm t), .sl 4 (eTms xs) none] (wkR kw kb s) (wkR kw kb (Nm.put 100001 t xs s).2) (.ag (eTm (Nm.put 100001 t xs s).1)) := by
  have h := (put_d s hs t xs ht hx).ren (ren2 kw kb) (by simp [renOk, wkE, D.ok, D.oks, rnames, inN, ckey, eTm_ok, eTms_ok, eTys_ok]) (by
    intro k h1 k' h2
    simp [rnames, wkE] at h1 h2
    rcases h1 with rfl | rfl <;> rcases h2 with rfl | rfl <;> simp [ren2, hk, hk.symm])
  simpa [D.ren, eTm_ren, eTms_ren, wkE, wkR, renE, Key.ren, ren2] using h
theorem done_at (kw kb : Nat) (hk : kw ≠ kb) (s : Nm.St) (t : Tm) (ho : s.e = 0 → DoneOk t) : CallC Tryz.prog 166 [.p kw 0, .ag (eTm t)] (wkR kw kb s) (wkR kw kb (Nm.done (t, s)).2) (.tu [.ag (eTm (Nm.done (t, s)).1), .v (.int .i64 (Nm.done (t, s)).2.e)]) := by
  have h := (done_d s t ho).ren (ren2 kw kb) (by simp [renOk, wkE, D.ok, D.oks, rnames, inN, ckey, eTm_ok, eTms_ok, eTys_ok]) (by
    intro k h1 k' h2
    simp [rnames, wkE] at h1 h2
    rcases h1 with rfl | rfl <;> rcases h2 with rfl | rfl <;> simp [ren2, hk, hk.symm])
  simpa [D.ren, D.rens, eTm_ren, eTms_ren, wkE, wkR, renE, Key.ren, ren2] using h
theorem Put_d (t : Tm) (xs : List Tm) (left : Int) (dry : Bool) (h0 : 0 ≤ left) (h1 : left ≤ 1000000000) (ht : Wide t) (hx : ∀ a ∈ xs, Wide a) (ho : (Nm.put 100001 t xs ⟨left, dry, 0, 0⟩).2.e = 0 → DoneOk (Nm.put 100001 t xs ⟨left, dry, 0, 0⟩).1) :
    CallC Tryz.prog 141 [.ag (eTm t), .o 1, .sl 4 (eTms xs) none] [(.o 1, .ob (BudJ left dry))] [(.o 1, .ob (BudJ (Nm.Put t xs left dry).2.left (Nm.Put t xs left dry).2.dry))] (.tu [.ag (eTm (Nm.Put t xs left dry).1), .v (.int .i64 (Nm.Put t xs left dry).2.e)]) := by
  have hput := put_at 9 1 (by decide) ⟨left, dry, 0, 0⟩ ⟨⟨h0, h1⟩, ⟨Int.le_refl 0, (by decide : (0 : Int) ≤ 100001)⟩, fun _ => (by decide : (0 : Int) ≤ 100000)⟩ t xs ht hx
  obtain ⟨q, hq⟩ : ∃ q, Nm.put 100001 t xs ⟨left, dry, 0, 0⟩ = q := ⟨_, rfl⟩
  have hP : Nm.Put t xs left dry = Nm.done (q.1, q.2) := by rw [← hq]; rfl
  rw [hq] at hput ho
  rw [hP]
  have hdone := done_at 9 1 (by decide) q.2 q.1 ho
  clear hP hq
  obtain ⟨qt, qs⟩ := q
  dsimp only at hput hdone ⊢
  obtain ⟨r, hr⟩ : ∃ r, Nm.done (qt, qs) = r := ⟨_, rfl⟩
  rw [hr] at hdone ⊢
  clear hr ho
  obtain ⟨rt, rs⟩ := r
  dsimp only at hdone ⊢
  rw [eTm_eq] at hput
  rw [eTm_eq, eTm_eq rt] at hdone
  rw [eTm_eq rt]
  rw [eTm_eq] at hput
  rw [eTm_eq]
  refine call_of_dw 2 23 [ResultVar.cell 6 52, ResultVar.tmp 7] TN3_ok (by kernel_rfl) Tryz.func141 rfl Tryz.ntmps141 rfl (by simp) ?dwords ?dbody
  case dwords => simp [wordsOk, D.ok, D.oks, rnames, inN, ckey, eTm_ok, eTms_ok, eTys_ok]
  case dbody =>
    intro cx hnt hn0
    refine dw_seq ?_
    refine dw_k [] TN3_ok (by kernel_rfl) hnt (by kernel_rfl) (by simp only [List.size_toArray, List.length_cons, List.length_nil, Nat.reduceAdd]; rfl) ?_
    intro K hK
    refine hK _ _ ?_
    clear hK K
    refine dw_seq (dw_seq ?_)
    refine dw_k [] TN3_ok (by kernel_rfl) hnt (by kernel_rfl) (by simp only [List.size_toArray, List.length_cons, List.length_nil, Nat.reduceAdd]; rfl) ?_
    intro K hK
    refine hK _ _ ?_
    clear hK K
    refine dw_cond (t := false) rfl ?_
    rw [if_neg (by simp)]
    refine dw_skip ?_
    refine dw_seq ?_
    refine dw_k [] TN3_ok (by kernel_rfl) hnt (by kernel_rfl) (by simp only [List.size_toArray, List.length_cons, List.length_nil, Nat.reduceAdd]; rfl) ?_
    intro K hK
    refine hK _ _ ?_
    clear hK K
    refine dw_seq ?_
    refine dw_k [] TN3_ok (by kernel_rfl) hnt (by kernel_rfl) (by simp only [List.size_toArray, List.length_cons, List.length_nil, Nat.reduceAdd]; rfl) ?_
    intro K hK
    refine ⟨_, _, _, Or.inl (hput), by repeat first | exact trivial | refine And.intro ⟨rfl, rfl⟩ ?_, ?_⟩
    refine ⟨_, _, _, Or.inl (hdone), by repeat first | exact trivial | refine And.intro ⟨rfl, rfl⟩ ?_, ?_⟩
    refine hK _ _ ?_
    clear hK K
    refine dw_ret ?_
    exact retv (N := 0) (.inr rfl) rfl (by repeat first | exact VLe.refl _ | exact VLe.nil _ | exact VLe.untag _ _ _ | refine VLe.ag ?_ | refine VLe.tu ?_ | refine VLeL.cons ?_ ?_ | exact VLeL.nil) (by repeat first | exact trivial | refine And.intro rfl ?_)
end Go.Proofs.YtiblklcfjakjmaaGreat

namespace Go.Proofs.YtiblklcfjakjmaaGreat
open Go.RowKit
def TS1_3 : TI := ⟨1, false, [Value.int IntKind.i64 0], [], none, 8, 2, none⟩
theorem TS1_3_ok : TypOk Tryz.prog 3 TS1_3 := ⟨by kernel_rfl, by kernel_rfl, by kernel_rfl, by kernel_rfl⟩
def TS1_99 : TI := ⟨5, true, [Value.int IntKind.i64 0, Value.slice none 0 0, Value.int IntKind.i64 0, Value.int IntKind.i64 0, Value.slice none 0 0], [(0, 1, false), (1, 4, true)], none, 72, 6, none⟩
theorem TS1_99_ok : TypOk Tryz.prog 99 TS1_99 := ⟨by kernel_rfl, by kernel_rfl, by kernel_rfl, by kernel_rfl⟩
def TS1_30 : TI := ⟨1, false, [Value.slice none 0 0], [], some 99, 24, 5, none⟩
theorem TS1_30_ok : TypOk Tryz.prog 30 TS1_30 := ⟨by kernel_rfl, by kernel_rfl, by kernel_rfl, by kernel_rfl⟩
def TS1_121 : TI := ⟨1, false, [Value.nilFunc], [], none, 8, 8, none⟩
theorem TS1_121_ok : TypOk Tryz.prog 121 TS1_121 := ⟨by kernel_rfl, by kernel_rfl, by kernel_rfl, by kernel_rfl⟩
def TS1 : List (Nat × TI) := [(3, TS1_3), (99, TS1_99), (30, TS1_30), (121, TS1_121)]
theorem TS1_ok : TabOk Tryz.prog TS1 := (((((TabOk.nil _).cons TS1_121_ok).cons TS1_30_ok).cons TS1_99_ok).cons TS1_3_ok)

def ePair (p : Int × Tm) : List D := .v (.int .i64 p.1) :: eTm p.2
def ePairs (l : List (Int × Tm)) : List (List D) := l.map ePair
theorem ePair_eq (p : Int × Tm) : ePair p = [.v (.int .i64 p.1), .sl 2 (eTys p.2.binds) none, .v (.int .i64 p.2.kind), .v (.int .i64 p.2.index), .sl 4 (eTms p.2.args) none] := by unfold ePair; rw [eTm_eq]
theorem ePairs_len (l : List (Int × Tm)) : (ePairs l).length = l.length := List.length_map ..
theorem ePairs_getD (l : List (Int × Tm)) (i : Nat) (h : i < l.length) : (ePairs l).getD i [] = ePair l[i] := by
  rw [ePairs, List.getD_eq_getElem?_getD, List.getElem?_map, List.getElem?_eq_getElem h]; rfl
theorem ePair_ok (f g : Nat → Bool) (p : Int × Tm) : D.oks f g (ePair p) = true := by simp [ePair, D.oks, D.ok, eTm_ok]
theorem ePairs_ok (f g : Nat → Bool) (l : List (Int × Tm)) : D.okss f g (ePairs l) = true := D.okss_map ePair l fun p _ => ePair_ok f g p
theorem ePairs_ren (ρ : Nat → Nat) (l : List (Int × Tm)) : D.renss ρ (ePairs l) = ePairs l := D.renss_id (f := fun _ => false) (g := fun _ => false) (fun _ h => by cases h) _ (ePairs_ok _ _ l)
def cmpI (a b : Int) : Int := if a < b then -1 else if b < a then 1 else 0

theorem isNaN_d (a : Int) : PureC Tryz.prog 132 [.v (.int .i64 a)] (.v (.bool false)) := by
  refine call_of_dw 0 6 [ResultVar.tmp 2] TS1_ok (by kernel_rfl) Tryz.func132 rfl Tryz.ntmps132 rfl (by simp) ?dwords ?dbody
  case dwords => simp [wordsOk, D.ok, D.oks, rnames]
  case dbody =>
    intro cx hnt hn0
    refine dw_seq ?_
    refine dw_k [] TS1_ok (by kernel_rfl) hnt (by kernel_rfl) (by simp only [List.size_toArray, List.length_cons, List.length_nil, Nat.reduceAdd]; rfl) ?_
    intro K hK
    refine hK _ _ ?_
    clear hK K
    refine dw_seq ?_
    refine dw_k [(5, .v (.bool false))] TS1_ok (by kernel_rfl) hnt (by kernel_rfl) (by simp only [List.size_toArray, List.length_cons, List.length_nil, Nat.reduceAdd]; rfl) ?_
    intro K hK
    refine And.intro (VLe.of_eq (by simp)) ?_
    refine hK _ _ ?_
    clear hK K
    refine dw_ret ?_
    exact retv (N := 0) (.inr rfl) rfl (VLe.refl _) trivial
theorem compare_d (a b : Int) : PureC Tryz.prog 107 [.v (.int .i64 a), .v (.int .i64 b)] (.v (.int .i64 (cmpI a b))) := by
  refine call_of_dw 0 20 [ResultVar.tmp 4] TS1_ok (by kernel_rfl) Tryz.func107 rfl Tryz.ntmps107 rfl (by simp) ?dwords ?dbody
  case dwords => simp [wordsOk, D.ok, D.oks, rnames]
  case dbody =>
    intro cx hnt hn0
    refine dw_seq ?_
    refine dw_k [] TS1_ok (by kernel_rfl) hnt (by kernel_rfl) (by simp only [List.size_toArray, List.length_cons, List.length_nil, Nat.reduceAdd]; rfl) ?_
    intro K hK
    refine hK _ _ ?_
    clear hK K
    refine dw_seq ?_
    refine dw_k [] TS1_ok (by kernel_rfl) hnt (by kernel_rfl) (by simp only [List.size_toArray, List.length_cons, List.length_nil, Nat.reduceAdd]; rfl) ?_
    intro K hK
    refine ⟨_, _, _, Or.inl (isNaN_d a), by repeat first | exact trivial | refine And.intro ⟨rfl, rfl⟩ ?_, ?_⟩
    refine hK _ _ ?_
    clear hK K
    refine dw_seq ?_
    refine dw_k [] TS1_ok (by kernel_rfl) hnt (by kernel_rfl) (by simp only [List.size_toArray, List.length_cons, List.length_nil, Nat.reduceAdd]; rfl) ?_
    intro K hK
    refine ⟨_, _, _, Or.inl (isNaN_d b), by repeat first | exact trivial | refine And.intro ⟨rfl, rfl⟩ ?_, ?_⟩
    refine hK _ _ ?_
    clear hK K
    refine dw_seq (dw_seq ?_)
    refine dw_k [] TS1_ok (by kernel_rfl) hnt (by kernel_rfl) (by simp only [List.size_toArray, List.length_cons, List.length_nil, Nat.reduceAdd]; rfl) ?_
    intro K hK
    refine hK _ _ ?_
    clear hK K
    refine dw_cond (t := false) rfl ?_
    rw [if_neg (by simp)]
    refine dw_skip ?_
    refine dw_seq (dw_seq ?_)
    refine dw_k [] TS1_ok (by kernel_rfl) hnt (by kernel_rfl) (by simp only [List.size_toArray, List.length_cons, List.length_nil, Nat.reduceAdd]; rfl) ?_
    intro K hK
    refine hK _ _ ?_
    clear hK K
    refine dw_cond (t := false) rfl ?_
    rw [if_neg (by simp)]
    refine dw_skip ?_
    refine dw_seq (dw_seq ?_)
    by_cases h1 : a < b
    · have hc : cmpI a b = -1 := if_pos h1
      rw [hc]
      refine dw_k [(16, .v (.bool true))] TS1_ok (by kernel_rfl) hnt (by kernel_rfl) (by simp only [List.size_toArray, List.length_cons, List.length_nil, Nat.reduceAdd]; rfl) ?_
      intro K hK
      refine And.intro (dtrue h1) ?_
      refine hK _ _ ?_
      clear hK K
      refine dw_cond (t := true) rfl ?_
      rw [if_pos rfl]
      refine dw_seq ?_
      refine dw_k [] TS1_ok (by kernel_rfl) hnt (by kernel_rfl) (by simp only [List.size_toArray, List.length_cons, List.length_nil, Nat.reduceAdd]; rfl) ?_
      intro K hK
      refine hK _ _ ?_
      clear hK K
      refine dw_ret ?_
      exact retv (N := 0) (.inr rfl) rfl (VLe.refl _) trivial
    · skip
      refine dw_k [(16, .v (.bool false))] TS1_ok (by kernel_rfl) hnt (by kernel_rfl) (by simp only [List.size_toArray, List.length_cons, List.length_nil, Nat.reduceAdd]; rfl) ?_
      intro K hK
      refine And.intro (dfalse h1) ?_
      refine hK _ _ ?_
      clear hK K
      refine dw_cond (t := false) rfl ?_
      rw [if_neg (by simp)]
      refine dw_skip ?_
      refine dw_seq (dw_seq ?_)
      by_cases h2 : b < a
      · have hc : cmpI a b = 1 := by unfold cmpI; rw [if_neg h1, if_pos h2]
        rw [hc]
        refine dw_k [(19, .v (.bool true))] TS1_ok (by kernel_rfl) hnt (by kernel_rfl) (by simp only [List.size_toArray, List.length_cons, List.length_nil, Nat.reduceAdd]; rfl) ?_
        intro K hK
        refine And.intro (dtrue h2) ?_
        refine hK _ _ ?_
        clear hK K
        refine dw_cond (t := true) rfl ?_
        rw [if_pos rfl]
        refine dw_seq ?_
        refine dw_k [] TS1_ok (by kernel_rfl) hnt (by kernel_rfl) (by simp only [List.size_toArray, List.length_cons, List.length_nil, Nat.reduceAdd]; rfl) ?_
        intro K hK
        refine hK _ _ ?_
        clear hK K
        refine dw_ret ?_
        exact retv (N := 0) (.inr rfl) rfl (VLe.refl _) trivial
      · have hc : cmpI a b = 0 := by unfold cmpI; rw [if_neg h1, if_neg h2]
        rw [hc]
        refine dw_k [(19, .v (.bool false))] TS1_ok (by kernel_rfl) hnt (by kernel_rfl) (by simp only [List.size_toArray, List.length_cons, List.length_nil, Nat.reduceAdd]; rfl) ?_
        intro K hK
        refine And.intro (dfalse h2) ?_
        refine hK _ _ ?_
        clear hK K
        refine dw_cond (t := false) rfl ?_
        rw [if_neg (by simp)]
        refine dw_skip ?_
        refine dw_seq ?_
        refine dw_k [] TS1_ok (by kernel_rfl) hnt (by kernel_rfl) (by simp only [List.size_toArray, List.length_cons, List.length_nil, Nat.reduceAdd]; rfl) ?_
        intro K hK
        refine hK _ _ ?_
        clear hK K
        refine dw_ret ?_
        exact retv (N := 0) (.inr rfl) rfl (VLe.refl _) trivial
theorem sorder_d (p q : Int × Tm) : PureC Tryz.prog 63 [.ag (ePair p), .ag (ePair q)] (.v (.int .i64 (cmpI p.1 q.1))) := by
  rw [ePair_eq, ePair_eq]
  refine call_of_dw 0 10 [ResultVar.tmp 4] TS1_ok (by kernel_rfl) Tryz.func63 rfl Tryz.ntmps63 rfl (by simp) ?dwords ?dbody
  case dwords => simp [wordsOk, D.ok, D.oks, rnames, eTms_ok, eTys_ok]
  case dbody =>
    intro cx hnt hn0
    refine dw_seq ?_
    refine dw_k [] TS1_ok (by kernel_rfl) hnt (by kernel_rfl) (by simp only [List.size_toArray, List.length_cons, List.length_nil, Nat.reduceAdd]; rfl) ?_
    intro K hK
    refine hK _ _ ?_
    clear hK K
    refine dw_seq ?_
    refine dw_k [] TS1_ok (by kernel_rfl) hnt (by kernel_rfl) (by simp only [List.size_toArray, List.length_cons, List.length_nil, Nat.reduceAdd]; rfl) ?_
    intro K hK
    refine ⟨_, _, _, Or.inl (compare_d p.1 q.1), by repeat first | exact trivial | refine And.intro ⟨rfl, rfl⟩ ?_, ?_⟩
    refine hK _ _ ?_
    clear hK K
    refine dw_ret ?_
    exact retv (N := 0) (.inr rfl) rfl (VLe.refl _) trivial
theorem cmpI_ge {a b : Int} : 0 ≤ cmpI a b ↔ ¬ a < b := by
  unfold cmpI
  split
  · rename_i h; simp [h]
  · rename_i h; split <;> simp [h]
theorem right_of {l : List (Int × Tm)} (h : ∀ i (_ : 0 < i) (h2 : i < l.length), (l[i - 1]'(by omega)).1 < l[i].1) : Sb.right l = true := by
  unfold Sb.right
  rw [decide_eq_true_eq, List.pairwise_iff_getElem]
  intro i j hi hj hij
  have key : ∀ d, ∀ i j (hi : i < l.length) (hj : j < l.length), j = i + d + 1 → l[i].1 < l[j].1 := by
    intro d
    induction d with
    | zero => intro i j hi hj e; subst e; have := h (i + 0 + 1) (by omega) hj; simpa using this
    | succ d ih =>
      intro i j hi hj e
      have h1 := ih i (j - 1) hi (by omega) (by omega)
      have h2 := h j (by omega) hj
      omega
  exact key (j - i - 1) i j hi hj (by omega)
theorem not_right {l : List (Int × Tm)} {i : Nat} (h1 : 0 < i) (h2 : i < l.length) (h : ¬ (l[i - 1]'(by omega)).1 < l[i].1) : Sb.right l = false := by
  unfold Sb.right
  rw [decide_eq_false_iff_not, List.pairwise_iff_getElem]
  exact fun hp => h (hp (i - 1) i (by omega) h2 (by omega))
set_option maxHeartbeats 1000000 in
theorem sright_d (l : List (Int × Tm)) (hl : l.length ≤ 1000000) : PureC Tryz.prog 25 [.sl 5 (ePairs l) none] (.v (.bool (Sb.right l))) := by
  refine call_of_dw 0 21 [ResultVar.tmp 2] TS1_ok (by kernel_rfl) Tryz.func25 rfl Tryz.ntmps25 rfl (by simp) ?dwords ?dbody
  case dwords => simp [wordsOk, D.ok, D.oks, rnames, ePairs_ok]
  case dbody =>
    intro cx hnt hn0
    refine dw_seq ?_
    refine dw_k [] TS1_ok (by kernel_rfl) hnt (by kernel_rfl) (by simp only [List.size_toArray, List.length_cons, List.length_nil, Nat.reduceAdd]; rfl) ?_
    intro K hK
    refine hK _ _ ?_
    clear hK K
    refine dw_seq (dw_seq ?_)
    refine dw_k [] TS1_ok (by kernel_rfl) hnt (by kernel_rfl) (by simp only [List.size_toArray, List.length_cons, List.length_nil, Nat.reduceAdd]; rfl) ?_
    intro K hK
    refine hK _ _ ?_
    clear hK K
    refine dw_block ?_
    refine dw_loop (ι := { j : Nat // ∀ i (_ : 0 < i) (h2 : i < l.length), i < j + 1 → (l[i - 1]'(by omega)).1 < l[i].1 }) (fun j => [(.t 0, .sl 5 (ePairs l) none), (.t 3, .v (.int .i64 ((j.1 : Int) + 1)))]) 2 (fun j => l.length - j.1) ⟨0, fun i h1 h2 h3 => by omega⟩ (VS.toK (by first | omega | simp [hn0]) (by repeat first | exact trivial | refine And.intro (And.intro (by first | rfl | simp [D.ok, D.oks, D.okss, D.okm, eTm_ok, eTy_ok, eTys_ok, eTms_ok, upto, keyOk, ePairs_ok]) (by first | exact Or.inl rfl | exact Or.inr ⟨_, rfl, (by repeat first | exact VLe.refl _ | exact VLe.nil _ | exact VLe.untag _ _ _ | refine VLe.ag ?_ | refine VLe.tu ?_ | refine VLeL.cons ?_ ?_ | exact VLeL.nil), trivial⟩ | simp [get, Key.eq, ePairs_ok])) ?_)) fun j => ?_
    obtain ⟨j, hj⟩ := j
    dsimp only
    refine dw_seq (dw_seq ?_)
    by_cases hlt : j + 1 < l.length
    · have ho := sorder_d l[j] l[j + 1]
      rw [ePair_eq, ePair_eq] at ho
      refine dw_k [(7, .v (.bool true))] TS1_ok (by kernel_rfl) hnt (by kernel_rfl) (by simp only [List.size_toArray, List.length_cons, List.length_nil, Nat.reduceAdd]; rfl) ?_
      intro K hK
      refine And.intro (dtrue (by rw [ePairs_len]; omega)) ?_
      refine hK _ _ ?_
      clear hK K
      refine dw_cond (t := true) rfl ?_
      rw [if_pos rfl]
      refine dw_skip ?_
      refine dw_seq (dw_block (dw_seq ?_))
      by_cases hc : l[j].1 < l[j + 1].1
      · skip
        refine dw_kD [(12, .v (.int .i64 (j : Int))), (13, .q [.v (.int .i64 l[j].1), .sl 2 (eTys l[j].2.binds) none, .v (.int .i64 l[j].2.kind), .v (.int .i64 l[j].2.index), .sl 4 (eTms l[j].2.args) none]), (17, .q [.v (.int .i64 l[j + 1].1), .sl 2 (eTys l[j + 1].2.binds) none, .v (.int .i64 l[j + 1].2.kind), .v (.int .i64 l[j + 1].2.index), .sl 4 (eTms l[j + 1].2.args) none]), (20, .v (.bool false))] TS1_ok (by kernel_rfl) hnt (by kernel_rfl) (by simp only [List.size_toArray, List.length_cons, List.length_nil, Nat.reduceAdd]; rfl) ?_
        intro K hK
        refine And.intro (dintE (by rw [IntWalk.i64_in _ (by omega)]; omega)) ?_
        refine And.intro (⟨by omega, by rw [ePairs_len]; omega⟩) ?_
        refine And.intro (VLe.of_eq (by rw [Int.toNat_natCast, ePairs_getD l j (by omega), ePair_eq])) ?_
        refine And.intro (⟨by omega, by rw [ePairs_len]; omega⟩) ?_
        refine And.intro (VLe.of_eq (by rw [show ((j : Int) + 1).toNat = j + 1 by omega, ePairs_getD l (j + 1) hlt, ePair_eq])) ?_
        refine ⟨_, _, _, Or.inl (ho), by repeat first | exact trivial | refine And.intro ⟨rfl, rfl⟩ ?_, ?_⟩
        refine And.intro (VLe.of_eq (by simp [cmpI_ge, hc])) ?_
        refine hK _ _ (by kernel_rfl) ?_
        clear hK K
        refine dw_cond (t := false) rfl ?_
        rw [if_neg (by simp)]
        refine dw_skip ?_
        refine dw_k [(9, .v (.int .i64 (((j + 1 : Nat) : Int) + 1)))] TS1_ok (by kernel_rfl) hnt (by kernel_rfl) (by simp only [List.size_toArray, List.length_cons, List.length_nil, Nat.reduceAdd]; rfl) ?_
        intro K hK
        refine And.intro (dintE (by rw [IntWalk.i64_in _ (by omega)]; omega)) ?_
        refine hK _ _ ?_
        clear hK K
        refine ⟨⟨j + 1, fun i h1 h2 h3 => ?_⟩, by dsimp only; omega, (VS.toK (by first | omega | simp [hn0]) (by repeat first | exact trivial | refine And.intro (And.intro (by first | rfl | simp [D.ok, D.oks, D.okss, D.okm, eTm_ok, eTy_ok, eTys_ok, eTms_ok, upto, keyOk, ePairs_ok]) (by first | exact Or.inl rfl | exact Or.inr ⟨_, rfl, (by repeat first | exact VLe.refl _ | exact VLe.nil _ | exact VLe.untag _ _ _ | refine VLe.ag ?_ | refine VLe.tu ?_ | refine VLeL.cons ?_ ?_ | exact VLeL.nil), trivial⟩ | simp [get, Key.eq, ePairs_ok])) ?_))⟩
        by_cases he : i = j + 1
        · subst he; simpa using hc
        · exact hj i h1 h2 (by omega)
      · have hr : Sb.right l = false := not_right (i := j + 1) (by omega) hlt (by simpa using hc)
        rw [hr]
        refine dw_kD [(12, .v (.int .i64 (j : Int))), (13, .q [.v (.int .i64 l[j].1), .sl 2 (eTys l[j].2.binds) none, .v (.int .i64 l[j].2.kind), .v (.int .i64 l[j].2.index), .sl 4 (eTms l[j].2.args) none]), (17, .q [.v (.int .i64 l[j + 1].1), .sl 2 (eTys l[j + 1].2.binds) none, .v (.int .i64 l[j + 1].2.kind), .v (.int .i64 l[j + 1].2.index), .sl 4 (eTms l[j + 1].2.args) none]), (20, .v (.bool true))] TS1_ok (by kernel_rfl) hnt (by kernel_rfl) (by simp only [List.size_toArray, List.length_cons, List.length_nil, Nat.reduceAdd]; rfl) ?_
        intro K hK
        refine And.intro (dintE (by rw [IntWalk.i64_in _ (by omega)]; omega)) ?_
        refine And.intro (⟨by omega, by rw [ePairs_len]; omega⟩) ?_
        refine And.intro (VLe.of_eq (by rw [Int.toNat_natCast, ePairs_getD l j (by omega), ePair_eq])) ?_
        refine And.intro (⟨by omega, by rw [ePairs_len]; omega⟩) ?_
        refine And.intro (VLe.of_eq (by rw [show ((j : Int) + 1).toNat = j + 1 by omega, ePairs_getD l (j + 1) hlt, ePair_eq])) ?_
        refine ⟨_, _, _, Or.inl (ho), by repeat first | exact trivial | refine And.intro ⟨rfl, rfl⟩ ?_, ?_⟩
        refine And.intro (VLe.of_eq (by simp [cmpI_ge, hc])) ?_
        refine hK _ _ (by kernel_rfl) ?_
        clear hK K
        refine dw_cond (t := true) rfl ?_
        rw [if_pos rfl]
        refine dw_seq ?_
        refine dw_k [] TS1_ok (by kernel_rfl) hnt (by kernel_rfl) (by simp only [List.size_toArray, List.length_cons, List.length_nil, Nat.reduceAdd]; rfl) ?_
        intro K hK
        refine hK _ _ ?_
        clear hK K
        refine dw_ret ?_
        exact retv (N := 0) (.inr rfl) rfl (VLe.refl _) trivial
    · have hr : Sb.right l = true := right_of fun i h1 h2 => hj i h1 h2 (by omega)
      rw [hr]
      refine dw_k [(7, .v (.bool false))] TS1_ok (by kernel_rfl) hnt (by kernel_rfl) (by simp only [List.size_toArray, List.length_cons, List.length_nil, Nat.reduceAdd]; rfl) ?_
      intro K hK
      refine And.intro (dfalse (by rw [ePairs_len]; omega)) ?_
      refine hK _ _ ?_
      clear hK K
      refine dw_cond (t := false) rfl ?_
      rw [if_neg (by simp)]
      refine dw_exit ?_
      refine dw_seq ?_
      refine dw_k [] TS1_ok (by kernel_rfl) hnt (by kernel_rfl) (by simp only [List.size_toArray, List.length_cons, List.length_nil, Nat.reduceAdd]; rfl) ?_
      intro K hK
      refine hK _ _ ?_
      clear hK K
      refine dw_ret ?_
      exact retv (N := 0) (.inr rfl) rfl (VLe.refl _) trivial

/-! to find a pair -/
theorem find1_d (p : Int × Tm) (m : Int) : CallC Tryz.prog 103 [.ag (ePair p), .p 0 0] [(.c 0 0, .v (.int .i64 m))] [(.c 0 0, .v (.int .i64 m))] (.v (.bool (decide (p.1 = m)))) := by
  rw [ePair_eq]
  refine call_of_dw 1 8 [ResultVar.tmp 3] TS1_ok (by kernel_rfl) Tryz.func103 rfl Tryz.ntmps103 rfl (by simp) ?dwords ?dbody
  case dwords => simp [wordsOk, D.ok, D.oks, rnames, inN, ckey, eTms_ok, eTys_ok]
  case dbody =>
    intro cx hnt hn0
    refine dw_seq ?_
    refine dw_k [] TS1_ok (by kernel_rfl) hnt (by kernel_rfl) (by simp only [List.size_toArray, List.length_cons, List.length_nil, Nat.reduceAdd]; rfl) ?_
    intro K hK
    refine hK _ _ ?_
    clear hK K
    refine dw_seq ?_
    refine dw_k [(7, .v (.bool (decide (p.1 = m))))] TS1_ok (by kernel_rfl) hnt (by kernel_rfl) (by simp only [List.size_toArray, List.length_cons, List.length_nil, Nat.reduceAdd]; rfl) ?_
    intro K hK
    refine And.intro (VLe.refl _) ?_
    refine hK _ _ ?_
    clear hK K
    refine dw_ret ?_
    exact retv (N := 0) (.inr rfl) rfl (VLe.refl _) (by repeat first | exact trivial | refine And.intro rfl ?_)
def idxOf (m : Int) : List (Int × Tm) → Option Nat
  | [] => none
  | p :: l => if p.1 = m then some 0 else (idxOf m l).map (· + 1)
theorem idxOf_some {m : Int} : ∀ {l : List (Int × Tm)} {i : Nat} (h : i < l.length), l[i].1 = m → (∀ j (h' : j < i), (l[j]'(by omega)).1 ≠ m) → idxOf m l = some i
  | p :: l, 0, h, h1, _ => by simp at h1; simp [idxOf, h1]
  | p :: l, i + 1, h, h1, h2 => by
    have h0 := h2 0 (by omega)
    simp at h0 h1
    rw [idxOf, if_neg h0, idxOf_some (i := i) (by simpa using h) h1 fun j h' => by simpa using h2 (j + 1) (by omega)]; rfl
theorem idxOf_none {m : Int} : ∀ {l : List (Int × Tm)}, (∀ j (h : j < l.length), l[j].1 ≠ m) → idxOf m l = none
  | [], _ => rfl
  | p :: l, h => by
    have h0 := h 0 (by simp)
    simp at h0
    rw [idxOf, if_neg h0, idxOf_none (l := l) fun j h' => h (j + 1) (by simpa using h')]; rfl
theorem idxOf_lt {m : Int} : ∀ {l : List (Int × Tm)} {i : Nat}, idxOf m l = some i → i < l.length
  | [], i, h => by cases h
  | p :: l, i, h => by
    rw [idxOf] at h
    split at h
    · cases h; simp
    · cases hx : idxOf m l with
      | none => rw [hx] at h; cases h
      | some j => rw [hx] at h; cases h; have := idxOf_lt hx; simpa using this
theorem find_idx (m : Int) : ∀ (l : List (Int × Tm)), Sb.find l m = (idxOf m l).bind fun i => (l[i]?).map (·.2)
  | [] => rfl
  | p :: l => by
    have ih := find_idx m l
    unfold Sb.find at ih ⊢
    rw [List.find?_cons, idxOf]
    by_cases h : p.1 = m
    · simp [h]
    · rw [if_neg h]
      simp only [beq_eq_false_iff_ne.2 h, ih]
      cases idxOf m l <;> simp
set_option maxHeartbeats 1000000 in
theorem indexFunc_d (l : List (Int × Tm)) (hl : l.length ≤ 1000000) (m : Int) : CallC Tryz.prog 102 [.sl 5 (ePairs l) none, .fn 103 [.p 0 0]] [(.c 0 0, .v (.int .i64 m))] [(.c 0 0, .v (.int .i64 m))] (.v (.int .i64 (match idxOf m l with | some i => (i : Int) | none => -1))) := by
  refine call_of_dw 1 19 [ResultVar.tmp 4] TS1_ok (by kernel_rfl) Tryz.func102 rfl Tryz.ntmps102 rfl (by simp) ?dwords ?dbody
  case dwords => simp [wordsOk, D.ok, D.oks, rnames, inN, ckey, ePairs_ok]
  case dbody =>
    intro cx hnt hn0
    refine dw_seq ?_
    refine dw_k [] TS1_ok (by kernel_rfl) hnt (by kernel_rfl) (by simp only [List.size_toArray, List.length_cons, List.length_nil, Nat.reduceAdd]; rfl) ?_
    intro K hK
    refine hK _ _ ?_
    clear hK K
    refine dw_seq (dw_seq ?_)
    refine dw_k [(7, .v (.int .i64 l.length))] TS1_ok (by kernel_rfl) hnt (by kernel_rfl) (by simp only [List.size_toArray, List.length_cons, List.length_nil, Nat.reduceAdd]; rfl) ?_
    intro K hK
    refine And.intro (dintE (by rw [ePairs_len])) ?_
    refine hK _ _ ?_
    clear hK K
    refine dw_block ?_
    refine dw_loop (ι := { j : Nat // ∀ i (h : i < l.length), i < j → l[i].1 ≠ m }) (fun j => [(.t 0, .sl 5 (ePairs l) none), (.t 1, .fn 103 [.p 0 0]), (.t 7, .v (.int .i64 l.length)), (.t 8, .v (.int .i64 (j.1 : Int))), (.c 0 0, .v (.int .i64 m))]) 2 (fun j => l.length - j.1) ⟨0, fun i h1 h2 => by omega⟩ (VS.toK (by first | omega | simp [hn0]) (by repeat first | exact trivial | refine And.intro (And.intro (by first | rfl | simp [D.ok, D.oks, D.okss, D.okm, eTm_ok, eTy_ok, eTys_ok, eTms_ok, upto, keyOk, ePairs_ok]) (by first | exact Or.inl rfl | exact Or.inr ⟨_, rfl, (by repeat first | exact VLe.refl _ | exact VLe.nil _ | exact VLe.untag _ _ _ | refine VLe.ag ?_ | refine VLe.tu ?_ | refine VLeL.cons ?_ ?_ | exact VLeL.nil), trivial⟩ | simp [get, Key.eq, ePairs_ok])) ?_)) fun j => ?_
    obtain ⟨j, hj⟩ := j
    dsimp only
    refine dw_seq ?_
    by_cases hlt : j < l.length
    · have hf := find1_d l[j] m
      rw [ePair_eq] at hf
      refine dw_k [(9, .v (.bool true))] TS1_ok (by kernel_rfl) hnt (by kernel_rfl) (by simp only [List.size_toArray, List.length_cons, List.length_nil, Nat.reduceAdd]; rfl) ?_
      intro K hK
      refine And.intro (dtrue (by omega)) ?_
      refine hK _ _ ?_
      clear hK K
      refine dw_seq (dw_cond (t := true) rfl ?_)
      rw [if_pos rfl]
      refine dw_skip (dw_seq (dw_block (dw_seq ?_)))
      refine dw_k [] TS1_ok (by kernel_rfl) hnt (by kernel_rfl) (by simp only [List.size_toArray, List.length_cons, List.length_nil, Nat.reduceAdd]; rfl) ?_
      intro K hK
      refine hK _ _ ?_
      clear hK K
      refine dw_seq ?_
      by_cases he : l[j].1 = m
      · have hi : idxOf m l = some j := idxOf_some hlt he fun i h => hj i (by omega) h
        rw [hi]
        refine dw_k [(14, .q [.v (.int .i64 l[j].1), .sl 2 (eTys l[j].2.binds) none, .v (.int .i64 l[j].2.kind), .v (.int .i64 l[j].2.index), .sl 4 (eTms l[j].2.args) none]), (16, .v (.bool true))] TS1_ok (by kernel_rfl) hnt (by kernel_rfl) (by simp only [List.size_toArray, List.length_cons, List.length_nil, Nat.reduceAdd]; rfl) ?_
        intro K hK
        refine And.intro (⟨by omega, by rw [ePairs_len]; omega⟩) ?_
        refine And.intro (VLe.of_eq (by rw [Int.toNat_natCast, ePairs_getD l j (by omega), ePair_eq])) ?_
        refine ⟨_, _, _, Or.inl (hf), by repeat first | exact trivial | refine And.intro ⟨rfl, rfl⟩ ?_, ?_⟩
        refine And.intro (dtrue he) ?_
        refine hK _ _ ?_
        clear hK K
        refine dw_cond (t := true) rfl ?_
        rw [if_pos rfl]
        refine dw_seq ?_
        refine dw_k [] TS1_ok (by kernel_rfl) hnt (by kernel_rfl) (by simp only [List.size_toArray, List.length_cons, List.length_nil, Nat.reduceAdd]; rfl) ?_
        intro K hK
        refine hK _ _ ?_
        clear hK K
        refine dw_ret ?_
        exact retv (N := 0) (.inr rfl) rfl (VLe.refl _) (by repeat first | exact trivial | refine And.intro rfl ?_)
      · skip
        refine dw_k [(14, .q [.v (.int .i64 l[j].1), .sl 2 (eTys l[j].2.binds) none, .v (.int .i64 l[j].2.kind), .v (.int .i64 l[j].2.index), .sl 4 (eTms l[j].2.args) none]), (16, .v (.bool false))] TS1_ok (by kernel_rfl) hnt (by kernel_rfl) (by simp only [List.size_toArray, List.length_cons, List.length_nil, Nat.reduceAdd]; rfl) ?_
        intro K hK
        refine And.intro (⟨by omega, by rw [ePairs_len]; omega⟩) ?_
        refine And.intro (VLe.of_eq (by rw [Int.toNat_natCast, ePairs_getD l j (by omega), ePair_eq])) ?_
        refine ⟨_, _, _, Or.inl (hf), by repeat first | exact trivial | refine And.intro ⟨rfl, rfl⟩ ?_, ?_⟩
        refine And.intro (dfalse he) ?_
        refine hK _ _ ?_
        clear hK K
        refine dw_cond (t := false) rfl ?_
        rw [if_neg (by simp)]
        refine dw_skip ?_
        refine dw_k [(18, .v (.int .i64 ((j + 1 : Nat) : Int)))] TS1_ok (by kernel_rfl) hnt (by kernel_rfl) (by simp only [List.size_toArray, List.length_cons, List.length_nil, Nat.reduceAdd]; rfl) ?_
        intro K hK
        refine And.intro (dintE (by rw [IntWalk.i64_in _ (by omega)]; omega)) ?_
        refine hK _ _ ?_
        clear hK K
        refine ⟨⟨j + 1, fun i h1 h3 => ?_⟩, by dsimp only; omega, (VS.toK (by first | omega | simp [hn0]) (by repeat first | exact trivial | refine And.intro (And.intro (by first | rfl | simp [D.ok, D.oks, D.okss, D.okm, eTm_ok, eTy_ok, eTys_ok, eTms_ok, upto, keyOk, ePairs_ok]) (by first | exact Or.inl rfl | exact Or.inr ⟨_, rfl, (by repeat first | exact VLe.refl _ | exact VLe.nil _ | exact VLe.untag _ _ _ | refine VLe.ag ?_ | refine VLe.tu ?_ | refine VLeL.cons ?_ ?_ | exact VLeL.nil), trivial⟩ | simp [get, Key.eq, ePairs_ok])) ?_))⟩
        by_cases he2 : i = j
        · subst he2; exact he
        · exact hj i h1 (by omega)
    · have hi : idxOf m l = none := idxOf_none fun i h => hj i h (by omega)
      rw [hi]
      refine dw_k [(9, .v (.bool false))] TS1_ok (by kernel_rfl) hnt (by kernel_rfl) (by simp only [List.size_toArray, List.length_cons, List.length_nil, Nat.reduceAdd]; rfl) ?_
      intro K hK
      refine And.intro (dfalse (by omega)) ?_
      refine hK _ _ ?_
      clear hK K
      refine dw_seq (dw_cond (t := false) rfl ?_)
      rw [if_neg (by simp)]
      refine dw_exit ?_
      refine dw_seq ?_
      refine dw_k [] TS1_ok (by kernel_rfl) hnt (by kernel_rfl) (by simp only [List.size_toArray, List.length_cons, List.length_nil, Nat.reduceAdd]; rfl) ?_
      intro K hK
      refine hK _ _ ?_
      clear hK K
      refine dw_ret ?_
      exact retv (N := 0) (.inr rfl) rfl (VLe.refl _) (by repeat first | exact trivial | refine And.intro rfl ?_)
theorem indexFunc_at (k : Nat) (l : List (Int × Tm)) (hl : l.length ≤ 1000000) (m : Int) : CallC Tryz.prog 102 [.sl 5 (ePairs l) none, .fn 103 [.p k 0]] [(.c k 0, .v (.int .i64 m))] [(.c k 0, .v (.int .i64 m))] (.v (.int .i64 (match idxOf m l with | some i => (i : Int) | none => -1))) := by
  have h := (indexFunc_d l hl m).ren (fun _ => k) (by simp [renOk, D.ok, D.oks, rnames, inN, ckey, ePairs_ok]) (by
    intro k h1 k' h2 _
    simp [rnames] at h1 h2
    rw [h1, h2])
  simpa [D.ren, D.rens, ePairs_ren, renE, Key.ren] using h
theorem sfind_d (l : List (Int × Tm)) (hl : l.length ≤ 1000000) (m : Int) : PureC Tryz.prog 60 [.sl 5 (ePairs l) none, .v (.int .i64 m)] (match (idxOf m l).bind fun i => l[i]? with | some p => .q (ePair p) | none => .v (.pointer none)) := by
  have hi := indexFunc_at 0 l hl m
  refine call_of_dw 0 14 [ResultVar.tmp 4] TS1_ok (by kernel_rfl) Tryz.func60 rfl Tryz.ntmps60 rfl (by simp) ?dwords ?dbody
  case dwords => (cases (idxOf m l).bind fun i => l[i]?) <;> simp [wordsOk, D.ok, D.oks, rnames, inN, ckey, ePairs_ok, ePair_ok]
  case dbody =>
    intro cx hnt hn0
    refine dw_seq ?_
    refine dw_k [] TS1_ok (by kernel_rfl) hnt (by kernel_rfl) (by simp only [List.size_toArray, List.length_cons, List.length_nil, Nat.reduceAdd]; rfl) ?_
    intro K hK
    refine hK _ _ ?_
    clear hK K
    refine dw_seq ?_
    refine dw_k [] TS1_ok (by kernel_rfl) hnt (by kernel_rfl) (by simp only [List.size_toArray, List.length_cons, List.length_nil, Nat.reduceAdd]; rfl) ?_
    intro K hK
    refine ⟨_, _, _, Or.inl (hi), by repeat first | exact trivial | refine And.intro ⟨rfl, rfl⟩ ?_, ?_⟩
    refine hK _ _ ?_
    clear hK K
    refine dw_seq (dw_seq ?_)
    cases hx : idxOf m l with
    | none =>
      refine dw_k [(10, .v (.bool true))] TS1_ok (by kernel_rfl) hnt (by kernel_rfl) (by simp only [List.size_toArray, List.length_cons, List.length_nil, Nat.reduceAdd]; rfl) ?_
      intro K hK
      refine And.intro (VLe.of_eq (by rfl)) ?_
      refine hK _ _ ?_
      clear hK K
      refine dw_cond (t := true) rfl ?_
      rw [if_pos rfl]
      refine dw_seq ?_
      refine dw_k [] TS1_ok (by kernel_rfl) hnt (by kernel_rfl) (by simp only [List.size_toArray, List.length_cons, List.length_nil, Nat.reduceAdd]; rfl) ?_
      intro K hK
      refine hK _ _ ?_
      clear hK K
      refine dw_ret ?_
      exact retv (N := 0) (.inr rfl) rfl (VLe.refl _) trivial
    | some i =>
      have hlt : i < l.length := idxOf_lt hx
      simp only [Option.bind_some, List.getElem?_eq_getElem hlt]
      refine dw_k [(10, .v (.bool false))] TS1_ok (by kernel_rfl) hnt (by kernel_rfl) (by simp only [List.size_toArray, List.length_cons, List.length_nil, Nat.reduceAdd]; rfl) ?_
      intro K hK
      refine And.intro (dfalse (by omega)) ?_
      refine hK _ _ ?_
      clear hK K
      refine dw_cond (t := false) rfl ?_
      rw [if_neg (by simp)]
      refine dw_skip ?_
      refine dw_seq ?_
      refine dw_k [(13, .q (ePair l[i]))] TS1_ok (by kernel_rfl) hnt (by kernel_rfl) (by simp only [List.size_toArray, List.length_cons, List.length_nil, Nat.reduceAdd]; rfl) ?_
      intro K hK
      refine And.intro (⟨by omega, by rw [ePairs_len]; omega⟩) ?_
      refine And.intro (VLe.of_eq (by rw [Int.toNat_natCast, ePairs_getD l i hlt])) ?_
      refine hK _ _ ?_
      clear hK K
      refine dw_ret ?_
      exact retv (N := 0) (.inr rfl) rfl (VLe.refl _) trivial
end Go.Proofs.YtiblklcfjakjmaaGreat

namespace Go.Proofs.YtiblklcfjakjmaaGreat
open Go.RowKit Go.ChangeShapes Go.WideShapes Go.ChangeAt

def rpPr : Rp (Int × Tm) where
  n := 5
  R := fun F w x p => ∃ b k i a, x = [.int .i64 p.1, b, k, i, a] ∧ IsTm F w b k i a p.2
  len := fun ⟨_, _, _, _, e, _⟩ => by rw [e]; rfl
  one := fun ⟨b, k, i, a, e, h⟩ v hv => by
    have h1 := rpTm.one (F := _) (w := _) (x := [b, k, i, a]) (a := _) ⟨b, k, i, a, rfl, h⟩
    rw [e] at hv
    rcases List.mem_cons.1 hv with rfl | hv
    · rfl
    · exact h1 v hv
  keep := fun ⟨b, k, i, a, e, h⟩ hk => ⟨b, k, i, a, e, h.keep hk⟩
  weaken := fun ⟨b, k, i, a, e, h⟩ hf => ⟨b, k, i, a, e, h.weaken hf⟩
theorem cellsPair : Tryz.prog.cellsOf 63 = 5 := by kernel_rfl
theorem five_of {α : Type} {cs : List α} (h : cs.length = 5) : ∃ a b c d e, cs = [a, b, c, d, e] := by
  match cs, h with
  | [a, b, c, d, e], _ => exact ⟨a, b, c, d, e, rfl⟩
theorem rdPr {H : Type} (enc : TypeId × Value → H) (W : World) (base : Nat) (sp : Nat → Bool) (hd : Bool) : ∀ n, Rd enc W base sp hd 63 rpPr (fun _ p => p.2.Fit ∧ -9223372036854775808 ≤ p.1 ∧ p.1 ≤ 9223372036854775807) n := by
  intro n cs x h
  obtain ⟨xs, m, rfl, rfl, hl, hlen, hf⟩ := DataW.trod_struct Tryz.underlying63 h
  rw [cellsPair] at hl
  obtain ⟨v0, v1, v2, v3, v4, rfl⟩ := five_of hl
  have h0 : DataW.trod enc Tryz.prog W base sp hd m 3 ([v0, v1, v2, v3, v4].take (Tryz.prog.cellsOf 3)) = xs[0]? := hf 0 _ rfl
  have h1 : DataW.trod enc Tryz.prog W base sp hd m 47 ([v1, v2, v3, v4].take (Tryz.prog.cellsOf 47)) = xs[1]? := hf 1 _ rfl
  rw [cellsInt] at h0
  rw [cellsTerm] at h1
  have hlen : xs.length = 2 := hlen
  rw [List.getElem?_eq_getElem (by omega)] at h0 h1
  obtain ⟨i, hi, _, hw⟩ := DataW.trod_int Tryz.underlying3 h0
  have e0 : [v0] = [.int .i64 i] := hi
  simp only [List.cons.injEq, and_true] at e0
  subst e0
  obtain ⟨t, ⟨b, k, j, a, hx, ht⟩, hfit⟩ := rdM enc W base sp hd m _ _ h1
  have e1 : [v1, v2, v3, v4] = [b, k, j, a] := hx
  simp only [List.cons.injEq, and_true] at e1
  obtain ⟨rfl, rfl, rfl, rfl⟩ := e1
  exact ⟨(i, t), ⟨_, _, _, _, rfl, ht⟩, hfit, wf_i64 hw⟩
theorem mem_of_idx {α H : Type} {l : List α} {d : DataW H} {Q : α → Prop} (h : ∀ i (h : i < l.length), ∃ x es spare, d = .slice es spare ∧ x ∈ es ∧ Q l[i]) : ∀ p ∈ l, Q p := fun p hp => by
  obtain ⟨i, hi, rfl⟩ := List.getElem_of_mem hp
  obtain ⟨_, _, _, _, _, h⟩ := h i hi
  exact h
theorem IsSl.len1 {α : Type} {r : Rp α} {F : Nat → Prop} {w : World} {v : Value} {l : List α} (h : IsSl r F w v l) : l.length ≤ 9223372036854775807 := by
  obtain ⟨a, c, bl, off, X, _, h1, _⟩ := h
  have : maxLen = 9223372036854775807 := rfl
  omega
section
variable {m : Mp} {w : World} {F : Nat → Prop}
theorem relTys {v : Value} {l : List Ty} (h : IsSl rpTy F w v l) : Rel m (cellI F w) w v (.sl 2 (eTys l) none) := by
  rw [eTys_map]
  exact rel_of_sl (r := rpTy) (e := eTy) cellI_of eTy_len (fun x t hx => by
    obtain ⟨s, b, rfl, ht⟩ := hx
    exact rel_of_ty cellI_of t ht) h
theorem relPairs {v : Value} {l : List (Int × Tm)} (h : IsSl rpPr F w v l) : Rel m (cellI F w) w v (.sl 5 (ePairs l) none) :=
  rel_of_sl (r := rpPr) (e := ePair) cellI_of (fun p => by rw [ePair_eq]; rfl) (fun x p hx => by
    obtain ⟨b, k, i, a, rfl, ht⟩ := hx
    exact ⟨.v _, rel_of_tm cellI_of p.2 ht⟩) h
theorem relWorld {cv mv : Value} {b : Int} {C M : List Ty} (h1 : IsSl rpTy F w cv C) (h2 : IsSl rpTy F w mv M) : Rel m (cellI F w) w (.agg #[.int .i64 b, cv, mv]) (.ag [.v (.int .i64 b), .sl 2 (eTys C) none, .sl 2 (eTys M) none]) :=
  rel_ag.2 ⟨[.int .i64 b, cv, mv], rfl, .v _, relTys h1, relTys h2, trivial⟩
end
theorem row_of_pure {f : FuncId} {ds : List D} (h : PureC Tryz.prog f ds (.v (.bool true))) {w : World} {vs : List Value} (hv : RelL m00 (cellI (fun _ => True) w) w vs ds) :
    Calls Tryz.prog f vs.toArray w fun e w' => e = .returned (.bool true) ∧ Below w.heap.size w w' := by
  refine (calls_of_pure h cellI_ok hv).mono ?_
  rintro e w' ⟨v, Im', rfl, h1, h2, _⟩
  have := rel_v.1 h2; subst this
  exact ⟨rfl, h1⟩
end Go.Proofs.YtiblklcfjakjmaaGreat

namespace Go.Proofs.YtiblklcfjakjmaaGreat
open Go.RowKit
def TL8_45 : TI := ⟨1, false, [Value.slice none 0 0], [], some 47, 24, 5, none⟩
theorem TL8_45_ok : TypOk Tryz.prog 45 TL8_45 := ⟨by kernel_rfl, by kernel_rfl, by kernel_rfl, by kernel_rfl⟩
def TL8_3 : TI := ⟨1, false, [Value.int IntKind.i64 0], [], none, 8, 2, none⟩
theorem TL8_3_ok : TypOk Tryz.prog 3 TL8_3 := ⟨by kernel_rfl, by kernel_rfl, by kernel_rfl, by kernel_rfl⟩
def TL8_47 : TI := ⟨4, true, [Value.slice none 0 0, Value.int IntKind.i64 0, Value.int IntKind.i64 0, Value.slice none 0 0], [(0, 1, false), (1, 2, true), (3, 1, false)], none, 64, 6, none⟩
theorem TL8_47_ok : TypOk Tryz.prog 47 TL8_47 := ⟨by kernel_rfl, by kernel_rfl, by kernel_rfl, by kernel_rfl⟩
def TL8_44 : TI := ⟨2, true, [Value.int IntKind.i64 0, Value.int IntKind.i64 0], [(0, 1, false), (1, 1, false)], none, 16, 6, none⟩
theorem TL8_44_ok : TypOk Tryz.prog 44 TL8_44 := ⟨by kernel_rfl, by kernel_rfl, by kernel_rfl, by kernel_rfl⟩
def TL8 : List (Nat × TI) := [(45, TL8_45), (3, TL8_3), (47, TL8_47), (44, TL8_44)]
theorem TL8_ok : TabOk Tryz.prog TL8 := (((((TabOk.nil _).cons TL8_44_ok).cons TL8_47_ok).cons TL8_3_ok).cons TL8_45_ok)
def TL9_30 : TI := ⟨1, false, [Value.slice none 0 0], [], some 99, 24, 5, none⟩
theorem TL9_30_ok : TypOk Tryz.prog 30 TL9_30 := ⟨by kernel_rfl, by kernel_rfl, by kernel_rfl, by kernel_rfl⟩
def TL9_3 : TI := ⟨1, false, [Value.int IntKind.i64 0], [], none, 8, 2, none⟩
theorem TL9_3_ok : TypOk Tryz.prog 3 TL9_3 := ⟨by kernel_rfl, by kernel_rfl, by kernel_rfl, by kernel_rfl⟩
def TL9_25 : TI := ⟨1, false, [Value.slice none 0 0], [], some 63, 24, 5, none⟩
theorem TL9_25_ok : TypOk Tryz.prog 25 TL9_25 := ⟨by kernel_rfl, by kernel_rfl, by kernel_rfl, by kernel_rfl⟩
def TL9_99 : TI := ⟨5, true, [Value.int IntKind.i64 0, Value.slice none 0 0, Value.int IntKind.i64 0, Value.int IntKind.i64 0, Value.slice none 0 0], [(0, 1, false), (1, 4, true)], none, 72, 6, none⟩
theorem TL9_99_ok : TypOk Tryz.prog 99 TL9_99 := ⟨by kernel_rfl, by kernel_rfl, by kernel_rfl, by kernel_rfl⟩
def TL9_52 : TI := ⟨4, true, [Value.slice none 0 0, Value.int IntKind.i64 0, Value.int IntKind.i64 0, Value.slice none 0 0], [(0, 1, false), (1, 2, true), (3, 1, false)], none, 64, 6, none⟩
theorem TL9_52_ok : TypOk Tryz.prog 52 TL9_52 := ⟨by kernel_rfl, by kernel_rfl, by kernel_rfl, by kernel_rfl⟩
def TL9_63 : TI := ⟨5, true, [Value.int IntKind.i64 0, Value.slice none 0 0, Value.int IntKind.i64 0, Value.int IntKind.i64 0, Value.slice none 0 0], [(0, 1, false), (1, 4, true)], none, 72, 6, none⟩
theorem TL9_63_ok : TypOk Tryz.prog 63 TL9_63 := ⟨by kernel_rfl, by kernel_rfl, by kernel_rfl, by kernel_rfl⟩
def TL9 : List (Nat × TI) := [(30, TL9_30), (3, TL9_3), (25, TL9_25), (99, TL9_99), (52, TL9_52), (63, TL9_63)]
theorem TL9_ok : TabOk Tryz.prog TL9 := (((((((TabOk.nil _).cons TL9_63_ok).cons TL9_52_ok).cons TL9_99_ok).cons TL9_25_ok).cons TL9_3_ok).cons TL9_30_ok)

mutual
def lowB : Tm → Bool
  | .mk _ k i a => !(decide (k = 0) && decide (900000 < i)) && lowsB a
def lowsB : List Tm → Bool
  | [] => true
  | t :: l => lowB t && lowsB l
end
theorem lowsB_all : ∀ l : List Tm, lowsB l = l.all lowB
  | [] => rfl
  | t :: l => by rw [lowsB, lowsB_all l]; rfl
theorem lowB_eq (t : Tm) : lowB t = (!(decide (t.kind = 0) && decide (900000 < t.index)) && lowsB t.args) := by cases t; rfl
theorem all_false {l : List Tm} {j : Nat} (h : j < l.length) (hf : lowB l[j] = false) : lowsB l = false := by
  rw [lowsB_all, List.all_eq_false]; exact ⟨l[j], List.getElem_mem h, by rw [hf]; simp⟩
set_option maxHeartbeats 1000000 in
theorem low_list (l : List Tm) (hl : l.length ≤ 1000000) (ih : ∀ t ∈ l, PureC Tryz.prog 50 [.sl 4 (eTms t.args) none] (.v (.bool (lowsB t.args)))) : PureC Tryz.prog 50 [.sl 4 (eTms l) none] (.v (.bool (lowsB l))) := by
  refine call_of_dw 0 35 [ResultVar.tmp 2] TL8_ok (by kernel_rfl) Tryz.func50 rfl Tryz.ntmps50 rfl (by simp) ?dwords ?dbody
  case dwords => simp [wordsOk, D.ok, D.oks, rnames, eTms_ok]
  case dbody =>
    intro cx hnt hn0
    refine dw_seq ?_
    refine dw_k [] TL8_ok (by kernel_rfl) hnt (by kernel_rfl) (by simp only [List.size_toArray, List.length_cons, List.length_nil, Nat.reduceAdd]; rfl) ?_
    intro K hK
    refine hK _ _ ?_
    clear hK K
    refine dw_seq (dw_seq ?_)
    refine dw_k [] TL8_ok (by kernel_rfl) hnt (by kernel_rfl) (by simp only [List.size_toArray, List.length_cons, List.length_nil, Nat.reduceAdd]; rfl) ?_
    intro K hK
    refine hK _ _ ?_
    clear hK K
    refine dw_block ?_
    refine dw_loop (ι := { j : Nat // ∀ i (h : i < l.length), i < j → lowB l[i] = true }) (fun j => [(.t 0, .sl 4 (eTms l) none), (.t 3, .v (.int .i64 (j.1 : Int)))]) 1 (fun j => l.length - j.1) ⟨0, fun i h1 h2 => by omega⟩ (VS.toK (by first | omega | simp [hn0]) (by repeat first | exact trivial | refine And.intro (And.intro (by first | rfl | simp [D.ok, D.oks, D.okss, D.okm, eTm_ok, eTy_ok, eTys_ok, eTms_ok, upto, keyOk]) (by first | exact Or.inl rfl | exact Or.inr ⟨_, rfl, (by repeat first | exact VLe.refl _ | exact VLe.nil _ | exact VLe.untag _ _ _ | refine VLe.ag ?_ | refine VLe.tu ?_ | refine VLeL.cons ?_ ?_ | exact VLeL.nil), trivial⟩ | simp [get, Key.eq])) ?_)) fun j => ?_
    obtain ⟨j, hj⟩ := j
    dsimp only
    refine dw_seq (dw_seq ?_)
    by_cases hlt : j < l.length
    · have hi := ih l[j] (List.getElem_mem hlt)
      have hlo := lowB_eq l[j]
      refine dw_k [(7, .v (.bool true))] TL8_ok (by kernel_rfl) hnt (by kernel_rfl) (by simp only [List.size_toArray, List.length_cons, List.length_nil, Nat.reduceAdd]; rfl) ?_
      intro K hK
      refine And.intro (dtrue (by rw [eTms_len]; omega)) ?_
      refine hK _ _ ?_
      clear hK K
      refine dw_cond (t := true) rfl ?_
      rw [if_pos rfl]
      refine dw_skip ?_
      refine dw_seq (dw_block (dw_seq ?_))
      have hq : (eTms l).getD (j : Int).toNat [] = [.sl 2 (eTys l[j].binds) none, .v (.int .i64 l[j].kind), .v (.int .i64 l[j].index), .sl 4 (eTms l[j].args) none] := by rw [Int.toNat_natCast, eTms_getD l j hlt, eTm_eq]
      have hb : (0 : Int) ≤ (j : Int) ∧ (j : Int) < ((eTms l).length : Int) := ⟨by omega, by rw [eTms_len]; omega⟩
      have hret : lowB l[j] = false → ∀ σ N, DW Tryz.prog cx (.ret) σ N (RetOk TL8 [ResultVar.tmp 2] (.v (.bool (lowsB l))) []) → True := fun _ _ _ _ => trivial
      by_cases hk : l[j].kind = 0
      · by_cases hx : 900000 < l[j].index
        · have hf : lowsB l = false := all_false hlt (by rw [hlo]; simp [hk, hx])
          rw [hf]
          refine dw_k [(12, .q [.sl 2 (eTys l[j].binds) none, .v (.int .i64 l[j].kind), .v (.int .i64 l[j].index), .sl 4 (eTms l[j].args) none]), (16, .v (.bool true)), (20, .q [.sl 2 (eTys l[j].binds) none, .v (.int .i64 l[j].kind), .v (.int .i64 l[j].index), .sl 4 (eTms l[j].args) none]), (24, .v (.bool true))] TL8_ok (by kernel_rfl) hnt (by kernel_rfl) (by simp only [List.size_toArray, List.length_cons, List.length_nil, Nat.reduceAdd]; rfl) ?_
          intro K hK
          refine And.intro (hb) ?_
          refine And.intro (VLe.of_eq (by rw [hq])) ?_
          refine And.intro (VLe.of_eq (by simp [hk])) ?_
          refine And.intro (hb) ?_
          refine And.intro (VLe.of_eq (by rw [hq])) ?_
          refine And.intro (dtrue hx) ?_
          refine hK _ _ ?_
          clear hK K
          refine dw_cond (t := true) rfl ?_
          rw [if_pos rfl]
          refine dw_seq ?_
          refine dw_k [] TL8_ok (by kernel_rfl) hnt (by kernel_rfl) (by simp only [List.size_toArray, List.length_cons, List.length_nil, Nat.reduceAdd]; rfl) ?_
          intro K hK
          refine hK _ _ ?_
          clear hK K
          refine dw_ret ?_
          exact retv (N := 0) (.inr rfl) rfl (VLe.refl _) trivial
        · cases hla : lowsB l[j].args with
          | false =>
            have hf : lowsB l = false := all_false hlt (by rw [hlo, hla]; simp)
            rw [hf]
            rw [hla] at hi
            refine dw_k [(12, .q [.sl 2 (eTys l[j].binds) none, .v (.int .i64 l[j].kind), .v (.int .i64 l[j].index), .sl 4 (eTms l[j].args) none]), (16, .v (.bool true)), (20, .q [.sl 2 (eTys l[j].binds) none, .v (.int .i64 l[j].kind), .v (.int .i64 l[j].index), .sl 4 (eTms l[j].args) none]), (24, .v (.bool false)), (29, .q [.sl 2 (eTys l[j].binds) none, .v (.int .i64 l[j].kind), .v (.int .i64 l[j].index), .sl 4 (eTms l[j].args) none])] TL8_ok (by kernel_rfl) hnt (by kernel_rfl) (by simp only [List.size_toArray, List.length_cons, List.length_nil, Nat.reduceAdd]; rfl) ?_
            intro K hK
            refine And.intro (hb) ?_
            refine And.intro (VLe.of_eq (by rw [hq])) ?_
            refine And.intro (VLe.of_eq (by simp [hk])) ?_
            refine And.intro (hb) ?_
            refine And.intro (VLe.of_eq (by rw [hq])) ?_
            refine And.intro (dfalse hx) ?_
            refine And.intro (hb) ?_
            refine And.intro (VLe.of_eq (by rw [hq])) ?_
            refine ⟨_, _, _, Or.inl (hi), by repeat first | exact trivial | refine And.intro ⟨rfl, rfl⟩ ?_, ?_⟩
            refine hK _ _ ?_
            clear hK K
            refine dw_cond (t := true) rfl ?_
            rw [if_pos rfl]
            refine dw_seq ?_
            refine dw_k [] TL8_ok (by kernel_rfl) hnt (by kernel_rfl) (by simp only [List.size_toArray, List.length_cons, List.length_nil, Nat.reduceAdd]; rfl) ?_
            intro K hK
            refine hK _ _ ?_
            clear hK K
            refine dw_ret ?_
            exact retv (N := 0) (.inr rfl) rfl (VLe.refl _) trivial
          | true =>
            rw [hla] at hi
            refine dw_k [(12, .q [.sl 2 (eTys l[j].binds) none, .v (.int .i64 l[j].kind), .v (.int .i64 l[j].index), .sl 4 (eTms l[j].args) none]), (16, .v (.bool true)), (20, .q [.sl 2 (eTys l[j].binds) none, .v (.int .i64 l[j].kind), .v (.int .i64 l[j].index), .sl 4 (eTms l[j].args) none]), (24, .v (.bool false)), (29, .q [.sl 2 (eTys l[j].binds) none, .v (.int .i64 l[j].kind), .v (.int .i64 l[j].index), .sl 4 (eTms l[j].args) none])] TL8_ok (by kernel_rfl) hnt (by kernel_rfl) (by simp only [List.size_toArray, List.length_cons, List.length_nil, Nat.reduceAdd]; rfl) ?_
            intro K hK
            refine And.intro (hb) ?_
            refine And.intro (VLe.of_eq (by rw [hq])) ?_
            refine And.intro (VLe.of_eq (by simp [hk])) ?_
            refine And.intro (hb) ?_
            refine And.intro (VLe.of_eq (by rw [hq])) ?_
            refine And.intro (dfalse hx) ?_
            refine And.intro (hb) ?_
            refine And.intro (VLe.of_eq (by rw [hq])) ?_
            refine ⟨_, _, _, Or.inl (hi), by repeat first | exact trivial | refine And.intro ⟨rfl, rfl⟩ ?_, ?_⟩
            refine hK _ _ ?_
            clear hK K
            refine dw_cond (t := false) rfl ?_
            rw [if_neg (by simp)]
            refine dw_skip ?_
            refine dw_k [(9, .v (.int .i64 ((j + 1 : Nat) : Int)))] TL8_ok (by kernel_rfl) hnt (by kernel_rfl) (by simp only [List.size_toArray, List.length_cons, List.length_nil, Nat.reduceAdd]; rfl) ?_
            intro K hK
            refine And.intro (dintE (by rw [IntWalk.i64_in _ (by omega)]; omega)) ?_
            refine hK _ _ ?_
            clear hK K
            refine ⟨⟨j + 1, fun i h1 h2 => ?_⟩, by dsimp only; omega, (VS.toK (by first | omega | simp [hn0]) (by repeat first | exact trivial | refine And.intro (And.intro (by first | rfl | simp [D.ok, D.oks, D.okss, D.okm, eTm_ok, eTy_ok, eTys_ok, eTms_ok, upto, keyOk]) (by first | exact Or.inl rfl | exact Or.inr ⟨_, rfl, (by repeat first | exact VLe.refl _ | exact VLe.nil _ | exact VLe.untag _ _ _ | refine VLe.ag ?_ | refine VLe.tu ?_ | refine VLeL.cons ?_ ?_ | exact VLeL.nil), trivial⟩ | simp [get, Key.eq])) ?_))⟩
            by_cases he : i = j
            · subst he; rw [hlo, hla]; simp [hx]
            · exact hj i h1 (by omega)
      · cases hla : lowsB l[j].args with
        | false =>
          have hf : lowsB l = false := all_false hlt (by rw [hlo, hla]; simp)
          rw [hf]
          rw [hla] at hi
          refine dw_k [(12, .q [.sl 2 (eTys l[j].binds) none, .v (.int .i64 l[j].kind), .v (.int .i64 l[j].index), .sl 4 (eTms l[j].args) none]), (16, .v (.bool false)), (29, .q [.sl 2 (eTys l[j].binds) none, .v (.int .i64 l[j].kind), .v (.int .i64 l[j].index), .sl 4 (eTms l[j].args) none])] TL8_ok (by kernel_rfl) hnt (by kernel_rfl) (by simp only [List.size_toArray, List.length_cons, List.length_nil, Nat.reduceAdd]; rfl) ?_
          intro K hK
          refine And.intro (hb) ?_
          refine And.intro (VLe.of_eq (by rw [hq])) ?_
          refine And.intro (VLe.of_eq (by simp [hk])) ?_
          refine And.intro (hb) ?_
          refine And.intro (VLe.of_eq (by rw [hq])) ?_
          refine ⟨_, _, _, Or.inl (hi), by repeat first | exact trivial | refine And.intro ⟨rfl, rfl⟩ ?_, ?_⟩
          refine hK _ _ ?_
          clear hK K
          refine dw_cond (t := true) rfl ?_
          rw [if_pos rfl]
          refine dw_seq ?_
          refine dw_k [] TL8_ok (by kernel_rfl) hnt (by kernel_rfl) (by simp only [List.size_toArray, List.length_cons, List.length_nil, Nat.reduceAdd]; rfl) ?_
          intro K hK
          refine hK _ _ ?_
          clear hK K
          refine dw_ret ?_
          exact retv (N := 0) (.inr rfl) rfl (VLe.refl _) trivial
        | true =>
          rw [hla] at hi
          refine dw_k [(12, .q [.sl 2 (eTys l[j].binds) none, .v (.int .i64 l[j].kind), .v (.int .i64 l[j].index), .sl 4 (eTms l[j].args) none]), (16, .v (.bool false)), (29, .q [.sl 2 (eTys l[j].binds) none, .v (.int .i64 l[j].kind), .v (.int .i64 l[j].index), .sl 4 (eTms l[j].args) none])] TL8_ok (by kernel_rfl) hnt (by kernel_rfl) (by simp only [List.size_toArray, List.length_cons, List.length_nil, Nat.reduceAdd]; rfl) ?_
          intro K hK
          refine And.intro (hb) ?_
          refine And.intro (VLe.of_eq (by rw [hq])) ?_
          refine And.intro (VLe.of_eq (by simp [hk])) ?_
          refine And.intro (hb) ?_
          refine And.intro (VLe.of_eq (by rw [hq])) ?_
          refine ⟨_, _, _, Or.inl (hi), by repeat first | exact trivial | refine And.intro ⟨rfl, rfl⟩ ?_, ?_⟩
          refine hK _ _ ?_
          clear hK K
          refine dw_cond (t := false) rfl ?_
          rw [if_neg (by simp)]
          refine dw_skip ?_
          refine dw_k [(9, .v (.int .i64 ((j + 1 : Nat) : Int)))] TL8_ok (by kernel_rfl) hnt (by kernel_rfl) (by simp only [List.size_toArray, List.length_cons, List.length_nil, Nat.reduceAdd]; rfl) ?_
          intro K hK
          refine And.intro (dintE (by rw [IntWalk.i64_in _ (by omega)]; omega)) ?_
          refine hK _ _ ?_
          clear hK K
          refine ⟨⟨j + 1, fun i h1 h2 => ?_⟩, by dsimp only; omega, (VS.toK (by first | omega | simp [hn0]) (by repeat first | exact trivial | refine And.intro (And.intro (by first | rfl | simp [D.ok, D.oks, D.okss, D.okm, eTm_ok, eTy_ok, eTys_ok, eTms_ok, upto, keyOk]) (by first | exact Or.inl rfl | exact Or.inr ⟨_, rfl, (by repeat first | exact VLe.refl _ | exact VLe.nil _ | exact VLe.untag _ _ _ | refine VLe.ag ?_ | refine VLe.tu ?_ | refine VLeL.cons ?_ ?_ | exact VLeL.nil), trivial⟩ | simp [get, Key.eq])) ?_))⟩
          by_cases he : i = j
          · subst he; rw [hlo, hla]; simp [hk]
          · exact hj i h1 (by omega)
    · have hf : lowsB l = true := by
        rw [lowsB_all, List.all_eq_true]
        intro t ht
        obtain ⟨i, hi, rfl⟩ := List.getElem_of_mem ht
        exact hj i hi (by omega)
      rw [hf]
      refine dw_k [(7, .v (.bool false))] TL8_ok (by kernel_rfl) hnt (by kernel_rfl) (by simp only [List.size_toArray, List.length_cons, List.length_nil, Nat.reduceAdd]; rfl) ?_
      intro K hK
      refine And.intro (dfalse (by rw [eTms_len]; omega)) ?_
      refine hK _ _ ?_
      clear hK K
      refine dw_cond (t := false) rfl ?_
      rw [if_neg (by simp)]
      refine dw_exit ?_
      refine dw_seq ?_
      refine dw_k [] TL8_ok (by kernel_rfl) hnt (by kernel_rfl) (by simp only [List.size_toArray, List.length_cons, List.length_nil, Nat.reduceAdd]; rfl) ?_
      intro K hK
      refine hK _ _ ?_
      clear hK K
      refine dw_ret ?_
      exact retv (N := 0) (.inr rfl) rfl (VLe.refl _) trivial
theorem low_args : ∀ (t : Tm), Wide t → PureC Tryz.prog 50 [.sl 4 (eTms t.args) none] (.v (.bool (lowsB t.args))) := by
  intro t
  induction t using Tm.ind with
  | h bs k i a ih =>
    intro hw
    obtain ⟨_, w2, w3⟩ := hw.inv
    exact low_list a (by omega) fun u hu => ih u hu (w3 u hu)
theorem low_d (l : List Tm) (hl : l.length ≤ 1000000) (hw : ∀ t ∈ l, Wide t) : PureC Tryz.prog 50 [.sl 4 (eTms l) none] (.v (.bool (lowsB l))) := low_list l hl fun t ht => low_args t (hw t ht)
end Go.Proofs.YtiblklcfjakjmaaGreat

