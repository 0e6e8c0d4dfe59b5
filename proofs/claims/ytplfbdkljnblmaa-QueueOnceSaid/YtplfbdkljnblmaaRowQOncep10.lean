/-
  Queue.Put: one more. queue.New, Len, Taken; and what a nil queue answers.
-/
import Derived.Test.YtplfbdkljnblmaaRowQOncep9
set_option linter.unusedVariables false
set_option linter.unusedSimpArgs false
namespace Go.Proofs.Ytplfbdkljnblmaa
open Go.RowKit Go.Maps

theorem oper_mapUpdate_eq {P : Program} {w w' : World} {o : Oper} {a : Act} {K : Act → World → Prop} {Q : Exit → Act → World → Prop} (s x v : Operand) (ta : TypeId)
    (ho : o.op = .mapUpdate ta s x v) (hr : (Instr.mapUpdate ta (a.eval s) (a.eval x) (a.eval v)).run P w = .ok () w')
    (h : K (a.put o.dst undef) w') : o.wp P a w K Q := by
  unfold Oper.wp
  simp [execOp, ho, hr, Result.andThen]
  exact h

def QS.more (s : QS) (e : Ent) : QS := { s with put := s.put + 1, L := s.L ++ [e] }
def PutRes (s : QS) (key weight : Int) (e : Ending) (s' : QS) : Prop :=
  ((findK s.L key).isSome = true ∧ e = .returned (.int .i64 4) ∧ s' = s) ∨ (findK s.L key = none ∧ s.L.length = 10000 ∧ e = .returned (.int .i64 2) ∧ s' = s) ∨
  (findK s.L key = none ∧ s.L.length ≠ 10000 ∧ e = .returned (.int .i64 0) ∧ s' = s.more ⟨key, weight, s.put⟩)

theorem QInv.more {s : QS} {light old light' old' : List Ent} (h : QInv s light old) (hp : s.put ≤ 799999) {e : Ent} (he : e.age = s.put) (hw : W64 e.key) (hn : findK s.L e.key = none) (hl : light'.Perm (e :: light)) (ho : old'.Perm (e :: old)) : QInv (s.more e) light' old' :=
  { per := h.per, tak := h.tak, many := by show s.put + 1 ≤ 800000; omega
    keys := by
      show ((s.L ++ [e]).map Ent.key).Nodup
      rw [List.map_append, List.nodup_append]
      refine ⟨h.keys, by simp, ?_⟩
      intro a ha b hb
      obtain ⟨x, hx, rfl⟩ := List.mem_map.1 ha
      simp at hb; subst hb
      exact findK_none hn x hx
    ages := by
      show (s.L ++ [e]).Pairwise _
      rw [List.pairwise_append]
      refine ⟨h.ages, by simp, ?_⟩
      intro a ha b hb
      simp at hb; subst hb
      rw [he]; exact h.last a ha
    inl := fun x hx => hl.mem_iff.2 (by
      rcases List.mem_append.1 hx with hx | hx
      · exact List.mem_cons_of_mem _ (h.inl x hx)
      · simp at hx; subst hx; simp)
    ino := fun x hx => ho.mem_iff.2 (by
      rcases List.mem_append.1 hx with hx | hx
      · exact List.mem_cons_of_mem _ (h.ino x hx)
      · simp at hx; subst hx; simp)
    wkl := fun x hx => by
      rcases List.mem_cons.1 (hl.mem_iff.1 hx) with rfl | hx
      · exact hw
      · exact h.wkl x hx
    wko := fun x hx => by
      rcases List.mem_cons.1 (ho.mem_iff.1 hx) with rfl | hx
      · exact hw
      · exact h.wko x hx
    last := fun x hx => by
      show x.age < ((s.put + 1 : Nat) : Int)
      rcases List.mem_append.1 hx with hx | hx
      · have := h.last x hx; omega
      · simp at hx; subst hx; omega
    lenl := by have := hl.length_eq; have h2 := h.lenl; show light'.length ≤ s.put + 1; simp at this; omega
    leno := by have := ho.length_eq; have h2 := h.leno; show old'.length ≤ s.put + 1; simp at this; omega }

set_option maxRecDepth 100000 in
set_option maxHeartbeats 4000000 in
theorem put_q {F : Nat → Prop} {w : World} {q : Nat} {s : QS} (h : QueueAt F w q s) (hp : s.put ≤ 799999) (hF : ∀ k, w.heap.size ≤ k → F k) (key weight : Int) (hk : W64 key) :
    Calls Try.prog 8 #[.pointer (some ⟨q, 0, none⟩), .int .i64 key, .int .i64 weight] w fun e w' => ∃ s', PutRes s key weight e s' ∧ QueueAt F w' q s' ∧ Off F w w' := by
  obtain ⟨lv, ov, m, n, light, old, hM⟩ := h
  obtain ⟨per, tak, put, L⟩ := s
  have hlk := hM.mp.look hk
  dsimp only at hp hlk
  have HM := Lib.hid hM; have Hk := Lib.hid hk
  obtain ⟨y, hy⟩ : ∃ y, (findK L key).getD Hp.z0 = y := ⟨_, rfl⟩
  obtain ⟨ok, hok⟩ : ∃ ok, (findK L key).isSome = ok := ⟨_, rfl⟩
  rw [hy, hok] at hlk
  have Hok := Lib.hid hok
  clear hy hok
  obtain ⟨yk, yw, yg⟩ := y
  unfold Ent.v at hlk
  dsimp only at hlk
  have c7 : w.cell? ⟨q, 7, none⟩ = some (.map (some m)) := hM.blk.cell rfl
  have hql := hM.blk.lt
  have hln : ∀ o : Obj, (Builtin.len_ #[60] 3 #[.map (some m)]).run Try.prog (w.alloc o) = .ok (.int .i64 L.length) (w.alloc o) := fun o => (hM.mp.below ((Below.refl _ _).alloc (Nat.le_refl _) o)).len _
  have c2 : w.cell? ⟨q, 2, none⟩ = some (.int .i64 put) := hM.blk.cell rfl
  have g2 := hM.blk.free 2
  clear hM hk
  cases ok
  rotate_left
  · skip
    go_enter Try.func8, Try.ntmps8
    go_wp2_with fail
    go_ret
    have hb : Below w.heap.size w (w.alloc (.cells #[.int .i64 yk, .int .i64 yw, .int .i64 yg] 30)) := (Below.refl _ _).alloc (Nat.le_refl _) _
    exact ⟨_, .inl ⟨Hok.out, rfl, rfl⟩, QueueAt.below ⟨_, _, _, _, _, _, HM.out⟩ hb, Off.of_below _ hb⟩
  have Hno : Hid (findK L key = none) := by
    have h := Hok.out
    show _ = _
    cases hf : findK L key with
    | none => rfl
    | some e => rw [hf] at h; cases h
  clear Hok
  by_cases hlen : L.length = 10000
  · have hl1 : (((L.length : Nat) : Int) == 10000) = true := by rw [hlen]; rfl
    have hl2 : ((L.length : Nat) : Int) = 10000 := by rw [hlen]; rfl
    have Hlen := Lib.hid hlen; clear hlen
    rw [hl2] at hln
    clear hl1 hl2
    go_enter Try.func8, Try.ntmps8
    go_wp2_with fail
    go_ret
    have hb : Below w.heap.size w (w.alloc (.cells #[.int .i64 yk, .int .i64 yw, .int .i64 yg] 30)) := (Below.refl _ _).alloc (Nat.le_refl _) _
    exact ⟨_, .inr (.inl ⟨Hno.out, Hlen.out, rfl, rfl⟩), QueueAt.below ⟨_, _, _, _, _, _, HM.out⟩ hb, Off.of_below _ hb⟩
  · have hl2 : ¬ ((L.length : Nat) : Int) = 10000 := by omega
    have Hlen := Lib.hid hlen; clear hlen
    obtain ⟨ll, hll⟩ : ∃ ll : Int, ((L.length : Nat) : Int) = ll := ⟨_, rfl⟩
    rw [hll] at hln hl2
    clear hll
    have hpI : (put : Int) ≤ 799999 := by omega
    have hp0 : (0 : Int) ≤ put := by omega
    go_enter Try.func8, Try.ntmps8
    go_wp2_with fail
    have b1 : Below w.heap.size (w.setCell ⟨q, 2, none⟩ (.int .i64 ((put : Int) + 1))) (((w.setCell ⟨q, 2, none⟩ (.int .i64 ((put : Int) + 1))).alloc (.cells #[.int .i64 yk, .int .i64 yw, .int .i64 yg] 30)).alloc (.cells #[.int .i64 key, .int .i64 weight, .int .i64 put] 30)) := by
      have h0 : w.heap.size ≤ (w.setCell ⟨q, 2, none⟩ (.int .i64 ((put : Int) + 1))).heap.size := by simp
      exact ((Below.refl _ _).alloc h0 _).alloc (by simp) _
    have hM := HM.out
    have hqs := hM.blk.set 2 (.int .i64 ((put : Int) + 1))
    have q2 : Blk _ q #[.int .i64 per, .int .i64 tak, .int .i64 ((put : Int) + 1), lv, .func (.func 22) #[] #[], ov, .func (.func 23) #[] #[], .map (some m)] 62 := hqs.same (b1.block q hql)
    have hS1 : Off (fun k => k = q) w (w.setCell ⟨q, 2, none⟩ (.int .i64 ((put : Int) + 1))) := (Off.refl _ _).set ⟨q, 2, none⟩ _ (.inl rfl)
    have hS2 : Off (fun k => k = q) w (((w.setCell ⟨q, 2, none⟩ (.int .i64 ((put : Int) + 1))).alloc (.cells #[.int .i64 yk, .int .i64 yw, .int .i64 yg] 30)).alloc (.cells #[.int .i64 key, .int .i64 weight, .int .i64 put] 30)) := (hS1.alloc _).alloc _
    have x2 : Blk (((w.setCell ⟨q, 2, none⟩ (.int .i64 ((put : Int) + 1))).alloc (.cells #[.int .i64 yk, .int .i64 yw, .int .i64 yg] 30)).alloc (.cells #[.int .i64 key, .int .i64 weight, .int .i64 put] 30)) (w.heap.size + 1) #[.int .i64 key, .int .i64 weight, .int .i64 put] 30 := Blk.new _ _ _ (by simp)
    have rl2 := hM.rl.off hS2 (fun g hg e => hM.lq (by rw [hg, e]))
    have ro2 := hM.ro.off hS2 (fun g hg e => hM.oq (by rw [hg, e]))
    have mp2 := hM.mp.off hS2 hM.mq
    have B2 := hS2.mono (G := F) (fun k _ e => e ▸ hM.fq)
    obtain ⟨w2, hw2⟩ : ∃ w2, ((w.setCell ⟨q, 2, none⟩ (.int .i64 ((put : Int) + 1))).alloc (.cells #[.int .i64 yk, .int .i64 yw, .int .i64 yg] 30)).alloc (.cells #[.int .i64 key, .int .i64 weight, .int .i64 put] 30) = w2 := ⟨_, rfl⟩
    rw [hw2] at q2 x2 rl2 ro2 mp2 B2 ⊢
    have hml := hM.mp.lt
    have hll := hM.rl.base_le
    have hlo := hM.ro.base_le
    have hmX : m ≠ w.heap.size + 1 := by omega
    have hqX : q ≠ w.heap.size + 1 := by omega
    have hlX : lv.ownBlock ≠ some (w.heap.size + 1) := fun e => by have := (hll _ e).2; omega
    have hoX : ov.ownBlock ≠ some (w.heap.size + 1) := fun e => by have := (hlo _ e).2; omega
    clear hw2 hS1 hS2 hqs b1 hlk hln c7 c2 g2
    refine wp_region_noPanic (wp_region_need (S := fun w' => w'.cell? ⟨q, 7, none⟩ = some (.map (some m)) ∧ w'.cell? ⟨w.heap.size + 1, 0, none⟩ = some (.int .i64 key) ∧ w'.cell? ⟨w.heap.size + 1, 1, none⟩ = some (.int .i64 weight) ∧ w'.cell? ⟨w.heap.size + 1, 2, none⟩ = some (.int .i64 put)) (by kernel_rfl) ?_)
    have hS : (w2.drew).cell? ⟨q, 7, none⟩ = some (.map (some m)) ∧ (w2.drew).cell? ⟨w.heap.size + 1, 0, none⟩ = some (.int .i64 key) ∧ (w2.drew).cell? ⟨w.heap.size + 1, 1, none⟩ = some (.int .i64 weight) ∧ (w2.drew).cell? ⟨w.heap.size + 1, 2, none⟩ = some (.int .i64 put) := ⟨q2.drew.cell rfl, x2.drew.cell rfl, x2.drew.cell rfl, x2.drew.cell rfl⟩
    refine wpN_take (i := 0) (v := ?v1) rfl (by kernel_rfl) (fun _ _ _ h => h) hS (Or.inl ⟨by rfl, ?hy1⟩) ?hr1
    case hy1 => (intro wS hSw; (try dsimp only at hSw); go_simp; (try with_reducible rfl))
    try simp only [Act.put, List.setIfInBounds_toArray, List.set_cons_zero, List.set_cons_succ, List.getElem_toArray, List.getElem_cons_zero, List.getElem_cons_succ]
    refine wpN_take (i := 1) (v := ?v2) rfl (by kernel_rfl) (fun _ _ _ h => h) hS (Or.inl ⟨by rfl, ?hy2⟩) ?hr2
    case hy2 => (intro wS hSw; (try dsimp only at hSw); go_simp; (try with_reducible rfl))
    try simp only [Act.put, List.setIfInBounds_toArray, List.set_cons_zero, List.set_cons_succ, List.getElem_toArray, List.getElem_cons_zero, List.getElem_cons_succ]
    refine wpN_take (i := 2) (v := ?v3) rfl (by kernel_rfl) (fun _ _ _ h => h) hS (Or.inl ⟨by rfl, ?hy3⟩) ?hr3
    case hy3 => (intro wS hSw; (try dsimp only at hSw); go_simp; (try with_reducible rfl))
    try simp only [Act.put, List.setIfInBounds_toArray, List.set_cons_zero, List.set_cons_succ, List.getElem_toArray, List.getElem_cons_zero, List.getElem_cons_succ]
    refine wpN_take (i := 3) (v := ?v4) rfl (by kernel_rfl) (fun _ _ _ h => h) hS (Or.inl ⟨by rfl, ?hy4⟩) ?hr4
    case hy4 => (intro wS hSw; (try dsimp only at hSw); go_simp; (try with_reducible rfl))
    try simp only [Act.put, List.setIfInBounds_toArray, List.set_cons_zero, List.set_cons_succ, List.getElem_toArray, List.getElem_cons_zero, List.getElem_cons_succ]
    refine wpN_take (i := 4) (v := ?v5) rfl (by kernel_rfl) (fun _ _ _ h => h) hS (Or.inl ⟨by rfl, ?hy5⟩) ?hr5
    case hy5 => (intro wS hSw; (try dsimp only at hSw); go_simp; (try with_reducible rfl))
    try simp only [Act.put, List.setIfInBounds_toArray, List.set_cons_zero, List.set_cons_succ, List.getElem_toArray, List.getElem_cons_zero, List.getElem_cons_succ]
    refine wpN_take (i := 5) (v := ?v6) rfl (by kernel_rfl) (fun _ _ _ h => h) hS (Or.inl ⟨by rfl, ?hy6⟩) ?hr6
    case hy6 => (intro wS hSw; (try dsimp only at hSw); go_simp; (try with_reducible rfl))
    try simp only [Act.put, List.setIfInBounds_toArray, List.set_cons_zero, List.set_cons_succ, List.getElem_toArray, List.getElem_cons_zero, List.getElem_cons_succ]
    have hd : Below w2.heap.size w2 w2.drew := (Below.refl _ _).drew
    have q3 := q2.below hd
    have x3 := x2.below hd
    have rl3 := rl2.below hd
    have ro3 := ro2.below hd
    have mp3 := mp2.below hd
    have B3 := B2.below hd
    obtain ⟨w3, hw3⟩ : ∃ w3, w2.drew = w3 := ⟨_, rfl⟩
    rw [hw3] at q3 x3 rl3 ro3 mp3 B3 ⊢
    clear hw3 hd q2 x2 rl2 ro2 mp2 B2 hS
    refine wpN_step (i := 6) (by kernel_rfl) rfl (fun K hK => ?_)
    obtain ⟨w4, hrun, mp4, hg⟩ := mp3.store (by have := hM.hn; dsimp only at this; simp only [maxLen]; omega) ⟨key, weight, put⟩ Hk.out Hno.out
    rw [if_pos (by rfl)]
    refine oper_mapUpdate_eq (.tmp 45) (.tmp 46) (.tmp 47) _ rfl hrun ?_
    try simp only [Act.put, List.setIfInBounds_toArray, List.set_cons_zero, List.set_cons_succ, List.getElem_toArray, List.getElem_cons_zero, List.getElem_cons_succ]
    have hO4 : Off (fun k => k = m) w3 w4 := (Off.refl _ _).grown hg fun k e => by cases e; rfl
    have x4 := hO4.blk x3 (Ne.symm hmX)
    have q4 := hO4.blk q3 (Ne.symm hM.mq)
    have B4 : Off F w w4 := B3.grown hg fun k e => by cases e; exact hM.fm
    have rl4 := rl3.off hO4 (fun g hg e => hM.lm (by rw [hg, e]))
    have ro4 := ro3.off hO4 (fun g hg e => hM.om (by rw [hg, e]))
    clear hrun hg hO4 x3 q3 rl3 ro3 mp3 B3
    have hS : (w4).cell? ⟨q, 7, none⟩ = some (.map (some m)) ∧ (w4).cell? ⟨w.heap.size + 1, 0, none⟩ = some (.int .i64 key) ∧ (w4).cell? ⟨w.heap.size + 1, 1, none⟩ = some (.int .i64 weight) ∧ (w4).cell? ⟨w.heap.size + 1, 2, none⟩ = some (.int .i64 put) := ⟨q4.cell rfl, x4.cell rfl, x4.cell rfl, x4.cell rfl⟩
    refine hK.out _ _ (fun _ => hS) ?_
    clear hK K
    try simp only [Act.put, List.setIfInBounds_toArray, List.set_cons_zero, List.set_cons_succ, List.getElem_toArray, List.getElem_cons_zero, List.getElem_cons_succ]
    refine wpN_done (by kernel_rfl) ?_
    refine NoPanic.normal ?_
    go_wp2_with fail
    have hs24 : w.heap.size + 2 ≤ w4.heap.size := by have := x4.lt; omega
    refine wp_region_noPanic (wp_region_need (S := fun w' => w'.cell? ⟨w.heap.size + 1, 0, none⟩ = some (.int .i64 key) ∧ w'.cell? ⟨w.heap.size + 1, 1, none⟩ = some (.int .i64 weight) ∧ w'.cell? ⟨w.heap.size + 1, 2, none⟩ = some (.int .i64 put)) (by kernel_rfl) ?_)
    have hS : (w4.drew).cell? ⟨w.heap.size + 1, 0, none⟩ = some (.int .i64 key) ∧ (w4.drew).cell? ⟨w.heap.size + 1, 1, none⟩ = some (.int .i64 weight) ∧ (w4.drew).cell? ⟨w.heap.size + 1, 2, none⟩ = some (.int .i64 put) := ⟨x4.drew.cell rfl, x4.drew.cell rfl, x4.drew.cell rfl⟩
    refine wpN_take (i := 0) (v := ?v7) rfl (by kernel_rfl) (fun _ _ _ h => h) hS (Or.inl ⟨by rfl, ?hy7⟩) ?hr7
    case hy7 => (intro wS hSw; (try dsimp only at hSw); go_simp; (try with_reducible rfl))
    try simp only [Act.put, List.setIfInBounds_toArray, List.set_cons_zero, List.set_cons_succ, List.getElem_toArray, List.getElem_cons_zero, List.getElem_cons_succ]
    refine wpN_take (i := 1) (v := ?v8) rfl (by kernel_rfl) (fun _ _ _ h => h) hS (Or.inl ⟨by rfl, ?hy8⟩) ?hr8
    case hy8 => (intro wS hSw; (try dsimp only at hSw); go_simp; (try with_reducible rfl))
    try simp only [Act.put, List.setIfInBounds_toArray, List.set_cons_zero, List.set_cons_succ, List.getElem_toArray, List.getElem_cons_zero, List.getElem_cons_succ]
    refine wpN_take (i := 2) (v := ?v9) rfl (by kernel_rfl) (fun _ _ _ h => h) hS (Or.inl ⟨by rfl, ?hy9⟩) ?hr9
    case hy9 => (intro wS hSw; (try dsimp only at hSw); go_simp; (try with_reducible rfl))
    try simp only [Act.put, List.setIfInBounds_toArray, List.set_cons_zero, List.set_cons_succ, List.getElem_toArray, List.getElem_cons_zero, List.getElem_cons_succ]
    refine wpN_take (i := 3) (v := ?v10) rfl (by kernel_rfl) (fun _ _ _ h => h) hS (Or.inl ⟨by rfl, ?hy10⟩) ?hr10
    case hy10 => (intro wS hSw; (try dsimp only at hSw); go_simp; (try with_reducible rfl))
    try simp only [Act.put, List.setIfInBounds_toArray, List.set_cons_zero, List.set_cons_succ, List.getElem_toArray, List.getElem_cons_zero, List.getElem_cons_succ]
    have hd : Below w4.heap.size w4 w4.drew := (Below.refl _ _).drew
    have q5 := q4.below hd
    have x5 := x4.below hd
    have rl5 := rl4.below hd
    have ro5 := ro4.below hd
    have mp5 := mp4.below hd
    have B5 := B4.below hd
    obtain ⟨w5, hw5⟩ : ∃ w5, w4.drew = w5 := ⟨_, rfl⟩
    have hs5 : w.heap.size + 2 ≤ w5.heap.size := by rw [← hw5]; simpa using hs24
    rw [hw5] at q5 x5 rl5 ro5 mp5 B5 ⊢
    clear hw5 hd q4 x4 rl4 ro4 mp4 B4 hS hs24
    refine wpN_step (i := 4) (by kernel_rfl) rfl (fun K hK => ?_)
    go_simp
    refine (push_q fst_lighter Hp.lighter_ord (o := 3) q5 rfl rfl rl5 hM.hl hM.lq (Nat.zero_le _) (by have := hM.inv.lenl; dsimp only at this; omega) ⟨key, weight, put⟩).mono ?_
    rintro e w6 ⟨rfl, v6, l6, q6, rl6, p6, h6, own6, O6⟩
    have hX6 : ∀ k, k < w5.heap.size → Turn q lv k → F k := fun k _ hk => by rcases hk with rfl | hk; exact hM.fq; exact hM.fl k hk
    have x6 := O6.blk x5 (by rintro (e | e); exact hqX e.symm; exact hlX e)
    have ro6 := ro5.off O6 (fun g hg => by rintro (e | e); exact hM.oq (by rw [hg, e]); exact hM.lo g e hg)
    have mp6 := mp5.off O6 (by rintro (e | e); exact hM.mq e; exact hM.lm e)
    have B6 := B5.trans (O6.mono hX6)
    have hs6 : w.heap.size + 2 ≤ w6.heap.size := Nat.le_trans hs5 O6.size
    have own6' : ∀ g, v6.ownBlock = some g → lv.ownBlock = some g ∨ w.heap.size + 2 ≤ g := fun g hg => (own6 g hg).imp id (fun h => by omega)
    have q6' : Blk w6 q #[.int .i64 per, .int .i64 tak, .int .i64 ((put : Int) + 1), v6, .func (.func 22) #[] #[], ov, .func (.func 23) #[] #[], .map (some m)] 62 := q6
    clear q6 O6 own6 q5 x5 rl5 ro5 mp5 B5 hX6
    have hS : (w6).cell? ⟨w.heap.size + 1, 0, none⟩ = some (.int .i64 key) ∧ (w6).cell? ⟨w.heap.size + 1, 1, none⟩ = some (.int .i64 weight) ∧ (w6).cell? ⟨w.heap.size + 1, 2, none⟩ = some (.int .i64 put) := ⟨x6.cell rfl, x6.cell rfl, x6.cell rfl⟩
    refine hK.out _ _ (fun _ => hS) ?_
    clear hK K
    try simp only [Act.put, List.setIfInBounds_toArray, List.set_cons_zero, List.set_cons_succ, List.getElem_toArray, List.getElem_cons_zero, List.getElem_cons_succ]
    refine wpN_done (by kernel_rfl) ?_
    refine NoPanic.normal ?_
    go_wp2_with fail
    refine wp_region_noPanic (wp_region_need (S := fun w' => w'.cell? ⟨w.heap.size + 1, 0, none⟩ = some (.int .i64 key) ∧ w'.cell? ⟨w.heap.size + 1, 1, none⟩ = some (.int .i64 weight) ∧ w'.cell? ⟨w.heap.size + 1, 2, none⟩ = some (.int .i64 put)) (by kernel_rfl) ?_)
    have hS : (w6.drew).cell? ⟨w.heap.size + 1, 0, none⟩ = some (.int .i64 key) ∧ (w6.drew).cell? ⟨w.heap.size + 1, 1, none⟩ = some (.int .i64 weight) ∧ (w6.drew).cell? ⟨w.heap.size + 1, 2, none⟩ = some (.int .i64 put) := ⟨x6.drew.cell rfl, x6.drew.cell rfl, x6.drew.cell rfl⟩
    refine wpN_take (i := 0) (v := ?v11) rfl (by kernel_rfl) (fun _ _ _ h => h) hS (Or.inl ⟨by rfl, ?hy11⟩) ?hr11
    case hy11 => (intro wS hSw; (try dsimp only at hSw); go_simp; (try with_reducible rfl))
    try simp only [Act.put, List.setIfInBounds_toArray, List.set_cons_zero, List.set_cons_succ, List.getElem_toArray, List.getElem_cons_zero, List.getElem_cons_succ]
    refine wpN_take (i := 1) (v := ?v12) rfl (by kernel_rfl) (fun _ _ _ h => h) hS (Or.inl ⟨by rfl, ?hy12⟩) ?hr12
    case hy12 => (intro wS hSw; (try dsimp only at hSw); go_simp; (try with_reducible rfl))
    try simp only [Act.put, List.setIfInBounds_toArray, List.set_cons_zero, List.set_cons_succ, List.getElem_toArray, List.getElem_cons_zero, List.getElem_cons_succ]
    refine wpN_take (i := 2) (v := ?v13) rfl (by kernel_rfl) (fun _ _ _ h => h) hS (Or.inl ⟨by rfl, ?hy13⟩) ?hr13
    case hy13 => (intro wS hSw; (try dsimp only at hSw); go_simp; (try with_reducible rfl))
    try simp only [Act.put, List.setIfInBounds_toArray, List.set_cons_zero, List.set_cons_succ, List.getElem_toArray, List.getElem_cons_zero, List.getElem_cons_succ]
    refine wpN_take (i := 3) (v := ?v14) rfl (by kernel_rfl) (fun _ _ _ h => h) hS (Or.inl ⟨by rfl, ?hy14⟩) ?hr14
    case hy14 => (intro wS hSw; (try dsimp only at hSw); go_simp; (try with_reducible rfl))
    try simp only [Act.put, List.setIfInBounds_toArray, List.set_cons_zero, List.set_cons_succ, List.getElem_toArray, List.getElem_cons_zero, List.getElem_cons_succ]
    have hd : Below w6.heap.size w6 w6.drew := (Below.refl _ _).drew
    have q7 := q6'.below hd
    have x7 := x6.below hd
    have rl7 := rl6.below hd
    have ro7 := ro6.below hd
    have mp7 := mp6.below hd
    have B7 := B6.below hd
    obtain ⟨w7, hw7⟩ : ∃ w7, w6.drew = w7 := ⟨_, rfl⟩
    have hs7 : w.heap.size + 2 ≤ w7.heap.size := by rw [← hw7]; simpa using hs6
    rw [hw7] at q7 x7 rl7 ro7 mp7 B7 ⊢
    clear hw7 hd q6' x6 rl6 ro6 mp6 B6 hS hs6
    refine wpN_step (i := 4) (by kernel_rfl) rfl (fun K hK => ?_)
    go_simp
    refine (push_q fst_elder Hp.elder_ord (o := 5) q7 rfl rfl ro7 hM.ho hM.oq (Nat.zero_le _) (by have := hM.inv.leno; dsimp only at this; omega) ⟨key, weight, put⟩).mono ?_
    rintro e w8 ⟨rfl, v8, l8, q8, ro8, p8, h8, own8, O8⟩
    have hX8 : ∀ k, k < w7.heap.size → Turn q ov k → F k := fun k _ hk => by rcases hk with rfl | hk; exact hM.fq; exact hM.fo k hk
    have n6q : v6.ownBlock ≠ some q := fun e => by rcases own6' q e with h | h; exact hM.lq h; omega
    have n6m : v6.ownBlock ≠ some m := fun e => by rcases own6' m e with h | h; exact hM.lm h; omega
    have n6o : ∀ g, v6.ownBlock = some g → ov.ownBlock ≠ some g := fun g hg e => by
      rcases own6' g hg with h | h
      · exact hM.lo g h e
      · have := (hlo g e).2; omega
    have x8 := O8.blk x7 (by rintro (e | e); exact hqX e.symm; exact hoX e)
    have rl8 := rl7.off O8 (fun g hg => by rintro (e | e); exact n6q (by rw [hg, e]); exact n6o g hg e)
    have mp8 := mp7.off O8 (by rintro (e | e); exact hM.mq e; exact hM.om e)
    have B8 := B7.trans (O8.mono hX8)
    have h6lt := rl7.base_le
    have hfin : QMem F w8 q (QS.more ⟨per, tak, put, L⟩ ⟨key, weight, put⟩) v6 v8 m (n + 1) l6 l8 :=
      { inv := hM.inv.more hp rfl Hk.out Hno.out p6 p8
        blk := q8
        rl := rl8
        ro := ro8
        mp := mp8
        hn := by have := hM.hn; dsimp only at this; show n + 1 ≤ put + 1; omega
        hl := h6
        ho := h8
        lq := n6q
        lm := n6m
        oq := fun e => by rcases own8 q e with h | h; exact hM.oq h; omega
        om := fun e => by rcases own8 m e with h | h; exact hM.om h; omega
        mq := hM.mq
        lo := fun g hg e => by
          rcases own8 g e with h | h
          · exact n6o g hg h
          · have := (h6lt g hg).2; omega
        fq := hM.fq
        fm := hM.fm
        fl := fun g hg => by rcases own6' g hg with h | h; exact hM.fl g h; exact hF g (by omega)
        fo := fun g hg => by rcases own8 g hg with h | h; exact hM.fo g h; exact hF g (by omega) }
    have Hfin := Lib.hid hfin
    clear hfin O8 q8 own8 q7 x7 rl7 ro7 mp7 B7 hX8
    have hS : (w8).cell? ⟨w.heap.size + 1, 0, none⟩ = some (.int .i64 key) ∧ (w8).cell? ⟨w.heap.size + 1, 1, none⟩ = some (.int .i64 weight) ∧ (w8).cell? ⟨w.heap.size + 1, 2, none⟩ = some (.int .i64 put) := ⟨x8.cell rfl, x8.cell rfl, x8.cell rfl⟩
    refine hK.out _ _ (fun _ => hS) ?_
    clear hK K
    try simp only [Act.put, List.setIfInBounds_toArray, List.set_cons_zero, List.set_cons_succ, List.getElem_toArray, List.getElem_cons_zero, List.getElem_cons_succ]
    refine wpN_done (by kernel_rfl) ?_
    refine NoPanic.normal ?_
    go_wp2_with fail
    go_ret
    exact ⟨_, .inr (.inr ⟨Hno.out, Hlen.out, rfl, rfl⟩), ⟨_, _, _, _, _, _, Hfin.out⟩, B8⟩
end Go.Proofs.Ytplfbdkljnblmaa

namespace Go.Proofs.Ytplfbdkljnblmaa
open Go.RowKit Go.Maps

theorem new_q (w : World) (period : Int) (h1 : 1 ≤ period) (h2 : period ≤ 1000) :
    Calls Try.prog 7 #[.int .i64 period] w fun e w' => ∃ q, e = .returned (.tuple #[.pointer (some ⟨q, 0, none⟩), .int .i64 0]) ∧ w.heap.size ≤ q ∧ QueueAt (fun k => w.heap.size ≤ k) w' q ⟨period, 0, 0, []⟩ ∧ Below w.heap.size w w' := by
  have hmm := @run_makeMap Try.prog
  have n1 : ¬ period < 1 := by omega
  have n2 : ¬ period > 1000 := by omega
  have n3 : ¬ 1000 < period := by omega
  go_enter Try.func7, Try.ntmps7
  go_wp2_with fail
  go_ret2
  have hm : MapOf ((w.alloc (.map #[] 0)).alloc (.cells #[.int .i64 period, .int .i64 0, .int .i64 0, .slice none 0 0, .func (.func 22) #[] #[], .slice none 0 0, .func (.func 23) #[] #[], .map (some w.heap.size)] 62)) w.heap.size 0 [] :=
    (MapOf.made w).below ((Below.refl _ _).alloc (Nat.le_refl _) _)
  have hb : Blk ((w.alloc (.map #[] 0)).alloc (.cells #[.int .i64 period, .int .i64 0, .int .i64 0, .slice none 0 0, .func (.func 22) #[] #[], .slice none 0 0, .func (.func 23) #[] #[], .map (some w.heap.size)] 62)) (w.heap.size + 1) (qCells ⟨period, 0, 0, []⟩ (.slice none 0 0) (.slice none 0 0) w.heap.size) 62 := Blk.new _ _ _ (by simp)
  refine ⟨w.heap.size + 1, rfl, by omega, ⟨.slice none 0 0, .slice none 0 0, w.heap.size, 0, [], [], ?_⟩, ((Below.refl _ _).alloc (Nat.le_refl _) _).alloc (by simp) _⟩
  exact {
    inv := { per := ⟨h1, h2⟩, tak := ⟨Int.le_refl _, (by show (0 : Int) ≤ 800000; decide)⟩, many := (by show (0 : Nat) ≤ 800000; decide), keys := by simp, ages := by simp, inl := fun _ h => h, ino := fun _ h => h, wkl := fun _ h => (by cases h), wko := fun _ h => (by cases h), last := fun _ h => (by cases h), lenl := Nat.le_refl _, leno := Nat.le_refl _ }
    blk := hb
    rl := Row.nil _ _
    ro := Row.nil _ _
    mp := hm
    hn := Nat.le_refl _
    hl := fun j hj => by simp at hj
    ho := fun j hj => by simp at hj
    lq := by simp [Value.ownBlock]
    lm := by simp [Value.ownBlock]
    oq := by simp [Value.ownBlock]
    om := by simp [Value.ownBlock]
    mq := by omega
    lo := fun g hg => by cases hg
    fq := by show _ ≤ _; omega
    fm := Nat.le_refl _
    fl := fun g hg => by cases hg
    fo := fun g hg => by cases hg }

theorem len_q {F : Nat → Prop} {w : World} {q : Nat} {s : QS} (h : QueueAt F w q s) :
    Calls Try.prog 12 #[.pointer (some ⟨q, 0, none⟩)] w fun e w' => e = .returned (.int .i64 s.L.length) ∧ Below w.heap.size w w' := by
  obtain ⟨lv, ov, m, n, light, old, h⟩ := h
  have c7 : w.cell? ⟨q, 7, none⟩ = some (.map (some m)) := h.blk.cell rfl
  have hln := h.mp.len 3
  go_enter Try.func12, Try.ntmps12
  go_wp2_with fail
  go_ret
  exact ⟨rfl, Below.refl _ _⟩
theorem taken_q {F : Nat → Prop} {w : World} {q : Nat} {s : QS} (h : QueueAt F w q s) :
    Calls Try.prog 21 #[.pointer (some ⟨q, 0, none⟩)] w fun e w' => e = .returned (.int .i64 s.taken) ∧ Below w.heap.size w w' := by
  obtain ⟨lv, ov, m, n, light, old, h⟩ := h
  have c1 : w.cell? ⟨q, 1, none⟩ = some (.int .i64 s.taken) := h.blk.cell rfl
  go_enter Try.func21, Try.ntmps21
  go_wp2_with fail
  go_ret
  exact ⟨rfl, Below.refl _ _⟩

theorem len_nil (w : World) : Calls Try.prog 12 #[.pointer none] w fun e w' => e = .returned (.int .i64 0) ∧ Below w.heap.size w w' := by
  go_enter Try.func12, Try.ntmps12
  go_wp2_with fail
  go_ret
  exact ⟨rfl, Below.refl _ _⟩
theorem taken_nil (w : World) : Calls Try.prog 21 #[.pointer none] w fun e w' => e = .returned (.int .i64 0) ∧ Below w.heap.size w w' := by
  go_enter Try.func21, Try.ntmps21
  go_wp2_with fail
  go_ret
  exact ⟨rfl, Below.refl _ _⟩
theorem put_nil (w : World) (a b : Int) : Calls Try.prog 8 #[.pointer none, .int .i64 a, .int .i64 b] w fun e w' => e = .returned (.int .i64 13) ∧ Below w.heap.size w w' := by
  go_enter Try.func8, Try.ntmps8
  go_wp2_with fail
  go_ret
  exact ⟨rfl, Below.refl _ _⟩
theorem drop_nil (w : World) (v : Value) : Calls Try.prog 11 #[.pointer none, v] w fun e w' => e = .returned (.int .i64 0) ∧ Below w.heap.size w w' := by
  go_enter Try.func11, Try.ntmps11
  go_wp2_with fail
  go_ret
  exact ⟨rfl, Below.refl _ _⟩
theorem all_nil (w : World) : Calls Try.prog 20 #[.pointer none] w fun e w' => e = .returned (.slice none 0 0) ∧ Below w.heap.size w w' := by
  go_enter Try.func20, Try.ntmps20
  go_wp2_with fail
  go_ret
  exact ⟨rfl, Below.refl _ _⟩
theorem copy_nil (w : World) : Calls Try.prog 19 #[.pointer none] w fun e w' => e = .returned (.pointer none) ∧ Below w.heap.size w w' := by
  go_enter Try.func19, Try.ntmps19
  go_wp2_with fail
  go_ret
  exact ⟨rfl, Below.refl _ _⟩
theorem peek_nil (w : World) : Calls Try.prog 16 #[.pointer none] w fun e w' => e = .returned (.tuple #[.agg #[.int .i64 0, .int .i64 0, .int .i64 0], .bool false]) ∧ Below w.heap.size w w' := by
  go_enter Try.func16, Try.ntmps16
  go_wp2_with fail
  have z := Blk.new w #[.int .i64 0, .int .i64 0, .int .i64 0] 30 rfl
  (try simp only [Exit.inBlock, Exit.then]); refine bodyPost_ret (results_ent rfl _ _ rfl (e := ⟨0, 0, 0⟩) z) rfl ?_
  exact ⟨rfl, (Below.refl _ _).alloc (Nat.le_refl _) _⟩
theorem next_nil (w : World) : Calls Try.prog 9 #[.pointer none] w fun e w' => e = .returned (.tuple #[.agg #[.int .i64 0, .int .i64 0, .int .i64 0], .bool false]) ∧ Below w.heap.size w w' := by
  obtain ⟨wB, hwB⟩ : ∃ wB, w.alloc (.cells #[.int .i64 0, .int .i64 0, .int .i64 0] 30) = wB := ⟨_, rfl⟩
  have B0 : Below w.heap.size w wB := by rw [← hwB]; exact (Below.refl _ _).alloc (Nat.le_refl _) _
  have x0 : Blk wB w.heap.size #[.int .i64 0, .int .i64 0, .int .i64 0] 30 := by rw [← hwB]; exact Blk.new _ _ _ rfl
  go_enter Try.func9, Try.ntmps9
  go_wp2_with fail
  try rw [hwB]
  clear hwB
  refine (peek_nil _).mono ?_
  rintro e w1 ⟨rfl, hb⟩
  have x1 := x0.below hb
  have B1 := B0.trans (hb.mono B0.size)
  have f1 := x1.free 0; have f2 := x1.free 1; have f3 := x1.free 2
  have d0 := x1.cell (i := 0) rfl; have d1 := x1.cell (i := 1) rfl; have d2 := x1.cell (i := 2) rfl
  have hlt := x1.lt
  clear x0 B0 hb
  go_wp2_with fail
  have z := (((x1.set 0 (.int .i64 0)).set 1 (.int .i64 0)).set 2 (.int .i64 0)).alloc (.cells #[.int .i64 0, .int .i64 0, .int .i64 0] 30)
  (try simp only [Exit.inBlock, Exit.then]); refine bodyPost_ret (results_ent rfl _ _ rfl (e := ⟨0, 0, 0⟩) z) rfl ?_
  exact ⟨rfl, (((B1.setCell (p := ⟨w.heap.size, 0, none⟩) (Nat.le_refl _) _).setCell (p := ⟨w.heap.size, 1, none⟩) (Nat.le_refl _) _).setCell (p := ⟨w.heap.size, 2, none⟩) (Nat.le_refl _) _).alloc (by simp; omega) _⟩
end Go.Proofs.Ytplfbdkljnblmaa

