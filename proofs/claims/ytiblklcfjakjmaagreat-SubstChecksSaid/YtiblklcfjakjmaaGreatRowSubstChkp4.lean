/-
  Deep values: a contract with other names. Operations of a region that may come up in any order among themselves, each of which asks nothing of the others: each is looked at once. A term, copied cell by cell: To, Of of the laws.
-/
import Derived.Test.YtiblklcfjakjmaaGreatRowSubstChkp3
import Derived.Test.YtiblklcfjakjmaaGreatRowSubstChkp1
import Derived.RegionTactic
set_option maxRecDepth 100000
set_option maxHeartbeats 1000000
set_option linter.unusedVariables false
set_option linter.unusedSimpArgs false
namespace Go.Proofs.YtiblklcfjakjmaaGreat
open Go.RowKit

mutual
def D.ren (ρ : Nat → Nat) : D → D
  | .v x => .v x
  | .sl n l g => .sl n (D.renss ρ l) g
  | .p k off => .p (ρ k) off
  | .q l => .q (D.rens ρ l)
  | .ag l => .ag (D.rens ρ l)
  | .tu l => .tu (D.rens ρ l)
  | .fn f l => .fn f (D.rens ρ l)
  | .rw a b c => .rw a b c
  | .o k => .o (ρ k)
  | .mo k => .mo (ρ k)
  | .mp l => .mp (D.renm ρ l)
  | .ob J => .ob J
  | .j X J => .j X J
def D.rens (ρ : Nat → Nat) : List D → List D
  | [] => []
  | d :: l => D.ren ρ d :: D.rens ρ l
def D.renss (ρ : Nat → Nat) : List (List D) → List (List D)
  | [] => []
  | d :: l => D.rens ρ d :: D.renss ρ l
def D.renm (ρ : Nat → Nat) : List (Int × D) → List (Int × D)
  | [] => []
  | (i, d) :: l => (i, D.ren ρ d) :: D.renm ρ l
end
theorem D.rens_map (ρ : Nat → Nat) : ∀ l : List D, D.rens ρ l = l.map (D.ren ρ)
  | [] => rfl
  | d :: l => by rw [D.rens, D.rens_map ρ l, List.map_cons]
theorem D.renss_map (ρ : Nat → Nat) : ∀ l : List (List D), D.renss ρ l = l.map (D.rens ρ)
  | [] => rfl
  | d :: l => by rw [D.renss, D.renss_map ρ l, List.map_cons]
theorem D.renm_map (ρ : Nat → Nat) : ∀ l : List (Int × D), D.renm ρ l = l.map fun p => (p.1, p.2.ren ρ)
  | [] => rfl
  | (i, d) :: l => by rw [D.renm, D.renm_map ρ l, List.map_cons]
/-! what has no names stays as it is -/
mutual
theorem D.ren_id {f g : Nat → Bool} {ρ : Nat → Nat} (hf : ∀ k, f k = true → ρ k = k) : ∀ d : D, d.ok f g = true → d.ren ρ = d
  | .v _, _ => rfl
  | .sl n l r, h => by simp only [D.ok, Bool.and_eq_true] at h; rw [D.ren, D.renss_id hf l h.1]
  | .p k off, h => by simp only [D.ok] at h; rw [D.ren, hf k h]
  | .q l, h => by simp only [D.ok] at h; rw [D.ren, D.rens_id hf l h]
  | .ag l, h => by simp only [D.ok] at h; rw [D.ren, D.rens_id hf l h]
  | .tu l, h => by simp only [D.ok] at h; rw [D.ren, D.rens_id hf l h]
  | .fn _ l, h => by simp only [D.ok] at h; rw [D.ren, D.rens_id hf l h]
  | .rw _ _ _, _ => rfl
  | .o k, h => by simp only [D.ok] at h; rw [D.ren, hf k h]
  | .mo k, h => by simp only [D.ok] at h; rw [D.ren, hf k h]
  | .mp l, h => by simp only [D.ok] at h; rw [D.ren, D.renm_id hf l h]
  | .ob _, _ => rfl
  | .j _ _, _ => rfl
theorem D.rens_id {f g : Nat → Bool} {ρ : Nat → Nat} (hf : ∀ k, f k = true → ρ k = k) : ∀ l : List D, D.oks f g l = true → D.rens ρ l = l
  | [], _ => rfl
  | d :: l, h => by simp only [D.oks, Bool.and_eq_true] at h; rw [D.rens, D.ren_id hf d h.1, D.rens_id hf l h.2]
theorem D.renss_id {f g : Nat → Bool} {ρ : Nat → Nat} (hf : ∀ k, f k = true → ρ k = k) : ∀ l : List (List D), D.okss f g l = true → D.renss ρ l = l
  | [], _ => rfl
  | d :: l, h => by simp only [D.okss, Bool.and_eq_true] at h; rw [D.renss, D.rens_id hf d h.1, D.renss_id hf l h.2]
theorem D.renm_id {f g : Nat → Bool} {ρ : Nat → Nat} (hf : ∀ k, f k = true → ρ k = k) : ∀ l : List (Int × D), D.okm f g l = true → D.renm ρ l = l
  | [], _ => rfl
  | (i, d) :: l, h => by simp only [D.okm, Bool.and_eq_true] at h; rw [D.renm, D.ren_id hf d h.1, D.renm_id hf l h.2]
end
def Key.ren (ρ : Nat → Nat) : Key → Key
  | .c k off => .c (ρ k) off
  | .o k => .o (ρ k)
  | k => k
def renE (ρ : Nat → Nat) (p : Key × D) : Key × D := (p.1.ren ρ, p.2.ren ρ)

section
variable {P : Program} {m m' : Mp} {Im Im' : Nat → Nat → Prop} {w w' : World} {ρ : Nat → Nat} {f : Nat → Bool}
def Mp.ren (m : Mp) (ρ : Nat → Nat) (f : Nat → Bool) : Mp := ⟨fun k => if f k then m.blk (ρ k) else none, fun _ => none, fun k => if f k then m.obj (ρ k) else none⟩
theorem Mp.ren_blk {k b : Nat} (h : (m.ren ρ f).blk k = some b) : f k = true ∧ m.blk (ρ k) = some b := by
  by_cases hk : f k = true
  · exact ⟨hk, by simpa [Mp.ren, hk] using h⟩
  · simp [Mp.ren, hk] at h
theorem Mp.ren_obj {k b : Nat} (h : (m.ren ρ f).obj k = some b) : f k = true ∧ m.obj (ρ k) = some b := by
  by_cases hk : f k = true
  · exact ⟨hk, by simpa [Mp.ren, hk] using h⟩
  · simp [Mp.ren, hk] at h
theorem Rel.unren {x : Value} {d e : D} (h : Rel m Im w x e) (he : d.ren ρ = e) (hd : d.ok f noR = true) : Rel (m.ren ρ f) Im w x d := by
  induction h generalizing d with
  | v x => cases d <;> simp only [D.ren] at he <;> cases he; exact .v x
  | p k off b h =>
    cases d <;> simp only [D.ren] at he <;> cases he
    simp only [D.ok] at hd
    exact .p _ _ b (by simp only [Mp.ren, hd, if_true]; exact h)
  | o k b h =>
    cases d <;> simp only [D.ren] at he <;> cases he
    simp only [D.ok] at hd
    exact .o _ b (by simp only [Mp.ren, hd, if_true]; exact h)
  | mo k b h =>
    cases d <;> simp only [D.ren] at he <;> cases he
    simp only [D.ok] at hd
    exact .mo _ b (by simp only [Mp.ren, hd, if_true]; exact h)
  | q bl off X l h hr ih =>
    cases d <;> simp only [D.ren] at he <;> cases he
    rename_i l0
    simp only [D.ok] at hd
    have hl : (D.rens ρ l0).length = l0.length := by rw [D.rens_map]; simp
    refine .q bl off X l0 (fun i hi => h i (by omega)) fun i hi => ?_
    exact ih i (by omega) (by simp [D.rens_map]) (D.oks_get hd i hi)
  | ag cs l hn hr ih =>
    cases d <;> simp only [D.ren] at he <;> cases he
    rename_i l0
    simp only [D.ok] at hd
    have hl : (D.rens ρ l0).length = l0.length := by rw [D.rens_map]; simp
    exact .ag cs l0 (by omega) fun i hi => ih i (by omega) (by simp [D.rens_map]) (D.oks_get hd i hi)
  | tu cs l hn hr ih =>
    cases d <;> simp only [D.ren] at he <;> cases he
    rename_i l0
    simp only [D.ok] at hd
    have hl : (D.rens ρ l0).length = l0.length := by rw [D.rens_map]; simp
    exact .tu cs l0 (by omega) fun i hi => ih i (by omega) (by simp [D.rens_map]) (D.oks_get hd i hi)
  | fn g cs l hn hr ih =>
    cases d <;> simp only [D.ren] at he <;> cases he
    rename_i l0
    simp only [D.ok] at hd
    have hl : (D.rens ρ l0).length = l0.length := by rw [D.rens_map]; simp
    exact .fn g cs l0 (by omega) fun i hi => ih i (by omega) (by simp [D.rens_map]) (D.oks_get hd i hi)
  | sl a c bl off n X l g h1 ha hc hn ho hr hg ih =>
    cases d <;> simp only [D.ren] at he <;> cases he
    rename_i l0
    simp only [D.ok, Bool.and_eq_true] at hd
    have hl : (D.renss ρ l0).length = l0.length := by rw [D.renss_map]; simp
    have hl2 : ∀ i (hi : i < l0.length), ((D.renss ρ l0)[i]'(by omega)) = D.rens ρ l0[i] := fun i hi => by simp [D.renss_map]
    have hl3 : ∀ i (hi : i < l0.length), ((D.renss ρ l0)[i]'(by omega)).length = l0[i].length := fun i hi => by rw [hl2 i hi, D.rens_map]; simp
    rw [hl] at h1 ha ⊢
    refine .sl a c bl off n X l0 g h1 ha (fun i j hi hj => hc i j (by omega) hj) (fun i hi => by rw [← hl3 i hi]; exact hn i (by omega)) (fun i j hi hj => ho i j (by omega) hj)
      (fun i hi j hj => ih i (by omega) j (by rw [hl3 i hi]; exact hj) (by simp [D.renss_map, D.rens_map]) (D.oks_get (D.okss_get hd.1 i hi) j hj)) fun r e => ?_
    have := hd.2
    subst e
    simp [noR] at this
theorem Rel.ren {x : Value} {d : D} (h : Rel m' Im w x d) (hb : ∀ k b, m'.blk k = some b → m.blk (ρ k) = some b) (ho' : ∀ k b, m'.obj k = some b → m.obj (ρ k) = some b) (hrow : ∀ r, m'.row r = none) : Rel m Im w x (d.ren ρ) := by
  induction h with
  | v x => exact .v x
  | p k off b h => exact .p _ off b (hb k b h)
  | o k b h => exact .o _ b (ho' k b h)
  | mo k b h => exact .mo _ b (ho' k b h)
  | q bl off X l h hr ih =>
    rw [D.ren, D.rens_map]
    exact .q bl off X _ (fun i hi => h i (by simpa using hi)) fun i hi => by rw [List.getElem_map]; exact ih i (by simpa using hi)
  | ag cs l hn hr ih =>
    rw [D.ren, D.rens_map]
    exact .ag cs _ (by simpa using hn) fun i hi => by rw [List.getElem_map]; exact ih i (by simpa using hi)
  | tu cs l hn hr ih =>
    rw [D.ren, D.rens_map]
    exact .tu cs _ (by simpa using hn) fun i hi => by rw [List.getElem_map]; exact ih i (by simpa using hi)
  | fn g cs l hn hr ih =>
    rw [D.ren, D.rens_map]
    exact .fn g cs _ (by simpa using hn) fun i hi => by rw [List.getElem_map]; exact ih i (by simpa using hi)
  | sl a c bl off n X l g h1 ha hc hn ho hr hg ih =>
    rw [D.ren, D.renss_map]
    have hl : (l.map (D.rens ρ)).length = l.length := by simp
    rw [← hl] at h1 ha ⊢
    refine .sl a c bl off n X _ g h1 ha (fun i j hi hj => hc i j (by omega) hj) (fun i hi => by rw [List.getElem_map, D.rens_map, List.length_map]; exact hn i (by omega)) (fun i j hi hj => ho i j (by omega) hj)
      (fun i hi j hj => ?_) fun r e => ?_
    · have : (l.map (D.rens ρ))[i] = (l[i]'(by omega)).map (D.ren ρ) := by simp [D.rens_map]
      simp only [this, List.getElem_map]
      exact ih i (by omega) j (by rw [List.getElem_map, D.rens_map, List.length_map] at hj; exact hj)
    · obtain ⟨R, q, _⟩ := hg r e
      rw [hrow r] at q; cases q
theorem ObOk.unren {b : Nat} {d e : D} (h : ObOk m Im w b e) (he : d.ren ρ = e) (hd : d.ok f noR = true) : ObOk (m.ren ρ f) Im w b d := by
  cases h with
  | mp es clock l h1 h2 h3 h4 =>
    cases d <;> simp only [D.ren] at he <;> cases he
    rename_i l0
    simp only [D.ok] at hd
    have hl : (D.renm ρ l0).length = l0.length := by rw [D.renm_map]; simp
    refine .mp es clock l0 h1 (by omega) (fun i hi => ?_) fun i hi v hv => ?_
    · have := h3 i (by omega); simpa [D.renm_map] using this
    · exact (h4 i (by omega) v hv).unren (by simp [D.renm_map]) (D.okm_get hd i hi)
  | ob J h hs =>
    cases d <;> simp only [D.ren] at he <;> cases he
    exact .ob J h hs
theorem ObOk.ren {b : Nat} {d : D} (h : ObOk m' Im w b d) (hb : ∀ k b, m'.blk k = some b → m.blk (ρ k) = some b) (ho' : ∀ k b, m'.obj k = some b → m.obj (ρ k) = some b) (hrow : ∀ r, m'.row r = none) : ObOk m Im w b (d.ren ρ) := by
  cases h with
  | mp es clock l h1 h2 h3 h4 =>
    rw [D.ren, D.renm_map]
    exact .mp es clock _ h1 (by simpa using h2) (fun i hi => by simpa using h3 i (by simpa using hi)) fun i hi v hv => by
      have := (h4 i (by simpa using hi) v hv).ren hb ho' hrow
      simpa using this
  | ob J h hs => exact .ob J h hs

def renOk (args : List D) (R W : List (Key × D)) (V : D) : Bool :=
  args.all (fun d => d.ok (inN R) noR) && R.all (fun p => p.2.ok (inN R) noR && ckey p.1) && W.all (fun p => p.2.ok (inN R) noR && (match p.1 with | .c k _ => inN R k | .o k => inN R k | .j => R.any fun p => isJ p.1 | _ => false)) && V.ok (inN R) noR
theorem CallC.ren {g : FuncId} {args : List D} {R W : List (Key × D)} {V : D} (h : CallC P g args R W V) (ρ : Nat → Nat) (hw : renOk args R W V = true) (hinj : ∀ k ∈ rnames R, ∀ k' ∈ rnames R, ρ k = ρ k' → k = k') :
    CallC P g (args.map (D.ren ρ)) (R.map (renE ρ)) (W.map (renE ρ)) (V.ren ρ) := by
  refine ⟨h.1, fun cx Fr m Im w vs hmem hargs hR => ?_⟩
  simp only [renOk, Bool.and_eq_true, List.all_eq_true] at hw
  obtain ⟨⟨⟨w1, w2⟩, w3⟩, w4⟩ := hw
  have hinj : ∀ k k', inN R k = true → inN R k' = true → ρ k = ρ k' → k = k' := fun k k' hk hk' => by
    unfold inN at hk hk'
    rw [List.contains_iff_mem] at hk hk'
    exact hinj k hk k' hk'
  have hmemR : ∀ p ∈ R, renE ρ p ∈ R.map (renE ρ) := fun p hp => List.mem_map.2 ⟨p, hp, rfl⟩
  have hTb : ∀ k b, inN R k = true → m.blk (ρ k) = some b → Tch m (R.map (renE ρ)) b := fun k b hk hb => by
    rcases of_rnames hk with ⟨off, d, hm⟩ | ⟨d, hm⟩
    · exact .inl ⟨ρ k, off, d.ren ρ, hmemR _ hm, hb⟩
    · obtain ⟨b', q1, _⟩ := hR _ (hmemR _ hm)
      have := hmem.dis _ b hb
      rw [this] at q1; cases q1
  have hTo : ∀ k b, inN R k = true → m.obj (ρ k) = some b → Tch m (R.map (renE ρ)) b := fun k b hk hb => by
    rcases of_rnames hk with ⟨off, d, hm⟩ | ⟨d, hm⟩
    · obtain ⟨b', v, q1, _⟩ := hR _ (hmemR _ hm)
      have := hmem.dis _ b' q1
      rw [this] at hb; cases hb
    · exact .inr (.inr ⟨ρ k, d.ren ρ, hmemR _ hm, hb⟩)
  have hX : ∀ X J, (Key.j, D.j X J) ∈ R → XOk cx m Im w X J := fun X J hm => by
    obtain ⟨X', J', e, hx⟩ := hR _ (hmemR _ hm)
    have e : D.j X J = D.j X' J' := e
    cases e; exact hx
  let m' := m.ren ρ (inN R)
  let cx' : Cx := { w0 := w, C := Tch m (R.map (renE ρ)), Im0 := Im, m0 := ⟨fun _ => none, fun _ => none, fun _ => none⟩, nt := 0, n0 := 0, h0 := (fun k b hk => by cases hk), h0o := (fun k b hk => by cases hk) }
  have hmem' : MemOk cx' (fun _ => False) m' Im w := {
    off := Off.refl _ _, im := hmem.im, imb := fun b o hi => .inl hi, im0 := fun b o hi => hi
    own := fun k b hk => .inl (hTb k b (Mp.ren_blk hk).1 (Mp.ren_blk hk).2)
    lt := fun k b hk => hmem.lt _ b (Mp.ren_blk hk).2
    free := fun k b o hk => hmem.free _ b o (Mp.ren_blk hk).2
    nim := fun k b o hk => hmem.nim _ b o (Mp.ren_blk hk).2
    inj := fun k k' b hk hk' => hinj k k' (Mp.ren_blk hk).1 (Mp.ren_blk hk').1 (hmem.inj _ _ b (Mp.ren_blk hk).2 (Mp.ren_blk hk').2)
    row := fun g R hg => by cases hg
    rIm := fun g R b o hg => by cases hg
    rblk := fun g R b k hg => by cases hg
    rinj := fun g g' R R' b hg => by cases hg
    fr := fun k hk => hk.elim
    m0 := fun k b hk => by cases hk
    m0o := fun k b hk => by cases hk
    oown := fun k b hk => .inl (hTo k b (Mp.ren_obj hk).1 (Mp.ren_obj hk).2)
    olt := fun k b hk => hmem.olt _ b (Mp.ren_obj hk).2
    onim := fun k b o hk => hmem.onim _ b o (Mp.ren_obj hk).2
    oinj := fun k k' b hk hk' => hinj k k' (Mp.ren_obj hk).1 (Mp.ren_obj hk').1 (hmem.oinj _ _ b (Mp.ren_obj hk).2 (Mp.ren_obj hk').2)
    oblk := fun k k' b hk hk' => hmem.oblk _ _ b (Mp.ren_obj hk).2 (Mp.ren_blk hk').2
    orow := fun k g R b hk hg => by cases hg
    dis := fun k b hk => by
      have := hmem.dis _ b (Mp.ren_blk hk).2
      show (if _ then m.obj (ρ k) else none) = none
      rw [this]; simp }
  have hargs' : RelL m' Im w vs args := by
    rw [relL_iff] at hargs ⊢
    refine ⟨by simpa using hargs.1, fun i hi => ?_⟩
    exact (hargs.2 i (by simpa using hi)).unren (by simp) (w1 _ (List.getElem_mem hi))
  have hR' : Holds cx' m' Im w R := fun p hp => by
    have hh := hR _ (hmemR _ hp)
    have hok := w2 p hp
    obtain ⟨key, d⟩ := p
    cases key with
    | c k off =>
      obtain ⟨b, v, q1, q2, q3⟩ := hh
      have hk := mem_rnames hp
      exact ⟨b, v, by show (if inN R k then m.blk (ρ k) else none) = _; rw [if_pos hk]; exact q1, q2, q3.unren rfl hok.1⟩
    | o k =>
      obtain ⟨b, q1, q2⟩ := hh
      have hk := mem_rnamesO hp
      exact ⟨b, by show (if inN R k then m.obj (ρ k) else none) = _; rw [if_pos hk]; exact q1, q2.unren rfl hok.1⟩
    | j =>
      obtain ⟨X, J, e, hx⟩ := hh
      cases d <;> simp only [renE, D.ren] at e <;> cases e
      exact ⟨X, J, rfl, { hx with own := fun b hb => .inl (.inr (.inl ⟨X, J, hmemR _ hp, hb⟩)), blk := fun b k hb hk => hx.blk b _ hb (Mp.ren_blk hk).2, row := (fun b g R hb hg => by cases hg), obj := fun b k hb hk => hx.obj b _ hb (Mp.ren_obj hk).2 }⟩
    | t x => cases hok.2
    | r g => cases hok.2
  have hTch : ∀ b, Tch m' R b → Tch m (R.map (renE ρ)) b := fun b hb => by
    rcases hb with ⟨k, off, d, hm, hb⟩ | ⟨X, J, hm, hb⟩ | ⟨k, d, hm, hb⟩
    · exact .inl ⟨ρ k, off, d.ren ρ, hmemR _ hm, (Mp.ren_blk hb).2⟩
    · exact .inr (.inl ⟨X, J, hmemR _ hm, hb⟩)
    · exact .inr (.inr ⟨ρ k, d.ren ρ, hmemR _ hm, (Mp.ren_obj hb).2⟩)
  refine (h.2 cx' _ m' Im w vs hmem' hargs' hR').mono ?_
  rintro e w' ⟨v, Im', rfl, q1, q2, q3, q4, q5, q6, q7⟩
  have hoff : Off (Tch m (R.map (renE ρ))) w w' := ⟨q1.os, q1.tape, q1.output, q1.size, fun b hb hn => q1.block b hb fun ht => hn (hTch b ht)⟩
  refine ⟨v, Im', rfl, hoff, q2, q3, q4, fun k b o hk => ?_, q6.ren (fun k b hk => (Mp.ren_blk hk).2) (fun k b hk => (Mp.ren_obj hk).2) (fun _ => rfl), fun p hp => ?_⟩
  · by_cases hb : Tch m' R b
    · rcases hb with ⟨k', off, d, hm, hb⟩ | ⟨X, J, hm, hb⟩ | ⟨k', d, hm, hb⟩
      · exact q5 k' b o hb
      · exact absurd hk ((hX X J hm).blk b k hb)
      · exact absurd hk (hmem.oblk _ k b (Mp.ren_obj hb).2)
    · exact (World.frozen?_of_block (a := ⟨b, o, none⟩) (q1.block b (hmem.lt k b hk) hb)).trans (hmem.free k b o hk)
  · obtain ⟨p0, hp0, rfl⟩ := List.mem_map.1 hp
    have hh := q7 p0 hp0
    have hok := w3 p0 hp0
    obtain ⟨key, d⟩ := p0
    cases key with
    | c k off =>
      obtain ⟨b, x, r1, r2, r3⟩ := hh
      exact ⟨b, x, (Mp.ren_blk r1).2, r2, r3.ren (fun k b hk => (Mp.ren_blk hk).2) (fun k b hk => (Mp.ren_obj hk).2) (fun _ => rfl)⟩
    | o k =>
      obtain ⟨b, r1, r2⟩ := hh
      exact ⟨b, (Mp.ren_obj r1).2, r2.ren (fun k b hk => (Mp.ren_blk hk).2) (fun k b hk => (Mp.ren_obj hk).2) (fun _ => rfl)⟩
    | j =>
      obtain ⟨X, J, e, hx⟩ := hh
      have e : d = .j X J := e
      subst e
      have hold : ∀ b, X b → b < w.heap.size → ∃ X0 J0, (Key.j, D.j X0 J0) ∈ R ∧ X0 b := fun b hb hlt => by
        rcases hx.own b hb with hc | hc
        · have hc : Tch m (R.map (renE ρ)) b := hc
          rcases hc with ⟨k', off, d', hm, hb'⟩ | ⟨X0, J0, hm, hb'⟩ | ⟨k', d', hm, hb'⟩
          · obtain ⟨⟨key, d0⟩, hm0, e0⟩ := List.mem_map.1 hm
            cases key with
            | c k0 o0 =>
              simp only [renE, Key.ren] at e0
              cases e0
              refine absurd ?_ (hx.blk b k0 hb)
              show (if inN R k0 then m.blk (ρ k0) else none) = _
              rw [if_pos (mem_rnames hm0)]; exact hb'
            | _ => simp [renE, Key.ren] at e0
          · obtain ⟨⟨key, d0⟩, hm0, e0⟩ := List.mem_map.1 hm
            cases key <;> simp only [renE, Key.ren, Prod.mk.injEq, reduceCtorEq, false_and] at e0
            have e0 := e0.2
            cases d0 <;> simp only [D.ren] at e0 <;> cases e0
            exact ⟨X0, J0, hm0, hb'⟩
          · obtain ⟨⟨key, d0⟩, hm0, e0⟩ := List.mem_map.1 hm
            cases key with
            | o k0 =>
              simp only [renE, Key.ren] at e0
              cases e0
              refine absurd ?_ (hx.obj b k0 hb)
              show (if inN R k0 then m.obj (ρ k0) else none) = _
              rw [if_pos (mem_rnamesO hm0)]; exact hb'
            | _ => simp [renE, Key.ren] at e0
        · exact absurd hc (Nat.not_le.2 hlt)
      refine ⟨X, J, rfl, { hx with own := fun b hb => ?_, blk := fun b k hb hk => ?_, row := fun b g R' hb hg e2 => ?_, obj := fun b k hb hk => ?_ }⟩
      · by_cases hlt : b < w.heap.size
        · obtain ⟨X0, J0, hm, hb0⟩ := hold b hb hlt
          exact (hX X0 J0 hm).own b hb0
        · exact .inr (Nat.le_trans hmem.off.size (Nat.le_of_not_lt hlt))
      · obtain ⟨X0, J0, hm, hb0⟩ := hold b hb (hmem.lt k b hk)
        exact (hX X0 J0 hm).blk b k hb0 hk
      · obtain ⟨xs, hxs⟩ := hmem.row g R' hg
        obtain ⟨X0, J0, hm, hb0⟩ := hold b hb (row_lt hxs e2).2
        exact (hX X0 J0 hm).row b g R' hb0 hg e2
      · obtain ⟨X0, J0, hm, hb0⟩ := hold b hb (hmem.olt k b hk)
        exact (hX X0 J0 hm).obj b k hb0 hk
    | t x => cases hok.2
    | r g => cases hok.2
end
end Go.Proofs.YtiblklcfjakjmaaGreat

namespace Go.Proofs.YtiblklcfjakjmaaGreat
open Go.RowKit

def subs : List Nat → List (List Nat)
  | [] => [[]]
  | a :: l => subs l ++ (subs l).map (a :: ·)
theorem filter_mem_subs (D : Nat → Bool) : ∀ l : List Nat, l.filter D ∈ subs l
  | [] => by simp [subs]
  | a :: l => by
    simp only [subs, List.mem_append, List.mem_map, List.filter_cons]
    cases h : D a
    · exact .inl (by simpa using filter_mem_subs D l)
    · exact .inr ⟨_, filter_mem_subs D l, by simp⟩

def markL (D : Nat → Bool) : List Bool → Nat → List Bool
  | [], _ => []
  | b :: l, k => (b || D k) :: markL D l (k + 1)
theorem markL_len (D : Nat → Bool) : ∀ (l : List Bool) (k : Nat), (markL D l k).length = l.length
  | [], _ => rfl
  | b :: l, k => by simp [markL, markL_len D l (k + 1)]
theorem markL_get (D : Nat → Bool) : ∀ (l : List Bool) (k i : Nat) (h : i < (markL D l k).length), (markL D l k)[i] = (l[i]'(by rw [markL_len] at h; exact h) || D (k + i))
  | [], _, _, h => absurd h (by simp [markL])
  | b :: l, k, 0, h => by simp [markL]
  | b :: l, k, i + 1, h => by
    simp only [markL, List.getElem_cons_succ]
    rw [markL_get D l (k + 1) i (by simpa [markL] using h), show k + 1 + i = k + (i + 1) by omega]
def mark (listed : Array Bool) (D : Nat → Bool) : Array Bool := (markL D listed.toList 0).toArray
theorem mark_size (listed : Array Bool) (D : Nat → Bool) : (mark listed D).size = listed.size := by simp [mark, markL_len]
theorem mark_get (listed : Array Bool) (D : Nat → Bool) (i : Nat) (h : i < (mark listed D).size) : (mark listed D)[i] = (listed[i]'(by rw [mark_size] at h; exact h) || D i) := by
  simp only [mark, List.getElem_toArray]
  rw [markL_get]; simp
theorem mark_none (listed : Array Bool) : mark listed (fun _ => false) = listed := by
  apply Array.ext
  · exact mark_size _ _
  · intro i h1 h2; rw [mark_get]; simp
theorem mark_set (listed : Array Bool) (D : Nat → Bool) (i : Nat) : (mark listed D).setIfInBounds i true = mark listed (fun k => D k || k == i) := by
  apply Array.ext
  · simp [mark_size]
  · intro k h1 h2
    have hk : k < (mark listed D).size := by simpa using h1
    rw [Array.getElem_setIfInBounds hk, mark_get _ _ _ hk, mark_get]
    by_cases h : i = k
    · simp [h]
    · rw [if_neg h]
      simp [show (k == i) = false by simpa using Ne.symm h]
theorem mark_ext {listed : Array Bool} {D D' : Nat → Bool} (h : ∀ k, D k = D' k) : mark listed D = mark listed D' := by
  rw [show D = D' from funext h]

def upd (u : Nat → Value) (j : Nat) (v : Value) : Nat → Value := fun k => if k = j then v else u k

def possible (md : Region.Mode) (ops : Array Oper) (G : List Nat) (D : Nat → Bool) : Bool :=
  G.all fun i => !D i || match ops[i]? with
    | some o => o.after.all fun e => !Region.binds md e || !G.contains e.on || D e.on
    | none => true

def gathers (md : Region.Mode) (ops : Array Oper) (listed : Array Bool) (G : List Nat) : Bool :=
  decide G.Nodup && (G.all fun i => !listed.getD i true) && (subs G).all fun sub => sub.length == G.length || !possible md ops G (fun k => sub.contains k) ||
    (!(Region.ready md ops (mark listed fun k => sub.contains k)).isEmpty && (Region.ready md ops (mark listed fun k => sub.contains k)).all fun i => G.contains i && !sub.contains i)

def updn (u : Nat → Nat) (j : Nat) (v : Nat) : Nat → Nat := fun k => if k = j then v else u k

def Parts (G : List Nat) (D : Nat → Bool) (Φ : Nat → Value → Nat → Nat → World → Prop) (b : Nat) (u : Nat → Value) (lo hi : Nat → Nat) (w : World) : Prop :=
  (∀ j ∈ G, D j = true → Φ j (u j) (lo j) (hi j) w ∧ b ≤ lo j ∧ lo j ≤ hi j ∧ hi j ≤ w.heap.size) ∧ ∀ j ∈ G, ∀ k ∈ G, D j = true → D k = true → j ≠ k → hi j ≤ lo k ∨ hi k ≤ lo j

def dep (md : Region.Mode) (ops : Array Oper) (j k : Nat) : Bool := match ops[j]? with
  | some o => o.after.any fun e => Region.binds md e && e.on == k
  | none => false

section
variable {P : Program} {ops : Array Oper} {Q : Exit → Act → World → Prop} {md : Region.Mode} {S : World → Prop}

theorem wpN_gather (G : List Nat) {n n0 : Nat} {listed : Array Bool} {a : Act} {w0 : World} (A : (Nat → Value) → Act) (u0 : Nat → Value) (Φ : Nat → Value → Nat → Nat → World → Prop) (Ψ : Nat → (Nat → Value) → Prop)
    (hn : n0 = n + G.length) (hA : a = A u0) (hg : gathers md ops listed G = true) (hst : ∀ j v x y w w', Φ j v x y w → Below w.heap.size w w' → Φ j v x y w') (hst' : ∀ j ∈ G, ∀ u u', (∀ k, k = j ∨ dep md ops j k = true → u' k = u k) → Ψ j u → Ψ j u') (hS : S w0)
    (hop : ∀ j ∈ G, ∀ u w, (∀ k ∈ G, dep md ops j k = true → Ψ k u ∧ ∃ x y, Φ k (u k) x y w) → Below w0.heap.size w0 w → S w → wpOp P ops Q j (fun a' w' => ∃ v, a' = A (upd u j v) ∧ Φ j v w.heap.size w'.heap.size w' ∧ Ψ j (upd u j v) ∧ Below w.heap.size w w' ∧ S w') (A u) w)
    (hend : ∀ u lo hi w, Parts G (fun _ => true) Φ w0.heap.size u lo hi w → (∀ j ∈ G, Ψ j u) → Below w0.heap.size w0 w → S w → wpN P md ops Q S n (mark listed fun k => G.contains k) (A u) w) :
    wpN P md ops Q S n0 listed a w0 := by
  subst hn hA
  obtain ⟨hnd, hg⟩ := Bool.and_eq_true_iff.1 hg
  obtain ⟨hnd, hun⟩ := Bool.and_eq_true_iff.1 hnd
  have hun : ∀ i ∈ G, listed.getD i true = false := fun i hi => by simpa using List.all_eq_true.1 hun i hi
  have hnd := of_decide_eq_true hnd
  have key : ∀ (m : Nat) (D : Nat → Bool) (u : Nat → Value) (lo hi : Nat → Nat) (w : World), (G.filter D).length + m = G.length → (∀ k, D k = true → k ∈ G) → possible md ops G D = true → Parts G D Φ w0.heap.size u lo hi w → (∀ j ∈ G, D j = true → Ψ j u) → Below w0.heap.size w0 w → S w →
      wpN P md ops Q S (n + m) (mark listed D) (A u) w := by
    intro m
    induction m with
    | zero =>
      intro D u lo hi w hm hD hp hΦ hΨ hB hSw
      have hall : ∀ j ∈ G, D j = true := List.filter_eq_self.1 (List.Sublist.eq_of_length List.filter_sublist (by omega))
      rw [mark_ext (D' := fun k => G.contains k) (fun k => by
        by_cases h : k ∈ G
        · simp [hall k h, h]
        · have : D k = false := by
            cases h' : D k
            · rfl
            · exact absurd (hD k h') h
          simp [this, h])]
      exact hend u lo hi w ⟨fun j hj _ => hΦ.1 j hj (hall j hj), fun j hj k hk _ _ hne => hΦ.2 j hj k hk (hall j hj) (hall k hk) hne⟩ (fun j hj => hΨ j hj (hall j hj)) hB hSw
    | succ m ih =>
      intro D u lo hi w hm hD hp hΦ hΨ hB hSw
      have hg2 := List.all_eq_true.1 hg _ (filter_mem_subs D G)
      have hfun : (fun k => (G.filter D).contains k) = D := funext fun k => by
        by_cases h : D k = true
        · have : k ∈ G.filter D := List.mem_filter.2 ⟨hD k h, h⟩
          simp [this, h]
        · have h' : D k = false := by simpa using h
          simp [h']
      rw [hfun, hp] at hg2
      simp only [Bool.or_eq_true, Bool.not_true, Bool.false_eq_true, or_false, beq_iff_eq, Bool.and_eq_true, List.all_eq_true, Bool.not_eq_true', List.contains_eq_mem, decide_eq_true_eq, decide_eq_false_iff_not] at hg2
      rcases hg2 with hg2 | ⟨hg2, hg3⟩
      · omega
      refine ⟨fun h0 => (by rw [h0] at hg2; simp at hg2), fun i hi' => ?_⟩
      obtain ⟨hiG, hiD⟩ := hg3 i hi'
      have hiD : D i = false := by
        cases h : D i
        · rfl
        · exact absurd (List.mem_filter.2 ⟨hiG, h⟩) hiD
      have hlst : ∀ k ∈ G, dep md ops i k = true → D k = true := fun k hk hdep => by
        obtain ⟨_, o, ho, hall⟩ := mem_ready.1 hi'
        simp only [dep, ho] at hdep
        obtain ⟨e, he, hbe⟩ := Array.any_eq_true'.1 hdep
        simp only [Bool.and_eq_true, beq_iff_eq] at hbe
        obtain ⟨hbe, rfl⟩ := hbe
        have h2 := hall e he hbe
        have h3 := hun e.on hk
        have hs : e.on < listed.size := by
          rcases Nat.lt_or_ge e.on listed.size with h | h
          · exact h
          · simp [Array.getElem?_eq_none h] at h3
        have h4 : e.on < (mark listed D).size := by rw [mark_size]; exact hs
        have h5 : listed[e.on] = false := by simpa [hs] using h3
        have h6 : (mark listed D)[e.on] = true := by simpa [h4] using h2
        rw [mark_get, h5] at h6
        simpa using h6
      refine wpOp_mono (fun a' w' hh => ?_) (hop i hiG u w (fun k hk hdep => ⟨hΨ k hk (hlst k hk hdep), _, _, (hΦ.1 k hk (hlst k hk hdep)).1⟩) hB hSw)
      obtain ⟨v, rfl, hv, hψ, hb, hS'⟩ := hh
      refine ⟨fun _ _ => hS', ?_⟩
      rw [mark_set]
      refine ih _ _ (updn lo i w.heap.size) (updn hi i w'.heap.size) _ ?_ (fun k hk => ?_) ?_ ⟨fun j hj hDj => ?_, fun j hj k hk hDj hDk hne => ?_⟩ (fun j hj hDj => ?_) (hB.trans (hb.mono hB.size)) hS'
      · have hout : ∀ (l : List Nat), i ∉ l → (l.filter fun k => D k || k == i) = l.filter D := by
          intro l hl
          refine List.filter_congr fun k hk => ?_
          have : k ≠ i := fun h => hl (h ▸ hk)
          simp [this]
        have hlen : ∀ (l : List Nat), l.Nodup → i ∈ l → (l.filter fun k => D k || k == i).length = (l.filter D).length + 1 := by
          intro l
          induction l with
          | nil => intro _ h; cases h
          | cons x l ihl =>
            intro hn hx
            obtain ⟨hn1, hn2⟩ := List.nodup_cons.1 hn
            by_cases hxi : x = i
            · subst hxi
              simp only [List.filter_cons, hiD, beq_self_eq_true, Bool.or_true, if_true, Bool.false_eq_true, if_false, List.length_cons, hout l hn1]
            · have hil : i ∈ l := by
                rcases List.mem_cons.1 hx with h | h
                · exact absurd h.symm hxi
                · exact h
              have := ihl hn2 hil
              simp only [List.filter_cons, show (x == i) = false by simpa using hxi, Bool.or_false]
              split <;> simp only [List.length_cons, this]
        rw [hlen G hnd hiG]; omega
      · simp only [Bool.or_eq_true, beq_iff_eq] at hk
        rcases hk with hk | rfl
        · exact hD k hk
        · exact hiG
      · refine List.all_eq_true.2 fun x hx => ?_
        have h1 := List.all_eq_true.1 hp x hx
        simp only [Bool.or_eq_true, Bool.not_eq_true', Bool.or_eq_false_iff] at h1 ⊢
        by_cases hxi : x = i
        · subst hxi
          right
          obtain ⟨_, o, ho, hall⟩ := mem_ready.1 hi'
          rw [ho]
          refine Array.all_eq_true'.2 fun e he => ?_
          simp only [Bool.or_eq_true, Bool.not_eq_true']
          by_cases hbe : Region.binds md e = true
          · by_cases heG : G.contains e.on = true
            · right; left
              have h2 := hall e he hbe
              have h3 := hun e.on (by simpa using heG)
              have hs : e.on < listed.size := by
                rcases Nat.lt_or_ge e.on listed.size with h | h
                · exact h
                · simp [Array.getElem?_eq_none h] at h3
              have h4 : e.on < (mark listed D).size := by rw [mark_size]; exact hs
              have h5 : listed[e.on] = false := by simpa [hs] using h3
              have h6 : (mark listed D)[e.on] = true := by simpa [h4] using h2
              rw [mark_get, h5] at h6
              simpa using h6
            · exact .inl (.inr (by simpa using heG))
          · exact .inl (.inl (by simpa using hbe))
        · rcases h1 with h1 | h1
          · exact .inl ⟨h1, by simpa using hxi⟩
          · right
            cases ho : ops[x]? with
            | none => rfl
            | some o =>
              rw [ho] at h1
              refine Array.all_eq_true'.2 fun e he => ?_
              have h2 := Array.all_eq_true'.1 h1 e he
              simp only [Bool.or_eq_true, Bool.not_eq_true'] at h2 ⊢
              rcases h2 with h2 | h2
              · exact .inl h2
              · exact .inr (.inl h2)
      · have hbs := hb.size
        have hBs := hB.size
        by_cases hji : j = i
        · subst hji
          simp only [upd, updn, if_true]
          exact ⟨hv, hBs, hbs, Nat.le_refl _⟩
        · simp only [upd, updn, if_neg hji]
          have hDj' : D j = true := by simpa [hji] using hDj
          obtain ⟨h1, h2, h3, h4⟩ := hΦ.1 j hj hDj'
          exact ⟨hst _ _ _ _ _ _ h1 hb, h2, h3, Nat.le_trans h4 hbs⟩
      · have hDD : ∀ x, x ≠ i → (D x || x == i) = true → D x = true := fun x hx h => by simpa [hx] using h
        by_cases hji : j = i
        · subst hji
          have hkj : k ≠ j := Ne.symm hne
          simp only [updn, if_true, if_neg hkj]
          exact .inr (hΦ.1 k hk (hDD k hkj hDk)).2.2.2
        · by_cases hki : k = i
          · subst hki
            simp only [updn, if_true, if_neg hji]
            exact .inl (hΦ.1 j hj (hDD j hji hDj)).2.2.2
          · simp only [updn, if_neg hji, if_neg hki]
            exact hΦ.2 j hj k hk (hDD j hji hDj) (hDD k hki hDk) hne
      · by_cases hji : j = i
        · subst hji; exact hψ
        · have hDj' : D j = true := by simpa [hji] using hDj
          refine hst' j hj u _ (fun k hk => ?_) (hΨ j hj hDj')
          have hki : k ≠ i := by
            rcases hk with rfl | hk
            · exact hji
            · intro e
              subst e
              have h1 := List.all_eq_true.1 hp j hj
              simp only [Bool.or_eq_true, Bool.not_eq_true', hDj'] at h1
              rcases h1 with h1 | h1
              · cases h1
              · cases ho : ops[j]? with
                | none => simp [dep, ho] at hk
                | some o =>
                  rw [ho] at h1
                  simp only [dep, ho] at hk
                  obtain ⟨e, he, hbe⟩ := Array.any_eq_true'.1 hk
                  simp only [Bool.and_eq_true, beq_iff_eq] at hbe
                  have h2 := Array.all_eq_true'.1 h1 e he
                  simp only [Bool.or_eq_true, Bool.not_eq_true', hbe.1, hbe.2] at h2
                  have h3 : G.contains k = true := by simpa using hiG
                  rw [h3, hiD] at h2
                  rcases h2 with (h2 | h2) | h2 <;> cases h2
          simp [upd, hki]
  have h := key G.length (fun _ => false) u0 (fun _ => 0) (fun _ => 0) w0 (by simp) (by simp) (by simp [possible]) ⟨by simp, by simp⟩ (by simp) (Below.refl _ _) hS
  rw [mark_none] at h
  exact h

def fills (a : Act) (GD : List (Nat × Nat)) (u : Nat → Value) : Act := GD.foldl (fun a x => a.put (some x.2) (u x.1)) a

theorem wpN_gathersP (GD : List (Nat × Nat)) (n : Nat) (Φ : Nat → Value → Nat → Nat → World → Prop) (Ψ : Nat → (Nat → Value) → Prop) {n0 : Nat} {listed : Array Bool} {a : Act} {w0 : World}
    (hn : n0 = n + (GD.map (·.1)).length) (hA : a = fills a GD (fun _ => undef)) (hg : gathers md ops listed (GD.map (·.1)) = true) (hst : ∀ j v x y w w', Φ j v x y w → Below w.heap.size w w' → Φ j v x y w')
    (hst' : ∀ j ∈ GD.map (·.1), ∀ u u', (∀ k, k = j ∨ dep md ops j k = true → u' k = u k) → Ψ j u → Ψ j u') (hS : S w0)
    (hop : ∀ x ∈ GD, ∀ u w, (∀ k ∈ GD.map (·.1), dep md ops x.1 k = true → Ψ k u ∧ ∃ x y, Φ k (u k) x y w) → Below w0.heap.size w0 w → S w → wpOp P ops Q x.1 (fun a' w' => ∃ v, a' = fills a GD (upd u x.1 v) ∧ Φ x.1 v w.heap.size w'.heap.size w' ∧ Ψ x.1 (upd u x.1 v) ∧ Below w.heap.size w w' ∧ S w') (fills a GD u) w)
    (hend : ∀ u lo hi w, Parts (GD.map (·.1)) (fun _ => true) Φ w0.heap.size u lo hi w → (∀ j ∈ GD.map (·.1), Ψ j u) → Below w0.heap.size w0 w → S w → wpN P md ops Q S n (mark listed fun k => (GD.map (·.1)).contains k) (fills a GD u) w) :
    wpN P md ops Q S n0 listed a w0 :=
  wpN_gather (GD.map (·.1)) (fills a GD) (fun _ => undef) Φ Ψ hn hA hg hst hst' hS
    (fun j hj u w hd hB hSw => by
      obtain ⟨x, hx, rfl⟩ := List.mem_map.1 hj
      exact hop x hx u w hd hB hSw)
    hend

end
end Go.Proofs.YtiblklcfjakjmaaGreat

namespace Go.Proofs.YtiblklcfjakjmaaGreat
open Go.RowKit

def FreshTm (t : Tm) (w : World) (e : Ending) (w' : World) : Prop := ∃ b k i a, e = .returned (.agg #[b, k, i, a]) ∧ IsTm (fun q => w.heap.size ≤ q) w' b k i a t ∧ Below w.heap.size w w'

set_option maxRecDepth 100000 in
set_option maxHeartbeats 1600000 in
theorem to6_any {F : Nat → Prop} {w0 : World} {b k i a : Value} {t : Tm} (ht : IsTm F w0 b k i a t) : ∀ (w : World), t.full ≤ 1000000 →
    Keep F w0 w →
    Calls Tryz.prog 29 #[.agg #[b, k, i, a]] w (FreshTm t w) := by
  induction ht with
  | mk bv k i0 a n c binds args bl off PA A PN PC N C Kd Ix hb hn hm ha h1 h2 h3 h4 h5 ih =>
  intro w hsize hw
  subst hn
  obtain ⟨pa, pc, rfl⟩ := hb.shape
  clear h5
  rw [Tm.full_eq] at hsize
  have hlen : args.length ≤ 1000000 := by have := Tm.len_fulls args; omega
  have Hsz : Hid (∀ j (h : j < args.length), args[j].full ≤ 1000000) := fun j h => by have := Tm.full_mem (List.getElem_mem h); omega
  have Htys : Hid (∀ w, Keep F w0 w → Calls Tryz.prog 14 #[.slice pa binds.length pc] w (FreshTys binds w)) := fun w hw => types_any hb w hw (by omega)
  have Hih := Lib.hid ih; clear ih hsize hb
  obtain ⟨i1, hi0, hz0, hz1, hz2⟩ := info_parts infoT
  go_enter Tryz.func29, Tryz.ntmps29
  go_wp2_with fail
  obtain ⟨w1, hw1⟩ : ∃ w1, (w.alloc (.cells #[.slice pa binds.length pc, .int .i64 k, .int .i64 i0, .slice a args.length c] 47)).alloc (.cells #[.slice none 0 0, .int .i64 0, .int .i64 0, .slice none 0 0] 52) = w1 := ⟨_, rfl⟩
  have B1 : Below w.heap.size w w1 := by rw [← hw1]; exact ((Below.refl _ _).alloc (Nat.le_refl _) _).alloc (by simp) _
  have x0 : Blk w1 w.heap.size #[.slice pa binds.length pc, .int .i64 k, .int .i64 i0, .slice a args.length c] 47 := by rw [← hw1]; exact (Blk.new _ _ _ rfl).alloc _
  have x1 : Blk w1 (w.heap.size + 1) #[.slice none 0 0, .int .i64 0, .int .i64 0, .slice none 0 0] 52 := by rw [← hw1]; exact Blk.new _ _ _ (by simp)
  have hsz1 : w1.heap.size = w.heap.size + 2 := by rw [← hw1]; simp
  rw [hw1]
  clear hw1
  refine wp_region_noPanic (wp_region_need (S := fun w' => w'.cell? ⟨w.heap.size, 0, none⟩ = some (.slice pa binds.length pc) ∧ w'.cell? ⟨w.heap.size, 1, none⟩ = some (.int .i64 k) ∧ w'.cell? ⟨w.heap.size, 2, none⟩ = some (.int .i64 i0)) (by kernel_rfl) ?_)
  have hS : (w1.drew).cell? ⟨w.heap.size, 0, none⟩ = some (.slice pa binds.length pc) ∧ (w1.drew).cell? ⟨w.heap.size, 1, none⟩ = some (.int .i64 k) ∧ (w1.drew).cell? ⟨w.heap.size, 2, none⟩ = some (.int .i64 i0) := ⟨x0.drew.cell rfl, x0.drew.cell rfl, x0.drew.cell rfl⟩
  refine wpN_take (i := 0) (v := ?v1) rfl (by kernel_rfl) (fun _ _ _ h => h) hS (Or.inl ⟨by rfl, ?hy1⟩) ?hr1
  case hy1 => (intro wS hSw; (try dsimp only at hSw); go_simp; (try with_reducible rfl))
  try simp only [Act.put, List.setIfInBounds_toArray, List.set_cons_zero, List.set_cons_succ, List.getElem_toArray, List.getElem_cons_zero, List.getElem_cons_succ]
  refine wpN_take (i := 1) (v := ?v2) rfl (by kernel_rfl) (fun _ _ _ h => h) hS (Or.inl ⟨by rfl, ?hy2⟩) ?hr2
  case hy2 => (intro wS hSw; (try dsimp only at hSw); go_simp; (try with_reducible rfl))
  try simp only [Act.put, List.setIfInBounds_toArray, List.set_cons_zero, List.set_cons_succ, List.getElem_toArray, List.getElem_cons_zero, List.getElem_cons_succ]
  refine wpN_take (i := 3) (v := ?v3) rfl (by kernel_rfl) (fun _ _ _ h => h) hS (Or.inl ⟨by rfl, ?hy3⟩) ?hr3
  case hy3 => (intro wS hSw; (try dsimp only at hSw); go_simp; (try with_reducible rfl))
  try simp only [Act.put, List.setIfInBounds_toArray, List.set_cons_zero, List.set_cons_succ, List.getElem_toArray, List.getElem_cons_zero, List.getElem_cons_succ]
  refine wpN_take (i := 4) (v := ?v4) rfl (by kernel_rfl) (fun _ _ _ h => h) hS (Or.inl ⟨by rfl, ?hy4⟩) ?hr4
  case hy4 => (intro wS hSw; (try dsimp only at hSw); go_simp; (try with_reducible rfl))
  try simp only [Act.put, List.setIfInBounds_toArray, List.set_cons_zero, List.set_cons_succ, List.getElem_toArray, List.getElem_cons_zero, List.getElem_cons_succ]
  refine wpN_take (i := 5) (v := ?v5) rfl (by kernel_rfl) (fun _ _ _ h => h) hS (Or.inl ⟨by rfl, ?hy5⟩) ?hr5
  case hy5 => (intro wS hSw; (try dsimp only at hSw); go_simp; (try with_reducible rfl))
  try simp only [Act.put, List.setIfInBounds_toArray, List.set_cons_zero, List.set_cons_succ, List.getElem_toArray, List.getElem_cons_zero, List.getElem_cons_succ]
  refine wpN_take (i := 6) (v := ?v6) rfl (by kernel_rfl) (fun _ _ _ h => h) hS (Or.inl ⟨by rfl, ?hy6⟩) ?hr6
  case hy6 => (intro wS hSw; (try dsimp only at hSw); go_simp; (try with_reducible rfl))
  try simp only [Act.put, List.setIfInBounds_toArray, List.set_cons_zero, List.set_cons_succ, List.getElem_toArray, List.getElem_cons_zero, List.getElem_cons_succ]
  refine wpN_take (i := 7) (v := ?v7) rfl (by kernel_rfl) (fun _ _ _ h => h) hS (Or.inl ⟨by rfl, ?hy7⟩) ?hr7
  case hy7 => (intro wS hSw; (try dsimp only at hSw); go_simp; (try with_reducible rfl))
  try simp only [Act.put, List.setIfInBounds_toArray, List.set_cons_zero, List.set_cons_succ, List.getElem_toArray, List.getElem_cons_zero, List.getElem_cons_succ]
  refine wpN_take (i := 8) (v := ?v8) rfl (by kernel_rfl) (fun _ _ _ h => h) hS (Or.inl ⟨by rfl, ?hy8⟩) ?hr8
  case hy8 => (intro wS hSw; (try dsimp only at hSw); go_simp; (try with_reducible rfl))
  try simp only [Act.put, List.setIfInBounds_toArray, List.set_cons_zero, List.set_cons_succ, List.getElem_toArray, List.getElem_cons_zero, List.getElem_cons_succ]
  refine wpN_take (i := 9) (v := ?v9) rfl (by kernel_rfl) (fun _ _ _ h => h) hS (Or.inl ⟨by rfl, ?hy9⟩) ?hr9
  case hy9 => (intro wS hSw; (try dsimp only at hSw); go_simp; (try with_reducible rfl))
  try simp only [Act.put, List.setIfInBounds_toArray, List.set_cons_zero, List.set_cons_succ, List.getElem_toArray, List.getElem_cons_zero, List.getElem_cons_succ]
  refine wpN_gathersP [(2, 7), (10, 15), (11, 3)] 1 (fun j v x y w' => match j with
    | 2 => ∃ qa qc, v = .slice qa binds.length qc ∧ IsSl rpTy (fun q => x ≤ q ∧ q < y) w' (.slice qa binds.length qc) binds
    | 10 => True
    | _ => v = .pointer (some ⟨x, 0, none⟩) ∧ x < y ∧ Blk w' x #[.slice none 0 0, .int .i64 0, .int .i64 0, .slice none 0 0] 52) (fun j u => match j with
    | 10 => ∃ qa qc, u 2 = .slice qa binds.length qc ∧ u 10 = .agg #[.slice qa binds.length qc, .int .i64 k, .int .i64 i0, .slice none 0 0]
    | _ => True) rfl rfl (by kernel_rfl) ?gst ?gst' hS ?gop ?gend
  case gst =>
    intro j v x y wa wb h hb
    split at h
    · obtain ⟨a, c, e, ht⟩ := h
      exact ⟨a, c, e, ht.keep ((Keep.refl _ _).below hb)⟩
    · trivial
    · exact ⟨h.1, h.2.1, h.2.2.below hb⟩
  case gst' =>
    intro j hj u u' hu h
    simp only [List.map_cons, List.map_nil, List.mem_cons, List.not_mem_nil, or_false] at hj
    rcases hj with rfl | rfl | rfl
    · trivial
    · obtain ⟨qa, qc, e1, e2⟩ := h
      exact ⟨qa, qc, (hu 2 (.inr (by kernel_rfl))).trans e1, (hu 10 (.inl rfl)).trans e2⟩
    · trivial
  case gop =>
    intro x hx u w' hdep hB' hS'
    obtain ⟨q1, q2, q3⟩ := hS'
    have hbw : Below w1.heap.size w1 w' := (Below.refl _ _).drew.trans hB'
    simp only [List.mem_cons, List.not_mem_nil, or_false] at hx
    rcases hx with rfl | rfl | rfl
    · refine wpOp_step (i := 2) rfl (fun K hK => ?_)
      have hK := Lib.hid hK
      simp only [fills, List.foldl, Act.put, List.setIfInBounds_toArray, List.set_cons_zero, List.set_cons_succ, List.getElem_toArray, List.getElem_cons_zero, List.getElem_cons_succ]
      go_simp
      refine (Htys.out w' (hw.below (B1.trans (hbw.mono B1.size)))).mono ?_
      rintro e w6 ⟨qa, qc, rfl, hT, hb6⟩
      have hKp : Keep (fun _ => True) w' w6 := (Keep.refl _ _).below hb6
      exact hK.out _ _ ⟨_, rfl, ⟨_, _, rfl, hT.weaken (by decide) fun q h1 h2 => ⟨h2, h1⟩⟩, trivial, hb6, hKp _ _ _ trivial q1, hKp _ _ _ trivial q2, hKp _ _ _ trivial q3⟩
    · obtain ⟨_, _, _, qa, qc, e1, _⟩ := hdep 2 (by simp) (by kernel_rfl)
      refine wpOp_step (i := 10) rfl (fun K hK => ?_)
      have hK := Lib.hid hK
      simp only [fills, List.foldl, Act.put, List.setIfInBounds_toArray, List.set_cons_zero, List.set_cons_succ, List.getElem_toArray, List.getElem_cons_zero, List.getElem_cons_succ]
      rw [e1]
      go_simp
      exact hK.out _ _ ⟨.agg #[.slice qa binds.length qc, .int .i64 k, .int .i64 i0, .slice none 0 0], by simp only [fills, List.foldl, Act.put, List.setIfInBounds_toArray, List.set_cons_zero, List.set_cons_succ, List.getElem_toArray, List.getElem_cons_zero, List.getElem_cons_succ]; simp [upd, e1], trivial, ⟨qa, qc, e1, rfl⟩, Below.refl _ _, q1, q2, q3⟩
    · refine wpOp_step (i := 11) rfl (fun K hK => ?_)
      have hK := Lib.hid hK
      simp only [fills, List.foldl, Act.put, List.setIfInBounds_toArray, List.set_cons_zero, List.set_cons_succ, List.getElem_toArray, List.getElem_cons_zero, List.getElem_cons_succ]
      go_simp
      have hb6 : Below w'.heap.size w' (w'.alloc (.cells #[.slice none 0 0, .int .i64 0, .int .i64 0, .slice none 0 0] 52)) := (Below.refl _ _).alloc (Nat.le_refl _) _
      have hKp : Keep (fun _ => True) w' (w'.alloc (.cells #[.slice none 0 0, .int .i64 0, .int .i64 0, .slice none 0 0] 52)) := (Keep.refl _ _).below hb6
      exact hK.out _ _ ⟨_, rfl, ⟨rfl, by simp, Blk.new _ _ _ rfl⟩, trivial, hb6, hKp _ _ _ trivial q1, hKp _ _ _ trivial q2, hKp _ _ _ trivial q3⟩
  case gend =>
    intro u lo hi w' hΦ hΨ hB' hS'
    have hbw : Below w1.heap.size w1 w' := (Below.refl _ _).drew.trans hB'
    obtain ⟨⟨qa, qc, e1, V1⟩, n1, m1, o1⟩ := hΦ.1 2 (by simp) rfl
    obtain ⟨⟨e2, r2, Z2⟩, n2, m2, o2⟩ := hΦ.1 11 (by simp) rfl
    obtain ⟨qa', qc', e3, e4⟩ := hΨ 10 (by simp)
    obtain ⟨rfl, rfl⟩ : qa' = qa ∧ qc' = qc := by rw [e1] at e3; cases e3; exact ⟨rfl, rfl⟩
    clear e3
    have k12 := hΦ.2 2 (by simp) 11 (by simp) rfl rfl (by decide)
    clear hΦ hΨ
    simp only [fills, List.foldl, Act.put, List.setIfInBounds_toArray, List.set_cons_zero, List.set_cons_succ, List.getElem_toArray, List.getElem_cons_zero, List.getElem_cons_succ]
    rw [e1, e2, e4]
    clear e1 e2 e4
    have hsz : w1.drew.heap.size = w1.heap.size := rfl
    rw [hsz, hsz1] at n1 n2
    generalize lo 11 = p at *
    have U1 := Lib.hid (V1.weaken (F' := fun q => w.heap.size + 2 ≤ q ∧ q ≠ p) (by decide) fun q _ h => ⟨by omega, by omega⟩)
    clear V1 k12 n1 m1 o1 m2 r2 o2 hsz
    have B2 := B1.trans (hbw.mono B1.size)
    have y0 := x0.below hbw
    have y1 := x1.below hbw
    have r0 : w'.cell? ⟨p, 0, none⟩ = some (.slice none 0 0) := Z2.cell rfl
    have r1 : w'.cell? ⟨p, 1, none⟩ = some (.int .i64 0) := Z2.cell rfl
    have r2 : w'.cell? ⟨p, 2, none⟩ = some (.int .i64 0) := Z2.cell rfl
    have r3 : w'.cell? ⟨p, 3, none⟩ = some (.slice none 0 0) := Z2.cell rfl
    have f0 := Z2.free 0
    have f1 := Z2.free 1
    have f2 := Z2.free 2
    have f3 := Z2.free 3
    refine wpN_step (i := 12) (by kernel_rfl) rfl (fun K hK => ?_)
    go_simp
    refine hK.out _ _ (fun h => absurd h (by decide)) ?_
    clear hK K
    try simp only [Act.put, List.setIfInBounds_toArray, List.set_cons_zero, List.set_cons_succ, List.getElem_toArray, List.getElem_cons_zero, List.getElem_cons_succ]
    refine wpN_done (by kernel_rfl) ?_
    refine NoPanic.normal ?_
    obtain ⟨w2, hw2⟩ : ∃ w2, ((((w'.setCell ⟨p, 0, none⟩ (.slice qa' binds.length qc')).setCell ⟨p, 1, none⟩ (.int .i64 k)).setCell ⟨p, 2, none⟩ (.int .i64 i0)).setCell ⟨p, 3, none⟩ (.slice none 0 0)) = w2 := ⟨_, rfl⟩
    have hlp := Z2.lt
    have B3 : Below w.heap.size w w2 := by rw [← hw2]; exact ((((B2.setCell (by simp; omega) _).setCell (by simp; omega) _).setCell (by simp; omega) _).setCell (by simp; omega) _)
    have z0 : Blk w2 w.heap.size #[.slice pa binds.length pc, .int .i64 k, .int .i64 i0, .slice a args.length c] 47 := by rw [← hw2]; exact ((((y0.far _ _ (by simp; omega)).far _ _ (by simp; omega)).far _ _ (by simp; omega)).far _ _ (by simp; omega))
    have z1 : Blk w2 (w.heap.size + 1) #[.slice none 0 0, .int .i64 0, .int .i64 0, .slice none 0 0] 52 := by rw [← hw2]; exact ((((y1.far _ _ (by simp; omega)).far _ _ (by simp; omega)).far _ _ (by simp; omega)).far _ _ (by simp; omega))
    have zp : Blk w2 p #[.slice qa' binds.length qc', .int .i64 k, .int .i64 i0, .slice none 0 0] 52 := by rw [← hw2]; exact ((((Z2.set 0 _).set 1 _).set 2 _).set 3 _)
    have KU : Keep (fun q => w.heap.size + 2 ≤ q ∧ q ≠ p) w' w2 := by rw [← hw2]; exact ((((Keep.refl _ _).setCell _ _ (by simp)).setCell _ _ (by simp)).setCell _ _ (by simp)).setCell _ _ (by simp)
    have U2 := Lib.hid (U1.out.keep KU)
    rw [hw2]
    clear hw2 KU U1 y0 y1 Z2 r0 r1 r2 r3 f0 f1 f2 f3 B2 hbw hB' hS' hS x0 x1 B1
    have hlp2 := zp.lt
    obtain ⟨N2, hN2⟩ : ∃ n, w2.heap.size = n := ⟨_, rfl⟩
    have HN2 := Lib.hid hN2; clear hN2
    have hpN : p < N2 := by have := HN2.out; omega
    have c3 : w2.cell? ⟨w.heap.size, 3, none⟩ = some (.slice a args.length c) := z0.cell rfl
    have U3 := Lib.hid (U2.out.weaken (F' := fun q => w.heap.size + 2 ≤ q ∧ q ≠ p ∧ q < N2) (by decide) fun q h1 h2 => ⟨h2.1, h2.2, by have := HN2.out; omega⟩)
    clear U2
    have hsz2 : N2 ≤ w2.heap.size := by have := HN2.out; omega
    have hacc0 : Acc rpTm 52 N2 (fun q => N2 ≤ q) w2 (.slice none 0 0) [] := Acc.nil _ _ _ _ _
    go_wp2_with fail
    go_loopw [4] (fun i wr => ∃ (j : Nat) (v : Value), i = .int .i64 j ∧ j ≤ args.length ∧ N2 ≤ wr.heap.size ∧
        Below w.heap.size w wr ∧ Blk wr w.heap.size #[.slice pa binds.length pc, .int .i64 k, .int .i64 i0, .slice a args.length c] 47 ∧ Blk wr (w.heap.size + 1) #[.slice none 0 0, .int .i64 0, .int .i64 0, .slice none 0 0] 52 ∧ Blk wr p #[.slice qa' binds.length qc', .int .i64 k, .int .i64 i0, v] 52 ∧
        Hid (IsSl rpTy (fun q => w.heap.size + 2 ≤ q ∧ q ≠ p ∧ q < N2) wr (.slice qa' binds.length qc') binds) ∧
        Acc rpTm 52 N2 (fun q => N2 ≤ q) wr v (args.take j)) (fun i _ => args.length - (intOf i).toNat)
    case atStart => exact ⟨0, _, rfl, by omega, hsz2, B3, z0, z1, zp, U3.out, hacc0⟩
    case round =>
      clear B3 z0 z1 zp U3 hacc0 hsz2 hlp hlp2 c3
      obtain ⟨j, v, rfl, hj, hsN, hb, hbox, hres, hout, hbi, hacc⟩ := hrel
      have c0 : wr.cell? ⟨w.heap.size, 3, none⟩ = some (.slice a args.length c) := hbox.cell rfl
      have d0 : wr.cell? ⟨p, 3, none⟩ = some v := hout.cell rfl
      have hszp := hout.lt
      have hszb := hres.lt
      have Hacc := Lib.hid hacc; clear hacc
      by_cases hlt : j < args.length
      · obtain ⟨rfl, hF⟩ := ha (by omega)
        clear ha
        have hkp : Keep F w0 wr := hw.below hb
        have e1 := hkp _ _ _ hF (h1 j hlt)
        have e2 := hkp _ _ _ hF (h2 j hlt)
        have e3 := hkp _ _ _ hF (h3 j hlt)
        have e4 := hkp _ _ _ hF (h4 j hlt)
        have hlt0 : (0 : Int) ≤ (j : Int) := Int.natCast_nonneg _
        have hlt1 : (j : Int) < (args.length : Int) := by omega
        have Hbw : Hid (bl < w.heap.size) := Keep.lt (hw _ _ _ hF (h1 j hlt))
        have Hbl : Hid (v.ownBlock ≠ some bl) := fun e => by have := (Hacc.out.base_le bl e).1; have := Hbw.out; omega
        have Hl : Hid ((args.take j).length = j) := by show _ = _; simp; omega
        have Hne : Hid (∀ q, q < N2 → v.ownBlock ≠ some q) := fun q hq e => by have := (Hacc.out.base_le q e).1; omega
        go_wp2_with fail
        refine wp_region_noPanic (wp_region_need (S := fun w' => w'.cell? ⟨w.heap.size, 3, none⟩ = some (.slice (some ⟨bl, off, none⟩) args.length c) ∧ w'.cell? ⟨p, 3, none⟩ = some v ∧ w'.cell? ⟨bl, off + j * 4, none⟩ = some (.slice (PA j) (PN j) (PC j)) ∧ w'.cell? ⟨bl, off + j * 4 + 1, none⟩ = some (.int .i64 (Kd j)) ∧ w'.cell? ⟨bl, off + j * 4 + 2, none⟩ = some (.int .i64 (Ix j)) ∧ w'.cell? ⟨bl, off + j * 4 + 3, none⟩ = some (.slice (A j) (N j) (C j))) (by kernel_rfl) ?_)
        have hS : (wr.drew).cell? ⟨w.heap.size, 3, none⟩ = some (.slice (some ⟨bl, off, none⟩) args.length c) ∧ (wr.drew).cell? ⟨p, 3, none⟩ = some v ∧ (wr.drew).cell? ⟨bl, off + j * 4, none⟩ = some (.slice (PA j) (PN j) (PC j)) ∧ (wr.drew).cell? ⟨bl, off + j * 4 + 1, none⟩ = some (.int .i64 (Kd j)) ∧ (wr.drew).cell? ⟨bl, off + j * 4 + 2, none⟩ = some (.int .i64 (Ix j)) ∧ (wr.drew).cell? ⟨bl, off + j * 4 + 3, none⟩ = some (.slice (A j) (N j) (C j)) := ⟨c0, d0, e1, e2, e3, e4⟩
        refine wpN_take (i := 0) (v := ?v10) rfl (by kernel_rfl) (fun _ _ _ h => h) hS (Or.inl ⟨by rfl, ?hy10⟩) ?hr10
        case hy10 => (intro wS hSw; (try dsimp only at hSw); go_simp; (try with_reducible rfl))
        try simp only [Act.put, List.setIfInBounds_toArray, List.set_cons_zero, List.set_cons_succ, List.getElem_toArray, List.getElem_cons_zero, List.getElem_cons_succ]
        refine wpN_take (i := 1) (v := ?v11) rfl (by kernel_rfl) (fun _ _ _ h => h) hS (Or.inl ⟨by rfl, ?hy11⟩) ?hr11
        case hy11 => (intro wS hSw; (try dsimp only at hSw); go_simp; (try with_reducible rfl))
        try simp only [Act.put, List.setIfInBounds_toArray, List.set_cons_zero, List.set_cons_succ, List.getElem_toArray, List.getElem_cons_zero, List.getElem_cons_succ]
        refine wpN_take (i := 2) (v := ?v12) rfl (by kernel_rfl) (fun _ _ _ h => h) hS (Or.inl ⟨by rfl, ?hy12⟩) ?hr12
        case hy12 => (intro wS hSw; (try dsimp only at hSw); go_simp; (try with_reducible rfl))
        try simp only [Act.put, List.setIfInBounds_toArray, List.set_cons_zero, List.set_cons_succ, List.getElem_toArray, List.getElem_cons_zero, List.getElem_cons_succ]
        refine wpN_take (i := 3) (v := ?v13) rfl (by kernel_rfl) (fun _ _ _ h => h) hS (Or.inl ⟨by rfl, ?hy13⟩) ?hr13
        case hy13 => (intro wS hSw; (try dsimp only at hSw); go_simp; (try with_reducible rfl))
        try simp only [Act.put, List.setIfInBounds_toArray, List.set_cons_zero, List.set_cons_succ, List.getElem_toArray, List.getElem_cons_zero, List.getElem_cons_succ]
        refine wpN_take (i := 4) (v := ?v14) rfl (by kernel_rfl) (fun _ _ _ h => h) hS (Or.inl ⟨by rfl, ?hy14⟩) ?hr14
        case hy14 => (intro wS hSw; (try dsimp only at hSw); go_simp; (try with_reducible rfl))
        try simp only [Act.put, List.setIfInBounds_toArray, List.set_cons_zero, List.set_cons_succ, List.getElem_toArray, List.getElem_cons_zero, List.getElem_cons_succ]
        refine wpN_take (i := 5) (v := ?v15) rfl (by kernel_rfl) (fun _ _ _ h => h) hS (Or.inl ⟨by rfl, ?hy15⟩) ?hr15
        case hy15 => (intro wS hSw; (try dsimp only at hSw); go_simp; (try with_reducible rfl))
        try simp only [Act.put, List.setIfInBounds_toArray, List.set_cons_zero, List.set_cons_succ, List.getElem_toArray, List.getElem_cons_zero, List.getElem_cons_succ]
        refine wpN_take (i := 6) (v := ?v16) rfl (by kernel_rfl) (fun _ _ _ h => h) hS (Or.inl ⟨by rfl, ?hy16⟩) ?hr16
        case hy16 => (intro wS hSw; (try dsimp only at hSw); go_simp; (try with_reducible rfl))
        try simp only [Act.put, List.setIfInBounds_toArray, List.set_cons_zero, List.set_cons_succ, List.getElem_toArray, List.getElem_cons_zero, List.getElem_cons_succ]
        refine wpN_step (i := 7) (by kernel_rfl) rfl (fun K hK => ?_)
        go_simp
        refine (Hih.out j hlt _ (Hsz.out j hlt) (hkp.drew)).mono ?_
        rintro e w3 ⟨b', k', i', a', rfl, hr1, hb1⟩
        have hK1 : Keep (fun q => v.ownBlock ≠ some q) wr w3 := ((Keep.refl _ _).drew).below hb1
        have hS : (w3).cell? ⟨w.heap.size, 3, none⟩ = some (.slice (some ⟨bl, off, none⟩) args.length c) ∧ (w3).cell? ⟨p, 3, none⟩ = some v ∧ (w3).cell? ⟨bl, off + j * 4, none⟩ = some (.slice (PA j) (PN j) (PC j)) ∧ (w3).cell? ⟨bl, off + j * 4 + 1, none⟩ = some (.int .i64 (Kd j)) ∧ (w3).cell? ⟨bl, off + j * 4 + 2, none⟩ = some (.int .i64 (Ix j)) ∧ (w3).cell? ⟨bl, off + j * 4 + 3, none⟩ = some (.slice (A j) (N j) (C j)) := ⟨(Blk.below (w := wr.drew) hbox hb1).cell rfl, (Blk.below (w := wr.drew) hout hb1).cell rfl, hK1 _ _ _ Hbl.out e1, hK1 _ _ _ Hbl.out e2, hK1 _ _ _ Hbl.out e3, hK1 _ _ _ Hbl.out e4⟩
        refine hK.out _ _ (fun _ => hS) ?_
        clear hK K
        try simp only [Act.put, List.setIfInBounds_toArray, List.set_cons_zero, List.set_cons_succ, List.getElem_toArray, List.getElem_cons_zero, List.getElem_cons_succ]
        refine wpN_step (i := 8) (by kernel_rfl) rfl (fun K hK => ?_)
        go_simp
        have hS : (w3.alloc (.cells #[b', k', i', a'] 52)).cell? ⟨w.heap.size, 3, none⟩ = some (.slice (some ⟨bl, off, none⟩) args.length c) ∧ (w3.alloc (.cells #[b', k', i', a'] 52)).cell? ⟨p, 3, none⟩ = some v ∧ (w3.alloc (.cells #[b', k', i', a'] 52)).cell? ⟨bl, off + j * 4, none⟩ = some (.slice (PA j) (PN j) (PC j)) ∧ (w3.alloc (.cells #[b', k', i', a'] 52)).cell? ⟨bl, off + j * 4 + 1, none⟩ = some (.int .i64 (Kd j)) ∧ (w3.alloc (.cells #[b', k', i', a'] 52)).cell? ⟨bl, off + j * 4 + 2, none⟩ = some (.int .i64 (Ix j)) ∧ (w3.alloc (.cells #[b', k', i', a'] 52)).cell? ⟨bl, off + j * 4 + 3, none⟩ = some (.slice (A j) (N j) (C j)) := ⟨((Blk.below (w := wr.drew) hbox hb1).alloc _).cell rfl, ((Blk.below (w := wr.drew) hout hb1).alloc _).cell rfl, (hK1.alloc _) _ _ _ Hbl.out e1, (hK1.alloc _) _ _ _ Hbl.out e2, (hK1.alloc _) _ _ _ Hbl.out e3, (hK1.alloc _) _ _ _ Hbl.out e4⟩
        refine hK.out _ _ (fun _ => hS) ?_
        clear hK K
        try simp only [Act.put, List.setIfInBounds_toArray, List.set_cons_zero, List.set_cons_succ, List.getElem_toArray, List.getElem_cons_zero, List.getElem_cons_succ]
        refine wpN_step (i := 9) (by kernel_rfl) rfl (fun K hK => ?_)
        refine step_push rpTm (by decide) (by rfl) _ _ _ (by rfl) N2 52 i1 _ 64 Tryz.underlying50 hi0 hz0 hz1 hz2 rfl (by decide)
               (fun q => N2 ≤ q) v (args.take j) (by rfl) (((Hacc.out.drew).below hb1).alloc _) (by rw [Hl.out]; omega)
               w3.heap.size _ [b', k', i', a'] args[j] (by rfl) (heap_alloc_new _ _) ⟨_, _, _, _, rfl, (hr1.weaken (fun q _ hq => ⟨Nat.le_trans (show N2 ≤ wr.drew.heap.size from hsN) hq, fun e => by have := (Hacc.out.base_le q e).2; exact absurd this (Nat.not_lt.2 hq)⟩)).keep ((Keep.refl _ _).alloc _)⟩ (by have := hb1.size; simp at this ⊢; omega) ?_
        intro gg cap w4 hacc2 hgrow hat hlt2
        have hK2 : Keep (fun q => v.ownBlock ≠ some q) wr w4 := (hK1.alloc _).grown hgrow (fun _ hr hf => hf hr)
        have o2 := hout.push hb1 hgrow (Hne.out _ (by omega))
        have o1 := hres.push hb1 hgrow (Hne.out _ (by omega))
        have o0 := hbox.push hb1 hgrow (Hne.out _ (by omega))
        have bi4 := Lib.hid ((hbi.out.weaken (F' := fun q => (w.heap.size + 2 ≤ q ∧ q ≠ p ∧ q < N2) ∧ v.ownBlock ≠ some q) (by decide) fun q _ h => ⟨h, Hne.out q h.2.2⟩).keep (hK2.weaken fun q h => h.2))
        have B4 := below_push hb (by have := hb.size; omega) hb1 hgrow (fun q hq => by have := (Hacc.out.base_le q hq).1; omega)
        have hS : (w4).cell? ⟨w.heap.size, 3, none⟩ = some (.slice (some ⟨bl, off, none⟩) args.length c) ∧ (w4).cell? ⟨p, 3, none⟩ = some v ∧ (w4).cell? ⟨bl, off + j * 4, none⟩ = some (.slice (PA j) (PN j) (PC j)) ∧ (w4).cell? ⟨bl, off + j * 4 + 1, none⟩ = some (.int .i64 (Kd j)) ∧ (w4).cell? ⟨bl, off + j * 4 + 2, none⟩ = some (.int .i64 (Ix j)) ∧ (w4).cell? ⟨bl, off + j * 4 + 3, none⟩ = some (.slice (A j) (N j) (C j)) := ⟨o0.cell (i := 3) rfl, o2.cell (i := 3) rfl, hK2 _ _ _ Hbl.out e1, hK2 _ _ _ Hbl.out e2, hK2 _ _ _ Hbl.out e3, hK2 _ _ _ Hbl.out e4⟩
        have p2 := o2.free 3
        have Hacc2 := Lib.hid hacc2; clear hacc2
        refine hK.out _ _ (fun _ => hS) ?_
        clear hK K
        try simp only [Act.put, List.setIfInBounds_toArray, List.set_cons_zero, List.set_cons_succ, List.getElem_toArray, List.getElem_cons_zero, List.getElem_cons_succ]
        refine wpN_take (i := 10) (v := ?v17) rfl (by kernel_rfl) (fun _ _ _ h => h) hS (Or.inl ⟨by rfl, ?hy17⟩) ?hr17
        case hy17 => (intro wS hSw; (try dsimp only at hSw); go_simp; (try with_reducible rfl))
        try simp only [Act.put, List.setIfInBounds_toArray, List.set_cons_zero, List.set_cons_succ, List.getElem_toArray, List.getElem_cons_zero, List.getElem_cons_succ]
        refine wpN_step (i := 11) (by kernel_rfl) rfl (fun K hK => ?_)
        go_simp
        refine hK.out _ _ (fun h => absurd h (by decide)) ?_
        clear hK K
        try simp only [Act.put, List.setIfInBounds_toArray, List.set_cons_zero, List.set_cons_succ, List.getElem_toArray, List.getElem_cons_zero, List.getElem_cons_succ]
        refine wpN_done (by kernel_rfl) ?_
        refine NoPanic.normal ?_
        have hs4 : N2 ≤ w4.heap.size := by have := B4.size; have := hgrow.size; have := hb1.size; simp at *; omega
        go_wp2_with fail
        refine ⟨⟨j + 1, _, by go_num, by omega, by simpa using hs4, B4.setCell (by simp; omega) _, o0.far _ _ (by simp; omega), o1.far _ _ (by simp; omega), o2.set 3 _, ?_, ?_⟩, by simp [intOf]; omega⟩
        · exact ((bi4.out.weaken (F' := fun q => w.heap.size + 2 ≤ q ∧ q ≠ p ∧ q < N2) (by decide) fun q _ h => h.1).keep ((Keep.refl _ _).setCell _ _ (by simp)))
        · have h := Hacc2.out
          rw [Hl.out, ← List.take_succ_eq_append_getElem hlt] at h
          exact h.setCell _ _ (by simp; omega) (by simp; omega)
      · obtain ⟨va, vc, hv⟩ := Hacc.out.len_shape
        rw [List.length_take, Nat.min_eq_left hj] at hv
        subst hv
        have d1 : wr.cell? ⟨p, 0, none⟩ = some (.slice qa' binds.length qc') := hout.cell rfl
        have d2 : wr.cell? ⟨p, 1, none⟩ = some (.int .i64 k) := hout.cell rfl
        have d3 : wr.cell? ⟨p, 2, none⟩ = some (.int .i64 i0) := hout.cell rfl
        have r0 : wr.cell? ⟨w.heap.size + 1, 0, none⟩ = some (.slice none 0 0) := hres.cell rfl
        have r1 : wr.cell? ⟨w.heap.size + 1, 1, none⟩ = some (.int .i64 0) := hres.cell rfl
        have r2 : wr.cell? ⟨w.heap.size + 1, 2, none⟩ = some (.int .i64 0) := hres.cell rfl
        have r3 : wr.cell? ⟨w.heap.size + 1, 3, none⟩ = some (.slice none 0 0) := hres.cell rfl
        have f0 := hres.free 0
        have f1 := hres.free 1
        have f2 := hres.free 2
        have f3 := hres.free 3
        go_wp2_with fail
        refine bodyPost_ret (v := .agg #[.slice qa' binds.length qc', .int .i64 k, .int .i64 i0, .slice va j vc]) (by simp [results, Tryz.results29, go_sem, r0, r1, r2, r3]) rfl ?_
        have hkn : j = args.length := by omega
        refine ⟨_, _, _, _, rfl, ?_, (((hb.setCell (by simp) _).setCell (by simp) _).setCell (by simp) _).setCell (by simp) _⟩
        have hf : ∀ q, N2 ≤ q → q ≠ w.heap.size + 1 := fun q h => by omega
        have h := Hacc.out
        rw [List.take_of_length_le (by omega)] at h
        have hA := ((((h.setCell ⟨w.heap.size + 1, 0, none⟩ (.slice qa' binds.length qc') (by simp; omega) (by simp; omega)).setCell ⟨w.heap.size + 1, 1, none⟩ (.int .i64 k) (by simp; omega) (by simp; omega)).setCell ⟨w.heap.size + 1, 2, none⟩ (.int .i64 i0) (by simp; omega) (by simp; omega)).setCell ⟨w.heap.size + 1, 3, none⟩ (.slice va j vc) (by simp; omega) (by simp; omega))
        have KR : Keep (fun q => w.heap.size + 2 ≤ q ∧ q ≠ p ∧ q < N2) wr ((((wr.setCell ⟨w.heap.size + 1, 0, none⟩ (.slice qa' binds.length qc')).setCell ⟨w.heap.size + 1, 1, none⟩ (.int .i64 k)).setCell ⟨w.heap.size + 1, 2, none⟩ (.int .i64 i0)).setCell ⟨w.heap.size + 1, 3, none⟩ (.slice va j vc)) :=
          ((((Keep.refl _ _).setCell _ _ (by simp)).setCell _ _ (by simp)).setCell _ _ (by simp)).setCell _ _ (by simp)
        exact isTm_mk ((hbi.out.keep KR).weaken (by decide) fun q _ h => by omega) (hA.sl (F' := fun q => w.heap.size ≤ q) (fun q _ hq => by omega) (fun q hq => by omega)) k i0
set_option maxRecDepth 100000 in
set_option maxHeartbeats 1600000 in
theorem of6_any {F : Nat → Prop} {w0 : World} {b k i a : Value} {t : Tm} (ht : IsTm F w0 b k i a t) : ∀ (w : World), t.full ≤ 1000000 →
    Keep F w0 w →
    Calls Tryz.prog 27 #[.agg #[b, k, i, a]] w (FreshTm t w) := by
  induction ht with
  | mk bv k i0 a n c binds args bl off PA A PN PC N C Kd Ix hb hn hm ha h1 h2 h3 h4 h5 ih =>
  intro w hsize hw
  subst hn
  obtain ⟨pa, pc, rfl⟩ := hb.shape
  clear h5
  rw [Tm.full_eq] at hsize
  have hlen : args.length ≤ 1000000 := by have := Tm.len_fulls args; omega
  have Hsz : Hid (∀ j (h : j < args.length), args[j].full ≤ 1000000) := fun j h => by have := Tm.full_mem (List.getElem_mem h); omega
  have Htys : Hid (∀ w, Keep F w0 w → Calls Tryz.prog 65 #[.slice pa binds.length pc] w (FreshTys binds w)) := fun w hw => ofTypes_any hb w hw (by omega)
  have Hih := Lib.hid ih; clear ih hsize hb
  obtain ⟨i1, hi0, hz0, hz1, hz2⟩ := info_parts infoM
  go_enter Tryz.func27, Tryz.ntmps27
  go_wp2_with fail
  obtain ⟨w1, hw1⟩ : ∃ w1, (w.alloc (.cells #[.slice pa binds.length pc, .int .i64 k, .int .i64 i0, .slice a args.length c] 52)).alloc (.cells #[.slice none 0 0, .int .i64 0, .int .i64 0, .slice none 0 0] 47) = w1 := ⟨_, rfl⟩
  have B1 : Below w.heap.size w w1 := by rw [← hw1]; exact ((Below.refl _ _).alloc (Nat.le_refl _) _).alloc (by simp) _
  have x0 : Blk w1 w.heap.size #[.slice pa binds.length pc, .int .i64 k, .int .i64 i0, .slice a args.length c] 52 := by rw [← hw1]; exact (Blk.new _ _ _ rfl).alloc _
  have x1 : Blk w1 (w.heap.size + 1) #[.slice none 0 0, .int .i64 0, .int .i64 0, .slice none 0 0] 47 := by rw [← hw1]; exact Blk.new _ _ _ (by simp)
  have hsz1 : w1.heap.size = w.heap.size + 2 := by rw [← hw1]; simp
  rw [hw1]
  clear hw1
  refine wp_region_noPanic (wp_region_need (S := fun w' => w'.cell? ⟨w.heap.size, 0, none⟩ = some (.slice pa binds.length pc) ∧ w'.cell? ⟨w.heap.size, 1, none⟩ = some (.int .i64 k) ∧ w'.cell? ⟨w.heap.size, 2, none⟩ = some (.int .i64 i0)) (by kernel_rfl) ?_)
  have hS : (w1.drew).cell? ⟨w.heap.size, 0, none⟩ = some (.slice pa binds.length pc) ∧ (w1.drew).cell? ⟨w.heap.size, 1, none⟩ = some (.int .i64 k) ∧ (w1.drew).cell? ⟨w.heap.size, 2, none⟩ = some (.int .i64 i0) := ⟨x0.drew.cell rfl, x0.drew.cell rfl, x0.drew.cell rfl⟩
  refine wpN_take (i := 0) (v := ?v18) rfl (by kernel_rfl) (fun _ _ _ h => h) hS (Or.inl ⟨by rfl, ?hy18⟩) ?hr18
  case hy18 => (intro wS hSw; (try dsimp only at hSw); go_simp; (try with_reducible rfl))
  try simp only [Act.put, List.setIfInBounds_toArray, List.set_cons_zero, List.set_cons_succ, List.getElem_toArray, List.getElem_cons_zero, List.getElem_cons_succ]
  refine wpN_take (i := 1) (v := ?v19) rfl (by kernel_rfl) (fun _ _ _ h => h) hS (Or.inl ⟨by rfl, ?hy19⟩) ?hr19
  case hy19 => (intro wS hSw; (try dsimp only at hSw); go_simp; (try with_reducible rfl))
  try simp only [Act.put, List.setIfInBounds_toArray, List.set_cons_zero, List.set_cons_succ, List.getElem_toArray, List.getElem_cons_zero, List.getElem_cons_succ]
  refine wpN_take (i := 3) (v := ?v20) rfl (by kernel_rfl) (fun _ _ _ h => h) hS (Or.inl ⟨by rfl, ?hy20⟩) ?hr20
  case hy20 => (intro wS hSw; (try dsimp only at hSw); go_simp; (try with_reducible rfl))
  try simp only [Act.put, List.setIfInBounds_toArray, List.set_cons_zero, List.set_cons_succ, List.getElem_toArray, List.getElem_cons_zero, List.getElem_cons_succ]
  refine wpN_take (i := 4) (v := ?v21) rfl (by kernel_rfl) (fun _ _ _ h => h) hS (Or.inl ⟨by rfl, ?hy21⟩) ?hr21
  case hy21 => (intro wS hSw; (try dsimp only at hSw); go_simp; (try with_reducible rfl))
  try simp only [Act.put, List.setIfInBounds_toArray, List.set_cons_zero, List.set_cons_succ, List.getElem_toArray, List.getElem_cons_zero, List.getElem_cons_succ]
  refine wpN_take (i := 5) (v := ?v22) rfl (by kernel_rfl) (fun _ _ _ h => h) hS (Or.inl ⟨by rfl, ?hy22⟩) ?hr22
  case hy22 => (intro wS hSw; (try dsimp only at hSw); go_simp; (try with_reducible rfl))
  try simp only [Act.put, List.setIfInBounds_toArray, List.set_cons_zero, List.set_cons_succ, List.getElem_toArray, List.getElem_cons_zero, List.getElem_cons_succ]
  refine wpN_take (i := 6) (v := ?v23) rfl (by kernel_rfl) (fun _ _ _ h => h) hS (Or.inl ⟨by rfl, ?hy23⟩) ?hr23
  case hy23 => (intro wS hSw; (try dsimp only at hSw); go_simp; (try with_reducible rfl))
  try simp only [Act.put, List.setIfInBounds_toArray, List.set_cons_zero, List.set_cons_succ, List.getElem_toArray, List.getElem_cons_zero, List.getElem_cons_succ]
  refine wpN_take (i := 7) (v := ?v24) rfl (by kernel_rfl) (fun _ _ _ h => h) hS (Or.inl ⟨by rfl, ?hy24⟩) ?hr24
  case hy24 => (intro wS hSw; (try dsimp only at hSw); go_simp; (try with_reducible rfl))
  try simp only [Act.put, List.setIfInBounds_toArray, List.set_cons_zero, List.set_cons_succ, List.getElem_toArray, List.getElem_cons_zero, List.getElem_cons_succ]
  refine wpN_take (i := 8) (v := ?v25) rfl (by kernel_rfl) (fun _ _ _ h => h) hS (Or.inl ⟨by rfl, ?hy25⟩) ?hr25
  case hy25 => (intro wS hSw; (try dsimp only at hSw); go_simp; (try with_reducible rfl))
  try simp only [Act.put, List.setIfInBounds_toArray, List.set_cons_zero, List.set_cons_succ, List.getElem_toArray, List.getElem_cons_zero, List.getElem_cons_succ]
  refine wpN_take (i := 9) (v := ?v26) rfl (by kernel_rfl) (fun _ _ _ h => h) hS (Or.inl ⟨by rfl, ?hy26⟩) ?hr26
  case hy26 => (intro wS hSw; (try dsimp only at hSw); go_simp; (try with_reducible rfl))
  try simp only [Act.put, List.setIfInBounds_toArray, List.set_cons_zero, List.set_cons_succ, List.getElem_toArray, List.getElem_cons_zero, List.getElem_cons_succ]
  refine wpN_gathersP [(2, 7), (10, 15), (11, 3)] 1 (fun j v x y w' => match j with
    | 2 => ∃ qa qc, v = .slice qa binds.length qc ∧ IsSl rpTy (fun q => x ≤ q ∧ q < y) w' (.slice qa binds.length qc) binds
    | 10 => True
    | _ => v = .pointer (some ⟨x, 0, none⟩) ∧ x < y ∧ Blk w' x #[.slice none 0 0, .int .i64 0, .int .i64 0, .slice none 0 0] 47) (fun j u => match j with
    | 10 => ∃ qa qc, u 2 = .slice qa binds.length qc ∧ u 10 = .agg #[.slice qa binds.length qc, .int .i64 k, .int .i64 i0, .slice none 0 0]
    | _ => True) rfl rfl (by kernel_rfl) ?gst ?gst' hS ?gop ?gend
  case gst =>
    intro j v x y wa wb h hb
    split at h
    · obtain ⟨a, c, e, ht⟩ := h
      exact ⟨a, c, e, ht.keep ((Keep.refl _ _).below hb)⟩
    · trivial
    · exact ⟨h.1, h.2.1, h.2.2.below hb⟩
  case gst' =>
    intro j hj u u' hu h
    simp only [List.map_cons, List.map_nil, List.mem_cons, List.not_mem_nil, or_false] at hj
    rcases hj with rfl | rfl | rfl
    · trivial
    · obtain ⟨qa, qc, e1, e2⟩ := h
      exact ⟨qa, qc, (hu 2 (.inr (by kernel_rfl))).trans e1, (hu 10 (.inl rfl)).trans e2⟩
    · trivial
  case gop =>
    intro x hx u w' hdep hB' hS'
    obtain ⟨q1, q2, q3⟩ := hS'
    have hbw : Below w1.heap.size w1 w' := (Below.refl _ _).drew.trans hB'
    simp only [List.mem_cons, List.not_mem_nil, or_false] at hx
    rcases hx with rfl | rfl | rfl
    · refine wpOp_step (i := 2) rfl (fun K hK => ?_)
      have hK := Lib.hid hK
      simp only [fills, List.foldl, Act.put, List.setIfInBounds_toArray, List.set_cons_zero, List.set_cons_succ, List.getElem_toArray, List.getElem_cons_zero, List.getElem_cons_succ]
      go_simp
      refine (Htys.out w' (hw.below (B1.trans (hbw.mono B1.size)))).mono ?_
      rintro e w6 ⟨qa, qc, rfl, hT, hb6⟩
      have hKp : Keep (fun _ => True) w' w6 := (Keep.refl _ _).below hb6
      exact hK.out _ _ ⟨_, rfl, ⟨_, _, rfl, hT.weaken (by decide) fun q h1 h2 => ⟨h2, h1⟩⟩, trivial, hb6, hKp _ _ _ trivial q1, hKp _ _ _ trivial q2, hKp _ _ _ trivial q3⟩
    · obtain ⟨_, _, _, qa, qc, e1, _⟩ := hdep 2 (by simp) (by kernel_rfl)
      refine wpOp_step (i := 10) rfl (fun K hK => ?_)
      have hK := Lib.hid hK
      simp only [fills, List.foldl, Act.put, List.setIfInBounds_toArray, List.set_cons_zero, List.set_cons_succ, List.getElem_toArray, List.getElem_cons_zero, List.getElem_cons_succ]
      rw [e1]
      go_simp
      exact hK.out _ _ ⟨.agg #[.slice qa binds.length qc, .int .i64 k, .int .i64 i0, .slice none 0 0], by simp only [fills, List.foldl, Act.put, List.setIfInBounds_toArray, List.set_cons_zero, List.set_cons_succ, List.getElem_toArray, List.getElem_cons_zero, List.getElem_cons_succ]; simp [upd, e1], trivial, ⟨qa, qc, e1, rfl⟩, Below.refl _ _, q1, q2, q3⟩
    · refine wpOp_step (i := 11) rfl (fun K hK => ?_)
      have hK := Lib.hid hK
      simp only [fills, List.foldl, Act.put, List.setIfInBounds_toArray, List.set_cons_zero, List.set_cons_succ, List.getElem_toArray, List.getElem_cons_zero, List.getElem_cons_succ]
      go_simp
      have hb6 : Below w'.heap.size w' (w'.alloc (.cells #[.slice none 0 0, .int .i64 0, .int .i64 0, .slice none 0 0] 47)) := (Below.refl _ _).alloc (Nat.le_refl _) _
      have hKp : Keep (fun _ => True) w' (w'.alloc (.cells #[.slice none 0 0, .int .i64 0, .int .i64 0, .slice none 0 0] 47)) := (Keep.refl _ _).below hb6
      exact hK.out _ _ ⟨_, rfl, ⟨rfl, by simp, Blk.new _ _ _ rfl⟩, trivial, hb6, hKp _ _ _ trivial q1, hKp _ _ _ trivial q2, hKp _ _ _ trivial q3⟩
  case gend =>
    intro u lo hi w' hΦ hΨ hB' hS'
    have hbw : Below w1.heap.size w1 w' := (Below.refl _ _).drew.trans hB'
    obtain ⟨⟨qa, qc, e1, V1⟩, n1, m1, o1⟩ := hΦ.1 2 (by simp) rfl
    obtain ⟨⟨e2, r2, Z2⟩, n2, m2, o2⟩ := hΦ.1 11 (by simp) rfl
    obtain ⟨qa', qc', e3, e4⟩ := hΨ 10 (by simp)
    obtain ⟨rfl, rfl⟩ : qa' = qa ∧ qc' = qc := by rw [e1] at e3; cases e3; exact ⟨rfl, rfl⟩
    clear e3
    have k12 := hΦ.2 2 (by simp) 11 (by simp) rfl rfl (by decide)
    clear hΦ hΨ
    simp only [fills, List.foldl, Act.put, List.setIfInBounds_toArray, List.set_cons_zero, List.set_cons_succ, List.getElem_toArray, List.getElem_cons_zero, List.getElem_cons_succ]
    rw [e1, e2, e4]
    clear e1 e2 e4
    have hsz : w1.drew.heap.size = w1.heap.size := rfl
    rw [hsz, hsz1] at n1 n2
    generalize lo 11 = p at *
    have U1 := Lib.hid (V1.weaken (F' := fun q => w.heap.size + 2 ≤ q ∧ q ≠ p) (by decide) fun q _ h => ⟨by omega, by omega⟩)
    clear V1 k12 n1 m1 o1 m2 r2 o2 hsz
    have B2 := B1.trans (hbw.mono B1.size)
    have y0 := x0.below hbw
    have y1 := x1.below hbw
    have r0 : w'.cell? ⟨p, 0, none⟩ = some (.slice none 0 0) := Z2.cell rfl
    have r1 : w'.cell? ⟨p, 1, none⟩ = some (.int .i64 0) := Z2.cell rfl
    have r2 : w'.cell? ⟨p, 2, none⟩ = some (.int .i64 0) := Z2.cell rfl
    have r3 : w'.cell? ⟨p, 3, none⟩ = some (.slice none 0 0) := Z2.cell rfl
    have f0 := Z2.free 0
    have f1 := Z2.free 1
    have f2 := Z2.free 2
    have f3 := Z2.free 3
    refine wpN_step (i := 12) (by kernel_rfl) rfl (fun K hK => ?_)
    go_simp
    refine hK.out _ _ (fun h => absurd h (by decide)) ?_
    clear hK K
    try simp only [Act.put, List.setIfInBounds_toArray, List.set_cons_zero, List.set_cons_succ, List.getElem_toArray, List.getElem_cons_zero, List.getElem_cons_succ]
    refine wpN_done (by kernel_rfl) ?_
    refine NoPanic.normal ?_
    obtain ⟨w2, hw2⟩ : ∃ w2, ((((w'.setCell ⟨p, 0, none⟩ (.slice qa' binds.length qc')).setCell ⟨p, 1, none⟩ (.int .i64 k)).setCell ⟨p, 2, none⟩ (.int .i64 i0)).setCell ⟨p, 3, none⟩ (.slice none 0 0)) = w2 := ⟨_, rfl⟩
    have hlp := Z2.lt
    have B3 : Below w.heap.size w w2 := by rw [← hw2]; exact ((((B2.setCell (by simp; omega) _).setCell (by simp; omega) _).setCell (by simp; omega) _).setCell (by simp; omega) _)
    have z0 : Blk w2 w.heap.size #[.slice pa binds.length pc, .int .i64 k, .int .i64 i0, .slice a args.length c] 52 := by rw [← hw2]; exact ((((y0.far _ _ (by simp; omega)).far _ _ (by simp; omega)).far _ _ (by simp; omega)).far _ _ (by simp; omega))
    have z1 : Blk w2 (w.heap.size + 1) #[.slice none 0 0, .int .i64 0, .int .i64 0, .slice none 0 0] 47 := by rw [← hw2]; exact ((((y1.far _ _ (by simp; omega)).far _ _ (by simp; omega)).far _ _ (by simp; omega)).far _ _ (by simp; omega))
    have zp : Blk w2 p #[.slice qa' binds.length qc', .int .i64 k, .int .i64 i0, .slice none 0 0] 47 := by rw [← hw2]; exact ((((Z2.set 0 _).set 1 _).set 2 _).set 3 _)
    have KU : Keep (fun q => w.heap.size + 2 ≤ q ∧ q ≠ p) w' w2 := by rw [← hw2]; exact ((((Keep.refl _ _).setCell _ _ (by simp)).setCell _ _ (by simp)).setCell _ _ (by simp)).setCell _ _ (by simp)
    have U2 := Lib.hid (U1.out.keep KU)
    rw [hw2]
    clear hw2 KU U1 y0 y1 Z2 r0 r1 r2 r3 f0 f1 f2 f3 B2 hbw hB' hS' hS x0 x1 B1
    have hlp2 := zp.lt
    obtain ⟨N2, hN2⟩ : ∃ n, w2.heap.size = n := ⟨_, rfl⟩
    have HN2 := Lib.hid hN2; clear hN2
    have hpN : p < N2 := by have := HN2.out; omega
    have c3 : w2.cell? ⟨w.heap.size, 3, none⟩ = some (.slice a args.length c) := z0.cell rfl
    have U3 := Lib.hid (U2.out.weaken (F' := fun q => w.heap.size + 2 ≤ q ∧ q ≠ p ∧ q < N2) (by decide) fun q h1 h2 => ⟨h2.1, h2.2, by have := HN2.out; omega⟩)
    clear U2
    have hsz2 : N2 ≤ w2.heap.size := by have := HN2.out; omega
    have hacc0 : Acc rpTm 47 N2 (fun q => N2 ≤ q) w2 (.slice none 0 0) [] := Acc.nil _ _ _ _ _
    go_wp2_with fail
    go_loopw [4] (fun i wr => ∃ (j : Nat) (v : Value), i = .int .i64 j ∧ j ≤ args.length ∧ N2 ≤ wr.heap.size ∧
        Below w.heap.size w wr ∧ Blk wr w.heap.size #[.slice pa binds.length pc, .int .i64 k, .int .i64 i0, .slice a args.length c] 52 ∧ Blk wr (w.heap.size + 1) #[.slice none 0 0, .int .i64 0, .int .i64 0, .slice none 0 0] 47 ∧ Blk wr p #[.slice qa' binds.length qc', .int .i64 k, .int .i64 i0, v] 47 ∧
        Hid (IsSl rpTy (fun q => w.heap.size + 2 ≤ q ∧ q ≠ p ∧ q < N2) wr (.slice qa' binds.length qc') binds) ∧
        Acc rpTm 47 N2 (fun q => N2 ≤ q) wr v (args.take j)) (fun i _ => args.length - (intOf i).toNat)
    case atStart => exact ⟨0, _, rfl, by omega, hsz2, B3, z0, z1, zp, U3.out, hacc0⟩
    case round =>
      clear B3 z0 z1 zp U3 hacc0 hsz2 hlp hlp2 c3
      obtain ⟨j, v, rfl, hj, hsN, hb, hbox, hres, hout, hbi, hacc⟩ := hrel
      have c0 : wr.cell? ⟨w.heap.size, 3, none⟩ = some (.slice a args.length c) := hbox.cell rfl
      have d0 : wr.cell? ⟨p, 3, none⟩ = some v := hout.cell rfl
      have hszp := hout.lt
      have hszb := hres.lt
      have Hacc := Lib.hid hacc; clear hacc
      by_cases hlt : j < args.length
      · obtain ⟨rfl, hF⟩ := ha (by omega)
        clear ha
        have hkp : Keep F w0 wr := hw.below hb
        have e1 := hkp _ _ _ hF (h1 j hlt)
        have e2 := hkp _ _ _ hF (h2 j hlt)
        have e3 := hkp _ _ _ hF (h3 j hlt)
        have e4 := hkp _ _ _ hF (h4 j hlt)
        have hlt0 : (0 : Int) ≤ (j : Int) := Int.natCast_nonneg _
        have hlt1 : (j : Int) < (args.length : Int) := by omega
        have Hbw : Hid (bl < w.heap.size) := Keep.lt (hw _ _ _ hF (h1 j hlt))
        have Hbl : Hid (v.ownBlock ≠ some bl) := fun e => by have := (Hacc.out.base_le bl e).1; have := Hbw.out; omega
        have Hl : Hid ((args.take j).length = j) := by show _ = _; simp; omega
        have Hne : Hid (∀ q, q < N2 → v.ownBlock ≠ some q) := fun q hq e => by have := (Hacc.out.base_le q e).1; omega
        go_wp2_with fail
        refine wp_region_noPanic (wp_region_need (S := fun w' => w'.cell? ⟨w.heap.size, 3, none⟩ = some (.slice (some ⟨bl, off, none⟩) args.length c) ∧ w'.cell? ⟨p, 3, none⟩ = some v ∧ w'.cell? ⟨bl, off + j * 4, none⟩ = some (.slice (PA j) (PN j) (PC j)) ∧ w'.cell? ⟨bl, off + j * 4 + 1, none⟩ = some (.int .i64 (Kd j)) ∧ w'.cell? ⟨bl, off + j * 4 + 2, none⟩ = some (.int .i64 (Ix j)) ∧ w'.cell? ⟨bl, off + j * 4 + 3, none⟩ = some (.slice (A j) (N j) (C j))) (by kernel_rfl) ?_)
        have hS : (wr.drew).cell? ⟨w.heap.size, 3, none⟩ = some (.slice (some ⟨bl, off, none⟩) args.length c) ∧ (wr.drew).cell? ⟨p, 3, none⟩ = some v ∧ (wr.drew).cell? ⟨bl, off + j * 4, none⟩ = some (.slice (PA j) (PN j) (PC j)) ∧ (wr.drew).cell? ⟨bl, off + j * 4 + 1, none⟩ = some (.int .i64 (Kd j)) ∧ (wr.drew).cell? ⟨bl, off + j * 4 + 2, none⟩ = some (.int .i64 (Ix j)) ∧ (wr.drew).cell? ⟨bl, off + j * 4 + 3, none⟩ = some (.slice (A j) (N j) (C j)) := ⟨c0, d0, e1, e2, e3, e4⟩
        refine wpN_take (i := 0) (v := ?v27) rfl (by kernel_rfl) (fun _ _ _ h => h) hS (Or.inl ⟨by rfl, ?hy27⟩) ?hr27
        case hy27 => (intro wS hSw; (try dsimp only at hSw); go_simp; (try with_reducible rfl))
        try simp only [Act.put, List.setIfInBounds_toArray, List.set_cons_zero, List.set_cons_succ, List.getElem_toArray, List.getElem_cons_zero, List.getElem_cons_succ]
        refine wpN_take (i := 1) (v := ?v28) rfl (by kernel_rfl) (fun _ _ _ h => h) hS (Or.inl ⟨by rfl, ?hy28⟩) ?hr28
        case hy28 => (intro wS hSw; (try dsimp only at hSw); go_simp; (try with_reducible rfl))
        try simp only [Act.put, List.setIfInBounds_toArray, List.set_cons_zero, List.set_cons_succ, List.getElem_toArray, List.getElem_cons_zero, List.getElem_cons_succ]
        refine wpN_take (i := 2) (v := ?v29) rfl (by kernel_rfl) (fun _ _ _ h => h) hS (Or.inl ⟨by rfl, ?hy29⟩) ?hr29
        case hy29 => (intro wS hSw; (try dsimp only at hSw); go_simp; (try with_reducible rfl))
        try simp only [Act.put, List.setIfInBounds_toArray, List.set_cons_zero, List.set_cons_succ, List.getElem_toArray, List.getElem_cons_zero, List.getElem_cons_succ]
        refine wpN_take (i := 3) (v := ?v30) rfl (by kernel_rfl) (fun _ _ _ h => h) hS (Or.inl ⟨by rfl, ?hy30⟩) ?hr30
        case hy30 => (intro wS hSw; (try dsimp only at hSw); go_simp; (try with_reducible rfl))
        try simp only [Act.put, List.setIfInBounds_toArray, List.set_cons_zero, List.set_cons_succ, List.getElem_toArray, List.getElem_cons_zero, List.getElem_cons_succ]
        refine wpN_take (i := 4) (v := ?v31) rfl (by kernel_rfl) (fun _ _ _ h => h) hS (Or.inl ⟨by rfl, ?hy31⟩) ?hr31
        case hy31 => (intro wS hSw; (try dsimp only at hSw); go_simp; (try with_reducible rfl))
        try simp only [Act.put, List.setIfInBounds_toArray, List.set_cons_zero, List.set_cons_succ, List.getElem_toArray, List.getElem_cons_zero, List.getElem_cons_succ]
        refine wpN_take (i := 5) (v := ?v32) rfl (by kernel_rfl) (fun _ _ _ h => h) hS (Or.inl ⟨by rfl, ?hy32⟩) ?hr32
        case hy32 => (intro wS hSw; (try dsimp only at hSw); go_simp; (try with_reducible rfl))
        try simp only [Act.put, List.setIfInBounds_toArray, List.set_cons_zero, List.set_cons_succ, List.getElem_toArray, List.getElem_cons_zero, List.getElem_cons_succ]
        refine wpN_take (i := 6) (v := ?v33) rfl (by kernel_rfl) (fun _ _ _ h => h) hS (Or.inl ⟨by rfl, ?hy33⟩) ?hr33
        case hy33 => (intro wS hSw; (try dsimp only at hSw); go_simp; (try with_reducible rfl))
        try simp only [Act.put, List.setIfInBounds_toArray, List.set_cons_zero, List.set_cons_succ, List.getElem_toArray, List.getElem_cons_zero, List.getElem_cons_succ]
        refine wpN_step (i := 7) (by kernel_rfl) rfl (fun K hK => ?_)
        go_simp
        refine (Hih.out j hlt _ (Hsz.out j hlt) (hkp.drew)).mono ?_
        rintro e w3 ⟨b', k', i', a', rfl, hr1, hb1⟩
        have hK1 : Keep (fun q => v.ownBlock ≠ some q) wr w3 := ((Keep.refl _ _).drew).below hb1
        have hS : (w3).cell? ⟨w.heap.size, 3, none⟩ = some (.slice (some ⟨bl, off, none⟩) args.length c) ∧ (w3).cell? ⟨p, 3, none⟩ = some v ∧ (w3).cell? ⟨bl, off + j * 4, none⟩ = some (.slice (PA j) (PN j) (PC j)) ∧ (w3).cell? ⟨bl, off + j * 4 + 1, none⟩ = some (.int .i64 (Kd j)) ∧ (w3).cell? ⟨bl, off + j * 4 + 2, none⟩ = some (.int .i64 (Ix j)) ∧ (w3).cell? ⟨bl, off + j * 4 + 3, none⟩ = some (.slice (A j) (N j) (C j)) := ⟨(Blk.below (w := wr.drew) hbox hb1).cell rfl, (Blk.below (w := wr.drew) hout hb1).cell rfl, hK1 _ _ _ Hbl.out e1, hK1 _ _ _ Hbl.out e2, hK1 _ _ _ Hbl.out e3, hK1 _ _ _ Hbl.out e4⟩
        refine hK.out _ _ (fun _ => hS) ?_
        clear hK K
        try simp only [Act.put, List.setIfInBounds_toArray, List.set_cons_zero, List.set_cons_succ, List.getElem_toArray, List.getElem_cons_zero, List.getElem_cons_succ]
        refine wpN_step (i := 8) (by kernel_rfl) rfl (fun K hK => ?_)
        go_simp
        have hS : (w3.alloc (.cells #[b', k', i', a'] 47)).cell? ⟨w.heap.size, 3, none⟩ = some (.slice (some ⟨bl, off, none⟩) args.length c) ∧ (w3.alloc (.cells #[b', k', i', a'] 47)).cell? ⟨p, 3, none⟩ = some v ∧ (w3.alloc (.cells #[b', k', i', a'] 47)).cell? ⟨bl, off + j * 4, none⟩ = some (.slice (PA j) (PN j) (PC j)) ∧ (w3.alloc (.cells #[b', k', i', a'] 47)).cell? ⟨bl, off + j * 4 + 1, none⟩ = some (.int .i64 (Kd j)) ∧ (w3.alloc (.cells #[b', k', i', a'] 47)).cell? ⟨bl, off + j * 4 + 2, none⟩ = some (.int .i64 (Ix j)) ∧ (w3.alloc (.cells #[b', k', i', a'] 47)).cell? ⟨bl, off + j * 4 + 3, none⟩ = some (.slice (A j) (N j) (C j)) := ⟨((Blk.below (w := wr.drew) hbox hb1).alloc _).cell rfl, ((Blk.below (w := wr.drew) hout hb1).alloc _).cell rfl, (hK1.alloc _) _ _ _ Hbl.out e1, (hK1.alloc _) _ _ _ Hbl.out e2, (hK1.alloc _) _ _ _ Hbl.out e3, (hK1.alloc _) _ _ _ Hbl.out e4⟩
        refine hK.out _ _ (fun _ => hS) ?_
        clear hK K
        try simp only [Act.put, List.setIfInBounds_toArray, List.set_cons_zero, List.set_cons_succ, List.getElem_toArray, List.getElem_cons_zero, List.getElem_cons_succ]
        refine wpN_step (i := 9) (by kernel_rfl) rfl (fun K hK => ?_)
        refine step_push rpTm (by decide) (by rfl) _ _ _ (by rfl) N2 47 i1 _ 64 Tryz.underlying45 hi0 hz0 hz1 hz2 rfl (by decide)
               (fun q => N2 ≤ q) v (args.take j) (by rfl) (((Hacc.out.drew).below hb1).alloc _) (by rw [Hl.out]; omega)
               w3.heap.size _ [b', k', i', a'] args[j] (by rfl) (heap_alloc_new _ _) ⟨_, _, _, _, rfl, (hr1.weaken (fun q _ hq => ⟨Nat.le_trans (show N2 ≤ wr.drew.heap.size from hsN) hq, fun e => by have := (Hacc.out.base_le q e).2; exact absurd this (Nat.not_lt.2 hq)⟩)).keep ((Keep.refl _ _).alloc _)⟩ (by have := hb1.size; simp at this ⊢; omega) ?_
        intro gg cap w4 hacc2 hgrow hat hlt2
        have hK2 : Keep (fun q => v.ownBlock ≠ some q) wr w4 := (hK1.alloc _).grown hgrow (fun _ hr hf => hf hr)
        have o2 := hout.push hb1 hgrow (Hne.out _ (by omega))
        have o1 := hres.push hb1 hgrow (Hne.out _ (by omega))
        have o0 := hbox.push hb1 hgrow (Hne.out _ (by omega))
        have bi4 := Lib.hid ((hbi.out.weaken (F' := fun q => (w.heap.size + 2 ≤ q ∧ q ≠ p ∧ q < N2) ∧ v.ownBlock ≠ some q) (by decide) fun q _ h => ⟨h, Hne.out q h.2.2⟩).keep (hK2.weaken fun q h => h.2))
        have B4 := below_push hb (by have := hb.size; omega) hb1 hgrow (fun q hq => by have := (Hacc.out.base_le q hq).1; omega)
        have hS : (w4).cell? ⟨w.heap.size, 3, none⟩ = some (.slice (some ⟨bl, off, none⟩) args.length c) ∧ (w4).cell? ⟨p, 3, none⟩ = some v ∧ (w4).cell? ⟨bl, off + j * 4, none⟩ = some (.slice (PA j) (PN j) (PC j)) ∧ (w4).cell? ⟨bl, off + j * 4 + 1, none⟩ = some (.int .i64 (Kd j)) ∧ (w4).cell? ⟨bl, off + j * 4 + 2, none⟩ = some (.int .i64 (Ix j)) ∧ (w4).cell? ⟨bl, off + j * 4 + 3, none⟩ = some (.slice (A j) (N j) (C j)) := ⟨o0.cell (i := 3) rfl, o2.cell (i := 3) rfl, hK2 _ _ _ Hbl.out e1, hK2 _ _ _ Hbl.out e2, hK2 _ _ _ Hbl.out e3, hK2 _ _ _ Hbl.out e4⟩
        have p2 := o2.free 3
        have Hacc2 := Lib.hid hacc2; clear hacc2
        refine hK.out _ _ (fun _ => hS) ?_
        clear hK K
        try simp only [Act.put, List.setIfInBounds_toArray, List.set_cons_zero, List.set_cons_succ, List.getElem_toArray, List.getElem_cons_zero, List.getElem_cons_succ]
        refine wpN_take (i := 10) (v := ?v34) rfl (by kernel_rfl) (fun _ _ _ h => h) hS (Or.inl ⟨by rfl, ?hy34⟩) ?hr34
        case hy34 => (intro wS hSw; (try dsimp only at hSw); go_simp; (try with_reducible rfl))
        try simp only [Act.put, List.setIfInBounds_toArray, List.set_cons_zero, List.set_cons_succ, List.getElem_toArray, List.getElem_cons_zero, List.getElem_cons_succ]
        refine wpN_step (i := 11) (by kernel_rfl) rfl (fun K hK => ?_)
        go_simp
        refine hK.out _ _ (fun h => absurd h (by decide)) ?_
        clear hK K
        try simp only [Act.put, List.setIfInBounds_toArray, List.set_cons_zero, List.set_cons_succ, List.getElem_toArray, List.getElem_cons_zero, List.getElem_cons_succ]
        refine wpN_done (by kernel_rfl) ?_
        refine NoPanic.normal ?_
        have hs4 : N2 ≤ w4.heap.size := by have := B4.size; have := hgrow.size; have := hb1.size; simp at *; omega
        go_wp2_with fail
        refine ⟨⟨j + 1, _, by go_num, by omega, by simpa using hs4, B4.setCell (by simp; omega) _, o0.far _ _ (by simp; omega), o1.far _ _ (by simp; omega), o2.set 3 _, ?_, ?_⟩, by simp [intOf]; omega⟩
        · exact ((bi4.out.weaken (F' := fun q => w.heap.size + 2 ≤ q ∧ q ≠ p ∧ q < N2) (by decide) fun q _ h => h.1).keep ((Keep.refl _ _).setCell _ _ (by simp)))
        · have h := Hacc2.out
          rw [Hl.out, ← List.take_succ_eq_append_getElem hlt] at h
          exact h.setCell _ _ (by simp; omega) (by simp; omega)
      · obtain ⟨va, vc, hv⟩ := Hacc.out.len_shape
        rw [List.length_take, Nat.min_eq_left hj] at hv
        subst hv
        have d1 : wr.cell? ⟨p, 0, none⟩ = some (.slice qa' binds.length qc') := hout.cell rfl
        have d2 : wr.cell? ⟨p, 1, none⟩ = some (.int .i64 k) := hout.cell rfl
        have d3 : wr.cell? ⟨p, 2, none⟩ = some (.int .i64 i0) := hout.cell rfl
        have r0 : wr.cell? ⟨w.heap.size + 1, 0, none⟩ = some (.slice none 0 0) := hres.cell rfl
        have r1 : wr.cell? ⟨w.heap.size + 1, 1, none⟩ = some (.int .i64 0) := hres.cell rfl
        have r2 : wr.cell? ⟨w.heap.size + 1, 2, none⟩ = some (.int .i64 0) := hres.cell rfl
        have r3 : wr.cell? ⟨w.heap.size + 1, 3, none⟩ = some (.slice none 0 0) := hres.cell rfl
        have f0 := hres.free 0
        have f1 := hres.free 1
        have f2 := hres.free 2
        have f3 := hres.free 3
        go_wp2_with fail
        refine bodyPost_ret (v := .agg #[.slice qa' binds.length qc', .int .i64 k, .int .i64 i0, .slice va j vc]) (by simp [results, Tryz.results27, go_sem, r0, r1, r2, r3]) rfl ?_
        have hkn : j = args.length := by omega
        refine ⟨_, _, _, _, rfl, ?_, (((hb.setCell (by simp) _).setCell (by simp) _).setCell (by simp) _).setCell (by simp) _⟩
        have hf : ∀ q, N2 ≤ q → q ≠ w.heap.size + 1 := fun q h => by omega
        have h := Hacc.out
        rw [List.take_of_length_le (by omega)] at h
        have hA := ((((h.setCell ⟨w.heap.size + 1, 0, none⟩ (.slice qa' binds.length qc') (by simp; omega) (by simp; omega)).setCell ⟨w.heap.size + 1, 1, none⟩ (.int .i64 k) (by simp; omega) (by simp; omega)).setCell ⟨w.heap.size + 1, 2, none⟩ (.int .i64 i0) (by simp; omega) (by simp; omega)).setCell ⟨w.heap.size + 1, 3, none⟩ (.slice va j vc) (by simp; omega) (by simp; omega))
        have KR : Keep (fun q => w.heap.size + 2 ≤ q ∧ q ≠ p ∧ q < N2) wr ((((wr.setCell ⟨w.heap.size + 1, 0, none⟩ (.slice qa' binds.length qc')).setCell ⟨w.heap.size + 1, 1, none⟩ (.int .i64 k)).setCell ⟨w.heap.size + 1, 2, none⟩ (.int .i64 i0)).setCell ⟨w.heap.size + 1, 3, none⟩ (.slice va j vc)) :=
          ((((Keep.refl _ _).setCell _ _ (by simp)).setCell _ _ (by simp)).setCell _ _ (by simp)).setCell _ _ (by simp)
        exact isTm_mk ((hbi.out.keep KR).weaken (by decide) fun q _ h => by omega) (hA.sl (F' := fun q => w.heap.size ≤ q) (fun q _ hq => by omega) (fun q hq => by omega)) k i0
end Go.Proofs.YtiblklcfjakjmaaGreat

