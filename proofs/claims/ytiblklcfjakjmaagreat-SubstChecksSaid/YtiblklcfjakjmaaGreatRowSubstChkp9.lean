/-
  SubstChecks, walked in the deep way (great seat).
-/
import Derived.Test.YtiblklcfjakjmaaGreatRowSubstChkp8
set_option maxRecDepth 100000
set_option maxHeartbeats 1000000
set_option linter.unusedVariables false
set_option linter.unusedSimpArgs false
namespace Go.Proofs.YtiblklcfjakjmaaGreat
open Go.RowKit
def TQ9_24 : TI := ⟨3, true, [Value.int IntKind.i64 0, Value.slice none 0 0, Value.slice none 0 0], [(0, 1, false), (1, 1, false), (2, 1, false)], none, 56, 6, none⟩
theorem TQ9_24_ok : TypOk Tryz.prog 24 TQ9_24 := ⟨by kernel_rfl, by kernel_rfl, by kernel_rfl, by kernel_rfl⟩
def TQ9_25 : TI := ⟨1, false, [Value.slice none 0 0], [], some 63, 24, 5, none⟩
theorem TQ9_25_ok : TypOk Tryz.prog 25 TQ9_25 := ⟨by kernel_rfl, by kernel_rfl, by kernel_rfl, by kernel_rfl⟩
def TQ9_22 : TI := ⟨1, false, [Value.slice none 0 0], [], some 104, 24, 5, none⟩
theorem TQ9_22_ok : TypOk Tryz.prog 22 TQ9_22 := ⟨by kernel_rfl, by kernel_rfl, by kernel_rfl, by kernel_rfl⟩
def TQ9_30 : TI := ⟨1, false, [Value.slice none 0 0], [], some 99, 24, 5, none⟩
theorem TQ9_30_ok : TypOk Tryz.prog 30 TQ9_30 := ⟨by kernel_rfl, by kernel_rfl, by kernel_rfl, by kernel_rfl⟩
def TQ9_3 : TI := ⟨1, false, [Value.int IntKind.i64 0], [], none, 8, 2, none⟩
theorem TQ9_3_ok : TypOk Tryz.prog 3 TQ9_3 := ⟨by kernel_rfl, by kernel_rfl, by kernel_rfl, by kernel_rfl⟩
def TQ9_36 : TI := ⟨3, true, [Value.int IntKind.i64 0, Value.slice none 0 0, Value.slice none 0 0], [(0, 1, false), (1, 1, false), (2, 1, false)], none, 56, 6, none⟩
theorem TQ9_36_ok : TypOk Tryz.prog 36 TQ9_36 := ⟨by kernel_rfl, by kernel_rfl, by kernel_rfl, by kernel_rfl⟩
def TQ9_34 : TI := ⟨1, false, [Value.slice none 0 0], [], some 77, 24, 5, none⟩
theorem TQ9_34_ok : TypOk Tryz.prog 34 TQ9_34 := ⟨by kernel_rfl, by kernel_rfl, by kernel_rfl, by kernel_rfl⟩
def TQ9_99 : TI := ⟨5, true, [Value.int IntKind.i64 0, Value.slice none 0 0, Value.int IntKind.i64 0, Value.int IntKind.i64 0, Value.slice none 0 0], [(0, 1, false), (1, 4, true)], none, 72, 6, none⟩
theorem TQ9_99_ok : TypOk Tryz.prog 99 TQ9_99 := ⟨by kernel_rfl, by kernel_rfl, by kernel_rfl, by kernel_rfl⟩
def TQ9_77 : TI := ⟨2, true, [Value.slice none 0 0, Value.int IntKind.i64 0], [(0, 1, false), (1, 1, false)], none, 32, 6, none⟩
theorem TQ9_77_ok : TypOk Tryz.prog 77 TQ9_77 := ⟨by kernel_rfl, by kernel_rfl, by kernel_rfl, by kernel_rfl⟩
def TQ9_104 : TI := ⟨2, true, [Value.slice none 0 0, Value.int IntKind.i64 0], [(0, 1, false), (1, 1, false)], none, 32, 6, none⟩
theorem TQ9_104_ok : TypOk Tryz.prog 104 TQ9_104 := ⟨by kernel_rfl, by kernel_rfl, by kernel_rfl, by kernel_rfl⟩
def TQ9_63 : TI := ⟨5, true, [Value.int IntKind.i64 0, Value.slice none 0 0, Value.int IntKind.i64 0, Value.int IntKind.i64 0, Value.slice none 0 0], [(0, 1, false), (1, 4, true)], none, 72, 6, none⟩
theorem TQ9_63_ok : TypOk Tryz.prog 63 TQ9_63 := ⟨by kernel_rfl, by kernel_rfl, by kernel_rfl, by kernel_rfl⟩
def TQ9 : List (Nat × TI) := [(24, TQ9_24), (25, TQ9_25), (22, TQ9_22), (30, TQ9_30), (3, TQ9_3), (36, TQ9_36), (34, TQ9_34), (99, TQ9_99), (77, TQ9_77), (104, TQ9_104), (63, TQ9_63)]
theorem TQ9_ok : TabOk Tryz.prog TQ9 := ((((((((((((TabOk.nil _).cons TQ9_63_ok).cons TQ9_104_ok).cons TQ9_77_ok).cons TQ9_99_ok).cons TQ9_34_ok).cons TQ9_36_ok).cons TQ9_3_ok).cons TQ9_30_ok).cons TQ9_22_ok).cons TQ9_25_ok).cons TQ9_24_ok)

theorem wide_full : ∀ t : Tm, t.full ≤ 100000 → Wide t := by
  intro t
  induction t using Tm.ind with
  | h bs k i a ih =>
    intro h
    rw [Tm.full_eq] at h
    have h1 := Ty.le_sizes bs
    have key : ∀ l : List Tm, l.length ≤ Tm.fulls l ∧ ∀ u ∈ l, u.full ≤ Tm.fulls l := by
      intro l
      induction l with
      | nil => exact ⟨by simp, nofun⟩
      | cons t l ihl =>
        have ht : 1 ≤ t.full := by obtain ⟨_, _, _, _⟩ := t; rw [Tm.full_eq]; omega
        simp only [Tm.fulls, List.length_cons]
        refine ⟨by omega, fun u hu => ?_⟩
        rcases List.mem_cons.1 hu with rfl | hu
        · omega
        · have := ihl.2 u hu; omega
    have h2 := key a
    exact .mk _ _ _ _ (by omega) (by omega) fun t ht => ih t ht (by have := h2.2 t ht; omega)
theorem fewT60 {t : Ty} (h : few4B t = true) : t.size ≤ 60 := by
  unfold few4B at h
  rw [decide_eq_true_eq] at h
  have := fewT_size (by decide) 1000 t 60 (by decide) h
  omega
theorem sizes_all {l : List Ty} (n : Nat) (h : ∀ t ∈ l, t.size ≤ n) : Ty.sizes l ≤ l.length * n := sizes_le_of h
theorem code_ex (C M X : List Ty) (t : Tm) (u : Ty) : ∃ c, checkCode C M t X u c := by
  by_cases h1 : t.size ≤ 5000 ∧ t.depth ≤ 60
  · by_cases h2 : IsOf C M t X u
    · exact ⟨0, .inr (.inr ⟨h1, h2, rfl⟩)⟩
    · exact ⟨5, .inr (.inl ⟨h1, h2, rfl⟩)⟩
  · exact ⟨2, .inl ⟨h1, rfl⟩⟩
set_option maxHeartbeats 1000000 in
theorem substChecks_d (b : Int) (C M X : List Ty) (l : List (Int × Tm)) (hl : l.length ≤ 9223372036854775807) (hfit : ∀ p ∈ l, p.2.Fit ∧ p.1 ≤ 9223372036854775807) :
    PureC Tryz.prog 3 [.ag [.v (.int .i64 b), .sl 2 (eTys C) none, .sl 2 (eTys M) none], .sl 2 (eTys X) none, .sl 5 (ePairs l) none] (.v (.bool true)) := by
  have hk := known09_d
  have hF := few9_d l hl fun p _ h => wide_full _ (by have := fewB_full h; omega)
  refine call_of_dw 0 35 [ResultVar.tmp 6] TQ9_ok (by kernel_rfl) Tryz.func3 rfl Tryz.ntmps3 rfl (by simp) ?dwords ?dbody
  case dwords => simp [wordsOk, D.ok, D.oks, rnames, eTys_ok, ePairs_ok]
  case dbody =>
    intro cx hnt hn0
    refine dw_seq ?_
    refine dw_k [] TQ9_ok (by kernel_rfl) hnt (by kernel_rfl) (by simp only [List.size_toArray, List.length_cons, List.length_nil, Nat.reduceAdd]; rfl) ?_
    intro K hK
    refine hK _ _ ?_
    clear hK K
    refine dw_seq (dw_seq ?_)
    cases hf : few9 l with
    | false =>
      rw [hf] at hF
      refine dw_k [] TQ9_ok (by kernel_rfl) hnt (by kernel_rfl) (by simp only [List.size_toArray, List.length_cons, List.length_nil, Nat.reduceAdd]; rfl) ?_
      intro K hK
      refine ⟨_, _, _, Or.inl (hF), by repeat first | exact trivial | refine And.intro ⟨rfl, rfl⟩ ?_, ?_⟩
      refine hK _ _ ?_
      clear hK K
      refine dw_cond (t := true) rfl ?_
      rw [if_pos rfl]
      refine dw_seq ?_
      refine dw_k [] TQ9_ok (by kernel_rfl) hnt (by kernel_rfl) (by simp only [List.size_toArray, List.length_cons, List.length_nil, Nat.reduceAdd]; rfl) ?_
      intro K hK
      refine ⟨_, _, _, Or.inl (hk), by repeat first | exact trivial | refine And.intro ⟨rfl, rfl⟩ ?_, ?_⟩
      refine hK _ _ ?_
      clear hK K
      refine dw_ret ?_
      exact retv (N := 0) (.inr rfl) rfl (VLe.refl _) trivial
    | true =>
      rw [hf] at hF
      obtain ⟨sm, hsm, hsmall⟩ : ∃ sm : Bool, PureC Tryz.prog 9 [.ag [.v (.int .i64 b), .sl 2 (eTys C) none, .sl 2 (eTys M) none], .sl 2 (eTys X) none] (.v (.bool sm)) ∧ (sm = true → C.length ≤ 20 ∧ M.length ≤ 20 ∧ X.length ≤ 20 ∧ ∀ t ∈ (C ++ M) ++ X, t.size ≤ 60) := by
        by_cases h : C.length ≤ 20 ∧ M.length ≤ 20 ∧ X.length ≤ 20
        · exact ⟨_, small_d b C M X h.1 h.2.1 h.2.2, fun ha => ⟨h.1, h.2.1, h.2.2, fun t ht => fewT60 (List.all_eq_true.1 ha t ht)⟩⟩
        · exact ⟨false, small_no b C M X h, fun e => by cases e⟩
      cases sm with
      | false =>
        refine dw_k [] TQ9_ok (by kernel_rfl) hnt (by kernel_rfl) (by simp only [List.size_toArray, List.length_cons, List.length_nil, Nat.reduceAdd]; rfl) ?_
        intro K hK
        refine ⟨_, _, _, Or.inl (hF), by repeat first | exact trivial | refine And.intro ⟨rfl, rfl⟩ ?_, ?_⟩
        refine ⟨_, _, _, Or.inl (hsm), by repeat first | exact trivial | refine And.intro ⟨rfl, rfl⟩ ?_, ?_⟩
        refine hK _ _ ?_
        clear hK K
        refine dw_cond (t := true) rfl ?_
        rw [if_pos rfl]
        refine dw_seq ?_
        refine dw_k [] TQ9_ok (by kernel_rfl) hnt (by kernel_rfl) (by simp only [List.size_toArray, List.length_cons, List.length_nil, Nat.reduceAdd]; rfl) ?_
        intro K hK
        refine ⟨_, _, _, Or.inl (hk), by repeat first | exact trivial | refine And.intro ⟨rfl, rfl⟩ ?_, ?_⟩
        refine hK _ _ ?_
        clear hK K
        refine dw_ret ?_
        exact retv (N := 0) (.inr rfl) rfl (VLe.refl _) trivial
      | true =>
        obtain ⟨c1, c2, c3, c4⟩ := hsmall rfl
        have hfull : ∀ p ∈ l.take 10, p.2.full ≤ 150 := fun p hp => by
          have := List.all_eq_true.1 hf p hp
          simp only [Bool.and_eq_true] at this
          exact (fewB_full this.1).1
        have hfit' : ∀ p ∈ l.take 10, p.2.Fit ∧ p.1 ≤ 9223372036854775807 := fun p hp => hfit p (List.mem_of_mem_take hp)
        have hT := to9_d l hl fun p hp => by have := hfull p hp; omega
        obtain ⟨s, hs⟩ : ∃ s, l.take 10 = s := ⟨_, rfl⟩
        have hsl : s.length ≤ 10 := by rw [← hs, List.length_take]; omega
        rw [hs] at hT hfull hfit'
        have sC := sizes_all (l := C) 60 fun t ht => c4 t (by simp [ht])
        have sM := sizes_all (l := M) 60 fun t ht => c4 t (by simp [ht])
        have sX := sizes_all (l := X) 60 fun t ht => c4 t (by simp [ht])
        have hW := world_d b C M (by omega) (by omega)
        have hX := types_d X (by omega)
        obtain ⟨code, hcode⟩ : ∃ code : Tm → Ty → Int, ∀ t u, checkCode C M t X u (code t u) := ⟨fun t u => Classical.choose (code_ex C M X t u), fun t u => Classical.choose_spec (code_ex C M X t u)⟩
        have hC1 := scheck_d b C M X s (by omega) code hcode (fun p hp => ⟨by have := hfull p hp; omega, (hfit' p hp).1, (hfit' p hp).2⟩) fun u hu => by have := c4 u (by simp [hu]); omega
        have hO := of9_d s (by omega) fun p hp => by have := hfull p hp; omega
        have hC2 := rscheck_d b C M X s (by omega) code hcode fun p hp => ⟨by have := hfull p hp; omega, (hfit' p hp).1⟩
        refine dw_k [] TQ9_ok (by kernel_rfl) hnt (by kernel_rfl) (by simp only [List.size_toArray, List.length_cons, List.length_nil, Nat.reduceAdd]; rfl) ?_
        intro K hK
        refine ⟨_, _, _, Or.inl (hF), by repeat first | exact trivial | refine And.intro ⟨rfl, rfl⟩ ?_, ?_⟩
        refine ⟨_, _, _, Or.inl (hsm), by repeat first | exact trivial | refine And.intro ⟨rfl, rfl⟩ ?_, ?_⟩
        refine hK _ _ ?_
        clear hK K
        refine dw_cond (t := false) rfl ?_
        rw [if_neg (by simp)]
        refine dw_skip ?_
        refine dw_seq ?_
        refine dw_k [] TQ9_ok (by kernel_rfl) hnt (by kernel_rfl) (by simp only [List.size_toArray, List.length_cons, List.length_nil, Nat.reduceAdd]; rfl) ?_
        intro K hK
        refine ⟨_, _, _, Or.inl (hT), by repeat first | exact trivial | refine And.intro ⟨rfl, rfl⟩ ?_, ?_⟩
        refine hK _ _ ?_
        clear hK K
        refine dw_seq ?_
        refine dw_kD [(33, .v (.bool true))] TQ9_ok (by kernel_rfl) hnt (by kernel_rfl) (by simp only [List.size_toArray, List.length_cons, List.length_nil, Nat.reduceAdd]; rfl) ?_
        intro K hK
        refine ⟨_, _, _, Or.inl (hk), by repeat first | exact trivial | refine And.intro ⟨rfl, rfl⟩ ?_, ?_⟩
        refine ⟨_, _, _, Or.inl (hW), by repeat first | exact trivial | refine And.intro ⟨rfl, rfl⟩ ?_, ?_⟩
        refine ⟨_, _, _, Or.inl (hX), by repeat first | exact trivial | refine And.intro ⟨rfl, rfl⟩ ?_, ?_⟩
        refine ⟨_, _, _, Or.inl (hC1), by repeat first | exact trivial | refine And.intro ⟨rfl, rfl⟩ ?_, ?_⟩
        refine ⟨_, _, _, Or.inl (hO), by repeat first | exact trivial | refine And.intro ⟨rfl, rfl⟩ ?_, ?_⟩
        refine ⟨_, _, _, Or.inl (hC2), by repeat first | exact trivial | refine And.intro ⟨rfl, rfl⟩ ?_, ?_⟩
        refine And.intro (dtrue rfl) ?_
        refine hK _ _ (by kernel_rfl) ?_
        clear hK K
        refine dw_ret ?_
        exact retv (N := 0) (.inr rfl) rfl (VLe.refl _) trivial
end Go.Proofs.YtiblklcfjakjmaaGreat

