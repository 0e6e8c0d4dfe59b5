/-
  The law MatchSound.
-/
import Derived.Test.YtflbnonbfmmchaaGreatRowMatchSoundp9
import Derived.Test.YtflbnonbfmmchaaGreatRowMatchSoundp10
set_option maxRecDepth 100000
set_option maxHeartbeats 1000000
set_option linter.unusedVariables false
set_option linter.unusedSimpArgs false
namespace Go.Proofs.YtflbnonbfmmchaaGreat
open Go.RowKit
def TMSL_41:TI:=⟨4,true,[Value.slice none 0 0,Value.int IntKind.i64 0,Value.int IntKind.i64 0,Value.slice none 0 0],[(0,1,false),(1,2,true),(3,1,false)],none,64,6,none,false⟩
theorem TMSL_41_ok:TypOk Tryz.prog 41 TMSL_41:=by constructor <;> kernel_rfl
def TMSL_29:TI:=⟨4,true,[Value.slice none 0 0,Value.int IntKind.i64 0,Value.int IntKind.i64 0,Value.slice none 0 0],[(0,1,false),(1,2,true),(3,1,false)],none,64,6,none,false⟩
theorem TMSL_29_ok:TypOk Tryz.prog 29 TMSL_29:=by constructor <;> kernel_rfl
def TMSL_35:TI:=⟨3,true,[Value.int IntKind.i64 0,Value.slice none 0 0,Value.slice none 0 0],[(0,1,false),(1,1,false),(2,1,false)],none,56,6,none,false⟩
theorem TMSL_35_ok:TypOk Tryz.prog 35 TMSL_35:=by constructor <;> kernel_rfl
def TMSL_45:TI:=⟨1,false,[Value.int IntKind.i64 0],[],none,8,2,none,false⟩
theorem TMSL_45_ok:TypOk Tryz.prog 45 TMSL_45:=by constructor <;> kernel_rfl
def TMSL_3:TI:=⟨1,false,[Value.int IntKind.i64 0],[],none,8,2,none,false⟩
theorem TMSL_3_ok:TypOk Tryz.prog 3 TMSL_3:=by constructor <;> kernel_rfl
def TMSL_44:TI:=⟨2,true,[Value.slice none 0 0,Value.int IntKind.i64 0],[(0,1,false),(1,1,false)],none,32,6,none,false⟩
theorem TMSL_44_ok:TypOk Tryz.prog 44 TMSL_44:=by constructor <;> kernel_rfl
def TMSL_24:TI:=⟨3,true,[Value.int IntKind.i64 0,Value.slice none 0 0,Value.slice none 0 0],[(0,1,false),(1,1,false),(2,1,false)],none,56,6,none,false⟩
theorem TMSL_24_ok:TypOk Tryz.prog 24 TMSL_24:=by constructor <;> kernel_rfl
def TMSL_33:TI:=⟨1,false,[Value.slice none 0 0],[],some 44,24,5,none,false⟩
theorem TMSL_33_ok:TypOk Tryz.prog 33 TMSL_33:=by constructor <;> kernel_rfl
def TMSL_51:TI:=⟨1,false,[Value.slice none 0 0],[],some 79,24,5,none,false⟩
theorem TMSL_51_ok:TypOk Tryz.prog 51 TMSL_51:=by constructor <;> kernel_rfl
def TMSL_22:TI:=⟨1,false,[Value.slice none 0 0],[],some 103,24,5,none,false⟩
theorem TMSL_22_ok:TypOk Tryz.prog 22 TMSL_22:=by constructor <;> kernel_rfl
def TMSL_56:TI:=⟨1,false,[Value.pointer none],[],none,8,4,none,false⟩
theorem TMSL_56_ok:TypOk Tryz.prog 56 TMSL_56:=by constructor <;> kernel_rfl
def TMSL_59:TI:=⟨1,false,[Value.slice none 0 0],[],some 3,24,5,none,false⟩
theorem TMSL_59_ok:TypOk Tryz.prog 59 TMSL_59:=by constructor <;> kernel_rfl
def TMSL_79:TI:=⟨5,true,[Value.int IntKind.i64 0,Value.slice none 0 0,Value.int IntKind.i64 0,Value.int IntKind.i64 0,Value.slice none 0 0],[(0,1,false),(1,4,true)],none,72,6,none,false⟩
theorem TMSL_79_ok:TypOk Tryz.prog 79 TMSL_79:=by constructor <;> kernel_rfl
def TMSL_103:TI:=⟨2,true,[Value.slice none 0 0,Value.int IntKind.i64 0],[(0,1,false),(1,1,false)],none,32,6,none,false⟩
theorem TMSL_103_ok:TypOk Tryz.prog 103 TMSL_103:=by constructor <;> kernel_rfl
def TMSL:List (Nat×TI):=[(41,TMSL_41),(29,TMSL_29),(35,TMSL_35),(45,TMSL_45),(3,TMSL_3),(44,TMSL_44),(24,TMSL_24),(33,TMSL_33),(51,TMSL_51),(22,TMSL_22),(56,TMSL_56),(59,TMSL_59),(79,TMSL_79),(103,TMSL_103)]
theorem TMSL_ok:TabOk Tryz.prog TMSL:=(((((((((((((((TabOk.nil _).cons TMSL_103_ok).cons TMSL_79_ok).cons TMSL_59_ok).cons TMSL_56_ok).cons TMSL_22_ok).cons TMSL_51_ok).cons TMSL_33_ok).cons TMSL_24_ok).cons TMSL_44_ok).cons TMSL_3_ok).cons TMSL_45_ok).cons TMSL_35_ok).cons TMSL_29_ok).cons TMSL_41_ok)
theorem codeOf0 {C M X:List Ty}{t:Tm}{u:Ty}(h:checkCode C M t X u 0):IsOf C M t X u:=by
 unfold checkCode at h
 rcases h with h | h | h
 ·exact absurd h.2 (by decide)
 ·exact absurd h.2.2 (by decide)
 ·exact h.2.1
theorem sizes60 {l:List Ty}(h:∀ t∈l,t.size≤60)(hl:l.length≤20):Ty.sizes l≤1200:=by have:=sizes_le22 h;omega
set_option maxRecDepth 100000 in
set_option maxHeartbeats 8000000 in
theorem matchSound_d (b:Int)(C Mw X:List Ty)(p t:Tm)(fp:p.Fit)(ft:t.Fit):
  PureC Tryz.prog 3 [.ag [.v (.int .i64 b),.sl 2 (eTys C) none,.sl 2 (eTys Mw) none],.sl 2 (eTys X) none,.ag (eTm p),.ag (eTm t)] (.v (.bool true)):=by
 have hk:=known12_d
 have hF1:=Few6_d 60 (by decide) (by decide) p 60 (by decide) (by decide)
 have hF2:=Few6_d 60 (by decide) (by decide) t 60 (by decide) (by decide)
 rw[eTm_eq] at hF1 hF2
 rw[eTm_eq,eTm_eq]
 cases h1:decide (fewM 60 p 60≤60) with
 | false=>
  rw[h1] at hF1
  refine calldw 0 160 [ResultVar.tmp 8] TMSL_ok Tryz.func3 rfl Tryz.ntmps3 rfl fun cx hnt hn0=>?_
  ·skip
   refine dw_seq ?_;refine dwk [] TMSL_ok hnt fun K hK=>hK _ _ ?_;clear hK K;refine dw_seq ?_;refine dw_seq ?_;refine dwk [] TMSL_ok hnt fun K hK=>?_;refine dcl (hF1) ?_;refine hK _ _ ?_;clear hK K;refine dw_cond (t:=true) rfl ?_;rw[if_pos rfl];refine dw_seq ?_;refine dwk [] TMSL_ok hnt fun K hK=>?_;refine dcl (hk) ?_;refine hK _ _ ?_;clear hK K;refine dw_ret ?_
   exact reta rfl
 | true=>
 cases h2:decide (fewM 60 t 60≤60) with
 | false=>
  rw[h1] at hF1
  rw[h2] at hF2
  refine calldw 0 160 [ResultVar.tmp 8] TMSL_ok Tryz.func3 rfl Tryz.ntmps3 rfl fun cx hnt hn0=>?_
  ·skip
   refine dw_seq ?_;refine dwk [] TMSL_ok hnt fun K hK=>hK _ _ ?_;clear hK K;refine dw_seq ?_;refine dw_seq ?_;refine dwk [] TMSL_ok hnt fun K hK=>?_;refine dcl (hF1) ?_;refine dcl (hF2) ?_;refine hK _ _ ?_;clear hK K;refine dw_cond (t:=true) rfl ?_;rw[if_pos rfl];refine dw_seq ?_;refine dwk [] TMSL_ok hnt fun K hK=>?_;refine dcl (hk) ?_;refine hK _ _ ?_;clear hK K
   refine dw_ret ?_
   exact reta rfl
 | true=>
 rw[h1] at hF1
 rw[h2] at hF2
 rw[decide_eq_true_eq] at h1 h2
 have zp:=fewM_full (by decide) 60 p 60 (by decide) (by decide) h1
 have zt:=fewM_full (by decide) 60 t 60 (by decide) (by decide) h2
 have hpz:p.full≤60:=by omega
 have htz:t.full≤60:=by omega
 clear h1 h2
 obtain⟨sm,hsm,hS⟩:∃ sm:Bool,(sm=true→(C.length≤20∧Mw.length≤20∧X.length≤20)∧∀ u∈(C ++ Mw) ++ X,u.size≤60)∧PureC Tryz.prog 9 [.ag [.v (.int .i64 b),.sl 2 (eTys C) none,.sl 2 (eTys Mw) none],.sl 2 (eTys X) none] (.v (.bool sm)):=by
  by_cases hl:C.length≤20∧Mw.length≤20∧X.length≤20
  ·exact⟨_,fun h=>⟨hl,fun u hu=>fewT60 (List.all_eq_true.1 h u hu)⟩,small_d b C Mw X hl.1 hl.2.1 hl.2.2⟩
  ·exact⟨false,fun h=>absurd h (by decide),small_no b C Mw X hl⟩
 cases sm with
 | false=>
  refine calldw 0 160 [ResultVar.tmp 8] TMSL_ok Tryz.func3 rfl Tryz.ntmps3 rfl fun cx hnt hn0=>?_
  ·skip
   refine dw_seq ?_;refine dwk [] TMSL_ok hnt fun K hK=>hK _ _ ?_;clear hK K;refine dw_seq ?_;refine dw_seq ?_;refine dwk [] TMSL_ok hnt fun K hK=>?_;refine dcl (hF1) ?_;refine dcl (hF2) ?_;refine dcl (hS) ?_;refine hK _ _ ?_;clear hK K;refine dw_cond (t:=true) rfl ?_;rw[if_pos rfl];refine dw_seq ?_;refine dwk [] TMSL_ok hnt fun K hK=>?_;refine dcl (hk) ?_;refine hK _ _ ?_;clear hK K
   refine dw_ret ?_
   exact reta rfl
 | true=>
 obtain⟨⟨hCl,hMl,hXl⟩,hall⟩:=hsm rfl
 clear hsm
 have hC60:∀ u∈C,u.size≤60:=fun u hu=>hall u (List.mem_append_left _ (List.mem_append_left _ hu))
 have hM60:∀ u∈Mw,u.size≤60:=fun u hu=>hall u (List.mem_append_left _ (List.mem_append_right _ hu))
 have hX60:∀ u∈X,u.size≤60:=fun u hu=>hall u (List.mem_append_right _ hu)
 have zC:=sizes60 hC60 hCl
 have zM:=sizes60 hM60 hMl
 have zX:=sizes60 hX60 hXl
 have hWd:=twd_d b C Mw (by omega) (by omega)
 have hTs:=toTys_d X (by omega)
 have hT1:=to6_d p (by omega)
 have hT2:=to6_d t (by omega)
 rw[eTm_eq] at hT1 hT2
 have hix:p.index≤9223372036854775807:=by obtain⟨_,_,_,_⟩:=p;exact(Tm.fit_iff.1 fp).2.1
 have hTy:=ttype_d b C Mw p hix (by omega) (by omega) (by omega)
 obtain⟨u,hu⟩:∃ u,(tyOf C Mw p).getD tyZ=u:=⟨_,rfl⟩
 rw[hu,eTm_eq,eTy_eq] at hTy
 by_cases hs:(tyOf C Mw p).isSome=true
 rotate_left
 ·rw[if_neg hs] at hTy
  refine calldw 0 160 [ResultVar.tmp 8] TMSL_ok Tryz.func3 rfl Tryz.ntmps3 rfl fun cx hnt hn0=>?_
  ·skip
   refine dw_seq ?_;refine dwk [] TMSL_ok hnt fun K hK=>hK _ _ ?_;clear hK K;refine dw_seq ?_;refine dw_seq ?_;refine dwk [] TMSL_ok hnt fun K hK=>?_;refine dcl (hF1) ?_;refine dcl (hF2) ?_;refine dcl (hS) ?_;refine hK _ _ ?_;clear hK K;refine dw_cond (t:=false) rfl ?_;rw[if_neg (by simp)];refine dw_skip ?_;refine dw_seq ?_;refine dwkD [] TMSL_ok hnt fun K hK=>?_;refine dcl (hWd) ?_
   refine dcl (hTs) ?_;refine dcl (hT1) ?_;refine dcl (hT2) ?_;refine hK _ _ (by kernel_rfl) ?_;clear hK K;refine dw_seq ?_;refine dwk [] TMSL_ok hnt fun K hK=>?_;refine dcl (hTy) ?_;refine hK _ _ ?_;clear hK K;refine dw_seq ?_;refine dw_seq ?_;refine dwk [(57,.v (.bool true))] TMSL_ok hnt fun K hK=>?_;refine And.intro (bneT (by decide)) ?_;refine hK _ _ ?_;clear hK K;refine dw_cond (t:=true) rfl ?_
   rw[if_pos rfl];refine dw_seq ?_;refine dwk [] TMSL_ok hnt fun K hK=>?_;refine dcl (hk) ?_;refine hK _ _ ?_;clear hK K;refine dw_ret ?_
   exact reta rfl
 rw[if_pos hs] at hTy
 obtain⟨rw_,hrw⟩:∃ c:Bool,c=true↔RightWd b C Mw:=by
  by_cases h:RightWd b C Mw
  ·exact⟨true,fun _=>h,fun _=>rfl⟩
  ·exact⟨false,fun e=>(by cases e),fun e=>absurd e h⟩
 have hR:=tworld_d b C Mw rw_ hrw (fun v hv=>by
  rcases List.mem_append.1 hv with h | h
  ·have:=hC60 v h;omega
  ·have:=hM60 v h;omega)
 obtain⟨c1,hc1⟩:=code_ex2 C Mw [] p u
 obtain⟨c2,hc2⟩:=code_ex2 C Mw X t u
 have hK1:=tcheck_d b C Mw p u c1 (by omega) (by omega) hc1 (by omega) fp
 have hK2:=tcheckX_d b C Mw X t u c2 (by omega) (by omega) hc2 (by omega) ft
 rw[eTm_eq,eTy_eq] at hK1 hK2
 cases rw_ with
 | false=>
  refine calldw 0 160 [ResultVar.tmp 8] TMSL_ok Tryz.func3 rfl Tryz.ntmps3 rfl fun cx hnt hn0=>?_
  ·skip
   refine dw_seq ?_;refine dwk [] TMSL_ok hnt fun K hK=>hK _ _ ?_;clear hK K;refine dw_seq ?_;refine dw_seq ?_;refine dwk [] TMSL_ok hnt fun K hK=>?_;refine dcl (hF1) ?_;refine dcl (hF2) ?_;refine dcl (hS) ?_;refine hK _ _ ?_;clear hK K;refine dw_cond (t:=false) rfl ?_;rw[if_neg (by simp)];refine dw_skip ?_;refine dw_seq ?_;refine dwkD [] TMSL_ok hnt fun K hK=>?_;refine dcl (hWd) ?_
   refine dcl (hTs) ?_;refine dcl (hT1) ?_;refine dcl (hT2) ?_;refine hK _ _ (by kernel_rfl) ?_;clear hK K;refine dw_seq ?_;refine dwk [] TMSL_ok hnt fun K hK=>?_;refine dcl (hTy) ?_;refine hK _ _ ?_;clear hK K;refine dw_seq ?_;refine dw_seq ?_;refine dwk [(57,.v (.bool false))] TMSL_ok hnt fun K hK=>?_;refine And.intro (bneF rfl) ?_;refine dcl (hR) ?_;refine hK _ _ ?_;clear hK K
   refine dw_cond (t:=true) rfl ?_;rw[if_pos rfl];refine dw_seq ?_;refine dwk [] TMSL_ok hnt fun K hK=>?_;refine dcl (hk) ?_;refine hK _ _ ?_;clear hK K;refine dw_ret ?_
   exact reta rfl
 | true=>
 by_cases e1:c1=0
 rotate_left
 ·skip
  refine calldw 0 160 [ResultVar.tmp 8] TMSL_ok Tryz.func3 rfl Tryz.ntmps3 rfl fun cx hnt hn0=>?_
  ·skip
   refine dw_seq ?_;refine dwk [] TMSL_ok hnt fun K hK=>hK _ _ ?_;clear hK K;refine dw_seq ?_;refine dw_seq ?_;refine dwk [] TMSL_ok hnt fun K hK=>?_;refine dcl (hF1) ?_;refine dcl (hF2) ?_;refine dcl (hS) ?_;refine hK _ _ ?_;clear hK K;refine dw_cond (t:=false) rfl ?_;rw[if_neg (by simp)];refine dw_skip ?_;refine dw_seq ?_;refine dwkD [] TMSL_ok hnt fun K hK=>?_;refine dcl (hWd) ?_
   refine dcl (hTs) ?_;refine dcl (hT1) ?_;refine dcl (hT2) ?_;refine hK _ _ (by kernel_rfl) ?_;clear hK K;refine dw_seq ?_;refine dwk [] TMSL_ok hnt fun K hK=>?_;refine dcl (hTy) ?_;refine hK _ _ ?_;clear hK K;refine dw_seq ?_;refine dw_seq ?_;refine dwk [(57,.v (.bool false)),(68,.v (.bool true))] TMSL_ok hnt fun K hK=>?_;refine And.intro (bneF rfl) ?_;refine dcl (hR) ?_;refine dcl (hK1) ?_
   refine And.intro (bneT e1) ?_;refine hK _ _ ?_;clear hK K;refine dw_cond (t:=true) rfl ?_;rw[if_pos rfl];refine dw_seq ?_;refine dwk [] TMSL_ok hnt fun K hK=>?_;refine dcl (hk) ?_;refine hK _ _ ?_;clear hK K;refine dw_ret ?_
   exact reta rfl
 by_cases e2:c2=0
 rotate_left
 ·skip
  refine calldw 0 160 [ResultVar.tmp 8] TMSL_ok Tryz.func3 rfl Tryz.ntmps3 rfl fun cx hnt hn0=>?_
  ·skip
   refine dw_seq ?_;refine dwk [] TMSL_ok hnt fun K hK=>hK _ _ ?_;clear hK K;refine dw_seq ?_;refine dw_seq ?_;refine dwk [] TMSL_ok hnt fun K hK=>?_;refine dcl (hF1) ?_;refine dcl (hF2) ?_;refine dcl (hS) ?_;refine hK _ _ ?_;clear hK K;refine dw_cond (t:=false) rfl ?_;rw[if_neg (by simp)];refine dw_skip ?_;refine dw_seq ?_;refine dwkD [] TMSL_ok hnt fun K hK=>?_;refine dcl (hWd) ?_
   refine dcl (hTs) ?_;refine dcl (hT1) ?_;refine dcl (hT2) ?_;refine hK _ _ (by kernel_rfl) ?_;clear hK K;refine dw_seq ?_;refine dwk [] TMSL_ok hnt fun K hK=>?_;refine dcl (hTy) ?_;refine hK _ _ ?_;clear hK K;refine dw_seq ?_;refine dw_seq ?_;refine dwk [(57,.v (.bool false)),(68,.v (.bool false)),(76,.v (.bool true))] TMSL_ok hnt fun K hK=>?_;refine And.intro (bneF rfl) ?_;refine dcl (hR) ?_
   refine dcl (hK1) ?_;refine And.intro (bneF e1) ?_;refine dcl (hK2) ?_;refine And.intro (bneT e2) ?_;refine hK _ _ ?_;clear hK K;refine dw_cond (t:=true) rfl ?_;rw[if_pos rfl];refine dw_seq ?_;refine dwk [] TMSL_ok hnt fun K hK=>?_;refine dcl (hk) ?_;refine hK _ _ ?_;clear hK K;refine dw_ret ?_
   exact reta rfl
 subst e1
 subst e2
 have hp:=codeOf0 hc1
 have ht:=codeOf0 hc2
 have hlow:=Pn.isOf_low t X u ht (by omega)
 have ok1:PPok (p,t):=⟨by dsimp only;omega,fp,by dsimp only;omega,hlow,ft⟩
 have hM:=mMatch_d p t ok1
 have hFi:=mFind_d p t ⟨by omega,fp⟩ ⟨by omega,hlow,ft⟩
 have hA:=Pn.mAll_ok [(p,t)] (fun q hq=>by rw[List.mem_singleton] at hq;subst hq;exact ok1)
 obtain⟨⟨s,f⟩,hr⟩:∃ r,Pn.mAll [(p,t)]=r:=⟨_,rfl⟩
 by_cases hf:f=0
 rotate_left
 ·have hs0:s=[]:=by have:=Pn.mAll_not (l:=[(p,t)]) (by rw[hr];exact hf);rw[hr] at this;exact this
  subst hs0
  rw[hr,eTm_eq,eTm_eq] at hM
  refine calldw 0 160 [ResultVar.tmp 8] TMSL_ok Tryz.func3 rfl Tryz.ntmps3 rfl fun cx hnt hn0=>?_
  ·skip
   refine dw_seq ?_;refine dwk [] TMSL_ok hnt fun K hK=>hK _ _ ?_;clear hK K;refine dw_seq ?_;refine dw_seq ?_;refine dwk [] TMSL_ok hnt fun K hK=>?_;refine dcl (hF1) ?_;refine dcl (hF2) ?_;refine dcl (hS) ?_;refine hK _ _ ?_;clear hK K;refine dw_cond (t:=false) rfl ?_;rw[if_neg (by simp)];refine dw_skip ?_;refine dw_seq ?_;refine dwkD [] TMSL_ok hnt fun K hK=>?_;refine dcl (hWd) ?_
   refine dcl (hTs) ?_;refine dcl (hT1) ?_;refine dcl (hT2) ?_;refine hK _ _ (by kernel_rfl) ?_;clear hK K;refine dw_seq ?_;refine dwk [] TMSL_ok hnt fun K hK=>?_;refine dcl (hTy) ?_;refine hK _ _ ?_;clear hK K;refine dw_seq ?_;refine dw_seq ?_;refine dwk [(57,.v (.bool false)),(68,.v (.bool false)),(76,.v (.bool false))] TMSL_ok hnt fun K hK=>?_;refine And.intro (bneF rfl) ?_;refine dcl (hR) ?_
   refine dcl (hK1) ?_;refine And.intro (bneF rfl) ?_;refine dcl (hK2) ?_;refine And.intro (bneF rfl) ?_;refine hK _ _ ?_;clear hK K;refine dw_cond (t:=false) rfl ?_;rw[if_neg (by simp)];refine dw_skip ?_;refine dw_seq ?_;refine dwk [] TMSL_ok hnt fun K hK=>?_;refine dcl (hM) ?_;refine hK _ _ ?_;clear hK K;refine dw_seq ?_;refine dw_seq ?_;refine dwk [(86,.v (.bool true))] TMSL_ok hnt fun K hK=>?_
   refine And.intro (bneT hf) ?_;refine hK _ _ ?_;clear hK K;refine dw_cond (t:=true) rfl ?_;rw[if_pos rfl];refine dw_seq ?_;refine dwk [(91,.v (.bool true))] TMSL_ok hnt fun K hK=>?_;refine dcl (hk) ?_;refine And.intro (beqT rfl) ?_;refine hK _ _ ?_;clear hK K;refine dw_ret ?_
   exact reta rfl
 subst hf
 rw[hr] at hM hA
 have hsl:s.length≤250:=by have:=hA.2;simp at this;exact this
 obtain⟨s1,s2,s3⟩:=Pn.mAll_sound (X0:=X) (by omega) hr hp ht (by omega) (by omega) fp ft hlow
 have hAp:=apply_at 76 s (by omega) p (wide_full _ (by omega)) 10000 false ⟨by decide,by decide⟩ fun _=>Sb.apply_ok (B:=170) 10000 (by decide) (by decide) (by decide) s (fun q hq=>⟨Bnd.of_full _ (by have:=(s1 q hq).2.1;omega) (s1 q hq).2.2,wide_full _ (by have:=(s1 q hq).2.1;omega)⟩) p (Bnd.of_full _ (by omega) fp) 10000 ⟨by decide,by decide⟩ false
 have s4:=s3 10000 false ⟨by decide,by decide⟩
 generalize Sb.apply s p 10000 false=r at hAp s4
 obtain⟨z,st⟩:=r
 dsimp only at hAp s4
 have hfs:=Pn.fnd_self hr
 have hEq:=equal2_d t t
 rw[decide_eq_true rfl] at hEq
 have hAt:=sat_d t [] (by omega) ft (by simp)
 have hBo:=body_d t (by omega) ft
 have hSe:=sequal_d s s (by omega) (by omega)
 rw[decide_eq_true rfl] at hSe
 dsimp only at hM
 rw[eTm_eq,eTm_eq] at hM hFi hAp
 rw[eTm_eq] at hAt hEq
 by_cases hb:p.binds≠[]
 ·rw[if_pos hb] at hfs
  rw[hfs] at hFi
  dsimp only at hFi
  have hbl:0 < p.binds.length:=List.length_pos_iff.2 hb
  by_cases hg:st.e=0
  ·have hzt:=s4.2 hg
   subst hzt
   refine calldw 0 160 [ResultVar.tmp 8] TMSL_ok Tryz.func3 rfl Tryz.ntmps3 rfl fun cx hnt hn0=>?_
   ·skip
    refine dw_seq ?_;refine dwk [] TMSL_ok hnt fun K hK=>hK _ _ ?_;clear hK K;refine dw_seq ?_;refine dw_seq ?_;refine dwk [] TMSL_ok hnt fun K hK=>?_;refine dcl (hF1) ?_;refine dcl (hF2) ?_;refine dcl (hS) ?_;refine hK _ _ ?_;clear hK K;refine dw_cond (t:=false) rfl ?_;rw[if_neg (by simp)];refine dw_skip ?_;refine dw_seq ?_;refine dwkD [] TMSL_ok hnt fun K hK=>?_;refine dcl (hWd) ?_
    refine dcl (hTs) ?_;refine dcl (hT1) ?_;refine dcl (hT2) ?_;refine hK _ _ (by kernel_rfl) ?_;clear hK K;refine dw_seq ?_;refine dwk [] TMSL_ok hnt fun K hK=>?_;refine dcl (hTy) ?_;refine hK _ _ ?_;clear hK K;refine dw_seq ?_;refine dw_seq ?_;refine dwk [(57,.v (.bool false)),(68,.v (.bool false)),(76,.v (.bool false))] TMSL_ok hnt fun K hK=>?_;refine And.intro (bneF rfl) ?_;refine dcl (hR) ?_
    refine dcl (hK1) ?_;refine And.intro (bneF rfl) ?_;refine dcl (hK2) ?_;refine And.intro (bneF rfl) ?_;refine hK _ _ ?_;clear hK K;refine dw_cond (t:=false) rfl ?_;rw[if_neg (by simp)];refine dw_skip ?_;refine dw_seq ?_;refine dwk [] TMSL_ok hnt fun K hK=>?_;refine dcl (hM) ?_;refine hK _ _ ?_;clear hK K;refine dw_seq ?_;refine dw_seq ?_;refine dwk [(86,.v (.bool false))] TMSL_ok hnt fun K hK=>?_
    refine And.intro (bneF rfl) ?_;refine hK _ _ ?_;clear hK K;refine dw_cond (t:=false) rfl ?_;rw[if_neg (by simp)];refine dw_skip ?_;refine dw_seq ?_;refine dwkD [] TMSL_ok hnt fun K hK=>?_;refine dcn ((new_d 10000 (by decide)) _) ?_;refine dcl (hAp) ?_;refine hK _ _ (by kernel_rfl) ?_;clear hK K;refine dw_seq ?_;refine dw_seq ?_;refine dwk [(101,.v (.bool false)),(104,.v (.bool true))] TMSL_ok hnt fun K hK=>?_
    refine And.intro (beqF s4.1) ?_;refine And.intro (beqT hg) ?_;refine dcl (hEq) ?_;refine hK _ _ ?_;clear hK K;refine dw_cond (t:=false) rfl ?_;rw[if_neg (by simp)];refine dw_skip ?_;refine dw_seq ?_;refine dwk [] TMSL_ok hnt fun K hK=>?_;refine dcl (hFi) ?_;refine hK _ _ ?_;clear hK K;refine dw_seq ?_;refine dw_seq ?_;refine dwk [(120,.v (.bool true))] TMSL_ok hnt fun K hK=>?_
    refine And.intro (bneT (by decide)) ?_;refine hK _ _ ?_;clear hK K;refine dw_cond (t:=true) rfl ?_;rw[if_pos rfl];refine dw_seq ?_;refine dwk [(125,.v (.int .i64 (↑p.binds.length))),(126,.v (.bool true)),(130,.v (.bool true))] TMSL_ok hnt fun K hK=>?_;refine dcl (hk) ?_;refine And.intro (dintE (by rw[eTys_len])) ?_;refine And.intro (VLe.of_eq (by simp;omega)) ?_;refine And.intro (beqT rfl) ?_
    refine hK _ _ ?_;clear hK K;refine dw_ret ?_
    exact reta rfl
  ·skip
   refine calldw 0 160 [ResultVar.tmp 8] TMSL_ok Tryz.func3 rfl Tryz.ntmps3 rfl fun cx hnt hn0=>?_
   ·skip
    refine dw_seq ?_;refine dwk [] TMSL_ok hnt fun K hK=>hK _ _ ?_;clear hK K;refine dw_seq ?_;refine dw_seq ?_;refine dwk [] TMSL_ok hnt fun K hK=>?_;refine dcl (hF1) ?_;refine dcl (hF2) ?_;refine dcl (hS) ?_;refine hK _ _ ?_;clear hK K;refine dw_cond (t:=false) rfl ?_;rw[if_neg (by simp)];refine dw_skip ?_;refine dw_seq ?_;refine dwkD [] TMSL_ok hnt fun K hK=>?_;refine dcl (hWd) ?_
    refine dcl (hTs) ?_;refine dcl (hT1) ?_;refine dcl (hT2) ?_;refine hK _ _ (by kernel_rfl) ?_;clear hK K;refine dw_seq ?_;refine dwk [] TMSL_ok hnt fun K hK=>?_;refine dcl (hTy) ?_;refine hK _ _ ?_;clear hK K;refine dw_seq ?_;refine dw_seq ?_;refine dwk [(57,.v (.bool false)),(68,.v (.bool false)),(76,.v (.bool false))] TMSL_ok hnt fun K hK=>?_;refine And.intro (bneF rfl) ?_;refine dcl (hR) ?_
    refine dcl (hK1) ?_;refine And.intro (bneF rfl) ?_;refine dcl (hK2) ?_;refine And.intro (bneF rfl) ?_;refine hK _ _ ?_;clear hK K;refine dw_cond (t:=false) rfl ?_;rw[if_neg (by simp)];refine dw_skip ?_;refine dw_seq ?_;refine dwk [] TMSL_ok hnt fun K hK=>?_;refine dcl (hM) ?_;refine hK _ _ ?_;clear hK K;refine dw_seq ?_;refine dw_seq ?_;refine dwk [(86,.v (.bool false))] TMSL_ok hnt fun K hK=>?_
    refine And.intro (bneF rfl) ?_;refine hK _ _ ?_;clear hK K;refine dw_cond (t:=false) rfl ?_;rw[if_neg (by simp)];refine dw_skip ?_;refine dw_seq ?_;refine dwkD [] TMSL_ok hnt fun K hK=>?_;refine dcn ((new_d 10000 (by decide)) _) ?_;refine dcl (hAp) ?_;refine hK _ _ (by kernel_rfl) ?_;clear hK K;refine dw_seq ?_;refine dw_seq ?_;refine dwk [(101,.v (.bool false)),(104,.v (.bool false))] TMSL_ok hnt fun K hK=>?_
    refine And.intro (beqF s4.1) ?_;refine And.intro (beqF hg) ?_;refine hK _ _ ?_;clear hK K;refine dw_cond (t:=false) rfl ?_;rw[if_neg (by simp)];refine dw_skip ?_;refine dw_seq ?_;refine dwk [] TMSL_ok hnt fun K hK=>?_;refine dcl (hFi) ?_;refine hK _ _ ?_;clear hK K;refine dw_seq ?_;refine dw_seq ?_;refine dwk [(120,.v (.bool true))] TMSL_ok hnt fun K hK=>?_;refine And.intro (bneT (by decide)) ?_
    refine hK _ _ ?_;clear hK K;refine dw_cond (t:=true) rfl ?_;rw[if_pos rfl];refine dw_seq ?_;refine dwk [(125,.v (.int .i64 (↑p.binds.length))),(126,.v (.bool true)),(130,.v (.bool true))] TMSL_ok hnt fun K hK=>?_;refine dcl (hk) ?_;refine And.intro (dintE (by rw[eTys_len])) ?_;refine And.intro (VLe.of_eq (by simp;omega)) ?_;refine And.intro (beqT rfl) ?_;refine hK _ _ ?_;clear hK K
    refine dw_ret ?_
    exact reta rfl
 ·rw[if_neg hb] at hfs
  rw[hfs] at hFi
  dsimp only at hFi
  have hnb:=Pn.nb_self hr hb
  rw[hnb,eTm_eq] at hBo
  rw[show Pn.atP [] t=some (t,t.binds) by rw[Pn.atP]] at hAt
  unfold satV at hAt
  dsimp only at hAt
  rw[eTm_eq] at hAt
  by_cases hg:st.e=0
  ·have hzt:=s4.2 hg
   subst hzt
   refine calldw 0 160 [ResultVar.tmp 8] TMSL_ok Tryz.func3 rfl Tryz.ntmps3 rfl fun cx hnt hn0=>?_
   ·skip
    refine dw_seq ?_;refine dwk [] TMSL_ok hnt fun K hK=>hK _ _ ?_;clear hK K;refine dw_seq ?_;refine dw_seq ?_;refine dwk [] TMSL_ok hnt fun K hK=>?_;refine dcl (hF1) ?_;refine dcl (hF2) ?_;refine dcl (hS) ?_;refine hK _ _ ?_;clear hK K;refine dw_cond (t:=false) rfl ?_;rw[if_neg (by simp)];refine dw_skip ?_;refine dw_seq ?_;refine dwkD [] TMSL_ok hnt fun K hK=>?_;refine dcl (hWd) ?_
    refine dcl (hTs) ?_;refine dcl (hT1) ?_;refine dcl (hT2) ?_;refine hK _ _ (by kernel_rfl) ?_;clear hK K;refine dw_seq ?_;refine dwk [] TMSL_ok hnt fun K hK=>?_;refine dcl (hTy) ?_;refine hK _ _ ?_;clear hK K;refine dw_seq ?_;refine dw_seq ?_;refine dwk [(57,.v (.bool false)),(68,.v (.bool false)),(76,.v (.bool false))] TMSL_ok hnt fun K hK=>?_;refine And.intro (bneF rfl) ?_;refine dcl (hR) ?_
    refine dcl (hK1) ?_;refine And.intro (bneF rfl) ?_;refine dcl (hK2) ?_;refine And.intro (bneF rfl) ?_;refine hK _ _ ?_;clear hK K;refine dw_cond (t:=false) rfl ?_;rw[if_neg (by simp)];refine dw_skip ?_;refine dw_seq ?_;refine dwk [] TMSL_ok hnt fun K hK=>?_;refine dcl (hM) ?_;refine hK _ _ ?_;clear hK K;refine dw_seq ?_;refine dw_seq ?_;refine dwk [(86,.v (.bool false))] TMSL_ok hnt fun K hK=>?_
    refine And.intro (bneF rfl) ?_;refine hK _ _ ?_;clear hK K;refine dw_cond (t:=false) rfl ?_;rw[if_neg (by simp)];refine dw_skip ?_;refine dw_seq ?_;refine dwkD [] TMSL_ok hnt fun K hK=>?_;refine dcn ((new_d 10000 (by decide)) _) ?_;refine dcl (hAp) ?_;refine hK _ _ (by kernel_rfl) ?_;clear hK K;refine dw_seq ?_;refine dw_seq ?_;refine dwk [(101,.v (.bool false)),(104,.v (.bool true))] TMSL_ok hnt fun K hK=>?_
    refine And.intro (beqF s4.1) ?_;refine And.intro (beqT hg) ?_;refine dcl (hEq) ?_;refine hK _ _ ?_;clear hK K;refine dw_cond (t:=false) rfl ?_;rw[if_neg (by simp)];refine dw_skip ?_;refine dw_seq ?_;refine dwk [] TMSL_ok hnt fun K hK=>?_;refine dcl (hFi) ?_;refine hK _ _ ?_;clear hK K;refine dw_seq ?_;refine dw_seq ?_;refine dwk [(120,.v (.bool false))] TMSL_ok hnt fun K hK=>?_
    refine And.intro (bneF rfl) ?_;refine hK _ _ ?_;clear hK K;refine dw_cond (t:=false) rfl ?_;rw[if_neg (by simp)];refine dw_skip ?_;refine dw_seq ?_;refine dwk [] TMSL_ok hnt fun K hK=>?_;refine dcl (hAt) ?_;refine hK _ _ ?_;clear hK K;refine dw_seq ?_;refine dwkD [] TMSL_ok hnt fun K hK=>?_;refine dcl (hBo) ?_;refine dcl (hM) ?_;refine hK _ _ (by kernel_rfl) ?_;clear hK K;refine dw_seq ?_
    refine dwk [(149,.v (.bool true)),(153,.v (.bool true))] TMSL_ok hnt fun K hK=>?_;refine dcl (hk) ?_;refine And.intro (beqT rfl) ?_;refine And.intro (beqT rfl) ?_;refine dcl (hSe) ?_;refine hK _ _ ?_;clear hK K;refine dw_ret ?_
    exact reta rfl
  ·skip
   refine calldw 0 160 [ResultVar.tmp 8] TMSL_ok Tryz.func3 rfl Tryz.ntmps3 rfl fun cx hnt hn0=>?_
   ·skip
    refine dw_seq ?_;refine dwk [] TMSL_ok hnt fun K hK=>hK _ _ ?_;clear hK K;refine dw_seq ?_;refine dw_seq ?_;refine dwk [] TMSL_ok hnt fun K hK=>?_;refine dcl (hF1) ?_;refine dcl (hF2) ?_;refine dcl (hS) ?_;refine hK _ _ ?_;clear hK K;refine dw_cond (t:=false) rfl ?_;rw[if_neg (by simp)];refine dw_skip ?_;refine dw_seq ?_;refine dwkD [] TMSL_ok hnt fun K hK=>?_;refine dcl (hWd) ?_
    refine dcl (hTs) ?_;refine dcl (hT1) ?_;refine dcl (hT2) ?_;refine hK _ _ (by kernel_rfl) ?_;clear hK K;refine dw_seq ?_;refine dwk [] TMSL_ok hnt fun K hK=>?_;refine dcl (hTy) ?_;refine hK _ _ ?_;clear hK K;refine dw_seq ?_;refine dw_seq ?_;refine dwk [(57,.v (.bool false)),(68,.v (.bool false)),(76,.v (.bool false))] TMSL_ok hnt fun K hK=>?_;refine And.intro (bneF rfl) ?_;refine dcl (hR) ?_
    refine dcl (hK1) ?_;refine And.intro (bneF rfl) ?_;refine dcl (hK2) ?_;refine And.intro (bneF rfl) ?_;refine hK _ _ ?_;clear hK K;refine dw_cond (t:=false) rfl ?_;rw[if_neg (by simp)];refine dw_skip ?_;refine dw_seq ?_;refine dwk [] TMSL_ok hnt fun K hK=>?_;refine dcl (hM) ?_;refine hK _ _ ?_;clear hK K;refine dw_seq ?_;refine dw_seq ?_;refine dwk [(86,.v (.bool false))] TMSL_ok hnt fun K hK=>?_
    refine And.intro (bneF rfl) ?_;refine hK _ _ ?_;clear hK K;refine dw_cond (t:=false) rfl ?_;rw[if_neg (by simp)];refine dw_skip ?_;refine dw_seq ?_;refine dwkD [] TMSL_ok hnt fun K hK=>?_;refine dcn ((new_d 10000 (by decide)) _) ?_;refine dcl (hAp) ?_;refine hK _ _ (by kernel_rfl) ?_;clear hK K;refine dw_seq ?_;refine dw_seq ?_;refine dwk [(101,.v (.bool false)),(104,.v (.bool false))] TMSL_ok hnt fun K hK=>?_
    refine And.intro (beqF s4.1) ?_;refine And.intro (beqF hg) ?_;refine hK _ _ ?_;clear hK K;refine dw_cond (t:=false) rfl ?_;rw[if_neg (by simp)];refine dw_skip ?_;refine dw_seq ?_;refine dwk [] TMSL_ok hnt fun K hK=>?_;refine dcl (hFi) ?_;refine hK _ _ ?_;clear hK K;refine dw_seq ?_;refine dw_seq ?_;refine dwk [(120,.v (.bool false))] TMSL_ok hnt fun K hK=>?_;refine And.intro (bneF rfl) ?_
    refine hK _ _ ?_;clear hK K;refine dw_cond (t:=false) rfl ?_;rw[if_neg (by simp)];refine dw_skip ?_;refine dw_seq ?_;refine dwk [] TMSL_ok hnt fun K hK=>?_;refine dcl (hAt) ?_;refine hK _ _ ?_;clear hK K;refine dw_seq ?_;refine dwkD [] TMSL_ok hnt fun K hK=>?_;refine dcl (hBo) ?_;refine dcl (hM) ?_;refine hK _ _ (by kernel_rfl) ?_;clear hK K;refine dw_seq ?_;refine dwk [(149,.v (.bool true)),(153,.v (.bool true))] TMSL_ok hnt fun K hK=>?_
    refine dcl (hk) ?_;refine And.intro (beqT rfl) ?_;refine And.intro (beqT rfl) ?_;refine dcl (hSe) ?_;refine hK _ _ ?_;clear hK K;refine dw_ret ?_
    exact reta rfl
end Go.Proofs.YtflbnonbfmmchaaGreat
