/-
  Package audit, walked in the deep way: Check, Proves. The known answer of the laws of layer 27, in plain words. The known answer of the laws of layer 27, walked. The known answer of the laws of layer 27, walked to its end. A chain is its steps, one by one, in plain words. RuleChecks, walked in the deep way. AuditChains, walked in the deep way.
-/
import Derived.Test.YtclihnccilkohaaGreatRowAuditChainsp9
import Derived.Test.YtclihnccilkohaaGreatRowAuditChainsp7
import Derived.Test.YtclihnccilkohaaGreatRowAuditChainsp5
set_option maxRecDepth 100000
set_option maxHeartbeats 1000000
set_option linter.unusedVariables false
set_option linter.unusedSimpArgs false
namespace Go.Proofs.YtclihnccilkohaaGreat
open Go.RowKit
def TAUK_64:TI:=⟨9,true,[Value.slice none 0 0,Value.int IntKind.i64 0,Value.int IntKind.i64 0,Value.slice none 0 0,Value.slice none 0 0,Value.int IntKind.i64 0,Value.int IntKind.i64 0,Value.slice none 0 0,Value.slice none 0 0],[(0,4,true),(4,4,true),(8,1,false)],none,152,6,none,false⟩
theorem TAUK_64_ok:TypOk Tryz.prog 64 TAUK_64:=by constructor <;> kernel_rfl
def TAUK_47:TI:=⟨1,true,[Value.slice none 0 0],[(0,1,false)],none,24,6,none,false⟩
theorem TAUK_47_ok:TypOk Tryz.prog 47 TAUK_47:=by constructor <;> kernel_rfl
def TAUK_43:TI:=⟨3,true,[Value.int IntKind.i64 0,Value.slice none 0 0,Value.slice none 0 0],[(0,1,false),(1,1,false),(2,1,false)],none,56,6,none,false⟩
theorem TAUK_43_ok:TypOk Tryz.prog 43 TAUK_43:=by constructor <;> kernel_rfl
def TAUK_34:TI:=⟨1,false,[Value.slice none 0 0],[],some 64,24,5,none,false⟩
theorem TAUK_34_ok:TypOk Tryz.prog 34 TAUK_34:=by constructor <;> kernel_rfl
def TAUK_45:TI:=⟨1,false,[Value.slice none 0 0],[],some 112,24,5,none,false⟩
theorem TAUK_45_ok:TypOk Tryz.prog 45 TAUK_45:=by constructor <;> kernel_rfl
def TAUK_62:TI:=⟨4,true,[Value.slice none 0 0,Value.int IntKind.i64 0,Value.int IntKind.i64 0,Value.slice none 0 0],[(0,1,false),(1,2,true),(3,1,false)],none,64,6,none,false⟩
theorem TAUK_62_ok:TypOk Tryz.prog 62 TAUK_62:=by constructor <;> kernel_rfl
def TAUK_112:TI:=⟨10,true,[Value.slice none 0 0,Value.int IntKind.i64 0,Value.int IntKind.i64 0,Value.slice none 0 0,Value.slice none 0 0,Value.int IntKind.i64 0,Value.int IntKind.i64 0,Value.slice none 0 0,Value.slice none 0 0,Value.slice none 0 0],[(0,9,true),(9,1,false)],none,176,6,none,false⟩
theorem TAUK_112_ok:TypOk Tryz.prog 112 TAUK_112:=by constructor <;> kernel_rfl
def TAUK_3:TI:=⟨1,false,[Value.int IntKind.i64 0],[],none,8,2,none,false⟩
theorem TAUK_3_ok:TypOk Tryz.prog 3 TAUK_3:=by constructor <;> kernel_rfl
def TAUK_41:TI:=⟨1,false,[Value.slice none 0 0],[],some 106,24,5,none,false⟩
theorem TAUK_41_ok:TypOk Tryz.prog 41 TAUK_41:=by constructor <;> kernel_rfl
def TAUK_50:TI:=⟨1,false,[Value.int IntKind.i64 0],[],none,8,2,none,false⟩
theorem TAUK_50_ok:TypOk Tryz.prog 50 TAUK_50:=by constructor <;> kernel_rfl
def TAUK_143:TI:=⟨1,false,[Value.nilFunc],[],none,8,8,none,false⟩
theorem TAUK_143_ok:TypOk Tryz.prog 143 TAUK_143:=by constructor <;> kernel_rfl
def TAUK_106:TI:=⟨2,true,[Value.slice none 0 0,Value.int IntKind.i64 0],[(0,1,false),(1,1,false)],none,32,6,none,false⟩
theorem TAUK_106_ok:TypOk Tryz.prog 106 TAUK_106:=by constructor <;> kernel_rfl
def TAUK:List (Nat×TI):=[(64,TAUK_64),(47,TAUK_47),(43,TAUK_43),(34,TAUK_34),(45,TAUK_45),(62,TAUK_62),(112,TAUK_112),(3,TAUK_3),(41,TAUK_41),(50,TAUK_50),(143,TAUK_143),(106,TAUK_106)]
theorem TAUK_ok:TabOk Tryz.prog TAUK:=(((((((((((((TabOk.nil _).cons TAUK_106_ok).cons TAUK_143_ok).cons TAUK_50_ok).cons TAUK_41_ok).cons TAUK_3_ok).cons TAUK_112_ok).cons TAUK_62_ok).cons TAUK_45_ok).cons TAUK_34_ok).cons TAUK_43_ok).cons TAUK_47_ok).cons TAUK_64_ok)
theorem ePr_zr:ePr Li.Pr.z=[.sl 2 [] none,.v (.int .i64 0),.v (.int .i64 0),.sl 4 [] none,.sl 2 [] none,.v (.int .i64 0),.v (.int .i64 0),.sl 4 [] none,.sl 2 [] none]:=rfl
theorem Goal_nil:PureC Tryz.prog 18 [.ag [.sl 10 (eLms []) none]] (.tu [.ag (ePr Li.Pr.z),.v (.bool false)]):=by
 rw[ePr_zr]
 refine calldw 0 19 [ResultVar.cell 2 64,ResultVar.tmp 3] TAUK_ok Tryz.func18 rfl Tryz.ntmps18 rfl fun cx hnt hn0=>?_
 ·skip
  refine dw_seq ?_;refine dwk [] TAUK_ok hnt fun _ z9=>z9 _ _ ?_;refine dw_seq ?_;refine dwk [(7,.v (.int .i64 (0)))] TAUK_ok hnt fun K hK=>?_;refine And.intro (dintE (by rfl)) ?_;refine hK _ _ ?_;clear hK K;refine dw_seq ?_;refine dw_seq ?_;refine dwk [(9,.v (.bool true))] TAUK_ok hnt fun K hK=>?_;refine And.intro (beqT rfl) ?_;refine hK _ _ ?_;clear hK K;refine dw_cond (t:=true) rfl ?_
  rw[if_pos rfl];refine dw_seq ?_;refine dwk [] TAUK_ok hnt fun _ z9=>z9 _ _ ?_;refine dw_ret ?_
  exact reta rfl
namespace Au
def goal (l:List Lm)(p:Li.Pr):Int:=if l.getLast?.map (·.p)=some p then 0 else 12
end Au
set_option maxHeartbeats 4000000 in
theorem Check_d27 (b:Int)(C Mw:List Ty)(a:List Li.Pr)(ls:List Au.Lm)(i e:Int) 
  (hW:PureC Tryz.prog 15 [.ag [.v (.int .i64 b),.sl 2 (eTys C) none,.sl 2 (eTys Mw) none],.sl 9 (ePrs a) none,.ag [.sl 10 (eLms ls) none]] (.tu [.v (.int .i64 i),.v (.int .i64 e)])) :
  PureC Tryz.prog 19 [.ag [.v (.int .i64 b),.sl 2 (eTys C) none,.sl 2 (eTys Mw) none],.sl 9 (ePrs a) none,.ag [.sl 10 (eLms ls) none]] (.v (.int .i64 e)):=by
 refine calldw 0 17 [ResultVar.tmp 6] TAUK_ok Tryz.func19 rfl Tryz.ntmps19 rfl fun cx hnt hn0=>?_
 ·skip
  refine dw_seq ?_;refine dwk [] TAUK_ok hnt fun _ z9=>z9 _ _ ?_;refine dw_seq ?_;refine dwk [] TAUK_ok hnt fun K hK=>?_;refine dcl (hW) ?_;refine hK _ _ ?_;clear hK K;refine dw_seq ?_;refine dwk [] TAUK_ok hnt fun _ z9=>z9 _ _ ?_;refine dw_ret ?_
  exact reta rfl
set_option maxHeartbeats 4000000 in
theorem Proves_d (b:Int)(C Mw:List Ty)(a:List Li.Pr)(ls:List Au.Lm)(e:Int)(p:Li.Pr)(hl:ls.length≤1000000)(h:∀ x∈ls,(x.p.l.full≤900000∧x.p.l.Fit)∧(x.p.r.full≤900000∧x.p.r.Fit)∧Ty.sizes x.p.m≤800000) 
  (hC:PureC Tryz.prog 19 [.ag [.v (.int .i64 b),.sl 2 (eTys C) none,.sl 2 (eTys Mw) none],.sl 9 (ePrs a) none,.ag [.sl 10 (eLms ls) none]] (.v (.int .i64 e))) :
  PureC Tryz.prog 20 [.ag [.v (.int .i64 b),.sl 2 (eTys C) none,.sl 2 (eTys Mw) none],.sl 9 (ePrs a) none,.ag [.sl 10 (eLms ls) none],.ag (ePr p)] (.v (.int .i64 (if e≠0 then e else Au.goal ls p))):=by
 by_cases h0:e=0
 ·rw[if_neg (fun h=>h h0)]
  by_cases hn:ls=[]
  ·subst hn
   have hg:=Goal_nil
   rw[ePr_at] at hg ⊢
   rw[show Au.goal [] p=12 from if_neg (by simp)]
   refine calldw 0 32 [ResultVar.tmp 8] TAUK_ok Tryz.func20 rfl Tryz.ntmps20 rfl fun cx hnt hn0=>?_
   ·skip
    refine dw_seq ?_;refine dwk [] TAUK_ok hnt fun _ z9=>z9 _ _ ?_;refine dw_seq ?_;refine dw_seq ?_;refine dwk [] TAUK_ok hnt fun K hK=>?_;refine dcl (hC) ?_;refine hK _ _ ?_;clear hK K;refine dw_seq ?_;refine dwk [(17,.v (.bool false))] TAUK_ok hnt fun K hK=>?_;refine And.intro (bneF h0) ?_;refine hK _ _ ?_;clear hK K;refine dw_cond (t:=false) rfl ?_;rw[if_neg (by simp)]
    refine dw_skip ?_;refine dw_seq ?_;refine dw_seq ?_;refine dwk [] TAUK_ok hnt fun K hK=>?_;refine dcl (hg) ?_;refine hK _ _ ?_;clear hK K;refine dw_seq ?_;refine dwk [] TAUK_ok hnt fun _ z9=>z9 _ _ ?_;refine dw_cond (t:=true) rfl ?_;rw[if_pos rfl];refine dw_seq ?_;refine dwk [] TAUK_ok hnt fun _ z9=>z9 _ _ ?_;refine dw_ret ?_
    exact reta rfl
  ·have hg:=Goal_d ls hl h hn
   obtain⟨q,hq⟩:∃ q,(ls.getLast hn).p=q:=⟨_,rfl⟩
   rw[hq] at hg
   have he:=ruequal_d q p
   have hgo:Au.goal ls p=if q=p then 0 else 12:=by
    unfold Au.goal
    rw[List.getLast?_eq_some_getLast hn,Option.map_some,hq]
    by_cases h:q=p
    ·rw[if_pos h,if_pos (by rw[h])]
    ·rw[if_neg h,if_neg (fun g=>h (Option.some.inj g))]
   rw[hgo]
   rw[ePr_at] at hg
   rw[ePr_at,ePr_at] at he
   rw[ePr_at]
   by_cases hqp:q=p
   ·rw[if_pos hqp]
    rw[decide_eq_true hqp] at he
    refine calldw 0 32 [ResultVar.tmp 8] TAUK_ok Tryz.func20 rfl Tryz.ntmps20 rfl fun cx hnt hn0=>?_
    ·skip
     refine dw_seq ?_;refine dwk [] TAUK_ok hnt fun _ z9=>z9 _ _ ?_;refine dw_seq ?_;refine dw_seq ?_;refine dwk [] TAUK_ok hnt fun K hK=>?_;refine dcl (hC) ?_;refine hK _ _ ?_;clear hK K;refine dw_seq ?_;refine dwk [(17,.v (.bool false))] TAUK_ok hnt fun K hK=>?_;refine And.intro (bneF h0) ?_;refine hK _ _ ?_;clear hK K;refine dw_cond (t:=false) rfl ?_;rw[if_neg (by simp)]
     refine dw_skip ?_;refine dw_seq ?_;refine dw_seq ?_;refine dwk [] TAUK_ok hnt fun K hK=>?_;refine dcl (hg) ?_;refine hK _ _ ?_;clear hK K;refine dw_seq ?_;refine dwk [] TAUK_ok hnt fun K hK=>?_;refine dcl (he) ?_;refine hK _ _ ?_;clear hK K;refine dw_cond (t:=false) rfl ?_;rw[if_neg (by simp)];refine dw_skip ?_;refine dw_seq ?_;refine dwk [] TAUK_ok hnt fun _ z9=>z9 _ _ ?_
     refine dw_ret ?_
     exact reta rfl
   ·rw[if_neg hqp]
    rw[decide_eq_false hqp] at he
    refine calldw 0 32 [ResultVar.tmp 8] TAUK_ok Tryz.func20 rfl Tryz.ntmps20 rfl fun cx hnt hn0=>?_
    ·skip
     refine dw_seq ?_;refine dwk [] TAUK_ok hnt fun _ z9=>z9 _ _ ?_;refine dw_seq ?_;refine dw_seq ?_;refine dwk [] TAUK_ok hnt fun K hK=>?_;refine dcl (hC) ?_;refine hK _ _ ?_;clear hK K;refine dw_seq ?_;refine dwk [(17,.v (.bool false))] TAUK_ok hnt fun K hK=>?_;refine And.intro (bneF h0) ?_;refine hK _ _ ?_;clear hK K;refine dw_cond (t:=false) rfl ?_;rw[if_neg (by simp)]
     refine dw_skip ?_;refine dw_seq ?_;refine dw_seq ?_;refine dwk [] TAUK_ok hnt fun K hK=>?_;refine dcl (hg) ?_;refine hK _ _ ?_;clear hK K;refine dw_seq ?_;refine dwk [] TAUK_ok hnt fun K hK=>?_;refine dcl (he) ?_;refine hK _ _ ?_;clear hK K;refine dw_cond (t:=true) rfl ?_;rw[if_pos rfl];refine dw_seq ?_;refine dwk [] TAUK_ok hnt fun _ z9=>z9 _ _ ?_;refine dw_ret ?_
     exact reta rfl
 ·rw[if_pos h0,ePr_at]
  refine calldw 0 32 [ResultVar.tmp 8] TAUK_ok Tryz.func20 rfl Tryz.ntmps20 rfl fun cx hnt hn0=>?_
  ·skip
   refine dw_seq ?_;refine dwk [] TAUK_ok hnt fun _ z9=>z9 _ _ ?_;refine dw_seq ?_;refine dw_seq ?_;refine dwk [] TAUK_ok hnt fun K hK=>?_;refine dcl (hC) ?_;refine hK _ _ ?_;clear hK K;refine dw_seq ?_;refine dwk [(17,.v (.bool true))] TAUK_ok hnt fun K hK=>?_;refine And.intro (bneT h0) ?_;refine hK _ _ ?_;clear hK K;refine dw_cond (t:=true) rfl ?_;rw[if_pos rfl]
   refine dw_seq ?_;refine dwk [] TAUK_ok hnt fun _ z9=>z9 _ _ ?_;refine dw_ret ?_
   exact reta rfl
namespace Au
def kA:Ty:=.mk [] 0
def kW:List Ty:=[kA,.mk [kA] 0]
def kz:Tm:=.mk [] 1 0 []
def kx:Tm:=.mk [] 2 0 []
def ks (t:Tm):Tm:=.mk [] 1 1 [t]
def kE:Li.Pr:=⟨ks (ks kx),kx,[kA]⟩
def kP:Li.Pr:=⟨ks (ks (ks kz)),ks kz,[]⟩
def k1:St:=⟨0,false,[],[(0,ks kz)]⟩
def k2:St:=⟨0,false,[0],[(0,kz)]⟩
def kL1:Lm:=⟨kP,[k1]⟩
def kL2:Lm:=⟨kP,[k2]⟩
def kL0:Lm:=⟨kP,[]⟩
theorem kWd:RightWd 1 kW []:=by
 refine⟨by decide,fun t ht=>?_⟩
 have:t=kA∨t=.mk [kA] 0:=by simpa[kW] using ht
 rcases this with rfl | rfl
 ·exact⟨by decide,by decide,by simp[kA,Ty.low_iff]⟩
 ·exact⟨by decide,by decide,by simp[kA,Ty.low_iff]⟩
theorem kGood:Ru.Good 1 kW kP:=⟨kWd,by decide,by decide,kA,by kernel_rfl,rfl,by simp[kP,ks,kz,kW,kA,IsOf,IsOfs,headTy,Ty.args,Ty.base],by simp[kP,ks,kz,kW,kA,IsOf,IsOfs,headTy,Ty.args,Ty.base]⟩
theorem kE_wd:RightWd 1 kW [kA]:=by
 refine⟨by decide,fun t ht=>?_⟩
 have:t=kA∨t=.mk [kA] 0:=by
  simp[kW] at ht
  rcases ht with h | h | h
  ·exact .inl h
  ·exact .inr h
  ·exact .inl h
 rcases this with rfl | rfl
 ·exact⟨by decide,by decide,by simp[kA,Ty.low_iff]⟩
 ·exact⟨by decide,by decide,by simp[kA,Ty.low_iff]⟩
theorem kEGood:Ru.Good 1 kW kE:=⟨kE_wd,by decide,by decide,kA,by kernel_rfl,rfl,by simp[kE,ks,kx,kW,kA,IsOf,IsOfs,headTy,Ty.args,Ty.base],by simp[kE,ks,kx,kW,kA,IsOf,IsOfs,headTy,Ty.args,Ty.base]⟩
theorem code_0 {code:List Ty→Tm→Ty→Int}{C M:List Ty}(hc:∀ X t u,checkCode C M t X u (code X t u)){X:List Ty}{t:Tm}{u:Ty}(h1:t.size≤5000∧t.depth≤60)(h2:IsOf C M t X u):code X t u=0:=by
 rcases hc X t u with⟨g,_⟩ | ⟨_,g,_⟩ | ⟨_,_,g⟩
 ·exact absurd h1 g
 ·exact absurd h2 g
 ·exact g
theorem step_at {code:List Ty→Tm→Ty→Int}{eqs:List Li.Pr}{x:St}{t th:Tm}{ar:List Ty}(hat:Pn.atP x.path t=some (th,ar))(hi:0≤x.eq∧x.eq<(eqs.length:Int))(hs:subS code (eqAt eqs x) x.s ar 0=0):
  step code eqs x (t,0)=fin x t th (img x.s (if x.back then (eqAt eqs x).r else (eqAt eqs x).l) 0).1
   (img x.s (if x.back then (eqAt eqs x).l else (eqAt eqs x).r) (img x.s (if x.back then (eqAt eqs x).r else (eqAt eqs x).l) 0).2).1
   (img x.s (if x.back then (eqAt eqs x).l else (eqAt eqs x).r) (img x.s (if x.back then (eqAt eqs x).r else (eqAt eqs x).l) 0).2).2:=by
 unfold step
 rw[hat]
 dsimp only
 rw[decide_eq_true hi,must_true,if_neg (fun h=>h rfl),hs]
theorem kE_metas:sortU (metasL [kE.l,kE.r])=[0]:=by
 rw[show metasL [kE.l,kE.r]=[0]++[0] by kernel_rfl]
 exact(sortU_twice [0]).trans (by unfold sortU;rw[List.mergeSort_singleton];rfl)
variable {code:List Ty→Tm→Ty→Int} (hc:∀ X t u,checkCode kW [] t X u (code X t u))
include hc
theorem kc_z:code [] kz kA=0:=code_0 hc (by decide) (by simp[kz,kW,kA,IsOf,IsOfs,headTy,Ty.args,Ty.base])
theorem kc_s:code [] (ks kz) kA=0:=code_0 hc (by decide) (by simp[ks,kz,kW,kA,IsOf,IsOfs,headTy,Ty.args,Ty.base])
theorem k1_sub:subS code kE [(0,ks kz)] [] 0=0:=by
 unfold subS
 rw[kE_metas]
 simp only[List.foldl_cons,List.foldl_nil]
 have hm:must (must 0 (Sb.right [(0,ks kz)]&&decide (List.map (fun x=>x.fst) [((0:Int),ks kz)]=[0])) 1) (decide ((0:Int)≤0∧(0:Int) < ↑kE.m.length)) 1=0:=by kernel_rfl
 have hk:code [] (ks kz) (kE.m.getD (Int.toNat 0) (Ty.mk [] 0))=0:=kc_s hc
 rw[if_pos hm,hm,decide_eq_true hk]
 rfl
theorem k2_sub:subS code kE [(0,kz)] [] 0=0:=by
 unfold subS
 rw[kE_metas]
 simp only[List.foldl_cons,List.foldl_nil]
 have hm:must (must 0 (Sb.right [(0,kz)]&&decide (List.map (fun x=>x.fst) [((0:Int),kz)]=[0])) 1) (decide ((0:Int)≤0∧(0:Int) < ↑kE.m.length)) 1=0:=by kernel_rfl
 have hk:code [] (kz) (kE.m.getD (Int.toNat 0) (Ty.mk [] 0))=0:=kc_z hc
 rw[if_pos hm,hm,decide_eq_true hk]
 rfl
theorem k1_step:step code [kE] k1 (kP.l,0)=(kP.r,0):=by
 rw[step_at (th:=kP.l) (ar:=[]) (by kernel_rfl) (by decide) (k1_sub hc)]
 kernel_rfl
theorem k2_step:step code [kE] k2 (kP.l,0)=(kP.r,0):=by
 rw[step_at (th:=ks (ks kz)) (ar:=[]) (by kernel_rfl) (by decide) (k2_sub hc)]
 kernel_rfl
theorem k1_lemma:lemma1 code [kE] 0 kL1=0:=by
 have h:chain code [kE] kL1.l kL1.p.l=(kP.r,0):=by
  have h:List.foldl (fun r x=>step code [kE] x r) (kL1.p.l,0) kL1.l=(kP.r,0):=k1_step hc
  unfold chain
  rw[h];rfl
 unfold lemma1
 rw[h,if_neg (fun h=>h rfl)]
 rw[if_neg (fun h=>h.2 rfl)]
theorem k2_lemma:lemma1 code [kE] 0 kL2=0:=by
 have h:chain code [kE] kL2.l kL2.p.l=(kP.r,0):=by
  have h:List.foldl (fun r x=>step code [kE] x r) (kL2.p.l,0) kL2.l=(kP.r,0):=k2_step hc
  unfold chain
  rw[h];rfl
 unfold lemma1
 rw[h,if_neg (fun h=>h rfl)]
 rw[if_neg (fun h=>h.2 rfl)]
omit hc in
theorem k0_lemma:lemma1 code [kE] 0 kL0=12:=by
 unfold lemma1 chain kL0
 dsimp only[List.foldl_nil]
 kernel_rfl
end Au
def TAUM_62:TI:=⟨4,true,[Value.slice none 0 0,Value.int IntKind.i64 0,Value.int IntKind.i64 0,Value.slice none 0 0],[(0,1,false),(1,2,true),(3,1,false)],none,64,6,none,false⟩
theorem TAUM_62_ok:TypOk Tryz.prog 62 TAUM_62:=by constructor <;> kernel_rfl
def TAUM_112:TI:=⟨10,true,[Value.slice none 0 0,Value.int IntKind.i64 0,Value.int IntKind.i64 0,Value.slice none 0 0,Value.slice none 0 0,Value.int IntKind.i64 0,Value.int IntKind.i64 0,Value.slice none 0 0,Value.slice none 0 0,Value.slice none 0 0],[(0,9,true),(9,1,false)],none,176,6,none,false⟩
theorem TAUM_112_ok:TypOk Tryz.prog 112 TAUM_112:=by constructor <;> kernel_rfl
def TAUM_43:TI:=⟨3,true,[Value.int IntKind.i64 0,Value.slice none 0 0,Value.slice none 0 0],[(0,1,false),(1,1,false),(2,1,false)],none,56,6,none,false⟩
theorem TAUM_43_ok:TypOk Tryz.prog 43 TAUM_43:=by constructor <;> kernel_rfl
def TAUM_64:TI:=⟨9,true,[Value.slice none 0 0,Value.int IntKind.i64 0,Value.int IntKind.i64 0,Value.slice none 0 0,Value.slice none 0 0,Value.int IntKind.i64 0,Value.int IntKind.i64 0,Value.slice none 0 0,Value.slice none 0 0],[(0,4,true),(4,4,true),(8,1,false)],none,152,6,none,false⟩
theorem TAUM_64_ok:TypOk Tryz.prog 64 TAUM_64:=by constructor <;> kernel_rfl
def TAUM_106:TI:=⟨2,true,[Value.slice none 0 0,Value.int IntKind.i64 0],[(0,1,false),(1,1,false)],none,32,6,none,false⟩
theorem TAUM_106_ok:TypOk Tryz.prog 106 TAUM_106:=by constructor <;> kernel_rfl
def TAUM_41:TI:=⟨1,false,[Value.slice none 0 0],[],some 106,24,5,none,false⟩
theorem TAUM_41_ok:TypOk Tryz.prog 41 TAUM_41:=by constructor <;> kernel_rfl
def TAUM_34:TI:=⟨1,false,[Value.slice none 0 0],[],some 64,24,5,none,false⟩
theorem TAUM_34_ok:TypOk Tryz.prog 34 TAUM_34:=by constructor <;> kernel_rfl
def TAUM_50:TI:=⟨1,false,[Value.int IntKind.i64 0],[],none,8,2,none,false⟩
theorem TAUM_50_ok:TypOk Tryz.prog 50 TAUM_50:=by constructor <;> kernel_rfl
def TAUM_59:TI:=⟨2,true,[Value.int IntKind.i64 0,Value.int IntKind.i64 0],[(0,1,false),(1,1,false)],none,16,6,none,true⟩
theorem TAUM_59_ok:TypOk Tryz.prog 59 TAUM_59:=by constructor <;> kernel_rfl
def TAUM_110:TI:=⟨5,true,[Value.int IntKind.i64 0,Value.slice none 0 0,Value.int IntKind.i64 0,Value.int IntKind.i64 0,Value.slice none 0 0],[(0,1,false),(1,4,true)],none,72,6,none,false⟩
theorem TAUM_110_ok:TypOk Tryz.prog 110 TAUM_110:=by constructor <;> kernel_rfl
def TAUM_84:TI:=⟨1,false,[Value.slice none 0 0],[],some 110,24,5,none,false⟩
theorem TAUM_84_ok:TypOk Tryz.prog 84 TAUM_84:=by constructor <;> kernel_rfl
def TAUM_86:TI:=⟨4,true,[Value.int IntKind.i64 0,Value.bool false,Value.slice none 0 0,Value.slice none 0 0],[(0,1,false),(1,1,false),(2,1,false),(3,1,false)],none,64,6,none,false⟩
theorem TAUM_86_ok:TypOk Tryz.prog 86 TAUM_86:=by constructor <;> kernel_rfl
def TAUM_78:TI:=⟨1,false,[Value.slice none 0 0],[],some 86,24,5,none,false⟩
theorem TAUM_78_ok:TypOk Tryz.prog 78 TAUM_78:=by constructor <;> kernel_rfl
def TAUM_47:TI:=⟨1,true,[Value.slice none 0 0],[(0,1,false)],none,24,6,none,false⟩
theorem TAUM_47_ok:TypOk Tryz.prog 47 TAUM_47:=by constructor <;> kernel_rfl
def TAUM_3:TI:=⟨1,false,[Value.int IntKind.i64 0],[],none,8,2,none,false⟩
theorem TAUM_3_ok:TypOk Tryz.prog 3 TAUM_3:=by constructor <;> kernel_rfl
def TAUM_71:TI:=⟨1,false,[Value.slice none 0 0],[],some 3,24,5,none,false⟩
theorem TAUM_71_ok:TypOk Tryz.prog 71 TAUM_71:=by constructor <;> kernel_rfl
def TAUM_45:TI:=⟨1,false,[Value.slice none 0 0],[],some 112,24,5,none,false⟩
theorem TAUM_45_ok:TypOk Tryz.prog 45 TAUM_45:=by constructor <;> kernel_rfl
def TAUM_60:TI:=⟨1,false,[Value.slice none 0 0],[],some 62,24,5,none,false⟩
theorem TAUM_60_ok:TypOk Tryz.prog 60 TAUM_60:=by constructor <;> kernel_rfl
def TAUM:List (Nat×TI):=[(62,TAUM_62),(112,TAUM_112),(43,TAUM_43),(64,TAUM_64),(106,TAUM_106),(41,TAUM_41),(34,TAUM_34),(50,TAUM_50),(59,TAUM_59),(110,TAUM_110),(84,TAUM_84),(86,TAUM_86),(78,TAUM_78),(47,TAUM_47),(3,TAUM_3),(71,TAUM_71),(45,TAUM_45),(60,TAUM_60)]
theorem TAUM_ok:TabOk Tryz.prog TAUM:=(((((((((((((((((((TabOk.nil _).cons TAUM_60_ok).cons TAUM_45_ok).cons TAUM_71_ok).cons TAUM_3_ok).cons TAUM_47_ok).cons TAUM_78_ok).cons TAUM_86_ok).cons TAUM_84_ok).cons TAUM_110_ok).cons TAUM_59_ok).cons TAUM_50_ok).cons TAUM_34_ok).cons TAUM_41_ok).cons TAUM_106_ok).cons TAUM_64_ok).cons TAUM_43_ok).cons TAUM_112_ok).cons TAUM_62_ok)
namespace Au
theorem code_ex (C M:List Ty):∃ code:List Ty→Tm→Ty→Int,∀ X t u,checkCode C M t X u (code X t u):=by
 have h:∀ X t u,∃ c,checkCode C M t X u c:=fun X t u=>by
  by_cases h1:t.size≤5000∧t.depth≤60
  ·by_cases h2:IsOf C M t X u
   ·exact⟨0,.inr (.inr ⟨h1,h2,rfl⟩)⟩
   ·exact⟨5,.inr (.inl ⟨h1,h2,rfl⟩)⟩
  ·exact⟨2,.inl ⟨h1,rfl⟩⟩
 exact⟨fun X t u=>Classical.choose (h X t u),fun X t u=>Classical.choose_spec (h X t u)⟩
theorem kz_fit:kz.Fit:=Tm.fit_iff.2 ⟨by decide,by decide,nofun⟩
theorem kx_fit:kx.Fit:=Tm.fit_iff.2 ⟨by decide,by decide,nofun⟩
theorem ks_fit {t:Tm}(h:t.Fit):(ks t).Fit:=Tm.fit_iff.2 ⟨by decide,by decide,fun u hu=>by
 have:u=t:=by simpa using hu
 subst this;exact h⟩
theorem kE_ok:EqOk kE:=⟨⟨by decide,Bnd.of_full _ (by decide) (ks_fit (ks_fit kx_fit))⟩,⟨by decide,Bnd.of_full _ (by decide) kx_fit⟩,by decide⟩
theorem kP_ok:EqOk kP:=⟨⟨by decide,Bnd.of_full _ (by decide) (ks_fit (ks_fit (ks_fit kz_fit)))⟩,⟨by decide,Bnd.of_full _ (by decide) (ks_fit kz_fit)⟩,by decide⟩
theorem k1_ok:SOk k1:=⟨by decide,fun q hq=>by
 have:q=(0,ks kz):=by simpa[k1] using hq
 subst this;exact⟨by decide,ks_fit kz_fit⟩,by decide⟩
theorem k2_ok:SOk k2:=⟨by decide,fun q hq=>by
 have:q=(0,kz):=by simpa[k2] using hq
 subst this;exact⟨by decide,kz_fit⟩,by decide⟩
end Au
theorem aus_d (t:Tm):PureC Tryz.prog 42 [.ag [.sl 2 (eTys t.binds) none,.v (.int .i64 t.kind),.v (.int .i64 t.index),.sl 4 (eTms t.args) none]] (.ag [.sl 2 [] none,.v (.int .i64 1),.v (.int .i64 1),.sl 4 (eTms [t]) none]):=by
 have e:eTms [t]=[[.sl 2 (eTys t.binds) none,.v (.int .i64 t.kind),.v (.int .i64 t.index),.sl 4 (eTms t.args) none]]:=by rw[←eTm_eq];rfl
 refine calldw 0 7 [ResultVar.cell 2 62] TAUM_ok Tryz.func42 rfl Tryz.ntmps42 rfl fun cx hnt hn0=>?_
 ·skip
  refine dw_seq ?_;refine dwk [] TAUM_ok hnt fun _ z9=>z9 _ _ ?_;refine dw_seq ?_;refine dwk [(5,.sl 4 (eTms [t]) none)] TAUM_ok hnt fun K hK=>?_;refine And.intro ((by rw[e];exact VLe.untag _ _ _)) ?_;refine hK _ _ ?_;clear hK K;refine dw_ret ?_
  exact reta rfl
theorem kOf0_27:PureC Tryz.prog 41 [.v (.int .i64 0),.v (.slice none 0 0)] (.ag [.sl 2 [] none,.v (.int .i64 0)]):=CallC.vle (kOf_d 0 [] (by simp[Ty.sizes])) (.cons (VLe.refl _) (.cons (VLe.nil _) .nil)) (VLe.refl _)
namespace Au
theorem kes:∀ q∈[kE],EqOk q:=fun q hq=>by rw[List.mem_singleton] at hq;subst hq;exact kE_ok
end Au
set_option maxHeartbeats 4000000 in
theorem klemma_d (x:Au.Lm)(v:Int)(hp:x.p=Au.kP)(hl:x.l.length≤1000)(hx:∀ y∈x.l,Au.SOk y)(hv:∀ code:List Ty→Tm→Ty→Int,(∀ X t u,checkCode Au.kW [] t X u (code X t u))→Au.lemma1 code [Au.kE] 0 x=v):
  PureC Tryz.prog 43 [.ag [.v (.int .i64 1),.sl 2 (eTys Au.kW) none,.sl 2 (eTys []) none],.sl 9 (ePrs [Au.kE]) none,.ag (eLm x)] (.v (.int .i64 v)):=by
 obtain⟨code,hc⟩:=Au.code_ex Au.kW []
 have hs:∀ t∈Au.kW++Au.kP.m,t.size≤400000:=fun t ht=>by have:=(Au.kWd.2 t ht).1;omega
 obtain⟨c,hc0,hT⟩:=rutypedD_d 1 Au.kW [] Au.kP ⟨by decide,Au.ks_fit (Au.ks_fit (Au.ks_fit Au.kz_fit))⟩ ⟨by decide,Au.ks_fit Au.kz_fit⟩ (by decide) (by decide) hs
 have h0:=hc0.2 Au.kGood
 subst h0
 rw[←hv code hc]
 rw[←hp] at hT
 exact Lemma_d 1 Au.kW [] [Au.kE] x 0 code hT (by rw[hp];exact hc) (by decide) (by rw[hp];decide) (by decide) (by rw[hp];decide) (by decide) Au.kes hl hx (by rw[hp];exact Au.kP_ok.ok)
def TAUN_62:TI:=⟨4,true,[Value.slice none 0 0,Value.int IntKind.i64 0,Value.int IntKind.i64 0,Value.slice none 0 0],[(0,1,false),(1,2,true),(3,1,false)],none,64,6,none,false⟩
theorem TAUN_62_ok:TypOk Tryz.prog 62 TAUN_62:=by constructor <;> kernel_rfl
def TAUN_112:TI:=⟨10,true,[Value.slice none 0 0,Value.int IntKind.i64 0,Value.int IntKind.i64 0,Value.slice none 0 0,Value.slice none 0 0,Value.int IntKind.i64 0,Value.int IntKind.i64 0,Value.slice none 0 0,Value.slice none 0 0,Value.slice none 0 0],[(0,9,true),(9,1,false)],none,176,6,none,false⟩
theorem TAUN_112_ok:TypOk Tryz.prog 112 TAUN_112:=by constructor <;> kernel_rfl
def TAUN_43:TI:=⟨3,true,[Value.int IntKind.i64 0,Value.slice none 0 0,Value.slice none 0 0],[(0,1,false),(1,1,false),(2,1,false)],none,56,6,none,false⟩
theorem TAUN_43_ok:TypOk Tryz.prog 43 TAUN_43:=by constructor <;> kernel_rfl
def TAUN_64:TI:=⟨9,true,[Value.slice none 0 0,Value.int IntKind.i64 0,Value.int IntKind.i64 0,Value.slice none 0 0,Value.slice none 0 0,Value.int IntKind.i64 0,Value.int IntKind.i64 0,Value.slice none 0 0,Value.slice none 0 0],[(0,4,true),(4,4,true),(8,1,false)],none,152,6,none,false⟩
theorem TAUN_64_ok:TypOk Tryz.prog 64 TAUN_64:=by constructor <;> kernel_rfl
def TAUN_106:TI:=⟨2,true,[Value.slice none 0 0,Value.int IntKind.i64 0],[(0,1,false),(1,1,false)],none,32,6,none,false⟩
theorem TAUN_106_ok:TypOk Tryz.prog 106 TAUN_106:=by constructor <;> kernel_rfl
def TAUN_41:TI:=⟨1,false,[Value.slice none 0 0],[],some 106,24,5,none,false⟩
theorem TAUN_41_ok:TypOk Tryz.prog 41 TAUN_41:=by constructor <;> kernel_rfl
def TAUN_34:TI:=⟨1,false,[Value.slice none 0 0],[],some 64,24,5,none,false⟩
theorem TAUN_34_ok:TypOk Tryz.prog 34 TAUN_34:=by constructor <;> kernel_rfl
def TAUN_50:TI:=⟨1,false,[Value.int IntKind.i64 0],[],none,8,2,none,false⟩
theorem TAUN_50_ok:TypOk Tryz.prog 50 TAUN_50:=by constructor <;> kernel_rfl
def TAUN_59:TI:=⟨2,true,[Value.int IntKind.i64 0,Value.int IntKind.i64 0],[(0,1,false),(1,1,false)],none,16,6,none,true⟩
theorem TAUN_59_ok:TypOk Tryz.prog 59 TAUN_59:=by constructor <;> kernel_rfl
def TAUN_110:TI:=⟨5,true,[Value.int IntKind.i64 0,Value.slice none 0 0,Value.int IntKind.i64 0,Value.int IntKind.i64 0,Value.slice none 0 0],[(0,1,false),(1,4,true)],none,72,6,none,false⟩
theorem TAUN_110_ok:TypOk Tryz.prog 110 TAUN_110:=by constructor <;> kernel_rfl
def TAUN_84:TI:=⟨1,false,[Value.slice none 0 0],[],some 110,24,5,none,false⟩
theorem TAUN_84_ok:TypOk Tryz.prog 84 TAUN_84:=by constructor <;> kernel_rfl
def TAUN_86:TI:=⟨4,true,[Value.int IntKind.i64 0,Value.bool false,Value.slice none 0 0,Value.slice none 0 0],[(0,1,false),(1,1,false),(2,1,false),(3,1,false)],none,64,6,none,false⟩
theorem TAUN_86_ok:TypOk Tryz.prog 86 TAUN_86:=by constructor <;> kernel_rfl
def TAUN_78:TI:=⟨1,false,[Value.slice none 0 0],[],some 86,24,5,none,false⟩
theorem TAUN_78_ok:TypOk Tryz.prog 78 TAUN_78:=by constructor <;> kernel_rfl
def TAUN_47:TI:=⟨1,true,[Value.slice none 0 0],[(0,1,false)],none,24,6,none,false⟩
theorem TAUN_47_ok:TypOk Tryz.prog 47 TAUN_47:=by constructor <;> kernel_rfl
def TAUN_3:TI:=⟨1,false,[Value.int IntKind.i64 0],[],none,8,2,none,false⟩
theorem TAUN_3_ok:TypOk Tryz.prog 3 TAUN_3:=by constructor <;> kernel_rfl
def TAUN_71:TI:=⟨1,false,[Value.slice none 0 0],[],some 3,24,5,none,false⟩
theorem TAUN_71_ok:TypOk Tryz.prog 71 TAUN_71:=by constructor <;> kernel_rfl
def TAUN_45:TI:=⟨1,false,[Value.slice none 0 0],[],some 112,24,5,none,false⟩
theorem TAUN_45_ok:TypOk Tryz.prog 45 TAUN_45:=by constructor <;> kernel_rfl
def TAUN:List (Nat×TI):=[(62,TAUN_62),(112,TAUN_112),(43,TAUN_43),(64,TAUN_64),(106,TAUN_106),(41,TAUN_41),(34,TAUN_34),(50,TAUN_50),(59,TAUN_59),(110,TAUN_110),(84,TAUN_84),(86,TAUN_86),(78,TAUN_78),(47,TAUN_47),(3,TAUN_3),(71,TAUN_71),(45,TAUN_45)]
theorem TAUN_ok:TabOk Tryz.prog TAUN:=((((((((((((((((((TabOk.nil _).cons TAUN_45_ok).cons TAUN_71_ok).cons TAUN_3_ok).cons TAUN_47_ok).cons TAUN_78_ok).cons TAUN_86_ok).cons TAUN_84_ok).cons TAUN_110_ok).cons TAUN_59_ok).cons TAUN_50_ok).cons TAUN_34_ok).cons TAUN_41_ok).cons TAUN_106_ok).cons TAUN_64_ok).cons TAUN_43_ok).cons TAUN_112_ok).cons TAUN_62_ok)
theorem kproves_d:PureC Tryz.prog 20 [.ag [.v (.int .i64 1),.sl 2 (eTys Au.kW) none,.sl 2 (eTys []) none],.sl 9 (ePrs [Au.kE]) none,.ag [.sl 10 (eLms [Au.kL1]) none],.ag (ePr Au.kP)] (.v (.int .i64 0)):=by
 obtain⟨code,hc⟩:∃ code:List Ty→List Ty→Tm→Ty→Int,∀ M X t u,checkCode Au.kW M t X u (code M X t u):=⟨fun M=>Classical.choose (Au.code_ex Au.kW M),fun M=>Classical.choose_spec (Au.code_ex Au.kW M)⟩
 have hs:∀ t∈Au.kW++Au.kP.m,t.size≤400000:=fun t ht=>by have:=(Au.kWd.2 t ht).1;omega
 have hs2:∀ t∈Au.kW++Au.kE.m,t.size≤400000:=fun t ht=>by have:=(Au.kE_wd.2 t ht).1;omega
 obtain⟨c,hc0,hT⟩:=rutypedD_d 1 Au.kW [] Au.kP ⟨by decide,Au.ks_fit (Au.ks_fit (Au.ks_fit Au.kz_fit))⟩ ⟨by decide,Au.ks_fit Au.kz_fit⟩ (by decide) (by decide) hs
 have h0:=hc0.2 Au.kGood
 subst h0
 obtain⟨c,hc1,hT2⟩:=rutypedD_d 1 Au.kW [] Au.kE ⟨by decide,Au.ks_fit (Au.ks_fit Au.kx_fit)⟩ ⟨by decide,Au.kx_fit⟩ (by decide) (by decide) hs2
 have h1:=hc1.2 Au.kEGood
 subst h1
 have hW:=Where_d 1 Au.kW [] [Au.kE] [Au.kL1] (fun _=>0) code (fun p hp=>by
  have:p=Au.kE∨p=Au.kP:=by simpa[Au.kL1] using hp
  rcases this with rfl | rfl
  ·exact hT2
  ·exact hT) hc (by decide) (by decide) (by decide) Au.kes (by decide) (fun x hx=>by
   rw[List.mem_singleton] at hx;subst hx
   exact⟨Au.kP_ok,by decide,by decide,fun y hy=>by
    have:y=Au.k1:=by simpa[Au.kL1] using hy
    subst this;exact Au.k1_ok⟩)
 have e:Au.wh code (fun _=>0) [Au.kE] [Au.kL1]=(1,0):=by
  unfold Au.wh
  rw[if_neg (by simp[Au.firstE]),Au.lemmas,show Au.lemma1 (code Au.kL1.p.m) [Au.kE] 0 Au.kL1=0 from Au.k1_lemma (hc [])]
  rfl
 rw[e] at hW
 have hC:=Check_d27 1 Au.kW [] [Au.kE] [Au.kL1] 1 0 hW
 have hP:=Proves_d 1 Au.kW [] [Au.kE] [Au.kL1] 0 Au.kP (by decide) (fun x hx=>by
  rw[List.mem_singleton] at hx;subst hx
  exact⟨⟨by decide,Au.ks_fit (Au.ks_fit (Au.ks_fit Au.kz_fit))⟩,⟨by decide,Au.ks_fit Au.kz_fit⟩,by decide⟩) hC
 rw[if_neg (by simp),show Au.goal [Au.kL1] Au.kP=0 by kernel_rfl] at hP
 exact hP
set_option maxHeartbeats 4000000 in
theorem known27_d:PureC Tryz.prog 11 [] (.v (.bool true)):=by
 have ho:=kOf0_27
 have o2:=kOf_d 0 [Au.kA] (by decide)
 have L1:=klemma_d Au.kL1 0 rfl (by decide) (fun y hy=>by
  have:y=Au.k1:=by simpa[Au.kL1] using hy
  subst this;exact Au.k1_ok) fun code hc=>Au.k1_lemma hc
 have L2:=klemma_d Au.kL2 0 rfl (by decide) (fun y hy=>by
  have:y=Au.k2:=by simpa[Au.kL2] using hy
  subst this;exact Au.k2_ok) fun code hc=>Au.k2_lemma hc
 have L0:=klemma_d Au.kL0 12 rfl (by decide) (fun y hy=>by cases hy) fun code _=>Au.k0_lemma
 have PV:=kproves_d
 rw[ePr_at] at PV
 have hx:PureC Tryz.prog 42 [.ag [.sl 2 [] none,.v (.int .i64 2),.v (.int .i64 0),.sl 4 [] none]] (.ag [.sl 2 [] none,.v (.int .i64 1),.v (.int .i64 1),.sl 4 (eTms [Au.kx]) none]):=aus_d Au.kx
 have hsx:PureC Tryz.prog 42 [.ag [.sl 2 [] none,.v (.int .i64 1),.v (.int .i64 1),.sl 4 (eTms [Au.kx]) none]] (.ag [.sl 2 [] none,.v (.int .i64 1),.v (.int .i64 1),.sl 4 (eTms [Au.ks Au.kx]) none]):=aus_d (Au.ks Au.kx)
 have hz:PureC Tryz.prog 42 [.ag [.sl 2 [] none,.v (.int .i64 1),.v (.int .i64 0),.sl 4 [] none]] (.ag [.sl 2 [] none,.v (.int .i64 1),.v (.int .i64 1),.sl 4 (eTms [Au.kz]) none]):=aus_d Au.kz
 have hsz:PureC Tryz.prog 42 [.ag [.sl 2 [] none,.v (.int .i64 1),.v (.int .i64 1),.sl 4 (eTms [Au.kz]) none]] (.ag [.sl 2 [] none,.v (.int .i64 1),.v (.int .i64 1),.sl 4 (eTms [Au.ks Au.kz]) none]):=aus_d (Au.ks Au.kz)
 have hssz:PureC Tryz.prog 42 [.ag [.sl 2 [] none,.v (.int .i64 1),.v (.int .i64 1),.sl 4 (eTms [Au.ks Au.kz]) none]] (.ag [.sl 2 [] none,.v (.int .i64 1),.v (.int .i64 1),.sl 4 (eTms [Au.ks (Au.ks Au.kz)]) none]):=aus_d (Au.ks (Au.ks Au.kz))
 unfold eLm at L1 L2 L0
 refine calldw 0 89 [ResultVar.tmp 0] TAUN_ok Tryz.func11 rfl Tryz.ntmps11 rfl fun cx hnt hn0=>?_
 ·skip
  refine dw_seq ?_;refine dwk [] TAUN_ok hnt fun _ z9=>z9 _ _ ?_;refine dw_seq ?_;refine dwk [] TAUN_ok hnt fun K hK=>?_;refine dcl (ho) ?_;refine hK _ _ ?_;clear hK K;refine dw_seq ?_;refine dwkD [(11,.ag (eTy Au.kA)),(12,.ag (eTy Au.kA)),(13,.sl 2 (eTys [Au.kA]) none),(15,.sl 2 (eTys Au.kW) none)] TAUN_ok hnt fun K hK=>?_;refine And.intro (auV) ?_;refine And.intro (auV) ?_
  refine And.intro (VLe.untag _ _ _) ?_;refine dcl (o2) ?_;refine And.intro (VLe.untag _ _ _) ?_;refine hK _ _ (by kernel_rfl) ?_;clear hK K;refine dw_seq ?_;refine dwk [] TAUN_ok hnt fun _ z9=>z9 _ _ ?_;refine dw_seq ?_;refine dwk [] TAUN_ok hnt fun _ z9=>z9 _ _ ?_;refine dw_seq ?_;refine dwk [] TAUN_ok hnt fun _ z9=>z9 _ _ ?_
  refine dw_seq ?_;refine dwkD [(23,.ag [.sl 2 [] none,.v (.int .i64 2),.v (.int .i64 0),.sl 4 [] none]),(26,.ag [.sl 2 [] none,.v (.int .i64 2),.v (.int .i64 0),.sl 4 [] none]),(27,.ag (eTy Au.kA)),(28,.sl 2 (eTys [Au.kA]) none),(30,.sl 9 (ePrs [Au.kE]) none)] TAUN_ok hnt fun K hK=>?_;refine And.intro (auV) ?_;refine dcl (hx) ?_;refine dcl (hsx) ?_;refine And.intro (auV) ?_;refine And.intro (auV) ?_
  refine And.intro (VLe.untag _ _ _) ?_;refine And.intro (VLe.untag _ _ _) ?_;refine hK _ _ (by kernel_rfl) ?_;clear hK K;refine dw_seq ?_;refine dwkD [(34,.ag [.sl 2 [] none,.v (.int .i64 1),.v (.int .i64 0),.sl 4 [] none]),(39,.ag [.sl 2 [] none,.v (.int .i64 1),.v (.int .i64 0),.sl 4 [] none])] TAUN_ok hnt fun K hK=>?_;refine And.intro (auV) ?_;refine dcl (hz) ?_;refine dcl (hsz) ?_
  refine dcl (hssz) ?_;refine And.intro (auV) ?_;refine dcl (hz) ?_;refine hK _ _ (by kernel_rfl) ?_;clear hK K;refine dw_seq ?_;refine dwkD [(42,.ag [.sl 2 (eTys Au.kP.l.binds) none,.v (.int .i64 Au.kP.l.kind),.v (.int .i64 Au.kP.l.index),.sl 4 (eTms Au.kP.l.args) none,.sl 2 (eTys Au.kP.r.binds) none,.v (.int .i64 Au.kP.r.kind),.v (.int .i64 Au.kP.r.index),.sl 4 (eTms Au.kP.r.args) none,.sl 2 (eTys Au.kP.m) none]),(44,.ag [.sl 2 [] none,.v (.int .i64 1),.v (.int .i64 0),.sl 4 [] none]),(47,.sl 5 (ePairs [(0,Au.ks Au.kz)]) none),(48,.ag [.v (.int .i64 0),.v (.bool false),.sl 1 (eIs []) none,.sl 5 (ePairs [(0,Au.ks Au.kz)]) none]),(49,.sl 4 (eSts [Au.k1]) none)] TAUN_ok hnt fun K hK=>?_
  refine And.intro (auV) ?_;refine And.intro (auV) ?_;refine dcl (hz) ?_;refine And.intro (VLe.untag _ _ _) ?_;refine And.intro (auV) ?_;refine And.intro (VLe.untag _ _ _) ?_;refine hK _ _ (by kernel_rfl) ?_;clear hK K;refine dw_seq ?_;refine dwk [(51,.ag [.sl 2 (eTys Au.kP.l.binds) none,.v (.int .i64 Au.kP.l.kind),.v (.int .i64 Au.kP.l.index),.sl 4 (eTms Au.kP.l.args) none,.sl 2 (eTys Au.kP.r.binds) none,.v (.int .i64 Au.kP.r.kind),.v (.int .i64 Au.kP.r.index),.sl 4 (eTms Au.kP.r.args) none,.sl 2 (eTys Au.kP.m) none]),(52,.sl 1 (eIs [0]) none),(53,.ag [.sl 2 [] none,.v (.int .i64 1),.v (.int .i64 0),.sl 4 [] none]),(55,.sl 5 (ePairs [(0,Au.kz)]) none),(57,.sl 4 (eSts [Au.k2]) none)] TAUN_ok hnt fun K hK=>?_
  refine And.intro (auV) ?_;refine And.intro (VLe.untag _ _ _) ?_;refine And.intro (auV) ?_;refine And.intro (VLe.untag _ _ _) ?_;refine And.intro (VLe.untag _ _ _) ?_;refine hK _ _ ?_;clear hK K;refine dw_seq ?_;refine dwk [(59,.ag [.v (.int .i64 1),.sl 2 (eTys Au.kW) none,.sl 2 (eTys []) none]),(61,.ag [.sl 2 (eTys Au.kL1.p.l.binds) none,.v (.int .i64 Au.kL1.p.l.kind),.v (.int .i64 Au.kL1.p.l.index),.sl 4 (eTms Au.kL1.p.l.args) none,.sl 2 (eTys Au.kL1.p.r.binds) none,.v (.int .i64 Au.kL1.p.r.kind),.v (.int .i64 Au.kL1.p.r.index),.sl 4 (eTms Au.kL1.p.r.args) none,.sl 2 (eTys Au.kL1.p.m) none,.sl 4 (eSts Au.kL1.l) none]),(63,.v (.bool true)),(65,.ag [.v (.int .i64 1),.sl 2 (eTys Au.kW) none,.sl 2 (eTys []) none]),(67,.ag [.sl 2 (eTys Au.kL2.p.l.binds) none,.v (.int .i64 Au.kL2.p.l.kind),.v (.int .i64 Au.kL2.p.l.index),.sl 4 (eTms Au.kL2.p.l.args) none,.sl 2 (eTys Au.kL2.p.r.binds) none,.v (.int .i64 Au.kL2.p.r.kind),.v (.int .i64 Au.kL2.p.r.index),.sl 4 (eTms Au.kL2.p.r.args) none,.sl 2 (eTys Au.kL2.p.m) none,.sl 4 (eSts Au.kL2.l) none]),(69,.v (.bool true)),(72,.ag [.v (.int .i64 1),.sl 2 (eTys Au.kW) none,.sl 2 (eTys []) none]),(74,.ag [.sl 2 (eTys Au.kP.l.binds) none,.v (.int .i64 Au.kP.l.kind),.v (.int .i64 Au.kP.l.index),.sl 4 (eTms Au.kP.l.args) none,.sl 2 (eTys Au.kP.r.binds) none,.v (.int .i64 Au.kP.r.kind),.v (.int .i64 Au.kP.r.index),.sl 4 (eTms Au.kP.r.args) none,.sl 2 (eTys Au.kP.m) none]),(75,.ag [.sl 2 (eTys Au.kL0.p.l.binds) none,.v (.int .i64 Au.kL0.p.l.kind),.v (.int .i64 Au.kL0.p.l.index),.sl 4 (eTms Au.kL0.p.l.args) none,.sl 2 (eTys Au.kL0.p.r.binds) none,.v (.int .i64 Au.kL0.p.r.kind),.v (.int .i64 Au.kL0.p.r.index),.sl 4 (eTms Au.kL0.p.r.args) none,.sl 2 (eTys Au.kL0.p.m) none,.sl 4 (eSts Au.kL0.l) none]),(77,.v (.bool true)),(80,.ag [.v (.int .i64 1),.sl 2 (eTys Au.kW) none,.sl 2 (eTys []) none]),(82,.ag [.sl 2 (eTys Au.kL1.p.l.binds) none,.v (.int .i64 Au.kL1.p.l.kind),.v (.int .i64 Au.kL1.p.l.index),.sl 4 (eTms Au.kL1.p.l.args) none,.sl 2 (eTys Au.kL1.p.r.binds) none,.v (.int .i64 Au.kL1.p.r.kind),.v (.int .i64 Au.kL1.p.r.index),.sl 4 (eTms Au.kL1.p.r.args) none,.sl 2 (eTys Au.kL1.p.m) none,.sl 4 (eSts Au.kL1.l) none]),(83,.sl 10 (eLms [Au.kL1]) none),(85,.ag [.sl 2 (eTys Au.kP.l.binds) none,.v (.int .i64 Au.kP.l.kind),.v (.int .i64 Au.kP.l.index),.sl 4 (eTms Au.kP.l.args) none,.sl 2 (eTys Au.kP.r.binds) none,.v (.int .i64 Au.kP.r.kind),.v (.int .i64 Au.kP.r.index),.sl 4 (eTms Au.kP.r.args) none,.sl 2 (eTys Au.kP.m) none]),(87,.v (.bool true))] TAUN_ok hnt fun K hK=>?_
  refine And.intro (auV) ?_;refine And.intro (auV) ?_;refine dcl (L1) ?_;refine And.intro (beqT rfl) ?_;refine And.intro (auV) ?_;refine And.intro (auV) ?_;refine dcl (L2) ?_;refine And.intro (beqT rfl) ?_;refine And.intro (auV) ?_;refine And.intro (auV) ?_;refine And.intro (auV) ?_;refine dcl (L0) ?_;refine And.intro (beqT rfl) ?_;refine And.intro (auV) ?_;refine And.intro (auV) ?_;refine And.intro (VLe.untag _ _ _) ?_
  refine And.intro (auV) ?_;refine dcl (PV) ?_;refine And.intro (beqT rfl) ?_;refine hK _ _ ?_;clear hK K;refine dw_ret ?_
  exact reta rfl
namespace Au
variable (code:List Ty→Tm→Ty→Int) (eqs:List Li.Pr)
theorem fold_zero:∀ (l:List St) (r:Tm×Int),(r.2≠0→r.1=Tm.zero)→(l.foldl (fun r x=>step code eqs x r) r).2≠0→(l.foldl (fun r x=>step code eqs x r) r).1=Tm.zero
 | [],r,h,h2=>h h2
 | x :: l,r,h,h2=>by
  rw[List.foldl_cons] at h2 ⊢
  exact fold_zero l _ (step_ne code eqs) h2
theorem chain_fold (l:List St)(t:Tm):chain code eqs l t=l.foldl (fun r x=>step code eqs x r) (t,0):=by
 unfold chain
 by_cases h:(l.foldl (fun r x=>step code eqs x r) (t,0)).2≠0
 ·rw[if_pos h]
  exact Prod.ext (fold_zero code eqs l (t,0) (fun h=>absurd rfl h) h).symm rfl
 ·rw[if_neg h]
theorem chain_one (x:St)(t:Tm):chain code eqs [x] t=step code eqs x (t,0):=chain_fold code eqs [x] t
theorem fold_stop:∀ (l:List St) (r:Tm×Int),r.2≠0→r.1=Tm.zero→l.foldl (fun r x=>step code eqs x r) r=r
 | [],r,h,h2=>rfl
 | x :: l,r,h,h2=>by
  rw[List.foldl_cons,step_e code eqs h,show ((Tm.zero,r.2):Tm×Int)=r from Prod.ext h2.symm rfl]
  exact fold_stop l r h h2
def way (l:List St)(t:Tm)(j:Nat):Tm×Int:=(l.take j).foldl (fun r x=>step code eqs x r) (t,0)
theorem way_next (l:List St)(t:Tm)(j:Nat)(h:j<l.length)(h0:(way code eqs l t j).2=0):way code eqs l t (j+1)=chain code eqs [l[j]] (way code eqs l t j).1:=by
 rw[chain_one]
 have e:way code eqs l t (j+1)=step code eqs l[j] (way code eqs l t j):=by
  unfold way
  rw[List.take_add_one,List.getElem?_eq_getElem h,List.foldl_append];rfl
 rw[e,show way code eqs l t j=((way code eqs l t j).1,0) from Prod.ext rfl h0]
theorem way_zero (l:List St)(t:Tm)(j:Nat)(h:(way code eqs l t j).2≠0):(way code eqs l t j).1=Tm.zero:=fold_zero code eqs _ _ (fun h=>absurd rfl h) h
theorem way_stop (l:List St)(t:Tm)(j:Nat)(h:(way code eqs l t j).2≠0):chain code eqs l t=way code eqs l t j:=by
 rw[chain_fold]
 have e:=List.take_append_drop j l
 rw[←e,List.foldl_append,e]
 exact fold_stop code eqs _ _ h (way_zero code eqs l t j h)
theorem way_all (l:List St)(t:Tm):chain code eqs l t=way code eqs l t l.length:=by
 rw[chain_fold,way,List.take_length]
end Au
namespace Ru
def wB (C M:List Ty):Bool:=decide (C.length≤20∧M.length≤20)&&(C++M).all few4B
end Ru
theorem smallW_d (b:Int)(C M:List Ty):PureC Tryz.prog 8 [.ag [.v (.int .i64 b),.sl 2 (eTys C) none,.sl 2 (eTys M) none],.v (.slice none 0 0)] (.v (.bool (Ru.wB C M))):=by
 unfold Ru.wB
 by_cases h:C.length≤20∧M.length≤20
 ·have:=small_d b C M [] h.1 h.2 (by simp)
  rw[List.append_nil] at this
  rw[decide_eq_true h,Bool.true_and]
  exact CallC.vle this (.cons (VLe.refl _) (.cons (VLe.nil _) .nil)) (VLe.refl _)
 ·have:=small_no b C M [] (fun h2=>h ⟨h2.1,h2.2.1⟩)
  rw[decide_eq_false h,Bool.false_and]
  exact CallC.vle this (.cons (VLe.refl _) (.cons (VLe.nil _) .nil)) (VLe.refl _)
def TAUU_62:TI:=⟨4,true,[Value.slice none 0 0,Value.int IntKind.i64 0,Value.int IntKind.i64 0,Value.slice none 0 0],[(0,1,false),(1,2,true),(3,1,false)],none,64,6,none,false⟩
theorem TAUU_62_ok:TypOk Tryz.prog 62 TAUU_62:=by constructor <;> kernel_rfl
def TAUU_43:TI:=⟨3,true,[Value.int IntKind.i64 0,Value.slice none 0 0,Value.slice none 0 0],[(0,1,false),(1,1,false),(2,1,false)],none,56,6,none,false⟩
theorem TAUU_43_ok:TypOk Tryz.prog 43 TAUU_43:=by constructor <;> kernel_rfl
def TAUU_31:TI:=⟨4,true,[Value.slice none 0 0,Value.int IntKind.i64 0,Value.int IntKind.i64 0,Value.slice none 0 0],[(0,1,false),(1,2,true),(3,1,false)],none,64,6,none,false⟩
theorem TAUU_31_ok:TypOk Tryz.prog 31 TAUU_31:=by constructor <;> kernel_rfl
def TAUU_50:TI:=⟨1,false,[Value.int IntKind.i64 0],[],none,8,2,none,false⟩
theorem TAUU_50_ok:TypOk Tryz.prog 50 TAUU_50:=by constructor <;> kernel_rfl
def TAUU_24:TI:=⟨3,true,[Value.int IntKind.i64 0,Value.slice none 0 0,Value.slice none 0 0],[(0,1,false),(1,1,false),(2,1,false)],none,56,6,none,false⟩
theorem TAUU_24_ok:TypOk Tryz.prog 24 TAUU_24:=by constructor <;> kernel_rfl
def TAUU_78:TI:=⟨1,false,[Value.slice none 0 0],[],some 86,24,5,none,false⟩
theorem TAUU_78_ok:TypOk Tryz.prog 78 TAUU_78:=by constructor <;> kernel_rfl
def TAUU_3:TI:=⟨1,false,[Value.int IntKind.i64 0],[],none,8,2,none,false⟩
theorem TAUU_3_ok:TypOk Tryz.prog 3 TAUU_3:=by constructor <;> kernel_rfl
def TAUU_34:TI:=⟨1,false,[Value.slice none 0 0],[],some 64,24,5,none,false⟩
theorem TAUU_34_ok:TypOk Tryz.prog 34 TAUU_34:=by constructor <;> kernel_rfl
def TAUU_29:TI:=⟨1,false,[Value.slice none 0 0],[],some 31,24,5,none,false⟩
theorem TAUU_29_ok:TypOk Tryz.prog 29 TAUU_29:=by constructor <;> kernel_rfl
def TAUU_86:TI:=⟨4,true,[Value.int IntKind.i64 0,Value.bool false,Value.slice none 0 0,Value.slice none 0 0],[(0,1,false),(1,1,false),(2,1,false),(3,1,false)],none,64,6,none,false⟩
theorem TAUU_86_ok:TypOk Tryz.prog 86 TAUU_86:=by constructor <;> kernel_rfl
def TAUU_56:TI:=⟨1,false,[Value.slice none 0 0],[],some 74,24,5,none,false⟩
theorem TAUU_56_ok:TypOk Tryz.prog 56 TAUU_56:=by constructor <;> kernel_rfl
def TAUU_25:TI:=⟨1,false,[Value.slice none 0 0],[],some 33,24,5,none,false⟩
theorem TAUU_25_ok:TypOk Tryz.prog 25 TAUU_25:=by constructor <;> kernel_rfl
def TAUU_22:TI:=⟨1,false,[Value.slice none 0 0],[],some 104,24,5,none,false⟩
theorem TAUU_22_ok:TypOk Tryz.prog 22 TAUU_22:=by constructor <;> kernel_rfl
def TAUU_64:TI:=⟨9,true,[Value.slice none 0 0,Value.int IntKind.i64 0,Value.int IntKind.i64 0,Value.slice none 0 0,Value.slice none 0 0,Value.int IntKind.i64 0,Value.int IntKind.i64 0,Value.slice none 0 0,Value.slice none 0 0],[(0,4,true),(4,4,true),(8,1,false)],none,152,6,none,false⟩
theorem TAUU_64_ok:TypOk Tryz.prog 64 TAUU_64:=by constructor <;> kernel_rfl
def TAUU_74:TI:=⟨4,true,[Value.int IntKind.i64 0,Value.bool false,Value.slice none 0 0,Value.slice none 0 0],[(0,1,false),(1,1,false),(2,1,false),(3,1,false)],none,64,6,none,false⟩
theorem TAUU_74_ok:TypOk Tryz.prog 74 TAUU_74:=by constructor <;> kernel_rfl
def TAUU_104:TI:=⟨2,true,[Value.slice none 0 0,Value.int IntKind.i64 0],[(0,1,false),(1,1,false)],none,32,6,none,false⟩
theorem TAUU_104_ok:TypOk Tryz.prog 104 TAUU_104:=by constructor <;> kernel_rfl
def TAUU_33:TI:=⟨9,true,[Value.slice none 0 0,Value.int IntKind.i64 0,Value.int IntKind.i64 0,Value.slice none 0 0,Value.slice none 0 0,Value.int IntKind.i64 0,Value.int IntKind.i64 0,Value.slice none 0 0,Value.slice none 0 0],[(0,4,true),(4,4,true),(8,1,false)],none,152,6,none,false⟩
theorem TAUU_33_ok:TypOk Tryz.prog 33 TAUU_33:=by constructor <;> kernel_rfl
def TAUU:List (Nat×TI):=[(62,TAUU_62),(43,TAUU_43),(31,TAUU_31),(50,TAUU_50),(24,TAUU_24),(78,TAUU_78),(3,TAUU_3),(34,TAUU_34),(29,TAUU_29),(86,TAUU_86),(56,TAUU_56),(25,TAUU_25),(22,TAUU_22),(64,TAUU_64),(74,TAUU_74),(104,TAUU_104),(33,TAUU_33)]
theorem TAUU_ok:TabOk Tryz.prog TAUU:=((((((((((((((((((TabOk.nil _).cons TAUU_33_ok).cons TAUU_104_ok).cons TAUU_74_ok).cons TAUU_64_ok).cons TAUU_22_ok).cons TAUU_25_ok).cons TAUU_56_ok).cons TAUU_86_ok).cons TAUU_29_ok).cons TAUU_34_ok).cons TAUU_3_ok).cons TAUU_78_ok).cons TAUU_24_ok).cons TAUU_50_ok).cons TAUU_31_ok).cons TAUU_43_ok).cons TAUU_62_ok)
namespace Au
theorem way_ok (code:List Ty→Tm→Ty→Int){eqs:List Li.Pr}{l:List St}{t:Tm}(hes:∀ q∈eqs,EqOk q)(hs:∀ x∈l,∀ q∈x.s,Bnd 150 q.2)(ht:TOk t)(j:Nat):TOk (way code eqs l t j).1:=by
 have key:∀ (k:List St) (r:Tm×Int),(∀ x∈k,∀ q∈x.s,Bnd 150 q.2)→TOk r.1→TOk (k.foldl (fun r x=>step code eqs x r) r).1:=by
  intro k
  induction k with
  | nil=>intro r _ h;exact h
  | cons x k ih=>
   intro r h1 h2
   rw[List.foldl_cons]
   exact ih _ (fun y hy=>h1 y (by simp[hy])) (step_ok code hes (h1 x (by simp)) h2)
 exact key _ _ (fun x hx=>hs x (List.mem_of_mem_take hx)) ht
end Au
set_option maxHeartbeats 8000000 in
theorem auditChains_d (b:Int)(C Mw:List Ty)(l:List Li.Pr)(t:Tm)(l8:List Au.St)(hl:l.length≤9223372036854775807)(hlf:∀ p∈l,p.l.Fit∧p.r.Fit)(htf:t.Fit)(hl8:l8.length≤9223372036854775807) 
  (hs8:∀ x∈l8,x.path.length≤9223372036854775807∧x.s.length≤9223372036854775807∧∀ q∈x.s,q.2.Fit) :
  PureC Tryz.prog 5 [.ag [.v (.int .i64 b),.sl 2 (eTys C) none,.sl 2 (eTys Mw) none],.sl 9 (ePrs l) none,.ag (eTm t),.sl 4 (eSts l8) none] (.v (.bool true)):=by
 have hk:=known27_d
 have hA:=axioms_d l hl
 have hSm:=smallW_d b C Mw
 have hF:=Few6_d 60 (by decide) (by decide) t 60 (by decide) (by decide)
 have hG:=fewSteps_d l8 hl8 (fun x hx=>⟨(hs8 x hx).2.1,fun p _ h=>wide_full _ (by have:=(fewB_full h).1;omega)⟩) (fun x hx=>(hs8 x hx).1)
 obtain⟨A,hAe⟩:∃ A,(if (l.take 6).all Au.okA=true then l.take 6 else [])=A:=⟨_,rfl⟩
 rw[hAe] at hA
 rw[eTm_eq] at hF ⊢
 cases ha:(l.take 6).all Au.okA with
 | false=>
  rw[ha] at hA
  refine calldw 0 138 [ResultVar.tmp 8] TAUU_ok Tryz.func5 rfl Tryz.ntmps5 rfl fun cx hnt hn0=>?_
  ·skip
   refine dw_seq ?_;refine dwk [] TAUU_ok hnt fun _ z9=>z9 _ _ ?_;refine dw_seq ?_;refine dwk [] TAUU_ok hnt fun K hK=>?_;refine dcl (hA) ?_;refine hK _ _ ?_;clear hK K;refine dw_seq ?_;refine dw_seq ?_;refine dwk [] TAUU_ok hnt fun _ z9=>z9 _ _ ?_;refine dw_cond (t:=true) rfl ?_;rw[if_pos rfl];refine dw_seq ?_;refine dwk [] TAUU_ok hnt fun K hK=>?_
   refine dcl (hk) ?_;refine hK _ _ ?_;clear hK K;refine dw_ret ?_
   exact reta rfl
 | true=>
 rw[ha] at hA
 cases hs:Ru.wB C Mw with
 | false=>
  rw[hs] at hSm
  refine calldw 0 138 [ResultVar.tmp 8] TAUU_ok Tryz.func5 rfl Tryz.ntmps5 rfl fun cx hnt hn0=>?_
  ·skip
   refine dw_seq ?_;refine dwk [] TAUU_ok hnt fun _ z9=>z9 _ _ ?_;refine dw_seq ?_;refine dwk [] TAUU_ok hnt fun K hK=>?_;refine dcl (hA) ?_;refine hK _ _ ?_;clear hK K;refine dw_seq ?_;refine dw_seq ?_;refine dwk [] TAUU_ok hnt fun K hK=>?_;refine dcl (hSm) ?_;refine hK _ _ ?_;clear hK K;refine dw_cond (t:=true) rfl ?_;rw[if_pos rfl];refine dw_seq ?_;refine dwk [] TAUU_ok hnt fun K hK=>?_
   refine dcl (hk) ?_;refine hK _ _ ?_;clear hK K;refine dw_ret ?_
   exact reta rfl
 | true=>
 rw[hs] at hSm
 cases hf:decide (fewM 60 t 60≤60) with
 | false=>
  rw[hf] at hF
  refine calldw 0 138 [ResultVar.tmp 8] TAUU_ok Tryz.func5 rfl Tryz.ntmps5 rfl fun cx hnt hn0=>?_
  ·skip
   refine dw_seq ?_;refine dwk [] TAUU_ok hnt fun _ z9=>z9 _ _ ?_;refine dw_seq ?_;refine dwk [] TAUU_ok hnt fun K hK=>?_;refine dcl (hA) ?_;refine hK _ _ ?_;clear hK K;refine dw_seq ?_;refine dw_seq ?_;refine dwk [] TAUU_ok hnt fun K hK=>?_;refine dcl (hSm) ?_;refine dcl (hF) ?_;refine hK _ _ ?_;clear hK K;refine dw_cond (t:=true) rfl ?_;rw[if_pos rfl];refine dw_seq ?_
   refine dwk [] TAUU_ok hnt fun K hK=>?_;refine dcl (hk) ?_;refine hK _ _ ?_;clear hK K;refine dw_ret ?_
   exact reta rfl
 | true=>
 rw[hf] at hF
 have zt:=fewM_full (by decide) 60 t 60 (by decide) (by decide) (of_decide_eq_true hf)
 have zf:t.full≤60:=by have:=of_decide_eq_true hf;omega
 have hLo:=low_d [t] (by simp) (fun u hu=>by rw[List.mem_singleton] at hu;subst hu;exact wide_full _ (by omega))
 have eL:eTms [t]=[[.sl 2 (eTys t.binds) none,.v (.int .i64 t.kind),.v (.int .i64 t.index),.sl 4 (eTms t.args) none]]:=by show [eTm t]=_;rw[eTm_eq]
 cases hlo:lowsB [t] with
 | false=>
  rw[hlo] at hLo
  refine calldw 0 138 [ResultVar.tmp 8] TAUU_ok Tryz.func5 rfl Tryz.ntmps5 rfl fun cx hnt hn0=>?_
  ·skip
   refine dw_seq ?_;refine dwk [] TAUU_ok hnt fun _ z9=>z9 _ _ ?_;refine dw_seq ?_;refine dwk [] TAUU_ok hnt fun K hK=>?_;refine dcl (hA) ?_;refine hK _ _ ?_;clear hK K;refine dw_seq ?_;refine dw_seq ?_;refine dwk [(42,.sl 4 (eTms [t]) none)] TAUU_ok hnt fun K hK=>?_;refine dcl (hSm) ?_;refine dcl (hF) ?_;refine And.intro ((by rw[eL];exact VLe.untag _ _ _)) ?_
   refine dcl (hLo) ?_;refine hK _ _ ?_;clear hK K;refine dw_cond (t:=true) rfl ?_;rw[if_pos rfl];refine dw_seq ?_;refine dwk [] TAUU_ok hnt fun K hK=>?_;refine dcl (hk) ?_;refine hK _ _ ?_;clear hK K;refine dw_ret ?_
   exact reta rfl
 | true=>
 rw[hlo] at hLo
 cases hg:(l8.take 8).all Au.okS with
 | false=>
  rw[hg] at hG
  refine calldw 0 138 [ResultVar.tmp 8] TAUU_ok Tryz.func5 rfl Tryz.ntmps5 rfl fun cx hnt hn0=>?_
  ·skip
   refine dw_seq ?_;refine dwk [] TAUU_ok hnt fun _ z9=>z9 _ _ ?_;refine dw_seq ?_;refine dwk [] TAUU_ok hnt fun K hK=>?_;refine dcl (hA) ?_;refine hK _ _ ?_;clear hK K;refine dw_seq ?_;refine dw_seq ?_;refine dwk [(42,.sl 4 (eTms [t]) none)] TAUU_ok hnt fun K hK=>?_;refine dcl (hSm) ?_;refine dcl (hF) ?_;refine And.intro ((by rw[eL];exact VLe.untag _ _ _)) ?_
   refine dcl (hLo) ?_;refine dcl (hG) ?_;refine hK _ _ ?_;clear hK K;refine dw_cond (t:=true) rfl ?_;rw[if_pos rfl];refine dw_seq ?_;refine dwk [] TAUU_ok hnt fun K hK=>?_;refine dcl (hk) ?_;refine hK _ _ ?_;clear hK K;refine dw_ret ?_
   exact reta rfl
 | true=>
 rw[hg] at hG
 have hAe:A=l.take 6:=by rw[←hAe,if_pos ha]
 have hAl:A.length≤6:=by rw[hAe,List.length_take];omega
 unfold Ru.wB at hs
 rw[Bool.and_eq_true,decide_eq_true_eq] at hs
 have hCM:∀ t∈C++Mw,t.size≤60:=fun t ht=>fewT60 (List.all_eq_true.1 hs.2 t ht)
 have zC:Ty.sizes C≤1200:=by have:=sizes_le22 (fun t ht=>hCM t (List.mem_append_left _ ht));have:=hs.1.1;omega
 have zM:Ty.sizes Mw≤1200:=by have:=sizes_le22 (fun t ht=>hCM t (List.mem_append_right _ ht));have:=hs.1.2;omega
 have hWd:=twd_d b C Mw (by omega) (by omega)
 have h8:∀ x∈l8.take 8,(∀ p∈x.s.take 10,p.2.full≤150)∧x.path.length≤100:=fun x hx=>by
  have h:=List.all_eq_true.1 hg x hx
  rw[Au.okS,Bool.and_eq_true,decide_eq_true_eq] at h
  exact⟨fun p hp=>(fewB_full (by have:=List.all_eq_true.1 h.1 p hp;rw[Bool.and_eq_true] at this;exact this.1)).1,h.2⟩
 have hSt:=steps_d l8 hl8 (fun x hx=>⟨(hs8 x (List.mem_of_mem_take hx)).2.1,fun p hp=>by have:=(h8 x hx).1 p hp;omega⟩)
 have hTo:=to6_d t (by omega)
 obtain⟨L,hL⟩:∃ L,(l8.take 8).map Au.cut=L:=⟨_,rfl⟩
 have hLl:L.length≤8:=by rw[←hL,List.length_map,List.length_take];omega
 have hLx:∀ x∈L,x.s.length≤10∧(∀ q∈x.s,q.2.full≤150∧q.2.Fit)∧x.path.length≤100:=fun x hx=>by
  rw[←hL] at hx
  obtain⟨y,hy,rfl⟩:=List.mem_map.1 hx
  have h:=h8 y hy
  exact⟨by show (y.s.take 10).length≤10;rw[List.length_take];omega,fun q hq=>⟨h.1 q hq,(hs8 y (List.mem_of_mem_take hy)).2.2 q (List.mem_of_mem_take hq)⟩,h.2⟩
 have hLok:∀ x∈L,Au.SOk x:=fun x hx=>⟨by have:=(hLx x hx).1;omega,(hLx x hx).2.1,by have:=(hLx x hx).2.2;omega⟩
 have hEq:∀ q∈A,Au.EqOk q:=fun q hq=>by
  rw[hAe] at hq
  have h:=List.all_eq_true.1 ha q hq
  rw[Au.okA,Bool.and_eq_true] at h
  obtain⟨h1,h2,_⟩:=fewP_ok h.1
  have hfq:=hlf q (List.mem_of_mem_take hq)
  exact⟨⟨h1.1,Bnd.of_full _ h1.1 hfq.1⟩,⟨h1.2,Bnd.of_full _ h1.2 hfq.2⟩,by omega⟩
 rw[hL] at hSt
 have hts:=Tm.size_le_full t
 have hTt:Au.TOk t:=⟨by omega,Bnd.of_full _ (by omega) htf,by omega⟩
 obtain⟨code,hc⟩:=Au.code_ex C Mw
 have hcl:=hs.1.1
 have hml:=hs.1.2
 have hCh:=Chain_d b C Mw A t L code hc (by omega) (by omega) (by omega) hEq (by omega) hLok hTt
 have hWok:∀ j,Au.TOk (Au.way code A L t j).1:=fun j=>Au.way_ok code hEq (fun x hx q hq=>Bnd.of_full _ ((hLx x hx).2.1 q hq).1 ((hLx x hx).2.1 q hq).2) hTt j
 have hSp:=fun j (h:j<L.length)=>Step_d b C Mw A (Au.way code A L t j).1 L[j] code hc (by omega) (by omega) (by omega) hEq (hLok _ (List.getElem_mem h)) (hWok j)
 have hRt:=right_d t (by omega)
 rw[decide_eq_true (show t.size≤5000∧t.depth≤60 from ⟨by omega,by have:=zt.2;omega⟩)] at hRt
 obtain⟨⟨o,e⟩,hoe⟩:∃ r,Au.chain code A L t=r:=⟨_,rfl⟩
 have hback:e=0→Au.chain code A (L.reverse.map Au.flip) o=(t,0):=fun he=>by
  subst he
  rw[Au.chain_fold] at hoe
  have hr:Li.rt t=true:=decide_eq_true ⟨by omega,by have:=zt.2;omega⟩
  rw[Au.chain_fold]
  exact(Au.chain_back code A L t o hoe hr).2
 have hoz:e≠0→o=Tm.zero:=fun he=>by
  have h:=Au.way_zero code A L t L.length (by rw[←Au.way_all,hoe];exact he)
  rw[←Au.way_all,hoe] at h
  exact h
 have hOok:Au.TOk o:=by have h:=hWok L.length;rw[←Au.way_all,hoe] at h;exact h
 obtain⟨V,hV⟩:∃ V:Nat→Tm×Int,∀ j,Au.way code A L t j=V j:=⟨_,fun _=>rfl⟩
 have hV0:V 0=(t,0):=by rw[←hV];rfl
 have hVn:∀ j (h:j<L.length),(V j).2=0→Au.chain code A [L[j]] (V j).1=V (j+1):=fun j h h0=>by rw[←hV j,←hV (j+1)];exact(Au.way_next code A L t j h (by rw[hV];exact h0)).symm
 have hVs:∀ j,(V j).2≠0→V j=(o,e):=fun j h=>by rw[←hV,←Au.way_stop code A L t j (by rw[hV];exact h),hoe]
 have hVa:V L.length=(o,e):=by rw[←hV,←Au.way_all,hoe]
 rw[hoe] at hCh
 dsimp only at hCh
 clear hWok hoe
 rw[eTm_eq] at hTo hRt
 rw[eTm_eq t,eTm_eq o] at hCh
 refine calldw 0 138 [ResultVar.tmp 8] TAUU_ok Tryz.func5 rfl Tryz.ntmps5 rfl fun cx hnt hn0=>?_
 ·skip
  refine dw_seq ?_;refine dwk [] TAUU_ok hnt fun _ z9=>z9 _ _ ?_;refine dw_seq ?_;refine dwk [] TAUU_ok hnt fun K hK=>?_;refine dcl (hA) ?_;refine hK _ _ ?_;clear hK K;refine dw_seq ?_;refine dw_seq ?_;refine dwk [(42,.sl 4 (eTms [t]) none)] TAUU_ok hnt fun K hK=>?_;refine dcl (hSm) ?_;refine dcl (hF) ?_;refine And.intro ((by rw[eL];exact VLe.untag _ _ _)) ?_
  refine dcl (hLo) ?_;refine dcl (hG) ?_;refine hK _ _ ?_;clear hK K;refine dw_cond (t:=false) rfl ?_;rw[if_neg (by simp)];refine dw_skip ?_;refine dw_seq ?_;refine dwkD [] TAUU_ok hnt fun K hK=>?_;refine dcl (hWd) ?_;refine dcl (hSt) ?_;refine dcl (hTo) ?_;refine hK _ _ (by kernel_rfl) ?_;clear hK K;refine dw_seq ?_;refine dwk [] TAUU_ok hnt fun K hK=>?_;refine dcl (hCh) ?_;refine hK _ _ ?_;clear hK K
  refine dw_seq ?_;refine dwk [] TAUU_ok hnt fun _ z9=>z9 _ _ ?_;refine dw_seq ?_;refine dwk [] TAUU_ok hnt fun _ z9=>z9 _ _ ?_
  refine dw_cut (τ:=[(.t 9,.sl 9 (ePrs A) none),(.t 12,.p 41 0),(.t 13,.sl 4 (eSts L) none),(.t 14,.p 42 0),(.t 15,.p 54 0),(.t 16,.v (.int .i64 e)),(.t 17,.p 58 0),(.t 18,.v (.int .i64 e)),(.c 41 0,.v (.int .i64 b)),(.c 41 1,.sl 2 (eTys C) none),(.c 41 2,.sl 2 (eTys Mw) none),(.c 42 0,.sl 2 (eTys t.binds) none),(.c 42 1,.v (.int .i64 t.kind)),(.c 42 2,.v (.int .i64 t.index)),(.c 42 3,.sl 4 (eTms t.args) none),(.c 54 0,.sl 2 (eTys o.binds) none),(.c 54 1,.v (.int .i64 o.kind)),(.c 54 2,.v (.int .i64 o.index)),(.c 54 3,.sl 4 (eTms o.args) none),(.c 58 0,.sl 2 (eTys o.binds) none),(.c 58 1,.v (.int .i64 o.kind)),(.c 58 2,.v (.int .i64 o.index)),(.c 58 3,.sl 4 (eTms o.args) none)]) (N1:=60) ?_ ?_
  ·skip
   refine dw_seq ?_;refine dwk [] TAUU_ok hnt fun _ z9=>z9 _ _ ?_;refine dw_block ?_
   refine dw_loop (ι:={ j:Nat // j≤L.length }) (fun j=>[(.t 9,.sl 9 (ePrs A) none),(.t 12,.p 41 0),(.t 13,.sl 4 (eSts L) none),(.t 14,.p 42 0),(.t 15,.p 54 0),(.t 16,.v (.int .i64 e)),(.t 17,.p 58 0),(.t 18,.v (.int .i64 (V j.1).2)),(.t 19,.v (.int .i64 ↑j.1)),(.c 41 0,.v (.int .i64 b)),(.c 41 1,.sl 2 (eTys C) none),(.c 41 2,.sl 2 (eTys Mw) none),(.c 42 0,.sl 2 (eTys t.binds) none),(.c 42 1,.v (.int .i64 t.kind)),(.c 42 2,.v (.int .i64 t.index)),(.c 42 3,.sl 4 (eTms t.args) none),(.c 54 0,.sl 2 (eTys o.binds) none),(.c 54 1,.v (.int .i64 o.kind)),(.c 54 2,.v (.int .i64 o.index)),(.c 54 3,.sl 4 (eTms o.args) none),(.c 58 0,.sl 2 (eTys (V j.1).1.binds) none),(.c 58 1,.v (.int .i64 (V j.1).1.kind)),(.c 58 2,.v (.int .i64 (V j.1).1.index)),(.c 58 3,.sl 4 (eTms (V j.1).1.args) none)]) 60 (fun j=>L.length-j.1) (⟨0,Nat.zero_le _⟩) ((by dsimp only;rw[hV0];exact VS.toA)) fun j=>?_
   obtain⟨j,hj⟩:=j
   dsimp only
   by_cases hlt:j<L.length
   ·by_cases h0:(V j).2=0
    ·have hp:=hSp j hlt
     rw[hV j,hVn j hlt h0] at hp
     obtain⟨x,hx⟩:∃ x,L[j]=x:=⟨_,rfl⟩
     have hgd:(eSts L).getD j []=[.v (.int .i64 x.eq),.v (.bool x.back),.sl 1 (eIs x.path) none,.sl 5 (ePairs x.s) none]:=by rw[eSts_getD L j hlt,hx];rfl
     rw[hx] at hp
     unfold eSt at hp
     rw[eTm_eq (V j).1,eTm_eq (V (j+1)).1] at hp
     refine dw_seq ?_;refine dw_seq ?_;refine dwk [(69,.v (.int .i64 (↑L.length))),(70,.v (.bool true)),(73,.v (.bool true))] TAUU_ok hnt fun K hK=>?_;refine And.intro (dintE (by rw[eSts_len])) ?_;refine And.intro (dtrue (by omega)) ?_;refine And.intro (beqT h0) ?_;refine hK _ _ ?_;clear hK K;refine dw_cond (t:=true) rfl ?_;rw[if_pos rfl];refine dw_skip ?_;refine dw_seq ?_;refine dw_block ?_
     refine dwkD [(83,.q [.v (.int .i64 x.eq),.v (.bool x.back),.sl 1 (eIs x.path) none,.sl 5 (ePairs x.s) none])] TAUU_ok hnt fun K hK=>?_;refine And.intro (⟨by omega,by rw[eSts_len];omega⟩) ?_;refine And.intro (VLe.of_eq (by rw[Int.toNat_natCast,hgd])) ?_;refine dcl (hp) ?_;refine hK _ _ (by kernel_rfl) ?_;clear hK K;refine dwk [(76,.v (.int .i64 (↑(j+1))))] TAUU_ok hnt fun K hK=>?_
     refine And.intro auI ?_;refine hK _ _ ?_;clear hK K
     refine⟨⟨j+1,hlt⟩,by first | omega | (dsimp only;omega),VS.toA⟩
    ·have hVj:=hVs j h0
     rw[hVj] at h0 ⊢
     refine dw_seq ?_;refine dw_seq ?_;refine dwk [(69,.v (.int .i64 (↑L.length))),(70,.v (.bool true)),(73,.v (.bool false))] TAUU_ok hnt fun K hK=>?_;refine And.intro (dintE (by rw[eSts_len])) ?_;refine And.intro (dtrue (by omega)) ?_;refine And.intro (beqF h0) ?_;refine hK _ _ ?_;clear hK K;refine dw_cond (t:=false) rfl ?_;rw[if_neg (by simp)];refine dw_exit ?_
     exact cut_ok VS.toA
   ·have hje:j=L.length:=by omega
    subst hje
    rw[hVa]
    refine dw_seq ?_;refine dw_seq ?_;refine dwk [(69,.v (.int .i64 (↑L.length))),(70,.v (.bool false))] TAUU_ok hnt fun K hK=>?_;refine And.intro (dintE (by rw[eSts_len])) ?_;refine And.intro (dfalse (by omega)) ?_;refine hK _ _ ?_;clear hK K;refine dw_cond (t:=false) rfl ?_;rw[if_neg (by simp)];refine dw_exit ?_
    exact cut_ok VS.toA
  ·by_cases he:e=0
   ·subst he
    have hq:=equal2_d o o
    rw[decide_eq_true rfl,eTm_eq] at hq
    have hqt:=equal2_d t t
    rw[decide_eq_true rfl,eTm_eq] at hqt
    have hRev:=reverse_d L (by omega) (fun x hx=>⟨by have:=(hLx x hx).2.2;omega,by have:=(hLx x hx).1;omega,fun q hq=>⟨by have:=((hLx x hx).2.1 q hq).1;omega,((hLx x hx).2.1 q hq).2⟩⟩)
    have hCb:=Chain_d b C Mw A o (L.reverse.map Au.flip) code hc (by omega) (by omega) (by omega) hEq (by simp;omega) (fun x hx=>by
     obtain⟨y,hy,rfl⟩:=List.mem_map.1 hx
     exact hLok y (List.mem_reverse.1 hy)) hOok
    rw[hback rfl] at hCb
    dsimp only at hCb
    rw[eTm_eq o,eTm_eq t] at hCb
    refine dw_seq ?_;refine dw_seq ?_;refine dwk [(90,.v (.bool false)),(93,.v (.bool true)),(103,.v (.bool false))] TAUU_ok hnt fun K hK=>?_;refine And.intro (bneF rfl) ?_;refine And.intro (beqT rfl) ?_;refine dcl (hq) ?_;refine And.intro (bneF rfl) ?_;refine hK _ _ ?_;clear hK K;refine dw_cond (t:=false) rfl ?_;rw[if_neg (by simp)];refine dw_skip ?_;refine dw_seq ?_;refine dw_seq ?_
    refine dwk [(112,.v (.bool false))] TAUU_ok hnt fun K hK=>?_;refine And.intro (bneF rfl) ?_;refine dcl (hRt) ?_;refine hK _ _ ?_;clear hK K;refine dw_cond (t:=false) rfl ?_;rw[if_neg (by simp)];refine dw_skip ?_;refine dw_seq ?_;refine dwkD [] TAUU_ok hnt fun K hK=>?_;refine dcl (hRev) ?_;refine dcl (hCb) ?_;refine hK _ _ (by kernel_rfl) ?_;clear hK K;refine dw_seq ?_;refine dwk [(131,.v (.bool true))] TAUU_ok hnt fun K hK=>?_
    refine dcl (hk) ?_;refine And.intro (beqT rfl) ?_;refine dcl (hqt) ?_;refine hK _ _ ?_;clear hK K;refine dw_ret ?_
    exact reta rfl
   ·have hoz:=hoz he
    subst hoz
    have hq:=equal2_d Tm.zero Tm.zero
    rw[decide_eq_true rfl,eTm_eq] at hq
    refine dw_seq ?_;refine dw_seq ?_;refine dwk [(90,.v (.bool false)),(93,.v (.bool false)),(103,.v (.bool true)),(106,.ag [.sl 2 (eTys Tm.zero.binds) none,.v (.int .i64 Tm.zero.kind),.v (.int .i64 Tm.zero.index),.sl 4 (eTms Tm.zero.args) none])] TAUU_ok hnt fun K hK=>?_;refine And.intro (bneF rfl) ?_;refine And.intro (beqF he) ?_;refine And.intro (bneT he) ?_;refine And.intro (auV) ?_
    refine dcl (hq) ?_;refine hK _ _ ?_;clear hK K;refine dw_cond (t:=false) rfl ?_;rw[if_neg (by simp)];refine dw_skip ?_;refine dw_seq ?_;refine dw_seq ?_;refine dwk [(112,.v (.bool true))] TAUU_ok hnt fun K hK=>?_;refine And.intro (bneT he) ?_;refine hK _ _ ?_;clear hK K;refine dw_cond (t:=true) rfl ?_;rw[if_pos rfl];refine dw_seq ?_;refine dwk [] TAUU_ok hnt fun K hK=>?_;refine dcl (hk) ?_
    refine hK _ _ ?_;clear hK K;refine dw_ret ?_
    exact reta rfl
end Go.Proofs.YtclihnccilkohaaGreat
