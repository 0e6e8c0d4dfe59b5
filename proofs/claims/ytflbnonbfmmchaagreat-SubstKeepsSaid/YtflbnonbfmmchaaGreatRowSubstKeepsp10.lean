/-
  spot.At, walked in the deep way. Swap of rule and of the document. Orders: rule's and the document's. RuleChecks, walked in the deep way. rule.Typed alone. kind.Compare. term.all: which of two lists is less. term.Compare. RuleOrders, walked in the deep way. The law RuleKeeps. The law MatchSound. The law SubstKeeps.
-/
import Derived.Test.YtflbnonbfmmchaaGreatRowSubstKeepsp8
import Derived.Test.YtflbnonbfmmchaaGreatRowSubstKeepsp5
import Derived.Test.YtflbnonbfmmchaaGreatRowSubstKeepsp7
import Derived.Test.YtflbnonbfmmchaaGreatRowSubstKeepsp9
import Derived.Test.YtflbnonbfmmchaaGreatRowSubstKeepsp1
import Derived.Test.YtflbnonbfmmchaaGreatRowSubstKeepsp4
set_option maxRecDepth 100000
set_option maxHeartbeats 1000000
set_option linter.unusedVariables false
set_option linter.unusedSimpArgs false
namespace Go.Proofs.YtflbnonbfmmchaaGreat
open Go.RowKit
def satV (r:Option (Tm×List Ty)):D:=match r with
 | some r=>.tu [.ag (eTm r.1),.sl 2 (eTys r.2) none,.v (.int .i64 0)]
 | none=>.tu [.ag (eTm Tm.zero),.sl 2 [] none,.v (.int .i64 10)]
@[simp] theorem satV_ok (f g:Nat→Bool) (r:Option (Tm×List Ty)):D.ok f g (satV r)=true:=by
 cases r <;> simp[satV,D.ok,D.oks,D.okss,eTm_ok,eTys_ok]
namespace Ru
def swap (p:Li.Pr):Li.Pr:=⟨p.r,p.l,p.m⟩
end Ru
def TRM_35:TI:=⟨3,true,[Value.int IntKind.i64 0,Value.slice none 0 0,Value.slice none 0 0],[(0,1,false),(1,1,false),(2,1,false)],none,56,6,none,false⟩
theorem TRM_35_ok:TypOk Tryz.prog 35 TRM_35:=by constructor <;> kernel_rfl
def TRM_33:TI:=⟨1,false,[Value.slice none 0 0],[],some 44,24,5,none,false⟩
theorem TRM_33_ok:TypOk Tryz.prog 33 TRM_33:=by constructor <;> kernel_rfl
def TRM_24:TI:=⟨3,true,[Value.int IntKind.i64 0,Value.slice none 0 0,Value.slice none 0 0],[(0,1,false),(1,1,false),(2,1,false)],none,56,6,none,false⟩
theorem TRM_24_ok:TypOk Tryz.prog 24 TRM_24:=by constructor <;> kernel_rfl
def TRM_22:TI:=⟨1,false,[Value.slice none 0 0],[],some 103,24,5,none,false⟩
theorem TRM_22_ok:TypOk Tryz.prog 22 TRM_22:=by constructor <;> kernel_rfl
def TRM_86:TI:=⟨9,true,[Value.slice none 0 0,Value.int IntKind.i64 0,Value.int IntKind.i64 0,Value.slice none 0 0,Value.slice none 0 0,Value.int IntKind.i64 0,Value.int IntKind.i64 0,Value.slice none 0 0,Value.slice none 0 0],[(0,4,true),(4,4,true),(8,1,false)],none,152,6,none,false⟩
theorem TRM_86_ok:TypOk Tryz.prog 86 TRM_86:=by constructor <;> kernel_rfl
def TRM_3:TI:=⟨1,false,[Value.int IntKind.i64 0],[],none,8,2,none,false⟩
theorem TRM_3_ok:TypOk Tryz.prog 3 TRM_3:=by constructor <;> kernel_rfl
def TRM_103:TI:=⟨2,true,[Value.slice none 0 0,Value.int IntKind.i64 0],[(0,1,false),(1,1,false)],none,32,6,none,false⟩
theorem TRM_103_ok:TypOk Tryz.prog 103 TRM_103:=by constructor <;> kernel_rfl
def TRM_44:TI:=⟨2,true,[Value.slice none 0 0,Value.int IntKind.i64 0],[(0,1,false),(1,1,false)],none,32,6,none,false⟩
theorem TRM_44_ok:TypOk Tryz.prog 44 TRM_44:=by constructor <;> kernel_rfl
def TRM:List (Nat×TI):=[(35,TRM_35),(33,TRM_33),(24,TRM_24),(22,TRM_22),(86,TRM_86),(3,TRM_3),(103,TRM_103),(44,TRM_44)]
theorem TRM_ok:TabOk Tryz.prog TRM:=(((((((((TabOk.nil _).cons TRM_44_ok).cons TRM_103_ok).cons TRM_3_ok).cons TRM_86_ok).cons TRM_22_ok).cons TRM_24_ok).cons TRM_33_ok).cons TRM_35_ok)
namespace Ru
end Ru
theorem twd_d (b:Int)(C M:List Ty)(h1:Ty.sizes C≤900000)(h2:Ty.sizes M≤900000):PureC Tryz.prog 11 [.ag [.v (.int .i64 b),.sl 2 (eTys C) none,.sl 2 (eTys M) none]] (.ag [.v (.int .i64 b),.sl 2 (eTys C) none,.sl 2 (eTys M) none]):=by
 have hC:=toTys_d C h1
 have hM:=toTys_d M h2
 refine calldw 0 12 [ResultVar.cell 2 35] TRM_ok Tryz.func11 rfl Tryz.ntmps11 rfl fun cx hnt hn0=>?_
 ·skip
  refine dw_seq ?_;refine dwk [] TRM_ok hnt fun _ z9=>z9 _ _ ?_;refine dw_seq ?_;refine dwkD [] TRM_ok hnt fun K hK=>?_;refine dcl (hC) ?_;refine dcl (hM) ?_;refine hK _ _ (by kernel_rfl) ?_;clear hK K;refine dw_ret ?_
  exact reta rfl
namespace Ru
def wB (C M:List Ty):Bool:=decide (C.length≤20∧M.length≤20)&&(C++M).all few4B
end Ru
theorem smallW_d (b:Int)(C M:List Ty):PureC Tryz.prog 9 [.ag [.v (.int .i64 b),.sl 2 (eTys C) none,.sl 2 (eTys M) none],.v (.slice none 0 0)] (.v (.bool (Ru.wB C M))):=by
 unfold Ru.wB
 by_cases h:C.length≤20∧M.length≤20
 ·have:=small_d b C M [] h.1 h.2 (by simp)
  rw[List.append_nil] at this
  rw[decide_eq_true h,Bool.true_and]
  exact CallC.vle this (.cons (VLe.refl _) (.cons (VLe.nil _) .nil)) (VLe.refl _)
 ·have:=small_no b C M [] (fun h2=>h ⟨h2.1,h2.2.1⟩)
  rw[decide_eq_false h,Bool.false_and]
  exact CallC.vle this (.cons (VLe.refl _) (.cons (VLe.nil _) .nil)) (VLe.refl _)
namespace Ru
def wt (p:Li.Pr):Int:=(p.l.size:Int)+(p.r.size:Int)
def cmp (a b:Li.Pr):Int:=orl (sgn (wt a) (wt b)) (orl (Tm.cmp a.l b.l) (orl (Tm.cmp a.r b.r) (Tm.cmpB a.m b.m)))
end Ru
namespace Ru
theorem chkL_ok {C M:List Ty}{code:Tm→Ty→Int}(hc:∀ t u,checkCode C M t [] u (code t u)):∀ {l:List (Int×Tm)},chkL code M l=0→∀ p∈l,∃ h,headTy C M [] 2 p.1=some h∧IsOf C M p.2 [] h
 | [],_,p,hp=>by cases hp
 | q :: l,h,p,hp=>by
  rw[chkL] at h
  cases hh:headTy [] M [] 2 q.1 with
  | none=>rw[hh] at h;cases h
  | some u=>
   rw[hh] at h
   dsimp only at h
   by_cases hcd:code q.2 u=0
   ·rw[if_neg (fun h=>h hcd)] at h
    rcases List.mem_cons.1 hp with rfl | hp
    ·have h1:=hc p.2 u
     rw[hcd] at h1
     unfold checkCode at h1
     refine⟨u,?_,?_⟩
     ·rw[←hh];unfold headTy;rfl
     ·rcases h1 with h1 | h1 | h1
      ·exact absurd h1.2 (by decide)
      ·exact absurd h1.2.2 (by decide)
      ·exact h1.2.1
    ·exact chkL_ok hc h p hp
   ·rw[if_pos hcd] at h;exact absurd h hcd
theorem code0 {C M:List Ty}{t:Tm}{u:Ty}(h:IsOf C M t [] u)(hs:t.size≤5000∧t.depth≤60):checkCode C M t [] u 0:=.inr (.inr ⟨hs,h,rfl⟩)
end Ru
theorem code_ex2 (C M X:List Ty)(t:Tm)(u:Ty):∃ c,checkCode C M t X u c:=by
 by_cases h1:t.size≤5000∧t.depth≤60
 ·by_cases h2:IsOf C M t X u
  ·exact⟨0,.inr (.inr ⟨h1,h2,rfl⟩)⟩
  ·exact⟨5,.inr (.inl ⟨h1,h2,rfl⟩)⟩
 ·exact⟨2,.inl ⟨h1,rfl⟩⟩
theorem codeOf0 {C M X:List Ty}{t:Tm}{u:Ty}(h:checkCode C M t X u 0):IsOf C M t X u:=by
 unfold checkCode at h
 rcases h with h | h | h
 ·exact absurd h.2 (by decide)
 ·exact absurd h.2.2 (by decide)
 ·exact h.2.1
theorem sizes60 {l:List Ty}(h:∀ t∈l,t.size≤60)(hl:l.length≤20):Ty.sizes l≤1200:=by have:=sizes_le22 h;omega
def TKSK_41:TI:=⟨4,true,[Value.slice none 0 0,Value.int IntKind.i64 0,Value.int IntKind.i64 0,Value.slice none 0 0],[(0,1,false),(1,2,true),(3,1,false)],none,64,6,none,false⟩
theorem TKSK_41_ok:TypOk Tryz.prog 41 TKSK_41:=by constructor <;> kernel_rfl
def TKSK_35:TI:=⟨3,true,[Value.int IntKind.i64 0,Value.slice none 0 0,Value.slice none 0 0],[(0,1,false),(1,1,false),(2,1,false)],none,56,6,none,false⟩
theorem TKSK_35_ok:TypOk Tryz.prog 35 TKSK_35:=by constructor <;> kernel_rfl
def TKSK_45:TI:=⟨1,false,[Value.int IntKind.i64 0],[],none,8,2,none,false⟩
theorem TKSK_45_ok:TypOk Tryz.prog 45 TKSK_45:=by constructor <;> kernel_rfl
def TKSK_51:TI:=⟨1,false,[Value.slice none 0 0],[],some 79,24,5,none,false⟩
theorem TKSK_51_ok:TypOk Tryz.prog 51 TKSK_51:=by constructor <;> kernel_rfl
def TKSK_3:TI:=⟨1,false,[Value.int IntKind.i64 0],[],none,8,2,none,false⟩
theorem TKSK_3_ok:TypOk Tryz.prog 3 TKSK_3:=by constructor <;> kernel_rfl
def TKSK_44:TI:=⟨2,true,[Value.slice none 0 0,Value.int IntKind.i64 0],[(0,1,false),(1,1,false)],none,32,6,none,false⟩
theorem TKSK_44_ok:TypOk Tryz.prog 44 TKSK_44:=by constructor <;> kernel_rfl
def TKSK_24:TI:=⟨3,true,[Value.int IntKind.i64 0,Value.slice none 0 0,Value.slice none 0 0],[(0,1,false),(1,1,false),(2,1,false)],none,56,6,none,false⟩
theorem TKSK_24_ok:TypOk Tryz.prog 24 TKSK_24:=by constructor <;> kernel_rfl
def TKSK_29:TI:=⟨4,true,[Value.slice none 0 0,Value.int IntKind.i64 0,Value.int IntKind.i64 0,Value.slice none 0 0],[(0,1,false),(1,2,true),(3,1,false)],none,64,6,none,false⟩
theorem TKSK_29_ok:TypOk Tryz.prog 29 TKSK_29:=by constructor <;> kernel_rfl
def TKSK_33:TI:=⟨1,false,[Value.slice none 0 0],[],some 44,24,5,none,false⟩
theorem TKSK_33_ok:TypOk Tryz.prog 33 TKSK_33:=by constructor <;> kernel_rfl
def TKSK_56:TI:=⟨1,false,[Value.pointer none],[],none,8,4,none,false⟩
theorem TKSK_56_ok:TypOk Tryz.prog 56 TKSK_56:=by constructor <;> kernel_rfl
def TKSK_67:TI:=⟨1,false,[Value.slice none 0 0],[],some 156,24,5,none,false⟩
theorem TKSK_67_ok:TypOk Tryz.prog 67 TKSK_67:=by constructor <;> kernel_rfl
def TKSK_39:TI:=⟨1,false,[Value.slice none 0 0],[],some 41,24,5,none,false⟩
theorem TKSK_39_ok:TypOk Tryz.prog 39 TKSK_39:=by constructor <;> kernel_rfl
def TKSK_22:TI:=⟨1,false,[Value.slice none 0 0],[],some 103,24,5,none,false⟩
theorem TKSK_22_ok:TypOk Tryz.prog 22 TKSK_22:=by constructor <;> kernel_rfl
def TKSK_59:TI:=⟨1,false,[Value.slice none 0 0],[],some 3,24,5,none,false⟩
theorem TKSK_59_ok:TypOk Tryz.prog 59 TKSK_59:=by constructor <;> kernel_rfl
def TKSK_79:TI:=⟨5,true,[Value.int IntKind.i64 0,Value.slice none 0 0,Value.int IntKind.i64 0,Value.int IntKind.i64 0,Value.slice none 0 0],[(0,1,false),(1,4,true)],none,72,6,none,false⟩
theorem TKSK_79_ok:TypOk Tryz.prog 79 TKSK_79:=by constructor <;> kernel_rfl
def TKSK_103:TI:=⟨2,true,[Value.slice none 0 0,Value.int IntKind.i64 0],[(0,1,false),(1,1,false)],none,32,6,none,false⟩
theorem TKSK_103_ok:TypOk Tryz.prog 103 TKSK_103:=by constructor <;> kernel_rfl
def TKSK_156:TI:=⟨5,true,[Value.int IntKind.i64 0,Value.slice none 0 0,Value.int IntKind.i64 0,Value.int IntKind.i64 0,Value.slice none 0 0],[(0,1,false),(1,4,true)],none,72,6,none,false⟩
theorem TKSK_156_ok:TypOk Tryz.prog 156 TKSK_156:=by constructor <;> kernel_rfl
def TKSK:List (Nat×TI):=[(41,TKSK_41),(35,TKSK_35),(45,TKSK_45),(51,TKSK_51),(3,TKSK_3),(44,TKSK_44),(24,TKSK_24),(29,TKSK_29),(33,TKSK_33),(56,TKSK_56),(67,TKSK_67),(39,TKSK_39),(22,TKSK_22),(59,TKSK_59),(79,TKSK_79),(103,TKSK_103),(156,TKSK_156)]
theorem TKSK_ok:TabOk Tryz.prog TKSK:=((((((((((((((((((TabOk.nil _).cons TKSK_156_ok).cons TKSK_103_ok).cons TKSK_79_ok).cons TKSK_59_ok).cons TKSK_22_ok).cons TKSK_39_ok).cons TKSK_67_ok).cons TKSK_56_ok).cons TKSK_33_ok).cons TKSK_29_ok).cons TKSK_24_ok).cons TKSK_44_ok).cons TKSK_3_ok).cons TKSK_51_ok).cons TKSK_45_ok).cons TKSK_35_ok).cons TKSK_41_ok)
theorem compose_at (s u:List (Int×Tm))(hs:s.length≤1000)(hu:u.length≤1000)(hsw:∀ q∈s,Bnd 150 q.2∧Wide q.2∧q.2.full≤80000)(huw:∀ q∈u,Bnd 150 q.2∧Wide q.2∧q.2.full≤80000)(left:Int)(h0:0≤left∧left≤20000):
  ∃ st:Nm.St,∀ kb,CallC Tryz.prog 29 [.sl 5 (ePairs s) none,.sl 5 (ePairs u) none,.o kb] [(.o kb,.ob (BudJ left false))] [(.o kb,.ob (BudJ st.left st.dry))] (.tu [.sl 5 (ePairs (Sb.compose u s left false).1) none,.v (.int .i64 (Sb.compose u s left false).2)]):=by
 obtain⟨st,h⟩:=compose_d s u hs hu hsw huw left h0
 refine⟨st,fun kb=>?_⟩
 have h:=h.ren (fun _=>kb) (by simp[renOk,D.ok,D.oks,rnames,inN,ckey,ePairs_ok]) (by
  intro k h1 k' h2 _
  simp[rnames] at h1 h2
  rw[h1,h2])
 simpa[D.ren,D.rens,ePairs_ren,renE,Key.ren] using h
namespace Sb
theorem both_ok {C M:List Ty}{s u c:List (Int×Tm)}{x y z a:Tm}{t:Ty}{sf sg sk:Nm.St}(hs:Ok C M s)(hu:Ok C M u)(hr:right s=true)(hru:right u=true)(hx:IsOf C M x [] t)(hxb:Bnd 150 x)(hxz:x.full≤1000) 
  (h1:apply s x 3000 false=(y,sf)) (e1:sf.e=0) (h2:apply u y 3000 false=(z,sg)) (e2:sg.e=0) (h3:compose u s 3000 false=(c,0)) (h4:apply c x 3000 false=(a,sk)) (e4:sk.e=0):a=z:=by
 have b0:(0:Int)≤3000∧(3000:Int)≤1000000000:=⟨by decide,by decide⟩
 have hk:=apply_keeps (C:=C) (M:=M) (B:=150) (by decide) s [] hr hs x t hx hxb (by simp only[List.length_nil];omega) 3000 false b0
 have hle:=apply_less (l:=s) (t:=x) (left:=3000) (dry:=false) (fun q hq=>(hs q hq).2.1) hxb b0
 rw[h1] at hk hle
 have hyf:y.full≤755000:=full_of (hle e1).2.2 (hle e1).2.1.1
 have g1:=Hs.apply_T (C:=C) (M:=M) (B:=150) (by decide) (X0:=[]) hs hx hxb (by simp only[List.length_nil];omega) b0 h1 e1
 have g2:=Hs.apply_T (C:=C) (M:=M) (B:=150) (by decide) (X0:=[]) hu (hk.2 e1) (hle e1).2.2 (by dsimp only;simp only[List.length_nil];omega) b0 h2 e2
 obtain⟨hc,hcf⟩:=compose_ok hu hs hru hr b0 h3
 have g4:=Hs.apply_T (C:=C) (M:=M) (B:=150) (by decide) (X0:=[]) hc hx hxb (by simp only[List.length_nil];omega) b0 h4 e4
 rw[g4,g2,g1,Hs.T_T]
 exact Hs.T_ext 100002 hcf x 0
theorem compose_bnd {C M:List Ty}{s u c:List (Int×Tm)}{h:Int}(hs:Ok C M s)(hu:Ok C M u)(hr:right s=true)(hru:right u=true)(hz:s.length+u.length≤1000)(huf:∀ q∈u,q.2.size≤5000)(h3:compose u s 3000 false=(c,h)):(∀ q∈c,Bnd 150 q.2∧q.2.size≤5000)∧c.length≤1000:=by
 unfold compose at h3
 rw[if_neg (by rw[hr,hru];simp)] at h3
 by_cases he:(cgo u s 3000 false).2.e=0
 rotate_left
 ·rw[if_pos he] at h3
  rw[←(Prod.mk.inj h3).1]
  exact⟨(fun q hq=>by cases hq),by simp⟩
 rw[if_neg (fun h=>h he)] at h3
 rw[←(Prod.mk.inj h3).1]
 obtain⟨-,g2,g3⟩:=cfold hu hru s (So.ss (kept (s.map (·.1)) u)) ⟨3000,false,0,0⟩ hs ⟨by decide,by decide⟩ (by unfold cgo at he;exact he)
 have g2:(cgo u s 3000 false).1=So.ss (kept (s.map (·.1)) u)++s.map (fun p=>(p.1,Hs.T 100002 (find u) p.2 0)):=g2
 refine⟨fun q hq=>?_,?_⟩
 ·have hq:=(So.ss_same _).mem hq
  rw[g2] at hq
  rcases List.mem_append.1 hq with hq | hq
  ·have hq:=kept_mem ((So.ss_same _).mem hq)
   exact⟨(hu q hq).2.1,huf q hq⟩
  ·obtain⟨p,hp,rfl⟩:=List.mem_map.1 hq
   exact⟨(g3 p hp).2.1,(g3 p hp).2.2.2⟩
 ·rw[So.ss_len,g2,List.length_append,So.ss_len,List.length_map]
  have:=kept_len (s.map (·.1)) u
  omega
theorem right_kept {s:List (Int×Tm)}(hr:right s=true)(m:List Int):right (So.ss (kept m s))=true:=by
 have h1:(kept m s).Pairwise fun a b=>a.1<b.1:=(of_decide_eq_true hr).filter _
 refine right_ss ?_
 rw[List.Nodup,List.pairwise_map]
 exact h1.imp fun h=>Int.ne_of_lt h
theorem kept_none_find {m:List Int}{s:List (Int×Tm)}{i:Int}(h:i∈m):find (So.ss (kept m s)) i=none:=by
 rw[Pn.find_ss]
 show find (kept m s) i=none
 rw[find_kept,if_pos h]
end Sb
set_option maxRecDepth 100000 in
set_option maxHeartbeats 16000000 in
theorem substKeeps_d (b:Int)(C Mw:List Ty)(l m:List (Int×Tm))(p:Tm)(fp:p.Fit)(hl:l.length≤9223372036854775807)(hfl:∀ q∈l,q.2.Fit∧q.1≤9223372036854775807)(hm:m.length≤9223372036854775807)(hfm:∀ q∈m,q.2.Fit∧q.1≤9223372036854775807):
  PureC Tryz.prog 4 [.ag [.v (.int .i64 b),.sl 2 (eTys C) none,.sl 2 (eTys Mw) none],.sl 5 (ePairs l) none,.sl 5 (ePairs m) none,.ag (eTm p)] (.v (.bool true)):=by
 have hk:=known09_d
 have hF9:=few9_d l hl fun p _ h=>wide_full _ (by have:=fewB_full h;omega)
 have hG9:=few9_d m hm fun p _ h=>wide_full _ (by have:=fewB_full h;omega)
 have hF1:=Few6_d 60 (by decide) (by decide) p 60 (by decide) (by decide)
 have hSm:=smallW_d b C Mw
 rw[eTm_eq] at hF1
 rw[eTm_eq]
 cases h9:few9 l with
 | false=>
  rw[h9] at hF9
  refine calldw 0 167 [ResultVar.tmp 8] TKSK_ok Tryz.func4 rfl Tryz.ntmps4 rfl fun cx hnt hn0=>?_
  ·skip
   refine dw_seq ?_;refine dwk [] TKSK_ok hnt fun _ z9=>z9 _ _ ?_;refine dw_seq ?_;refine dw_seq ?_;refine dwk [] TKSK_ok hnt fun K hK=>?_;refine dcl (hF9) ?_;refine hK _ _ ?_;clear hK K;refine dw_cond (t:=true) rfl ?_;rw[if_pos rfl];refine dw_seq ?_;refine dwk [] TKSK_ok hnt fun K hK=>?_;refine dcl (hk) ?_;refine hK _ _ ?_;clear hK K;refine dw_ret ?_
   exact reta rfl
 | true=>
 rw[h9] at hF9
 cases h8:few9 m with
 | false=>
  rw[h8] at hG9
  refine calldw 0 167 [ResultVar.tmp 8] TKSK_ok Tryz.func4 rfl Tryz.ntmps4 rfl fun cx hnt hn0=>?_
  ·skip
   refine dw_seq ?_;refine dwk [] TKSK_ok hnt fun _ z9=>z9 _ _ ?_;refine dw_seq ?_;refine dw_seq ?_;refine dwk [] TKSK_ok hnt fun K hK=>?_;refine dcl (hF9) ?_;refine dcl (hG9) ?_;refine hK _ _ ?_;clear hK K;refine dw_cond (t:=true) rfl ?_;rw[if_pos rfl];refine dw_seq ?_;refine dwk [] TKSK_ok hnt fun K hK=>?_;refine dcl (hk) ?_;refine hK _ _ ?_;clear hK K
   refine dw_ret ?_
   exact reta rfl
 | true=>
 rw[h8] at hG9
 cases h1:decide (fewM 60 p 60≤60) with
 | false=>
  rw[h1] at hF1
  refine calldw 0 167 [ResultVar.tmp 8] TKSK_ok Tryz.func4 rfl Tryz.ntmps4 rfl fun cx hnt hn0=>?_
  ·skip
   refine dw_seq ?_;refine dwk [] TKSK_ok hnt fun _ z9=>z9 _ _ ?_;refine dw_seq ?_;refine dw_seq ?_;refine dwk [] TKSK_ok hnt fun K hK=>?_;refine dcl (hF9) ?_;refine dcl (hG9) ?_;refine dcl (hF1) ?_;refine hK _ _ ?_;clear hK K;refine dw_cond (t:=true) rfl ?_;rw[if_pos rfl];refine dw_seq ?_;refine dwk [] TKSK_ok hnt fun K hK=>?_;refine dcl (hk) ?_;refine hK _ _ ?_;clear hK K
   refine dw_ret ?_
   exact reta rfl
 | true=>
 rw[h1] at hF1
 cases hs:Ru.wB C Mw with
 | false=>
  rw[hs] at hSm
  refine calldw 0 167 [ResultVar.tmp 8] TKSK_ok Tryz.func4 rfl Tryz.ntmps4 rfl fun cx hnt hn0=>?_
  ·skip
   refine dw_seq ?_;refine dwk [] TKSK_ok hnt fun _ z9=>z9 _ _ ?_;refine dw_seq ?_;refine dw_seq ?_;refine dwk [] TKSK_ok hnt fun K hK=>?_;refine dcl (hF9) ?_;refine dcl (hG9) ?_;refine dcl (hF1) ?_;refine dcl (hSm) ?_;refine hK _ _ ?_;clear hK K;refine dw_cond (t:=true) rfl ?_;rw[if_pos rfl];refine dw_seq ?_;refine dwk [] TKSK_ok hnt fun K hK=>?_;refine dcl (hk) ?_
   refine hK _ _ ?_;clear hK K;refine dw_ret ?_
   exact reta rfl
 | true=>
 rw[hs] at hSm
 rw[decide_eq_true_eq] at h1
 have zp:=fewM_full (by decide) 60 p 60 (by decide) (by decide) h1
 have hpz:p.full≤60:=by omega
 have hpd:p.depth≤60:=by omega
 clear h1
 unfold Ru.wB at hs
 rw[Bool.and_eq_true,decide_eq_true_eq] at hs
 have hCM:∀ t∈C++Mw,t.size≤60:=fun t ht=>fewT60 (List.all_eq_true.1 hs.2 t ht)
 have hM60:∀ t∈Mw,t.size≤60:=fun t ht=>hCM t (List.mem_append_right _ ht)
 have hCl:=hs.1.1
 have hMl:=hs.1.2
 have zC:=sizes60 (fun t ht=>hCM t (List.mem_append_left _ ht)) hCl
 have zM:=sizes60 hM60 hMl
 have hWd:=twd_d b C Mw (by omega) (by omega)
 have hT1:=to6_d p (by omega)
 rw[eTm_eq] at hT1
 have few:∀ {l:List (Int×Tm)},few9 l=true→(∀ q∈l,q.2.Fit∧q.1≤9223372036854775807)→∀ q∈l.take 10,q.2.full≤150∧q.2.Fit∧q.1≤9223372036854775807:=fun {l} h9 hfl q hq=>by
  have:=List.all_eq_true.1 h9 q hq
  simp only[Bool.and_eq_true] at this
  exact⟨(fewB_full this.1).1,hfl q (List.mem_of_mem_take hq)⟩
 have hsf:=few h9 hfl
 have huf:=few h8 hfm
 clear few
 have hT9:=to9_d l hl fun q hq=>by have:=(hsf q hq).1;omega
 have hU9:=to9_d m hm fun q hq=>by have:=(huf q hq).1;omega
 obtain⟨s,hse⟩:∃ s,l.take 10=s:=⟨_,rfl⟩
 obtain⟨u,hue⟩:∃ u,m.take 10=u:=⟨_,rfl⟩
 have hsl:s.length≤10:=by rw[←hse,List.length_take];omega
 have hul:u.length≤10:=by rw[←hue,List.length_take];omega
 rw[hse] at hT9 hsf
 rw[hue] at hU9 huf
 have hix:p.index≤9223372036854775807:=by obtain⟨_,_,_,_⟩:=p;exact(Tm.fit_iff.1 fp).2.1
 have hTy:=ttype_d b C Mw p hix (by omega) (by omega) (by omega)
 obtain⟨of,hof⟩:∃ u,(tyOf C Mw p).getD tyZ=u:=⟨_,rfl⟩
 rw[hof,eTm_eq,eTy_eq] at hTy
 by_cases hso:(tyOf C Mw p).isSome=true
 rotate_left
 ·rw[if_neg hso] at hTy
  refine calldw 0 167 [ResultVar.tmp 8] TKSK_ok Tryz.func4 rfl Tryz.ntmps4 rfl fun cx hnt hn0=>?_
  ·skip
   refine dw_seq ?_;refine dwk [] TKSK_ok hnt fun _ z9=>z9 _ _ ?_;refine dw_seq ?_;refine dw_seq ?_;refine dwk [] TKSK_ok hnt fun K hK=>?_;refine dcl (hF9) ?_;refine dcl (hG9) ?_;refine dcl (hF1) ?_;refine dcl (hSm) ?_;refine hK _ _ ?_;clear hK K;refine dw_cond (t:=false) rfl ?_;rw[if_neg (by simp)];refine dw_skip ?_;refine dw_seq ?_;refine dwkD [] TKSK_ok hnt fun K hK=>?_
   refine dcl (hWd) ?_;refine dcl (hT9) ?_;refine dcl (hU9) ?_;refine dcl (hT1) ?_;refine hK _ _ (by kernel_rfl) ?_;clear hK K;refine dw_seq ?_;refine dwk [] TKSK_ok hnt fun K hK=>?_;refine dcl (hTy) ?_;refine hK _ _ ?_;clear hK K;refine dw_seq ?_;refine dw_seq ?_;refine dwk [(59,.v (.bool true))] TKSK_ok hnt fun K hK=>?_;refine And.intro (bneT (by decide)) ?_;refine hK _ _ ?_;clear hK K
   refine dw_cond (t:=true) rfl ?_;rw[if_pos rfl];refine dw_seq ?_;refine dwk [] TKSK_ok hnt fun K hK=>?_;refine dcl (hk) ?_;refine hK _ _ ?_;clear hK K;refine dw_ret ?_
   exact reta rfl
 rw[if_pos hso] at hTy
 obtain⟨rw_,hrw⟩:∃ c:Bool,c=true↔RightWd b C Mw:=by
  by_cases h:RightWd b C Mw
  ·exact⟨true,fun _=>h,fun _=>rfl⟩
  ·exact⟨false,fun e=>(by cases e),fun e=>absurd e h⟩
 have hR:=tworld_d b C Mw rw_ hrw (fun v hv=>by have:=hCM v hv;omega)
 cases rw_ with
 | false=>
  refine calldw 0 167 [ResultVar.tmp 8] TKSK_ok Tryz.func4 rfl Tryz.ntmps4 rfl fun cx hnt hn0=>?_
  ·skip
   refine dw_seq ?_;refine dwk [] TKSK_ok hnt fun _ z9=>z9 _ _ ?_;refine dw_seq ?_;refine dw_seq ?_;refine dwk [] TKSK_ok hnt fun K hK=>?_;refine dcl (hF9) ?_;refine dcl (hG9) ?_;refine dcl (hF1) ?_;refine dcl (hSm) ?_;refine hK _ _ ?_;clear hK K;refine dw_cond (t:=false) rfl ?_;rw[if_neg (by simp)];refine dw_skip ?_;refine dw_seq ?_;refine dwkD [] TKSK_ok hnt fun K hK=>?_
   refine dcl (hWd) ?_;refine dcl (hT9) ?_;refine dcl (hU9) ?_;refine dcl (hT1) ?_;refine hK _ _ (by kernel_rfl) ?_;clear hK K;refine dw_seq ?_;refine dwk [] TKSK_ok hnt fun K hK=>?_;refine dcl (hTy) ?_;refine hK _ _ ?_;clear hK K;refine dw_seq ?_;refine dw_seq ?_;refine dwk [(59,.v (.bool false))] TKSK_ok hnt fun K hK=>?_;refine And.intro (bneF rfl) ?_;refine dcl (hR) ?_;refine hK _ _ ?_;clear hK K
   refine dw_cond (t:=true) rfl ?_;rw[if_pos rfl];refine dw_seq ?_;refine dwk [] TKSK_ok hnt fun K hK=>?_;refine dcl (hk) ?_;refine hK _ _ ?_;clear hK K;refine dw_ret ?_
   exact reta rfl
 | true=>
 obtain⟨c1,hc1⟩:=code_ex2 C Mw [] p of
 have hK1:=tcheck_d b C Mw p of c1 (by omega) (by omega) hc1 (by omega) fp
 rw[eTm_eq,eTy_eq] at hK1
 by_cases e1:c1=0
 rotate_left
 ·skip
  refine calldw 0 167 [ResultVar.tmp 8] TKSK_ok Tryz.func4 rfl Tryz.ntmps4 rfl fun cx hnt hn0=>?_
  ·skip
   refine dw_seq ?_;refine dwk [] TKSK_ok hnt fun _ z9=>z9 _ _ ?_;refine dw_seq ?_;refine dw_seq ?_;refine dwk [] TKSK_ok hnt fun K hK=>?_;refine dcl (hF9) ?_;refine dcl (hG9) ?_;refine dcl (hF1) ?_;refine dcl (hSm) ?_;refine hK _ _ ?_;clear hK K;refine dw_cond (t:=false) rfl ?_;rw[if_neg (by simp)];refine dw_skip ?_;refine dw_seq ?_;refine dwkD [] TKSK_ok hnt fun K hK=>?_
   refine dcl (hWd) ?_;refine dcl (hT9) ?_;refine dcl (hU9) ?_;refine dcl (hT1) ?_;refine hK _ _ (by kernel_rfl) ?_;clear hK K;refine dw_seq ?_;refine dwk [] TKSK_ok hnt fun K hK=>?_;refine dcl (hTy) ?_;refine hK _ _ ?_;clear hK K;refine dw_seq ?_;refine dw_seq ?_;refine dwk [(59,.v (.bool false)),(70,.v (.bool true))] TKSK_ok hnt fun K hK=>?_;refine And.intro (bneF rfl) ?_;refine dcl (hR) ?_
   refine dcl (hK1) ?_;refine And.intro (bneT e1) ?_;refine hK _ _ ?_;clear hK K;refine dw_cond (t:=true) rfl ?_;rw[if_pos rfl];refine dw_seq ?_;refine dwk [] TKSK_ok hnt fun K hK=>?_;refine dcl (hk) ?_;refine hK _ _ ?_;clear hK K;refine dw_ret ?_
   exact reta rfl
 subst e1
 obtain⟨code,hcode⟩:∃ code:Tm→Ty→Int,∀ t u,checkCode C Mw t [] u (code t u):=⟨fun t u=>Classical.choose (code_ex2 C Mw [] t u),fun t u=>Classical.choose_spec (code_ex2 C Mw [] t u)⟩
 have hsc:∀ s:List (Int×Tm),s.length≤10→(∀ q∈s,q.2.full≤150∧q.2.Fit∧q.1≤9223372036854775807)→PureC Tryz.prog 28 [.ag [.v (.int .i64 b),.sl 2 (eTys C) none,.sl 2 (eTys Mw) none],.v (.slice none 0 0),.sl 5 (ePairs s) none] (.v (.int .i64 (if Sb.right s=true then chkL code Mw s else 1))):=fun s hsl hsf=>
  CallC.vle (scheck_d b C Mw [] s (by omega) code hcode (fun x hx=>⟨by have:=(hsf x hx).1;simp;omega,(hsf x hx).2⟩) fun u hu=>by have:=hM60 u hu;omega) (.cons (VLe.refl _) (.cons (VLe.nil _) (.cons (VLe.refl _) .nil))) (VLe.refl _)
 have hSC:=hsc s hsl hsf
 have hUC:=hsc u hul huf
 clear hsc
 obtain⟨cs,hcs⟩:∃ cs,(if Sb.right s=true then chkL code Mw s else 1)=cs:=⟨_,rfl⟩
 rw[hcs] at hSC
 obtain⟨cu,hcu⟩:∃ cs,(if Sb.right u=true then chkL code Mw u else 1)=cs:=⟨_,rfl⟩
 rw[hcu] at hUC
 by_cases e2:cs=0
 rotate_left
 ·skip
  refine calldw 0 167 [ResultVar.tmp 8] TKSK_ok Tryz.func4 rfl Tryz.ntmps4 rfl fun cx hnt hn0=>?_
  ·skip
   refine dw_seq ?_;refine dwk [] TKSK_ok hnt fun _ z9=>z9 _ _ ?_;refine dw_seq ?_;refine dw_seq ?_;refine dwk [] TKSK_ok hnt fun K hK=>?_;refine dcl (hF9) ?_;refine dcl (hG9) ?_;refine dcl (hF1) ?_;refine dcl (hSm) ?_;refine hK _ _ ?_;clear hK K;refine dw_cond (t:=false) rfl ?_;rw[if_neg (by simp)];refine dw_skip ?_;refine dw_seq ?_;refine dwkD [] TKSK_ok hnt fun K hK=>?_
   refine dcl (hWd) ?_;refine dcl (hT9) ?_;refine dcl (hU9) ?_;refine dcl (hT1) ?_;refine hK _ _ (by kernel_rfl) ?_;clear hK K;refine dw_seq ?_;refine dwk [] TKSK_ok hnt fun K hK=>?_;refine dcl (hTy) ?_;refine hK _ _ ?_;clear hK K;refine dw_seq ?_;refine dw_seq ?_;refine dwk [(59,.v (.bool false)),(70,.v (.bool false)),(76,.v (.bool true))] TKSK_ok hnt fun K hK=>?_;refine And.intro (bneF rfl) ?_
   refine dcl (hR) ?_;refine dcl (hK1) ?_;refine And.intro (bneF rfl) ?_;refine dcl (hSC) ?_;refine And.intro (bneT e2) ?_;refine hK _ _ ?_;clear hK K;refine dw_cond (t:=true) rfl ?_;rw[if_pos rfl];refine dw_seq ?_;refine dwk [] TKSK_ok hnt fun K hK=>?_;refine dcl (hk) ?_;refine hK _ _ ?_;clear hK K;refine dw_ret ?_
   exact reta rfl
 subst e2
 by_cases e3:cu=0
 rotate_left
 ·skip
  refine calldw 0 167 [ResultVar.tmp 8] TKSK_ok Tryz.func4 rfl Tryz.ntmps4 rfl fun cx hnt hn0=>?_
  ·skip
   refine dw_seq ?_;refine dwk [] TKSK_ok hnt fun _ z9=>z9 _ _ ?_;refine dw_seq ?_;refine dw_seq ?_;refine dwk [] TKSK_ok hnt fun K hK=>?_;refine dcl (hF9) ?_;refine dcl (hG9) ?_;refine dcl (hF1) ?_;refine dcl (hSm) ?_;refine hK _ _ ?_;clear hK K;refine dw_cond (t:=false) rfl ?_;rw[if_neg (by simp)];refine dw_skip ?_;refine dw_seq ?_;refine dwkD [] TKSK_ok hnt fun K hK=>?_
   refine dcl (hWd) ?_;refine dcl (hT9) ?_;refine dcl (hU9) ?_;refine dcl (hT1) ?_;refine hK _ _ (by kernel_rfl) ?_;clear hK K;refine dw_seq ?_;refine dwk [] TKSK_ok hnt fun K hK=>?_;refine dcl (hTy) ?_;refine hK _ _ ?_;clear hK K;refine dw_seq ?_;refine dw_seq ?_;refine dwk [(59,.v (.bool false)),(70,.v (.bool false)),(76,.v (.bool false)),(82,.v (.bool true))] TKSK_ok hnt fun K hK=>?_
   refine And.intro (bneF rfl) ?_;refine dcl (hR) ?_;refine dcl (hK1) ?_;refine And.intro (bneF rfl) ?_;refine dcl (hSC) ?_;refine And.intro (bneF rfl) ?_;refine dcl (hUC) ?_;refine And.intro (bneT e3) ?_;refine hK _ _ ?_;clear hK K;refine dw_cond (t:=true) rfl ?_;rw[if_pos rfl];refine dw_seq ?_;refine dwk [] TKSK_ok hnt fun K hK=>?_;refine dcl (hk) ?_;refine hK _ _ ?_;clear hK K
   refine dw_ret ?_
   exact reta rfl
 subst e3
 have hp:=codeOf0 hc1
 have ok_of:∀ {s:List (Int×Tm)},(∀ q∈s,q.2.full≤150∧q.2.Fit∧q.1≤9223372036854775807)→(if Sb.right s=true then chkL code Mw s else 1)=0→Sb.right s=true∧Sb.Ok C Mw s:=fun {s} hsf hcs=>by
  have hr:Sb.right s=true:=by
   cases hr:Sb.right s with
   | true=>rfl
   | false=>rw[hr,if_neg (by simp)] at hcs;omega
  rw[hr,if_pos rfl] at hcs
  exact⟨hr,fun q hq=>⟨Ru.chkL_ok hcode hcs q hq,Bnd.of_full q.2 (hsf q hq).1 (hsf q hq).2.1,by have:=(hsf q hq).1;omega⟩⟩
 obtain⟨hrs,hos⟩:=ok_of hsf hcs
 obtain⟨hru,hou⟩:=ok_of huf hcu
 clear ok_of hcs hcu
 have bp:Bnd 150 p:=Bnd.of_full p (by omega) fp
 have hsw:∀ q∈s,Bnd 150 q.2∧Wide q.2∧q.2.full≤80000:=fun q hq=>⟨(hos q hq).2.1,wide_full _ (by have:=(hsf q hq).1;omega),by have:=(hsf q hq).1;omega⟩
 have huw:∀ q∈u,Bnd 150 q.2∧Wide q.2∧q.2.full≤80000:=fun q hq=>⟨(hou q hq).2.1,wide_full _ (by have:=(huf q hq).1;omega),by have:=(huf q hq).1;omega⟩
 have b0:(0:Int)≤3000∧(3000:Int)≤1000000000:=⟨by decide,by decide⟩
 have app:∀ (l:List (Int×Tm)) (t:Tm) (kb:Nat),l.length≤1000→(∀ q∈l,Bnd 150 q.2∧Wide q.2)→Bnd 150 t→t.size≤5000→CallC Tryz.prog 18 [.sl 5 (ePairs l) none,.ag (eTm t),.o kb] [(.o kb,.ob (BudJ 3000 false))] [(.o kb,.ob (BudJ (Sb.apply l t 3000 false).2.left (Sb.apply l t 3000 false).2.dry))] (.tu [.ag (eTm (Sb.apply l t 3000 false).1),.v (.int .i64 (Sb.apply l t 3000 false).2.e)]):=fun l t kb hl hw ht hz=>
  apply_at kb l (by omega) t (Bnd.wide t ht (by omega) (by decide)) 3000 false b0 fun _=>Sb.apply_ok (B:=150) 3000 (by decide) (by decide) (by decide) l hw t ht 3000 ⟨by decide,by decide⟩ false
 have hps:p.size≤60:=by have:=Tm.size_le_full p;omega
 have hA1:=fun kb=>app s p kb (by omega) (fun q hq=>⟨(hsw q hq).1,(hsw q hq).2.1⟩) bp (by omega)
 have hk1:=Sb.apply_keeps (C:=C) (M:=Mw) (B:=150) (by decide) s [] hrs hos p of hp bp (by simp only[List.length_nil];omega) 3000 false b0
 have hle1:=apply_less (l:=s) (t:=p) (left:=3000) (dry:=false) (fun q hq=>(hos q hq).2.1) bp b0
 have hno1:=Sb.apply_not (l:=s) (t:=p) (left:=3000) (dry:=false)
 obtain⟨⟨y,sf⟩,hy⟩:∃ r,Sb.apply s p 3000 false=r:=⟨_,rfl⟩
 rw[hy] at hk1 hle1 hno1
 simp only[hy] at hA1
 dsimp only at hk1 hle1 hno1
 have hyb:Bnd 150 y∧y.size≤5000:=by
  by_cases hw:sf.e=0
  ·exact⟨(hle1 hw).2.2,(hle1 hw).2.1.1⟩
  ·have hz:y=Nm.tz:=hno1 hw
   rw[hz];exact⟨Bnd.tz,by decide⟩
 have hCy:=fun(h:sf.e=0)=>tcheck_d b C Mw y of 0 (by omega) (by omega) (Ru.code0 (hk1.2 h) (hle1 h).2.1) (by have:=Sb.full_of hyb.1 hyb.2;omega) (Bnd.fit y hyb.1)
 have hA2:=fun kb=>app u y kb (by omega) (fun q hq=>⟨(huw q hq).1,(huw q hq).2.1⟩) hyb.1 hyb.2
 obtain⟨⟨z,sg⟩,hz⟩:∃ r,Sb.apply u y 3000 false=r:=⟨_,rfl⟩
 simp only[hz] at hA2
 obtain⟨sh,hA3⟩:=compose_at s u (by omega) (by omega) hsw huw 3000 ⟨by decide,by decide⟩
 obtain⟨⟨c,h⟩,hc⟩:∃ r,Sb.compose u s 3000 false=r:=⟨_,rfl⟩
 have hcb:=Sb.compose_bnd (C:=C) (M:=Mw) hos hou hrs hru (by omega) (fun q hq=>by have:=(huf q hq).1;have:=Tm.size_le_full q.2;omega) hc
 simp only[hc] at hA3
 have hA4:=fun kb=>app c p kb hcb.2 (fun q hq=>⟨(hcb.1 q hq).1,Bnd.wide _ (hcb.1 q hq).1 (by have:=(hcb.1 q hq).2;omega) (by decide)⟩) bp (by omega)
 obtain⟨⟨a,sk⟩,ha⟩:∃ r,Sb.apply c p 3000 false=r:=⟨_,rfl⟩
 simp only[ha] at hA4
 have hMe:=metas_d [p] (by simp) (fun t ht=>by rw[List.mem_singleton] at ht;subst ht;omega)
 have eQ:eTms [p]=[[.sl 2 (eTys p.binds) none,.v (.int .i64 p.kind),.v (.int .i64 p.index),.sl 4 (eTms p.args) none]]:=by rw[←eTm_eq];rfl
 have hU:∀ i∈Pn.mtt p,i∈sortU (metasL [p]):=fun i hi=>(Pn.mem_mtt p i).2 hi
 have hUl:(sortU (metasL [p])).length≤1000:=by
  have h1:=Pn.nodup_len (sortU (metasL [p])) (metasL [p]) ((sortU_spec _).1.imp fun h=>Int.ne_of_lt h) fun x hx=>((sortU_spec _).2 x).1 hx
  have h2:=metasL_len [p] 60 (fun t ht=>by rw[List.mem_singleton] at ht;subst ht;exact hpz)
  simp at h2;omega
 obtain⟨U,hUe⟩:∃ U,sortU (metasL [p])=U:=⟨_,rfl⟩
 rw[hUe] at hMe hU hUl
 have hWo:=withoutN_d s (by omega) (fun q hq=>⟨(hsw q hq).2.2,(hsf q hq).2.1⟩) U (by omega)
 have hkl:=kept_len U s
 have hwm:∀ q∈So.ss (kept U s),q∈s:=fun q hq=>kept_mem ((So.ss_same _).mem hq)
 have hwf:∀ i∈Pn.mtt p,Sb.find (So.ss (kept U s)) i=none:=fun i hi=>Sb.kept_none_find (hU i hi)
 have hwr:Sb.right (So.ss (kept U s))=true:=Sb.right_kept hrs U
 have hwl:(So.ss (kept U s)).length=(kept U s).length:=So.ss_len _
 obtain⟨wo,hwo⟩:∃ wo,So.ss (kept U s)=wo:=⟨_,rfl⟩
 rw[hwo] at hWo hwm hwf hwr hwl
 rw[←hwl] at hWo hkl
 have hA5:=fun kb nm=>CallC.vle (app wo p kb (by omega) (fun q hq=>⟨(hsw q (hwm q hq)).1,(hsw q (hwm q hq)).2.1⟩) bp (by omega)) (args':=[.sl 5 (ePairs wo) (some nm),.ag (eTm p),.o kb]) (.cons (VLe.untag _ _ _) (.cons (VLe.refl _) (.cons (VLe.refl _) .nil))) (VLe.refl _)
 have hnone:=Sb.apply_none hwr hwf (left:=3000) (by omega) ⟨by omega,hpd⟩
 obtain⟨⟨o,so⟩,ho⟩:∃ r,Sb.apply wo p 3000 false=r:=⟨_,rfl⟩
 rw[ho] at hnone
 simp only[ho] at hA5
 have hEo:=equal2_d p p
 rw[decide_eq_true rfl] at hEo
 obtain⟨ho1,ho2⟩:=hnone
 dsimp only at ho1 ho2
 rw[ho1] at hA5
 simp only[eTm_eq] at hA1 hA2 hA4 hA5 hCy hEo
 simp only[eTy_eq] at hCy
 have hboth:=fun e1 e2 (e3:h=0) e4=>Sb.both_ok (C:=C) (M:=Mw) hos hou hrs hru hp bp (by omega) hy e1 hz e2 (by rw[hc,e3]) ha e4
 clear app
 have hEz:=equal2_d z z
 rw[decide_eq_true rfl,eTm_eq] at hEz
 refine calldw 0 167 [ResultVar.tmp 8] TKSK_ok Tryz.func4 rfl Tryz.ntmps4 rfl fun cx hnt hn0=>?_
 ·skip
  refine dw_seq ?_;refine dwk [] TKSK_ok hnt fun _ z9=>z9 _ _ ?_;refine dw_seq ?_;refine dw_seq ?_;refine dwk [] TKSK_ok hnt fun K hK=>?_;refine dcl (hF9) ?_;refine dcl (hG9) ?_;refine dcl (hF1) ?_;refine dcl (hSm) ?_;refine hK _ _ ?_;clear hK K;refine dw_cond (t:=false) rfl ?_;rw[if_neg (by simp)];refine dw_skip ?_;refine dw_seq ?_;refine dwkD [] TKSK_ok hnt fun K hK=>?_
  refine dcl (hWd) ?_;refine dcl (hT9) ?_;refine dcl (hU9) ?_;refine dcl (hT1) ?_;refine hK _ _ (by kernel_rfl) ?_;clear hK K;refine dw_seq ?_;refine dwk [] TKSK_ok hnt fun K hK=>?_;refine dcl (hTy) ?_;refine hK _ _ ?_;clear hK K;refine dw_seq ?_;refine dw_seq ?_;refine dwk [(59,.v (.bool false)),(70,.v (.bool false)),(76,.v (.bool false)),(82,.v (.bool false))] TKSK_ok hnt fun K hK=>?_
  refine And.intro (bneF rfl) ?_;refine dcl (hR) ?_;refine dcl (hK1) ?_;refine And.intro (bneF rfl) ?_;refine dcl (hSC) ?_;refine And.intro (bneF rfl) ?_;refine dcl (hUC) ?_;refine And.intro (bneF rfl) ?_;refine hK _ _ ?_;clear hK K;refine dw_cond (t:=false) rfl ?_;rw[if_neg (by simp)];refine dw_skip ?_;refine dw_seq ?_;refine dwkD [] TKSK_ok hnt fun K hK=>?_;refine dcn ((new_d 3000 (by decide)) _) ?_
  refine dcl (hA1 _) ?_;refine hK _ _ (by kernel_rfl) ?_;clear hK K
  by_cases hf:sf.e=0
  ·have hcy:=hCy hf
   refine dw_seq ?_;refine dw_seq ?_;refine dwk [(93,.v (.bool false)),(96,.v (.bool true)),(102,.v (.bool false))] TKSK_ok hnt fun K hK=>?_;refine And.intro (beqF hk1.1) ?_;refine And.intro (beqT hf) ?_;refine dcl (hcy) ?_;refine And.intro (bneF rfl) ?_;refine hK _ _ ?_;clear hK K;refine dw_cond (t:=false) rfl ?_;rw[if_neg (by simp)];refine dw_skip ?_;refine dw_seq ?_;refine dwkD [] TKSK_ok hnt fun K hK=>?_
   refine dcn ((new_d 3000 (by decide)) _) ?_;refine dcl (hA2 _) ?_;refine hK _ _ (by kernel_rfl) ?_;clear hK K;refine dw_seq ?_;refine dwk [] TKSK_ok hnt fun K hK=>?_;refine dcn ((new_d 3000 (by decide)) _) ?_;refine dcl (hA3 _) ?_;refine hK _ _ ?_;clear hK K;refine dw_seq ?_;refine dwkD [] TKSK_ok hnt fun K hK=>?_;refine dcn ((new_d 3000 (by decide)) _) ?_;refine dcl (hA4 _) ?_;refine hK _ _ (by kernel_rfl) ?_;clear hK K
   by_cases hg:sg.e=0
   ·by_cases hh:h=0
    ·by_cases hq:sk.e=0
     ·have hE:=hboth hf hg hh hq
      subst hE
      refine dw_seq ?_;refine dw_seq ?_;refine dwk [(127,.v (.bool true)),(130,.v (.bool true)),(134,.v (.bool true)),(138,.v (.bool true))] TKSK_ok hnt fun K hK=>?_;refine And.intro (beqT hf) ?_;refine And.intro (beqT hg) ?_;refine And.intro (beqT hh) ?_;refine And.intro (beqT hq) ?_;refine dcl (hEz) ?_;refine hK _ _ ?_;clear hK K;refine dw_cond (t:=false) rfl ?_;rw[if_neg (by simp)]
      refine dw_skip ?_;refine dw_seq ?_;refine dwkD [(149,.sl 4 (eTms [p]) none)] TKSK_ok hnt fun K hK=>?_;refine And.intro ((by rw[eQ];exact VLe.untag _ _ _)) ?_;refine dcl (hMe) ?_;refine dcn (hWo _) ?_;refine dcn ((new_d 3000 (by decide)) _) ?_;refine dcl (hA5 _ _) ?_;refine hK _ _ (by kernel_rfl) ?_;clear hK K;refine dw_seq ?_;refine dwk [(160,.v (.bool true))] TKSK_ok hnt fun K hK=>?_
      refine dcl (hk) ?_;refine And.intro (beqT ho2) ?_;refine dcl (hEo) ?_;refine hK _ _ ?_;clear hK K;refine dw_ret ?_
      exact reta rfl
     ·skip
      refine dw_seq ?_;refine dw_seq ?_;refine dwk [(127,.v (.bool true)),(130,.v (.bool true)),(134,.v (.bool true)),(138,.v (.bool false))] TKSK_ok hnt fun K hK=>?_;refine And.intro (beqT hf) ?_;refine And.intro (beqT hg) ?_;refine And.intro (beqT hh) ?_;refine And.intro (beqF hq) ?_;refine hK _ _ ?_;clear hK K;refine dw_cond (t:=false) rfl ?_;rw[if_neg (by simp)];refine dw_skip ?_
      refine dw_seq ?_;refine dwkD [(149,.sl 4 (eTms [p]) none)] TKSK_ok hnt fun K hK=>?_;refine And.intro ((by rw[eQ];exact VLe.untag _ _ _)) ?_;refine dcl (hMe) ?_;refine dcn (hWo _) ?_;refine dcn ((new_d 3000 (by decide)) _) ?_;refine dcl (hA5 _ _) ?_;refine hK _ _ (by kernel_rfl) ?_;clear hK K;refine dw_seq ?_;refine dwk [(160,.v (.bool true))] TKSK_ok hnt fun K hK=>?_;refine dcl (hk) ?_
      refine And.intro (beqT ho2) ?_;refine dcl (hEo) ?_;refine hK _ _ ?_;clear hK K;refine dw_ret ?_
      exact reta rfl
    ·skip
     refine dw_seq ?_;refine dw_seq ?_;refine dwk [(127,.v (.bool true)),(130,.v (.bool true)),(134,.v (.bool false))] TKSK_ok hnt fun K hK=>?_;refine And.intro (beqT hf) ?_;refine And.intro (beqT hg) ?_;refine And.intro (beqF hh) ?_;refine hK _ _ ?_;clear hK K;refine dw_cond (t:=false) rfl ?_;rw[if_neg (by simp)];refine dw_skip ?_;refine dw_seq ?_;refine dwkD [(149,.sl 4 (eTms [p]) none)] TKSK_ok hnt fun K hK=>?_
     refine And.intro ((by rw[eQ];exact VLe.untag _ _ _)) ?_;refine dcl (hMe) ?_;refine dcn (hWo _) ?_;refine dcn ((new_d 3000 (by decide)) _) ?_;refine dcl (hA5 _ _) ?_;refine hK _ _ (by kernel_rfl) ?_;clear hK K;refine dw_seq ?_;refine dwk [(160,.v (.bool true))] TKSK_ok hnt fun K hK=>?_;refine dcl (hk) ?_;refine And.intro (beqT ho2) ?_;refine dcl (hEo) ?_;refine hK _ _ ?_;clear hK K
     refine dw_ret ?_
     exact reta rfl
   ·skip
    refine dw_seq ?_;refine dw_seq ?_;refine dwk [(127,.v (.bool true)),(130,.v (.bool false))] TKSK_ok hnt fun K hK=>?_;refine And.intro (beqT hf) ?_;refine And.intro (beqF hg) ?_;refine hK _ _ ?_;clear hK K;refine dw_cond (t:=false) rfl ?_;rw[if_neg (by simp)];refine dw_skip ?_;refine dw_seq ?_;refine dwkD [(149,.sl 4 (eTms [p]) none)] TKSK_ok hnt fun K hK=>?_;refine And.intro ((by rw[eQ];exact VLe.untag _ _ _)) ?_
    refine dcl (hMe) ?_;refine dcn (hWo _) ?_;refine dcn ((new_d 3000 (by decide)) _) ?_;refine dcl (hA5 _ _) ?_;refine hK _ _ (by kernel_rfl) ?_;clear hK K;refine dw_seq ?_;refine dwk [(160,.v (.bool true))] TKSK_ok hnt fun K hK=>?_;refine dcl (hk) ?_;refine And.intro (beqT ho2) ?_;refine dcl (hEo) ?_;refine hK _ _ ?_;clear hK K;refine dw_ret ?_
    exact reta rfl
  ·skip
   refine dw_seq ?_;refine dw_seq ?_;refine dwk [(93,.v (.bool false)),(96,.v (.bool false))] TKSK_ok hnt fun K hK=>?_;refine And.intro (beqF hk1.1) ?_;refine And.intro (beqF hf) ?_;refine hK _ _ ?_;clear hK K;refine dw_cond (t:=false) rfl ?_;rw[if_neg (by simp)];refine dw_skip ?_;refine dw_seq ?_;refine dwkD [] TKSK_ok hnt fun K hK=>?_;refine dcn ((new_d 3000 (by decide)) _) ?_
   refine dcl (hA2 _) ?_;refine hK _ _ (by kernel_rfl) ?_;clear hK K;refine dw_seq ?_;refine dwk [] TKSK_ok hnt fun K hK=>?_;refine dcn ((new_d 3000 (by decide)) _) ?_;refine dcl (hA3 _) ?_;refine hK _ _ ?_;clear hK K;refine dw_seq ?_;refine dwkD [] TKSK_ok hnt fun K hK=>?_;refine dcn ((new_d 3000 (by decide)) _) ?_;refine dcl (hA4 _) ?_;refine hK _ _ (by kernel_rfl) ?_;clear hK K;refine dw_seq ?_
   refine dw_seq ?_;refine dwk [(127,.v (.bool false))] TKSK_ok hnt fun K hK=>?_;refine And.intro (beqF hf) ?_;refine hK _ _ ?_;clear hK K;refine dw_cond (t:=false) rfl ?_;rw[if_neg (by simp)];refine dw_skip ?_;refine dw_seq ?_;refine dwkD [(149,.sl 4 (eTms [p]) none)] TKSK_ok hnt fun K hK=>?_;refine And.intro ((by rw[eQ];exact VLe.untag _ _ _)) ?_;refine dcl (hMe) ?_;refine dcn (hWo _) ?_
   refine dcn ((new_d 3000 (by decide)) _) ?_;refine dcl (hA5 _ _) ?_;refine hK _ _ (by kernel_rfl) ?_;clear hK K;refine dw_seq ?_;refine dwk [(160,.v (.bool true))] TKSK_ok hnt fun K hK=>?_;refine dcl (hk) ?_;refine And.intro (beqT ho2) ?_;refine dcl (hEo) ?_;refine hK _ _ ?_;clear hK K;refine dw_ret ?_
   exact reta rfl
end Go.Proofs.YtflbnonbfmmchaaGreat
