/-
  The document's layer 9: through, Apply. The document's layer 10: Replace. A chain is its steps, one by one, in plain words. The document's step (layer 27), in plain words: it is the program's. kind.Compare. term.all: which of two lists is less. term.Compare. RuleOrders, walked in the deep way. Swap of rule and of the document. Orders: rule's and the document's. The axioms of the laws of layer 27. The document's step (layer 27), walked in the deep way. Package audit, walked in the deep way: Chain, Step. rule.Typed alone. Package audit, walked in the deep way: Lemma. Package audit, walked in the deep way: slices.Clone of pairs, proof.pair, Where.
-/
import Derived.Test.YtclihnccilkohaaGreatRowAuditStepsp9
import Derived.Test.YtclihnccilkohaaGreatRowAuditStepsp7
import Derived.Test.YtclihnccilkohaaGreatRowAuditStepsp8
import Derived.Test.YtclihnccilkohaaGreatRowAuditStepsp6
import Derived.Test.YtclihnccilkohaaGreatRowAuditStepsp1
import Derived.Test.YtclihnccilkohaaGreatRowAuditStepsp5
import Derived.Test.YtclihnccilkohaaGreatRowAuditStepsp4
set_option maxRecDepth 100000
set_option maxHeartbeats 1000000
set_option linter.unusedVariables false
set_option linter.unusedSimpArgs false
namespace Go.Proofs.YtclihnccilkohaaGreat
open Go.RowKit
namespace Rn
open Go.Proofs.YtclihnccilkohaaGreat.Nm
theorem done_dr {p:Tm×Nm.St}(h:Dr p.2):Dr (done p).2:=by
 have key:∀ s':Nm.St,Dr s'→Dr (if s'.e≠0 then (tz,s') else (p.1,s')).2:=fun s' h=>by split <;> exact h
 unfold done
 refine key _ ?_
 split
 ·exact fail_dr h 2 (by decide)
 ·exact h
theorem Put_dr (t:Tm)(xs:List Tm)(left:Int):Dr (Put t xs left false).2:=done_dr (putW_dr (thr:=through 100001) (fun _ _ _ _ _ h=>through_dr 100001 _ _ _ _ _ h) t xs _ fun _=>rfl)
theorem spend_dr {s:Nm.St}(h:Dr s)(h1:(spend s).1=true):Dr (spend s).2:=by
 unfold spend at h1 ⊢
 split at h1
 ·cases h1
 ·rename_i hh;rw[if_neg hh];exact h
theorem sb_e (l:List (Int×Tm))(t:Tm)(ins:Int){s:Nm.St}(h:s.e≠0):Sb.through l t ins s=(tz,s):=by
 obtain⟨b,k,i,a⟩:=t
 rw[Sb.through,if_pos h]
theorem repl_dr (t u:Tm){s:Nm.St}(h:Dr s)(he:s.e=0):Dr (Sb.replaced t u s).2:=by
 unfold Sb.replaced
 split
 ·intro e;exact absurd e (by show (1:Int)≠0;decide)
 ·rw[h he]
  have hp:=Put_dr u t.args s.left
  dsimp only
  split
  ·rename_i hn;intro e;exact absurd e hn
  ·rename_i hn;intro _;exact hp (Classical.byContradiction hn)
theorem sb_dr (l:List (Int×Tm)):∀ (t:Tm) (ins:Int) (s:Nm.St),Dr s→Dr (Sb.through l t ins s).2:=by
 intro t
 induction t using Tm.ind with
 | h b k i a ih=>
  intro ins s hs
  rw[Sb.through]
  split
  ·exact hs
  ·split
   ·intro e;exact absurd e (by show (11:Int)≠0;decide)
   ·rename_i he hsp
    have h1:Dr (spend s).2:=spend_dr hs (by simpa using hsp)
    dsimp only
    have hq:Dr (Sb.throughs l a (wr (ins+b.length)) (spend s).2).2:=by
     generalize (spend s).2=s1 at h1
     generalize wr (ins+(b.length:Int))=m
     clear hsp
     induction a generalizing s1 with
     | nil=>exact h1
     | cons t a iha=>
      rw[Sb.throughs]
      exact iha (fun u hu=>ih u (by simp[hu])) _ (ih t (by simp) m s1 h1)
    generalize Sb.throughs l a (wr (ins+(b.length:Int))) (spend s).2=q at hq
    split
    ·exact hq
    ·rename_i hn
     have he0:q.2.e=0:=Classical.byContradiction fun h=>hn (.inr h)
     split
     ·exact hq
     ·exact repl_dr _ _ hq he0
end Rn
def TRAP_31:TI:=⟨4,true,[Value.slice none 0 0,Value.int IntKind.i64 0,Value.int IntKind.i64 0,Value.slice none 0 0],[(0,1,false),(1,2,true),(3,1,false)],none,64,6,none,false⟩
theorem N6:TypOk Tryz.prog 31 TRAP_31:=by constructor <;> kernel_rfl
def TRAP_3:TI:=⟨1,false,[Value.int IntKind.i64 0],[],none,8,2,none,false⟩
theorem Hb:TypOk Tryz.prog 3 TRAP_3:=by constructor <;> kernel_rfl
def TRAP_179:TI:=⟨2,true,[Value.int IntKind.i64 0,Value.int IntKind.i64 0],[(0,1,false),(1,1,false)],none,16,6,none,true⟩
theorem QU:TypOk Tryz.prog 179 TRAP_179:=by constructor <;> kernel_rfl
def TRAP_29:TI:=⟨1,false,[Value.slice none 0 0],[],some 31,24,5,none,false⟩
theorem N7:TypOk Tryz.prog 29 TRAP_29:=by constructor <;> kernel_rfl
def TRAP_22:TI:=⟨1,false,[Value.slice none 0 0],[],some 104,24,5,none,false⟩
theorem N9:TypOk Tryz.prog 22 TRAP_22:=by constructor <;> kernel_rfl
def TRAP_72:TI:=⟨1,false,[Value.slice none 0 0],[],some 130,24,5,none,false⟩
theorem N5:TypOk Tryz.prog 72 TRAP_72:=by constructor <;> kernel_rfl
def TRAP_28:TI:=⟨2,true,[Value.int IntKind.i64 0,Value.int IntKind.i64 0],[(0,1,false),(1,1,false)],none,16,6,none,true⟩
theorem N8:TypOk Tryz.prog 28 TRAP_28:=by constructor <;> kernel_rfl
def TRAP_224:TI:=⟨3,true,[Value.int IntKind.i64 0,Value.int IntKind.i64 0,Value.int IntKind.i64 0],[(0,1,false),(1,1,false),(2,1,false)],none,24,6,none,false⟩
theorem QW:TypOk Tryz.prog 224 TRAP_224:=by constructor <;> kernel_rfl
def TRAP_177:TI:=⟨1,false,[Value.pointer none],[],none,8,4,none,false⟩
theorem QT:TypOk Tryz.prog 177 TRAP_177:=by constructor <;> kernel_rfl
def TRAP_130:TI:=⟨5,true,[Value.int IntKind.i64 0,Value.slice none 0 0,Value.int IntKind.i64 0,Value.int IntKind.i64 0,Value.slice none 0 0],[(0,1,false),(1,4,true)],none,72,6,none,false⟩
theorem QS:TypOk Tryz.prog 130 TRAP_130:=by constructor <;> kernel_rfl
def TRAP_222:TI:=⟨1,false,[Value.pointer none],[],none,8,4,none,false⟩
theorem QV:TypOk Tryz.prog 222 TRAP_222:=by constructor <;> kernel_rfl
def TRAP_104:TI:=⟨2,true,[Value.slice none 0 0,Value.int IntKind.i64 0],[(0,1,false),(1,1,false)],none,32,6,none,false⟩
theorem QR:TypOk Tryz.prog 104 TRAP_104:=by constructor <;> kernel_rfl
def TRAP:List (Nat×TI):=[(31,TRAP_31),(3,TRAP_3),(179,TRAP_179),(29,TRAP_29),(22,TRAP_22),(72,TRAP_72),(28,TRAP_28),(224,TRAP_224),(177,TRAP_177),(130,TRAP_130),(222,TRAP_222),(104,TRAP_104)]
theorem Za:Zh Tryz.prog TRAP:=(((((((((((((Zh.nil _).cons QR).cons QV).cons QS).cons QT).cons QW).cons N8).cons N5).cons N9).cons N7).cons QU).cons Hb).cons N6)
def nE (s:Nm.St):List (Key×D):=[(.c 0 0,.v (.int .i64 s.left)),(.c 0 1,.v (.int .i64 s.e))]
theorem Cr (l:List (Int×Tm))(m:Int):SG l m=match Sb.find l m with | some z=>(z,true) | none=>(Tm.zero,false):=Pn.getT_bfind l m
theorem Bz {l:List (Int×Tm)}{m:Int}{u:Tm}(h:Sb.find l m=some u):∃ p∈l,p.2=u:=by
 unfold Sb.find at h
 cases hf:l.find? (fun p=>p.1==m) with
 | none=>rw[hf] at h;cases h
 | some p=>rw[hf] at h;exact⟨p,List.mem_of_find?_eq_some hf,Option.some.inj h⟩
theorem Ah (l:List (Int×Tm))(b:List Ty)(k i:Int)(a:List Tm)(ins:Int){s:Nm.St}(he:s.e=0)(hsp:(Nm.spend s).1=true)(m:Int)(hm:Nm.wr (ins+(b.length:Int))=m):Sb.through l (.mk b k i a) ins s =
  (fun q:List Tm×Nm.St=>if k≠2∨q.2.e≠0 then (.mk b k i q.1,q.2) else match Sb.find l i with | none=>(.mk b k i q.1,q.2) | some u=>Sb.replaced (.mk b k i q.1) (Nm.lift m u 0) q.2) (Nm.seqM (fun t s=>Sb.through l t m s) a (Nm.spend s).2):=by
 rw[Sb.through,if_neg (fun h=>h he),if_neg (by simp[hsp]),Sb.throughs_seq,hm];rfl
theorem Td (y:Int)(t:Tm)(ins:Int):(Nm.lift y t ins).binds=t.binds:=by
 obtain⟨b,k,i,a⟩:=t;rw[Nm.lift_eq];rfl
theorem Fh (b:List Ty)(k i:Int)(A:List Tm)(u:Tm)(m:Int)(s:Nm.St):Sb.replaced (.mk b k i A) (Nm.lift m u 0) s =
  if u.binds.length≠A.length then (Nm.tz,{ s with e:=1 })
  else if (Nm.Put (Nm.lift m u 0) A s.left s.dry).2.e≠0 then (Nm.tz,{ s with left:=(Nm.Put (Nm.lift m u 0) A s.left s.dry).2.left,dry:=(Nm.Put (Nm.lift m u 0) A s.left s.dry).2.dry,e:=(Nm.Put (Nm.lift m u 0) A s.left s.dry).2.e })
  else (.mk b (Nm.Put (Nm.lift m u 0) A s.left s.dry).1.kind (Nm.Put (Nm.lift m u 0) A s.left s.dry).1.index (Nm.Put (Nm.lift m u 0) A s.left s.dry).1.args,{ s with left:=(Nm.Put (Nm.lift m u 0) A s.left s.dry).2.left,dry:=(Nm.Put (Nm.lift m u 0) A s.left s.dry).2.dry }):=by
 unfold Sb.replaced;rw[Td];rfl
set_option maxHeartbeats 8000000 in
theorem DK {B:Nat}(hB:B≤170)(l:List (Int×Tm))(hl:l.length≤900000)(hlx:∀ p∈l,Bnd B p.2∧ZB p.2∧p.2.full≤1000000000):∀ (t:Tm),Bnd B t→ZB t→∀ (ins:Int) (s:Nm.St),(0≤s.left∧s.left≤100000)→Rn.Dr s →
  ∃ z,((Sb.through l t ins s).2.e=0→z=(Sb.through l t ins s).1) ∧
   ZE Tryz.prog 93 [.p 0 0,.sl 5 (Z1 l) none,.ag (eTm t),.v (.int .i64 ins)] (nE s) (nE (Sb.through l t ins s).2) (.ag (eTm z)):=by
 intro t
 induction t using Tm.ind with
 | h bs k i a ih=>
 intro hb hw ins s hin hdr
 obtain⟨w1,w2,w3⟩:=hw.inv
 obtain⟨b1,b2,b3⟩:=hb.inv
 obtain⟨m,hm⟩:∃ m,Nm.wr (ins+(bs.length:Int))=m:=⟨_,rfl⟩
 have hm':IntKind.i64.wrap (ins+(bs.length:Int))=m:=by rw[←Yh];exact hm
 by_cases he:s.e≠0
 ·rw[Rn.sb_e l _ ins he]
  refine⟨Nm.tz,fun _=>rfl,?_⟩
  unfold nE
  rw[Xy,Zv]
  dsimp only[Tm.binds,Tm.kind,Tm.index,Tm.args]
  refine Zm 1 138 [ResultVar.cell 8 31] Za Tryz.func93 rfl Tryz.ntmps93 rfl fun cx hnt hn0=>?_
  ·skip
   refine Zz ?_;refine Zx [] Za hnt fun _ z9=>z9 _ _ ?_;refine Zz ?_;refine Zz ?_;refine Zx [(22,.v (.bool false))] Za hnt fun K hK=>?_;refine And.intro (XT he) ?_;refine hK _ _ ?_;clear hK K;refine Zy (t:=false) rfl ?_;rw[if_neg (by simp)];refine Zw ?_;refine Zz ?_;refine Zz ?_;refine Zx [(37,.v (.bool true))] Za hnt fun K hK=>?_
   refine And.intro (Y6 he) ?_;refine hK _ _ ?_;clear hK K;refine Zy (t:=true) rfl ?_;rw[if_pos rfl];refine Zz ?_;refine Zx [(38,.ag [.sl 2 [] none,.v (.int .i64 0),.v (.int .i64 0),.sl 4 [] none])] Za hnt fun K hK=>?_;refine And.intro (Xl) ?_;refine hK _ _ ?_;clear hK K;refine Zu ?_
   exact Zj rfl
 have he:s.e=0:=Classical.byContradiction he
 obtain⟨left,dry,count,e⟩:=s
 dsimp only at he hin
 subst he
 have hd0:dry=false:=hdr rfl
 subst hd0
 by_cases hl0:left=0
 ·have hsp:Nm.spend ⟨left,false,count,0⟩=(false,⟨0,true,count,0⟩):=by subst hl0;rfl
  have hth:Sb.through l (.mk bs k i a) ins ⟨left,false,count,0⟩=(Nm.tz,⟨0,true,count,11⟩):=by
   rw[Sb.through,if_neg (by simp),hsp,if_pos rfl]
  rw[hth]
  refine⟨Nm.tz,fun _=>rfl,?_⟩
  unfold nE
  rw[Xy,Zv]
  dsimp only[Tm.binds,Tm.kind,Tm.index,Tm.args]
  subst hl0
  refine Zm 1 138 [ResultVar.cell 8 31] Za Tryz.func93 rfl Tryz.ntmps93 rfl fun cx hnt hn0=>?_
  ·skip
   refine Zz ?_;refine Zx [] Za hnt fun _ z9=>z9 _ _ ?_;refine Zz ?_;refine Zz ?_;refine Zx [(22,.v (.bool true)),(28,.v (.bool true))] Za hnt fun K hK=>?_;refine And.intro (XU rfl) ?_;refine And.intro (XU rfl) ?_;refine hK _ _ ?_;clear hK K;refine Zy (t:=true) rfl ?_;rw[if_pos rfl];refine Zx [] Za hnt fun _ z9=>z9 _ _ ?_
   refine Zz ?_;refine Zz ?_;refine Zx [(37,.v (.bool true))] Za hnt fun K hK=>?_;refine And.intro (Y6 (by decide)) ?_;refine hK _ _ ?_;clear hK K;refine Zy (t:=true) rfl ?_;rw[if_pos rfl];refine Zz ?_;refine Zx [(38,.ag [.sl 2 [] none,.v (.int .i64 0),.v (.int .i64 0),.sl 4 [] none])] Za hnt fun K hK=>?_;refine And.intro (Xl) ?_;refine hK _ _ ?_;clear hK K
   refine Zu ?_
   exact Zj rfl
 have hsp:Nm.spend ⟨left,false,count,0⟩=(true,⟨left-1,false,count,0⟩):=by
  unfold Nm.spend;rw[if_neg (by simp;omega)]
 have hth:=Ah l bs k i a ins (s:=⟨left,false,count,0⟩) rfl (by rw[hsp]) m hm
 rw[hsp] at hth
 dsimp only at hth
 obtain⟨s1,hs1⟩:∃ s1:Nm.St,s1=⟨left-1,false,count,0⟩:=⟨_,rfl⟩
 rw[←hs1] at hth
 obtain⟨g,hg⟩:∃ g:Tm→Nm.St→Tm×Nm.St,(fun t s=>Sb.through l t m s)=g:=⟨_,rfl⟩
 have hgx:∀ t s,g t s=Sb.through l t m s:=fun t s=>by rw[←hg]
 rw[hg] at hth
 obtain⟨O,hO⟩:∃ O:Nat→List Tm,∀ j,(Nm.seqM g (a.take j) s1).1=O j:=⟨_,fun _=>rfl⟩
 obtain⟨S,hS⟩:∃ S:Nat→Nm.St,∀ j,(Nm.seqM g (a.take j) s1).2=S j:=⟨_,fun _=>rfl⟩
 have hO0:O 0=[]:=by rw[←hO];rfl
 have hS0:S 0=s1:=by rw[←hS];rfl
 have hOn:∀ j (h:j<a.length),O (j+1)=O j++[(g a[j] (S j)).1]:=fun j h=>by rw[←hO,←hO,←hS,Nm.seqM_take g a j h]
 have hSn:∀ j (h:j<a.length),S (j+1)=(g a[j] (S j)).2:=fun j h=>by rw[←hS,←hS,Nm.seqM_take g a j h]
 have hOl:∀ j,j≤a.length→(O j).length=j:=fun j h=>by rw[←hO,Nm.seqM_length,List.length_take];omega
 have hOa:(Nm.seqM g a s1).1=O a.length:=by rw[←hO,List.take_length]
 have hSa:(Nm.seqM g a s1).2=S a.length:=by rw[←hS,List.take_length]
 have hi1:VC s1:=by rw[hs1];exact⟨by show 0≤left-1;omega,by show left-1≤1000000000;omega⟩
 have hSi:∀ j,VC (S j):=fun j=>by
  rw[←hS]
  have key:∀ (a:List Tm) (s:Nm.St),VC s→VC (Nm.seqM g a s).2:=by
   intro a
   induction a with
   | nil=>intro s h;exact h
   | cons t a iha=>intro s h;exact iha _ (by rw[hgx];exact YQ l t m s h)
  exact key _ _ hi1
 have hSd:∀ j,Rn.Dr (S j):=fun j=>by rw[←hS];exact Rn.seqM_dr (fun t s h=>by rw[hgx];exact Rn.sb_dr l t m s h) _ _ (by rw[hs1];exact fun _=>rfl)
 have hgr:∀ j,(S j).e=0→(Tm.sizes (O j):Int)+(S j).left≤left-1∧∀ u∈O j,Bnd B u:=fun j h0=>by
  have h:=Sb.seq_grow (B:=B) (g:=g) (a.take j) (fun t ht s hs h=>by rw[hgx] at h ⊢;exact Sb.grow l (fun p hp=>(hlx p hp).1) t (b3 t (List.mem_of_mem_take ht)) m s hs h) (fun t ht s hs=>by rw[hgx];exact YQ l t m s hs) s1 hi1 (by rw[hS];exact h0)
  rw[hO,hS,hs1] at h
  exact⟨h.2.1,h.2.2⟩
 have hSe:∀ j,j≤a.length→(S j).e≠0→S a.length=S j:=fun j hj h=>by
  have e:a=a.take j++a.drop j:=(List.take_append_drop j a).symm
  rw[←hSa,←hS]
  conv=>lhs;rw[e]
  rw[Nm.seqM_append]
  exact Rn.seqM_e (fun t s h=>by rw[hgx,Rn.sb_e l t m h]) _ (by rw[hS];exact h)
 have hq:Nm.seqM g a s1=(O a.length,S a.length):=Prod.ext hOa hSa
 rw[hq] at hth
 dsimp only at hth
 obtain⟨p,hp⟩:∃ p,Sb.through l (.mk bs k i a) ins ⟨left,false,count,0⟩=p:=⟨_,rfl⟩
 rw[hp] at hth ⊢
 clear hp hq hOa hSa
 obtain⟨A,hA⟩:∃ A,O a.length=A:=⟨_,rfl⟩
 obtain⟨s2,hs2⟩:∃ s2,S a.length=s2:=⟨_,rfl⟩
 have hAl:A.length=a.length:=by rw[←hA];exact hOl _ (Nat.le_refl _)
 rw[hA,hs2] at hth
 obtain⟨R,hR⟩:∃ R:Tm→Tm×Nm.St,∀ u,Nm.Put (Nm.lift m u 0) A s2.left false=R u:=⟨_,fun _=>rfl⟩
 obtain⟨Z,hZ⟩:∃ Z:Tm,Z=if s2.e≠0 then Nm.tz else if k≠2 then .mk bs k i A else match Sb.find l i with | none=>.mk bs k i A | some u=>if u.binds.length≠A.length then Nm.tz else .mk bs (R u).1.kind (R u).1.index (R u).1.args:=⟨_,rfl⟩
 have hpe:s2.e≠0→p.2=s2∧Z=Nm.tz:=fun h=>by
  rw[if_pos (.inr h)] at hth;rw[if_pos h] at hZ
  exact⟨by rw[hth],hZ⟩
 have hpk:s2.e=0→k≠2→p.2=s2∧Z=.mk bs k i A∧p.1=Z:=fun h hk=>by
  rw[if_pos (.inl hk)] at hth;rw[if_neg (fun h'=>h' h),if_pos hk] at hZ
  exact⟨by rw[hth],hZ,by rw[hth,hZ]⟩
 have hpn:s2.e=0→k=2→Sb.find l i=none→p.2=s2∧Z=.mk bs k i A∧p.1=Z:=fun h hk hf=>by
  rw[if_neg (fun h'=>h'.elim (fun h'=>h' hk) fun h'=>h' h),hf] at hth;rw[if_neg (fun h'=>h' h),if_neg (fun h'=>h' hk),hf] at hZ
  exact⟨by rw[hth],hZ,by rw[hth,hZ]⟩
 have hps:∀ u,s2.e=0→k=2→Sb.find l i=some u→(u.binds.length≠A.length→p.2.left=s2.left∧p.2.e=1∧Z=Nm.tz) ∧
   (u.binds.length=A.length→p.2.left=(R u).2.left∧p.2.e=(R u).2.e∧Z=.mk bs (R u).1.kind (R u).1.index (R u).1.args∧((R u).2.e=0→p.1=Z)):=fun u h hk hf=>by
  rw[if_neg (fun h'=>h'.elim (fun h'=>h' hk) fun h'=>h' h),hf] at hth;rw[if_neg (fun h'=>h' h),if_neg (fun h'=>h' hk),hf] at hZ
  dsimp only at hth hZ
  have hdry:s2.dry=false:=by rw[←hs2];exact hSd _ (by rw[hs2];exact h)
  rw[Fh,hdry,hR] at hth
  refine⟨fun hn=>?_,fun hn=>?_⟩
  ·rw[if_pos hn] at hth hZ
   exact⟨by rw[hth],by rw[hth],hZ⟩
  ·rw[if_neg (fun h=>h hn)] at hth hZ
   by_cases hr:(R u).2.e=0
   ·rw[if_neg (fun h'=>h' hr)] at hth
    exact⟨by rw[hth],by rw[hth];exact h.trans hr.symm,hZ,fun _=>by rw[hth,hZ]⟩
   ·rw[if_pos hr] at hth
    exact⟨by rw[hth],by rw[hth],hZ,fun h'=>absurd h' hr⟩
 refine⟨Z,fun h=>?_,?_⟩
 ·by_cases h2:s2.e=0
  ·by_cases hk:k=2
   ·cases hf:Sb.find l i with
    | none=>exact(hpn h2 hk hf).2.2.symm
    | some u=>
     by_cases hn:u.binds.length=A.length
     ·obtain⟨q1,q2,q3,q4⟩:=(hps u h2 hk hf).2 hn
      exact(q4 (by rw[←q2];exact h)).symm
     ·have:=((hps u h2 hk hf).1 hn).2.1
      rw[this] at h;exact absurd h (by decide)
   ·exact(hpk h2 hk).2.2.symm
  ·rw[(hpe h2).1] at h;exact absurd h h2
 have hget:=Bs l hl i
 unfold nE
 rw[Zv (.mk bs k i a)]
 dsimp only[Tm.binds,Tm.kind,Tm.index,Tm.args]
 refine Zm 1 138 [ResultVar.cell 8 31] Za Tryz.func93 rfl Tryz.ntmps93 rfl fun cx hnt hn0=>?_
 ·skip
  refine Zz ?_;refine Zx [] Za hnt fun _ z9=>z9 _ _ ?_;refine Zz ?_;refine Zz ?_;refine Zx [(22,.v (.bool true)),(28,.v (.bool false))] Za hnt fun K hK=>?_;refine And.intro (XU rfl) ?_;refine And.intro (XT hl0) ?_;refine hK _ _ ?_;clear hK K;refine Zy (t:=false) rfl ?_;rw[if_neg (by simp)];refine Zw ?_;refine Zz ?_
  refine Zz ?_;refine Zx [(37,.v (.bool false))] Za hnt fun K hK=>?_;refine And.intro (Yy rfl) ?_;refine hK _ _ ?_;clear hK K;refine Zy (t:=false) rfl ?_;rw[if_neg (by simp)];refine Zw ?_;refine Zz ?_;refine Zx [(43,.v (.int .i64 ((left-1))))] Za hnt fun K hK=>?_;refine And.intro (Zq (by exact IntWalk.i64_in _ (by omega))) ?_;refine hK _ _ ?_;clear hK K
  refine Zz ?_;refine Zx [(49,.v (.int .i64 (↑bs.length))),(50,.v (.int .i64 (m)))] Za hnt fun K hK=>?_;refine And.intro (Zq (by rw[Zr])) ?_;refine And.intro (Zq (by exact hm')) ?_;refine hK _ _ ?_;clear hK K;refine Zz ?_;refine Zx [] Za hnt fun _ z9=>z9 _ _ ?_
  refine DW.vs (VS.row (k:=39) (off:=3) 31 4 rfl) ?_
  refine Zz ?_;refine Zz ?_;refine Zx [] Za hnt fun _ z9=>z9 _ _ ?_;refine Zt ?_
  refine Z4 (ι:={ j:Nat // j≤a.length∧(S j).e=0 }) (fun j=>[(.t 11,.v (.int .i64 ↑j.1)),(.t 0,.p 0 0),(.t 1,.sl 5 (Z1 l) none),(.t 6,.p 1 0),(.t 8,.p 2 0),(.t 9,.v (.int .i64 m)),(.t 10,.p 39 0),(.c 1 0,.sl 2 (eTys bs) none),(.c 1 1,.v (.int .i64 k)),(.c 1 2,.v (.int .i64 i)),(.c 1 3,.sl 4 (eTms a) none),(.c 2 0,.v (.slice none 0 0)),(.c 2 1,.v (.int .i64 0)),(.c 2 2,.v (.int .i64 0)),(.c 2 3,.v (.slice none 0 0)),(.c 39 0,.sl 2 (eTys bs) none),(.c 39 1,.v (.int .i64 k)),(.c 39 2,.v (.int .i64 i)),(.c 39 3,.sl 4 (eTms (O j.1)) (some 41)),(.r 41,.rw 31 4 (O j.1).length),(.c 0 0,.v (.int .i64 (S j.1).left)),(.c 0 1,.v (.int .i64 (S j.1).e))]) 43 (fun j=>a.length-j.1) (⟨0,Nat.zero_le _,by rw[hS0,hs1]⟩) ((by dsimp only;rw[hO0,hS0,hs1];exact VS.toA)) fun j=>?_
  obtain⟨j,hj,hje⟩:=j
  dsimp only
  by_cases hlt:j<a.length
  ·have hmem:a[j]∈a:=List.getElem_mem hlt
   obtain⟨z,hz1,hz2⟩:=ih a[j] hmem (b3 _ hmem) (w3 _ hmem) m (S j) ⟨(hSi j).1,by have:=(hgr j hje).1;omega⟩ (hSd j)
   obtain⟨r,hr⟩:∃ r,Sb.through l a[j] m (S j)=r:=⟨_,rfl⟩
   have hSj:S (j+1)=r.2:=by rw[hSn j hlt,hgx,hr]
   rw[hr,←hSj] at hz1 hz2
   have hOj:O (j+1)=O j++[r.1]:=by rw[hOn j hlt,hgx,hr]
   unfold nE at hz2
   rw[Zv a[j]] at hz2
   have hel:=ZX a j hlt
   rw[Zv] at hel
   by_cases hre:(S (j+1)).e=0
   ·have hz1:=hz1 hre
    subst hz1
    rw[Zv] at hz2
    have hsn:eTms (O j)++[[.sl 2 (eTys r.1.binds) none,.v (.int .i64 r.1.kind),.v (.int .i64 r.1.index),.sl 4 (eTms r.1.args) none]]=eTms (O (j+1)):=by
     rw[hOj,YV,eTms,eTms,Zv]
    have hl1:(eTms (O j)).length=(O j).length:=Zs _
    have hl3:=hOl j hj
    have hl2:(eTms (O (j+1))).length=(O (j+1)).length:=Zs _
    refine Zz ?_;refine Zz ?_;refine Zx [(59,.v (.int .i64 (↑a.length))),(60,.v (.bool true))] Za hnt fun K hK=>?_;refine And.intro (Zq (by rw[Zs])) ?_;refine And.intro (ZZ (by omega)) ?_;refine hK _ _ ?_;clear hK K;refine Zy (t:=true) rfl ?_;rw[if_pos rfl];refine Zw ?_;refine Zz ?_;refine Zt ?_;refine Zz ?_;refine Zx [(68,.q [.sl 2 (eTys a[j].binds) none,.v (.int .i64 a[j].kind),.v (.int .i64 a[j].index),.sl 4 (eTms a[j].args) none])] Za hnt fun K hK=>?_
    refine And.intro (⟨by omega,by rw[Zs];omega⟩) ?_;refine And.intro (Zn.of_eq (by rw[Int.toNat_natCast,hel])) ?_;refine Ze (hz2) ?_;refine hK _ _ ?_;clear hK K;refine Zz ?_;refine Zz ?_;refine Zx [(76,.v (.bool false))] Za hnt fun K hK=>?_;refine And.intro (Yy hre) ?_;refine hK _ _ ?_;clear hK K;refine Zy (t:=false) rfl ?_;rw[if_neg (by simp)];refine Zw ?_
    refine Zx [] Za hnt fun K hK=>?_;refine And.intro (⟨by omega,by rw[hl1];simp;omega⟩) ?_;refine hK _ _ ?_;clear hK K
    rw[hsn,hl2]
    refine Zx [(62,.v (.int .i64 (↑(j+1))))] Za hnt fun K hK=>?_;refine And.intro XR ?_;refine hK _ _ ?_;clear hK K
    refine⟨⟨j+1,hlt,hre⟩,by first | omega | (dsimp only;omega),VS.toA⟩
   ·have h2:=hSe (j+1) hlt hre
    rw[hs2] at h2
    obtain⟨q1,q2⟩:=hpe (by rw[h2];exact hre)
    rw[q1,q2,h2,Xy]
    rw[Zv z] at hz2
    refine Zz ?_;refine Zz ?_;refine Zx [(59,.v (.int .i64 (↑a.length))),(60,.v (.bool true))] Za hnt fun K hK=>?_;refine And.intro (Zq (by rw[Zs])) ?_;refine And.intro (ZZ (by omega)) ?_;refine hK _ _ ?_;clear hK K;refine Zy (t:=true) rfl ?_;rw[if_pos rfl];refine Zw ?_;refine Zz ?_;refine Zt ?_;refine Zz ?_;refine Zx [(68,.q [.sl 2 (eTys a[j].binds) none,.v (.int .i64 a[j].kind),.v (.int .i64 a[j].index),.sl 4 (eTms a[j].args) none])] Za hnt fun K hK=>?_
    refine And.intro (⟨by omega,by rw[Zs];omega⟩) ?_;refine And.intro (Zn.of_eq (by rw[Int.toNat_natCast,hel])) ?_;refine Ze (hz2) ?_;refine hK _ _ ?_;clear hK K;refine Zz ?_;refine Zz ?_;refine Zx [(76,.v (.bool true))] Za hnt fun K hK=>?_;refine And.intro (Y6 hre) ?_;refine hK _ _ ?_;clear hK K;refine Zy (t:=true) rfl ?_;rw[if_pos rfl];refine Zz ?_
    refine Zx [(77,.ag [.sl 2 [] none,.v (.int .i64 0),.v (.int .i64 0),.sl 4 [] none])] Za hnt fun K hK=>?_;refine And.intro (Xl) ?_;refine hK _ _ ?_;clear hK K;refine Zu ?_
    exact Zj rfl
  ·have hja:j=a.length:=by omega
   subst hja
   have hgA:=hgr _ hje
   have hSi2:=hSi a.length
   rw[hA,hs2] at hgA
   rw[hs2] at hje hSi2
   rw[hA,hs2]
   clear hSe hSn hSi hSd hgr hOn hOl hS hO hS0 hO0 hA hs2 hth hZ
   rw[Cr] at hget
   have edx:∀ (i':Int) ,eTm (.mk bs k i' A)=[.sl 2 (eTys bs) none,.v (.int .i64 k),.v (.int .i64 i'),.sl 4 (eTms A) none]:=fun i'=>by rw[Zv];rfl
   by_cases hk:k=2
   ·cases hf:Sb.find l i with
    | none=>
     obtain⟨q1,q2,_⟩:=hpn hje hk hf
     rw[hf] at hget
     dsimp only at hget
     rw[Zv Tm.zero] at hget
     rw[q1,q2,edx]
     refine Zz ?_;refine Zz ?_;refine Zx [(59,.v (.int .i64 (↑a.length))),(60,.v (.bool false))] Za hnt fun K hK=>?_;refine And.intro (Zq (by rw[Zs])) ?_;refine And.intro (Zf (by omega)) ?_;refine hK _ _ ?_;clear hK K;refine Zy (t:=false) rfl ?_;rw[if_neg (by simp)];refine Zc ?_;refine Zz ?_;refine Zx [] Za hnt fun K hK=>?_;refine Ze (hget) ?_
     refine hK _ _ ?_;clear hK K;refine Zz ?_;refine Zz ?_;refine Zx [(95,.v (.bool false))] Za hnt fun K hK=>?_;refine And.intro (Yy hk) ?_;refine hK _ _ ?_;clear hK K;refine Zy (t:=true) rfl ?_;rw[if_pos rfl];refine Zz ?_;refine Zx [(100,.ag [.sl 2 (eTys bs) none,.v (.int .i64 k),.v (.int .i64 i),.sl 4 (eTms A) none])] Za hnt fun K hK=>?_;refine And.intro (Xl) ?_
     refine hK _ _ ?_;clear hK K;refine Zu ?_
     exact Zj rfl
    | some u=>
     rw[hf] at hget
     dsimp only at hget
     rw[Zv u] at hget
     obtain⟨hps1,hps2⟩:=hps u hje hk hf
     by_cases hn:u.binds.length=A.length
     ·obtain⟨q1,q2,q3,_⟩:=hps2 hn
      obtain⟨pu,hpu,hpe'⟩:=Bz hf
      have hux:=hlx pu hpu
      rw[hpe'] at hux
      have hUp:=Fz u hux.2.1 B hux.1 m (by omega)
      have hAs:∀ x∈A,ZB x∧Bnd B x∧x.size≤1000000000:=fun x hx=>by
       have h1:=Tm.size_mem hx
       have h2:=hgA.1
       have h3:=hSi2.1
       exact⟨Bnd.wide x (hgA.2 x hx) (by omega) (by omega),hgA.2 x hx,by omega⟩
      have hPt:=Bm hB s2.left ⟨hSi2.1,by have:=hgA.1;omega⟩ (Nm.lift m u 0) A (hux.2.1.lift m 0) (Bnd.lift u m 0 hux.1) (by rw[Sk];omega) hAs (by rw[Td];exact hn.symm)
      rw[hR] at hPt
      obtain⟨⟨⟨rb,rk,ri,ra⟩,rs⟩,hru⟩:∃ r,R u=r:=⟨_,rfl⟩
      rw[hru] at hPt q1 q2 q3
      obtain⟨v,hv⟩:∃ v,Nm.lift m u 0=v:=⟨_,rfl⟩
      rw[hv] at hUp hPt
      dsimp only at hPt q1 q2 q3
      rw[Zv u,Zv v] at hUp
      rw[Zv v,Zv] at hPt
      rw[q1,q2,q3,Zv]
      dsimp only[Tm.binds,Tm.kind,Tm.index,Tm.args] at hPt ⊢
      refine Zz ?_;refine Zz ?_;refine Zx [(59,.v (.int .i64 (↑a.length))),(60,.v (.bool false))] Za hnt fun K hK=>?_;refine And.intro (Zq (by rw[Zs])) ?_;refine And.intro (Zf (by omega)) ?_;refine hK _ _ ?_;clear hK K;refine Zy (t:=false) rfl ?_;rw[if_neg (by simp)];refine Zc ?_;refine Zz ?_;refine Zx [] Za hnt fun K hK=>?_;refine Ze (hget) ?_
      refine hK _ _ ?_;clear hK K;refine Zz ?_;refine Zz ?_;refine Zx [(95,.v (.bool false))] Za hnt fun K hK=>?_;refine And.intro (Yy hk) ?_;refine hK _ _ ?_;clear hK K;refine Zy (t:=false) rfl ?_;rw[if_neg (by simp)];refine Zw ?_;refine Zz ?_;refine Zz ?_;refine Zx [(103,.v (.int .i64 (↑u.binds.length))),(106,.v (.int .i64 (↑A.length))),(107,.v (.bool false))] Za hnt fun K hK=>?_
      refine And.intro (Zq (by rw[Zr])) ?_;refine And.intro (Zq (by rw[Zs])) ?_;refine And.intro (Yy (by omega)) ?_;refine hK _ _ ?_;clear hK K;refine Zy (t:=false) rfl ?_;rw[if_neg (by simp)];refine Zw ?_;refine Zz ?_;refine ZP [(117,.sl 4 (eTms A) none)] Za hnt fun K hK=>?_;refine Ze (hUp) ?_;refine And.intro ((Zn.untag _ _ _)) ?_;refine Ze (hPt) ?_
      refine hK _ _ (by kernel_rfl) ?_;clear hK K;refine Zz ?_;refine Zx [] Za hnt fun _ z9=>z9 _ _ ?_;refine Zz ?_;refine Zx [] Za hnt fun _ z9=>z9 _ _ ?_;refine Zz ?_;refine Zx [] Za hnt fun _ z9=>z9 _ _ ?_;refine Zu ?_
      exact Zj rfl
     ·obtain⟨q1,q2,q3⟩:=hps1 hn
      rw[q1,q2,q3,Xy]
      refine Zz ?_;refine Zz ?_;refine Zx [(59,.v (.int .i64 (↑a.length))),(60,.v (.bool false))] Za hnt fun K hK=>?_;refine And.intro (Zq (by rw[Zs])) ?_;refine And.intro (Zf (by omega)) ?_;refine hK _ _ ?_;clear hK K;refine Zy (t:=false) rfl ?_;rw[if_neg (by simp)];refine Zc ?_;refine Zz ?_;refine Zx [] Za hnt fun K hK=>?_;refine Ze (hget) ?_
      refine hK _ _ ?_;clear hK K;refine Zz ?_;refine Zz ?_;refine Zx [(95,.v (.bool false))] Za hnt fun K hK=>?_;refine And.intro (Yy hk) ?_;refine hK _ _ ?_;clear hK K;refine Zy (t:=false) rfl ?_;rw[if_neg (by simp)];refine Zw ?_;refine Zz ?_;refine Zz ?_;refine Zx [(103,.v (.int .i64 (↑u.binds.length))),(106,.v (.int .i64 (↑A.length))),(107,.v (.bool true))] Za hnt fun K hK=>?_
      refine And.intro (Zq (by rw[Zr])) ?_;refine And.intro (Zq (by rw[Zs])) ?_;refine And.intro (Y6 (by omega)) ?_;refine hK _ _ ?_;clear hK K;refine Zy (t:=true) rfl ?_;rw[if_pos rfl];refine Zz ?_;refine Zx [] Za hnt fun _ z9=>z9 _ _ ?_;refine Zz ?_;refine Zx [(111,.ag [.sl 2 [] none,.v (.int .i64 0),.v (.int .i64 0),.sl 4 [] none])] Za hnt fun K hK=>?_
      refine And.intro (Xl) ?_;refine hK _ _ ?_;clear hK K;refine Zu ?_
      exact Zj rfl
   ·obtain⟨q1,q2,_⟩:=hpk hje hk
    rw[q1,q2,edx]
    rw[Zv] at hget
    refine Zz ?_;refine Zz ?_;refine Zx [(59,.v (.int .i64 (↑a.length))),(60,.v (.bool false))] Za hnt fun K hK=>?_;refine And.intro (Zq (by rw[Zs])) ?_;refine And.intro (Zf (by omega)) ?_;refine hK _ _ ?_;clear hK K;refine Zy (t:=false) rfl ?_;rw[if_neg (by simp)];refine Zc ?_;refine Zz ?_;refine Zx [] Za hnt fun K hK=>?_;refine Ze (hget) ?_
    refine hK _ _ ?_;clear hK K;refine Zz ?_;refine Zz ?_;refine Zx [(95,.v (.bool true))] Za hnt fun K hK=>?_;refine And.intro (Y6 hk) ?_;refine hK _ _ ?_;clear hK K;refine Zy (t:=true) rfl ?_;rw[if_pos rfl];refine Zz ?_;refine Zx [(100,.ag [.sl 2 (eTys bs) none,.v (.int .i64 k),.v (.int .i64 i),.sl 4 (eTms A) none])] Za hnt fun K hK=>?_;refine And.intro (Xl) ?_
    refine hK _ _ ?_;clear hK K;refine Zu ?_
    exact Zj rfl
set_option maxHeartbeats 4000000 in
theorem Sq {B:Nat}(hB:B≤170)(l:List (Int×Tm))(hl:l.length≤900000)(hlx:∀ p∈l,Bnd B p.2∧ZB p.2∧p.2.full≤1000000000)(t:Tm)(ht:Bnd B t)(hw:ZB t)(left:Int)(hin:0≤left∧left≤100000):
  Zd Tryz.prog 59 [.sl 5 (Z1 l) none,.ag (eTm t),.v (.int .i64 left)] (.tu [.ag (eTm (Sb.apply l t left false).1),.v (.int .i64 (Sb.apply l t left false).2.left),.v (.int .i64 (Sb.apply l t left false).2.e)]):=by
 have hr:=Fw l (by omega)
 cases hrl:Sb.right l with
 | false=>
  rw[hrl] at hr
  have ha:Sb.apply l t left false=(Nm.tz,⟨left,false,0,1⟩):=if_pos hrl
  rw[ha,Xy,Zv]
  dsimp only
  refine Zm 0 55 [ResultVar.cell 6 31,ResultVar.tmp 7,ResultVar.tmp 8] Za Tryz.func59 rfl Tryz.ntmps59 rfl fun cx hnt hn0=>?_
  ·skip
   refine Zz ?_;refine Zx [] Za hnt fun _ z9=>z9 _ _ ?_;refine Zz ?_;refine Zz ?_;refine Zx [] Za hnt fun K hK=>?_;refine Ze (hr) ?_;refine hK _ _ ?_;clear hK K;refine Zy (t:=true) rfl ?_;rw[if_pos rfl];refine Zz ?_;refine Zx [(14,.ag [.sl 2 [] none,.v (.int .i64 0),.v (.int .i64 0),.sl 4 [] none])] Za hnt fun K hK=>?_
   refine And.intro (Xl) ?_;refine hK _ _ ?_;clear hK K;refine Zu ?_
   exact Zj rfl
 | true=>
  rw[hrl] at hr
  obtain⟨z,hz1,hz2⟩:=DK hB l hl hlx t ht hw 0 ⟨left,false,0,0⟩ hin (fun _=>rfl)
  have hgr:=Sb.grow l (fun p hp=>(hlx p hp).1) t ht 0 ⟨left,false,0,0⟩ ⟨hin.1,by show left≤1000000000;omega⟩
  have hii:=YQ l t 0 ⟨left,false,0,0⟩ ⟨hin.1,by show left≤1000000000;omega⟩
  have ha:Sb.apply l t left false=(fun r:Tm×Nm.St=>(fun s:Nm.St=>if s.e≠0 then (Nm.tz,s) else (r.1,s)) (if r.2.e=0∧¬ (r.1.size≤5000∧r.1.depth≤60) then { r.2 with e:=2 } else r.2)) (Sb.through l t 0 ⟨left,false,0,0⟩):=by
   unfold Sb.apply
   rw[if_neg (by simp[hrl])]
  obtain⟨r,hr0⟩:∃ r,Sb.through l t 0 ⟨left,false,0,0⟩=r:=⟨_,rfl⟩
  rw[hr0] at hz1 hz2 hgr hii ha
  clear hr0
  obtain⟨x,sl,sd,sc,se⟩:=r
  dsimp only at hz1 hgr ha
  have hz3:=hz2.ren (fun _=>9) (by simp[nE,Vq,D.ok,D.oks,ZQ,YF,XC,Y5,Yk,Yw,Yb]) (by intro k h1 k' h2 _;simp[nE,ZQ] at h1 h2;rw[h1,h2])
  clear hz2
  unfold nE at hz3
  simp only[List.map_cons,List.map_nil,D.ren,D.rens,Wy,Key.ren,WK,Vj,WI] at hz3
  rw[Zv t] at hz3 ⊢
  by_cases he:se=0
  ·subst he
   have hz1:=hz1 rfl
   subst hz1
   obtain⟨_,g2,_⟩:=hgr rfl
   have hsz:z.size≤1000000:=by have:=hii.1;dsimp only at this;omega
   have hR:=Uo z hsz
   cases hrt:Li.rt z with
   | true=>
    rw[hrt] at hR
    have hd:z.size≤5000∧z.depth≤60:=of_decide_eq_true hrt
    rw[if_neg (show ¬ ((0:Int)=0∧¬ (z.size≤5000∧z.depth≤60)) from fun h=>h.2 hd)] at ha
    dsimp only at ha
    rw[if_neg (show ¬ (0:Int)≠0 from fun h=>h rfl)] at ha
    rw[ha]
    dsimp only
    rw[Zv z] at hz3 hR ⊢
    refine Zm 0 55 [ResultVar.cell 6 31,ResultVar.tmp 7,ResultVar.tmp 8] Za Tryz.func59 rfl Tryz.ntmps59 rfl fun cx hnt hn0=>?_
    ·skip
     refine Zz ?_;refine Zx [] Za hnt fun _ z9=>z9 _ _ ?_;refine Zz ?_;refine Zz ?_;refine Zx [] Za hnt fun K hK=>?_;refine Ze (hr) ?_;refine hK _ _ ?_;clear hK K;refine Zy (t:=false) rfl ?_;rw[if_neg (by simp)];refine Zw ?_;refine Zz ?_;refine Zx [] Za hnt fun _ z9=>z9 _ _ ?_;refine Zz ?_
     refine Zx [] Za hnt fun K hK=>?_;refine Ze (hz3) ?_;refine hK _ _ ?_;clear hK K;refine Zz ?_;refine Zz ?_;refine Zx [(27,.v (.bool true))] Za hnt fun K hK=>?_;refine And.intro (XU rfl) ?_;refine Ze (hR) ?_;refine hK _ _ ?_;clear hK K;refine Zy (t:=false) rfl ?_;rw[if_neg (by simp)];refine Zw ?_;refine Zz ?_;refine Zz ?_;refine Zx [(40,.v (.bool false))] Za hnt fun K hK=>?_
     refine And.intro (Yy rfl) ?_;refine hK _ _ ?_;clear hK K;refine Zy (t:=false) rfl ?_;rw[if_neg (by simp)];refine Zw ?_;refine Zz ?_;refine ZP [] Za hnt fun K hK=>?_;refine hK _ _ (by kernel_rfl) ?_;clear hK K;refine Zu ?_
     exact Zj rfl
   | false=>
    rw[hrt] at hR
    have hd:¬ (z.size≤5000∧z.depth≤60):=of_decide_eq_false hrt
    rw[if_pos (show (0:Int)=0∧¬ (z.size≤5000∧z.depth≤60) from ⟨rfl,hd⟩)] at ha
    dsimp only at ha
    rw[if_pos (show (2:Int)≠0 by decide)] at ha
    rw[ha,Xy]
    dsimp only
    rw[Zv z] at hz3 hR
    refine Zm 0 55 [ResultVar.cell 6 31,ResultVar.tmp 7,ResultVar.tmp 8] Za Tryz.func59 rfl Tryz.ntmps59 rfl fun cx hnt hn0=>?_
    ·skip
     refine Zz ?_;refine Zx [] Za hnt fun _ z9=>z9 _ _ ?_;refine Zz ?_;refine Zz ?_;refine Zx [] Za hnt fun K hK=>?_;refine Ze (hr) ?_;refine hK _ _ ?_;clear hK K;refine Zy (t:=false) rfl ?_;rw[if_neg (by simp)];refine Zw ?_;refine Zz ?_;refine Zx [] Za hnt fun _ z9=>z9 _ _ ?_;refine Zz ?_
     refine Zx [] Za hnt fun K hK=>?_;refine Ze (hz3) ?_;refine hK _ _ ?_;clear hK K;refine Zz ?_;refine Zz ?_;refine Zx [(27,.v (.bool true))] Za hnt fun K hK=>?_;refine And.intro (XU rfl) ?_;refine Ze (hR) ?_;refine hK _ _ ?_;clear hK K;refine Zy (t:=true) rfl ?_;rw[if_pos rfl];refine Zx [] Za hnt fun _ z9=>z9 _ _ ?_;refine Zz ?_
     refine Zz ?_;refine Zx [(40,.v (.bool true))] Za hnt fun K hK=>?_;refine And.intro (Y6 (by decide)) ?_;refine hK _ _ ?_;clear hK K;refine Zy (t:=true) rfl ?_;rw[if_pos rfl];refine Zz ?_;refine ZP [(41,.ag [.sl 2 [] none,.v (.int .i64 0),.v (.int .i64 0),.sl 4 [] none])] Za hnt fun K hK=>?_;refine And.intro (Xl) ?_;refine hK _ _ (by kernel_rfl) ?_;clear hK K
     refine Zu ?_
     exact Zj rfl
  ·rw[if_neg (show ¬ (se=0∧¬ (x.size≤5000∧x.depth≤60)) from fun h=>he h.1)] at ha
   dsimp only at ha
   rw[if_pos he] at ha
   rw[ha,Xy]
   dsimp only
   rw[Zv z] at hz3
   refine Zm 0 55 [ResultVar.cell 6 31,ResultVar.tmp 7,ResultVar.tmp 8] Za Tryz.func59 rfl Tryz.ntmps59 rfl fun cx hnt hn0=>?_
   ·skip
    refine Zz ?_;refine Zx [] Za hnt fun _ z9=>z9 _ _ ?_;refine Zz ?_;refine Zz ?_;refine Zx [] Za hnt fun K hK=>?_;refine Ze (hr) ?_;refine hK _ _ ?_;clear hK K;refine Zy (t:=false) rfl ?_;rw[if_neg (by simp)];refine Zw ?_;refine Zz ?_;refine Zx [] Za hnt fun _ z9=>z9 _ _ ?_;refine Zz ?_
    refine Zx [] Za hnt fun K hK=>?_;refine Ze (hz3) ?_;refine hK _ _ ?_;clear hK K;refine Zz ?_;refine Zz ?_;refine Zx [(27,.v (.bool false))] Za hnt fun K hK=>?_;refine And.intro (XT he) ?_;refine hK _ _ ?_;clear hK K;refine Zy (t:=false) rfl ?_;rw[if_neg (by simp)];refine Zw ?_;refine Zz ?_;refine Zz ?_;refine Zx [(40,.v (.bool true))] Za hnt fun K hK=>?_
    refine And.intro (Y6 he) ?_;refine hK _ _ ?_;clear hK K;refine Zy (t:=true) rfl ?_;rw[if_pos rfl];refine Zz ?_;refine ZP [(41,.ag [.sl 2 [] none,.v (.int .i64 0),.v (.int .i64 0),.sl 4 [] none])] Za hnt fun K hK=>?_;refine And.intro (Xl) ?_;refine hK _ _ (by kernel_rfl) ?_;clear hK K;refine Zu ?_
    exact Zj rfl
def TRSA_31:TI:=⟨4,true,[Value.slice none 0 0,Value.int IntKind.i64 0,Value.int IntKind.i64 0,Value.slice none 0 0],[(0,1,false),(1,2,true),(3,1,false)],none,64,6,none,false⟩
theorem Nx:TypOk Tryz.prog 31 TRSA_31:=by constructor <;> kernel_rfl
def TRSA_29:TI:=⟨1,false,[Value.slice none 0 0],[],some 31,24,5,none,false⟩
theorem Nw:TypOk Tryz.prog 29 TRSA_29:=by constructor <;> kernel_rfl
def TRSA_3:TI:=⟨1,false,[Value.int IntKind.i64 0],[],none,8,2,none,false⟩
theorem IX:TypOk Tryz.prog 3 TRSA_3:=by constructor <;> kernel_rfl
def TRSA_71:TI:=⟨1,false,[Value.slice none 0 0],[],some 3,24,5,none,false⟩
theorem Ny:TypOk Tryz.prog 71 TRSA_71:=by constructor <;> kernel_rfl
def TRSA_28:TI:=⟨2,true,[Value.int IntKind.i64 0,Value.int IntKind.i64 0],[(0,1,false),(1,1,false)],none,16,6,none,true⟩
theorem Nv:TypOk Tryz.prog 28 TRSA_28:=by constructor <;> kernel_rfl
def TRSA_22:TI:=⟨1,false,[Value.slice none 0 0],[],some 104,24,5,none,false⟩
theorem Nu:TypOk Tryz.prog 22 TRSA_22:=by constructor <;> kernel_rfl
def TRSA_104:TI:=⟨2,true,[Value.slice none 0 0,Value.int IntKind.i64 0],[(0,1,false),(1,1,false)],none,32,6,none,false⟩
theorem Q6:TypOk Tryz.prog 104 TRSA_104:=by constructor <;> kernel_rfl
def TRSA:List (Nat×TI):=[(31,TRSA_31),(29,TRSA_29),(3,TRSA_3),(71,TRSA_71),(28,TRSA_28),(22,TRSA_22),(104,TRSA_104)]
theorem Yo:Zh Tryz.prog TRSA:=((((((((Zh.nil _).cons Q6).cons Nu).cons Nv).cons Ny).cons IX).cons Nw).cons Nx)
theorem Zb3 (b:List Ty)(k i:Int)(a:List Tm):(Tm.mk b k i a).binds=b:=rfl
theorem Zb1 (b:List Ty)(k i:Int)(a:List Tm):(Tm.mk b k i a).kind=k:=rfl
theorem Zb2 (b:List Ty)(k i:Int)(a:List Tm):(Tm.mk b k i a).index=i:=rfl
theorem Zb4 (b:List Ty)(k i:Int)(a:List Tm):(Tm.mk b k i a).args=a:=rfl
theorem TN:∀ (p:List Int) (t b:Tm) (r:Tm×List Ty),Pn.atP p t=some r→∃ o,Au.replP p t b=some o
 | [],t,b,r,h=>⟨_,rfl⟩
 | j :: p,t,b,r,h=>by
  rw[Pn.atP] at h
  rw[Au.replP]
  by_cases hj:0≤j∧j<(t.args.length:Int)
  ·rw[if_pos hj] at h ⊢
   cases ht:Pn.atP p (t.args.getD j.toNat Tm.zero) with
   | none=>rw[ht] at h;cases h
   | some q=>
    obtain⟨o,ho⟩:=TN p _ b q ht
    rw[ho];exact⟨_,rfl⟩
  ·rw[if_neg hj] at h;cases h
set_option maxHeartbeats 4000000 in
theorem K3:∀ (p:List Int) (t b o:Tm),Au.replP p t b=some o→p.length≤100000→ZB t→Zd Tryz.prog 60 [.ag (eTm t),.ag (eTm b),.sl 1 (Y4 p) none] (.ag (eTm o))
 | [],t,b,o,h,hp,hw=>by
  rw[Au.replP] at h
  cases h
  rw[Zv t,Zv b,Zv]
  dsimp only[Tm.binds,Tm.kind,Tm.index,Tm.args]
  refine Zm 0 54 [ResultVar.cell 6 31] Yo Tryz.func60 rfl Tryz.ntmps60 rfl fun cx hnt hn0=>?_
  ·skip
   refine Zz ?_;refine Zx [] Yo hnt fun _ z9=>z9 _ _ ?_;refine Zz ?_;refine Zx [] Yo hnt fun _ z9=>z9 _ _ ?_;refine Zz ?_;refine Zz ?_;refine Zx [(19,.v (.bool true))] Yo hnt fun K hK=>?_;refine And.intro (Zn.refl _) ?_;refine hK _ _ ?_;clear hK K;refine Zy (t:=true) rfl ?_;rw[if_pos rfl];refine Zz ?_
   refine Zx [] Yo hnt fun _ z9=>z9 _ _ ?_;refine Zu ?_
   exact Zj rfl
 | j :: q,t,b,o,h,hp,hw=>by
  rw[Au.replP] at h
  by_cases hc:0≤j∧j<(t.args.length:Int)
  ·rw[if_pos hc] at h
   obtain⟨n,hn⟩:∃ n:Nat,j=n:=⟨j.toNat,by omega⟩
   subst hn
   rw[Int.toNat_natCast] at h
   have hlt:n<t.args.length:=by omega
   rw[List.getD_eq_getElem?_getD,List.getElem?_eq_getElem hlt,Option.getD_some] at h
   cases hx:Au.replP q t.args[n] b with
   | none=>rw[hx] at h;cases h
   | some x=>
    rw[hx] at h
    have h:=Option.some.inj h
    obtain⟨tb,tk,ti,ta⟩:=t
    obtain⟨w1,w2,w3⟩:=hw.inv
    dsimp only[Tm.binds,Tm.kind,Tm.index,Tm.args] at *
    obtain⟨y,hy⟩:∃ y,ta[n]=y:=⟨_,rfl⟩
    have hih:=K3 q y b x (by rw[←hy];exact hx) (by simp at hp;omega) (w3 _ (hy ▸ List.getElem_mem hlt))
    obtain⟨A,hA⟩:∃ A,ta.set n x=A:=⟨_,rfl⟩
    have hAl:A.length=ta.length:=by rw[←hA,List.length_set]
    rw[hA] at h
    subst h
    obtain⟨O,hO⟩:∃ O:Nat→List Tm,∀ i,A.take i=O i:=⟨_,fun _=>rfl⟩
    have hO0:O 0=[]:=by rw[←hO];rfl
    have hOn:∀ i (h:i<A.length),O i++[A[i]]=O (i+1):=fun i h=>by rw[←hO,←hO,List.take_add_one,List.getElem?_eq_getElem h];rfl
    have hOl:∀ i,i≤A.length→(O i).length=i:=fun i h=>by rw[←hO,List.length_take];omega
    have hOm:O ta.length=A:=by rw[←hO,←hAl,List.take_length]
    have hAx:∀ i (h:i<A.length),A[i]=if n=i then x else ta[i]:=fun i h=>by
     subst hA;rw[List.getElem_set]
    rw[←hOm,Zv (.mk tb tk ti ta),Zv b,Zv (.mk tb tk ti _)]
    rw[Zv y,Zv b,Zv x] at hih
    simp only[Zb3,Zb1,Zb2,Zb4]
    refine Zm 0 54 [ResultVar.cell 6 31] Yo Tryz.func60 rfl Tryz.ntmps60 rfl fun cx hnt hn0=>?_
    ·skip
     refine Zz ?_;refine Zx [] Yo hnt fun _ z9=>z9 _ _ ?_;refine Zz ?_;refine Zx [] Yo hnt fun _ z9=>z9 _ _ ?_;refine Zz ?_;refine Zz ?_;refine Zx [(18,.v (.int .i64 (↑(q.length+1)))),(19,.v (.bool false))] Yo hnt fun K hK=>?_;refine And.intro (Zq (by rw[Zi];rfl)) ?_;refine And.intro (XT (by omega)) ?_
     refine hK _ _ ?_;clear hK K;refine Zy (t:=false) rfl ?_;rw[if_neg (by simp)];refine Zw ?_;refine Zz ?_;refine Zx [] Yo hnt fun _ z9=>z9 _ _ ?_;refine Zz ?_;refine Zx [] Yo hnt fun _ z9=>z9 _ _ ?_
     refine DW.vs (VS.row (k:=10) (off:=3) 31 4 rfl) ?_
     refine Zz ?_;refine Zz ?_;refine Zx [] Yo hnt fun _ z9=>z9 _ _ ?_;refine Zt ?_
     refine Z4 (ι:={ j:Nat // j≤ta.length }) (fun j=>[(.t 8,.v (.int .i64 ↑j.1)),(.t 2,.sl 1 (Y4 (↑n :: q)) none),(.t 3,.p 0 0),(.t 4,.p 1 0),(.t 6,.p 2 0),(.t 7,.p 10 0),(.c 0 0,.sl 2 (eTys tb) none),(.c 0 1,.v (.int .i64 tk)),(.c 0 2,.v (.int .i64 ti)),(.c 0 3,.sl 4 (eTms ta) none),(.c 1 0,.sl 2 (eTys b.binds) none),(.c 1 1,.v (.int .i64 b.kind)),(.c 1 2,.v (.int .i64 b.index)),(.c 1 3,.sl 4 (eTms b.args) none),(.c 2 0,.v (.slice none 0 0)),(.c 2 1,.v (.int .i64 0)),(.c 2 2,.v (.int .i64 0)),(.c 2 3,.v (.slice none 0 0)),(.c 10 0,.sl 2 (eTys tb) none),(.c 10 1,.v (.int .i64 tk)),(.c 10 2,.v (.int .i64 ti)),(.c 10 3,.sl 4 (eTms (O j.1)) (some 21)),(.r 21,.rw 31 4 (O j.1).length)]) 23 (fun j=>ta.length-j.1) (⟨0,Nat.zero_le _⟩) ((by dsimp only;rw[hO0];exact VS.toA)) fun j=>?_
     obtain⟨j,hj⟩:=j
     dsimp only
     by_cases hl2:j<ta.length
     ·have hj2:j<A.length:=by omega
      have hax:=hAx j hj2
      have hel:=ZX ta j hl2
      have hl1:(eTms (O j)).length=(O j).length:=Zs _
      have hl3:=hOl j (by omega)
      have hl4:(eTms (O (j+1))).length=(O (j+1)).length:=Zs _
      by_cases hjn:j=n
      ·subst hjn
       rw[if_pos rfl] at hax
       have hel:(eTms ta).getD j []=eTm y:=by rw[←hy];exact ZX ta j hl2
       rw[Zv] at hel
       have hsn:eTms (O j)++[[.sl 2 (eTys x.binds) none,.v (.int .i64 x.kind),.v (.int .i64 x.index),.sl 4 (eTms x.args) none]]=eTms (O (j+1)):=by rw[←hOn j hj2,YV,eTms,eTms,hax,Zv]
       refine Zz ?_;refine Zz ?_;refine Zx [(28,.v (.int .i64 (↑ta.length))),(29,.v (.bool true))] Yo hnt fun K hK=>?_;refine And.intro (Zq (by rw[Zs])) ?_;refine And.intro (ZZ (by omega)) ?_;refine hK _ _ ?_;clear hK K;refine Zy (t:=true) rfl ?_;rw[if_pos rfl];refine Zw ?_;refine Zz ?_;refine Zt ?_;refine Zz ?_;refine Zx [(35,.q [.sl 2 (eTys y.binds) none,.v (.int .i64 y.kind),.v (.int .i64 y.index),.sl 4 (eTms y.args) none])] Yo hnt fun K hK=>?_
       refine And.intro (⟨by omega,by rw[Zs];omega⟩) ?_;refine And.intro (Zn.of_eq (by rw[Int.toNat_natCast,hel])) ?_;refine hK _ _ ?_;clear hK K;refine Zz ?_;refine Zz ?_;refine Zx [(39,.q [.v (.int .i64 ↑j)]),(41,.v (.bool true))] Yo hnt fun K hK=>?_;refine And.intro (⟨by omega,by rw[Zi,List.length_cons];omega⟩) ?_;refine And.intro (Zn.of_eq (by simp[Y4])) ?_
       refine And.intro (XU rfl) ?_;refine hK _ _ ?_;clear hK K;refine Zy (t:=true) rfl ?_;rw[if_pos rfl];refine ZP [(45,.sl 1 (Y4 q) none)] Yo hnt fun K hK=>?_;refine And.intro (⟨by decide,by rw[Zi];simp;omega⟩) ?_;refine And.intro (Zn.of_eq (by simp[Y4,List.take_of_length_le])) ?_;refine Ze (hih) ?_;refine hK _ _ (by kernel_rfl) ?_;clear hK K;refine Zx [] Yo hnt fun K hK=>?_
       refine And.intro (⟨by omega,by rw[hl1];simp;omega⟩) ?_;refine hK _ _ ?_;clear hK K
       rw[hsn,hl4]
       refine Zx [(31,.v (.int .i64 (↑(j+1))))] Yo hnt fun K hK=>?_;refine And.intro XR ?_;refine hK _ _ ?_;clear hK K
       refine⟨⟨j+1,hl2⟩,by first | omega | (dsimp only;omega),VS.toA⟩
      ·rw[if_neg (fun e=>hjn e.symm)] at hax
       obtain⟨u,hu⟩:∃ u,ta[j]=u:=⟨_,rfl⟩
       rw[hu] at hax hel
       rw[Zv] at hel
       have hsn:eTms (O j)++[[.sl 2 (eTys u.binds) none,.v (.int .i64 u.kind),.v (.int .i64 u.index),.sl 4 (eTms u.args) none]]=eTms (O (j+1)):=by rw[←hOn j hj2,YV,eTms,eTms,hax,Zv]
       refine Zz ?_;refine Zz ?_;refine Zx [(28,.v (.int .i64 (↑ta.length))),(29,.v (.bool true))] Yo hnt fun K hK=>?_;refine And.intro (Zq (by rw[Zs])) ?_;refine And.intro (ZZ (by omega)) ?_;refine hK _ _ ?_;clear hK K;refine Zy (t:=true) rfl ?_;rw[if_pos rfl];refine Zw ?_;refine Zz ?_;refine Zt ?_;refine Zz ?_;refine Zx [(35,.q [.sl 2 (eTys u.binds) none,.v (.int .i64 u.kind),.v (.int .i64 u.index),.sl 4 (eTms u.args) none])] Yo hnt fun K hK=>?_
       refine And.intro (⟨by omega,by rw[Zs];omega⟩) ?_;refine And.intro (Zn.of_eq (by rw[Int.toNat_natCast,hel])) ?_;refine hK _ _ ?_;clear hK K;refine Zz ?_;refine Zz ?_;refine Zx [(39,.q [.v (.int .i64 ↑n)]),(41,.v (.bool false))] Yo hnt fun K hK=>?_;refine And.intro (⟨by omega,by rw[Zi,List.length_cons];omega⟩) ?_;refine And.intro (Zn.of_eq (by simp[Y4])) ?_
       refine And.intro (XT (by omega)) ?_;refine hK _ _ ?_;clear hK K;refine Zy (t:=false) rfl ?_;rw[if_neg (by simp)];refine Zw ?_;refine Zx [] Yo hnt fun K hK=>?_;refine And.intro (⟨by omega,by rw[hl1];simp;omega⟩) ?_;refine hK _ _ ?_;clear hK K
       rw[hsn,hl4]
       refine Zx [(31,.v (.int .i64 (↑(j+1))))] Yo hnt fun K hK=>?_;refine And.intro XR ?_;refine hK _ _ ?_;clear hK K
       refine⟨⟨j+1,hl2⟩,by first | omega | (dsimp only;omega),VS.toA⟩
     ·have hja:j=ta.length:=by omega
      subst hja
      refine Zz ?_;refine Zz ?_;refine Zx [(28,.v (.int .i64 (↑ta.length))),(29,.v (.bool false))] Yo hnt fun K hK=>?_;refine And.intro (Zq (by rw[Zs])) ?_;refine And.intro (Zf (by omega)) ?_;refine hK _ _ ?_;clear hK K;refine Zy (t:=false) rfl ?_;rw[if_neg (by simp)];refine Zc ?_;refine Zz ?_;refine Zx [(53,.ag [.sl 2 (eTys tb) none,.v (.int .i64 tk),.v (.int .i64 ti),.sl 4 (eTms (O ta.length)) none])] Yo hnt fun K hK=>?_
      refine And.intro (Xl) ?_;refine hK _ _ ?_;clear hK K;refine Zu ?_
      exact Zj rfl
  ·rw[if_neg hc] at h;cases h
namespace Au
variable (code:List Ty→Tm→Ty→Int) (eqs:List Li.Pr)
theorem fold_zero:∀ (l:List St) (r:Tm×Int),(r.2≠0→r.1=Tm.zero)→(l.foldl (fun r x=>step code eqs x r) r).2≠0→(l.foldl (fun r x=>step code eqs x r) r).1=Tm.zero
 | [],r,h,h2=>h h2
 | x :: l,r,h,h2=>by
  rw[List.foldl_cons] at h2 ⊢
  exact fold_zero l _ (step_ne code eqs) h2
theorem chain_fold (l:List St)(t:Tm):chain code eqs l t=l.foldl (fun r x=>step code eqs x r) (t,0):=by
 unfold chain
 by_cases h:(l.foldl (fun r x=>step code eqs x r) (t,0)).2≠0
 ·rw[if_pos h]
  exact Prod.ext (fold_zero code eqs l (t,0) (fun h=>absurd rfl h) h).symm rfl
 ·rw[if_neg h]
theorem chain_one (x:St)(t:Tm):chain code eqs [x] t=step code eqs x (t,0):=chain_fold code eqs [x] t
end Au
namespace Au
variable (code:List Ty→Tm→Ty→Int) (eqs:List Li.Pr)
def sOk (q:Li.Pr)(s:List (Int×Tm)):Prop:=s.map (·.1)=X3 (Yj [q.l,q.r])∧∀ p∈s,0≤p.1∧p.1<(q.m.length:Int)
instance (q:Li.Pr) (s:List (Int×Tm)):Decidable (sOk q s):=inferInstanceAs (Decidable (_∧_))
def sTy (q:Li.Pr)(s:List (Int×Tm))(ar:List Ty):Prop:=∀ p∈s,code ar p.2 (q.m.getD p.1.toNat (.mk [] 0))=0
instance (q:Li.Pr) (s:List (Int×Tm)) (ar:List Ty):Decidable (sTy code q s ar):=inferInstanceAs (Decidable (∀ p∈s,_))
theorem fold_must {α:Type}(P:α→Bool)(c:Int):∀ (l:List α) (e:Int),l.foldl (fun e p=>must e (P p) c) e=if e≠0 then e else if l.all P=true then 0 else c
 | [],e=>by
  by_cases h:e=0
  ·rw[if_neg (fun h'=>h' h)];simp[h]
  ·rw[if_pos h];rfl
 | x :: l,e=>by
  rw[List.foldl_cons,fold_must P c l]
  by_cases h:e=0
  ·subst h
   cases hp:P x with
   | true=>rw[must_true];simp[hp]
   | false=>
    have hm:must 0 false c=c:=by unfold must;rw[if_pos ⟨rfl,rfl⟩]
    rw[hm]
    by_cases hc:c=0
    ·subst hc;simp
    ·simp[hc,hp]
  ·rw[must_ne h];simp[h]
theorem fold_must5 {α:Type}(P:α→Bool)(c:Int):∀ (l:List α) (e:Int),l.foldl (fun e p=>if e=0 then must e (P p) c else e) e=if e≠0 then e else if l.all P=true then 0 else c:=by
 intro l e
 rw[←fold_must P c l e]
 congr 1
 funext e p
 by_cases h:e=0
 ·rw[if_pos h]
 ·rw[if_neg h,must_ne h]
theorem sright {q:Li.Pr}{s:List (Int×Tm)}(h:s.map (·.1)=X3 (Yj [q.l,q.r])):Sb.right s=true:=by
 have h1:=(YC (Yj [q.l,q.r])).1
 rw[←h,List.pairwise_map] at h1
 exact decide_eq_true h1
theorem subS_at (q:Li.Pr)(s:List (Int×Tm))(ar:List Ty):subS code q s ar 0=if sOk q s then (if sTy code q s ar then 0 else 5) else 1:=by
 unfold subS
 rw[fold_must (fun p:Int×Tm=>decide (0≤p.1∧p.1<(q.m.length:Int))) 1,fold_must5 (fun p:Int×Tm=>decide (code ar p.2 (q.m.getD p.1.toNat (.mk [] 0))=0)) 5]
 have ha:∀ p:Int×Tm→Prop,∀ [DecidablePred p],(s.all (fun x=>decide (p x))=true↔∀ x∈s,p x):=fun p _=>by simp
 by_cases h1:s.map (·.1)=X3 (Yj [q.l,q.r])
 ·rw[sright h1,decide_eq_true h1,Bool.true_and,must_true,if_neg (show ¬ (0:Int)≠0 from fun h=>h rfl)]
  by_cases h2:∀ p∈s,0≤p.1∧p.1<(q.m.length:Int)
  ·rw[if_pos ((ha _).2 h2),if_neg (show ¬ (0:Int)≠0 from fun h=>h rfl),if_pos (show sOk q s from ⟨h1,h2⟩)]
   by_cases h3:sTy code q s ar
   ·rw[if_pos ((ha _).2 h3),if_pos h3]
   ·rw[if_neg (fun h=>h3 ((ha _).1 h)),if_neg h3]
  ·rw[if_neg (fun h=>h2 ((ha _).1 h)),if_pos (show (1:Int)≠0 by decide),if_neg (fun h:sOk q s=>h2 h.2)]
 ·rw[decide_eq_false h1,Bool.and_false]
  have hm:must 0 false 1=1:=by decide
  rw[hm,if_pos (show (1:Int)≠0 by decide),if_pos (show (1:Int)≠0 by decide),if_neg (fun h:sOk q s=>h1 h.1)]
def dfin (x:St)(t th:Tm)(a b:Tm×Nm.St):Tm×Int:=
 if a.2.e≠0 then (Tm.zero,a.2.e) else if b.2.e≠0 then (Tm.zero,b.2.e) else if a.1≠Pn.nb th then (Tm.zero,9) else if b.1.binds≠[] then (Tm.zero,1)
 else match replP x.path t b.1 with
 | none=>(Tm.zero,10)
 | some o=>if Li.rt o=false then (Tm.zero,2) else (o,0)
def dst (x:St)(t:Tm):Tm×Int:=
 if ¬ (0≤x.eq∧x.eq<(eqs.length:Int)) then (Tm.zero,10)
 else match Pn.atP x.path t with
 | none=>(Tm.zero,10)
 | some (th,ar)=>
  if ¬ sOk (eqAt eqs x) x.s then (Tm.zero,1)
  else if ¬ sTy code (eqAt eqs x) x.s ar then (Tm.zero,5)
  else dfin x t th (Sb.apply x.s (if x.back then (eqAt eqs x).r else (eqAt eqs x).l) 100000 false) (Sb.apply x.s (if x.back then (eqAt eqs x).l else (eqAt eqs x).r) 100000 false)
theorem img_z (s:List (Int×Tm))(t:Tm):img s t 0=((Sb.apply s t 100000 false).1,(Sb.apply s t 100000 false).2.e):=by
 unfold img
 rw[if_neg (fun h=>h rfl)]
 congr 1
 unfold must
 by_cases h:(Sb.apply s t 100000 false).2.e=0
 ·rw[if_neg (by simp[h]),h]
 ·rw[if_pos ⟨rfl,decide_eq_false h⟩]
theorem img_ne (s:List (Int×Tm))(t:Tm){e:Int}(h:e≠0):img s t e=(Tm.zero,e):=by unfold img;rw[if_pos h]
theorem fin_dfin (x:St)(t th:Tm)(ar:List Ty)(hat:Pn.atP x.path t=some (th,ar))(f g:Tm):fin x t th (img x.s f 0).1 (img x.s g (img x.s f 0).2).1 (img x.s g (img x.s f 0).2).2=dfin x t th (Sb.apply x.s f 100000 false) (Sb.apply x.s g 100000 false):=by
 rw[img_z]
 obtain⟨a,ha⟩:∃ a,Sb.apply x.s f 100000 false=a:=⟨_,rfl⟩
 rw[ha]
 dsimp only
 unfold dfin
 by_cases h1:a.2.e≠0
 ·rw[img_ne _ _ h1,if_pos h1,fin_e h1]
 ·rw[if_neg h1]
  have h1:a.2.e=0:=Classical.byContradiction h1
  rw[h1,img_z]
  obtain⟨b,hb⟩:∃ b,Sb.apply x.s g 100000 false=b:=⟨_,rfl⟩
  rw[hb]
  dsimp only
  by_cases h2:b.2.e≠0
  ·rw[if_pos h2,fin_e h2]
  ·rw[if_neg h2]
   have h2:b.2.e=0:=Classical.byContradiction h2
   rw[h2]
   unfold fin
   by_cases h3:a.1=Pn.nb th
   ·rw[decide_eq_true h3,must_true,if_neg (show ¬ (0:Int)≠0 from fun h=>h rfl),if_neg (show ¬ a.1≠Pn.nb th from fun h=>h h3)]
    obtain⟨o,ho⟩:=TN x.path t b.1 _ hat
    unfold repl
    by_cases h4:b.1.binds≠[]
    ·rw[if_pos h4,if_pos h4]
     have hm:∀ is,must (must 0 (decide ((1:Int)=0)) 1) is 2=1:=fun is=>by cases is <;> decide
     dsimp only
     rw[hm,if_pos (by decide)]
    ·rw[if_neg h4,if_neg h4,ho]
     dsimp only
     rw[decide_eq_true rfl,must_true]
     cases hr:Li.rt o with
     | true=>rw[must_true,if_neg (show ¬ (0:Int)≠0 from fun h=>h rfl),if_neg (by decide)]
     | false=>
      have hm:must 0 false 2=2:=by decide
      rw[hm,if_pos (by decide),if_pos rfl]
   ·rw[decide_eq_false h3,if_pos h3]
    have hm:must 0 false 9=9:=by decide
    rw[hm,if_pos (by decide)]
theorem step_dst (x:St)(t:Tm):step code eqs x (t,0)=dst code eqs x t:=by
 unfold step dst
 dsimp only
 by_cases h1:0≤x.eq∧x.eq<(eqs.length:Int)
 ·rw[if_neg (show ¬ ¬ (0≤x.eq∧x.eq<(eqs.length:Int)) from fun h=>h h1),decide_eq_true h1,must_true]
  cases hat:Pn.atP x.path t with
  | none=>
   have hm:must 0 false 10=10:=by decide
   dsimp only
   rw[hm]
  | some r=>
   obtain⟨th,ar⟩:=r
   dsimp only
   rw[if_neg (show ¬ (0:Int)≠0 from fun h=>h rfl),subS_at]
   by_cases h2:sOk (eqAt eqs x) x.s
   ·rw[if_pos h2,if_neg (show ¬ ¬ sOk (eqAt eqs x) x.s from fun h=>h h2)]
    by_cases h3:sTy code (eqAt eqs x) x.s ar
    ·rw[if_pos h3,if_neg (show ¬ ¬ sTy code (eqAt eqs x) x.s ar from fun h=>h h3)]
     exact fin_dfin x t th ar hat _ _
    ·rw[if_neg h3,if_pos (show ¬ sTy code (eqAt eqs x) x.s ar from h3),img_ne _ _ (show (5:Int)≠0 by decide),img_ne _ _ (show (5:Int)≠0 by decide),fin_e (show (5:Int)≠0 by decide)]
   ·rw[if_neg h2,if_pos (show ¬ sOk (eqAt eqs x) x.s from h2),img_ne _ _ (show (1:Int)≠0 by decide),img_ne _ _ (show (1:Int)≠0 by decide),fin_e (show (1:Int)≠0 by decide)]
 ·rw[if_pos (show ¬ (0≤x.eq∧x.eq<(eqs.length:Int)) from h1),decide_eq_false h1]
  have hm:must 0 false 10=10:=by decide
  have hm2:must 10 false 10=10:=by decide
  cases hat:Pn.atP x.path t with
  | none=>dsimp only;rw[hm,hm2]
  | some r=>
   obtain⟨th,ar⟩:=r
   dsimp only
   rw[hm,if_pos (show (10:Int)≠0 by decide)]
end Au
def TRJ_64:TI:=⟨9,true,[Value.slice none 0 0,Value.int IntKind.i64 0,Value.int IntKind.i64 0,Value.slice none 0 0,Value.slice none 0 0,Value.int IntKind.i64 0,Value.int IntKind.i64 0,Value.slice none 0 0,Value.slice none 0 0],[(0,4,true),(4,4,true),(8,1,false)],none,152,6,none,false⟩
theorem IK:TypOk Tryz.prog 64 TRJ_64:=by constructor <;> kernel_rfl
def TRJ_62:TI:=⟨4,true,[Value.slice none 0 0,Value.int IntKind.i64 0,Value.int IntKind.i64 0,Value.slice none 0 0],[(0,1,false),(1,2,true),(3,1,false)],none,64,6,none,false⟩
theorem IJ:TypOk Tryz.prog 62 TRJ_62:=by constructor <;> kernel_rfl
def TRJ_31:TI:=⟨4,true,[Value.slice none 0 0,Value.int IntKind.i64 0,Value.int IntKind.i64 0,Value.slice none 0 0],[(0,1,false),(1,2,true),(3,1,false)],none,64,6,none,false⟩
theorem IG:TypOk Tryz.prog 31 TRJ_31:=by constructor <;> kernel_rfl
def TRJ_41:TI:=⟨1,false,[Value.slice none 0 0],[],some 106,24,5,none,false⟩
theorem II:TypOk Tryz.prog 41 TRJ_41:=by constructor <;> kernel_rfl
def TRJ_33:TI:=⟨9,true,[Value.slice none 0 0,Value.int IntKind.i64 0,Value.int IntKind.i64 0,Value.slice none 0 0,Value.slice none 0 0,Value.int IntKind.i64 0,Value.int IntKind.i64 0,Value.slice none 0 0,Value.slice none 0 0],[(0,4,true),(4,4,true),(8,1,false)],none,152,6,none,false⟩
theorem IH:TypOk Tryz.prog 33 TRJ_33:=by constructor <;> kernel_rfl
def TRJ_106:TI:=⟨2,true,[Value.slice none 0 0,Value.int IntKind.i64 0],[(0,1,false),(1,1,false)],none,32,6,none,false⟩
theorem Ng:TypOk Tryz.prog 106 TRJ_106:=by constructor <;> kernel_rfl
def TRJ_3:TI:=⟨1,false,[Value.int IntKind.i64 0],[],none,8,2,none,false⟩
theorem Dz:TypOk Tryz.prog 3 TRJ_3:=by constructor <;> kernel_rfl
def TRJ:List (Nat×TI):=[(64,TRJ_64),(62,TRJ_62),(31,TRJ_31),(41,TRJ_41),(33,TRJ_33),(106,TRJ_106),(3,TRJ_3)]
theorem Nh:Zh Tryz.prog TRJ:=((((((((Zh.nil _).cons Dz).cons Ng).cons IH).cons II).cons IG).cons IJ).cons IK)
theorem K1 (t:Tm)(h:t.full≤400000):Zd Tryz.prog 75 [.ag (eTm t)] (.v (.int .i64 t.size)):=by
 refine Wn (by kernel_rfl) fun m Im w vs hv=>?_
 match vs,hv with
 | [x1],hv=>
  obtain⟨b,k,i,a,rfl,ht⟩:=Ax hv.1
  refine(Ka t ht w (by have:=Tm.size_le_full t;omega) (Keep.refl _ _)).mono ?_
  rintro e w' ⟨rfl,hb⟩
  exact⟨_,rfl,hb,fun _ _ _=>.v _⟩
namespace Ru
def wt (p:Li.Pr):Int:=(p.l.size:Int)+(p.r.size:Int)
def cmp (a b:Li.Pr):Int:=Rq (DR (wt a) (wt b)) (Rq (Tm.cmp a.l b.l) (Rq (Tm.cmp a.r b.r) (Tm.cmpB a.m b.m)))
end Ru
theorem Af (p:Li.Pr)(h1:p.l.full≤400000)(h2:p.r.full≤400000):Zd Tryz.prog 37 [.ag (VG p)] (.v (.int .i64 (Ru.wt p))):=by
 have c1:=K1 p.l h1
 have c2:=K1 p.r h2
 have z1:=Tm.size_le_full p.l
 have z2:=Tm.size_le_full p.r
 rw[Yf]
 rw[Zv] at c1 c2
 unfold Ru.wt
 refine Zm 0 10 [ResultVar.tmp 2] Nh Tryz.func37 rfl Tryz.ntmps37 rfl fun cx hnt hn0=>?_
 ·skip
  refine Zz ?_;refine Zx [] Nh hnt fun _ z9=>z9 _ _ ?_;refine Zz ?_;refine ZP [(9,.v (.int .i64 (((p.l.size)+(p.r.size)))))] Nh hnt fun K hK=>?_;refine Ze (c1) ?_;refine Ze (c2) ?_;refine And.intro XR ?_;refine hK _ _ (by kernel_rfl) ?_;clear hK K;refine Zu ?_
  exact Zj rfl
def TRS_64:TI:=⟨9,true,[Value.slice none 0 0,Value.int IntKind.i64 0,Value.int IntKind.i64 0,Value.slice none 0 0,Value.slice none 0 0,Value.int IntKind.i64 0,Value.int IntKind.i64 0,Value.slice none 0 0,Value.slice none 0 0],[(0,4,true),(4,4,true),(8,1,false)],none,152,6,none,false⟩
theorem I7:TypOk Tryz.prog 64 TRS_64:=by constructor <;> kernel_rfl
def TRS_62:TI:=⟨4,true,[Value.slice none 0 0,Value.int IntKind.i64 0,Value.int IntKind.i64 0,Value.slice none 0 0],[(0,1,false),(1,2,true),(3,1,false)],none,64,6,none,false⟩
theorem I8:TypOk Tryz.prog 62 TRS_62:=by constructor <;> kernel_rfl
def TRS_41:TI:=⟨1,false,[Value.slice none 0 0],[],some 106,24,5,none,false⟩
theorem I9:TypOk Tryz.prog 41 TRS_41:=by constructor <;> kernel_rfl
def TRS_106:TI:=⟨2,true,[Value.slice none 0 0,Value.int IntKind.i64 0],[(0,1,false),(1,1,false)],none,32,6,none,false⟩
theorem OJ:TypOk Tryz.prog 106 TRS_106:=by constructor <;> kernel_rfl
def TRS:List (Nat×TI):=[(64,TRS_64),(62,TRS_62),(41,TRS_41),(106,TRS_106)]
theorem WE:Zh Tryz.prog TRS:=(((((Zh.nil _).cons OJ).cons I9).cons I8).cons I7)
namespace Ru
def swap (p:Li.Pr):Li.Pr:=⟨p.r,p.l,p.m⟩
theorem swap_at (p:Li.Pr):VG (swap p)=[.sl 2 (eTys p.r.binds) none,.v (.int .i64 p.r.kind),.v (.int .i64 p.r.index),.sl 4 (eTms p.r.args) none,.sl 2 (eTys p.l.binds) none,.v (.int .i64 p.l.kind),.v (.int .i64 p.l.index),.sl 4 (eTms p.l.args) none,.sl 2 (eTys p.m) none]:=rfl
end Ru
theorem U0 (M:List Ty)(h:Ty.sizes M≤800000):Zd Tryz.prog 103 [.sl 2 (eTys M) none] (.sl 2 (eTys M) none):=by
 have ha:=Tz (.mk [] 0) M (by rw[Uy];simp[Ty.sizes];omega)
 simp only[Zb,Xc,XS,List.append_nil] at ha
 refine Zm 0 7 [ResultVar.tmp 2] WE Tryz.func103 rfl Tryz.ntmps103 rfl fun cx hnt hn0=>?_
 ·skip
  refine Zz ?_;refine Zx [] WE hnt fun _ z9=>z9 _ _ ?_;refine Zz ?_;refine Zx [(3,.ag [.sl 2 (eTys []) none,.v (.int .i64 0)])] WE hnt fun K hK=>?_;refine And.intro (Xl) ?_;refine Ze (ha) ?_;refine hK _ _ ?_;clear hK K;refine Zu ?_
  exact Zj rfl
theorem P6 (p:Li.Pr)(h1:p.l.full≤900000∧p.l.Fit)(h2:p.r.full≤900000∧p.r.Fit)(h3:Ty.sizes p.m≤800000):Zd Tryz.prog 113 [.ag (VG p)] (.ag (VG p)):=by
 have c1:=WG p.l h1.1 h1.2
 have c2:=WG p.r h2.1 h2.2
 have c3:=U0 p.m h3
 rw[Zv] at c1 c2
 rw[Yf]
 refine Zm 0 13 [ResultVar.cell 2 64] WE Tryz.func113 rfl Tryz.ntmps113 rfl fun cx hnt hn0=>?_
 ·skip
  refine Zz ?_;refine Zx [] WE hnt fun _ z9=>z9 _ _ ?_;refine Zz ?_;refine ZP [] WE hnt fun K hK=>?_;refine Ze (c1) ?_;refine Ze (c2) ?_;refine Ze (c3) ?_;refine hK _ _ (by kernel_rfl) ?_;clear hK K;refine Zu ?_
  exact Zj rfl
theorem Rc (p:Li.Pr)(h1:p.l.full≤900000∧p.l.Fit)(h2:p.r.full≤900000∧p.r.Fit)(h3:Ty.sizes p.m≤800000):Zd Tryz.prog 89 [.ag (VG p)] (.ag (VG (Ru.swap p))):=by
 have c:=P6 (Ru.swap p) h2 h1 h3
 rw[Ru.swap_at] at c ⊢
 rw[Yf]
 refine Zm 0 11 [ResultVar.cell 2 64] WE Tryz.func89 rfl Tryz.ntmps89 rfl fun cx hnt hn0=>?_
 ·skip
  refine Zz ?_;refine Zx [] WE hnt fun _ z9=>z9 _ _ ?_;refine Zz ?_;refine Zx [] WE hnt fun K hK=>?_;refine Ze (c) ?_;refine hK _ _ ?_;clear hK K;refine Zu ?_
  exact Zj rfl
def TRM_43:TI:=⟨3,true,[Value.int IntKind.i64 0,Value.slice none 0 0,Value.slice none 0 0],[(0,1,false),(1,1,false),(2,1,false)],none,56,6,none,false⟩
theorem IP:TypOk Tryz.prog 43 TRM_43:=by constructor <;> kernel_rfl
def TRM_41:TI:=⟨1,false,[Value.slice none 0 0],[],some 106,24,5,none,false⟩
theorem IN:TypOk Tryz.prog 41 TRM_41:=by constructor <;> kernel_rfl
def TRM_24:TI:=⟨3,true,[Value.int IntKind.i64 0,Value.slice none 0 0,Value.slice none 0 0],[(0,1,false),(1,1,false),(2,1,false)],none,56,6,none,false⟩
theorem IM:TypOk Tryz.prog 24 TRM_24:=by constructor <;> kernel_rfl
def TRM_22:TI:=⟨1,false,[Value.slice none 0 0],[],some 104,24,5,none,false⟩
theorem IL:TypOk Tryz.prog 22 TRM_22:=by constructor <;> kernel_rfl
def TRM_64:TI:=⟨9,true,[Value.slice none 0 0,Value.int IntKind.i64 0,Value.int IntKind.i64 0,Value.slice none 0 0,Value.slice none 0 0,Value.int IntKind.i64 0,Value.int IntKind.i64 0,Value.slice none 0 0,Value.slice none 0 0],[(0,4,true),(4,4,true),(8,1,false)],none,152,6,none,false⟩
theorem IQ:TypOk Tryz.prog 64 TRM_64:=by constructor <;> kernel_rfl
def TRM_3:TI:=⟨1,false,[Value.int IntKind.i64 0],[],none,8,2,none,false⟩
theorem EA:TypOk Tryz.prog 3 TRM_3:=by constructor <;> kernel_rfl
def TRM_104:TI:=⟨2,true,[Value.slice none 0 0,Value.int IntKind.i64 0],[(0,1,false),(1,1,false)],none,32,6,none,false⟩
theorem Ni:TypOk Tryz.prog 104 TRM_104:=by constructor <;> kernel_rfl
def TRM_106:TI:=⟨2,true,[Value.slice none 0 0,Value.int IntKind.i64 0],[(0,1,false),(1,1,false)],none,32,6,none,false⟩
theorem Nj:TypOk Tryz.prog 106 TRM_106:=by constructor <;> kernel_rfl
def TRM:List (Nat×TI):=[(43,TRM_43),(41,TRM_41),(24,TRM_24),(22,TRM_22),(64,TRM_64),(3,TRM_3),(104,TRM_104),(106,TRM_106)]
theorem UT:Zh Tryz.prog TRM:=(((((((((Zh.nil _).cons Nj).cons Ni).cons EA).cons IQ).cons IL).cons IM).cons IN).cons IP)
namespace Ru
end Ru
theorem Qu (l r:List Li.Pr):Yp (l++r)=Yp l++Yp r:=List.map_append ..
theorem Ee (x:Li.Pr):Yp [x]=[[.sl 2 (eTys x.l.binds) none,.v (.int .i64 x.l.kind),.v (.int .i64 x.l.index),.sl 4 (eTms x.l.args) none,.sl 2 (eTys x.r.binds) none,.v (.int .i64 x.r.kind),.v (.int .i64 x.r.index),.sl 4 (eTms x.r.args) none,.sl 2 (eTys x.m) none]]:=rfl
theorem S4 (l:List Li.Pr)(x:Li.Pr):Yp l++[[.sl 2 (eTys x.l.binds) none,.v (.int .i64 x.l.kind),.v (.int .i64 x.l.index),.sl 4 (eTms x.l.args) none,.sl 2 (eTys x.r.binds) none,.v (.int .i64 x.r.kind),.v (.int .i64 x.r.index),.sl 4 (eTms x.r.args) none,.sl 2 (eTys x.m) none]]=Yp (l++[x]):=by rw[Qu,Ee]
theorem Ak (b:Int)(C M:List Ty)(h1:Ty.sizes C≤900000)(h2:Ty.sizes M≤900000):Zd Tryz.prog 12 [.ag [.v (.int .i64 b),.sl 2 (eTys C) none,.sl 2 (eTys M) none]] (.ag [.v (.int .i64 b),.sl 2 (eTys C) none,.sl 2 (eTys M) none]):=by
 have hC:=UI C h1
 have hM:=UI M h2
 refine Zm 0 12 [ResultVar.cell 2 43] UT Tryz.func12 rfl Tryz.ntmps12 rfl fun cx hnt hn0=>?_
 ·skip
  refine Zz ?_;refine Zx [] UT hnt fun _ z9=>z9 _ _ ?_;refine Zz ?_;refine ZP [] UT hnt fun K hK=>?_;refine Ze (hC) ?_;refine Ze (hM) ?_;refine hK _ _ (by kernel_rfl) ?_;clear hK K;refine Zu ?_
  exact Zj rfl
theorem Jw (b:Int)(C Mw:List Ty)(p:Li.Pr)(h1:Ty.sizes C≤800000)(h2:Ty.sizes p.m≤800000):Zd Tryz.prog 78 [.ag [.v (.int .i64 b),.sl 2 (eTys C) none,.sl 2 (eTys Mw) none],.ag (VG p)] (.ag [.v (.int .i64 b),.sl 2 (eTys C) none,.sl 2 (eTys p.m) none]):=by
 have hC:=U0 C h1
 have hM:=U0 p.m h2
 rw[Yf]
 refine Zm 0 14 [ResultVar.cell 4 43] UT Tryz.func78 rfl Tryz.ntmps78 rfl fun cx hnt hn0=>?_
 ·skip
  refine Zz ?_;refine Zx [] UT hnt fun _ z9=>z9 _ _ ?_;refine Zz ?_;refine ZP [] UT hnt fun K hK=>?_;refine Ze (hC) ?_;refine Ze (hM) ?_;refine hK _ _ (by kernel_rfl) ?_;clear hK K;refine Zu ?_
  exact Zj rfl
def TAUP_25:TI:=⟨1,false,[Value.slice none 0 0],[],some 33,24,5,none,false⟩
theorem M6:TypOk Tryz.prog 25 TAUP_25:=by constructor <;> kernel_rfl
def TAUP_33:TI:=⟨9,true,[Value.slice none 0 0,Value.int IntKind.i64 0,Value.int IntKind.i64 0,Value.slice none 0 0,Value.slice none 0 0,Value.int IntKind.i64 0,Value.int IntKind.i64 0,Value.slice none 0 0,Value.slice none 0 0],[(0,4,true),(4,4,true),(8,1,false)],none,152,6,none,false⟩
theorem M5:TypOk Tryz.prog 33 TAUP_33:=by constructor <;> kernel_rfl
def TAUP_3:TI:=⟨1,false,[Value.int IntKind.i64 0],[],none,8,2,none,false⟩
theorem Gb:TypOk Tryz.prog 3 TAUP_3:=by constructor <;> kernel_rfl
def TAUP_34:TI:=⟨1,false,[Value.slice none 0 0],[],some 64,24,5,none,false⟩
theorem M4:TypOk Tryz.prog 34 TAUP_34:=by constructor <;> kernel_rfl
def TAUP_64:TI:=⟨9,true,[Value.slice none 0 0,Value.int IntKind.i64 0,Value.int IntKind.i64 0,Value.slice none 0 0,Value.slice none 0 0,Value.int IntKind.i64 0,Value.int IntKind.i64 0,Value.slice none 0 0,Value.slice none 0 0],[(0,4,true),(4,4,true),(8,1,false)],none,152,6,none,false⟩
theorem M3:TypOk Tryz.prog 64 TAUP_64:=by constructor <;> kernel_rfl
def TAUP:List (Nat×TI):=[(25,TAUP_25),(33,TAUP_33),(3,TAUP_3),(34,TAUP_34),(64,TAUP_64)]
theorem YT:Zh Tryz.prog TAUP:=((((((Zh.nil _).cons M3).cons M4).cons Gb).cons M5).cons M6)
namespace Au
def okA (p:Li.Pr):Bool:=VH p&&decide (Ru.wt p≤60)
theorem sizes_of {l:List Ty}{n:Nat}(h:∀ t∈l,t.size≤n):Ty.sizes l≤l.length * n:=by
 induction l with
 | nil=>simp[Ty.sizes]
 | cons t l ih=>
  have h1:=h t (by simp)
  have h2:=ih fun u hu=>h u (by simp[hu])
  simp only[Ty.sizes,List.length_cons,Nat.succ_mul]
  omega
end Au
set_option maxHeartbeats 4000000 in
theorem ER (l:List Li.Pr)(hl:l.length≤9223372036854775807):Zd Tryz.prog 7 [.sl 9 (Yp l) none] (.tu [.sl 9 (Yp (if (l.take 6).all Au.okA=true then l.take 6 else [])) none,.sl 9 (Yp (if (l.take 6).all Au.okA=true then l.take 6 else [])) none,.v (.bool ((l.take 6).all Au.okA))]):=by
 obtain⟨m,hm⟩:∃ m,l.take 6=m:=⟨_,rfl⟩
 have hml:m.length=min 6 l.length:=by rw[←hm,List.length_take]
 have hF:=fun p=>Cn [p] (by simp)
 rw[hm]
 obtain⟨V,hV⟩:∃ V,(if m.all Au.okA=true then m else [])=V:=⟨_,rfl⟩
 obtain⟨B,hB⟩:∃ B,m.all Au.okA=B:=⟨_,rfl⟩
 rw[hV,hB]
 rw[hB] at hV
 have e6:D.sl 9 (List.drop (((none:Option Int).getD 0)).toNat (List.take ((some ((min l.length 6:Nat):Int)).getD ((Yp l).length:Int)).toNat (Yp l))) none=D.sl 9 (Yp m) none:=by
  show D.sl 9 (List.drop 0 (List.take (((min l.length 6:Nat):Int)).toNat (Yp l))) none=_
  rw[Int.toNat_natCast,List.drop_zero,←hm,Yp,Yp,←List.map_take,List.take_eq_take_iff.2 (show min (min l.length 6) l.length=min 6 l.length by omega)]
 obtain⟨O,hO⟩:∃ O:Nat→List Li.Pr,∀ j,m.take j=O j:=⟨_,fun _=>rfl⟩
 have hO0:O 0=[]:=by rw[←hO];rfl
 have hOn:∀ j (h:j<m.length),O j++[m[j]]=O (j+1):=fun j h=>by rw[←hO,←hO,List.take_add_one,List.getElem?_eq_getElem h];rfl
 have hOl:∀ j,j≤m.length→(O j).length=j:=fun j h=>by rw[←hO,List.length_take];omega
 refine Zm 0 43 [ResultVar.tmp 2,ResultVar.tmp 3,ResultVar.tmp 4] YT Tryz.func7 rfl Tryz.ntmps7 rfl fun cx hnt hn0=>?_
 ·skip
  refine Zz ?_;refine Zx [] YT hnt fun _ z9=>z9 _ _ ?_;refine Zz ?_;refine Zx [(10,.v (.int .i64 (↑(min l.length 6)))),(11,.sl 9 (Yp m) none)] YT hnt fun K hK=>?_;refine And.intro (Zq (by (rw[Z5];omega))) ?_;refine And.intro (⟨by omega,by rw[Z5];omega⟩) ?_;refine And.intro (Zn.of_eq e6) ?_;refine hK _ _ ?_;clear hK K;refine Zz ?_
  refine Zx [] YT hnt fun _ z9=>z9 _ _ ?_
  refine DW.vs (VS.rowT (x:=5) (by rw[hnt];decide) 64 9 rfl) ?_
  refine Zz ?_;refine Zz ?_;refine Zx [] YT hnt fun _ z9=>z9 _ _ ?_;refine Zt ?_
  refine Z4 (ι:={ j:Nat // j≤m.length∧∀ i (h:i<m.length),i<j→Au.okA m[i]=true }) (fun j=>[(.t 0,.sl 9 (Yp m) none),(.t 5,.sl 9 (Yp (O j.1)) (some 10)),(.r 10,.rw 64 9 (O j.1).length),(.t 6,.v (.int .i64 ↑j.1))]) 20 (fun j=>m.length-j.1) (⟨0,Nat.zero_le _,fun i h h2=>by omega⟩) ((by dsimp only;rw[hO0];exact VS.toA)) fun j=>?_
  obtain⟨j,hj,hjo⟩:=j
  dsimp only
  by_cases hlt:j<m.length
  ·obtain⟨p,hp⟩:∃ p,m[j]=p:=⟨_,rfl⟩
   have eP:Yp [p]=[[.sl 2 (eTys p.l.binds) none,.v (.int .i64 p.l.kind),.v (.int .i64 p.l.index),.sl 4 (eTms p.l.args) none,.sl 2 (eTys p.r.binds) none,.v (.int .i64 p.r.kind),.v (.int .i64 p.r.index),.sl 4 (eTms p.r.args) none,.sl 2 (eTys p.m) none]]:=by rw[←Yf];rfl
   have hf:=hF p
   have hgd:(Yp m).getD j []=[.sl 2 (eTys p.l.binds) none,.v (.int .i64 p.l.kind),.v (.int .i64 p.l.index),.sl 4 (eTms p.l.args) none,.sl 2 (eTys p.r.binds) none,.v (.int .i64 p.r.kind),.v (.int .i64 p.r.index),.sl 4 (eTms p.r.args) none,.sl 2 (eTys p.m) none]:=by rw[Wr m j hlt,hp,Yf]
   have hbad:Au.okA p=false→B=false:=fun h=>by rw[←hB,List.all_eq_false];exact⟨m[j],List.getElem_mem hlt,by rw[hp,h];simp⟩
   cases h1:VH p with
   | false=>
    have hb:=hbad (by rw[Au.okA,h1];rfl)
    rw[hb,if_neg (by simp)] at hV
    subst hb hV
    rw[show [p].all VH=false by simp[h1]] at hf
    refine Zz ?_;refine Zz ?_;refine Zx [(14,.v (.int .i64 (↑m.length))),(15,.v (.bool true))] YT hnt fun K hK=>?_;refine And.intro (Zq (by rw[Z5])) ?_;refine And.intro YD ?_;refine hK _ _ ?_;clear hK K;refine Zy (t:=true) rfl ?_;rw[if_pos rfl];refine Zw ?_;refine Zz ?_;refine Zt ?_;refine Zz ?_;refine Zz ?_;refine Zx [(20,.q [.sl 2 (eTys p.l.binds) none,.v (.int .i64 p.l.kind),.v (.int .i64 p.l.index),.sl 4 (eTms p.l.args) none,.sl 2 (eTys p.r.binds) none,.v (.int .i64 p.r.kind),.v (.int .i64 p.r.index),.sl 4 (eTms p.r.args) none,.sl 2 (eTys p.m) none]),(22,.sl 9 (Yp [p]) none)] YT hnt fun K hK=>?_
    refine And.intro (⟨by omega,by rw[Z5];omega⟩) ?_;refine And.intro (Zn.of_eq (by rw[Int.toNat_natCast,hgd])) ?_;refine And.intro ((by rw[eP];exact Zn.untag _ _ _)) ?_;refine Ze (hf) ?_;refine hK _ _ ?_;clear hK K;refine Zy (t:=true) rfl ?_;rw[if_pos rfl];refine Zz ?_;refine Zx [] YT hnt fun _ z9=>z9 _ _ ?_;refine Zu ?_
    exact Zj rfl
   | true=>
    rw[show [p].all VH=true by simp[h1]] at hf
    obtain⟨⟨z1,z2⟩,z3,z4⟩:=KQ h1
    have hw:=Af p (by omega) (by omega)
    rw[Yf] at hw
    by_cases h2:Ru.wt p≤60
    ·have ht:=CF p (by omega) (by omega) (by have:=Au.sizes_of z4;omega)
     rw[Yf] at ht
     have hsn:=S4 (O j) p
     rw[←hp,hOn j hlt,hp] at hsn
     have hl1:(Yp (O j)).length=(O j).length:=Z5 _
     have hl3:=hOl j hj
     have hl2:(Yp (O (j+1))).length=(O (j+1)).length:=Z5 _
     refine Zz ?_;refine Zz ?_;refine Zx [(14,.v (.int .i64 (↑m.length))),(15,.v (.bool true))] YT hnt fun K hK=>?_;refine And.intro (Zq (by rw[Z5])) ?_;refine And.intro YD ?_;refine hK _ _ ?_;clear hK K;refine Zy (t:=true) rfl ?_;rw[if_pos rfl];refine Zw ?_;refine Zz ?_;refine Zt ?_;refine Zz ?_;refine Zz ?_;refine Zx [(20,.q [.sl 2 (eTys p.l.binds) none,.v (.int .i64 p.l.kind),.v (.int .i64 p.l.index),.sl 4 (eTms p.l.args) none,.sl 2 (eTys p.r.binds) none,.v (.int .i64 p.r.kind),.v (.int .i64 p.r.index),.sl 4 (eTms p.r.args) none,.sl 2 (eTys p.m) none]),(22,.sl 9 (Yp [p]) none),(28,.q [.sl 2 (eTys p.l.binds) none,.v (.int .i64 p.l.kind),.v (.int .i64 p.l.index),.sl 4 (eTms p.l.args) none,.sl 2 (eTys p.r.binds) none,.v (.int .i64 p.r.kind),.v (.int .i64 p.r.index),.sl 4 (eTms p.r.args) none,.sl 2 (eTys p.m) none]),(31,.v (.bool false))] YT hnt fun K hK=>?_
     refine And.intro (⟨by omega,by rw[Z5];omega⟩) ?_;refine And.intro (Zn.of_eq (by rw[Int.toNat_natCast,hgd])) ?_;refine And.intro ((by rw[eP];exact Zn.untag _ _ _)) ?_;refine Ze (hf) ?_;refine And.intro (⟨by omega,by rw[Z5];omega⟩) ?_;refine And.intro (Zn.of_eq (by rw[Int.toNat_natCast,hgd])) ?_;refine Ze (hw) ?_;refine And.intro (Zf (by omega)) ?_;refine hK _ _ ?_;clear hK K
     refine Zy (t:=false) rfl ?_;rw[if_neg (by simp)];refine Zw ?_;refine Zx [(36,.q [.sl 2 (eTys p.l.binds) none,.v (.int .i64 p.l.kind),.v (.int .i64 p.l.index),.sl 4 (eTms p.l.args) none,.sl 2 (eTys p.r.binds) none,.v (.int .i64 p.r.kind),.v (.int .i64 p.r.index),.sl 4 (eTms p.r.args) none,.sl 2 (eTys p.m) none])] YT hnt fun K hK=>?_;refine And.intro (⟨by omega,by rw[Z5];omega⟩) ?_
     refine And.intro (Zn.of_eq (by rw[Int.toNat_natCast,hgd])) ?_;refine Ze (ht) ?_;refine And.intro (⟨by omega,by rw[hl1];simp;omega⟩) ?_;refine hK _ _ ?_;clear hK K
     rw[hsn,hl2]
     refine Zx [(17,.v (.int .i64 (↑(j+1))))] YT hnt fun K hK=>?_;refine And.intro XR ?_;refine hK _ _ ?_;clear hK K
     refine⟨⟨j+1,hlt,fun i h h3=>if hij:i=j then by subst hij;rw[hp,Au.okA,h1,decide_eq_true h2];rfl else hjo i h (by omega)⟩,by first | omega | (dsimp only;omega),VS.toA⟩
    ·have hb:=hbad (by rw[Au.okA,h1,decide_eq_false h2];rfl)
     rw[hb,if_neg (by simp)] at hV
     subst hb hV
     refine Zz ?_;refine Zz ?_;refine Zx [(14,.v (.int .i64 (↑m.length))),(15,.v (.bool true))] YT hnt fun K hK=>?_;refine And.intro (Zq (by rw[Z5])) ?_;refine And.intro YD ?_;refine hK _ _ ?_;clear hK K;refine Zy (t:=true) rfl ?_;rw[if_pos rfl];refine Zw ?_;refine Zz ?_;refine Zt ?_;refine Zz ?_;refine Zz ?_;refine Zx [(20,.q [.sl 2 (eTys p.l.binds) none,.v (.int .i64 p.l.kind),.v (.int .i64 p.l.index),.sl 4 (eTms p.l.args) none,.sl 2 (eTys p.r.binds) none,.v (.int .i64 p.r.kind),.v (.int .i64 p.r.index),.sl 4 (eTms p.r.args) none,.sl 2 (eTys p.m) none]),(22,.sl 9 (Yp [p]) none),(28,.q [.sl 2 (eTys p.l.binds) none,.v (.int .i64 p.l.kind),.v (.int .i64 p.l.index),.sl 4 (eTms p.l.args) none,.sl 2 (eTys p.r.binds) none,.v (.int .i64 p.r.kind),.v (.int .i64 p.r.index),.sl 4 (eTms p.r.args) none,.sl 2 (eTys p.m) none]),(31,.v (.bool true))] YT hnt fun K hK=>?_
     refine And.intro (⟨by omega,by rw[Z5];omega⟩) ?_;refine And.intro (Zn.of_eq (by rw[Int.toNat_natCast,hgd])) ?_;refine And.intro ((by rw[eP];exact Zn.untag _ _ _)) ?_;refine Ze (hf) ?_;refine And.intro (⟨by omega,by rw[Z5];omega⟩) ?_;refine And.intro (Zn.of_eq (by rw[Int.toNat_natCast,hgd])) ?_;refine Ze (hw) ?_;refine And.intro (ZZ (by omega)) ?_;refine hK _ _ ?_;clear hK K
     refine Zy (t:=true) rfl ?_;rw[if_pos rfl];refine Zz ?_;refine Zx [] YT hnt fun _ z9=>z9 _ _ ?_;refine Zu ?_
     exact Zj rfl
  ·have hje:j=m.length:=by omega
   subst hje
   have hall:m.all Au.okA=true:=by
    rw[List.all_eq_true]
    intro x hx
    obtain⟨i,hi,rfl⟩:=List.getElem_of_mem hx
    exact hjo i hi hi
   rw[hB] at hall
   subst hall
   rw[if_pos rfl] at hV
   have hOm:O m.length=m:=by rw[←hO,List.take_length]
   subst hV
   rw[hOm]
   refine Zz ?_;refine Zz ?_;refine Zx [(14,.v (.int .i64 (↑m.length))),(15,.v (.bool false))] YT hnt fun K hK=>?_;refine And.intro (Zq (by rw[Z5])) ?_;refine And.intro Xq ?_;refine hK _ _ ?_;clear hK K;refine Zy (t:=false) rfl ?_;rw[if_neg (by simp)];refine Zc ?_;refine Zz ?_;refine Zx [] YT hnt fun _ z9=>z9 _ _ ?_
   refine Zu ?_
   exact Zj rfl
def TRSC_31:TI:=⟨4,true,[Value.slice none 0 0,Value.int IntKind.i64 0,Value.int IntKind.i64 0,Value.slice none 0 0],[(0,1,false),(1,2,true),(3,1,false)],none,64,6,none,false⟩
theorem OE:TypOk Tryz.prog 31 TRSC_31:=by constructor <;> kernel_rfl
def TRSC_3:TI:=⟨1,false,[Value.int IntKind.i64 0],[],none,8,2,none,false⟩
theorem IY:TypOk Tryz.prog 3 TRSC_3:=by constructor <;> kernel_rfl
def TRSC_71:TI:=⟨1,false,[Value.slice none 0 0],[],some 3,24,5,none,false⟩
theorem OG:TypOk Tryz.prog 71 TRSC_71:=by constructor <;> kernel_rfl
def TRSC_29:TI:=⟨1,false,[Value.slice none 0 0],[],some 31,24,5,none,false⟩
theorem OD:TypOk Tryz.prog 29 TRSC_29:=by constructor <;> kernel_rfl
def TRSC_22:TI:=⟨1,false,[Value.slice none 0 0],[],some 104,24,5,none,false⟩
theorem Nz:TypOk Tryz.prog 22 TRSC_22:=by constructor <;> kernel_rfl
def TRSC_74:TI:=⟨4,true,[Value.int IntKind.i64 0,Value.bool false,Value.slice none 0 0,Value.slice none 0 0],[(0,1,false),(1,1,false),(2,1,false),(3,1,false)],none,64,6,none,false⟩
theorem OI:TypOk Tryz.prog 74 TRSC_74:=by constructor <;> kernel_rfl
def TRSC_72:TI:=⟨1,false,[Value.slice none 0 0],[],some 130,24,5,none,false⟩
theorem OH:TypOk Tryz.prog 72 TRSC_72:=by constructor <;> kernel_rfl
def TRSC_28:TI:=⟨2,true,[Value.int IntKind.i64 0,Value.int IntKind.i64 0],[(0,1,false),(1,1,false)],none,16,6,none,true⟩
theorem OC:TypOk Tryz.prog 28 TRSC_28:=by constructor <;> kernel_rfl
def TRSC_33:TI:=⟨9,true,[Value.slice none 0 0,Value.int IntKind.i64 0,Value.int IntKind.i64 0,Value.slice none 0 0,Value.slice none 0 0,Value.int IntKind.i64 0,Value.int IntKind.i64 0,Value.slice none 0 0,Value.slice none 0 0],[(0,4,true),(4,4,true),(8,1,false)],none,152,6,none,false⟩
theorem OF:TypOk Tryz.prog 33 TRSC_33:=by constructor <;> kernel_rfl
def TRSC_179:TI:=⟨2,true,[Value.int IntKind.i64 0,Value.int IntKind.i64 0],[(0,1,false),(1,1,false)],none,16,6,none,true⟩
theorem Q1:TypOk Tryz.prog 179 TRSC_179:=by constructor <;> kernel_rfl
def TRSC_24:TI:=⟨3,true,[Value.int IntKind.i64 0,Value.slice none 0 0,Value.slice none 0 0],[(0,1,false),(1,1,false),(2,1,false)],none,56,6,none,false⟩
theorem OA:TypOk Tryz.prog 24 TRSC_24:=by constructor <;> kernel_rfl
def TRSC_104:TI:=⟨2,true,[Value.slice none 0 0,Value.int IntKind.i64 0],[(0,1,false),(1,1,false)],none,32,6,none,false⟩
theorem Q5:TypOk Tryz.prog 104 TRSC_104:=by constructor <;> kernel_rfl
def TRSC_175:TI:=⟨1,false,[Value.slice none 0 0],[],some 28,24,5,none,false⟩
theorem Q3:TypOk Tryz.prog 175 TRSC_175:=by constructor <;> kernel_rfl
def TRSC_25:TI:=⟨1,false,[Value.slice none 0 0],[],some 33,24,5,none,false⟩
theorem OB:TypOk Tryz.prog 25 TRSC_25:=by constructor <;> kernel_rfl
def TRSC_130:TI:=⟨5,true,[Value.int IntKind.i64 0,Value.slice none 0 0,Value.int IntKind.i64 0,Value.int IntKind.i64 0,Value.slice none 0 0],[(0,1,false),(1,4,true)],none,72,6,none,false⟩
theorem Q4:TypOk Tryz.prog 130 TRSC_130:=by constructor <;> kernel_rfl
def TRSC_4:TI:=⟨1,false,[Value.bool false],[],none,1,1,none,false⟩
theorem IZ:TypOk Tryz.prog 4 TRSC_4:=by constructor <;> kernel_rfl
def TRSC_177:TI:=⟨1,false,[Value.pointer none],[],none,8,4,none,false⟩
theorem Q2:TypOk Tryz.prog 177 TRSC_177:=by constructor <;> kernel_rfl
def TRSC:List (Nat×TI):=[(31,TRSC_31),(3,TRSC_3),(71,TRSC_71),(29,TRSC_29),(22,TRSC_22),(74,TRSC_74),(72,TRSC_72),(28,TRSC_28),(33,TRSC_33),(179,TRSC_179),(24,TRSC_24),(104,TRSC_104),(175,TRSC_175),(25,TRSC_25),(130,TRSC_130),(4,TRSC_4),(177,TRSC_177)]
theorem Zl:Zh Tryz.prog TRSC:=((((((((((((((((((Zh.nil _).cons Q2).cons IZ).cons Q4).cons OB).cons Q3).cons Q5).cons OA).cons Q1).cons OF).cons OC).cons OH).cons OI).cons Nz).cons OD).cons OG).cons IY).cons OE)
theorem Jo (b:Int)(C M X:List Ty)(t:Tm)(u:Ty)(c:Int)(hC:C.length≤1000000)(hM:M.length≤1000000)(hc:Yt C M t X u c)(hz:X.length+t.full≤900000):
  Zd Tryz.prog 58 [.ag [.v (.int .i64 b),.sl 2 (eTys C) none,.sl 2 (eTys M) none],.sl 2 (eTys X) none,.ag (eTm t),.ag (eTy u)] (.v (.int .i64 c)):=by
 have hr:=Uo t (by have:=Tm.size_le_full t;omega)
 have hi:=fun d hd=>Bu b C M hC hM t X u d hd hz
 rw[Zv,Zb] at hi
 rw[Zv] at hr
 rw[Zv,Zb]
 rcases hc with⟨h1,rfl⟩ | ⟨h1,h2,rfl⟩ | ⟨h1,h2,rfl⟩
 ·rw[show Li.rt t=false from decide_eq_false h1] at hr
  refine Zm 0 18 [ResultVar.tmp 8] Zl Tryz.func58 rfl Tryz.ntmps58 rfl fun cx hnt hn0=>?_
  ·skip
   refine Zz ?_;refine Zx [] Zl hnt fun _ z9=>z9 _ _ ?_;refine Zz ?_;refine Zz ?_;refine Zx [] Zl hnt fun K hK=>?_;refine Ze (hr) ?_;refine hK _ _ ?_;clear hK K;refine Zy (t:=true) rfl ?_;rw[if_pos rfl];refine Zz ?_;refine Zx [] Zl hnt fun _ z9=>z9 _ _ ?_;refine Zu ?_
   exact Zj rfl
 ·rw[show Li.rt t=true from decide_eq_true h1] at hr
  have hi:=hi false (by simp[h2])
  refine Zm 0 18 [ResultVar.tmp 8] Zl Tryz.func58 rfl Tryz.ntmps58 rfl fun cx hnt hn0=>?_
  ·skip
   refine Zz ?_;refine Zx [] Zl hnt fun _ z9=>z9 _ _ ?_;refine Zz ?_;refine Zz ?_;refine Zx [] Zl hnt fun K hK=>?_;refine Ze (hr) ?_;refine hK _ _ ?_;clear hK K;refine Zy (t:=false) rfl ?_;rw[if_neg (by simp)];refine Zw ?_;refine Zz ?_;refine Zz ?_;refine Zx [] Zl hnt fun K hK=>?_;refine Ze (hi) ?_;refine hK _ _ ?_;clear hK K
   refine Zy (t:=true) rfl ?_;rw[if_pos rfl];refine Zz ?_;refine Zx [] Zl hnt fun _ z9=>z9 _ _ ?_;refine Zu ?_
   exact Zj rfl
 ·rw[show Li.rt t=true from decide_eq_true h1] at hr
  have hi:=hi true (by simp[h2])
  refine Zm 0 18 [ResultVar.tmp 8] Zl Tryz.func58 rfl Tryz.ntmps58 rfl fun cx hnt hn0=>?_
  ·skip
   refine Zz ?_;refine Zx [] Zl hnt fun _ z9=>z9 _ _ ?_;refine Zz ?_;refine Zz ?_;refine Zx [] Zl hnt fun K hK=>?_;refine Ze (hr) ?_;refine hK _ _ ?_;clear hK K;refine Zy (t:=false) rfl ?_;rw[if_neg (by simp)];refine Zw ?_;refine Zz ?_;refine Zz ?_;refine Zx [] Zl hnt fun K hK=>?_;refine Ze (hi) ?_;refine hK _ _ ?_;clear hK K
   refine Zy (t:=false) rfl ?_;rw[if_neg (by simp)];refine Zw ?_;refine Zz ?_;refine Zx [] Zl hnt fun _ z9=>z9 _ _ ?_;refine Zu ?_
   exact Zj rfl
set_option maxRecDepth 100000 in
set_option maxHeartbeats 8000000 in
theorem DP (b:Int)(C Mw:List Ty)(eqs:List Li.Pr)(t:Tm)(x:Au.St)(code:List Ty→Tm→Ty→Int)(hc:∀ X t u,Yt C Mw t X u (code X t u))(hCl:C.length≤1000000)(hMl:Mw.length≤1000000) 
  (hel:eqs.length≤1000) (hes:∀ q∈eqs,Au.EqOk q) (hx:Au.SOk x) (ht:Au.TOk t) :
  Zd Tryz.prog 28 [.ag [.v (.int .i64 b),.sl 2 (eTys C) none,.sl 2 (eTys Mw) none],.sl 9 (Yp eqs) none,.ag (eTm t),.ag (SB x)] (.tu [.ag (eTm (Au.step code eqs x (t,0)).1),.v (.int .i64 (Au.step code eqs x (t,0)).2)]):=by
 rw[Au.step_dst]
 obtain⟨hx1,hx2,hx3⟩:=hx
 obtain⟨ht1,ht2,ht3⟩:=ht
 have hsw:∀ q∈x.s,Bnd 150 q.2∧ZB q.2∧q.2.full≤1000000000:=fun q hq=>⟨Bnd.of_full q.2 (hx2 q hq).1 (hx2 q hq).2,X2 _ (by have:=(hx2 q hq).1;omega),by have:=(hx2 q hq).1;omega⟩
 have htw:ZB t:=Bnd.wide t ht2 (by omega) (by decide)
 have hAt:=Fd x.path t (by omega) (by omega)
 obtain⟨⟨o,e⟩,hO⟩:∃ r,Au.dst code eqs x t=r:=⟨_,rfl⟩
 rw[hO]
 unfold Au.dst at hO
 dsimp only
 have ez:eTm Tm.zero=[.sl 2 [] none,.v (.int .i64 0),.v (.int .i64 0),.sl 4 [] none]:=rfl
 by_cases h1:0≤x.eq∧x.eq<(eqs.length:Int)
 ·rw[if_neg (show ¬ ¬ (0≤x.eq∧x.eq<(eqs.length:Int)) from fun h=>h h1)] at hO
  cases hat:Pn.atP x.path t with
  | none=>
   rw[hat] at hO hAt
   dsimp only at hO
   unfold Ay at hAt
   obtain⟨rfl,rfl⟩:=Prod.mk.inj hO
   rw[ez]
   rw[Zv] at hAt
   dsimp only at hAt
   rw[ez] at hAt
   unfold SB
   rw[Zv]
   refine Zm 0 180 [ResultVar.cell 8 31,ResultVar.tmp 9] Zl Tryz.func28 rfl Tryz.ntmps28 rfl fun cx hnt hn0=>?_
   ·skip
    refine Zz ?_;refine Zx [] Zl hnt fun _ z9=>z9 _ _ ?_;refine Zz ?_;refine Zx [] Zl hnt fun _ z9=>z9 _ _ ?_;refine Zz ?_;refine Zz ?_;refine Zx [(29,.v (.bool false)),(34,.v (.int .i64 (↑eqs.length))),(35,.v (.bool false))] Zl hnt fun K hK=>?_;refine And.intro (Zf (by omega)) ?_;refine And.intro (Zq (by rw[Z5])) ?_
    refine And.intro (Zf (by omega)) ?_;refine hK _ _ ?_;clear hK K;refine Zy (t:=false) rfl ?_;rw[if_neg (by simp)];refine Zw ?_;refine Zz ?_;refine Zx [] Zl hnt fun K hK=>?_;refine Ze (hAt) ?_;refine hK _ _ ?_;clear hK K;refine Zz ?_;refine Zz ?_;refine Zx [] Zl hnt fun _ z9=>z9 _ _ ?_;refine Zy (t:=true) rfl ?_
    rw[if_pos rfl];refine Zz ?_;refine Zx [(48,.ag [.sl 2 [] none,.v (.int .i64 0),.v (.int .i64 0),.sl 4 [] none])] Zl hnt fun K hK=>?_;refine And.intro (Xl) ?_;refine hK _ _ ?_;clear hK K;refine Zu ?_
    exact Zj rfl
  | some r=>
   obtain⟨th,ar⟩:=r
   rw[hat] at hO hAt
   dsimp only at hO
   unfold Ay at hAt
   dsimp only at hAt
   have hsz:=Wq x.path t _ hat
   dsimp only at hsz
   have hne:x.eq.toNat<eqs.length:=by omega
   obtain⟨q,hq⟩:∃ q,eqs[x.eq.toNat]=q:=⟨_,rfl⟩
   have hqa:Au.eqAt eqs x=q:=by unfold Au.eqAt;rw[List.getD_eq_getElem?_getD,List.getElem?_eq_getElem hne,hq];rfl
   have hqo:Au.EqOk q:=hes q (hq ▸ List.getElem_mem hne)
   obtain⟨ql,qr,qm⟩:=hqo
   have hgd:=Wr eqs x.eq.toNat hne
   rw[hq] at hgd
   rw[hqa] at hO
   obtain⟨M,hM⟩:∃ M,X3 (Yj [q.l,q.r])=M:=⟨_,rfl⟩
   have hMe:=Fq [q.l,q.r] (by simp) (fun u hu=>by
    rcases List.mem_cons.1 hu with rfl | hu
    ·have:=ql.1;omega
    ·rw[List.mem_singleton] at hu;subst hu;have:=qr.1;omega) (fun u hu=>by
    rcases List.mem_cons.1 hu with rfl | hu
    ·exact Bnd.fit _ ql.2
    ·rw[List.mem_singleton] at hu;subst hu;exact Bnd.fit _ qr.2)
   rw[hM] at hMe
   have e2:eTms [q.l,q.r]=[[.sl 2 (eTys q.l.binds) none,.v (.int .i64 q.l.kind),.v (.int .i64 q.l.index),.sl 4 (eTms q.l.args) none],[.sl 2 (eTys q.r.binds) none,.v (.int .i64 q.r.kind),.v (.int .i64 q.r.index),.sl 4 (eTms q.r.args) none]]:=by show [eTm q.l,eTm q.r]=_;rw[Zv,Zv]
   rw[Zv t,Zv th] at hAt
   unfold SB
   rw[Zv t]
   by_cases hlen:x.s.length=M.length
   ·skip
    refine Zm 0 180 [ResultVar.cell 8 31,ResultVar.tmp 9] Zl Tryz.func28 rfl Tryz.ntmps28 rfl fun cx hnt hn0=>?_
    ·skip
     refine Zz ?_;refine Zx [] Zl hnt fun _ z9=>z9 _ _ ?_;refine Zz ?_;refine Zx [] Zl hnt fun _ z9=>z9 _ _ ?_;refine Zz ?_;refine Zz ?_;refine Zx [(29,.v (.bool false)),(34,.v (.int .i64 (↑eqs.length))),(35,.v (.bool false))] Zl hnt fun K hK=>?_;refine And.intro (Zf (by omega)) ?_;refine And.intro (Zq (by rw[Z5])) ?_
     refine And.intro (Zf (by omega)) ?_;refine hK _ _ ?_;clear hK K;refine Zy (t:=false) rfl ?_;rw[if_neg (by simp)];refine Zw ?_;refine Zz ?_;refine Zx [] Zl hnt fun K hK=>?_;refine Ze (hAt) ?_;refine hK _ _ ?_;clear hK K;refine Zz ?_;refine Zz ?_;refine Zx [] Zl hnt fun _ z9=>z9 _ _ ?_;refine Zy (t:=false) rfl ?_
     rw[if_neg (by simp)];refine Zw ?_;refine Zz ?_;refine Zx [(52,.q [.sl 2 (eTys q.l.binds) none,.v (.int .i64 q.l.kind),.v (.int .i64 q.l.index),.sl 4 (eTms q.l.args) none,.sl 2 (eTys q.r.binds) none,.v (.int .i64 q.r.kind),.v (.int .i64 q.r.index),.sl 4 (eTms q.r.args) none,.sl 2 (eTys q.m) none])] Zl hnt fun K hK=>?_;refine And.intro (⟨by omega,by rw[Z5];omega⟩) ?_
     refine And.intro (Zn.of_eq (by rw[hgd,Yf])) ?_;refine hK _ _ ?_;clear hK K;refine Zz ?_;refine Zx [(58,.sl 4 (eTms [q.l,q.r]) none)] Zl hnt fun K hK=>?_;refine And.intro ((by rw[e2];exact Zn.untag _ _ _)) ?_;refine Ze (hMe) ?_;refine hK _ _ ?_;clear hK K;refine Zz ?_;refine Zz ?_;refine Zx [(62,.v (.int .i64 (↑x.s.length))),(64,.v (.int .i64 (↑M.length))),(65,.v (.bool false))] Zl hnt fun K hK=>?_
     refine And.intro (Zq (by rw[Zk])) ?_;refine And.intro (Zq (by rw[Zi])) ?_;refine And.intro (Yy (by omega)) ?_;refine hK _ _ ?_;clear hK K;refine Zy (t:=false) rfl ?_;rw[if_neg (by simp)];refine Zw ?_;refine Zz ?_;refine Zz ?_;refine Zx [] Zl hnt fun _ z9=>z9 _ _ ?_;refine Zt ?_
     refine Z4 (ι:={ j:Nat // j≤M.length∧∀ i (h:i<x.s.length) (h':i<M.length),i<j→x.s[i].1=M[i]∧0≤M[i]∧M[i]<(q.m.length:Int) }) (fun j=>[(.t 16,.v (.int .i64 ↑j.1)),(.t 4,.p 0 0),(.t 6,.p 1 0),(.t 7,.p 2 0),(.t 8,.p 3 0),(.t 10,.p 5 0),(.t 11,.p 24 0),(.t 12,.sl 2 (eTys ar) none),(.t 14,.p 35 0),(.t 15,.sl 1 (Y4 M) none),(.c 0 0,.v (.int .i64 b)),(.c 0 1,.sl 2 (eTys C) none),(.c 0 2,.sl 2 (eTys Mw) none),(.c 1 0,.sl 2 (eTys t.binds) none),(.c 1 1,.v (.int .i64 t.kind)),(.c 1 2,.v (.int .i64 t.index)),(.c 1 3,.sl 4 (eTms t.args) none),(.c 2 0,.v (.int .i64 x.eq)),(.c 2 1,.v (.bool x.back)),(.c 2 2,.sl 1 (Y4 x.path) none),(.c 2 3,.sl 5 (Z1 x.s) none),(.c 3 0,.v (.slice none 0 0)),(.c 3 1,.v (.int .i64 0)),(.c 3 2,.v (.int .i64 0)),(.c 3 3,.v (.slice none 0 0)),(.c 5 0,.v (.slice none 0 0)),(.c 5 1,.v (.int .i64 0)),(.c 5 2,.v (.int .i64 0)),(.c 5 3,.v (.slice none 0 0)),(.c 24 0,.sl 2 (eTys th.binds) none),(.c 24 1,.v (.int .i64 th.kind)),(.c 24 2,.v (.int .i64 th.index)),(.c 24 3,.sl 4 (eTms th.args) none),(.c 35 0,.sl 2 (eTys q.l.binds) none),(.c 35 1,.v (.int .i64 q.l.kind)),(.c 35 2,.v (.int .i64 q.l.index)),(.c 35 3,.sl 4 (eTms q.l.args) none),(.c 35 4,.sl 2 (eTys q.r.binds) none),(.c 35 5,.v (.int .i64 q.r.kind)),(.c 35 6,.v (.int .i64 q.r.index)),(.c 35 7,.sl 4 (eTms q.r.args) none),(.c 35 8,.sl 2 (eTys q.m) none)]) 60 (fun j=>M.length-j.1) (⟨0,Nat.zero_le _,fun i _ _ h=>absurd h (by omega)⟩) (VS.toA) fun j=>?_
     obtain⟨j,hj,hjs⟩:=j
     dsimp only
     by_cases hlt:j<M.length
     ·have hls:j<x.s.length:=by omega
      have hg1:=YU M j hlt
      have hg2:=ZT x.s j hls
      obtain⟨z,hz⟩:∃ z,M[j]=z:=⟨_,rfl⟩
      obtain⟨y,hy⟩:∃ y,x.s[j]=y:=⟨_,rfl⟩
      rw[hz] at hg1
      rw[hy,ZK] at hg2
      have hm2:y∈x.s:=hy ▸ List.getElem_mem hls
      by_cases hA:y.1=z
      ·by_cases hB:z<0
       ·have hno:¬ Au.sOk q x.s:=fun h=>by have:=(h.2 y hm2).1;omega
        rw[if_pos hno] at hO
        obtain⟨rfl,rfl⟩:=Prod.mk.inj hO
        rw[ez]
        refine Zz ?_;refine Zz ?_;refine Zx [(69,.v (.int .i64 (↑M.length))),(70,.v (.bool true))] Zl hnt fun K hK=>?_;refine And.intro (Zq (by rw[Zi])) ?_;refine And.intro (ZZ (by omega)) ?_;refine hK _ _ ?_;clear hK K;refine Zy (t:=true) rfl ?_;rw[if_pos rfl];refine Zw ?_;refine Zz ?_;refine Zt ?_;refine Zz ?_;refine ZP [(76,.q [.v (.int .i64 y.1),.sl 2 (eTys y.2.binds) none,.v (.int .i64 y.2.kind),.v (.int .i64 y.2.index),.sl 4 (eTms y.2.args) none]),(81,.q [.v (.int .i64 z)]),(83,.v (.bool false)),(87,.q [.v (.int .i64 z)]),(89,.v (.bool true))] Zl hnt fun K hK=>?_
        refine And.intro (⟨by omega,by rw[Zk];omega⟩) ?_;refine And.intro (Zn.of_eq (by rw[Int.toNat_natCast,hg2])) ?_;refine And.intro (⟨by omega,by rw[Zi];omega⟩) ?_;refine And.intro (Zn.of_eq (by rw[Int.toNat_natCast,hg1])) ?_;refine And.intro (Yy hA) ?_;refine And.intro (⟨by omega,by rw[Zi];omega⟩) ?_;refine And.intro (Zn.of_eq (by rw[Int.toNat_natCast,hg1])) ?_
        refine And.intro (ZZ hB) ?_;refine hK _ _ (by kernel_rfl) ?_;clear hK K;refine Zy (t:=true) rfl ?_;rw[if_pos rfl];refine Zz ?_;refine Zx [(101,.ag [.sl 2 [] none,.v (.int .i64 0),.v (.int .i64 0),.sl 4 [] none])] Zl hnt fun K hK=>?_;refine And.intro (Xl) ?_;refine hK _ _ ?_;clear hK K;refine Zu ?_
        exact Zj rfl
       ·by_cases hC:z<(q.m.length:Int)
        ·skip
         refine Zz ?_;refine Zz ?_;refine Zx [(69,.v (.int .i64 (↑M.length))),(70,.v (.bool true))] Zl hnt fun K hK=>?_;refine And.intro (Zq (by rw[Zi])) ?_;refine And.intro (ZZ (by omega)) ?_;refine hK _ _ ?_;clear hK K;refine Zy (t:=true) rfl ?_;rw[if_pos rfl];refine Zw ?_;refine Zz ?_;refine Zt ?_;refine Zz ?_;refine ZP [(76,.q [.v (.int .i64 y.1),.sl 2 (eTys y.2.binds) none,.v (.int .i64 y.2.kind),.v (.int .i64 y.2.index),.sl 4 (eTms y.2.args) none]),(81,.q [.v (.int .i64 z)]),(83,.v (.bool false)),(87,.q [.v (.int .i64 z)]),(89,.v (.bool false)),(94,.q [.v (.int .i64 z)]),(98,.v (.int .i64 (↑q.m.length))),(99,.v (.bool false))] Zl hnt fun K hK=>?_
         refine And.intro (⟨by omega,by rw[Zk];omega⟩) ?_;refine And.intro (Zn.of_eq (by rw[Int.toNat_natCast,hg2])) ?_;refine And.intro (⟨by omega,by rw[Zi];omega⟩) ?_;refine And.intro (Zn.of_eq (by rw[Int.toNat_natCast,hg1])) ?_;refine And.intro (Yy hA) ?_;refine And.intro (⟨by omega,by rw[Zi];omega⟩) ?_;refine And.intro (Zn.of_eq (by rw[Int.toNat_natCast,hg1])) ?_
         refine And.intro (Zf hB) ?_;refine And.intro (⟨by omega,by rw[Zi];omega⟩) ?_;refine And.intro (Zn.of_eq (by rw[Int.toNat_natCast,hg1])) ?_;refine And.intro (Zq (by rw[Zr])) ?_;refine And.intro (Zf (by omega)) ?_;refine hK _ _ (by kernel_rfl) ?_;clear hK K;refine Zy (t:=false) rfl ?_;rw[if_neg (by simp)];refine Zw ?_;refine Zx [(72,.v (.int .i64 (↑(j+1))))] Zl hnt fun K hK=>?_
         refine And.intro XR ?_;refine hK _ _ ?_;clear hK K
         refine⟨⟨j+1,hlt,fun i h h' h3=>if hij:i=j then by subst hij;rw[hz,hy];exact⟨hA,by omega,hC⟩ else hjs i h h' (by omega)⟩,by first | omega | (dsimp only;omega),VS.toA⟩
        ·have hno:¬ Au.sOk q x.s:=fun h=>by have:=(h.2 y hm2).2;omega
         rw[if_pos hno] at hO
         obtain⟨rfl,rfl⟩:=Prod.mk.inj hO
         rw[ez]
         refine Zz ?_;refine Zz ?_;refine Zx [(69,.v (.int .i64 (↑M.length))),(70,.v (.bool true))] Zl hnt fun K hK=>?_;refine And.intro (Zq (by rw[Zi])) ?_;refine And.intro (ZZ (by omega)) ?_;refine hK _ _ ?_;clear hK K;refine Zy (t:=true) rfl ?_;rw[if_pos rfl];refine Zw ?_;refine Zz ?_;refine Zt ?_;refine Zz ?_;refine ZP [(76,.q [.v (.int .i64 y.1),.sl 2 (eTys y.2.binds) none,.v (.int .i64 y.2.kind),.v (.int .i64 y.2.index),.sl 4 (eTms y.2.args) none]),(81,.q [.v (.int .i64 z)]),(83,.v (.bool false)),(87,.q [.v (.int .i64 z)]),(89,.v (.bool false)),(94,.q [.v (.int .i64 z)]),(98,.v (.int .i64 (↑q.m.length))),(99,.v (.bool true))] Zl hnt fun K hK=>?_
         refine And.intro (⟨by omega,by rw[Zk];omega⟩) ?_;refine And.intro (Zn.of_eq (by rw[Int.toNat_natCast,hg2])) ?_;refine And.intro (⟨by omega,by rw[Zi];omega⟩) ?_;refine And.intro (Zn.of_eq (by rw[Int.toNat_natCast,hg1])) ?_;refine And.intro (Yy hA) ?_;refine And.intro (⟨by omega,by rw[Zi];omega⟩) ?_;refine And.intro (Zn.of_eq (by rw[Int.toNat_natCast,hg1])) ?_
         refine And.intro (Zf hB) ?_;refine And.intro (⟨by omega,by rw[Zi];omega⟩) ?_;refine And.intro (Zn.of_eq (by rw[Int.toNat_natCast,hg1])) ?_;refine And.intro (Zq (by rw[Zr])) ?_;refine And.intro (ZZ (by omega)) ?_;refine hK _ _ (by kernel_rfl) ?_;clear hK K;refine Zy (t:=true) rfl ?_;rw[if_pos rfl];refine Zz ?_;refine Zx [(101,.ag [.sl 2 [] none,.v (.int .i64 0),.v (.int .i64 0),.sl 4 [] none])] Zl hnt fun K hK=>?_
         refine And.intro (Xl) ?_;refine hK _ _ ?_;clear hK K;refine Zu ?_
         exact Zj rfl
      ·have hno:¬ Au.sOk q x.s:=fun h=>by
        have h1:=h.1
        rw[hM] at h1
        have h2:(x.s.map (·.1))[j]?=M[j]?:=by rw[h1]
        rw[List.getElem?_map,List.getElem?_eq_getElem hls,List.getElem?_eq_getElem hlt,hz,hy] at h2
        exact hA (Option.some.inj h2)
       rw[if_pos hno] at hO
       obtain⟨rfl,rfl⟩:=Prod.mk.inj hO
       rw[ez]
       refine Zz ?_;refine Zz ?_;refine Zx [(69,.v (.int .i64 (↑M.length))),(70,.v (.bool true))] Zl hnt fun K hK=>?_;refine And.intro (Zq (by rw[Zi])) ?_;refine And.intro (ZZ (by omega)) ?_;refine hK _ _ ?_;clear hK K;refine Zy (t:=true) rfl ?_;rw[if_pos rfl];refine Zw ?_;refine Zz ?_;refine Zt ?_;refine Zz ?_;refine ZP [(76,.q [.v (.int .i64 y.1),.sl 2 (eTys y.2.binds) none,.v (.int .i64 y.2.kind),.v (.int .i64 y.2.index),.sl 4 (eTms y.2.args) none]),(81,.q [.v (.int .i64 z)]),(83,.v (.bool true))] Zl hnt fun K hK=>?_
       refine And.intro (⟨by omega,by rw[Zk];omega⟩) ?_;refine And.intro (Zn.of_eq (by rw[Int.toNat_natCast,hg2])) ?_;refine And.intro (⟨by omega,by rw[Zi];omega⟩) ?_;refine And.intro (Zn.of_eq (by rw[Int.toNat_natCast,hg1])) ?_;refine And.intro (Y6 hA) ?_;refine hK _ _ (by kernel_rfl) ?_;clear hK K;refine Zy (t:=true) rfl ?_;rw[if_pos rfl];refine Zz ?_;refine Zx [(101,.ag [.sl 2 [] none,.v (.int .i64 0),.v (.int .i64 0),.sl 4 [] none])] Zl hnt fun K hK=>?_
       refine And.intro (Xl) ?_;refine hK _ _ ?_;clear hK K;refine Zu ?_
       exact Zj rfl
     ·have hja:j=M.length:=by omega
      subst hja
      have hok:Au.sOk q x.s:=by
       refine⟨?_,fun y hy=>?_⟩
       ·rw[hM]
        refine List.ext_getElem (by rw[List.length_map];exact hlen) fun i h1 h2=>?_
        rw[List.length_map] at h1
        rw[List.getElem_map];exact(hjs i h1 h2 h2).1
       ·obtain⟨i,hi,rfl⟩:=List.getElem_of_mem hy
        have:=hjs i hi (by omega) (by omega)
        rw[this.1];exact this.2
      rw[if_neg (show ¬ ¬ Au.sOk q x.s from fun h=>h hok)] at hO;refine Zz ?_;refine Zz ?_;refine Zx [(69,.v (.int .i64 (↑M.length))),(70,.v (.bool false))] Zl hnt fun K hK=>?_;refine And.intro (Zq (by rw[Zi])) ?_;refine And.intro (Zf (by omega)) ?_;refine hK _ _ ?_;clear hK K;refine Zy (t:=false) rfl ?_;rw[if_neg (by simp)];refine Zc ?_;refine Zz ?_
      refine Zz ?_;refine Zx [] Zl hnt fun _ z9=>z9 _ _ ?_;refine Zt ?_
      refine Z4 (ι:={ j:Nat // j≤M.length∧∀ i (h:i<x.s.length),i<j→code ar x.s[i].2 (q.m.getD x.s[i].1.toNat (.mk [] 0))=0 }) (fun j=>[(.t 17,.v (.int .i64 ↑j.1)),(.t 4,.p 0 0),(.t 6,.p 1 0),(.t 7,.p 2 0),(.t 8,.p 3 0),(.t 10,.p 5 0),(.t 11,.p 24 0),(.t 12,.sl 2 (eTys ar) none),(.t 14,.p 35 0),(.t 15,.sl 1 (Y4 M) none),(.c 0 0,.v (.int .i64 b)),(.c 0 1,.sl 2 (eTys C) none),(.c 0 2,.sl 2 (eTys Mw) none),(.c 1 0,.sl 2 (eTys t.binds) none),(.c 1 1,.v (.int .i64 t.kind)),(.c 1 2,.v (.int .i64 t.index)),(.c 1 3,.sl 4 (eTms t.args) none),(.c 2 0,.v (.int .i64 x.eq)),(.c 2 1,.v (.bool x.back)),(.c 2 2,.sl 1 (Y4 x.path) none),(.c 2 3,.sl 5 (Z1 x.s) none),(.c 3 0,.v (.slice none 0 0)),(.c 3 1,.v (.int .i64 0)),(.c 3 2,.v (.int .i64 0)),(.c 3 3,.v (.slice none 0 0)),(.c 5 0,.v (.slice none 0 0)),(.c 5 1,.v (.int .i64 0)),(.c 5 2,.v (.int .i64 0)),(.c 5 3,.v (.slice none 0 0)),(.c 24 0,.sl 2 (eTys th.binds) none),(.c 24 1,.v (.int .i64 th.kind)),(.c 24 2,.v (.int .i64 th.index)),(.c 24 3,.sl 4 (eTms th.args) none),(.c 35 0,.sl 2 (eTys q.l.binds) none),(.c 35 1,.v (.int .i64 q.l.kind)),(.c 35 2,.v (.int .i64 q.l.index)),(.c 35 3,.sl 4 (eTms q.l.args) none),(.c 35 4,.sl 2 (eTys q.r.binds) none),(.c 35 5,.v (.int .i64 q.r.kind)),(.c 35 6,.v (.int .i64 q.r.index)),(.c 35 7,.sl 4 (eTms q.r.args) none),(.c 35 8,.sl 2 (eTys q.m) none)]) 60 (fun j=>M.length-j.1) (⟨0,Nat.zero_le _,fun i _ h=>absurd h (by omega)⟩) (VS.toA) fun j=>?_
      obtain⟨j,hj,hjt⟩:=j
      dsimp only
      by_cases hlt:j<M.length
      ·have hls:j<x.s.length:=by omega
       have hg1:=YU M j hlt
       have hg2:=ZT x.s j hls
       obtain⟨hA,hB,hC⟩:=hjs j hls hlt hlt
       obtain⟨z,hz⟩:∃ z,M[j]=z:=⟨_,rfl⟩
       obtain⟨y,hy⟩:∃ y,x.s[j]=y:=⟨_,rfl⟩
       rw[hz] at hg1 hA hB hC
       rw[hy] at hA
       rw[hy,ZK] at hg2
       have hm2:y∈x.s:=hy ▸ List.getElem_mem hls
       have hzl:z.toNat<q.m.length:=by omega
       obtain⟨u,hu⟩:∃ u,q.m[z.toNat]=u:=⟨_,rfl⟩
       have hg3:=ZU q.m z.toNat hzl
       rw[hu,Zb] at hg3
       have hck:=Jo b C Mw ar y.2 u (code ar y.2 u) hCl hMl (hc _ _ _) (by have:=(hx2 y hm2).1;omega)
       have hgu:q.m.getD y.1.toNat (.mk [] 0)=u:=by rw[hA,List.getD_eq_getElem?_getD,List.getElem?_eq_getElem hzl,hu];rfl
       rw[Zv,Zb] at hck
       by_cases h0:code ar y.2 u=0
       ·skip
        refine Zz ?_;refine Zz ?_;refine Zx [(104,.v (.int .i64 (↑M.length))),(105,.v (.bool true))] Zl hnt fun K hK=>?_;refine And.intro (Zq (by rw[Zi])) ?_;refine And.intro (ZZ (by omega)) ?_;refine hK _ _ ?_;clear hK K;refine Zy (t:=true) rfl ?_;rw[if_pos rfl];refine Zw ?_;refine Zz ?_;refine Zt ?_;refine Zz ?_;refine ZP [(113,.q [.v (.int .i64 y.1),.sl 2 (eTys y.2.binds) none,.v (.int .i64 y.2.kind),.v (.int .i64 y.2.index),.sl 4 (eTms y.2.args) none]),(120,.q [.v (.int .i64 z)]),(122,.q [.sl 2 (eTys u.args) none,.v (.int .i64 u.base)]),(125,.v (.bool false))] Zl hnt fun K hK=>?_
        refine And.intro (⟨by omega,by rw[Zk];omega⟩) ?_;refine And.intro (Zn.of_eq (by rw[Int.toNat_natCast,hg2])) ?_;refine And.intro (⟨by omega,by rw[Zi];omega⟩) ?_;refine And.intro (Zn.of_eq (by rw[Int.toNat_natCast,hg1])) ?_;refine And.intro (⟨by omega,by rw[Zr];omega⟩) ?_;refine And.intro (Zn.of_eq (by rw[hg3])) ?_;refine Ze (hck) ?_;refine And.intro (Yy h0) ?_
        refine hK _ _ (by kernel_rfl) ?_;clear hK K;refine Zy (t:=false) rfl ?_;rw[if_neg (by simp)];refine Zw ?_;refine Zx [(107,.v (.int .i64 (↑(j+1))))] Zl hnt fun K hK=>?_;refine And.intro XR ?_;refine hK _ _ ?_;clear hK K
        refine⟨⟨j+1,hlt,fun i h h3=>if hij:i=j then by subst hij;rw[hy,hgu];exact h0 else hjt i h (by omega)⟩,by first | omega | (dsimp only;omega),VS.toA⟩
       ·have hno:¬ Au.sTy code q x.s ar:=fun h=>by have:=h y hm2;rw[hgu] at this;exact h0 this
        rw[if_pos hno] at hO
        obtain⟨rfl,rfl⟩:=Prod.mk.inj hO
        rw[ez]
        refine Zz ?_;refine Zz ?_;refine Zx [(104,.v (.int .i64 (↑M.length))),(105,.v (.bool true))] Zl hnt fun K hK=>?_;refine And.intro (Zq (by rw[Zi])) ?_;refine And.intro (ZZ (by omega)) ?_;refine hK _ _ ?_;clear hK K;refine Zy (t:=true) rfl ?_;rw[if_pos rfl];refine Zw ?_;refine Zz ?_;refine Zt ?_;refine Zz ?_;refine ZP [(113,.q [.v (.int .i64 y.1),.sl 2 (eTys y.2.binds) none,.v (.int .i64 y.2.kind),.v (.int .i64 y.2.index),.sl 4 (eTms y.2.args) none]),(120,.q [.v (.int .i64 z)]),(122,.q [.sl 2 (eTys u.args) none,.v (.int .i64 u.base)]),(125,.v (.bool true))] Zl hnt fun K hK=>?_
        refine And.intro (⟨by omega,by rw[Zk];omega⟩) ?_;refine And.intro (Zn.of_eq (by rw[Int.toNat_natCast,hg2])) ?_;refine And.intro (⟨by omega,by rw[Zi];omega⟩) ?_;refine And.intro (Zn.of_eq (by rw[Int.toNat_natCast,hg1])) ?_;refine And.intro (⟨by omega,by rw[Zr];omega⟩) ?_;refine And.intro (Zn.of_eq (by rw[hg3])) ?_;refine Ze (hck) ?_;refine And.intro (Y6 h0) ?_
        refine hK _ _ (by kernel_rfl) ?_;clear hK K;refine Zy (t:=true) rfl ?_;rw[if_pos rfl];refine Zz ?_;refine Zx [(126,.ag [.sl 2 [] none,.v (.int .i64 0),.v (.int .i64 0),.sl 4 [] none])] Zl hnt fun K hK=>?_;refine And.intro (Xl) ?_;refine hK _ _ ?_;clear hK K;refine Zu ?_
        exact Zj rfl
      ·have hja:j=M.length:=by omega
       subst hja
       have hty:Au.sTy code q x.s ar:=fun y hy=>by
        obtain⟨i,hi,rfl⟩:=List.getElem_of_mem hy
        exact hjt i hi (by omega)
       rw[if_neg (show ¬ ¬ Au.sTy code q x.s ar from fun h=>h hty)] at hO;refine Zz ?_;refine Zz ?_;refine Zx [(104,.v (.int .i64 (↑M.length))),(105,.v (.bool false))] Zl hnt fun K hK=>?_;refine And.intro (Zq (by rw[Zi])) ?_;refine And.intro (Zf (by omega)) ?_;refine hK _ _ ?_;clear hK K;refine Zy (t:=false) rfl ?_;rw[if_neg (by simp)];refine Zc ?_
       refine Zz ?_;refine ZP [] Zl hnt fun K hK=>?_;refine hK _ _ (by kernel_rfl) ?_;clear hK K
       obtain⟨f,hf⟩:∃ f,(if x.back=true then q.r else q.l)=f:=⟨_,rfl⟩
       obtain⟨g,hg⟩:∃ g,(if x.back=true then q.l else q.r)=g:=⟨_,rfl⟩
       rw[hf,hg] at hO
       have hfo:f.full≤150∧Bnd 150 f:=by rw[←hf];split <;> assumption
       have hgo:g.full≤150∧Bnd 150 g:=by rw[←hg];split <;> assumption
       refine XW (τ:=[(.t 4,.p 0 0),(.t 6,.p 1 0),(.t 7,.p 2 0),(.t 8,.p 3 0),(.t 10,.p 5 0),(.t 11,.p 24 0),(.t 18,.p 68 0),(.t 19,.p 69 0),(.c 1 0,.sl 2 (eTys t.binds) none),(.c 1 1,.v (.int .i64 t.kind)),(.c 1 2,.v (.int .i64 t.index)),(.c 1 3,.sl 4 (eTms t.args) none),(.c 2 0,.v (.int .i64 x.eq)),(.c 2 1,.v (.bool x.back)),(.c 2 2,.sl 1 (Y4 x.path) none),(.c 2 3,.sl 5 (Z1 x.s) none),(.c 3 0,.v (.slice none 0 0)),(.c 3 1,.v (.int .i64 0)),(.c 3 2,.v (.int .i64 0)),(.c 3 3,.v (.slice none 0 0)),(.c 5 0,.v (.slice none 0 0)),(.c 5 1,.v (.int .i64 0)),(.c 5 2,.v (.int .i64 0)),(.c 5 3,.v (.slice none 0 0)),(.c 24 0,.sl 2 (eTys th.binds) none),(.c 24 1,.v (.int .i64 th.kind)),(.c 24 2,.v (.int .i64 th.index)),(.c 24 3,.sl 4 (eTms th.args) none),(.c 68 0,.sl 2 (eTys f.binds) none),(.c 68 1,.v (.int .i64 f.kind)),(.c 68 2,.v (.int .i64 f.index)),(.c 68 3,.sl 4 (eTms f.args) none),(.c 69 0,.sl 2 (eTys g.binds) none),(.c 69 1,.v (.int .i64 g.kind)),(.c 69 2,.v (.int .i64 g.index)),(.c 69 3,.sl 4 (eTms g.args) none)]) (N1:=70) ?_ ?_
       ·cases hb:x.back with
        | true=>
         rw[hb,if_pos rfl] at hf hg
         subst hf hg
         refine Zz ?_;refine Zx [] Zl hnt fun _ z9=>z9 _ _ ?_;refine Zy (t:=true) rfl ?_;rw[if_pos rfl];refine Zx [] Zl hnt fun _ z9=>z9 _ _ ?_
         exact Ym VS.toA
        | false=>
         rw[hb,if_neg (by decide)] at hf hg
         subst hf hg
         refine Zz ?_;refine Zx [] Zl hnt fun _ z9=>z9 _ _ ?_;refine Zy (t:=false) rfl ?_;rw[if_neg (by simp)];refine Zw ?_
         exact Ym VS.toA
       ·have hAa:=Sq (B:=150) (by decide) x.s (by omega) hsw f hfo.2 (X2 _ (by have:=hfo.1;omega)) 100000 ⟨by decide,by decide⟩
        have hAb:=Sq (B:=150) (by decide) x.s (by omega) hsw g hgo.2 (X2 _ (by have:=hgo.1;omega)) 100000 ⟨by decide,by decide⟩
        have hsb:∀ q∈x.s,Bnd 150 q.2:=fun q hq=>(hsw q hq).1
        have hBb:=Au.img_bnd (s:=x.s) (t:=g) (e:=0) hsb hgo.2
        rw[Au.img_z] at hBb
        obtain⟨⟨a,sa⟩,ha⟩:∃ r,Sb.apply x.s f 100000 false=r:=⟨_,rfl⟩
        obtain⟨⟨c,sc⟩,hcc⟩:∃ r,Sb.apply x.s g 100000 false=r:=⟨_,rfl⟩
        rw[ha] at hAa hO
        rw[hcc] at hAb hO hBb
        dsimp only at hAa hAb hBb
        unfold Au.dfin at hO
        dsimp only at hO
        rw[Zv f,Zv a] at hAa
        rw[Zv g,Zv c] at hAb
        by_cases h2:sa.e≠0
        ·rw[if_pos h2] at hO
         obtain⟨rfl,rfl⟩:=Prod.mk.inj hO
         rw[ez]
         refine Zz ?_;refine Zx [] Zl hnt fun K hK=>?_;refine Ze (hAa) ?_;refine hK _ _ ?_;clear hK K;refine Zz ?_;refine Zz ?_;refine Zx [(144,.v (.bool true))] Zl hnt fun K hK=>?_;refine And.intro (Y6 h2) ?_;refine hK _ _ ?_;clear hK K;refine Zy (t:=true) rfl ?_;rw[if_pos rfl];refine Zz ?_;refine Zx [(145,.ag [.sl 2 [] none,.v (.int .i64 0),.v (.int .i64 0),.sl 4 [] none])] Zl hnt fun K hK=>?_
         refine And.intro (Xl) ?_;refine hK _ _ ?_;clear hK K;refine Zu ?_
         exact Zj rfl
        rw[if_neg h2] at hO
        have h2:sa.e=0:=Classical.byContradiction h2
        by_cases h3:sc.e≠0
        ·rw[if_pos h3] at hO
         obtain⟨rfl,rfl⟩:=Prod.mk.inj hO
         rw[ez]
         refine Zz ?_;refine Zx [] Zl hnt fun K hK=>?_;refine Ze (hAa) ?_;refine hK _ _ ?_;clear hK K;refine Zz ?_;refine Zz ?_;refine Zx [(144,.v (.bool false))] Zl hnt fun K hK=>?_;refine And.intro (Yy h2) ?_;refine hK _ _ ?_;clear hK K;refine Zy (t:=false) rfl ?_;rw[if_neg (by simp)];refine Zw ?_;refine Zz ?_;refine Zx [] Zl hnt fun K hK=>?_
         refine Ze (hAb) ?_;refine hK _ _ ?_;clear hK K;refine Zz ?_;refine Zz ?_;refine Zx [(156,.v (.bool true))] Zl hnt fun K hK=>?_;refine And.intro (Y6 h3) ?_;refine hK _ _ ?_;clear hK K;refine Zy (t:=true) rfl ?_;rw[if_pos rfl];refine Zz ?_;refine Zx [(157,.ag [.sl 2 [] none,.v (.int .i64 0),.v (.int .i64 0),.sl 4 [] none])] Zl hnt fun K hK=>?_;refine And.intro (Xl) ?_
         refine hK _ _ ?_;clear hK K;refine Zu ?_
         exact Zj rfl
        rw[if_neg h3] at hO
        have h3:sc.e=0:=Classical.byContradiction h3
        have hSm:=K0 a (Pn.nb th)
        have enb:eTm (Pn.nb th)=[.sl 2 [] none,.v (.int .i64 th.kind),.v (.int .i64 th.index),.sl 4 (eTms th.args) none]:=by rw[Zv];rfl
        rw[Zv a,enb] at hSm
        by_cases h4:a≠Pn.nb th
        ·rw[if_pos h4] at hO
         obtain⟨rfl,rfl⟩:=Prod.mk.inj hO
         rw[decide_eq_false h4] at hSm
         rw[ez]
         refine Zz ?_;refine Zx [] Zl hnt fun K hK=>?_;refine Ze (hAa) ?_;refine hK _ _ ?_;clear hK K;refine Zz ?_;refine Zz ?_;refine Zx [(144,.v (.bool false))] Zl hnt fun K hK=>?_;refine And.intro (Yy h2) ?_;refine hK _ _ ?_;clear hK K;refine Zy (t:=false) rfl ?_;rw[if_neg (by simp)];refine Zw ?_;refine Zz ?_;refine Zx [] Zl hnt fun K hK=>?_
         refine Ze (hAb) ?_;refine hK _ _ ?_;clear hK K;refine Zz ?_;refine Zz ?_;refine Zx [(156,.v (.bool false))] Zl hnt fun K hK=>?_;refine And.intro (Yy h3) ?_;refine hK _ _ ?_;clear hK K;refine Zy (t:=false) rfl ?_;rw[if_neg (by simp)];refine Zw ?_;refine Zz ?_;refine Zx [] Zl hnt fun _ z9=>z9 _ _ ?_;refine Zz ?_;refine Zz ?_
         refine Zx [(161,.ag [.sl 2 [] none,.v (.int .i64 th.kind),.v (.int .i64 th.index),.sl 4 (eTms th.args) none])] Zl hnt fun K hK=>?_;refine And.intro (Xl) ?_;refine Ze (hSm) ?_;refine hK _ _ ?_;clear hK K;refine Zy (t:=true) rfl ?_;rw[if_pos rfl];refine Zz ?_;refine Zx [(164,.ag [.sl 2 [] none,.v (.int .i64 0),.v (.int .i64 0),.sl 4 [] none])] Zl hnt fun K hK=>?_
         refine And.intro (Xl) ?_;refine hK _ _ ?_;clear hK K;refine Zu ?_
         exact Zj rfl
        rw[if_neg h4] at hO
        have h4:a=Pn.nb th:=Classical.byContradiction h4
        rw[decide_eq_true h4] at hSm
        by_cases h5:c.binds≠[]
        ·rw[if_pos h5] at hO
         obtain⟨rfl,rfl⟩:=Prod.mk.inj hO
         have h5':0<c.binds.length:=List.length_pos_iff.2 h5
         rw[ez]
         refine Zz ?_;refine Zx [] Zl hnt fun K hK=>?_;refine Ze (hAa) ?_;refine hK _ _ ?_;clear hK K;refine Zz ?_;refine Zz ?_;refine Zx [(144,.v (.bool false))] Zl hnt fun K hK=>?_;refine And.intro (Yy h2) ?_;refine hK _ _ ?_;clear hK K;refine Zy (t:=false) rfl ?_;rw[if_neg (by simp)];refine Zw ?_;refine Zz ?_;refine Zx [] Zl hnt fun K hK=>?_
         refine Ze (hAb) ?_;refine hK _ _ ?_;clear hK K;refine Zz ?_;refine Zz ?_;refine Zx [(156,.v (.bool false))] Zl hnt fun K hK=>?_;refine And.intro (Yy h3) ?_;refine hK _ _ ?_;clear hK K;refine Zy (t:=false) rfl ?_;rw[if_neg (by simp)];refine Zw ?_;refine Zz ?_;refine Zx [] Zl hnt fun _ z9=>z9 _ _ ?_;refine Zz ?_;refine Zz ?_
         refine Zx [(161,.ag [.sl 2 [] none,.v (.int .i64 th.kind),.v (.int .i64 th.index),.sl 4 (eTms th.args) none])] Zl hnt fun K hK=>?_;refine And.intro (Xl) ?_;refine Ze (hSm) ?_;refine hK _ _ ?_;clear hK K;refine Zy (t:=false) rfl ?_;rw[if_neg (by simp)];refine Zw ?_;refine Zz ?_;refine Zz ?_;refine Zx [(167,.v (.int .i64 (↑c.binds.length))),(168,.v (.bool true))] Zl hnt fun K hK=>?_
         refine And.intro (Zq (by rw[Zr])) ?_;refine And.intro (ZZ (by omega)) ?_;refine hK _ _ ?_;clear hK K;refine Zy (t:=true) rfl ?_;rw[if_pos rfl];refine Zz ?_;refine Zx [(169,.ag [.sl 2 [] none,.v (.int .i64 0),.v (.int .i64 0),.sl 4 [] none])] Zl hnt fun K hK=>?_;refine And.intro (Xl) ?_;refine hK _ _ ?_;clear hK K;refine Zu ?_
         exact Zj rfl
        rw[if_neg h5] at hO
        have h5:c.binds=[]:=Classical.byContradiction h5
        have h5':c.binds.length=0:=by rw[h5];rfl
        obtain⟨w,hw⟩:=TN x.path t c _ hat
        have hRp:=K3 x.path t c w hw (by omega) htw
        have hws:=(WQ x.path t c w hw).1
        have hRt:=Uo w (by have:=hBb.2;omega)
        rw[hw] at hO
        dsimp only at hO
        rw[Zv t,Zv c,Zv w] at hRp
        rw[Zv w] at hRt
        cases hrt:Li.rt w with
        | true=>
         rw[hrt] at hRt hO
         rw[if_neg (by decide)] at hO
         obtain⟨rfl,rfl⟩:=Prod.mk.inj hO
         rw[Zv w]
         refine Zz ?_;refine Zx [] Zl hnt fun K hK=>?_;refine Ze (hAa) ?_;refine hK _ _ ?_;clear hK K;refine Zz ?_;refine Zz ?_;refine Zx [(144,.v (.bool false))] Zl hnt fun K hK=>?_;refine And.intro (Yy h2) ?_;refine hK _ _ ?_;clear hK K;refine Zy (t:=false) rfl ?_;rw[if_neg (by simp)];refine Zw ?_;refine Zz ?_;refine Zx [] Zl hnt fun K hK=>?_
         refine Ze (hAb) ?_;refine hK _ _ ?_;clear hK K;refine Zz ?_;refine Zz ?_;refine Zx [(156,.v (.bool false))] Zl hnt fun K hK=>?_;refine And.intro (Yy h3) ?_;refine hK _ _ ?_;clear hK K;refine Zy (t:=false) rfl ?_;rw[if_neg (by simp)];refine Zw ?_;refine Zz ?_;refine Zx [] Zl hnt fun _ z9=>z9 _ _ ?_;refine Zz ?_;refine Zz ?_
         refine Zx [(161,.ag [.sl 2 [] none,.v (.int .i64 th.kind),.v (.int .i64 th.index),.sl 4 (eTms th.args) none])] Zl hnt fun K hK=>?_;refine And.intro (Xl) ?_;refine Ze (hSm) ?_;refine hK _ _ ?_;clear hK K;refine Zy (t:=false) rfl ?_;rw[if_neg (by simp)];refine Zw ?_;refine Zz ?_;refine Zz ?_;refine Zx [(167,.v (.int .i64 (↑c.binds.length))),(168,.v (.bool false))] Zl hnt fun K hK=>?_
         refine And.intro (Zq (by rw[Zr])) ?_;refine And.intro (Zf (by omega)) ?_;refine hK _ _ ?_;clear hK K;refine Zy (t:=false) rfl ?_;rw[if_neg (by simp)];refine Zw ?_;refine Zz ?_;refine Zx [] Zl hnt fun K hK=>?_;refine Ze (hRp) ?_;refine hK _ _ ?_;clear hK K;refine Zz ?_;refine Zz ?_;refine Zx [] Zl hnt fun K hK=>?_;refine Ze (hRt) ?_
         refine hK _ _ ?_;clear hK K;refine Zy (t:=false) rfl ?_;rw[if_neg (by simp)];refine Zw ?_;refine Zz ?_;refine Zx [] Zl hnt fun _ z9=>z9 _ _ ?_;refine Zu ?_
         exact Zj rfl
        | false=>
         rw[hrt] at hRt hO
         rw[if_pos rfl] at hO
         obtain⟨rfl,rfl⟩:=Prod.mk.inj hO
         rw[ez]
         refine Zz ?_;refine Zx [] Zl hnt fun K hK=>?_;refine Ze (hAa) ?_;refine hK _ _ ?_;clear hK K;refine Zz ?_;refine Zz ?_;refine Zx [(144,.v (.bool false))] Zl hnt fun K hK=>?_;refine And.intro (Yy h2) ?_;refine hK _ _ ?_;clear hK K;refine Zy (t:=false) rfl ?_;rw[if_neg (by simp)];refine Zw ?_;refine Zz ?_;refine Zx [] Zl hnt fun K hK=>?_
         refine Ze (hAb) ?_;refine hK _ _ ?_;clear hK K;refine Zz ?_;refine Zz ?_;refine Zx [(156,.v (.bool false))] Zl hnt fun K hK=>?_;refine And.intro (Yy h3) ?_;refine hK _ _ ?_;clear hK K;refine Zy (t:=false) rfl ?_;rw[if_neg (by simp)];refine Zw ?_;refine Zz ?_;refine Zx [] Zl hnt fun _ z9=>z9 _ _ ?_;refine Zz ?_;refine Zz ?_
         refine Zx [(161,.ag [.sl 2 [] none,.v (.int .i64 th.kind),.v (.int .i64 th.index),.sl 4 (eTms th.args) none])] Zl hnt fun K hK=>?_;refine And.intro (Xl) ?_;refine Ze (hSm) ?_;refine hK _ _ ?_;clear hK K;refine Zy (t:=false) rfl ?_;rw[if_neg (by simp)];refine Zw ?_;refine Zz ?_;refine Zz ?_;refine Zx [(167,.v (.int .i64 (↑c.binds.length))),(168,.v (.bool false))] Zl hnt fun K hK=>?_
         refine And.intro (Zq (by rw[Zr])) ?_;refine And.intro (Zf (by omega)) ?_;refine hK _ _ ?_;clear hK K;refine Zy (t:=false) rfl ?_;rw[if_neg (by simp)];refine Zw ?_;refine Zz ?_;refine Zx [] Zl hnt fun K hK=>?_;refine Ze (hRp) ?_;refine hK _ _ ?_;clear hK K;refine Zz ?_;refine Zz ?_;refine Zx [] Zl hnt fun K hK=>?_;refine Ze (hRt) ?_
         refine hK _ _ ?_;clear hK K;refine Zy (t:=true) rfl ?_;rw[if_pos rfl];refine Zz ?_;refine Zx [(178,.ag [.sl 2 [] none,.v (.int .i64 0),.v (.int .i64 0),.sl 4 [] none])] Zl hnt fun K hK=>?_;refine And.intro (Xl) ?_;refine hK _ _ ?_;clear hK K;refine Zu ?_
         exact Zj rfl
   ·have hno:¬ Au.sOk q x.s:=fun h=>hlen (by have:=congrArg List.length h.1;rw[List.length_map,hM] at this;exact this)
    rw[if_pos hno] at hO
    obtain⟨rfl,rfl⟩:=Prod.mk.inj hO
    rw[ez]
    refine Zm 0 180 [ResultVar.cell 8 31,ResultVar.tmp 9] Zl Tryz.func28 rfl Tryz.ntmps28 rfl fun cx hnt hn0=>?_
    ·skip
     refine Zz ?_;refine Zx [] Zl hnt fun _ z9=>z9 _ _ ?_;refine Zz ?_;refine Zx [] Zl hnt fun _ z9=>z9 _ _ ?_;refine Zz ?_;refine Zz ?_;refine Zx [(29,.v (.bool false)),(34,.v (.int .i64 (↑eqs.length))),(35,.v (.bool false))] Zl hnt fun K hK=>?_;refine And.intro (Zf (by omega)) ?_;refine And.intro (Zq (by rw[Z5])) ?_
     refine And.intro (Zf (by omega)) ?_;refine hK _ _ ?_;clear hK K;refine Zy (t:=false) rfl ?_;rw[if_neg (by simp)];refine Zw ?_;refine Zz ?_;refine Zx [] Zl hnt fun K hK=>?_;refine Ze (hAt) ?_;refine hK _ _ ?_;clear hK K;refine Zz ?_;refine Zz ?_;refine Zx [] Zl hnt fun _ z9=>z9 _ _ ?_;refine Zy (t:=false) rfl ?_
     rw[if_neg (by simp)];refine Zw ?_;refine Zz ?_;refine Zx [(52,.q [.sl 2 (eTys q.l.binds) none,.v (.int .i64 q.l.kind),.v (.int .i64 q.l.index),.sl 4 (eTms q.l.args) none,.sl 2 (eTys q.r.binds) none,.v (.int .i64 q.r.kind),.v (.int .i64 q.r.index),.sl 4 (eTms q.r.args) none,.sl 2 (eTys q.m) none])] Zl hnt fun K hK=>?_;refine And.intro (⟨by omega,by rw[Z5];omega⟩) ?_
     refine And.intro (Zn.of_eq (by rw[hgd,Yf])) ?_;refine hK _ _ ?_;clear hK K;refine Zz ?_;refine Zx [(58,.sl 4 (eTms [q.l,q.r]) none)] Zl hnt fun K hK=>?_;refine And.intro ((by rw[e2];exact Zn.untag _ _ _)) ?_;refine Ze (hMe) ?_;refine hK _ _ ?_;clear hK K;refine Zz ?_;refine Zz ?_;refine Zx [(62,.v (.int .i64 (↑x.s.length))),(64,.v (.int .i64 (↑M.length))),(65,.v (.bool true))] Zl hnt fun K hK=>?_
     refine And.intro (Zq (by rw[Zk])) ?_;refine And.intro (Zq (by rw[Zi])) ?_;refine And.intro (Y6 (by omega)) ?_;refine hK _ _ ?_;clear hK K;refine Zy (t:=true) rfl ?_;rw[if_pos rfl];refine Zz ?_;refine Zx [(66,.ag [.sl 2 [] none,.v (.int .i64 0),.v (.int .i64 0),.sl 4 [] none])] Zl hnt fun K hK=>?_;refine And.intro (Xl) ?_;refine hK _ _ ?_;clear hK K
     refine Zu ?_
     exact Zj rfl
 ·rw[if_pos (show ¬ (0≤x.eq∧x.eq<(eqs.length:Int)) from h1)] at hO
  obtain⟨rfl,rfl⟩:=Prod.mk.inj hO
  rw[ez]
  unfold SB
  rw[Zv]
  by_cases h0:x.eq<0
  ·skip
   refine Zm 0 180 [ResultVar.cell 8 31,ResultVar.tmp 9] Zl Tryz.func28 rfl Tryz.ntmps28 rfl fun cx hnt hn0=>?_
   ·skip
    refine Zz ?_;refine Zx [] Zl hnt fun _ z9=>z9 _ _ ?_;refine Zz ?_;refine Zx [] Zl hnt fun _ z9=>z9 _ _ ?_;refine Zz ?_;refine Zz ?_;refine Zx [(29,.v (.bool true))] Zl hnt fun K hK=>?_;refine And.intro (ZZ h0) ?_;refine hK _ _ ?_;clear hK K;refine Zy (t:=true) rfl ?_;rw[if_pos rfl];refine Zz ?_
    refine Zx [(37,.ag [.sl 2 [] none,.v (.int .i64 0),.v (.int .i64 0),.sl 4 [] none])] Zl hnt fun K hK=>?_;refine And.intro (Xl) ?_;refine hK _ _ ?_;clear hK K;refine Zu ?_
    exact Zj rfl
  ·skip
   refine Zm 0 180 [ResultVar.cell 8 31,ResultVar.tmp 9] Zl Tryz.func28 rfl Tryz.ntmps28 rfl fun cx hnt hn0=>?_
   ·skip
    refine Zz ?_;refine Zx [] Zl hnt fun _ z9=>z9 _ _ ?_;refine Zz ?_;refine Zx [] Zl hnt fun _ z9=>z9 _ _ ?_;refine Zz ?_;refine Zz ?_;refine Zx [(29,.v (.bool false)),(34,.v (.int .i64 (↑eqs.length))),(35,.v (.bool true))] Zl hnt fun K hK=>?_;refine And.intro (Zf h0) ?_;refine And.intro (Zq (by rw[Z5])) ?_
    refine And.intro (ZZ (by omega)) ?_;refine hK _ _ ?_;clear hK K;refine Zy (t:=true) rfl ?_;rw[if_pos rfl];refine Zz ?_;refine Zx [(37,.ag [.sl 2 [] none,.v (.int .i64 0),.v (.int .i64 0),.sl 4 [] none])] Zl hnt fun K hK=>?_;refine And.intro (Xl) ?_;refine hK _ _ ?_;clear hK K;refine Zu ?_
    exact Zj rfl
def TAUG_62:TI:=⟨4,true,[Value.slice none 0 0,Value.int IntKind.i64 0,Value.int IntKind.i64 0,Value.slice none 0 0],[(0,1,false),(1,2,true),(3,1,false)],none,64,6,none,false⟩
theorem L9:TypOk Tryz.prog 62 TAUG_62:=by constructor <;> kernel_rfl
def TAUG_86:TI:=⟨4,true,[Value.int IntKind.i64 0,Value.bool false,Value.slice none 0 0,Value.slice none 0 0],[(0,1,false),(1,1,false),(2,1,false),(3,1,false)],none,64,6,none,false⟩
theorem L6:TypOk Tryz.prog 86 TAUG_86:=by constructor <;> kernel_rfl
def TAUG_43:TI:=⟨3,true,[Value.int IntKind.i64 0,Value.slice none 0 0,Value.slice none 0 0],[(0,1,false),(1,1,false),(2,1,false)],none,56,6,none,false⟩
theorem LY:TypOk Tryz.prog 43 TAUG_43:=by constructor <;> kernel_rfl
def TAUG_78:TI:=⟨1,false,[Value.slice none 0 0],[],some 86,24,5,none,false⟩
theorem L7:TypOk Tryz.prog 78 TAUG_78:=by constructor <;> kernel_rfl
def TAUG_140:TI:=⟨5,true,[Value.int IntKind.i64 0,Value.slice none 0 0,Value.slice none 0 0,Value.slice none 0 0,Value.int IntKind.i64 0],[(0,3,true),(3,1,false),(4,1,false)],none,88,6,none,false⟩
theorem Px:TypOk Tryz.prog 140 TAUG_140:=by constructor <;> kernel_rfl
def TAUG_50:TI:=⟨1,false,[Value.int IntKind.i64 0],[],none,8,2,none,false⟩
theorem LZ:TypOk Tryz.prog 50 TAUG_50:=by constructor <;> kernel_rfl
def TAUG_138:TI:=⟨1,false,[Value.pointer none],[],none,8,4,none,false⟩
theorem Pw:TypOk Tryz.prog 138 TAUG_138:=by constructor <;> kernel_rfl
def TAUG_3:TI:=⟨1,false,[Value.int IntKind.i64 0],[],none,8,2,none,false⟩
theorem G6:TypOk Tryz.prog 3 TAUG_3:=by constructor <;> kernel_rfl
def TAUG_34:TI:=⟨1,false,[Value.slice none 0 0],[],some 64,24,5,none,false⟩
theorem LX:TypOk Tryz.prog 34 TAUG_34:=by constructor <;> kernel_rfl
def TAUG_64:TI:=⟨9,true,[Value.slice none 0 0,Value.int IntKind.i64 0,Value.int IntKind.i64 0,Value.slice none 0 0,Value.slice none 0 0,Value.int IntKind.i64 0,Value.int IntKind.i64 0,Value.slice none 0 0,Value.slice none 0 0],[(0,4,true),(4,4,true),(8,1,false)],none,152,6,none,false⟩
theorem L8:TypOk Tryz.prog 64 TAUG_64:=by constructor <;> kernel_rfl
def TAUG:List (Nat×TI):=[(62,TAUG_62),(86,TAUG_86),(43,TAUG_43),(78,TAUG_78),(140,TAUG_140),(50,TAUG_50),(138,TAUG_138),(3,TAUG_3),(34,TAUG_34),(64,TAUG_64)]
theorem Wb:Zh Tryz.prog TAUG:=(((((((((((Zh.nil _).cons L8).cons LX).cons G6).cons Pw).cons LZ).cons Px).cons L7).cons LY).cons L6).cons L9)
theorem Ef (ρ:Nat→Nat)(l:List Li.Pr):D.renss ρ (Yp l)=Yp l:=D.renss_id (f:=fun _=>false) (g:=fun _=>false) (fun _ h=>by cases h) _ (UC _ _ l)
theorem Eg (ρ:Nat→Nat)(l:List Au.St):D.renss ρ (Y2 l)=Y2 l:=D.renss_id (f:=fun _=>false) (g:=fun _=>false) (fun _ h=>by cases h) _ (KN _ _ l)
set_option maxHeartbeats 4000000 in
theorem KD (b:Int)(C Mw:List Ty)(eqs:List Li.Pr)(t:Tm)(l:List Au.St)(code:List Ty→Tm→Ty→Int)(hc:∀ X t u,Yt C Mw t X u (code X t u))(hCl:C.length≤1000000)(hMl:Mw.length≤1000000) 
  (hel:eqs.length≤1000) (hes:∀ q∈eqs,Au.EqOk q) (hl:l.length≤1000) (hx:∀ x∈l,Au.SOk x) (ht:Au.TOk t) :
  Zd Tryz.prog 32 [.ag [.v (.int .i64 b),.sl 2 (eTys C) none,.sl 2 (eTys Mw) none],.sl 9 (Yp eqs) none,.ag (eTm t),.sl 4 (Y2 l) none] (.tu [.ag (eTm (Au.chain code eqs l t).1),.v (.int .i64 (Au.chain code eqs l t).2)]):=by
 have h:=Cc b C Mw eqs t l code hc hCl hMl hel hes hl hx ht
 obtain⟨⟨o,e⟩,hO⟩:∃ r,Au.chain code eqs l t=r:=⟨_,rfl⟩
 rw[hO] at h ⊢
 dsimp only at h ⊢
 have h:=h.ren (fun _=>7) (by simp[Au.ck,Vq,D.ok,D.oks,ZQ,YF,XC,Y5,Yk,Yw,UC,KN]) (by intro k h1 k' h2 _;simp[Au.ck,ZQ] at h1 h2;rw[h1,h2])
 simp only[Au.ck,List.map_cons,List.map_nil,D.ren,D.rens,Wy,Key.ren,WK,Ej,Ef,Eg] at h
 rw[Zv t,Zv o] at h ⊢
 refine Zm 0 25 [ResultVar.cell 8 62,ResultVar.tmp 9] Wb Tryz.func32 rfl Tryz.ntmps32 rfl fun cx hnt hn0=>?_
 ·skip
  refine Zz ?_;refine Zx [] Wb hnt fun _ z9=>z9 _ _ ?_;refine Zz ?_;refine Zx [] Wb hnt fun _ z9=>z9 _ _ ?_;refine Zz ?_;refine Zx [] Wb hnt fun K hK=>?_;refine Ze (h) ?_;refine hK _ _ ?_;clear hK K;refine Zz ?_;refine ZP [] Wb hnt fun K hK=>?_;refine hK _ _ (by kernel_rfl) ?_;clear hK K;refine Zu ?_
  exact Zj rfl
theorem Av (b:Int)(C Mw:List Ty)(eqs:List Li.Pr)(t:Tm)(x:Au.St)(code:List Ty→Tm→Ty→Int)(hc:∀ X t u,Yt C Mw t X u (code X t u))(hCl:C.length≤1000000)(hMl:Mw.length≤1000000) 
  (hel:eqs.length≤1000) (hes:∀ q∈eqs,Au.EqOk q) (hx:Au.SOk x) (ht:Au.TOk t) :
  Zd Tryz.prog 26 [.ag [.v (.int .i64 b),.sl 2 (eTys C) none,.sl 2 (eTys Mw) none],.sl 9 (Yp eqs) none,.ag (eTm t),.ag (SB x)] (.tu [.ag (eTm (Au.chain code eqs [x] t).1),.v (.int .i64 (Au.chain code eqs [x] t).2)]):=by
 have h:=KD b C Mw eqs t [x] code hc hCl hMl hel hes (by simp) (fun y hy=>by rw[List.mem_singleton] at hy;subst hy;exact hx) ht
 obtain⟨⟨o,e⟩,hO⟩:∃ r,Au.chain code eqs [x] t=r:=⟨_,rfl⟩
 rw[hO] at h ⊢
 dsimp only at h ⊢
 have eS:Y2 [x]=[SB x]:=rfl
 rw[Zv t,Zv o] at h ⊢
 unfold SB at eS ⊢
 refine Zm 0 18 [ResultVar.cell 8 62,ResultVar.tmp 9] Wb Tryz.func26 rfl Tryz.ntmps26 rfl fun cx hnt hn0=>?_
 ·skip
  refine Zz ?_;refine Zx [] Wb hnt fun _ z9=>z9 _ _ ?_;refine Zz ?_;refine Zx [(14,.sl 4 (Y2 [x]) none)] Wb hnt fun K hK=>?_;refine And.intro ((by rw[eS];exact Zn.untag _ _ _)) ?_;refine Ze (h) ?_;refine hK _ _ ?_;clear hK K;refine Zu ?_
  exact Zj rfl
def TRUR_43:TI:=⟨3,true,[Value.int IntKind.i64 0,Value.slice none 0 0,Value.slice none 0 0],[(0,1,false),(1,1,false),(2,1,false)],none,56,6,none,false⟩
theorem OU:TypOk Tryz.prog 43 TRUR_43:=by constructor <;> kernel_rfl
def TRUR_62:TI:=⟨4,true,[Value.slice none 0 0,Value.int IntKind.i64 0,Value.int IntKind.i64 0,Value.slice none 0 0],[(0,1,false),(1,2,true),(3,1,false)],none,64,6,none,false⟩
theorem OW:TypOk Tryz.prog 62 TRUR_62:=by constructor <;> kernel_rfl
def TRUR_64:TI:=⟨9,true,[Value.slice none 0 0,Value.int IntKind.i64 0,Value.int IntKind.i64 0,Value.slice none 0 0,Value.slice none 0 0,Value.int IntKind.i64 0,Value.int IntKind.i64 0,Value.slice none 0 0,Value.slice none 0 0],[(0,4,true),(4,4,true),(8,1,false)],none,152,6,none,false⟩
theorem OX:TypOk Tryz.prog 64 TRUR_64:=by constructor <;> kernel_rfl
def TRUR_41:TI:=⟨1,false,[Value.slice none 0 0],[],some 106,24,5,none,false⟩
theorem OT:TypOk Tryz.prog 41 TRUR_41:=by constructor <;> kernel_rfl
def TRUR_106:TI:=⟨2,true,[Value.slice none 0 0,Value.int IntKind.i64 0],[(0,1,false),(1,1,false)],none,32,6,none,false⟩
theorem Qd:TypOk Tryz.prog 106 TRUR_106:=by constructor <;> kernel_rfl
def TRUR_3:TI:=⟨1,false,[Value.int IntKind.i64 0],[],none,8,2,none,false⟩
theorem I4:TypOk Tryz.prog 3 TRUR_3:=by constructor <;> kernel_rfl
def TRUR_50:TI:=⟨1,false,[Value.int IntKind.i64 0],[],none,8,2,none,false⟩
theorem OV:TypOk Tryz.prog 50 TRUR_50:=by constructor <;> kernel_rfl
def TRUR:List (Nat×TI):=[(43,TRUR_43),(62,TRUR_62),(64,TRUR_64),(41,TRUR_41),(106,TRUR_106),(3,TRUR_3),(50,TRUR_50)]
theorem Z3:Zh Tryz.prog TRUR:=((((((((Zh.nil _).cons OV).cons I4).cons Qd).cons OT).cons OX).cons OW).cons OU)
set_option maxHeartbeats 4000000 in
theorem VO (b:Int)(C Mw:List Ty)(p:Li.Pr)(hl:p.l.full≤20000∧p.l.Fit)(hr:p.r.full≤20000∧p.r.Fit)(hC:C.length≤900000)(hM:p.m.length≤900000)(hs:∀ t∈C++p.m,t.size≤400000):
  ∃ c:Int,(c=0↔Ru.Good b C p)∧Zd Tryz.prog 46 [.ag [.v (.int .i64 b),.sl 2 (eTys C) none,.sl 2 (eTys Mw) none],.ag (VG p)] (.v (.int .i64 c)):=by
 obtain⟨w,hw⟩:∃ w:Bool,w=true↔XH b C p.m:=by
  by_cases h:XH b C p.m
  ·exact⟨true,by simp[h]⟩
  ·exact⟨false,by simp[h]⟩
 have hW1:=GN b C p.m w hw hs
 have r1:=WR p.l (by omega)
 have r2:=WR p.r (by omega)
 rw[show decide (p.l.size≤5000∧p.l.depth≤60)=Li.rt p.l from rfl] at r1
 rw[show decide (p.r.size≤5000∧p.r.depth≤60)=Li.rt p.r from rfl] at r2
 have t1:=D9 b C p.m p.l (by have:=hl.2;generalize p.l=t at this;cases t;exact(Tm.fit_iff.1 this).2.1) (by omega) (by omega) (by omega)
 rw[Yf]
 rw[Zv] at r1 r2 t1
 cases w with
 | false=>
  refine⟨1,⟨fun h=>absurd h (by decide),fun h=>absurd (hw.2 h.w) (by simp)⟩,?_⟩
  ·skip
   refine Zm 0 59 [ResultVar.tmp 4] Z3 Tryz.func46 rfl Tryz.ntmps46 rfl fun cx hnt hn0=>?_
   ·skip
    refine Zz ?_;refine Zx [] Z3 hnt fun _ z9=>z9 _ _ ?_;refine Zz ?_;refine Zx [] Z3 hnt fun _ z9=>z9 _ _ ?_;refine Zz ?_;refine Zt ?_;refine Zz ?_;refine Zx [] Z3 hnt fun K hK=>?_;refine Ze (hW1) ?_;refine hK _ _ ?_;clear hK K;refine Zy (t:=true) rfl ?_;rw[if_pos rfl];refine Zz ?_;refine Zx [] Z3 hnt fun K hK=>?_
    refine hK _ _ ?_;clear hK K;refine Zu ?_
    exact Zj rfl
 | true=>
 cases hL:Li.rt p.l with
 | false=>
  rw[hL] at r1
  refine⟨2,⟨fun h=>absurd h (by decide),fun h=>absurd h.l (by rw[hL];simp)⟩,?_⟩
  ·skip
   refine Zm 0 59 [ResultVar.tmp 4] Z3 Tryz.func46 rfl Tryz.ntmps46 rfl fun cx hnt hn0=>?_
   ·skip
    refine Zz ?_;refine Zx [] Z3 hnt fun _ z9=>z9 _ _ ?_;refine Zz ?_;refine Zx [] Z3 hnt fun _ z9=>z9 _ _ ?_;refine Zz ?_;refine Zt ?_;refine Zz ?_;refine Zx [] Z3 hnt fun K hK=>?_;refine Ze (hW1) ?_;refine hK _ _ ?_;clear hK K;refine Zy (t:=false) rfl ?_;rw[if_neg (by simp)];refine Zz ?_
    refine Zx [] Z3 hnt fun K hK=>?_;refine Ze (r1) ?_;refine hK _ _ ?_;clear hK K;refine Zy (t:=true) rfl ?_;rw[if_pos rfl];refine Zz ?_;refine Zx [] Z3 hnt fun _ z9=>z9 _ _ ?_;refine Zu ?_
    exact Zj rfl
 | true=>
 rw[hL] at r1
 cases hR:Li.rt p.r with
 | false=>
  rw[hR] at r2
  refine⟨2,⟨fun h=>absurd h (by decide),fun h=>absurd h.r (by rw[hR];simp)⟩,?_⟩
  ·skip
   refine Zm 0 59 [ResultVar.tmp 4] Z3 Tryz.func46 rfl Tryz.ntmps46 rfl fun cx hnt hn0=>?_
   ·skip
    refine Zz ?_;refine Zx [] Z3 hnt fun _ z9=>z9 _ _ ?_;refine Zz ?_;refine Zx [] Z3 hnt fun _ z9=>z9 _ _ ?_;refine Zz ?_;refine Zt ?_;refine Zz ?_;refine Zx [] Z3 hnt fun K hK=>?_;refine Ze (hW1) ?_;refine hK _ _ ?_;clear hK K;refine Zy (t:=false) rfl ?_;rw[if_neg (by simp)];refine Zz ?_
    refine Zx [] Z3 hnt fun K hK=>?_;refine Ze (r1) ?_;refine Ze (r2) ?_;refine hK _ _ ?_;clear hK K;refine Zy (t:=true) rfl ?_;rw[if_pos rfl];refine Zz ?_;refine Zx [] Z3 hnt fun _ z9=>z9 _ _ ?_;refine Zu ?_
    exact Zj rfl
 | true=>
 rw[hR] at r2
 obtain⟨o,ho⟩:∃ o,GO C p.m p.l=o:=⟨_,rfl⟩
 rw[ho] at t1
 cases o with
 | none=>
  simp only[Option.getD_none,Option.isSome_none,Bool.false_eq_true,if_false] at t1
  rw[Xe] at t1
  refine⟨5,⟨fun h=>absurd h (by decide),fun h=>(by obtain⟨u,h,_⟩:=h.u;rw[ho] at h;cases h)⟩,?_⟩
  ·skip
   refine Zm 0 59 [ResultVar.tmp 4] Z3 Tryz.func46 rfl Tryz.ntmps46 rfl fun cx hnt hn0=>?_
   ·skip
    refine Zz ?_;refine Zx [] Z3 hnt fun _ z9=>z9 _ _ ?_;refine Zz ?_;refine Zx [] Z3 hnt fun _ z9=>z9 _ _ ?_;refine Zz ?_;refine Zt ?_;refine Zz ?_;refine Zx [] Z3 hnt fun K hK=>?_;refine Ze (hW1) ?_;refine hK _ _ ?_;clear hK K;refine Zy (t:=false) rfl ?_;rw[if_neg (by simp)];refine Zz ?_
    refine Zx [] Z3 hnt fun K hK=>?_;refine Ze (r1) ?_;refine Ze (r2) ?_;refine hK _ _ ?_;clear hK K;refine Zy (t:=false) rfl ?_;rw[if_neg (by simp)];refine Zw ?_;refine Zz ?_;refine Zx [] Z3 hnt fun K hK=>?_;refine Ze (t1) ?_;refine hK _ _ ?_;clear hK K;refine Zz ?_;refine Zz ?_;refine Zx [(39,.v (.bool true))] Z3 hnt fun K hK=>?_;refine And.intro (Y6 (by decide)) ?_
    refine hK _ _ ?_;clear hK K;refine Zy (t:=true) rfl ?_;rw[if_pos rfl];refine Zz ?_;refine Zx [] Z3 hnt fun _ z9=>z9 _ _ ?_;refine Zu ?_
    exact Zj rfl
 | some u=>
 simp only[Option.getD_some,Option.isSome_some,if_true] at t1
 rw[Zb] at t1
 by_cases hu:u.args=[]
 ·have hu0:u.args.length=0:=by rw[hu];rfl
  by_cases hi1:X1 C p.m p.l [] u
  ·have k1:=Us b C p.m u p.l 0 (by omega) (by omega) (Qj hL hi1) (by omega) hl.2
   rw[decide_eq_true rfl] at k1
   rw[Zv] at k1
   by_cases hi2:X1 C p.m p.r [] u
   ·have k2:=Us b C p.m u p.r 0 (by omega) (by omega) (Qj hR hi2) (by omega) hr.2
    rw[decide_eq_true rfl] at k2
    rw[Zv] at k2
    refine⟨0,⟨fun _=>⟨hw.1 rfl,hL,hR,u,ho,hu,hi1,hi2⟩,fun _=>rfl⟩,?_⟩
    ·skip
     refine Zm 0 59 [ResultVar.tmp 4] Z3 Tryz.func46 rfl Tryz.ntmps46 rfl fun cx hnt hn0=>?_
     ·skip
      refine Zz ?_;refine Zx [] Z3 hnt fun _ z9=>z9 _ _ ?_;refine Zz ?_;refine Zx [] Z3 hnt fun _ z9=>z9 _ _ ?_;refine Zz ?_;refine Zt ?_;refine Zz ?_;refine Zx [] Z3 hnt fun K hK=>?_;refine Ze (hW1) ?_;refine hK _ _ ?_;clear hK K;refine Zy (t:=false) rfl ?_;rw[if_neg (by simp)];refine Zz ?_
      refine Zx [] Z3 hnt fun K hK=>?_;refine Ze (r1) ?_;refine Ze (r2) ?_;refine hK _ _ ?_;clear hK K;refine Zy (t:=false) rfl ?_;rw[if_neg (by simp)];refine Zw ?_;refine Zz ?_;refine Zx [] Z3 hnt fun K hK=>?_;refine Ze (t1) ?_;refine hK _ _ ?_;clear hK K;refine Zz ?_;refine Zz ?_;refine Zx [(39,.v (.bool false)),(43,.v (.int .i64 (↑u.args.length))),(44,.v (.bool false))] Z3 hnt fun K hK=>?_
      refine And.intro (Yy rfl) ?_;refine And.intro (Zq (by rw[Zr])) ?_;refine And.intro Xq ?_;refine hK _ _ ?_;clear hK K;refine Zy (t:=false) rfl ?_;rw[if_neg (by simp)];refine Zw ?_;refine Zz ?_;refine Zx [] Z3 hnt fun _ z9=>z9 _ _ ?_;refine Zz ?_;refine Zz ?_;refine Zx [] Z3 hnt fun K hK=>?_;refine Ze (k1) ?_;refine Ze (k2) ?_
      refine hK _ _ ?_;clear hK K;refine Zy (t:=false) rfl ?_;rw[if_neg (by simp)];refine Zw ?_;refine Zz ?_;refine Zx [] Z3 hnt fun _ z9=>z9 _ _ ?_;refine Zu ?_
      exact Zj rfl
   ·have k2:=Us b C p.m u p.r 5 (by omega) (by omega) (KF hR hi2) (by omega) hr.2
    rw[decide_eq_false (by decide)] at k2
    rw[Zv] at k2
    refine⟨5,⟨fun h=>absurd h (by decide),fun h=>(by obtain⟨u',h,_,_,h4⟩:=h.u;rw[ho] at h;cases h;exact absurd h4 hi2)⟩,?_⟩
    ·skip
     refine Zm 0 59 [ResultVar.tmp 4] Z3 Tryz.func46 rfl Tryz.ntmps46 rfl fun cx hnt hn0=>?_
     ·skip
      refine Zz ?_;refine Zx [] Z3 hnt fun _ z9=>z9 _ _ ?_;refine Zz ?_;refine Zx [] Z3 hnt fun _ z9=>z9 _ _ ?_;refine Zz ?_;refine Zt ?_;refine Zz ?_;refine Zx [] Z3 hnt fun K hK=>?_;refine Ze (hW1) ?_;refine hK _ _ ?_;clear hK K;refine Zy (t:=false) rfl ?_;rw[if_neg (by simp)];refine Zz ?_
      refine Zx [] Z3 hnt fun K hK=>?_;refine Ze (r1) ?_;refine Ze (r2) ?_;refine hK _ _ ?_;clear hK K;refine Zy (t:=false) rfl ?_;rw[if_neg (by simp)];refine Zw ?_;refine Zz ?_;refine Zx [] Z3 hnt fun K hK=>?_;refine Ze (t1) ?_;refine hK _ _ ?_;clear hK K;refine Zz ?_;refine Zz ?_;refine Zx [(39,.v (.bool false)),(43,.v (.int .i64 (↑u.args.length))),(44,.v (.bool false))] Z3 hnt fun K hK=>?_
      refine And.intro (Yy rfl) ?_;refine And.intro (Zq (by rw[Zr])) ?_;refine And.intro Xq ?_;refine hK _ _ ?_;clear hK K;refine Zy (t:=false) rfl ?_;rw[if_neg (by simp)];refine Zw ?_;refine Zz ?_;refine Zx [] Z3 hnt fun _ z9=>z9 _ _ ?_;refine Zz ?_;refine Zz ?_;refine Zx [] Z3 hnt fun K hK=>?_;refine Ze (k1) ?_;refine Ze (k2) ?_
      refine hK _ _ ?_;clear hK K;refine Zy (t:=true) rfl ?_;rw[if_pos rfl];refine Zz ?_;refine Zx [] Z3 hnt fun _ z9=>z9 _ _ ?_;refine Zu ?_
      exact Zj rfl
  ·have k1:=Us b C p.m u p.l 5 (by omega) (by omega) (KF hL hi1) (by omega) hl.2
   rw[decide_eq_false (by decide)] at k1
   rw[Zv] at k1
   refine⟨5,⟨fun h=>absurd h (by decide),fun h=>(by obtain⟨u',h,_,h3,_⟩:=h.u;rw[ho] at h;cases h;exact absurd h3 hi1)⟩,?_⟩
   ·skip
    refine Zm 0 59 [ResultVar.tmp 4] Z3 Tryz.func46 rfl Tryz.ntmps46 rfl fun cx hnt hn0=>?_
    ·skip
     refine Zz ?_;refine Zx [] Z3 hnt fun _ z9=>z9 _ _ ?_;refine Zz ?_;refine Zx [] Z3 hnt fun _ z9=>z9 _ _ ?_;refine Zz ?_;refine Zt ?_;refine Zz ?_;refine Zx [] Z3 hnt fun K hK=>?_;refine Ze (hW1) ?_;refine hK _ _ ?_;clear hK K;refine Zy (t:=false) rfl ?_;rw[if_neg (by simp)];refine Zz ?_
     refine Zx [] Z3 hnt fun K hK=>?_;refine Ze (r1) ?_;refine Ze (r2) ?_;refine hK _ _ ?_;clear hK K;refine Zy (t:=false) rfl ?_;rw[if_neg (by simp)];refine Zw ?_;refine Zz ?_;refine Zx [] Z3 hnt fun K hK=>?_;refine Ze (t1) ?_;refine hK _ _ ?_;clear hK K;refine Zz ?_;refine Zz ?_;refine Zx [(39,.v (.bool false)),(43,.v (.int .i64 (↑u.args.length))),(44,.v (.bool false))] Z3 hnt fun K hK=>?_
     refine And.intro (Yy rfl) ?_;refine And.intro (Zq (by rw[Zr])) ?_;refine And.intro Xq ?_;refine hK _ _ ?_;clear hK K;refine Zy (t:=false) rfl ?_;rw[if_neg (by simp)];refine Zw ?_;refine Zz ?_;refine Zx [] Z3 hnt fun _ z9=>z9 _ _ ?_;refine Zz ?_;refine Zz ?_;refine Zx [] Z3 hnt fun K hK=>?_;refine Ze (k1) ?_;refine hK _ _ ?_;clear hK K
     refine Zy (t:=true) rfl ?_;rw[if_pos rfl];refine Zz ?_;refine Zx [] Z3 hnt fun _ z9=>z9 _ _ ?_;refine Zu ?_
     exact Zj rfl
 ·have hu0:0<u.args.length:=List.length_pos_iff.2 hu
  refine⟨5,⟨fun h=>absurd h (by decide),fun h=>(by obtain⟨u',h,h2,_⟩:=h.u;rw[ho] at h;cases h;exact absurd h2 hu)⟩,?_⟩
  ·skip
   refine Zm 0 59 [ResultVar.tmp 4] Z3 Tryz.func46 rfl Tryz.ntmps46 rfl fun cx hnt hn0=>?_
   ·skip
    refine Zz ?_;refine Zx [] Z3 hnt fun _ z9=>z9 _ _ ?_;refine Zz ?_;refine Zx [] Z3 hnt fun _ z9=>z9 _ _ ?_;refine Zz ?_;refine Zt ?_;refine Zz ?_;refine Zx [] Z3 hnt fun K hK=>?_;refine Ze (hW1) ?_;refine hK _ _ ?_;clear hK K;refine Zy (t:=false) rfl ?_;rw[if_neg (by simp)];refine Zz ?_
    refine Zx [] Z3 hnt fun K hK=>?_;refine Ze (r1) ?_;refine Ze (r2) ?_;refine hK _ _ ?_;clear hK K;refine Zy (t:=false) rfl ?_;rw[if_neg (by simp)];refine Zw ?_;refine Zz ?_;refine Zx [] Z3 hnt fun K hK=>?_;refine Ze (t1) ?_;refine hK _ _ ?_;clear hK K;refine Zz ?_;refine Zz ?_;refine Zx [(39,.v (.bool false)),(43,.v (.int .i64 (↑u.args.length))),(44,.v (.bool true))] Z3 hnt fun K hK=>?_
    refine And.intro (Yy rfl) ?_;refine And.intro (Zq (by rw[Zr])) ?_;refine And.intro YD ?_;refine hK _ _ ?_;clear hK K;refine Zy (t:=true) rfl ?_;rw[if_pos rfl];refine Zz ?_;refine Zx [] Z3 hnt fun _ z9=>z9 _ _ ?_;refine Zu ?_
    exact Zj rfl
def TAUH_62:TI:=⟨4,true,[Value.slice none 0 0,Value.int IntKind.i64 0,Value.int IntKind.i64 0,Value.slice none 0 0],[(0,1,false),(1,2,true),(3,1,false)],none,64,6,none,false⟩
theorem La:TypOk Tryz.prog 62 TAUH_62:=by constructor <;> kernel_rfl
def TAUH_43:TI:=⟨3,true,[Value.int IntKind.i64 0,Value.slice none 0 0,Value.slice none 0 0],[(0,1,false),(1,1,false),(2,1,false)],none,56,6,none,false⟩
theorem L4:TypOk Tryz.prog 43 TAUH_43:=by constructor <;> kernel_rfl
def TAUH_112:TI:=⟨10,true,[Value.slice none 0 0,Value.int IntKind.i64 0,Value.int IntKind.i64 0,Value.slice none 0 0,Value.slice none 0 0,Value.int IntKind.i64 0,Value.int IntKind.i64 0,Value.slice none 0 0,Value.slice none 0 0,Value.slice none 0 0],[(0,9,true),(9,1,false)],none,176,6,none,false⟩
theorem Py:TypOk Tryz.prog 112 TAUH_112:=by constructor <;> kernel_rfl
def TAUH_64:TI:=⟨9,true,[Value.slice none 0 0,Value.int IntKind.i64 0,Value.int IntKind.i64 0,Value.slice none 0 0,Value.slice none 0 0,Value.int IntKind.i64 0,Value.int IntKind.i64 0,Value.slice none 0 0,Value.slice none 0 0],[(0,4,true),(4,4,true),(8,1,false)],none,152,6,none,false⟩
theorem Lb:TypOk Tryz.prog 64 TAUH_64:=by constructor <;> kernel_rfl
def TAUH_78:TI:=⟨1,false,[Value.slice none 0 0],[],some 86,24,5,none,false⟩
theorem Lc:TypOk Tryz.prog 78 TAUH_78:=by constructor <;> kernel_rfl
def TAUH_50:TI:=⟨1,false,[Value.int IntKind.i64 0],[],none,8,2,none,false⟩
theorem L3:TypOk Tryz.prog 50 TAUH_50:=by constructor <;> kernel_rfl
def TAUH_34:TI:=⟨1,false,[Value.slice none 0 0],[],some 64,24,5,none,false⟩
theorem L5:TypOk Tryz.prog 34 TAUH_34:=by constructor <;> kernel_rfl
def TAUH_86:TI:=⟨4,true,[Value.int IntKind.i64 0,Value.bool false,Value.slice none 0 0,Value.slice none 0 0],[(0,1,false),(1,1,false),(2,1,false),(3,1,false)],none,64,6,none,false⟩
theorem Ld:TypOk Tryz.prog 86 TAUH_86:=by constructor <;> kernel_rfl
def TAUH:List (Nat×TI):=[(62,TAUH_62),(43,TAUH_43),(112,TAUH_112),(64,TAUH_64),(78,TAUH_78),(50,TAUH_50),(34,TAUH_34),(86,TAUH_86)]
theorem YS:Zh Tryz.prog TAUH:=(((((((((Zh.nil _).cons Ld).cons L5).cons L3).cons Lc).cons Lb).cons Py).cons L4).cons La)
namespace Au
structure Lm where
 p:Li.Pr
 l:List St
def lemma1 (code:List Ty→Tm→Ty→Int)(eqs:List Li.Pr)(c:Int)(x:Lm):Int:=
 if c≠0 then c else if (chain code eqs x.l x.p.l).2=0∧(chain code eqs x.l x.p.l).1≠x.p.r then 12 else (chain code eqs x.l x.p.l).2
end Au
def D4 (x:Au.Lm):List D:=[.sl 2 (eTys x.p.l.binds) none,.v (.int .i64 x.p.l.kind),.v (.int .i64 x.p.l.index),.sl 4 (eTms x.p.l.args) none,.sl 2 (eTys x.p.r.binds) none,.v (.int .i64 x.p.r.kind),.v (.int .i64 x.p.r.index),.sl 4 (eTms x.p.r.args) none,.sl 2 (eTys x.p.m) none,.sl 4 (Y2 x.l) none]
set_option maxHeartbeats 4000000 in
theorem KE (b:Int)(C Mw:List Ty)(eqs:List Li.Pr)(x:Au.Lm)(c:Int)(code:List Ty→Tm→Ty→Int) 
  (hT:Zd Tryz.prog 46 [.ag [.v (.int .i64 b),.sl 2 (eTys C) none,.sl 2 (eTys Mw) none],.ag (VG x.p)] (.v (.int .i64 c)))
  (hc:∀ X t u,Yt C x.p.m t X u (code X t u)) (hCl:C.length≤1000000) (hMl:x.p.m.length≤1000000) (hCs:Ty.sizes C≤800000) (hMs:Ty.sizes x.p.m≤800000)
  (hel:eqs.length≤1000) (hes:∀ q∈eqs,Au.EqOk q) (hl:x.l.length≤1000) (hx:∀ y∈x.l,Au.SOk y) (ht:Au.TOk x.p.l) :
  Zd Tryz.prog 43 [.ag [.v (.int .i64 b),.sl 2 (eTys C) none,.sl 2 (eTys Mw) none],.sl 9 (Yp eqs) none,.ag (D4 x)] (.v (.int .i64 (Au.lemma1 code eqs c x))):=by
 have hW:=Jw b C Mw x.p hCs hMs
 have hCh:=KD b C x.p.m eqs x.p.l x.l code hc hCl hMl hel hes hl hx ht
 obtain⟨v,hv⟩:∃ v,Au.lemma1 code eqs c x=v:=⟨_,rfl⟩
 rw[hv]
 unfold Au.lemma1 at hv
 obtain⟨⟨o,e⟩,hO⟩:∃ r,Au.chain code eqs x.l x.p.l=r:=⟨_,rfl⟩
 rw[hO] at hCh hv
 dsimp only at hCh hv
 have hE:=Vk o x.p.r
 rw[Yf] at hT hW
 simp only[Zv] at hCh hE
 unfold D4
 by_cases h0:c=0
 ·rw[if_neg (fun h=>h h0)] at hv
  refine Zm 0 42 [ResultVar.tmp 6] YS Tryz.func43 rfl Tryz.ntmps43 rfl fun cx hnt hn0=>?_
  ·skip
   refine Zz ?_;refine Zx [] YS hnt fun _ z9=>z9 _ _ ?_;refine Zz ?_;refine Zz ?_;refine Zx [] YS hnt fun K hK=>?_;refine Ze (hT) ?_;refine hK _ _ ?_;clear hK K;refine Zz ?_;refine Zx [(15,.v (.bool false))] YS hnt fun K hK=>?_;refine And.intro (Yy h0) ?_;refine hK _ _ ?_;clear hK K;refine Zy (t:=false) rfl ?_;rw[if_neg (by simp)]
   refine Zw ?_;refine Zz ?_;refine ZP [] YS hnt fun K hK=>?_;refine Ze (hW) ?_;refine Ze (hCh) ?_;refine hK _ _ (by kernel_rfl) ?_;clear hK K
   by_cases h1:e=0
   ·by_cases h2:o=x.p.r
    ·rw[if_neg (fun h=>h.2 h2)] at hv
     subst hv
     rw[decide_eq_true h2] at hE
     refine Zz ?_;refine Zz ?_;refine Zx [(32,.v (.bool true))] YS hnt fun K hK=>?_;refine And.intro (XU h1) ?_;refine Ze (hE) ?_;refine hK _ _ ?_;clear hK K;refine Zy (t:=false) rfl ?_;rw[if_neg (by simp)];refine Zw ?_;refine Zz ?_;refine Zx [] YS hnt fun _ z9=>z9 _ _ ?_;refine Zu ?_
     exact Zj rfl
    ·rw[if_pos ⟨h1,h2⟩] at hv
     subst hv
     rw[decide_eq_false h2] at hE
     refine Zz ?_;refine Zz ?_;refine Zx [(32,.v (.bool true))] YS hnt fun K hK=>?_;refine And.intro (XU h1) ?_;refine Ze (hE) ?_;refine hK _ _ ?_;clear hK K;refine Zy (t:=true) rfl ?_;rw[if_pos rfl];refine Zx [] YS hnt fun _ z9=>z9 _ _ ?_;refine Zz ?_;refine Zx [] YS hnt fun _ z9=>z9 _ _ ?_;refine Zu ?_
     exact Zj rfl
   ·rw[if_neg (fun h=>h1 h.1)] at hv
    subst hv
    refine Zz ?_;refine Zz ?_;refine Zx [(32,.v (.bool false))] YS hnt fun K hK=>?_;refine And.intro (XT h1) ?_;refine hK _ _ ?_;clear hK K;refine Zy (t:=false) rfl ?_;rw[if_neg (by simp)];refine Zw ?_;refine Zz ?_;refine Zx [] YS hnt fun _ z9=>z9 _ _ ?_;refine Zu ?_
    exact Zj rfl
 ·rw[if_pos h0] at hv
  subst hv
  refine Zm 0 42 [ResultVar.tmp 6] YS Tryz.func43 rfl Tryz.ntmps43 rfl fun cx hnt hn0=>?_
  ·skip
   refine Zz ?_;refine Zx [] YS hnt fun _ z9=>z9 _ _ ?_;refine Zz ?_;refine Zz ?_;refine Zx [] YS hnt fun K hK=>?_;refine Ze (hT) ?_;refine hK _ _ ?_;clear hK K;refine Zz ?_;refine Zx [(15,.v (.bool true))] YS hnt fun K hK=>?_;refine And.intro (Y6 h0) ?_;refine hK _ _ ?_;clear hK K;refine Zy (t:=true) rfl ?_;rw[if_pos rfl]
   refine Zz ?_;refine Zx [] YS hnt fun _ z9=>z9 _ _ ?_;refine Zu ?_
   exact Zj rfl
def TAUI_64:TI:=⟨9,true,[Value.slice none 0 0,Value.int IntKind.i64 0,Value.int IntKind.i64 0,Value.slice none 0 0,Value.slice none 0 0,Value.int IntKind.i64 0,Value.int IntKind.i64 0,Value.slice none 0 0,Value.slice none 0 0],[(0,4,true),(4,4,true),(8,1,false)],none,152,6,none,false⟩
theorem Ln:TypOk Tryz.prog 64 TAUI_64:=by constructor <;> kernel_rfl
def TAUI_34:TI:=⟨1,false,[Value.slice none 0 0],[],some 64,24,5,none,false⟩
theorem Le:TypOk Tryz.prog 34 TAUI_34:=by constructor <;> kernel_rfl
def TAUI_45:TI:=⟨1,false,[Value.slice none 0 0],[],some 112,24,5,none,false⟩
theorem Lh:TypOk Tryz.prog 45 TAUI_45:=by constructor <;> kernel_rfl
def TAUI_112:TI:=⟨10,true,[Value.slice none 0 0,Value.int IntKind.i64 0,Value.int IntKind.i64 0,Value.slice none 0 0,Value.slice none 0 0,Value.int IntKind.i64 0,Value.int IntKind.i64 0,Value.slice none 0 0,Value.slice none 0 0,Value.slice none 0 0],[(0,9,true),(9,1,false)],none,176,6,none,false⟩
theorem QA:TypOk Tryz.prog 112 TAUI_112:=by constructor <;> kernel_rfl
def TAUI_47:TI:=⟨1,true,[Value.slice none 0 0],[(0,1,false)],none,24,6,none,false⟩
theorem Lj:TypOk Tryz.prog 47 TAUI_47:=by constructor <;> kernel_rfl
def TAUI_3:TI:=⟨1,false,[Value.int IntKind.i64 0],[],none,8,2,none,false⟩
theorem G5:TypOk Tryz.prog 3 TAUI_3:=by constructor <;> kernel_rfl
def TAUI_43:TI:=⟨3,true,[Value.int IntKind.i64 0,Value.slice none 0 0,Value.slice none 0 0],[(0,1,false),(1,1,false),(2,1,false)],none,56,6,none,false⟩
theorem Lg:TypOk Tryz.prog 43 TAUI_43:=by constructor <;> kernel_rfl
def TAUI_50:TI:=⟨1,false,[Value.int IntKind.i64 0],[],none,8,2,none,false⟩
theorem Lk:TypOk Tryz.prog 50 TAUI_50:=by constructor <;> kernel_rfl
def TAUI_62:TI:=⟨4,true,[Value.slice none 0 0,Value.int IntKind.i64 0,Value.int IntKind.i64 0,Value.slice none 0 0],[(0,1,false),(1,2,true),(3,1,false)],none,64,6,none,false⟩
theorem Ll:TypOk Tryz.prog 62 TAUI_62:=by constructor <;> kernel_rfl
def TAUI_41:TI:=⟨1,false,[Value.slice none 0 0],[],some 106,24,5,none,false⟩
theorem Lf:TypOk Tryz.prog 41 TAUI_41:=by constructor <;> kernel_rfl
def TAUI_106:TI:=⟨2,true,[Value.slice none 0 0,Value.int IntKind.i64 0],[(0,1,false),(1,1,false)],none,32,6,none,false⟩
theorem Pz:TypOk Tryz.prog 106 TAUI_106:=by constructor <;> kernel_rfl
def TAUI:List (Nat×TI):=[(64,TAUI_64),(34,TAUI_34),(45,TAUI_45),(112,TAUI_112),(47,TAUI_47),(3,TAUI_3),(43,TAUI_43),(50,TAUI_50),(62,TAUI_62),(41,TAUI_41),(106,TAUI_106)]
theorem Y8:Zh Tryz.prog TAUI:=((((((((((((Zh.nil _).cons Pz).cons Lf).cons Ll).cons Lk).cons Lg).cons G5).cons Lj).cons QA).cons Lh).cons Le).cons Ln)
theorem Ow (a:Option Addr)(c nm:Nat):Wa Tryz.prog 47 [.v (.slice a 0 c)] [] nm [(.r nm,.rp 64 9 [])] (.ps nm 0):=by
 refine YI 8 [ResultVar.tmp 2] Y8 (by kernel_rfl) Tryz.func47 rfl Tryz.ntmps47 rfl (by simp) (by simp[D.ok]) (by simp[D.okss]) ?dbody nm
 case dbody=>
  intro cx hnt hn0
  refine Zz ?_;refine Zx [] Y8 hnt fun _ z9=>z9 _ _ ?_
  cases a with
  | none=>
   refine Zz ?_;refine Zz ?_;refine Zx [(4,.v (.bool true))] Y8 hnt fun K hK=>?_;refine And.intro (Zn.refl _) ?_;refine hK _ _ ?_;clear hK K;refine Zy (t:=true) rfl ?_;rw[if_pos rfl];refine Zz ?_;refine Zx [] Y8 hnt fun _ z9=>z9 _ _ ?_
   refine DW.vs (VS.rowPT (x:=2) (by rw[hnt];decide) 64 9 rfl) ?_
   refine Zu ?_
   exact⟨.inr rfl,_,rfl,rfl⟩
  | some a=>
   refine Zz ?_;refine Zz ?_;refine Zx [(4,.v (.bool false))] Y8 hnt fun K hK=>?_;refine And.intro (Zn.refl _) ?_;refine hK _ _ ?_;clear hK K;refine Zy (t:=false) rfl ?_;rw[if_neg (by simp)];refine Zw ?_;refine Zz ?_;refine Zx [(5,.ps 3 0)] Y8 hnt fun K hK=>?_;refine And.intro (Zn.ps0 _ _) ?_;refine And.intro (by decide) ?_;refine hK _ _ ?_;clear hK K
   refine Zu ?_
   exact⟨.inr rfl,_,rfl,rfl⟩
theorem Ql (x:Li.Pr)(l:List Li.Pr)(hl:l.length≤900000)(nm:Nat):Wa Tryz.prog 47 [.sl 9 (Yp (x :: l)) none] [] nm [(.r nm,.rp 64 9 (Yp (x :: l)))] (.ps nm (x :: l).length):=by
 refine YI 8 [ResultVar.tmp 2] Y8 (by kernel_rfl) Tryz.func47 rfl Tryz.ntmps47 rfl (by simp) (by simp[D.ok,UC]) (by simp[D.okss,UC]) ?dbody nm
 case dbody=>
  intro cx hnt hn0
  refine Zz ?_;refine Zx [] Y8 hnt fun _ z9=>z9 _ _ ?_;refine Zz ?_;refine Zz ?_;refine Zx [(4,.v (.bool false))] Y8 hnt fun K hK=>?_;refine And.intro (Zn.refl _) ?_;refine hK _ _ ?_;clear hK K;refine Zy (t:=false) rfl ?_;rw[if_neg (by simp)];refine Zw ?_;refine Zz ?_;refine Zx [(5,.ps 3 0)] Y8 hnt fun K hK=>?_
  refine And.intro (Zn.ps0 _ _) ?_;refine And.intro (by rw[Z5];simp;omega) ?_;refine hK _ _ ?_;clear hK K;refine Zu ?_
  exact⟨.inr rfl,3,by rw[show (x :: l).length=(Yp (x :: l)).length by rw[Z5]];rfl,rfl⟩
theorem E9 (l:List Li.Pr)(hl:l.length≤900000)(nm:Nat):Wa Tryz.prog 47 [.sl 9 (Yp l) none] [] nm [(.r nm,.rp 64 9 (Yp l))] (.ps nm l.length):=by
 cases l with
 | cons x l=>exact Ql x l (by simp at hl;omega) nm
 | nil=>
  refine⟨by kernel_rfl,fun cx Fr m Im w a σ vs hnm hs hv hR=>?_⟩
  match vs,hv with
  | [v],hv=>
   obtain⟨a0,c,bl,off,X,rfl,_⟩:=XZ hv.1
   exact(Ow a0 c nm).2 cx Fr m Im w a σ _ hnm hs ⟨.v _,trivial⟩ hR
theorem DJ (p:Li.Pr)(h1:p.l.full≤900000∧p.l.Fit)(h2:p.r.full≤900000∧p.r.Fit)(h3:Ty.sizes p.m≤800000):Zd Tryz.prog 51 [.ag (VG p)] (.ag (VG p)):=by
 have c1:=Rc p h1 h2 h3
 have c2:=Rc (Ru.swap p) h2 h1 h3
 rw[show Ru.swap (Ru.swap p)=p from rfl] at c2
 rw[Yf p] at c1 c2 ⊢
 rw[Yf (Ru.swap p)] at c1 c2
 refine Zm 0 6 [ResultVar.cell 2 64] Y8 Tryz.func51 rfl Tryz.ntmps51 rfl fun cx hnt hn0=>?_
 ·skip
  refine Zz ?_;refine Zx [] Y8 hnt fun _ z9=>z9 _ _ ?_;refine Zz ?_;refine Zx [] Y8 hnt fun K hK=>?_;refine Ze (c1) ?_;refine Ze (c2) ?_;refine hK _ _ ?_;clear hK K;refine Zu ?_
  exact Zj rfl
def VV (l:List Au.Lm):List (List D):=l.map D4
theorem WW (l:List Au.Lm):(VV l).length=l.length:=List.length_map ..
theorem UY (l:List Au.Lm)(i:Nat)(h:i<l.length):(VV l).getD i []=D4 l[i]:=by
 rw[VV,List.getD_eq_getElem?_getD,List.getElem?_map,List.getElem?_eq_getElem h];rfl
@[simp] theorem BF (f g:Nat→Bool) (x:Au.Lm):D.oks f g (D4 x)=true:=by simp[D4,D.oks,D.ok]
@[simp] theorem Za6 (f g:Nat→Bool) (l:List Au.Lm):D.okss f g (VV l)=true:=D.okss_map _ l fun l _=>BF f g l
theorem Aq (l:List Au.Lm)(hl:l.length≤1000000)(h:∀ x∈l,(x.p.l.full≤900000∧x.p.l.Fit)∧(x.p.r.full≤900000∧x.p.r.Fit)∧Ty.sizes x.p.m≤800000)(hn:l≠[]):
  Zd Tryz.prog 18 [.ag [.sl 10 (VV l) none]] (.tu [.ag (VG (l.getLast hn).p),.v (.bool true)]):=by
 have h0:0<l.length:=List.length_pos_iff.2 hn
 obtain⟨x,hx⟩:∃ x,l.getLast hn=x:=⟨_,rfl⟩
 have hxl:l[l.length-1]=x:=by rw[←hx,List.getLast_eq_getElem]
 obtain⟨k,hk⟩:∃ k:Nat,k+1=l.length:=⟨l.length-1,by omega⟩
 have hxk:l[k]=x:=by rw[←hxl];congr 1;omega
 obtain⟨h1,h2,h3⟩:=h x (hx ▸ List.getLast_mem hn)
 have hp:=DJ x.p h1 h2 h3
 rw[hx]
 rw[Yf] at hp ⊢
 refine Zm 0 19 [ResultVar.cell 2 64,ResultVar.tmp 3] Y8 Tryz.func18 rfl Tryz.ntmps18 rfl fun cx hnt hn0=>?_
 ·skip
  refine Zz ?_;refine Zx [] Y8 hnt fun _ z9=>z9 _ _ ?_;refine Zz ?_;refine Zx [(7,.v (.int .i64 (↑l.length)))] Y8 hnt fun K hK=>?_;refine And.intro (Zq (by rw[WW])) ?_;refine hK _ _ ?_;clear hK K;refine Zz ?_;refine Zz ?_;refine Zx [(9,.v (.bool false))] Y8 hnt fun K hK=>?_;refine And.intro (XT (by omega)) ?_;refine hK _ _ ?_;clear hK K
  refine Zy (t:=false) rfl ?_;rw[if_neg (by simp)];refine Zw ?_;refine Zz ?_;refine Zx [(14,.v (.int .i64 (↑k))),(15,.q [.sl 2 (eTys x.p.l.binds) none,.v (.int .i64 x.p.l.kind),.v (.int .i64 x.p.l.index),.sl 4 (eTms x.p.l.args) none,.sl 2 (eTys x.p.r.binds) none,.v (.int .i64 x.p.r.kind),.v (.int .i64 x.p.r.index),.sl 4 (eTms x.p.r.args) none,.sl 2 (eTys x.p.m) none,.sl 4 (Y2 x.l) none])] Y8 hnt fun K hK=>?_
  refine And.intro (Zq (by (rw[IntWalk.i64_in _ (by omega)];omega))) ?_;refine And.intro (⟨by omega,by rw[WW];omega⟩) ?_;refine And.intro (Zn.of_eq (by rw[Int.toNat_natCast,UY l k (by omega),hxk];rfl)) ?_;refine Ze (hp) ?_;refine hK _ _ ?_;clear hK K;refine Zu ?_
  exact Zj rfl
end Go.Proofs.YtclihnccilkohaaGreat
