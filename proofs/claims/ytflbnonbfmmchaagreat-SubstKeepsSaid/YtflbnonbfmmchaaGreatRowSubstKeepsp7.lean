/-
  Deep values: calls that grow rows of their callers. Package pattern, walked in the deep way: uses, Uses, Is. Deep values: rows that nothing else reads: how they begin, how they are handed on. Sorting that keeps the order of equal keys, in plain words. Places, uses and matching in plain Lean: the document's answer and the program's are one. Package slices' stable sort of pairs, walked in the deep way: insertion, swaps, rotation. Package slices' stable sort of pairs, walked in the deep way: the merge. Package slices' stable sort of pairs, walked in the deep way: the merge of many. Package slices' stable sort of pairs, walked in the deep way: the whole; subst.sorted, subst.Of. Package subst's lists, walked in the deep way: Without, Set, Domain, Get. The document's places and uses, walked in the deep way: All, At, Has, Vars, Uses; loose indexes. The document's uses, and what is taken out, walked in the deep way. The document's Take, walked in the deep way; what is wrong with a pattern. Terms that are the same, as deep contracts. Package match, walked in the deep way: put. Package match, walked in the deep way: walk, may. What matching takes out of a term, put back, is the term; plain. A flexible head's term, put back, is the term; plain.
-/
import Derived.Test.YtflbnonbfmmchaaGreatRowSubstKeepsp6
import Derived.Test.YtflbnonbfmmchaaGreatRowSubstKeepsp5
set_option maxRecDepth 100000
set_option maxHeartbeats 1000000
set_option linter.unusedVariables false
set_option linter.unusedSimpArgs false
namespace Go.Proofs.YtflbnonbfmmchaaGreat
open Go.RowKit
def CallG (P:Program)(f:FuncId)(args:List D)(R W:List (Key×D))(V:D):Prop:=
 entersB P f=true∧∀ cx (Fr:Nat→Prop) m Im w a σ vs,St cx Fr m Im w a σ→RelL m Im w vs args→(∀ p∈R,get σ p.1=some p.2) →
  Calls P f vs.toArray w fun e w'=>∃ v m' Im',e=.returned v∧St cx Fr m' Im' w' a (puts (dropT R σ) W)∧Rel m' Im' w' v V
theorem CallG.n {P:Program}{f:FuncId}{args:List D}{R W:List (Key×D)}{V:D}(h:CallG P f args R W V)(nm:Nat):CallN P f args R nm W V:=
 ⟨h.1,fun cx Fr m Im w a σ vs _ hs hv hR=>(h.2 cx Fr m Im w a σ vs hs hv hR).mono fun e w' ⟨v,m',Im',q1,q2,q3⟩=>⟨v,m',Im',q1,q2.less fun k hk=>hk.1,q3⟩⟩
theorem CallG.vle {P:Program}{f:FuncId}{args args':List D}{R W:List (Key×D)}{V V':D}(h:CallG P f args R W V)(ha:VLeL args' args)(hv:VLe V V'):CallG P f args' R W V':=by
 refine⟨h.1,fun cx Fr m Im w a σ vs hs hr hR=>(h.2 cx Fr m Im w a σ vs hs ?_ hR).mono ?_⟩
 ·rw[relL_iff] at hr ⊢
  refine⟨hr.1.trans ha.1,fun i hi=>?_⟩
  have hi':i<args'.length:=by rw[ha.1];exact hi
  exact ha.2 i hi' hi m Im w _ (hr.2 i hi')
 ·rintro e w' ⟨v,m',Im',rfl,h1,h2⟩
  exact⟨v,m',Im',rfl,h1,hv _ _ _ _ h2⟩
def rowsR (R:List (Key×D)):List Nat:=R.filterMap fun p=>match p.1 with | .r g=>some g | _=>none
def rowN (R:List (Key×D)):Nat→Bool:=fun g=>(rowsR R).contains g
theorem mem_rowsR {R:List (Key×D)}{g:Nat}{d:D}(h:(Key.r g,d)∈R):rowN R g=true:=by
 unfold rowN;rw[List.contains_iff_mem];exact List.mem_filterMap.2 ⟨_,h,rfl⟩
theorem of_rowsR {R:List (Key×D)}{g:Nat}(h:rowN R g=true):∃ d,(Key.r g,d)∈R:=by
 unfold rowN at h;rw[List.contains_iff_mem] at h
 obtain⟨p,hp,e⟩:=List.mem_filterMap.1 h
 obtain⟨key,d⟩:=p
 cases key with
 | r g'=>simp at e;subst e;exact⟨d,hp⟩
 | _=>cases e
def gkey:Key→Bool
 | .c _ _=>true
 | .o _=>true
 | .r _=>true
 | _=>false
def wordsG (args:List D)(R W:List (Key×D))(V:D)(N0:Nat):Bool:=
 args.all (fun d=>d.ok (inN R) (rowN R))&&R.all (fun p=>p.2.ok (inN R) (rowN R)&&gkey p.1)&&W.all (fun p=>p.2.ok (inN R) (rowN R)&&(match p.1 with | .c k _=>inN R k | .o k=>inN R k | .r g=>rowN R g | _=>false))&&V.ok (inN R) (rowN R)&&(rnames R).all (fun k=>decide (k<N0))&&(rowsR R).all (fun g=>decide (g<N0)&&W.any fun p=>Key.eq p.1 (.r g))
set_option maxHeartbeats 2000000 in
theorem callG_of_dw {P:Program}{T:List (Nat×TI)}{f:FuncId}{fn:Func}{c:Code}{args:List D}{R W:List (Key×D)}{V:D}(N0 nt:Nat)(rs:List ResultVar)(hT:TabOk P T)(hen:entersB P f=true)(hf:P.funcs[f]?=some fn)(hb:fn.body=some c)(hnt:fn.ntmps=nt)(hrs:fn.results.toList=rs) 
  (hal:args.length≤nt) (hw:wordsG args R W V N0=true) (h:∀ cx:Cx,cx.nt=nt→cx.n0=N0→DW P cx c (argsT 0 args R) N0 (RetOk T rs V W)):CallG P f args R W V:=by
 refine⟨hen,fun cx Fr m Im w a σ vs hs0 hargs hR=>?_⟩
 have hmem:=hs0.mem
 simp only[wordsG,Bool.and_eq_true,List.all_eq_true,decide_eq_true_eq] at hw
 obtain⟨⟨⟨⟨⟨w1,w2⟩,w3⟩,w4⟩,w5⟩,w6⟩:=hw
 have hRc:∀ k off d,(Key.c k off,d)∈R→∃ b v,m.blk k=some b∧w.cell? ⟨b,off,none⟩=some v∧Rel m Im w v d:=fun k off d hm=>hs0.ce k off d (hR _ hm)
 have hRo:∀ k d,(Key.o k,d)∈R→∃ b,m.obj k=some b∧ObOk m Im w b d:=fun k d hm=>hs0.ok k d (hR _ hm)
 have hRr:∀ g d,(Key.r g,d)∈R→∃ Rw,m.row g=some Rw∧RoOk m Im w Rw d:=fun g d hm=>hs0.ro g d (hR _ hm)
 let RB:Nat→Prop:=fun b=>∃ g Rw,rowN R g=true∧m.row g=some Rw∧Rw.hv.ownBlock=some b
 have hnoj:∀ X J,(Key.j,D.j X J)∉R:=fun X J hm=>by have:=(w2 _ hm).2;cases this
 have hin:∀ k b,inN R k=true→m.blk k=some b→Tch m R b:=fun k b hk hb=>by
  rcases of_rnames hk with⟨off,d,hm⟩ | ⟨d,hm⟩
  ·exact .inl ⟨k,off,d,hm,hb⟩
  ·obtain⟨b',q1,_⟩:=hRo _ _ hm
   have:=hmem.dis k b hb
   rw[this] at q1;cases q1
 have hino:∀ k b,inN R k=true→m.obj k=some b→Tch m R b:=fun k b hk hb=>by
  rcases of_rnames hk with⟨off,d,hm⟩ | ⟨d,hm⟩
  ·obtain⟨b',v,q1,_⟩:=hRc _ _ _ hm
   have:=hmem.dis k b' q1
   rw[this] at hb;cases hb
  ·exact .inr (.inr ⟨k,d,hm,hb⟩)
 have hlt:∀ k,inN R k=true→k<N0:=fun k hk=>w5 k (by unfold inN at hk;rwa [List.contains_iff_mem] at hk)
 have hltr:∀ g,rowN R g=true→g<N0:=fun g hg=>(w6 g (by unfold rowN at hg;rwa [List.contains_iff_mem] at hg)).1
 have hTb:∀ b k,Tch m R b→m.blk k=some b→inN R k=true:=fun b k ht hk=>by
  rcases ht with⟨k',off,d,hm,hb⟩ | ⟨X,J,hm,_⟩ | ⟨k',d,hm,hb⟩
  ·have:=hmem.inj k k' b hk hb;subst this;exact mem_rnames hm
  ·exact absurd hm (hnoj X J)
  ·exact absurd hk (hmem.oblk k' k b hb)
 have hTo:∀ b k,Tch m R b→m.obj k=some b→inN R k=true:=fun b k ht hk=>by
  rcases ht with⟨k',off,d,hm,hb⟩ | ⟨X,J,hm,_⟩ | ⟨k',d,hm,hb⟩
  ·exact absurd hb (hmem.oblk k k' b hk)
  ·exact absurd hm (hnoj X J)
  ·have:=hmem.oinj k k' b hk hb;subst this;exact mem_rnamesO hm
 have hTr:∀ b g Rw,Tch m R b→m.row g=some Rw→Rw.hv.ownBlock≠some b:=fun b g Rw ht hg e=>by
  rcases ht with⟨k',off,d,hm,hb⟩ | ⟨X,J,hm,_⟩ | ⟨k',d,hm,hb⟩
  ·exact hmem.rblk g Rw b k' hg e hb
  ·exact absurd hm (hnoj X J)
  ·exact hmem.orow k' g Rw b hb hg e
 have hTown:∀ b,Tch m R b→cx.C b∨cx.w0.heap.size≤b:=fun b ht=>by
  rcases ht with⟨k',off,d,hm,hb⟩ | ⟨X,J,hm,_⟩ | ⟨k',d,hm,hb⟩
  ·exact hmem.own k' b hb
  ·exact absurd hm (hnoj X J)
  ·exact hmem.oown k' b hb
 have hTim:∀ b o,Tch m R b→¬ Im b o:=fun b o ht=>by
  rcases ht with⟨k',off,d,hm,hb⟩ | ⟨X,J,hm,_⟩ | ⟨k',d,hm,hb⟩
  ·exact hmem.nim k' b o hb
  ·exact absurd hm (hnoj X J)
  ·exact hmem.onim k' b o hb
 have hTX:∀ b X J,Tch m R b→XOk cx m Im w X J→¬ X b:=fun b X J ht hX hb=>by
  rcases ht with⟨k',off,d,hm,hb'⟩ | ⟨X',J',hm,_⟩ | ⟨k',d,hm,hb'⟩
  ·exact hX.blk b k' hb hb'
  ·exact hnoj X' J' hm
  ·exact hX.obj b k' hb hb'
 refine calls_of_wp hf hb ?_
 let cx':Cx:={ w0:=w,C:=fun b=>Tch m R b∨RB b,Im0:=Im,m0:=m.cut (inN R) (rowN R),nt:=nt,n0:=N0,h0:=fun k b hk=>hlt k (Mp.cut_blk hk).1,h0o:=fun k b hk=>hlt k (Mp.cut_obj hk).1,CR:=RB,hCR:=fun b h=>.inr h,h0r:=fun g Rw hg=>hltr g (Mp.cut_row hg).1 }
 have hst:St cx' (fun k=>N0≤k) (m.cut (inN R) (rowN R)) Im w { tmps:=vs.toArray++Array.replicate (fn.ntmps-vs.toArray.size) undef,defers:=[] } (argsT 0 args R):=by
  have hvl:vs.length=args.length:=(relL_iff.1 hargs).1
  refine⟨{
   off:=Off.refl _ _,im:=hmem.im,imb:=fun b o h=>.inl h,im0:=fun b o h=>h
   own:=fun k b hk=>.inl (.inl (hin k b (Mp.cut_blk hk).1 (Mp.cut_blk hk).2))
   lt:=fun k b hk=>hmem.lt k b (Mp.cut_blk hk).2
   free:=fun k b o hk=>hmem.free k b o (Mp.cut_blk hk).2
   nim:=fun k b o hk=>hmem.nim k b o (Mp.cut_blk hk).2
   inj:=fun k k' b hk hk'=>hmem.inj k k' b (Mp.cut_blk hk).2 (Mp.cut_blk hk').2
   row:=fun g R hg=>hmem.row g R (Mp.cut_row hg).2
   rIm:=fun g R b o hg=>hmem.rIm g R b o (Mp.cut_row hg).2
   rblk:=fun g R b k hg hb hk=>hmem.rblk g R b k (Mp.cut_row hg).2 hb (Mp.cut_blk hk).2
   rinj:=fun g g' R R' b hg hg'=>hmem.rinj g g' R R' b (Mp.cut_row hg).2 (Mp.cut_row hg').2
   fr:=fun k hk=>⟨?f1,?f2,?f3⟩
   m0:=fun k b hk=>hk
   m0o:=fun k b hk=>hk
   oown:=fun k b hk=>.inl (.inl (hino k b (Mp.cut_obj hk).1 (Mp.cut_obj hk).2))
   olt:=fun k b hk=>hmem.olt k b (Mp.cut_obj hk).2
   onim:=fun k b o hk=>hmem.onim k b o (Mp.cut_obj hk).2
   oinj:=fun k k' b hk hk'=>hmem.oinj k k' b (Mp.cut_obj hk).2 (Mp.cut_obj hk').2
   oblk:=fun k k' b hk hk'=>hmem.oblk k k' b (Mp.cut_obj hk).2 (Mp.cut_blk hk').2
   orow:=fun k g R b hk hg=>hmem.orow k g R b (Mp.cut_obj hk).2 (Mp.cut_row hg).2
   dis:=fun k b hk=>?dis
   k0:=KeepI.refl _ _
   rown:=fun g Rw b hg hb=>.inr ⟨g,Rw,(Mp.cut_row hg).1,(Mp.cut_row hg).2,hb⟩
   m0r:=fun g Rw hg=>⟨Rw,hg,Nat.le_refl _,fun _=>rfl⟩ },rfl,?sz,fun x d hx=>?tm,fun k off d hx=>?ce,fun g d hx=>?ro,fun d hx=>?jk,fun k d hx=>?okk⟩
  case f1=>
   by_cases hk2:inN R k=true
   ·have:=hlt k hk2;omega
   ·simp[Mp.cut,hk2]
  case f2=>
   by_cases hk2:rowN R k=true
   ·have:=hltr k hk2;omega
   ·simp[Mp.cut,hk2]
  case f3=>
   by_cases hk2:inN R k=true
   ·have:=hlt k hk2;omega
   ·simp[Mp.cut,hk2]
  case dis=>
   have:=hmem.dis k b (Mp.cut_blk hk).2
   show (if _ then m.obj k else none)=none
   rw[this];simp
  case sz=>simp[cx',hvl,hnt];omega
  case tm=>
   rcases get_argsT args 0 x hx with⟨j,h1,h2⟩ | hx
   ·have hj:j<args.length:=by
     rcases Nat.lt_or_ge j args.length with h' | h'
     ·exact h'
     ·rw[List.getElem?_eq_none h'] at h2;cases h2
    rw[List.getElem?_eq_getElem hj] at h2
    cases h2
    have hr:=(relL_iff.1 hargs).2 j hj
    have hx':x=j:=by omega
    subst hx'
    have:(vs.toArray++Array.replicate (fn.ntmps-vs.toArray.size) undef).getD x undef=vs.getD x undef:=by
     have hx2:x<vs.length:=by omega
     rw[Array.getD_eq_getD_getElem?,Array.getElem?_append_left (by simpa using hx2),List.getD_eq_getElem?_getD]
     simp
    show Rel _ _ _ ((vs.toArray++Array.replicate (fn.ntmps-vs.toArray.size) undef).getD x undef) _
    rw[this]
    exact hr.cut (w1 _ (List.getElem_mem hj))
   ·have:=(w2 _ (mem_of_get hx)).2
    cases this
  case ce=>
   rw[get_argsN (fun x=>by simp) args 0] at hx
   have hm:=mem_of_get hx
   obtain⟨b,v,q1,q2,q3⟩:=hRc _ _ _ hm
   exact⟨b,v,by simp only[Mp.cut,mem_rnames hm,if_true];exact q1,q2,q3.cut (w2 _ hm).1⟩
  case ro=>
   rw[get_argsN (fun x=>by simp) args 0] at hx
   have hm:=mem_of_get hx
   obtain⟨Rw,q1,q2⟩:=hRr _ _ hm
   exact⟨Rw,by simp only[Mp.cut,mem_rowsR hm,if_true];exact q1,q2.cut (w2 _ hm).1⟩
  case jk=>
   rw[get_argsN (fun x=>by simp) args 0] at hx
   have:=(w2 _ (mem_of_get hx)).2
   cases this
  case okk=>
   rw[get_argsN (fun x=>by simp) args 0] at hx
   have hm:=mem_of_get hx
   obtain⟨b,q1,q2⟩:=hRo _ _ hm
   exact⟨b,by simp only[Mp.cut,mem_rnamesO hm,if_true];exact q1,q2.cut (w2 _ hm).1⟩
 refine Code.wp_mono (fun e a' w' ⟨σ',N',m',Im',⟨hq1,⟨V',hq2,hq3⟩,hq4⟩,hs⟩=>?_) (h cx' rfl rfl _ Im w _ hst)
 obtain⟨v,r1,r2⟩:=resD_run (P:=P) (fn:=fn) hT hs (by rw[hrs];exact hq2)
 have hmem':=hs.mem
 have hoff:Off (fun b=>Tch m R b∨RB b) w w':=hmem'.off
 have hki:KeepI Im w w':=hmem'.k0
 have hi:∀ b o,Im b o→Im' b o:=hmem'.im0
 have hib:∀ b o,Im' b o→Im b o∨w.heap.size≤b∨RB b:=hmem'.imb
 have hrown:∀ g Rw b,m'.row g=some Rw→Rw.hv.ownBlock=some b→w.heap.size≤b∨RB b:=hmem'.rown
 have hsame:∀ b,b<w.heap.size→¬ Tch m R b→¬ RB b→w'.heap[b]?=w.heap[b]?:=fun b hb h1 h2=>hoff.block b hb fun h=>h.elim h1 h2
 have hmb:∀ k b,inN R k=true→m.blk k=some b→m'.blk k=some b:=fun k b hk hb=>hmem'.m0 k b (by show (m.cut (inN R) (rowN R)).blk k=some b;simp[Mp.cut,hk,hb])
 have hmo:∀ k b,inN R k=true→m.obj k=some b→m'.obj k=some b:=fun k b hk hb=>hmem'.m0o k b (by show (m.cut (inN R) (rowN R)).obj k=some b;simp[Mp.cut,hk,hb])
 have hm':∀ k b,inN R k=true→m'.blk k=some b→m.blk k=some b:=fun k b hk hb=>by
  rcases of_rnames hk with⟨off,d,hm⟩ | ⟨d,hm⟩
  ·obtain⟨b',_,q1,_⟩:=hRc _ _ _ hm
   have:=hmb k b' hk q1
   rw[this] at hb;cases hb;exact q1
  ·obtain⟨b',q1,_⟩:=hRo _ _ hm
   have:=hmo k b' hk q1
   rw[hmem'.dis k b hb] at this;cases this
 have hmo':∀ k b,inN R k=true→m'.obj k=some b→m.obj k=some b:=fun k b hk hb=>by
  rcases of_rnames hk with⟨off,d,hm⟩ | ⟨d,hm⟩
  ·obtain⟨b',_,q1,_⟩:=hRc _ _ _ hm
   have:=hmb k b' hk q1
   rw[hmem'.dis k b' this] at hb;cases hb
  ·obtain⟨b',q1,_⟩:=hRo _ _ hm
   have:=hmo k b' hk q1
   rw[this] at hb;cases hb;exact q1
 let m2:Mp:=⟨m.blk,fun g=>if rowN R g then m'.row g else m.row g,m.obj⟩
 have h2r:∀ {g Rw},m2.row g=some Rw→(rowN R g=true∧m'.row g=some Rw)∨(rowN R g=false∧m.row g=some Rw):=fun {g Rw} hg=>by
  cases hr:rowN R g with
  | true=>left;simp[m2,hr] at hg;exact⟨rfl,hg⟩
  | false=>right;simp[m2,hr] at hg;exact⟨rfl,hg⟩
 have hRBr:∀ b g Rw,RB b→m.row g=some Rw→Rw.hv.ownBlock=some b→rowN R g=true:=fun b g Rw ⟨g2,R2,q1,q2,q3⟩ hg ho=>by
  have:=hmem.rinj g2 g R2 Rw b q2 hg q3 ho
  subst this;exact q1
 have hRBb:∀ b k,RB b→m.blk k≠some b:=fun b k ⟨g2,R2,q1,q2,q3⟩=>hmem.rblk g2 R2 b k q2 q3
 have hRBo:∀ b k,RB b→m.obj k≠some b:=fun b k ⟨g2,R2,q1,q2,q3⟩ hk=>hmem.orow k g2 R2 b hk q2 q3
 have hRBw:∀ b,RB b→cx.w0.heap.size≤b∨cx.CR b:=fun b ⟨g2,R2,q1,q2,q3⟩=>hmem.rown g2 R2 b q2 q3
 have hrlt:∀ g Rw b,m.row g=some Rw→Rw.hv.ownBlock=some b→b<w.heap.size:=fun g Rw b hg ho=>by
  obtain⟨xs,hx⟩:=hmem.row g Rw hg
  exact(row_lt hx ho).2
 have hle:m.le m2:=⟨fun _ _ h=>h,fun g Rw hg=>by
  cases hr:rowN R g with
  | true=>
   obtain⟨R',q1,q2⟩:=hmem'.m0r g Rw (by show (m.cut (inN R) (rowN R)).row g=some Rw;simp[Mp.cut,hr,hg])
   exact⟨R',by simp[m2,hr,q1],q2⟩
  | false=>exact⟨Rw,by simp[m2,hr,hg],Nat.le_refl _,fun _=>rfl⟩,fun _ _ h=>h⟩
 have hcutle:(m'.cut (inN R) (rowN R)).le m2:=⟨fun k b hk=>hm' k b (Mp.cut_blk hk).1 (Mp.cut_blk hk).2,fun g Rw hg=>⟨Rw,by simp[m2,(Mp.cut_row hg).1,(Mp.cut_row hg).2],Nat.le_refl _,fun _=>rfl⟩,fun k b hk=>hmo' k b (Mp.cut_obj hk).1 (Mp.cut_obj hk).2⟩
 have hrel:∀ {x d},Rel m' Im' w' x d→d.ok (inN R) (rowN R)=true→Rel m2 Im' w' x d:=fun hx hd=>(hx.cut hd).mono hcutle (KeepI.refl _ _) fun _ _ h=>h
 have hmono:∀ {x d},Rel m Im w x d→Rel m2 Im' w' x d:=fun hx=>hx.mono hle hki hi
 have hmem2:MemOk cx Fr m2 Im' w':={
  off:=⟨hoff.os.trans hmem.off.os,hoff.tape.trans hmem.off.tape,hoff.output.trans hmem.off.output,Nat.le_trans hmem.off.size hoff.size,fun b hb hC=>(hsame b (Nat.lt_of_lt_of_le hb hmem.off.size) (fun h=>(hTown b h).elim hC fun h=>Nat.lt_irrefl _ (Nat.lt_of_lt_of_le hb h)) (fun h=>(hRBw b h).elim (fun h=>Nat.lt_irrefl _ (Nat.lt_of_lt_of_le hb h)) fun h=>hC (cx.hCR b h))).trans (hmem.off.block b hb hC)⟩
  im:=hmem'.im
  imb:=fun b o hh=>by
   rcases hib b o hh with h1 | h1 | h1
   ·exact hmem.imb b o h1
   ·exact .inr (.inl (Nat.le_trans hmem.off.size h1))
   ·exact .inr (hRBw b h1)
  im0:=fun b o hh=>hi b o (hmem.im0 b o hh)
  own:=hmem.own
  lt:=fun k b hk=>Nat.lt_of_lt_of_le (hmem.lt k b hk) hoff.size
  free:=fun k b o hk=>by
   cases hn:inN R k with
   | true=>exact hmem'.free k b o (hmb k b hn hk)
   | false=>exact(World.frozen?_of_block (a:=⟨b,o,none⟩) (hsame b (hmem.lt k b hk) (fun h=>by rw[hTb b k h hk] at hn;cases hn) fun h=>hRBb b k h hk)).trans (hmem.free k b o hk)
  nim:=fun k b o hk hh=>by
   cases hn:inN R k with
   | true=>exact hmem'.nim k b o (hmb k b hn hk) hh
   | false=>
    rcases hib b o hh with h1 | h1 | h1
    ·exact hmem.nim k b o hk h1
    ·have:=hmem.lt k b hk;omega
    ·exact hRBb b k h1 hk
  inj:=hmem.inj
  row:=fun g Rw hg=>by
   rcases h2r hg with⟨_,hg⟩ | ⟨hn,hg⟩
   ·exact hmem'.row g Rw hg
   ·obtain⟨xs,hx⟩:=hmem.row g Rw hg
    refine⟨xs,hx.1,?_⟩
    rcases hx.2 with h0 | ⟨g',cap,cur,e,h1,h2,h3⟩
    ·exact .inl h0
    ·refine .inr ⟨g',cap,cur,e,h1,?_,h3⟩
     have ho:Rw.hv.ownBlock=some g':=by rw[e];rfl
     rw[hsame g' (lt_of_block h2) (fun ht=>hTr g' g Rw ht hg ho) fun ht=>by rw[hRBr g' g Rw ht hg ho] at hn;cases hn];exact h2
  rIm:=fun g Rw b o hg ho hh=>by
   rcases h2r hg with⟨_,hg⟩ | ⟨hn,hg⟩
   ·exact hmem'.rIm g Rw b o hg ho hh
   ·rcases hib b o hh with h1 | h1 | h1
    ·exact hmem.rIm g Rw b o hg ho h1
    ·have:=hrlt g Rw b hg ho;omega
    ·rw[hRBr b g Rw h1 hg ho] at hn;cases hn
  rblk:=fun g Rw b k hg ho hk=>by
   rcases h2r hg with⟨_,hg⟩ | ⟨hn,hg⟩
   ·rcases hrown g Rw b hg ho with h1 | h1
    ·have:=hmem.lt k b hk;omega
    ·exact hRBb b k h1 hk
   ·exact hmem.rblk g Rw b k hg ho hk
  rinj:=fun g g' Rw Rw' b hg hg' ho ho'=>by
   rcases h2r hg with⟨hn,hg⟩ | ⟨hn,hg⟩ <;> rcases h2r hg' with⟨hn',hg'⟩ | ⟨hn',hg'⟩
   ·exact hmem'.rinj g g' Rw Rw' b hg hg' ho ho'
   ·rcases hrown g Rw b hg ho with h1 | h1
    ·have:=hrlt g' Rw' b hg' ho';omega
    ·rw[hRBr b g' Rw' h1 hg' ho'] at hn';cases hn'
   ·rcases hrown g' Rw' b hg' ho' with h1 | h1
    ·have:=hrlt g Rw b hg ho;omega
    ·rw[hRBr b g Rw h1 hg ho] at hn;cases hn
   ·exact hmem.rinj g g' Rw Rw' b hg hg' ho ho'
  fr:=fun k hk=>⟨(hmem.fr k hk).1,by
   cases hn:rowN R k with
   | true=>
    obtain⟨d,hm⟩:=of_rowsR hn
    obtain⟨Rw,q1,_⟩:=hRr _ _ hm
    rw[(hmem.fr k hk).2.1] at q1;cases q1
   | false=>simp[m2,hn,(hmem.fr k hk).2.1],(hmem.fr k hk).2.2⟩
  m0:=hmem.m0
  m0o:=hmem.m0o
  oown:=hmem.oown
  olt:=fun k b hk=>Nat.lt_of_lt_of_le (hmem.olt k b hk) hoff.size
  onim:=fun k b o hk hh=>by
   cases hn:inN R k with
   | true=>exact hmem'.onim k b o (hmo k b hn hk) hh
   | false=>
    rcases hib b o hh with h1 | h1 | h1
    ·exact hmem.onim k b o hk h1
    ·have:=hmem.olt k b hk;omega
    ·exact hRBo b k h1 hk
  oinj:=hmem.oinj
  oblk:=hmem.oblk
  orow:=fun k g Rw b hk hg ho=>by
   rcases h2r hg with⟨_,hg⟩ | ⟨hn,hg⟩
   ·rcases hrown g Rw b hg ho with h1 | h1
    ·have:=hmem.olt k b hk;omega
    ·exact hRBo b k h1 hk
   ·exact hmem.orow k g Rw b hk hg ho
  dis:=hmem.dis
  k0:=hmem.k0.trans (hki.weaken hmem.im0)
  rown:=fun g Rw b hg ho=>by
   rcases h2r hg with⟨_,hg⟩ | ⟨hn,hg⟩
   ·rcases hrown g Rw b hg ho with h1 | h1
    ·exact .inl (Nat.le_trans hmem.off.size h1)
    ·exact hRBw b h1
   ·exact hmem.rown g Rw b hg ho
  m0r:=hmem.m0r_le hle }
 have hg0:∀ k,get (dropT R σ) k=if touches R k then none else get σ k:=fun k=>by
  unfold dropT
  rw[get_filter (fun k=>!touches R k)]
  cases touches R k <;> rfl
 let keep:Key→Bool:=fun k=>match k with | .r g=>!rowN R g | _=>true
 have hg1:∀ k,get ((dropT R σ).filter fun p=>keep p.1) k=if keep k then get (dropT R σ) k else none:=fun k=>get_filter keep _ k
 have hst1:St cx Fr m2 Im' w' a ((dropT R σ).filter fun p=>keep p.1):=by
  refine⟨hmem2,hs0.df,hs0.nt,fun x d hx=>?_,fun k off d hx=>?_,fun g d hx=>?_,fun d hx=>?_,fun k d hx=>?_⟩
  ·rw[hg1,if_pos rfl,hg0] at hx;simp only[touches] at hx;exact hmono (hs0.tm x d hx)
  ·rw[hg1,if_pos rfl,hg0] at hx
   by_cases ht:touches R (.c k off)=true
   ·rw[if_pos ht] at hx;cases hx
   ·rw[if_neg ht] at hx
    obtain⟨b,u,q1,q2,q3⟩:=hs0.ce k off d hx
    refine⟨b,u,q1,?_,hmono q3⟩
    refine(World.cell?_of_block (a:=⟨b,off,none⟩) (hsame b (ltOfCell q2) (fun hb=>?_) fun hb=>hRBb b k hb q1)).trans q2
    rcases hb with⟨k',off',d',hm,hb⟩ | ⟨X,J,hm,hb⟩ | ⟨k',d',hm,hb⟩
    ·have:=hmem.inj k k' b q1 hb
     subst this
     exact ht (by simp only[touches,List.any_eq_true];exact⟨_,hm,by simp⟩)
    ·exact absurd hm (hnoj X J)
    ·exact hmem.oblk k' k b hb q1
  ·rw[hg1] at hx
   cases hn:rowN R g with
   | true=>simp[keep,hn] at hx
   | false=>
    rw[if_pos (by simp[keep,hn]),hg0] at hx;simp only[touches] at hx
    obtain⟨Rw,q1,q2⟩:=hs0.ro g d hx
    exact⟨Rw,by simp[m2,hn,q1],q2.mono (fun b hb=>hsame b (hmem.rlt q1 hb) (fun ht=>hTr b g Rw ht q1 hb) fun ht=>by rw[hRBr b g Rw ht q1 hb] at hn;cases hn) hle hki hi fun b o hb hh=>(hib b o hh).elim id fun h2=>h2.elim (fun h2=>absurd (hmem.rlt q1 hb) (Nat.not_lt.2 h2)) fun ht=>by rw[hRBr b g Rw ht q1 hb] at hn;cases hn⟩
  ·rw[hg1,if_pos rfl,hg0] at hx
   have ht:touches R .j=false:=by
    cases ht:touches R .j with
    | false=>rfl
    | true=>
     simp only[touches,List.any_eq_true] at ht
     obtain⟨⟨k,d'⟩,hp,hj⟩:=ht
     cases k <;> simp[isJ] at hj
     have:=(w2 _ hp).2;cases this
   rw[ht] at hx
   obtain⟨X,J,e,hX⟩:=hs0.jk d hx
   have hRX:∀ b,X b→¬ RB b:=fun b hb ⟨g2,R2,q1,q2,q3⟩=>hX.row b g2 R2 hb q2 q3
   have hxs:∀ b,X b→w'.heap[b]?=w.heap[b]?:=fun b hb=>hsame b (hX.lt b hb) (fun ht=>hTX b X J ht hX hb) (hRX b hb)
   refine⟨X,J,e,hX.stable _ hoff.size hxs,fun w2 hs2 hx2=>hX.stable w2 (Nat.le_trans hoff.size hs2) fun b hb=>(hx2 b hb).trans (hxs b hb),fun b hb=>Nat.lt_of_lt_of_le (hX.lt b hb) hoff.size,hX.own,fun b o hb hh=>?_,hX.blk,fun b g Rw hb hg ho=>?_,hX.obj⟩
   ·rcases hib b o hh with h1 | h1 | h1
    ·exact hX.nim b o hb h1
    ·have:=hX.lt b hb;omega
    ·exact hRX b hb h1
   ·rcases h2r hg with⟨_,hg⟩ | ⟨hn,hg⟩
    ·rcases hrown g Rw b hg ho with h1 | h1
     ·have:=hX.lt b hb;omega
     ·exact hRX b hb h1
    ·exact hX.row b g Rw hb hg ho
  ·rw[hg1,if_pos rfl,hg0] at hx
   by_cases ht:touches R (.o k)=true
   ·rw[if_pos ht] at hx;cases hx
   ·rw[if_neg ht] at hx
    obtain⟨b,q1,q2⟩:=hs0.ok k d hx
    refine⟨b,q1,q2.mono (hsame b (hmem.olt k b q1) (fun hT=>?_) fun hb=>hRBo b k hb q1) hle hki hi⟩
    rcases hT with⟨k',off',d',hm,hb'⟩ | ⟨X',J',hm,hb'⟩ | ⟨k',d',hm,hb'⟩
    ·exact hmem.oblk k k' b q1 hb'
    ·exact hnoj X' J' hm
    ·have:=hmem.oinj k k' b q1 hb'
     subst this
     exact ht (by simp only[touches,List.any_eq_true];exact⟨_,hm,by simp⟩)
 have hW:Holds cx m2 Im' w' W:=fun p hp=>by
  have hok:=w3 p hp
  have hg:=hq4 p hp
  obtain⟨key,d⟩:=p
  cases key with
  | c k off=>
   have hk:inN R k=true:=hok.2
   rcases hg with hg | ⟨d',hg,e,_⟩
   ·obtain⟨b,x,q1,q2,q3⟩:=hs.ce k off d hg
    exact⟨b,x,hm' k b hk q1,q2,hrel q3 hok.1⟩
   ·obtain⟨b,x,q1,q2,q3⟩:=hs.ce k off d' hg
    exact⟨b,x,hm' k b hk q1,q2,hrel (e _ _ _ _ q3) hok.1⟩
  | o k=>
   have hk:inN R k=true:=hok.2
   rcases hg with hg | ⟨d',hg,e,hf⟩
   ·obtain⟨b,q1,q2⟩:=hs.ok k d hg
    exact⟨b,hmo' k b hk q1,(q2.cut hok.1).mono rfl hcutle (KeepI.refl _ _) fun _ _ h=>h⟩
   ·exact hf.elim
  | r g=>
   have hk:rowN R g=true:=hok.2
   rcases hg with hg | ⟨d',hg,e,hf⟩
   ·obtain⟨Rw,q1,q2⟩:=hs.ro g d hg
    exact⟨Rw,by simp[m2,hk,q1],(q2.cut hok.1).mono (fun _ _=>rfl) hcutle (KeepI.refl _ _) (fun _ _ h=>h) fun _ _ _ h=>h⟩
   ·exact hf.elim
  | j=>cases hok.2
  | t x=>cases hok.2
 have hst2:=(hst1.putHolds hW).sub (σ':=puts (dropT R σ) W) fun k d hk=>by
  by_cases hW:∃ p∈W,p.1=k
  ·rw[←hk];exact get_puts_in W _ _ k hW
  ·have hW':∀ p∈W,p.1≠k:=fun p hp e=>hW ⟨p,hp,e⟩
   rw[get_puts_not W _ _ hW'] at hk ⊢
   rw[hg1,if_pos]
   ·exact hk
   ·cases k with
    | r g=>
     show (!rowN R g)=true
     cases hn:rowN R g with
     | false=>rfl
     | true=>
      have:=(w6 g (by unfold rowN at hn;rwa [List.contains_iff_mem] at hn)).2
      simp only[List.any_eq_true] at this
      obtain⟨p,hp,e⟩:=this
      exact absurd (Key.eq_iff.1 e) (hW' p hp)
    | _=>rfl
 have hfin:∃ v' m2 Im2,Ending.returned v=.returned v'∧St cx Fr m2 Im2 w' a (puts (dropT R σ) W)∧Rel m2 Im2 w' v' V:=
  ⟨v,m2,Im',rfl,hst2,hrel (hq3 _ _ _ _ r2) w4⟩
 rcases hq1 with rfl | rfl
 ·exact⟨hs.df,v,r1,hfin⟩
 ·exact⟨hs.df,v,r1,hfin⟩
def eUse (u:Pn.Use):List D:=[.v (.int .i64 u.mt),.sl 1 (eIs u.vars) none,.sl 2 (eTys u.binds) none,.sl 1 (eIs u.path) none]
def eUses (l:List Pn.Use):List (List D):=l.map eUse
@[simp] theorem eUses_ok (f g:Nat→Bool) (l:List Pn.Use):D.okss f g (eUses l)=true:=D.okss_map _ l fun u _=>by simp[eUse,D.oks,D.ok,eIs_ok,eTys_ok]
namespace Pn
end Pn
theorem VLe.ps0 (n g:Nat):VLe (.sl n [] (some g)) (.ps g 0):=fun m Im w x h=>by
 cases h with
 | sl a c bl off n X l r h1 ha hc hn ho hr hg=>exact .ps a c g 0 (fun h=>absurd h (by omega)) (Nat.zero_le _) (hg g rfl)
section
variable {P:Program} {T:List (Nat×TI)} {cx:Cx} {Fr Fr':Nat→Prop} {m m':Mp} {Im Im':Nat→Nat→Prop} {w w':World} {a:Act} {σ σ' τ:List (Key×D)} {N N':Nat} {Q:Exit→List (Key×D)→Nat→Prop}
theorem VS.thaw {g E n:Nat}(h:get σ (.r g)=some (.rw E n 0)):VS cx σ N (put1 (.r g) (.rp E n []) σ) N:=fun m Im w a hs=>by
 obtain⟨R,hR,hro⟩:=hs.ro g _ h
 have e:=hro.rwi
 injection e with e1 e2 e3
 obtain⟨xs,hx⟩:=hs.mem.row g R hR
 have hxs:xs=[]:=by
  have:=hx.1
  rw[←e3,Nat.zero_mul] at this
  exact List.length_eq_zero_iff.1 this
 subst hxs
 refine⟨m,hs.putro hR ?_⟩
 rw[e1,e2]
 refine .rp (R:=R) [] [] (by rw[←e3];rfl) (fun i h=>absurd h (by simp)) hx (fun u h=>absurd h (by simp)) (fun i h=>absurd h (by simp)) fun b o hb hi=>?_
 have:=hs.mem.rIm g R b o hR hb hi
 rw[←e3,Nat.zero_mul] at this
 omega
theorem VS.rowPT {x:Nat}(hx:x<cx.nt)(E n:Nat)(h:get σ (.t x)=some (.v (.slice none 0 0))):VS cx σ N (put1 (.r N) (.rp E n []) (put1 (.t x) (.ps N 0) σ)) (N+1):=fun m Im w a hs=>by
 obtain⟨m',h'⟩:=((VS.rowT (N:=N) hx E n h).trans (VS.thaw (g:=N) (E:=E) (n:=n) (by rw[get_put1,if_pos (Key.eq_refl _)]))) m Im w a hs
 refine⟨m',{ h' with tm:=fun y d hy=>?_,ce:=fun k off d hy=>?_,ro:=fun g d hy=>?_,jk:=fun d hy=>?_,ok:=fun k d hy=>?_ }⟩
 ·rw[get_put1,if_neg (by simp[Key.eq]),get_put1] at hy
  by_cases e:Key.eq (.t x) (.t y)=true
  ·rw[if_pos e] at hy
   have:=Key.eq_iff.1 e;cases this
   cases hy
   exact VLe.ps0 n N _ _ _ _ (h'.tm x _ (by rw[get_put1,if_neg (by simp[Key.eq]),get_put1,if_neg (by simp[Key.eq]),get_put1,if_pos (Key.eq_refl _)]))
  ·rw[if_neg e] at hy
   exact h'.tm y d (by rw[get_put1,if_neg (by simp[Key.eq]),get_put1,if_neg (by simp[Key.eq]),get_put1,if_neg e];exact hy)
 ·rw[get_put1,if_neg (by simp[Key.eq]),get_put1,if_neg (by simp[Key.eq])] at hy
  exact h'.ce k off d (by rw[get_put1,if_neg (by simp[Key.eq]),get_put1,if_neg (by simp[Key.eq]),get_put1,if_neg (by simp[Key.eq])];exact hy)
 ·refine h'.ro g d ?_
  rw[get_put1] at hy ⊢
  split
  ·rename_i e;rw[if_pos e] at hy;exact hy
  ·rename_i e
   rw[if_neg e,get_put1,if_neg (by simp[Key.eq])] at hy
   rw[get_put1,if_neg e,get_put1,if_neg (by simp[Key.eq])];exact hy
 ·rw[get_put1,if_neg (by simp[Key.eq]),get_put1,if_neg (by simp[Key.eq])] at hy
  exact h'.jk d (by rw[get_put1,if_neg (by simp[Key.eq]),get_put1,if_neg (by simp[Key.eq]),get_put1,if_neg (by simp[Key.eq])];exact hy)
 ·rw[get_put1,if_neg (by simp[Key.eq]),get_put1,if_neg (by simp[Key.eq])] at hy
  exact h'.ok k d (by rw[get_put1,if_neg (by simp[Key.eq]),get_put1,if_neg (by simp[Key.eq]),get_put1,if_neg (by simp[Key.eq])];exact hy)
theorem St.freeze (h:St cx Fr m Im w a σ){g E n:Nat}{l:List (List D)}(hg:get σ (.r g)=some (.rp E n l)):
  ∃ Im',(∀ b o,Im b o→Im' b o)∧St cx Fr m Im' w a (put1 (.r g) (.rw E n l.length) σ)∧∀ x,Rel m Im w x (.ps g l.length)→Rel m Im' w x (.sl n l (some g)):=by
 obtain⟨R,hR,hro⟩:=h.ro g _ hg
 cases hro with
 | rp _ xs hl hn hown h1 hrr hni=>
 have hi:∀ b o,Im b o→Im b o∨(R.hv.ownBlock=some b∧o<R.len * R.n):=fun _ _ h=>.inl h
 have hmono:∀ {x d},Rel m Im w x d→Rel m (fun b o=>Im b o∨(R.hv.ownBlock=some b∧o<R.len * R.n)) w x d:=fun hx=>hx.mono (Mp.le.refl m) (KeepI.refl _ _) hi
 have hcell:∀ b o,R.hv.ownBlock=some b→o<R.len * R.n→∃ v,xs[o]?=some v∧w.cell? ⟨b,o,none⟩=some v:=fun b o hb ho=>by
  have hlt:o<xs.length:=by rw[hown.1];exact ho
  have:=hown.cells hb o _ (List.getElem?_eq_getElem hlt)
  rw[addr_add0] at this
  exact⟨_,List.getElem?_eq_getElem hlt,this⟩
 refine⟨fun b o=>Im b o∨(R.hv.ownBlock=some b∧o<R.len * R.n),hi,?_,fun x hx=>?_⟩
 ·have hs:St cx Fr m (fun b o=>Im b o∨(R.hv.ownBlock=some b∧o<R.len * R.n)) w a (σ.filter fun p=>!Key.eq (.r g) p.1):=by
   have hf:∀ k d,get (σ.filter fun p=>!Key.eq (.r g) p.1) k=some d→Key.eq (.r g) k=false∧get σ k=some d:=fun k d hk=>by
    rw[get_filter (fun k=>!Key.eq (.r g) k)] at hk
    split at hk
    ·rename_i e;exact⟨by simpa using e,hk⟩
    ·cases hk
   refine⟨{ h.mem with im:=?_,imb:=?_,im0:=?_,nim:=?_,rIm:=?_,onim:=?_ },h.df,h.nt,fun x d hx=>hmono (h.tm x d (hf _ _ hx).2),fun k off d hx=>?_,fun x d hx=>?_,fun d hd=>?_,fun k d hx=>?_⟩
   ·rintro b o (hh | ⟨hb,ho⟩)
    ·exact h.mem.im b o hh
    ·obtain⟨v,_,hv⟩:=hcell b o hb ho;exact⟨v,hv⟩
   ·rintro b o (hh | ⟨hb,ho⟩)
    ·exact h.mem.imb b o hh
    ·exact .inr (h.mem.rown g R b hR hb)
   ·intro b o hh;exact .inl (h.mem.im0 b o hh)
   ·rintro k b o hk (hh | ⟨hb,ho⟩)
    ·exact h.mem.nim k b o hk hh
    ·exact h.mem.rblk g R b k hR hb hk
   ·rintro x R0 b o hx hb0 (hh | ⟨hb,ho⟩)
    ·exact h.mem.rIm x R0 b o hx hb0 hh
    ·have:=h.mem.rinj x g R0 R b hx hR hb0 hb
     subst this
     rw[hR] at hx;cases hx;exact ho
   ·rintro k b o hk (hh | ⟨hb,ho⟩)
    ·exact h.mem.onim k b o hk hh
    ·exact h.mem.orow k g R b hk hR hb
   ·obtain⟨b,v,q1,q2,q3⟩:=h.ce k off d (hf _ _ hx).2
    exact⟨b,v,q1,q2,hmono q3⟩
   ·obtain⟨e,hx⟩:=hf _ _ hx
    obtain⟨R0,q1,q2⟩:=h.ro x d hx
    have hne:x≠g:=fun e2=>by subst e2;rw[Key.eq_refl] at e;cases e
    refine⟨R0,q1,q2.mono (fun _ _=>rfl) (Mp.le.refl m) (KeepI.refl _ _) hi ?_⟩
    rintro b o hb0 (hh | ⟨hb,ho⟩)
    ·exact hh
    ·exact absurd (h.mem.rinj x g R0 R b q1 hR hb0 hb) hne
   ·obtain⟨X,J,e,hX⟩:=h.jk d (hf _ _ hd).2
    refine⟨X,J,e,{ hX with nim:=?_ }⟩
    rintro b o hb (hh | ⟨hb2,ho⟩)
    ·exact hX.nim b o hb hh
    ·exact hX.row b g R hb hR hb2
   ·obtain⟨b,q1,q2⟩:=h.ok k d (hf _ _ hx).2
    exact⟨b,q1,q2.mono rfl (Mp.le.refl m) (KeepI.refl _ _) hi⟩
  have h2:=hs.putro hR (RoOk.rw (m:=m) (Im:=fun b o=>Im b o∨(R.hv.ownBlock=some b∧o<R.len * R.n)) (w:=w) (R:=R))
  rw[hl]
  refine h2.sub fun k d hk=>?_
  rw[get_put1] at hk ⊢
  split
  ·rename_i e;rw[if_pos e] at hk;exact hk
  ·rename_i e;rw[if_neg e] at hk
   rw[get_filter (fun k=>!Key.eq (.r g) k),if_pos (by simpa using e)];exact hk
 ·cases hx with
  | ps a0 c0 _ _ ha _ hh=>
  obtain⟨R0,p1,p2,p3⟩:=hh
  rw[hR] at p1;cases p1
  have hv:=p3 hl
  have hc:l.length≤maxLen∧l.length≤c0:=by
   rcases hown.2 with⟨e,h0⟩ | ⟨g',cap,cur,e,_,_,hnc,hcm,_⟩
   ·rw[hl,h0];omega
   ·rw[e] at hv;injection hv with _ _ q;rw[hl,←q];exact⟨by omega,hnc⟩
  have hij:∀ i j,i<l.length→j<R.n→i * R.n+j<R.len * R.n:=fun i j hi2 hj=>by
   have:(i+1) * R.n≤R.len * R.n:=Nat.mul_le_mul_right _ (by omega)
   rw[Nat.succ_mul] at this;omega
  have hgd:∀ i j,i<l.length→j<R.n→xs[i * R.n+j]?=some (xs.getD (i * R.n+j) undef):=fun i j hi2 hj=>by
   have:i * R.n+j<xs.length:=by rw[hown.1];exact hij i j hi2 hj
   rw[List.getD_eq_getElem?_getD,List.getElem?_eq_getElem this];rfl
  obtain⟨bl,hbl⟩:∃ bl,0<l.length→a0=some ⟨bl,0,none⟩:=by
   by_cases h0:0<l.length
   ·obtain⟨b,hb⟩:=ha h0;exact⟨b,fun _=>hb⟩
   ·exact⟨0,fun h=>absurd h h0⟩
  have hob:0<l.length→R.hv.ownBlock=some bl:=fun h0=>by rw[hv,hbl h0];rfl
  refine .sl a0 c0 bl 0 R.n (fun i j=>xs.getD (i * R.n+j) undef) l (some g) hc hbl (fun i j hi2 hj=>?_) hn (fun i j hi2 hj=>?_) (fun i hi2 j hj=>?_) fun r e=>?_
  ·have h0:=hob (by omega)
   obtain⟨v,q1,q2⟩:=hcell bl _ h0 (hij i j hi2 hj)
   rw[hgd i j hi2 hj] at q1;cases q1
   rw[Nat.zero_add]
   exact⟨q2,.inr ⟨h0,hij i j hi2 hj⟩⟩
  ·exact h1 _ (List.mem_of_getElem? (hgd i j hi2 hj))
  ·exact hmono (hrr i hi2 j hj)
  ·cases e;exact⟨R,hR,by omega,fun _=>hv⟩
theorem dw_freeze {c:Code}{x g E n len:Nat}{l:List (List D)}(hx:get σ (.t x)=some (.ps g len))(hg:get σ (.r g)=some (.rp E n l))(hl:l.length=len)(h:DW P cx c (put1 (.t x) (.sl n l (some g)) (put1 (.r g) (.rw E n l.length) σ)) N Q):DW P cx c σ N Q:=fun m Im w a hs=>by
 obtain⟨Im',hi,h2,h3⟩:=hs.freeze hg
 subst hl
 have hr:=h3 _ (hs.tm x _ hx)
 refine h m Im' w a { h2 with tm:=fun y d hy=>?_,ce:=fun k off d hy=>?_,ro:=fun k d hy=>?_,jk:=fun d hy=>?_,ok:=fun k d hy=>?_ }
 ·rw[get_put1] at hy
  by_cases e:Key.eq (.t x) (.t y)=true
  ·rw[if_pos e] at hy
   have:=Key.eq_iff.1 e;cases this
   cases hy;exact hr
  ·rw[if_neg e] at hy
   exact h2.tm y d hy
 ·rw[get_put1,if_neg (by simp[Key.eq])] at hy;exact h2.ce k off d hy
 ·rw[get_put1,if_neg (by simp[Key.eq])] at hy;exact h2.ro k d hy
 ·rw[get_put1,if_neg (by simp[Key.eq])] at hy;exact h2.jk d hy
 ·rw[get_put1,if_neg (by simp[Key.eq])] at hy;exact h2.ok k d hy
theorem cut_any (m m':Mp):(m.cut (fun _=>false) noR).le m':=⟨fun k b h=>by simp[Mp.cut] at h,fun g R h=>by simp[Mp.cut,noR] at h,fun k b h=>by simp[Mp.cut] at h⟩
theorem St.adopt {cx':Cx}{a':Act}(hs:St cx Fr m Im w a σ){nm:Nat}(hnm:Fr nm)(hs':St cx' Fr' m' Im' w' a' σ')(c3:cx'.w0=w)(c4:∀ b,¬ cx'.C b)(c5:cx'.Im0=Im){g:Nat}{R:RowM}{d:D}(hR:m'.row g=some R)(hro:RoOk m' Im' w' R d)(hd:d.ok (fun _=>false) noR=true):
  St cx (minus Fr nm) (m.setR nm R) Im' w' a (put1 (.r nm) d σ)∧m.le (m.setR nm R)∧KeepI Im w w'∧∀ b o,Im b o→Im' b o:=by
 have hbl:Below w.heap.size w w':=by
  have ho:=hs'.mem.off
  rw[c3] at ho
  exact⟨ho.os,ho.tape,ho.output,ho.size,fun b hb=>ho.block b hb (c4 b)⟩
 have hi:∀ b o,Im b o→Im' b o:=fun b o h=>hs'.mem.im0 b o (by rw[c5];exact h)
 have hib:∀ b o,Im' b o→Im b o∨w.heap.size≤b:=fun b o h=>by
  rcases hs'.mem.imb b o h with h1 | h1 | h1
  ·left;rw[c5] at h1;exact h1
  ·right;rw[c3] at h1;exact h1
  ·exact absurd (cx'.hCR b h1) (c4 b)
 have h1:=hs.below hbl hi hib hs'.mem.im
 have hle:m.le (m.setR nm R):=Mp.setR_le fun R0 h0=>by rw[(hs.mem.fr nm hnm).2.1] at h0;cases h0
 have hnew:∀ b,R.hv.ownBlock=some b→w.heap.size≤b:=fun b hb=>by
  rcases hs'.mem.rown g R b hR hb with h1 | h1
  ·rw[c3] at h1;exact h1
  ·exact absurd (cx'.hCR b h1) (c4 b)
 have hcase:∀ {x R0},(m.setR nm R).row x=some R0→(x=nm∧R0=R)∨(x≠nm∧m.row x=some R0):=fun {x R0} hx=>by
  by_cases e:x=nm
  ·left;simp[Mp.setR,e] at hx;exact⟨e,hx.symm⟩
  ·right;simp[Mp.setR,e] at hx;exact⟨e,hx⟩
 have hro2:RoOk (m.setR nm R) Im' w' R d:=(hro.cut hd).mono (fun _ _=>rfl) (cut_any _ _) (KeepI.refl _ _) (fun _ _ h=>h) fun _ _ _ h=>h
 refine⟨?_,hle,KeepI.below hbl,hi⟩
 refine⟨{ h1.mem with row:=?_,rIm:=?_,rblk:=?_,rinj:=?_,fr:=?_,rown:=?_,m0r:=hs.mem.m0r_le hle,orow:=?_ },h1.df,h1.nt,fun x d hx=>(h1.tm x d (by rw[get_put1,if_neg (by simp[Key.eq])] at hx;exact hx)).mono hle (KeepI.refl _ _) (fun _ _ h=>h),fun x off d hx=>?_,fun x d hx=>?_,fun d hd=>?_,fun x d hd=>?_⟩
 ·intro x R0 hx
  rcases hcase hx with⟨_,rfl⟩ | ⟨_,hx⟩
  ·exact hs'.mem.row g R0 hR
  ·exact h1.mem.row x R0 hx
 ·intro x R0 b o hx
  rcases hcase hx with⟨_,rfl⟩ | ⟨_,hx⟩
  ·exact hs'.mem.rIm g R0 b o hR
  ·exact h1.mem.rIm x R0 b o hx
 ·intro x R0 b k hx
  rcases hcase hx with⟨_,rfl⟩ | ⟨_,hx⟩
  ·intro e hk;have:=hs.mem.lt k _ hk;have:=hnew b e;omega
  ·exact h1.mem.rblk x R0 b k hx
 ·intro x y R0 R1 b hx hy ho ho'
  rcases hcase hx with⟨e1,e2⟩ | ⟨_,hx⟩ <;> rcases hcase hy with⟨e3,e4⟩ | ⟨_,hy⟩
  ·rw[e1,e3]
  ·rw[e2] at ho;have:=hnew b ho;have:=hs.mem.rlt hy ho';omega
  ·rw[e4] at ho';have:=hnew b ho';have:=hs.mem.rlt hx ho;omega
  ·exact h1.mem.rinj x y R0 R1 b hx hy ho ho'
 ·intro x hx;refine⟨(hs.mem.fr x hx.1).1,?_,(hs.mem.fr x hx.1).2.2⟩;simp[Mp.setR,hx.2,(hs.mem.fr x hx.1).2.1]
 ·intro x y R0 b hx hy
  rcases hcase hy with⟨_,rfl⟩ | ⟨_,hy⟩
  ·intro e;have:=hs.mem.olt x _ hx;have:=hnew b e;omega
  ·exact h1.mem.orow x y R0 b hx hy
 ·intro x R0 b hx ho
  rcases hcase hx with⟨_,rfl⟩ | ⟨_,hx⟩
  ·exact .inl (Nat.le_trans hs.mem.off.size (hnew b ho))
  ·exact h1.mem.rown x R0 b hx ho
 ·rw[get_put1,if_neg (by simp[Key.eq])] at hx
  obtain⟨c,v,q1,q2,q3⟩:=h1.ce x off d hx
  exact⟨c,v,q1,q2,q3.mono hle (KeepI.refl _ _) (fun _ _ h=>h)⟩
 ·rw[get_put1] at hx
  by_cases he:Key.eq (.r nm) (.r x)=true
  ·rw[if_pos he] at hx
   cases hx
   have:=Key.eq_iff.1 he
   cases this
   exact⟨R,by simp[Mp.setR],hro2⟩
  ·rw[if_neg he] at hx
   obtain⟨R0,q1,q2⟩:=h1.ro x d hx
   have hne:x≠nm:=fun e=>he (by rw[e];exact Key.eq_refl _)
   exact⟨R0,by simp[Mp.setR,hne,q1],q2.mono (fun _ _=>rfl) hle (KeepI.refl _ _) (fun _ _ h=>h) fun _ _ _ h=>h⟩
 ·rw[get_put1,if_neg (by simp[Key.eq])] at hd
  obtain⟨X,J,e,hX⟩:=h1.jk d hd
  obtain⟨X0,J0,e0,hX0⟩:=hs.jk d hd
  rw[e] at e0;cases e0
  refine⟨X,J,e,{ hX with row:=fun b x R0 hb hx ho=>?_ }⟩
  rcases hcase hx with⟨_,rfl⟩ | ⟨_,hx⟩
  ·have:=hX0.lt b hb;have:=hnew b ho;omega
  ·exact hX.row b x R0 hb hx ho
 ·rw[get_put1,if_neg (by simp[Key.eq])] at hd
  obtain⟨b,q1,q2⟩:=h1.ok x d hd
  exact⟨b,q1,q2.mono rfl hle (KeepI.refl _ _) fun _ _ h=>h⟩
theorem callRow_of_dw {f:FuncId}{fn:Func}{c:Code}{args:List D}{n E len:Nat}{l:List (List D)}(nt:Nat)(rs:List ResultVar)(hT:TabOk P T)(hen:entersB P f=true)(hf:P.funcs[f]?=some fn)(hb:fn.body=some c)(hnt:fn.ntmps=nt)(hrs:fn.results.toList=rs) 
  (hal:args.length≤nt) (ha:args.all (fun d=>d.ok (fun _=>false) noR)=true) (hlo:D.okss (fun _=>false) noR l=true)
  (h:∀ cx:Cx,cx.nt=nt→cx.n0=0→DW P cx c (argsT 0 args []) 0 (fun e σ _=>(e=.normal∨e=.ret)∧∃ g,resD T σ rs=some (.sl n l (some g))∧get σ (.r g)=some (.rw E n len))) (nm:Nat) :
  CallN P f args [] nm [(.r nm,.rw E n len)] (.sl n l (some nm)):=by
 refine⟨hen,fun cx Fr m Im w a σ vs hnm hs hargs _=>?_⟩
 refine calls_of_wp hf hb ?_
 obtain⟨cx',c1,c2,c3,c4,c5,hst⟩:=entry0 hs.mem hargs ha nt hal hnt
 refine Code.wp_mono (fun e a' w' ⟨σ',N',m',Im',⟨hq1,g,hq2,hq3⟩,hs'⟩=>?_) (h cx' c1 c2 _ Im w _ hst)
 obtain⟨v,r1,r2⟩:=resD_run (P:=P) (fn:=fn) hT hs' (by rw[hrs];exact hq2)
 obtain⟨R,hR,hro⟩:=hs'.ro g _ hq3
 obtain⟨s1,s2,s3,s4⟩:=hs.adopt hnm hs' c3 c4 c5 hR hro rfl
 have hv:Rel (m.setR nm R) Im' w' v (.sl n l (some nm)):=by
  cases r2 with
  | sl a0 c0 bl off n X l r h1 ha hc hn ho hr hg=>
   refine .sl a0 c0 bl off n X l (some nm) h1 ha hc hn ho (fun i hi j hj=>((hr i hi j hj).cut (D.oks_get (D.okss_get hlo i hi) j hj)).mono (cut_any _ _) (KeepI.refl _ _) fun _ _ h=>h) fun r e=>?_
   cases e
   obtain⟨R0,q1,q2,q3⟩:=hg g rfl
   rw[hR] at q1;cases q1
   exact⟨R,by simp[Mp.setR],q2,q3⟩
 have hfin:∃ v' m2 Im2,Ending.returned v=.returned v'∧St cx (minus Fr nm) m2 Im2 w' a (puts (dropT [] σ) [(.r nm,.rw E n len)])∧Rel m2 Im2 w' v' (.sl n l (some nm)):=by
  rw[dropT_nil]
  exact⟨v,_,Im',rfl,s1,hv⟩
 rcases hq1 with rfl | rfl
 ·exact⟨hs'.df,v,r1,hfin⟩
 ·exact⟨hs'.df,v,r1,hfin⟩
theorem callPriv_of_dw {f:FuncId}{fn:Func}{c:Code}{args:List D}{n E len:Nat}{l:List (List D)}(nt:Nat)(rs:List ResultVar)(hT:TabOk P T)(hen:entersB P f=true)(hf:P.funcs[f]?=some fn)(hb:fn.body=some c)(hnt:fn.ntmps=nt)(hrs:fn.results.toList=rs) 
  (hal:args.length≤nt) (ha:args.all (fun d=>d.ok (fun _=>false) noR)=true) (hlo:D.okss (fun _=>false) noR l=true)
  (h:∀ cx:Cx,cx.nt=nt→cx.n0=0→DW P cx c (argsT 0 args []) 0 (fun e σ _=>(e=.normal∨e=.ret)∧∃ g,resD T σ rs=some (.ps g len)∧get σ (.r g)=some (.rp E n l))) (nm:Nat) :
  CallN P f args [] nm [(.r nm,.rp E n l)] (.ps nm len):=by
 refine⟨hen,fun cx Fr m Im w a σ vs hnm hs hargs _=>?_⟩
 refine calls_of_wp hf hb ?_
 obtain⟨cx',c1,c2,c3,c4,c5,hst⟩:=entry0 hs.mem hargs ha nt hal hnt
 refine Code.wp_mono (fun e a' w' ⟨σ',N',m',Im',⟨hq1,g,hq2,hq3⟩,hs'⟩=>?_) (h cx' c1 c2 _ Im w _ hst)
 obtain⟨v,r1,r2⟩:=resD_run (P:=P) (fn:=fn) hT hs' (by rw[hrs];exact hq2)
 obtain⟨R,hR,hro⟩:=hs'.ro g _ hq3
 obtain⟨s1,s2,s3,s4⟩:=hs.adopt hnm hs' c3 c4 c5 hR hro (by simpa only[D.ok] using hlo)
 have hv:Rel (m.setR nm R) Im' w' v (.ps nm len):=by
  cases r2 with
  | ps a0 c0 _ _ ha hcp hh=>
   obtain⟨R0,q1,q2,q3⟩:=hh
   rw[hR] at q1;cases q1
   exact .ps a0 c0 nm len ha hcp ⟨R,by simp[Mp.setR],q2,q3⟩
 have hfin:∃ v' m2 Im2,Ending.returned v=.returned v'∧St cx (minus Fr nm) m2 Im2 w' a (puts (dropT [] σ) [(.r nm,.rp E n l)])∧Rel m2 Im2 w' v' (.ps nm len):=by
  rw[dropT_nil]
  exact⟨v,_,Im',rfl,s1,hv⟩
 rcases hq1 with rfl | rfl
 ·exact⟨hs'.df,v,r1,hfin⟩
 ·exact⟨hs'.df,v,r1,hfin⟩
end
namespace So
variable {α:Type} {l l' r r':List (Int×α)}
def Srt (l:List (Int×α)):Prop:=l.Pairwise fun a b=>a.1≤b.1
def Same (l l':List (Int×α)):Prop:=∀ k:Int,l.filter (fun a=>a.1==k)=l'.filter (fun a=>a.1==k)
theorem Same.refl (l:List (Int×α)):Same l l:=fun _=>rfl
theorem Same.symm (h:Same l l'):Same l' l:=fun k=>(h k).symm
theorem Same.trans {l'':List (Int×α)}(h:Same l l')(h':Same l' l''):Same l l'':=fun k=>(h k).trans (h' k)
theorem Same.app (h:Same l l')(h':Same r r'):Same (l++r) (l'++r'):=fun k=>by rw[List.filter_append,List.filter_append,h k,h' k]
theorem Same.mem (h:Same l l'){x:Int×α}(hx:x∈l):x∈l':=by
 have:x∈l.filter (fun a=>a.1==x.1):=List.mem_filter.2 ⟨hx,by simp⟩
 rw[h x.1] at this
 exact(List.mem_filter.1 this).1
theorem Same.swap (h:∀ x∈l,∀ y∈r,x.1≠y.1):Same (l++r) (r++l):=fun k=>by
 rw[List.filter_append,List.filter_append]
 by_cases hl:l.filter (fun a=>a.1==k)=[]
 ·rw[hl];simp
 ·have hr:r.filter (fun a=>a.1==k)=[]:=by
   rw[List.filter_eq_nil_iff]
   intro y hy e
   obtain⟨x,hx⟩:=List.exists_mem_of_ne_nil _ hl
   have hx:=List.mem_filter.1 hx
   exact h x hx.1 y hy (by have e1:=hx.2;simp at e1 e;omega)
  rw[hr];simp
theorem srt_app:Srt (l++r)↔Srt l∧Srt r∧∀ a∈l,∀ b∈r,a.1≤b.1:=List.pairwise_append
theorem srt_nil:Srt ([]:List (Int×α)):=List.Pairwise.nil
theorem srt_one (x:Int×α):Srt [x]:=List.pairwise_singleton _ _
theorem uniq:∀ {l l':List (Int×α)},Srt l→Srt l'→Same l l'→l=l'
 | [],[],_,_,_=>rfl
 | [],y :: s,_,_,h=>by have:=h.symm.mem (x:=y) (by simp);cases this
 | x :: t,[],_,_,h=>by have:=h.mem (x:=x) (by simp);cases this
 | x :: t,y :: s,h1,h2,h=>by
  have a1:=List.pairwise_cons.1 h1
  have a2:=List.pairwise_cons.1 h2
  have e1:x.1≤y.1:=by
   rcases List.mem_cons.1 (h.symm.mem (x:=y) (by simp)) with e | e
   ·rw[e];exact Int.le_refl _
   ·exact a1.1 y e
  have e2:y.1≤x.1:=by
   rcases List.mem_cons.1 (h.mem (x:=x) (by simp)) with e | e
   ·rw[e];exact Int.le_refl _
   ·exact a2.1 x e
  have e3:y.1=x.1:=by omega
  have hx:=h x.1
  rw[List.filter_cons,List.filter_cons,if_pos (by simp),if_pos (by simp[e3])] at hx
  injection hx with q1 q2
  subst q1
  rw[uniq a1.2 a2.2 fun k=>by
   have hk:=h k
   rw[List.filter_cons,List.filter_cons] at hk
   split at hk
   ·injection hk
   ·exact hk]
def ins (x:Int×α):List (Int×α)→List (Int×α)
 | []=>[x]
 | y :: l=>if y.1≤x.1 then y :: ins x l else x :: y :: l
def ssr:List (Int×α)→List (Int×α)
 | []=>[]
 | x :: l=>ins x (ssr l)
def ss (l:List (Int×α)):List (Int×α):=ssr l.reverse
theorem ins_mem {x y:Int×α}:∀ {l:List (Int×α)},y∈ins x l↔y=x∨y∈l
 | []=>by simp[ins]
 | z :: l=>by
  rw[ins]
  split
  ·simp only[List.mem_cons,ins_mem (l:=l)]
   constructor
   ·rintro(h | h | h)
    ·exact .inr (.inl h)
    ·exact .inl h
    ·exact .inr (.inr h)
   ·rintro(h | h | h)
    ·exact .inr (.inl h)
    ·exact .inl h
    ·exact .inr (.inr h)
  ·simp only[List.mem_cons]
theorem ins_len (x:Int×α):∀ l:List (Int×α),(ins x l).length=l.length+1
 | []=>rfl
 | z :: l=>by rw[ins];split <;> simp[ins_len x l]
theorem ins_srt (x:Int×α):∀ {l:List (Int×α)},Srt l→Srt (ins x l)
 | [],_=>srt_one x
 | z :: l,h=>by
  have a:=List.pairwise_cons.1 h
  rw[ins]
  split
  ·rename_i hz
   refine List.pairwise_cons.2 ⟨fun y hy=>?_,ins_srt x a.2⟩
   rcases ins_mem.1 hy with rfl | hy
   ·exact hz
   ·exact a.1 y hy
  ·rename_i hz
   refine List.pairwise_cons.2 ⟨fun y hy=>?_,h⟩
   rcases List.mem_cons.1 hy with rfl | hy
   ·omega
   ·have:=a.1 y hy;omega
theorem ins_same (x:Int×α):∀ {l:List (Int×α)},Srt l→Same (ins x l) (l++[x])
 | [],_=>Same.refl _
 | z :: l,h=>by
  have a:=List.pairwise_cons.1 h
  rw[ins]
  split
  ·exact Same.app (l:=[z]) (l':=[z]) (Same.refl _) (ins_same x a.2)
  ·rename_i hz
   refine Same.swap (l:=[x]) (r:=z :: l) fun u hu y hy=>?_
   rw[List.mem_singleton] at hu
   subst hu
   rcases List.mem_cons.1 hy with rfl | hy
   ·omega
   ·have:=a.1 y hy;omega
theorem ssr_srt:∀ l:List (Int×α),Srt (ssr l)
 | []=>srt_nil
 | x :: l=>ins_srt x (ssr_srt l)
theorem ssr_same:∀ l:List (Int×α),Same (ssr l) l.reverse
 | []=>Same.refl _
 | x :: l=>by
  rw[ssr,List.reverse_cons]
  exact(ins_same x (ssr_srt l)).trans ((ssr_same l).app (Same.refl _))
theorem ssr_len:∀ l:List (Int×α),(ssr l).length=l.length
 | []=>rfl
 | x :: l=>by rw[ssr,ins_len,ssr_len l];rfl
theorem ss_srt (l:List (Int×α)):Srt (ss l):=ssr_srt _
theorem ss_same (l:List (Int×α)):Same (ss l) l:=by
 have:=ssr_same l.reverse
 rwa [List.reverse_reverse] at this
theorem ss_len (l:List (Int×α)):(ss l).length=l.length:=by rw[ss,ssr_len,List.length_reverse]
theorem ss_eq (h:Srt l')(h2:Same l' l):ss l=l':=uniq (ss_srt l) h ((ss_same l).trans h2.symm)
theorem ss_self (h:Srt l):ss l=l:=ss_eq h (Same.refl _)
theorem ss_one (x:Int×α):ss [x]=[x]:=ss_self (srt_one x)
theorem ss_snoc {X S1 S2:List (Int×α)}{x:Int×α}(h:S1++S2=ss X)(h1:∀ s∈S1,s.1≤x.1)(h2:∀ s∈S2,x.1<s.1):ss (X++[x])=S1++x :: S2:=by
 have hs:=ss_srt X
 rw[←h] at hs
 have a:=srt_app.1 hs
 refine ss_eq (srt_app.2 ⟨a.1,List.pairwise_cons.2 ⟨fun s hs=>Int.le_of_lt (h2 s hs),a.2.1⟩,fun s hs y hy=>?_⟩) ?_
 ·rcases List.mem_cons.1 hy with rfl | hy
  ·exact h1 s hs
  ·exact a.2.2 s hs y hy
 ·refine Same.trans (l':=(S1++S2)++[x]) ?_ ?_
  ·rw[List.append_assoc]
   refine(Same.refl S1).app (Same.swap (l:=[x]) (r:=S2) fun u hu y hy=>?_)
   rw[List.mem_singleton] at hu
   subst hu
   have:=h2 y hy;omega
  ·rw[h];exact(ss_same X).app (Same.refl _)
theorem ss_cut {X1 X2 Y1 Y2:List (Int×α)}(hX:Srt (X1++X2))(hY:Srt (Y1++Y2))(h1:∀ x∈X1,∀ y∈Y2,x.1≤y.1)(h2:∀ y∈Y1,∀ x∈X2,y.1<x.1):ss (X1++X2++(Y1++Y2))=ss (X1++Y1)++ss (X2++Y2):=by
 have a:=srt_app.1 hX
 have b:=srt_app.1 hY
 refine ss_eq (srt_app.2 ⟨ss_srt _,ss_srt _,fun x hx y hy=>?_⟩) ?_
 ·rcases List.mem_append.1 ((ss_same _).mem hx) with hx | hx <;> rcases List.mem_append.1 ((ss_same _).mem hy) with hy | hy
  ·exact a.2.2 x hx y hy
  ·exact h1 x hx y hy
  ·exact Int.le_of_lt (h2 x hx y hy)
  ·exact b.2.2 x hx y hy
 ·refine((ss_same _).app (ss_same _)).trans ?_
  rw[List.append_assoc,List.append_assoc]
  refine(Same.refl X1).app ?_
  rw[←List.append_assoc,←List.append_assoc]
  refine Same.app ?_ (Same.refl Y2)
  exact Same.swap fun y hy x hx=>by have:=h2 y hy x hx;omega
inductive Ch (s:Nat):List (Int×α)→Prop where
 | last (l:List (Int×α)) (h:l.length≤s) (hs:Srt l):Ch s l
 | cons (c l:List (Int×α)) (hc:c.length=s) (hs:Srt c) (h:Ch s l):Ch s (c++l)
inductive Fu (s:Nat):List (Int×α)→Prop where
 | nil:Fu s []
 | cons (c l:List (Int×α)) (hc:c.length=s) (hs:Srt c) (h:Fu s l):Fu s (c++l)
theorem Fu.snoc {s:Nat}{P c:List (Int×α)}(h:Fu s P)(hc:c.length=s)(hs:Srt c):Fu s (P++c):=by
 induction h with
 | nil=>have:=Fu.cons c [] hc hs .nil;simpa using this
 | cons d l hd hsd h ih=>rw[List.append_assoc];exact .cons d _ hd hsd ih
theorem Fu.ch {s:Nat}{P Q:List (Int×α)}(h:Fu s P)(hQ:Ch s Q):Ch s (P++Q):=by
 induction h with
 | nil=>exact hQ
 | cons d l hd hsd h ih=>rw[List.append_assoc];exact .cons d _ hd hsd ih
theorem Ch.more {s:Nat}{Q:List (Int×α)}(h:Ch s Q)(hl:s<Q.length):∃ c l,Q=c++l∧c.length=s∧Srt c∧Ch s l:=by
 cases h with
 | last l h hs=>omega
 | cons c l hc hs h=>exact⟨c,l,rfl,hc,hs,h⟩
theorem Ch.one {s:Nat}{Q:List (Int×α)}(h:Ch s Q)(hl:Q.length≤s)(hs:0<s):Srt Q:=by
 cases h with
 | last l h hs=>exact hs
 | cons c l hc hsc h=>
  have:l=[]:=List.length_eq_zero_iff.1 (by simp at hl;omega)
  subst this;simpa using hsc
end So
namespace Pn
abbrev Spot:=Tm×List Ty×List Int
mutual
def subs:Tm→List Ty→List Int→List Spot
 | .mk bs k i a,ar,p=>(.mk bs k i a,ar++bs,p) :: subss a (ar++bs) p 0
def subss:List Tm→List Ty→List Int→Nat→List Spot
 | [],_,_,_=>[]
 | t :: l,ar,p,j=>subs t ar (p++[(j:Int)])++subss l ar p (j+1)
end
mutual
def rigB:Tm→Tm→Bool
 | .mk bs k i a,t=>decide (bs=t.binds)&&(decide (k=2)||((decide (k=t.kind)&&decide (i=t.index))&&(decide (a.length=t.args.length)&&rigBs a t.args)))
def rigBs:List Tm→List Tm→Bool
 | [],_=>true
 | p :: l,ts=>rigB p (ts.headD Tm.zero)&&rigBs l ts.tail
end
/-! several at once -/
def mayAll:List (Tm×Tm)→Int
 | []=>0
 | p :: l=>if may p.1=0 then mayAll l else may p.1
def walkL:List (Tm×Tm)→Bd→Option Bd
 | [],b=>some b
 | p :: l,b=>if (walk p.1 p.2 [] b).1 then walkL l (walk p.1 p.2 [] b).2 else none
def mAll (l:List (Tm×Tm)):Bd×Int:=if mayAll l=0 then (match walkL l [] with | some b=>(So.ss b,0) | none=>([],9)) else ([],mayAll l)
end Pn
def TSO_3:TI:=⟨1,false,[Value.int IntKind.i64 0],[],none,8,2,none,false⟩
theorem TSO_3_ok:TypOk Tryz.prog 3 TSO_3:=by constructor <;> kernel_rfl
def TSO_50:TI:=⟨1,false,[Value.slice none 0 0],[],some 79,24,5,none,false⟩
theorem TSO_50_ok:TypOk Tryz.prog 50 TSO_50:=by constructor <;> kernel_rfl
def TSO_79:TI:=⟨5,true,[Value.int IntKind.i64 0,Value.slice none 0 0,Value.int IntKind.i64 0,Value.int IntKind.i64 0,Value.slice none 0 0],[(0,1,false),(1,4,true)],none,72,6,none,false⟩
theorem TSO_79_ok:TypOk Tryz.prog 79 TSO_79:=by constructor <;> kernel_rfl
def TSO_222:TI:=⟨1,false,[Value.int IntKind.u64 0],[],none,8,2,none,false⟩
theorem TSO_222_ok:TypOk Tryz.prog 222 TSO_222:=by constructor <;> kernel_rfl
def TSO_204:TI:=⟨1,false,[Value.nilFunc],[],none,8,8,none,false⟩
theorem TSO_204_ok:TypOk Tryz.prog 204 TSO_204:=by constructor <;> kernel_rfl
def TSO_51:TI:=⟨1,false,[Value.slice none 0 0],[],some 79,24,5,none,false⟩
theorem TSO_51_ok:TypOk Tryz.prog 51 TSO_51:=by constructor <;> kernel_rfl
def TSO:List (Nat×TI):=[(3,TSO_3),(50,TSO_50),(79,TSO_79),(222,TSO_222),(204,TSO_204),(51,TSO_51)]
theorem TSO_ok:TabOk Tryz.prog TSO:=(((((((TabOk.nil _).cons TSO_51_ok).cons TSO_204_ok).cons TSO_222_ok).cons TSO_79_ok).cons TSO_50_ok).cons TSO_3_ok)
theorem at_ {α:Type}{P R L:List α}{x:α}{i:Nat}(h:L=P++x :: R)(hi:P.length=i):L[i]?=some x:=by subst h;subst hi;simp
theorem pl_ok {L:List (Int×Tm)}{n i:Nat}{x:Int×Tm}(hn:L.length=n)(h:L[i]?=some x):(ePairs L).length=n∧i<n∧((ePairs L).getD i []).length=5:=by
 have hi:i<L.length:=by
  rcases Nat.lt_or_ge i L.length with h' | h'
  ·exact h'
  ·rw[List.getElem?_eq_none h'] at h;cases h
 exact⟨by rw[ePairs_len,hn],by omega,by rw[ePairs_getD L i hi,ePair_eq];rfl⟩
theorem pl_eq {L:List (Int×Tm)}{i:Nat}{x:Int×Tm}(h:L[i]?=some x):VLe (.ag ((ePairs L).getD i [])) (.ag [.v (.int .i64 x.1),.sl 2 (eTys x.2.binds) none,.v (.int .i64 x.2.kind),.v (.int .i64 x.2.index),.sl 4 (eTms x.2.args) none]):=by
 have hi:i<L.length:=by
  rcases Nat.lt_or_ge i L.length with h' | h'
  ·exact h'
  ·rw[List.getElem?_eq_none h'] at h;cases h
 rw[List.getElem?_eq_getElem hi] at h
 cases h
 exact VLe.of_eq (by rw[ePairs_getD L i hi,ePair_eq])
theorem pl_lt {α:Type}{L:List α}{n i:Nat}{x:α}(hn:L.length=n)(h:L[i]?=some x):i<n:=by
 rcases Nat.lt_or_ge i L.length with h' | h'
 ·omega
 ·rw[List.getElem?_eq_none h'] at h;cases h
theorem rowPut5 (r:List D)(a b c d e:D):rowPut r 0 5 [a,b,c,d,e]=[a,b,c,d,e]:=if_pos ⟨rfl,rfl⟩
theorem eP_set (L:List (Int×Tm))(i:Nat)(x:Int×Tm)(r:List D):(ePairs L).set i (rowPut r 0 5 [.v (.int .i64 x.1),.sl 2 (eTys x.2.binds) none,.v (.int .i64 x.2.kind),.v (.int .i64 x.2.index),.sl 4 (eTms x.2.args) none])=ePairs (L.set i x):=by
 rw[rowPut5,←ePair_eq,ePairs,ePairs,List.map_set]
theorem set_two {α:Type}{P Q R:List α}{x y:α}{i j:Nat}(hi:P.length=i)(hj:i+1+Q.length=j):((P++x :: (Q++y :: R)).set i y).set j x=P++y :: (Q++x :: R):=by
 subst hi hj
 rw[List.set_append_right _ _ (Nat.le_refl _),Nat.sub_self,List.set_cons_zero,List.set_append_right _ _ (by omega),show P.length+1+Q.length-P.length=Q.length+1 by omega,List.set_cons_succ,List.set_append_right _ _ (Nat.le_refl _),Nat.sub_self,List.set_cons_zero]
theorem eP_swap {P Q R L L':List (Int×Tm)}{x y:Int×Tm}{i j:Nat}(hL:L=P++x :: (Q++y :: R))(hi:P.length=i)(hj:i+1+Q.length=j)(hL':L'=P++y :: (Q++x :: R)):
  ((ePairs L).set i (rowPut ((ePairs L).getD i []) 0 5 [.v (.int .i64 y.1),.sl 2 (eTys y.2.binds) none,.v (.int .i64 y.2.kind),.v (.int .i64 y.2.index),.sl 4 (eTms y.2.args) none])).set j (rowPut (((ePairs L).set i (rowPut ((ePairs L).getD i []) 0 5 [.v (.int .i64 y.1),.sl 2 (eTys y.2.binds) none,.v (.int .i64 y.2.kind),.v (.int .i64 y.2.index),.sl 4 (eTms y.2.args) none])).getD j []) 0 5 [.v (.int .i64 x.1),.sl 2 (eTys x.2.binds) none,.v (.int .i64 x.2.kind),.v (.int .i64 x.2.index),.sl 4 (eTms x.2.args) none])=ePairs L':=by
 rw[eP_set,eP_set,hL,hL',set_two hi hj]
theorem eP_swap' {P Q R L L':List (Int×Tm)}{x y:Int×Tm}{i j:Nat}(hL:L=P++x :: (Q++y :: R))(hi:P.length=i)(hj:i+1+Q.length=j)(hL':L'=P++y :: (Q++x :: R)):
  ((ePairs L).set j (rowPut ((ePairs L).getD j []) 0 5 [.v (.int .i64 x.1),.sl 2 (eTys x.2.binds) none,.v (.int .i64 x.2.kind),.v (.int .i64 x.2.index),.sl 4 (eTms x.2.args) none])).set i (rowPut (((ePairs L).set j (rowPut ((ePairs L).getD j []) 0 5 [.v (.int .i64 x.1),.sl 2 (eTys x.2.binds) none,.v (.int .i64 x.2.kind),.v (.int .i64 x.2.index),.sl 4 (eTms x.2.args) none])).getD i []) 0 5 [.v (.int .i64 y.1),.sl 2 (eTys y.2.binds) none,.v (.int .i64 y.2.kind),.v (.int .i64 y.2.index),.sl 4 (eTms y.2.args) none])=ePairs L':=by
 rw[eP_set,eP_set,hL,hL',List.set_comm _ _ (by omega),set_two hi hj]
theorem st_ok {L:List (Int×Tm)}{n i:Nat}{x:Int×Tm}(hn:L.length=n)(h:L[i]?=some x):(ePairs L).length=n∧i<n:=⟨(pl_ok hn h).1,(pl_ok hn h).2.1⟩
theorem st_ok2 {L:List (Int×Tm)}{n i j:Nat}{x:Int×Tm}{r:List D}(hn:L.length=n)(h:L[i]?=some x):((ePairs L).set j r).length=n∧i<n:=⟨by rw[List.length_set];exact(pl_ok hn h).1,(pl_ok hn h).2.1⟩
theorem swapR_d (A U M V Z:List (Int×Tm))(n a b k:Nat)(hn:(A++U++M++V++Z).length=n)(ha:A.length=a)(hb:a+U.length+M.length=b)(hk:U.length=k)(hv:V.length=k)(hM:n≤1000000):
  CallG Tryz.prog 206 [.ps 0 n,.v (.int .i64 ↑a),.v (.int .i64 ↑b),.v (.int .i64 ↑k),.fn 113 []] [(.r 0,.rp 79 5 (ePairs (A++U++M++V++Z)))] [(.r 0,.rp 79 5 (ePairs (A++V++M++U++Z)))] (.tu []):=by
 refine callG_of_dw 1 38 [] TSO_ok (by kernel_rfl) Tryz.func206 rfl Tryz.ntmps206 rfl (by simp) ?dwords ?dbody
 case dwords=>simp[wordsG,rowN,rowsR,gkey,Key.eq,D.ok,D.oks,D.okss,rnames,inN,ckey,ePairs_ok]
 case dbody=>
  intro cx hnt hn0
  refine dw_seq ?_;refine dwk [] TSO_ok hnt fun _ z9=>z9 _ _ ?_;refine dw_block ?_
  refine dw_loop (ι:={ p:List (Int×Tm)×List (Int×Tm)×List (Int×Tm)×List (Int×Tm) // p.1++p.2.1=U∧p.2.2.1++p.2.2.2=V∧p.1.length=p.2.2.1.length }) (fun p=>[(.t 0,.ps 0 n),(.t 1,.v (.int .i64 ↑a)),(.t 2,.v (.int .i64 ↑b)),(.t 3,.v (.int .i64 ↑k)),(.t 10,.v (.int .i64 ↑p.1.1.length)),(.r 0,.rp 79 5 (ePairs (A++p.1.2.2.1++p.1.2.1++M++p.1.1++p.1.2.2.2++Z)))]) 1 (fun p=>p.1.2.1.length) (⟨([],U,[],V),rfl,rfl,rfl⟩) ((VS.toK (by omega) (by repeat first | exact trivial | refine And.intro (And.intro (by first | rfl | simp[D.ok,D.oks,D.okss,D.okm,upto,keyOk,argsT]) (by first | exact Or.inl rfl | exact Or.inr ⟨_,rfl,(by repeat first | exact VLe.refl _ | exact VLe.nil _ | exact VLe.untag _ _ _ | refine VLe.ag ?_ | refine VLe.tu ?_ | refine VLeL.cons ?_ ?_ | exact VLeL.nil),trivial⟩ | simp[get,Key.eq,argsT])) ?_))) fun j=>?_
  obtain⟨⟨U1,U2,V1,V2⟩,hU,hV,hl⟩:=j
  dsimp only at hU hV hl ⊢
  obtain⟨L,hL⟩:∃ L,A++V1++U2++M++U1++V2++Z=L:=⟨_,rfl⟩
  have hnL:L.length=n:=by rw[←hL,←hn,←hU,←hV];simp;omega
  rw[hL]
  have hUl:U1.length+U2.length=k:=by rw[←hk,←hU];simp
  have hVl:V1.length+V2.length=k:=by rw[←hv,←hV];simp
  cases U2 with
  | nil=>
   have h0:V2=[]:=List.length_eq_zero_iff.1 (by simp at hUl;omega)
   subst h0
   simp only[List.append_nil] at hU hV
   subst hU hV
   simp only[List.append_nil] at hL
   rw[←hL]
   refine dw_seq ?_;refine dw_seq ?_;refine dwk [(13,.v (.bool false))] TSO_ok hnt fun K hK=>?_;refine And.intro auF ?_;refine hK _ _ ?_;clear hK K;refine dw_cond (t:=false) rfl ?_;rw[if_neg (by simp)];refine dw_exit ?_
   exact reta rfl
  | cons x U2=>
   cases V2 with
   | nil=>simp at hUl hVl;omega
   | cons y V2=>
    simp at hUl hVl
    have hx:L[a+U1.length]?=some x:=at_ (P:=A++V1) (R:=U2++M++U1++y :: V2++Z) (by rw[←hL];simp) (by simp;omega)
    have hy:L[b+U1.length]?=some y:=at_ (P:=A++V1++x :: U2++M++U1) (R:=V2++Z) (by rw[←hL];simp) (by simp;omega)
    have lx:=pl_lt hnL hx
    have ly:=pl_lt hnL hy
    refine dw_seq ?_;refine dw_seq ?_;refine dwk [(13,.v (.bool true))] TSO_ok hnt fun K hK=>?_;refine And.intro auT ?_;refine hK _ _ ?_;clear hK K;refine dw_cond (t:=true) rfl ?_;rw[if_pos rfl];refine dw_skip ?_;refine dw_seq ?_;refine dw_block ?_;refine dwkD [(19,.v (.int .i64 (↑(a+U1.length)))),(23,.v (.int .i64 (↑(b+U1.length)))),(27,.v (.int .i64 (↑(b+U1.length)))),(28,.pr 0 n 5 ((b+U1.length)) 0),(29,.ag [.v (.int .i64 y.1),.sl 2 (eTys y.2.binds) none,.v (.int .i64 y.2.kind),.v (.int .i64 y.2.index),.sl 4 (eTms y.2.args) none]),(33,.v (.int .i64 (↑(a+U1.length)))),(34,.pr 0 n 5 ((a+U1.length)) 0),(35,.ag [.v (.int .i64 x.1),.sl 2 (eTys x.2.binds) none,.v (.int .i64 x.2.kind),.v (.int .i64 x.2.index),.sl 4 (eTms x.2.args) none]),(36,.pr 0 n 5 ((a+U1.length)) 0),(37,.pr 0 n 5 ((b+U1.length)) 0)] TSO_ok hnt fun K hK=>?_
    refine And.intro auI ?_;refine And.intro auI ?_;refine And.intro auI ?_;refine And.intro (by constructor <;> omega) ?_;refine And.intro (by first | rfl | exact VLe.of_eq (by simp)) ?_;refine And.intro (pl_ok hnL hy) ?_;refine And.intro (pl_eq hy) ?_;refine And.intro auI ?_;refine And.intro (by constructor <;> omega) ?_;refine And.intro (by first | rfl | exact VLe.of_eq (by simp)) ?_;refine And.intro (pl_ok hnL hx) ?_
    refine And.intro (pl_eq hx) ?_;refine And.intro (by constructor <;> omega) ?_;refine And.intro (by first | rfl | exact VLe.of_eq (by simp)) ?_;refine And.intro (st_ok hnL hx) ?_;refine And.intro (by constructor <;> omega) ?_;refine And.intro (by first | rfl | exact VLe.of_eq (by simp)) ?_;refine And.intro (st_ok2 hnL hy) ?_;refine hK _ _ (by kernel_rfl) ?_;clear hK K
    rw[eP_swap (P:=A++V1) (Q:=U2++M++U1) (R:=V2++Z) (L':=A++(V1++[y])++U2++M++(U1++[x])++V2++Z) (by rw[←hL];simp) (by simp;omega) (by simp;omega) (by simp)]
    refine dwk [(15,.v (.int .i64 (↑(U1++[x]).length)))] TSO_ok hnt fun K hK=>?_;refine And.intro (dintE (by rw[IntWalk.i64_in _ (by omega)];simp)) ?_;refine hK _ _ ?_;clear hK K
    refine⟨⟨(U1++[x],U2,V1++[y],V2),by rw[←hU];simp,by rw[←hV];simp,by simp;omega⟩,by simp,VS.toA⟩
theorem cmpI_lt {a b:Int}:cmpI a b<0↔a<b:=by
 unfold cmpI
 split
 ·simp[*]
 ·split <;> simp[*]
theorem snoc_cases {α:Type}(l:List α):l=[]∨∃ L b,l=L++[b]:=by
 rcases List.eq_nil_or_concat l with h | ⟨L,b,h⟩
 ·exact .inl h
 ·exact .inr ⟨L,b,by rw[h,List.concat_eq_append]⟩
theorem rotate_d (A X Y Z:List (Int×Tm))(n a m b:Nat)(hn:(A++X++Y++Z).length=n)(ha:A.length=a)(hm:a+X.length=m)(hb:m+Y.length=b)(hX:0<X.length)(hY:0<Y.length)(hM:n≤1000000):
  CallG Tryz.prog 200 [.ps 0 n,.v (.int .i64 ↑a),.v (.int .i64 ↑m),.v (.int .i64 ↑b),.fn 113 []] [(.r 0,.rp 79 5 (ePairs (A++X++Y++Z)))] [(.r 0,.rp 79 5 (ePairs (A++Y++X++Z)))] (.tu []):=by
 have hbn:b≤n:=by simp at hn;omega
 refine callG_of_dw 1 58 [] TSO_ok (by kernel_rfl) Tryz.func200 rfl Tryz.ntmps200 rfl (by simp) ?dwords ?dbody
 case dwords=>simp[wordsG,rowN,rowsR,gkey,Key.eq,D.ok,D.oks,D.okss,rnames,inN,ckey,ePairs_ok]
 case dbody=>
  intro cx hnt hn0
  refine dw_seq ?_;refine dwk [(14,.v (.int .i64 (↑X.length)))] TSO_ok hnt fun K hK=>?_;refine And.intro auI ?_;refine hK _ _ ?_;clear hK K;refine dw_seq ?_;refine dwk [(17,.v (.int .i64 (↑Y.length)))] TSO_ok hnt fun K hK=>?_;refine And.intro auI ?_;refine hK _ _ ?_;clear hK K;refine dw_seq ?_;refine dw_block ?_
  refine dw_loop (ι:={ p:List (Int×Tm)×List (Int×Tm)×List (Int×Tm)×List (Int×Tm) // p.1++p.2.2.1++p.2.1++p.2.2.2=A++Y++X++Z∧p.1.length+p.2.1.length=m∧0<p.2.1.length∧0<p.2.2.1.length }) (fun p=>[(.t 0,.ps 0 n),(.t 2,.v (.int .i64 ↑m)),(.t 4,.fn 113 []),(.t 10,.v (.int .i64 ↑p.1.2.1.length)),(.t 11,.v (.int .i64 ↑p.1.2.2.1.length)),(.r 0,.rp 79 5 (ePairs (p.1.1++p.1.2.1++p.1.2.2.1++p.1.2.2.2)))]) 1 (fun p=>p.1.2.1.length+p.1.2.2.1.length) (⟨(A,X,Y,Z),rfl,by dsimp only;omega,hX,hY⟩) ((VS.toK (by omega) (by repeat first | exact trivial | refine And.intro (And.intro (by first | rfl | simp[D.ok,D.oks,D.okss,D.okm,upto,keyOk,argsT]) (by first | exact Or.inl rfl | exact Or.inr ⟨_,rfl,(by repeat first | exact VLe.refl _ | exact VLe.nil _ | exact VLe.untag _ _ _ | refine VLe.ag ?_ | refine VLe.tu ?_ | refine VLeL.cons ?_ ?_ | exact VLeL.nil),trivial⟩ | simp[get,Key.eq,argsT])) ?_))) fun j=>?_
  obtain⟨⟨P,X',Y',Q⟩,hs,hp,h1,h2⟩:=j
  dsimp only at hs hp h1 h2 ⊢
  have hnn:(P++X'++Y'++Q).length=n:=by
   have:=congrArg List.length hs
   simp at this hn ⊢;omega
  have hmn:m≤n:=by omega
  have hln:P.length+X'.length+Y'.length+Q.length=n:=by rw[←hnn];simp;omega
  by_cases hne:X'.length=Y'.length
  ·have hsw:=swapR_d P X' [] Y' Q n P.length m X'.length (by rw[List.append_nil];exact hnn) rfl (by simp;omega) rfl hne.symm hM
   rw[List.append_nil,List.append_nil,hs] at hsw
   refine dw_seq ?_;refine dw_seq ?_;refine dwk [(20,.v (.bool false))] TSO_ok hnt fun K hK=>?_;refine And.intro (bneF (by omega)) ?_;refine hK _ _ ?_;clear hK K;refine dw_cond (t:=false) rfl ?_;rw[if_neg (by simp)];refine dw_exit ?_;refine dwk [(53,.v (.int .i64 (↑P.length)))] TSO_ok hnt fun K hK=>?_;refine And.intro auI ?_;refine dcn (CallG.n (hsw) _) ?_;refine hK _ _ ?_;clear hK K
   exact reta rfl
  ·by_cases hgt:Y'.length<X'.length
   ·obtain⟨S,T,hST,hS⟩:∃ S T,X'=S++T∧S.length=Y'.length:=⟨X'.take Y'.length,X'.drop Y'.length,(List.take_append_drop _ _).symm,by simp;omega⟩
    have hL:P++X'++Y'++Q=P++S++T++Y'++Q:=by rw[hST];simp
    have hXl:X'.length=S.length+T.length:=by rw[hST];simp
    have hsw:=swapR_d P S T Y' Q n P.length m Y'.length (by rw[←hL];exact hnn) rfl (by omega) hS rfl hM
    rw[hL]
    refine dw_seq ?_;refine dw_seq ?_;refine dwk [(20,.v (.bool true))] TSO_ok hnt fun K hK=>?_;refine And.intro (bneT (by omega)) ?_;refine hK _ _ ?_;clear hK K;refine dw_cond (t:=true) rfl ?_;rw[if_pos rfl];refine dw_skip ?_;refine dw_block ?_;refine dw_seq ?_;refine dwk [(23,.v (.bool true))] TSO_ok hnt fun K hK=>?_;refine And.intro auT ?_;refine hK _ _ ?_;clear hK K;refine dw_cond (t:=true) rfl ?_
    rw[if_pos rfl];refine dw_seq ?_;refine dwk [(27,.v (.int .i64 (↑P.length)))] TSO_ok hnt fun K hK=>?_;refine And.intro auI ?_;refine dcn (CallG.n (hsw) _) ?_;refine hK _ _ ?_;clear hK K;refine dwk [(34,.v (.int .i64 (↑T.length)))] TSO_ok hnt fun K hK=>?_;refine And.intro auI ?_;refine hK _ _ ?_;clear hK K
    rw[←hS]
    refine⟨⟨(P++Y',T,S,Q),by rw[←hs,hST];simp,by simp;omega,by dsimp only;omega,by dsimp only;omega⟩,by first | omega | (dsimp only;omega),VS.toA⟩
   ·obtain⟨S,T,hST,hT⟩:∃ S T,Y'=S++T∧T.length=X'.length:=⟨Y'.take (Y'.length-X'.length),Y'.drop (Y'.length-X'.length),(List.take_append_drop _ _).symm,by simp;omega⟩
    have hL:P++X'++Y'++Q=P++X'++S++T++Q:=by rw[hST];simp
    have hYl:Y'.length=S.length+T.length:=by rw[hST];simp
    have hsw:=swapR_d P X' S T Q n P.length (m+S.length) X'.length (by rw[←hL];exact hnn) rfl (by omega) rfl hT hM
    rw[hL]
    refine dw_seq ?_;refine dw_seq ?_;refine dwk [(20,.v (.bool true))] TSO_ok hnt fun K hK=>?_;refine And.intro (bneT (by omega)) ?_;refine hK _ _ ?_;clear hK K;refine dw_cond (t:=true) rfl ?_;rw[if_pos rfl];refine dw_skip ?_;refine dw_block ?_;refine dw_seq ?_;refine dwk [(23,.v (.bool false))] TSO_ok hnt fun K hK=>?_;refine And.intro auF ?_;refine hK _ _ ?_;clear hK K;refine dw_cond (t:=false) rfl ?_
    rw[if_neg (by simp)];refine dw_seq ?_;refine dwk [(38,.v (.int .i64 (↑P.length))),(41,.v (.int .i64 (↑(m+Y'.length)))),(43,.v (.int .i64 (↑(m+S.length))))] TSO_ok hnt fun K hK=>?_;refine And.intro auI ?_;refine And.intro auI ?_;refine And.intro auI ?_;refine dcn (CallG.n (hsw) _) ?_;refine hK _ _ ?_;clear hK K;refine dwk [(49,.v (.int .i64 (↑S.length)))] TSO_ok hnt fun K hK=>?_
    refine And.intro auI ?_;refine hK _ _ ?_;clear hK K
    rw[←hT]
    refine⟨⟨(P,T,S,X'++Q),by rw[←hs,hST];simp,by dsimp only;omega,by dsimp only;omega,by dsimp only;omega⟩,by first | omega | (dsimp only;omega),VS.toA⟩
theorem insSort_d (A X Z:List (Int×Tm))(n a b:Nat)(hn:(A++X++Z).length=n)(ha:A.length=a)(hb:a+X.length=b)(hM:n≤1000000):
  CallG Tryz.prog 178 [.ps 0 n,.v (.int .i64 ↑a),.v (.int .i64 ↑b),.fn 113 []] [(.r 0,.rp 79 5 (ePairs (A++X++Z)))] [(.r 0,.rp 79 5 (ePairs (A++So.ss X++Z)))] (.tu []):=by
 have hln:A.length+X.length+Z.length=n:=by rw[←hn];simp;omega
 obtain⟨X1,X2,rfl,h0,hs⟩:∃ X1 X2,X=X1++X2∧(X2=[]∧b≤a+1∨a+1=a+X1.length∧0<X1.length)∧So.ss X1=X1:=by
  cases X with
  | nil=>exact⟨[],[],rfl,.inl ⟨rfl,by simp at hb;omega⟩,rfl⟩
  | cons x X=>exact⟨[x],X,rfl,.inr ⟨rfl,Nat.one_pos⟩,So.ss_one x⟩
 obtain⟨X,hXX⟩:∃ X,X1++X2=X:=⟨_,rfl⟩
 rw[hXX] at hb hln
 refine callG_of_dw 1 53 [] TSO_ok (by kernel_rfl) Tryz.func178 rfl Tryz.ntmps178 rfl (by simp) ?dwords ?dbody
 case dwords=>simp[wordsG,rowN,rowsR,gkey,Key.eq,D.ok,D.oks,D.okss,rnames,inN,ckey,ePairs_ok]
 case dbody=>
  intro cx hnt hn0
  refine dw_seq ?_;refine dwk [(11,.v (.int .i64 (↑(a+1))))] TSO_ok hnt fun K hK=>?_;refine And.intro auI ?_;refine hK _ _ ?_;clear hK K;refine dw_block ?_
  refine dw_loop (ι:={ p:List (Int×Tm)×List (Int×Tm)×Nat // p.1++p.2.1=X∧(p.2.1=[]∧b≤p.2.2∨p.2.2=a+p.1.length∧0<p.1.length) }) (fun p=>[(.t 0,.ps 0 n),(.t 1,.v (.int .i64 ↑a)),(.t 2,.v (.int .i64 ↑b)),(.t 3,.fn 113 []),(.t 8,.v (.int .i64 ↑p.1.2.2)),(.r 0,.rp 79 5 (ePairs (A++So.ss p.1.1++p.1.2.1++Z)))]) 1 (fun p=>p.1.2.1.length) (⟨(X1,X2,a+1),hXX,h0⟩) ((VS.toK (by omega) (by repeat first | exact trivial | refine And.intro (And.intro (by first | rfl | simp[D.ok,D.oks,D.okss,D.okm,upto,keyOk,argsT,hs]) (by first | exact Or.inl rfl | exact Or.inr ⟨_,rfl,(by repeat first | exact VLe.refl _ | exact VLe.nil _ | exact VLe.untag _ _ _ | refine VLe.ag ?_ | refine VLe.tu ?_ | refine VLeL.cons ?_ ?_ | exact VLeL.nil),trivial⟩ | simp[get,Key.eq,argsT,hs])) ?_))) fun j=>?_
  obtain⟨⟨Y1,Y2,i⟩,hY,hi⟩:=j
  dsimp only at hY hi ⊢
  have hYl:X.length=Y1.length+Y2.length:=by rw[←hY];simp
  cases Y2 with
  | nil=>
   have hib:b≤i:=by
    rcases hi with hi | hi
    ·exact hi.2
    ·rw[List.length_nil] at hYl;omega
   rw[List.append_nil] at hY ⊢
   subst hY
   rw[hXX]
   refine dw_seq ?_;refine dw_seq ?_;refine dwk [(14,.v (.bool false))] TSO_ok hnt fun K hK=>?_;refine And.intro auF ?_;refine hK _ _ ?_;clear hK K;refine dw_cond (t:=false) rfl ?_;rw[if_neg (by simp)];refine dw_exit ?_
   exact reta rfl
  | cons x Y2=>
   have hi2:i=a+Y1.length:=by
    rcases hi with hi | hi
    ·cases hi.1
    ·exact hi.1
   rw[List.length_cons] at hYl
   refine dw_seq ?_;refine dw_seq ?_;refine dwk [(14,.v (.bool true))] TSO_ok hnt fun K hK=>?_;refine And.intro auT ?_;refine hK _ _ ?_;clear hK K;refine dw_cond (t:=true) rfl ?_;rw[if_pos rfl];refine dw_skip ?_;refine dw_seq ?_;refine dw_block ?_;refine dw_seq ?_;refine dwk [(9,.v (.int .i64 ↑(a+(So.ss Y1).length)))] TSO_ok hnt fun K hK=>?_;refine And.intro (VLe.of_eq (by rw[So.ss_len,hi2])) ?_
   refine hK _ _ ?_;clear hK K;refine dw_block ?_
   refine dw_loop (ι:={ p:List (Int×Tm)×List (Int×Tm) // p.1++p.2=So.ss Y1∧∀ s∈p.2,x.1<s.1 }) (fun p=>[(.t 0,.ps 0 n),(.t 1,.v (.int .i64 ↑a)),(.t 2,.v (.int .i64 ↑b)),(.t 3,.fn 113 []),(.t 8,.v (.int .i64 ↑i)),(.t 9,.v (.int .i64 ↑(a+p.1.1.length))),(.r 0,.rp 79 5 (ePairs (A++p.1.1++x :: p.1.2++Y2++Z)))]) 1 (fun p=>p.1.1.length) (⟨(So.ss Y1,[]),by simp,by simp⟩) (VS.toA) fun j=>?_
   obtain⟨⟨S1,S2⟩,hS,hg⟩:=j
   dsimp only at hS hg ⊢
   have hSl:S1.length+S2.length=Y1.length:=by rw[←So.ss_len Y1,←hS];simp
   obtain⟨L,hL⟩:∃ L,A++S1++x :: S2++Y2++Z=L:=⟨_,rfl⟩
   have hnL:L.length=n:=by rw[←hL];simp;omega
   rw[hL]
   have hdone:∀ h1:(∀ s∈S1,s.1≤x.1),L=A++So.ss (Y1++[x])++Y2++Z:=fun h1=>by
    rw[So.ss_snoc hS h1 hg,←hL];simp
   rcases snoc_cases S1 with rfl | ⟨S,s,rfl⟩
   ·rw[hdone (by simp)]
    refine dw_seq ?_;refine dw_seq ?_;refine dwkD [(20,.v (.bool false))] TSO_ok hnt fun K hK=>?_;refine And.intro (by first | exact dfalse (by simp) | exact VLe.of_eq (by simp)) ?_;refine hK _ _ (by kernel_rfl) ?_;clear hK K;refine dw_cond (t:=false) rfl ?_;rw[if_neg (by simp)];refine dw_exit ?_;refine dwk [(16,.v (.int .i64 (↑(i+1))))] TSO_ok hnt fun K hK=>?_;refine And.intro (dintE (by rw[IntWalk.i64_in _ (by omega)];omega)) ?_
    refine hK _ _ ?_;clear hK K
    refine⟨⟨(Y1++[x],Y2,i+1),by rw[←hY];simp,.inr ⟨by simp;omega,by simp⟩⟩,by simp,VS.toA⟩
   ·have hj:a+(S++[s]).length=a+S.length+1:=by simp;omega
    rw[hj]
    simp at hSl
    have hx:L[a+S.length+1]?=some x:=at_ (P:=A++S++[s]) (R:=S2++Y2++Z) (by rw[←hL];simp) (by simp;omega)
    have hy:L[a+S.length]?=some s:=at_ (P:=A++S) (R:=x :: S2++Y2++Z) (by rw[←hL];simp) (by simp;omega)
    have lx:=pl_lt hnL hx
    have ho:=sorder_d x s
    rw[ePair_eq,ePair_eq] at ho
    by_cases hlt:x.1<s.1
    ·skip
     refine dw_seq ?_;refine dw_seq ?_;refine dwkD [(20,.v (.bool true)),(25,.pr 0 n 5 ((a+S.length+1)) 0),(26,.ag [.v (.int .i64 x.1),.sl 2 (eTys x.2.binds) none,.v (.int .i64 x.2.kind),.v (.int .i64 x.2.index),.sl 4 (eTms x.2.args) none]),(29,.v (.int .i64 (↑(a+S.length)))),(30,.pr 0 n 5 ((a+S.length)) 0),(31,.ag [.v (.int .i64 s.1),.sl 2 (eTys s.2.binds) none,.v (.int .i64 s.2.kind),.v (.int .i64 s.2.index),.sl 4 (eTms s.2.args) none]),(33,.v (.bool true))] TSO_ok hnt fun K hK=>?_
     refine And.intro (by first | exact dtrue (by simp;omega) | exact VLe.of_eq (by simp;omega)) ?_;refine And.intro (by constructor <;> omega) ?_;refine And.intro (by first | rfl | exact VLe.of_eq (by simp)) ?_;refine And.intro (pl_ok hnL hx) ?_;refine And.intro (pl_eq hx) ?_;refine And.intro auI ?_;refine And.intro (by constructor <;> omega) ?_;refine And.intro (by first | rfl | exact VLe.of_eq (by simp)) ?_
     refine And.intro (pl_ok hnL hy) ?_;refine And.intro (pl_eq hy) ?_;refine dcl (ho) ?_;refine And.intro (dtrue (cmpI_lt.2 hlt)) ?_;refine hK _ _ (by kernel_rfl) ?_;clear hK K;refine dw_cond (t:=true) rfl ?_;rw[if_pos rfl];refine dw_skip ?_;refine dw_seq ?_;refine dw_block ?_;refine dwkD [(41,.v (.int .i64 (↑(a+S.length)))),(44,.v (.int .i64 (↑(a+S.length)))),(45,.pr 0 n 5 ((a+S.length)) 0),(46,.ag [.v (.int .i64 s.1),.sl 2 (eTys s.2.binds) none,.v (.int .i64 s.2.kind),.v (.int .i64 s.2.index),.sl 4 (eTms s.2.args) none]),(49,.pr 0 n 5 ((a+S.length+1)) 0),(50,.ag [.v (.int .i64 x.1),.sl 2 (eTys x.2.binds) none,.v (.int .i64 x.2.kind),.v (.int .i64 x.2.index),.sl 4 (eTms x.2.args) none]),(51,.pr 0 n 5 ((a+S.length+1)) 0),(52,.pr 0 n 5 ((a+S.length)) 0)] TSO_ok hnt fun K hK=>?_
     refine And.intro auI ?_;refine And.intro auI ?_;refine And.intro (by constructor <;> omega) ?_;refine And.intro (by first | rfl | exact VLe.of_eq (by simp)) ?_;refine And.intro (pl_ok hnL hy) ?_;refine And.intro (pl_eq hy) ?_;refine And.intro (by constructor <;> omega) ?_;refine And.intro (by first | rfl | exact VLe.of_eq (by simp)) ?_;refine And.intro (pl_ok hnL hx) ?_;refine And.intro (pl_eq hx) ?_
     refine And.intro (by constructor <;> omega) ?_;refine And.intro (by first | rfl | exact VLe.of_eq (by simp)) ?_;refine And.intro (st_ok hnL hx) ?_;refine And.intro (by constructor <;> omega) ?_;refine And.intro (by first | rfl | exact VLe.of_eq (by simp)) ?_;refine And.intro (st_ok2 hnL hy) ?_;refine hK _ _ (by kernel_rfl) ?_;clear hK K
     rw[eP_swap' (P:=A++S) (Q:=[]) (R:=S2++Y2++Z) (L':=A++S++x :: (s :: S2)++Y2++Z) (by rw[←hL];simp) (by simp;omega) (by simp) (by simp)]
     refine dwk [(36,.v (.int .i64 (↑(a+S.length))))] TSO_ok hnt fun K hK=>?_;refine And.intro auI ?_;refine hK _ _ ?_;clear hK K
     refine⟨⟨(S,s :: S2),by rw[←hS];simp,fun u hu=>(List.mem_cons.1 hu).elim (fun e=>e ▸ hlt) (hg u)⟩,by simp,VS.toA⟩
    ·have hsrt:=So.ss_srt Y1
     rw[←hS] at hsrt
     have hall:∀ u∈S++[s],u.1≤x.1:=fun u hu=>by
      rcases List.mem_append.1 hu with hu | hu
      ·have:=(So.srt_app.1 (So.srt_app.1 hsrt).1).2.2 u hu s (by simp);omega
      ·rw[List.mem_singleton] at hu;subst hu;omega
     refine dw_seq ?_;refine dw_seq ?_;refine dwkD [(20,.v (.bool true)),(25,.pr 0 n 5 ((a+S.length+1)) 0),(26,.ag [.v (.int .i64 x.1),.sl 2 (eTys x.2.binds) none,.v (.int .i64 x.2.kind),.v (.int .i64 x.2.index),.sl 4 (eTms x.2.args) none]),(29,.v (.int .i64 (↑(a+S.length)))),(30,.pr 0 n 5 ((a+S.length)) 0),(31,.ag [.v (.int .i64 s.1),.sl 2 (eTys s.2.binds) none,.v (.int .i64 s.2.kind),.v (.int .i64 s.2.index),.sl 4 (eTms s.2.args) none]),(33,.v (.bool false))] TSO_ok hnt fun K hK=>?_
     refine And.intro (by first | exact dtrue (by simp;omega) | exact VLe.of_eq (by simp;omega)) ?_;refine And.intro (by constructor <;> omega) ?_;refine And.intro (by first | rfl | exact VLe.of_eq (by simp)) ?_;refine And.intro (pl_ok hnL hx) ?_;refine And.intro (pl_eq hx) ?_;refine And.intro auI ?_;refine And.intro (by constructor <;> omega) ?_;refine And.intro (by first | rfl | exact VLe.of_eq (by simp)) ?_
     refine And.intro (pl_ok hnL hy) ?_;refine And.intro (pl_eq hy) ?_;refine dcl (ho) ?_;refine And.intro (dfalse (fun h=>hlt (cmpI_lt.1 h))) ?_;refine hK _ _ (by kernel_rfl) ?_;clear hK K;refine dw_cond (t:=false) rfl ?_;rw[if_neg (by simp)]
     rw[hdone hall]
     refine dw_exit ?_;refine dwk [(16,.v (.int .i64 (↑(i+1))))] TSO_ok hnt fun K hK=>?_;refine And.intro auI ?_;refine hK _ _ ?_;clear hK K
     refine⟨⟨(Y1++[x],Y2,i+1),by rw[←hY];simp,.inr ⟨by simp;omega,by simp⟩⟩,by simp,VS.toA⟩
theorem half_i (k:Nat)(h:k<4611686018427387904):IntKind.i64.wrap ((IntKind.u64.wrap (↑k:Int)).fdiv 2)=((k / 2:Nat):Int):=by
 have e1:IntKind.u64.wrap (↑k:Int)=↑k:=by
  simp only[IntKind.wrap,IntKind.bits,IntKind.signed]
  simp
  omega
 rw[e1,Int.fdiv_eq_ediv_of_nonneg _ (by omega),IntWalk.i64_in _ (by omega)]
 omega
namespace So
def ky (L:List (Int×Tm))(i:Nat):Int:=((L[i]?).map (·.1)).getD 0
theorem ky_at {L:List (Int×Tm)}{i:Nat}{x:Int×Tm}(h:L[i]?=some x):ky L i=x.1:=by simp[ky,h]
theorem at_ex {α:Type}{L:List α}{n i:Nat}(hn:L.length=n)(hi:i<n):∃ x,L[i]?=some x:=⟨L[i]'(by omega),List.getElem?_eq_getElem (by omega)⟩
theorem left_one {x:Int×Tm}{Y1 Y2:List (Int×Tm)}(hY:Srt (Y1++Y2))(h1:∀ y∈Y1,y.1<x.1)(h2:∀ y∈Y2,x.1≤y.1):ss ([x]++(Y1++Y2))=Y1++x :: Y2:=by
 have a:=srt_app.1 hY
 have h:=ss_cut (X1:=[]) (X2:=[x]) (Y1:=Y1) (Y2:=Y2) (srt_one x) hY (fun _ h=>by cases h) (fun y hy u hu=>by rw[List.mem_singleton] at hu;subst hu;exact h1 y hy)
 rw[List.nil_append,List.nil_append,ss_self a.1,ss_self (l:=[x]++Y2) (List.pairwise_cons.2 ⟨h2,a.2.1⟩)] at h
 exact h
theorem right_one {y:Int×Tm}{X1 X2:List (Int×Tm)}(hX:Srt (X1++X2))(h1:∀ x∈X1,x.1≤y.1)(h2:∀ x∈X2,y.1<x.1):ss (X1++X2++[y])=X1++y :: X2:=ss_snoc (ss_self hX).symm h1 h2
theorem sym_cut {A X Y Z L:List (Int×Tm)}{a m b mid s:Nat}(hX:Srt X)(hY:Srt Y)(hL:L=A++X++Y++Z)(ha:A.length=a)(hm:a+X.length=m)(hb:m+Y.length=b)(q1:a≤s)(q2:s≤m)(q3:s≤mid)(q4:mid+m≤s+b) 
  (h1:s=a∨mid+m=s+b∨ky L (s-1)≤ky L (mid+m-s)) (h2:s=mid∨s=m∨ky L (mid+m-1-s)<ky L s) :
  ∃ X1 X2 Y1 Y2,X=X1++X2∧Y=Y1++Y2∧a+X1.length=s∧s+Y1.length=mid∧(∀ x∈X1,∀ y∈Y2,x.1≤y.1)∧(∀ y∈Y1,∀ x∈X2,y.1<x.1):=by
 obtain⟨X1,X2,rfl,hx⟩:∃ X1 X2,X=X1++X2∧a+X1.length=s:=⟨X.take (s-a),X.drop (s-a),(List.take_append_drop _ _).symm,by simp;omega⟩
 obtain⟨Y1,Y2,rfl,hy⟩:∃ Y1 Y2,Y=Y1++Y2∧s+Y1.length=mid:=⟨Y.take (mid-s),Y.drop (mid-s),(List.take_append_drop _ _).symm,by simp;omega⟩
 rw[List.length_append] at hm hb
 have sx:=srt_app.1 hX
 have sy:=srt_app.1 hY
 refine⟨X1,X2,Y1,Y2,rfl,rfl,hx,hy,fun x hxm y hym=>?_,fun y hym x hxm=>?_⟩
 ·rcases snoc_cases X1 with rfl | ⟨U,u,rfl⟩
  ·cases hxm
  cases Y2 with
  | nil=>cases hym
  | cons v V=>
   simp at hx hm hb
   have e1:L[s-1]?=some u:=at_ (P:=A++U) (R:=X2++(Y1++v :: V)++Z) (by rw[hL];simp) (by simp;omega)
   have e2:L[mid+m-s]?=some v:=at_ (P:=A++(U++[u]++X2)++Y1) (R:=V++Z) (by rw[hL];simp) (by simp;omega)
   rcases h1 with h1 | h1 | h1
   ·omega
   ·omega
   ·rw[ky_at e1,ky_at e2] at h1
    have a1:x.1≤u.1:=by
     rcases List.mem_append.1 hxm with h | h
     ·exact(srt_app.1 sx.1).2.2 x h u (by simp)
     ·rw[List.mem_singleton] at h;rw[h];exact Int.le_refl _
    have a2:v.1≤y.1:=by
     rcases List.mem_cons.1 hym with h | h
     ·rw[h];exact Int.le_refl _
     ·exact(List.pairwise_cons.1 sy.2.1).1 y h
    omega
 ·rcases snoc_cases Y1 with rfl | ⟨U,u,rfl⟩
  ·cases hym
  cases X2 with
  | nil=>cases hxm
  | cons v V=>
   simp at hy hm hb
   have e1:L[mid+m-1-s]?=some u:=at_ (P:=A++(X1++v :: V)++U) (R:=Y2++Z) (by rw[hL];simp) (by simp;omega)
   have e2:L[s]?=some v:=at_ (P:=A++X1) (R:=V++(U++[u]++Y2)++Z) (by rw[hL];simp) (by simp;omega)
   rcases h2 with h2 | h2 | h2
   ·omega
   ·omega
   ·rw[ky_at e1,ky_at e2] at h2
    have a1:y.1≤u.1:=by
     rcases List.mem_append.1 hym with h | h
     ·exact(srt_app.1 sy.1).2.2 y h u (by simp)
     ·rw[List.mem_singleton] at h;rw[h];exact Int.le_refl _
    have a2:v.1≤x.1:=by
     rcases List.mem_cons.1 hxm with h | h
     ·rw[h];exact Int.le_refl _
     ·exact(List.pairwise_cons.1 sx.2.1).1 x h
    omega
end So
abbrev symIn (n a m b:Nat):List D:=[.ps 0 n,.v (.int .i64 ↑a),.v (.int .i64 ↑m),.v (.int .i64 ↑b),.fn 113 []]
abbrev symR (L:List (Int×Tm)):List (Key×D):=[(.r 0,.rp 79 5 (ePairs L))]
theorem sym_left (A:List (Int×Tm))(x:Int×Tm)(Y Z:List (Int×Tm))(n a m b:Nat)(hn:(A++[x]++Y++Z).length=n)(ha:A.length=a)(hm:a+1=m)(hb:m+Y.length=b)(hY:So.Srt Y)(hM:n≤1000000):
  CallG Tryz.prog 179 (symIn n a m b) (symR (A++[x]++Y++Z)) (symR (A++So.ss ([x]++Y)++Z)) (.tu []):=by
 have hbn:b≤n:=by simp at hn;omega
 obtain⟨L,hL⟩:∃ L,A++[x]++Y++Z=L:=⟨_,rfl⟩
 rw[hL] at hn ⊢
 have hx:L[a]?=some x:=at_ (P:=A) (R:=Y++Z) (by rw[←hL];simp) ha
 have lx:=pl_lt hn hx
 subst hb
 refine callG_of_dw 1 220 [] TSO_ok (by kernel_rfl) Tryz.func179 rfl Tryz.ntmps179 rfl (by simp) ?dwords ?dbody
 case dwords=>simp[wordsG,rowN,rowsR,gkey,Key.eq,D.ok,D.oks,D.okss,rnames,inN,ckey,ePairs_ok]
 case dbody=>
  intro cx hnt hn0
  refine dw_seq ?_;refine dw_seq ?_;refine dwk [(27,.v (.int .i64 (↑1))),(28,.v (.bool true))] TSO_ok hnt fun K hK=>?_;refine And.intro auI ?_;refine And.intro (beqT rfl) ?_;refine hK _ _ ?_;clear hK K;refine dw_cond (t:=true) rfl ?_;rw[if_pos rfl];refine dw_seq ?_;refine dwk [] TSO_ok hnt fun _ z9=>z9 _ _ ?_;refine dw_seq ?_;refine dwk [] TSO_ok hnt fun K hK=>?_
  refine hK _ _ ?_;clear hK K;refine dw_seq ?_;refine dw_block ?_
  refine dw_loop (ι:={ p:List (Int×Tm)×List (Int×Tm)×List (Int×Tm) // p.1++p.2.1++p.2.2=Y∧(∀ y∈p.1,y.1<x.1)∧(∀ y∈p.2.2,x.1≤y.1) }) (fun p=>[(.t 0,.ps 0 n),(.t 1,.v (.int .i64 ↑a)),(.t 4,.fn 113 []),(.t 10,.v (.int .i64 ↑(m+p.1.1.length))),(.t 11,.v (.int .i64 ↑(m+p.1.1.length+p.1.2.1.length))),(.r 0,.rp 79 5 (ePairs L))]) 1 (fun p=>p.1.2.1.length) (⟨([],Y,[]),by simp,by simp,by simp⟩) ((VS.toK (by omega) (by repeat first | exact trivial | refine And.intro (And.intro (by first | rfl | simp[D.ok,D.oks,D.okss,D.okm,upto,keyOk,argsT]) (by first | exact Or.inl rfl | exact Or.inr ⟨_,rfl,(by repeat first | exact VLe.refl _ | exact VLe.nil _ | exact VLe.untag _ _ _ | refine VLe.ag ?_ | refine VLe.tu ?_ | refine VLeL.cons ?_ ?_ | exact VLeL.nil),trivial⟩ | simp[get,Key.eq,argsT])) ?_))) fun j=>?_
  obtain⟨⟨Y1,Mi,Y2⟩,hs,h1,h2⟩:=j
  dsimp only at hs h1 h2 ⊢
  have hYl:Y1.length+Mi.length+Y2.length=Y.length:=by rw[←hs];simp;omega
  by_cases h0:Mi.length=0
  ·have:Mi=[]:=List.length_eq_zero_iff.1 h0
   subst this
   rw[List.append_nil] at hs
   rw[List.length_nil,Nat.add_zero] at hYl ⊢
   refine dw_seq ?_;refine dw_seq ?_;refine dwk [(33,.v (.bool false))] TSO_ok hnt fun K hK=>?_;refine And.intro auF ?_;refine hK _ _ ?_;clear hK K;refine dw_cond (t:=false) rfl ?_;rw[if_neg (by simp)];refine dw_exit ?_;refine dw_seq ?_;refine dw_seq ?_;refine dwk [] TSO_ok hnt fun _ z9=>z9 _ _ ?_;refine dw_block ?_
   refine dw_loop (ι:={ p:List (Int×Tm)×List (Int×Tm) // p.1++p.2=Y1 }) (fun p=>[(.t 0,.ps 0 n),(.t 10,.v (.int .i64 ↑(m+Y1.length))),(.t 13,.v (.int .i64 ↑(a+p.1.1.length))),(.r 0,.rp 79 5 (ePairs (A++p.1.1++x :: p.1.2++Y2++Z)))]) 1 (fun p=>p.1.2.length) (⟨([],Y1),rfl⟩) ((VS.toK (by omega) (by repeat first | exact trivial | refine And.intro (And.intro (by first | rfl | simp[D.ok,D.oks,D.okss,D.okm,upto,keyOk,←hL,←hs]) (by first | exact Or.inl rfl | exact Or.inr ⟨_,rfl,(by repeat first | exact VLe.refl _ | exact VLe.nil _ | exact VLe.untag _ _ _ | refine VLe.ag ?_ | refine VLe.tu ?_ | refine VLeL.cons ?_ ?_ | exact VLeL.nil),trivial⟩ | simp[get,Key.eq,←hL,←hs])) ?_))) fun j=>?_
   obtain⟨⟨B1,B2⟩,hB⟩:=j
   dsimp only at hB ⊢
   have hBl:B1.length+B2.length=Y1.length:=by rw[←hB];simp
   cases B2 with
   | nil=>
    rw[List.length_nil] at hBl
    rw[List.append_nil] at hB
    have hf:So.ss ([x]++Y)=Y1++x :: Y2:=by rw[←hs];exact So.left_one (by rw[hs];exact hY) h1 h2
    rw[hf]
    have e2:A++B1++[x]++Y2++Z=A++(Y1++x :: Y2)++Z:=by rw[hB];simp
    rw[e2]
    refine dw_seq ?_;refine dw_seq ?_;refine dwk [(57,.v (.int .i64 (↑(a+Y1.length)))),(58,.v (.bool false))] TSO_ok hnt fun K hK=>?_;refine And.intro auI ?_;refine And.intro auF ?_;refine hK _ _ ?_;clear hK K;refine dw_cond (t:=false) rfl ?_;rw[if_neg (by simp)];refine dw_exit ?_;refine dw_ret ?_
    exact reta rfl
   | cons y B2=>
    rw[List.length_cons] at hBl
    obtain⟨L2,hL2⟩:∃ L2,A++B1++x :: (y :: B2)++Y2++Z=L2:=⟨_,rfl⟩
    rw[hL2]
    have hn2:L2.length=n:=by rw[←hL2,←hn,←hL,←hs,←hB];simp;omega
    have gx:L2[a+B1.length]?=some x:=at_ (P:=A++B1) (R:=y :: B2++Y2++Z) (by rw[←hL2];simp) (by simp;omega)
    have gy:L2[a+B1.length+1]?=some y:=at_ (P:=A++B1++[x]) (R:=B2++Y2++Z) (by rw[←hL2];simp) (by simp;omega)
    have ly:=pl_lt hn2 gy
    refine dw_seq ?_;refine dw_seq ?_;refine dwk [(57,.v (.int .i64 (↑(a+Y1.length)))),(58,.v (.bool true))] TSO_ok hnt fun K hK=>?_;refine And.intro auI ?_;refine And.intro auT ?_;refine hK _ _ ?_;clear hK K;refine dw_cond (t:=true) rfl ?_;rw[if_pos rfl];refine dw_skip ?_;refine dw_seq ?_;refine dw_block ?_;refine dwkD [(65,.v (.int .i64 (↑(a+B1.length+1)))),(68,.v (.int .i64 (↑(a+B1.length+1)))),(69,.pr 0 n 5 ((a+B1.length+1)) 0),(70,.ag [.v (.int .i64 y.1),.sl 2 (eTys y.2.binds) none,.v (.int .i64 y.2.kind),.v (.int .i64 y.2.index),.sl 4 (eTms y.2.args) none]),(73,.pr 0 n 5 ((a+B1.length)) 0),(74,.ag [.v (.int .i64 x.1),.sl 2 (eTys x.2.binds) none,.v (.int .i64 x.2.kind),.v (.int .i64 x.2.index),.sl 4 (eTms x.2.args) none]),(75,.pr 0 n 5 ((a+B1.length)) 0),(76,.pr 0 n 5 ((a+B1.length+1)) 0)] TSO_ok hnt fun K hK=>?_
    refine And.intro auI ?_;refine And.intro auI ?_;refine And.intro (by constructor <;> omega) ?_;refine And.intro (by first | rfl | exact VLe.of_eq (by simp)) ?_;refine And.intro (pl_ok hn2 gy) ?_;refine And.intro (pl_eq gy) ?_;refine And.intro (by constructor <;> omega) ?_;refine And.intro (by first | rfl | exact VLe.of_eq (by simp)) ?_;refine And.intro (pl_ok hn2 gx) ?_;refine And.intro (pl_eq gx) ?_
    refine And.intro (by constructor <;> omega) ?_;refine And.intro (by first | rfl | exact VLe.of_eq (by simp)) ?_;refine And.intro (st_ok hn2 gx) ?_;refine And.intro (by constructor <;> omega) ?_;refine And.intro (by first | rfl | exact VLe.of_eq (by simp)) ?_;refine And.intro (st_ok2 hn2 gy) ?_;refine hK _ _ (by kernel_rfl) ?_;clear hK K
    rw[eP_swap (P:=A++B1) (Q:=[]) (R:=B2++Y2++Z) (L':=A++(B1++[y])++x :: B2++Y2++Z) (by rw[←hL2];simp) (by simp;omega) (by simp) (by simp)]
    refine dwk [(60,.v (.int .i64 (↑(a+(B1++[y]).length))))] TSO_ok hnt fun K hK=>?_;refine And.intro (dintE (by rw[IntWalk.i64_in _ (by omega)];simp;omega)) ?_;refine hK _ _ ?_;clear hK K
    refine⟨⟨(B1++[y],B2),by rw[←hB];simp⟩,by simp,VS.toA⟩
  ·obtain⟨M1,y,M2,rfl,hh⟩:∃ M1 y M2,Mi=M1++y :: M2∧m+Y1.length+M1.length=(m+Y1.length+(m+Y1.length+Mi.length)) / 2:=by
    have hlt:Mi.length / 2<Mi.length:=by omega
    refine⟨Mi.take (Mi.length / 2),Mi[Mi.length / 2],Mi.drop (Mi.length / 2+1),?_,?_⟩
    ·rw[←List.drop_eq_getElem_cons hlt,List.take_append_drop]
    ·rw[List.length_take,Nat.min_eq_left (by omega)];omega
   have hMl:(M1++y :: M2).length=M1.length+M2.length+1:=by simp;omega
   have hy:L[m+Y1.length+M1.length]?=some y:=at_ (P:=A++[x]++Y1++M1) (R:=M2++Y2++Z) (by rw[←hL,←hs];simp) (by simp;omega)
   have ho:=sorder_d y x
   rw[ePair_eq,ePair_eq] at ho
   have hsrt:=hY
   rw[←hs] at hsrt
   have a1:=(So.srt_app.1 (So.srt_app.1 hsrt).1).2.1
   have a2:=So.srt_app.1 a1
   obtain⟨c,hc⟩:∃ c,m+Y1.length+(M1++y :: M2).length=c:=⟨_,rfl⟩
   rw[hc] at hh ⊢
   by_cases hlt:y.1<x.1
   ·skip
    refine dw_seq ?_;refine dw_seq ?_;refine dwk [(33,.v (.bool true))] TSO_ok hnt fun K hK=>?_;refine And.intro auT ?_;refine hK _ _ ?_;clear hK K;refine dw_cond (t:=true) rfl ?_;rw[if_pos rfl];refine dw_skip ?_;refine dw_block ?_;refine dw_seq ?_;refine dwk [(36,.v (.int .i64 (↑(m+Y1.length+c)))),(39,.v (.int .i64 (↑(m+Y1.length+M1.length))))] TSO_ok hnt fun K hK=>?_;refine And.intro auI ?_
    refine And.intro (dintE (by rw[hh];exact half_i _ (by omega))) ?_;refine hK _ _ ?_;clear hK K;refine dw_seq ?_;refine dwkD [(43,.pr 0 n 5 ((m+Y1.length+M1.length)) 0),(44,.ag [.v (.int .i64 y.1),.sl 2 (eTys y.2.binds) none,.v (.int .i64 y.2.kind),.v (.int .i64 y.2.index),.sl 4 (eTms y.2.args) none]),(47,.pr 0 n 5 (a) 0),(48,.ag [.v (.int .i64 x.1),.sl 2 (eTys x.2.binds) none,.v (.int .i64 x.2.kind),.v (.int .i64 x.2.index),.sl 4 (eTms x.2.args) none]),(50,.v (.bool true))] TSO_ok hnt fun K hK=>?_
    refine And.intro (by constructor <;> omega) ?_;refine And.intro (by first | rfl | exact VLe.of_eq (by simp)) ?_;refine And.intro (pl_ok hn hy) ?_;refine And.intro (pl_eq hy) ?_;refine And.intro (by constructor <;> omega) ?_;refine And.intro (by first | rfl | exact VLe.of_eq (by simp)) ?_;refine And.intro (pl_ok hn hx) ?_;refine And.intro (pl_eq hx) ?_;refine dcl (ho) ?_;refine And.intro (dtrue (cmpI_lt.2 hlt)) ?_
    refine hK _ _ (by kernel_rfl) ?_;clear hK K;refine dw_cond (t:=true) rfl ?_;rw[if_pos rfl];refine dwk [(52,.v (.int .i64 (↑(m+(Y1++(M1++[y])).length))))] TSO_ok hnt fun K hK=>?_;refine And.intro (dintE (by rw[IntWalk.i64_in _ (by omega)];simp;omega)) ?_;refine hK _ _ ?_;clear hK K
    have e3:c=m+(Y1++(M1++[y])).length+M2.length:=by rw[←hc];simp;omega
    rw[e3]
    refine⟨⟨(Y1++(M1++[y]),M2,Y2),by rw[←hs];simp,fun u hu=>?g1,h2⟩,by simp;omega,VS.toA⟩
    case g1=>
     rcases List.mem_append.1 hu with hu | hu
     ·exact h1 u hu
     ·rcases List.mem_append.1 hu with hu | hu
      ·have:=a2.2.2 u hu y (by simp);omega
      ·rw[List.mem_singleton] at hu;subst hu;exact hlt
   ·skip
    refine dw_seq ?_;refine dw_seq ?_;refine dwk [(33,.v (.bool true))] TSO_ok hnt fun K hK=>?_;refine And.intro auT ?_;refine hK _ _ ?_;clear hK K;refine dw_cond (t:=true) rfl ?_;rw[if_pos rfl];refine dw_skip ?_;refine dw_block ?_;refine dw_seq ?_;refine dwk [(36,.v (.int .i64 (↑(m+Y1.length+c)))),(39,.v (.int .i64 (↑(m+Y1.length+M1.length))))] TSO_ok hnt fun K hK=>?_;refine And.intro auI ?_
    refine And.intro (dintE (by rw[hh];exact half_i _ (by omega))) ?_;refine hK _ _ ?_;clear hK K;refine dw_seq ?_;refine dwkD [(43,.pr 0 n 5 ((m+Y1.length+M1.length)) 0),(44,.ag [.v (.int .i64 y.1),.sl 2 (eTys y.2.binds) none,.v (.int .i64 y.2.kind),.v (.int .i64 y.2.index),.sl 4 (eTms y.2.args) none]),(47,.pr 0 n 5 (a) 0),(48,.ag [.v (.int .i64 x.1),.sl 2 (eTys x.2.binds) none,.v (.int .i64 x.2.kind),.v (.int .i64 x.2.index),.sl 4 (eTms x.2.args) none]),(50,.v (.bool false))] TSO_ok hnt fun K hK=>?_
    refine And.intro (by constructor <;> omega) ?_;refine And.intro (by first | rfl | exact VLe.of_eq (by simp)) ?_;refine And.intro (pl_ok hn hy) ?_;refine And.intro (pl_eq hy) ?_;refine And.intro (by constructor <;> omega) ?_;refine And.intro (by first | rfl | exact VLe.of_eq (by simp)) ?_;refine And.intro (pl_ok hn hx) ?_;refine And.intro (pl_eq hx) ?_;refine dcl (ho) ?_;refine And.intro (dfalse (fun h=>hlt (cmpI_lt.1 h))) ?_
    refine hK _ _ (by kernel_rfl) ?_;clear hK K;refine dw_cond (t:=false) rfl ?_;rw[if_neg (by simp)];refine dwk [] TSO_ok hnt fun _ z9=>z9 _ _ ?_
    refine⟨⟨(Y1,M1,y :: M2++Y2),by rw[←hs];simp,h1,fun u hu=>?g2⟩,by simp,VS.toA⟩
    case g2=>
     rcases List.mem_append.1 hu with hu | hu
     ·rcases List.mem_cons.1 hu with rfl | hu
      ·omega
      ·have:=(List.pairwise_cons.1 a2.2.1).1 u hu;omega
     ·exact h2 u hu
theorem sym_right (A:List (Int×Tm))(X:List (Int×Tm))(y:Int×Tm)(Z:List (Int×Tm))(n a m b:Nat)(hn:(A++X++[y]++Z).length=n)(ha:A.length=a)(hm:a+X.length=m)(hb:m+1=b)(hX:So.Srt X)(h1X:X.length≠1)(hM:n≤1000000):
  CallG Tryz.prog 179 (symIn n a m b) (symR (A++X++[y]++Z)) (symR (A++So.ss (X++[y])++Z)) (.tu []):=by
 have hbn:b≤n:=by simp at hn;omega
 obtain⟨L,hL⟩:∃ L,A++X++[y]++Z=L:=⟨_,rfl⟩
 rw[hL] at hn ⊢
 have hy:L[m]?=some y:=at_ (P:=A++X) (R:=Z) (by rw[←hL];simp) (by simp;omega)
 have ly:=pl_lt hn hy
 subst hm
 refine callG_of_dw 1 220 [] TSO_ok (by kernel_rfl) Tryz.func179 rfl Tryz.ntmps179 rfl (by simp) ?dwords ?dbody
 case dwords=>simp[wordsG,rowN,rowsR,gkey,Key.eq,D.ok,D.oks,D.okss,rnames,inN,ckey,ePairs_ok]
 case dbody=>
  intro cx hnt hn0
  refine dw_seq ?_;refine dw_seq ?_;refine dwk [(27,.v (.int .i64 (↑X.length))),(28,.v (.bool false))] TSO_ok hnt fun K hK=>?_;refine And.intro auI ?_;refine And.intro (beqF (by omega)) ?_;refine hK _ _ ?_;clear hK K;refine dw_cond (t:=false) rfl ?_;rw[if_neg (by simp)];refine dw_skip ?_;refine dw_seq ?_;refine dw_seq ?_;refine dwk [(79,.v (.int .i64 (↑1))),(80,.v (.bool true))] TSO_ok hnt fun K hK=>?_
  refine And.intro auI ?_;refine And.intro (beqT rfl) ?_;refine hK _ _ ?_;clear hK K;refine dw_cond (t:=true) rfl ?_;rw[if_pos rfl];refine dw_seq ?_;refine dwk [] TSO_ok hnt fun _ z9=>z9 _ _ ?_;refine dw_seq ?_;refine dwk [] TSO_ok hnt fun _ z9=>z9 _ _ ?_;refine dw_seq ?_;refine dw_block ?_
  refine dw_loop (ι:={ p:List (Int×Tm)×List (Int×Tm)×List (Int×Tm) // p.1++p.2.1++p.2.2=X∧(∀ x∈p.1,x.1≤y.1)∧(∀ x∈p.2.2,y.1<x.1) }) (fun p=>[(.t 0,.ps 0 n),(.t 2,.v (.int .i64 ↑(a+X.length))),(.t 4,.fn 113 []),(.t 14,.v (.int .i64 ↑(a+p.1.1.length))),(.t 15,.v (.int .i64 ↑(a+p.1.1.length+p.1.2.1.length))),(.r 0,.rp 79 5 (ePairs L))]) 1 (fun p=>p.1.2.1.length) (⟨([],X,[]),by simp,by simp,by simp⟩) ((VS.toK (by omega) (by repeat first | exact trivial | refine And.intro (And.intro (by first | rfl | simp[D.ok,D.oks,D.okss,D.okm,upto,keyOk,argsT]) (by first | exact Or.inl rfl | exact Or.inr ⟨_,rfl,(by repeat first | exact VLe.refl _ | exact VLe.nil _ | exact VLe.untag _ _ _ | refine VLe.ag ?_ | refine VLe.tu ?_ | refine VLeL.cons ?_ ?_ | exact VLeL.nil),trivial⟩ | simp[get,Key.eq,argsT])) ?_))) fun j=>?_
  obtain⟨⟨X1,Mi,X2⟩,hs,h1,h2⟩:=j
  dsimp only at hs h1 h2 ⊢
  have hXl:X1.length+Mi.length+X2.length=X.length:=by rw[←hs];simp;omega
  by_cases h0:Mi.length=0
  ·have:Mi=[]:=List.length_eq_zero_iff.1 h0
   subst this
   rw[List.append_nil] at hs
   rw[List.length_nil,Nat.add_zero] at hXl ⊢
   refine dw_seq ?_;refine dw_seq ?_;refine dwk [(85,.v (.bool false))] TSO_ok hnt fun K hK=>?_;refine And.intro auF ?_;refine hK _ _ ?_;clear hK K;refine dw_cond (t:=false) rfl ?_;rw[if_neg (by simp)];refine dw_exit ?_;refine dw_seq ?_;refine dw_seq ?_;refine dwk [(17,.v (.int .i64 ↑(a+X1.length+X2.length)))] TSO_ok hnt fun K hK=>?_;refine And.intro (VLe.of_eq (by rw[←hXl,Nat.add_assoc])) ?_
   refine hK _ _ ?_;clear hK K;refine dw_block ?_
   refine dw_loop (ι:={ p:List (Int×Tm)×List (Int×Tm) // p.1++p.2=X2 }) (fun p=>[(.t 0,.ps 0 n),(.t 14,.v (.int .i64 ↑(a+X1.length))),(.t 17,.v (.int .i64 ↑(a+X1.length+p.1.1.length))),(.r 0,.rp 79 5 (ePairs (A++X1++p.1.1++y :: p.1.2++Z)))]) 1 (fun p=>p.1.1.length) (⟨(X2,[]),by simp⟩) ((VS.toK (by omega) (by repeat first | exact trivial | refine And.intro (And.intro (by first | rfl | simp[D.ok,D.oks,D.okss,D.okm,upto,keyOk,←hL,←hs]) (by first | exact Or.inl rfl | exact Or.inr ⟨_,rfl,(by repeat first | exact VLe.refl _ | exact VLe.nil _ | exact VLe.untag _ _ _ | refine VLe.ag ?_ | refine VLe.tu ?_ | refine VLeL.cons ?_ ?_ | exact VLeL.nil),trivial⟩ | simp[get,Key.eq,←hL,←hs])) ?_))) fun j=>?_
   obtain⟨⟨B1,B2⟩,hB⟩:=j
   dsimp only at hB ⊢
   have hBl:B1.length+B2.length=X2.length:=by rw[←hB];simp
   rcases snoc_cases B1 with rfl | ⟨B,x,rfl⟩
   ·rw[List.nil_append] at hB
    have hf:So.ss (X++[y])=X1++y :: X2:=by rw[←hs];exact So.right_one (by rw[hs];exact hX) h1 h2
    rw[hf,List.append_nil]
    have e2:A++X1++y :: B2++Z=A++(X1++y :: X2)++Z:=by rw[hB];simp
    rw[e2,List.length_nil,Nat.add_zero]
    refine dw_seq ?_;refine dw_seq ?_;refine dwk [(110,.v (.bool false))] TSO_ok hnt fun K hK=>?_;refine And.intro auF ?_;refine hK _ _ ?_;clear hK K;refine dw_cond (t:=false) rfl ?_;rw[if_neg (by simp)];refine dw_exit ?_;refine dw_ret ?_
    exact reta rfl
   ·obtain⟨k,hk⟩:∃ k,a+X1.length+B.length=k:=⟨_,rfl⟩
    have hk2:a+X1.length+(B++[x]).length=k+1:=by simp;omega
    rw[hk2]
    obtain⟨L2,hL2⟩:∃ L2,A++X1++(B++[x])++y :: B2++Z=L2:=⟨_,rfl⟩
    rw[hL2]
    have hn2:L2.length=n:=by rw[←hL2,←hn,←hL,←hs,←hB];simp;omega
    have gx:L2[k]?=some x:=at_ (P:=A++X1++B) (R:=y :: B2++Z) (by rw[←hL2];simp) (by simp;omega)
    have gy:L2[k+1]?=some y:=at_ (P:=A++X1++B++[x]) (R:=B2++Z) (by rw[←hL2];simp) (by simp;omega)
    have ly2:=pl_lt hn2 gy
    refine dw_seq ?_;refine dw_seq ?_;refine dwk [(110,.v (.bool true))] TSO_ok hnt fun K hK=>?_;refine And.intro auT ?_;refine hK _ _ ?_;clear hK K;refine dw_cond (t:=true) rfl ?_;rw[if_pos rfl];refine dw_skip ?_;refine dw_seq ?_;refine dw_block ?_;refine dwkD [(117,.v (.int .i64 (↑k))),(120,.v (.int .i64 (↑k))),(121,.pr 0 n 5 (k) 0),(122,.ag [.v (.int .i64 x.1),.sl 2 (eTys x.2.binds) none,.v (.int .i64 x.2.kind),.v (.int .i64 x.2.index),.sl 4 (eTms x.2.args) none]),(125,.pr 0 n 5 ((k+1)) 0),(126,.ag [.v (.int .i64 y.1),.sl 2 (eTys y.2.binds) none,.v (.int .i64 y.2.kind),.v (.int .i64 y.2.index),.sl 4 (eTms y.2.args) none]),(127,.pr 0 n 5 ((k+1)) 0),(128,.pr 0 n 5 (k) 0)] TSO_ok hnt fun K hK=>?_
    refine And.intro auI ?_;refine And.intro auI ?_;refine And.intro (by constructor <;> omega) ?_;refine And.intro (by first | rfl | exact VLe.of_eq (by simp)) ?_;refine And.intro (pl_ok hn2 gx) ?_;refine And.intro (pl_eq gx) ?_;refine And.intro (by constructor <;> omega) ?_;refine And.intro (by first | rfl | exact VLe.of_eq (by simp)) ?_;refine And.intro (pl_ok hn2 gy) ?_;refine And.intro (pl_eq gy) ?_
    refine And.intro (by constructor <;> omega) ?_;refine And.intro (by first | rfl | exact VLe.of_eq (by simp)) ?_;refine And.intro (st_ok hn2 gy) ?_;refine And.intro (by constructor <;> omega) ?_;refine And.intro (by first | rfl | exact VLe.of_eq (by simp)) ?_;refine And.intro (st_ok2 hn2 gx) ?_;refine hK _ _ (by kernel_rfl) ?_;clear hK K
    rw[eP_swap' (P:=A++X1++B) (Q:=[]) (R:=B2++Z) (L':=A++X1++B++y :: (x :: B2)++Z) (by rw[←hL2];simp) (by simp;omega) (by simp) (by simp)]
    refine dwk [(112,.v (.int .i64 (↑k)))] TSO_ok hnt fun K hK=>?_;refine And.intro auI ?_;refine hK _ _ ?_;clear hK K
    rw[←hk]
    refine⟨⟨(B,x :: B2),by rw[←hB];simp⟩,by simp,VS.toA⟩
  ·obtain⟨M1,x,M2,rfl,hh⟩:∃ M1 x M2,Mi=M1++x :: M2∧a+X1.length+M1.length=(a+X1.length+(a+X1.length+Mi.length)) / 2:=by
    have hlt:Mi.length / 2<Mi.length:=by omega
    refine⟨Mi.take (Mi.length / 2),Mi[Mi.length / 2],Mi.drop (Mi.length / 2+1),?_,?_⟩
    ·rw[←List.drop_eq_getElem_cons hlt,List.take_append_drop]
    ·rw[List.length_take,Nat.min_eq_left (by omega)];omega
   have hMl:(M1++x :: M2).length=M1.length+M2.length+1:=by simp;omega
   have hx:L[a+X1.length+M1.length]?=some x:=at_ (P:=A++X1++M1) (R:=M2++X2++[y]++Z) (by rw[←hL,←hs];simp) (by simp;omega)
   have ho:=sorder_d y x
   rw[ePair_eq,ePair_eq] at ho
   have hsrt:=hX
   rw[←hs] at hsrt
   have a1:=(So.srt_app.1 (So.srt_app.1 hsrt).1).2.1
   have a2:=So.srt_app.1 a1
   obtain⟨c,hc⟩:∃ c,a+X1.length+(M1++x :: M2).length=c:=⟨_,rfl⟩
   rw[hc] at hh ⊢
   by_cases hlt:y.1<x.1
   ·skip
    refine dw_seq ?_;refine dw_seq ?_;refine dwk [(85,.v (.bool true))] TSO_ok hnt fun K hK=>?_;refine And.intro auT ?_;refine hK _ _ ?_;clear hK K;refine dw_cond (t:=true) rfl ?_;rw[if_pos rfl];refine dw_skip ?_;refine dw_block ?_;refine dw_seq ?_;refine dwk [(88,.v (.int .i64 (↑(a+X1.length+c)))),(91,.v (.int .i64 (↑(a+X1.length+M1.length))))] TSO_ok hnt fun K hK=>?_;refine And.intro auI ?_
    refine And.intro (dintE (by rw[hh];exact half_i _ (by omega))) ?_;refine hK _ _ ?_;clear hK K;refine dw_seq ?_;refine dwkD [(95,.pr 0 n 5 ((a+X.length)) 0),(96,.ag [.v (.int .i64 y.1),.sl 2 (eTys y.2.binds) none,.v (.int .i64 y.2.kind),.v (.int .i64 y.2.index),.sl 4 (eTms y.2.args) none]),(99,.pr 0 n 5 ((a+X1.length+M1.length)) 0),(100,.ag [.v (.int .i64 x.1),.sl 2 (eTys x.2.binds) none,.v (.int .i64 x.2.kind),.v (.int .i64 x.2.index),.sl 4 (eTms x.2.args) none]),(102,.v (.bool true))] TSO_ok hnt fun K hK=>?_
    refine And.intro (by constructor <;> omega) ?_;refine And.intro (by first | rfl | exact VLe.of_eq (by simp)) ?_;refine And.intro (pl_ok hn hy) ?_;refine And.intro (pl_eq hy) ?_;refine And.intro (by constructor <;> omega) ?_;refine And.intro (by first | rfl | exact VLe.of_eq (by simp)) ?_;refine And.intro (pl_ok hn hx) ?_;refine And.intro (pl_eq hx) ?_;refine dcl (ho) ?_;refine And.intro (dtrue (cmpI_lt.2 hlt)) ?_
    refine hK _ _ (by kernel_rfl) ?_;clear hK K;refine dw_cond (t:=false) rfl ?_;rw[if_neg (by simp)];refine dwk [] TSO_ok hnt fun _ z9=>z9 _ _ ?_
    refine⟨⟨(X1,M1,x :: M2++X2),by rw[←hs];simp,h1,fun u hu=>?g2⟩,by simp,VS.toA⟩
    case g2=>
     rcases List.mem_append.1 hu with hu | hu
     ·rcases List.mem_cons.1 hu with rfl | hu
      ·exact hlt
      ·have:=(List.pairwise_cons.1 a2.2.1).1 u hu;omega
     ·exact h2 u hu
   ·skip
    refine dw_seq ?_;refine dw_seq ?_;refine dwk [(85,.v (.bool true))] TSO_ok hnt fun K hK=>?_;refine And.intro auT ?_;refine hK _ _ ?_;clear hK K;refine dw_cond (t:=true) rfl ?_;rw[if_pos rfl];refine dw_skip ?_;refine dw_block ?_;refine dw_seq ?_;refine dwk [(88,.v (.int .i64 (↑(a+X1.length+c)))),(91,.v (.int .i64 (↑(a+X1.length+M1.length))))] TSO_ok hnt fun K hK=>?_;refine And.intro auI ?_
    refine And.intro (dintE (by rw[hh];exact half_i _ (by omega))) ?_;refine hK _ _ ?_;clear hK K;refine dw_seq ?_;refine dwkD [(95,.pr 0 n 5 ((a+X.length)) 0),(96,.ag [.v (.int .i64 y.1),.sl 2 (eTys y.2.binds) none,.v (.int .i64 y.2.kind),.v (.int .i64 y.2.index),.sl 4 (eTms y.2.args) none]),(99,.pr 0 n 5 ((a+X1.length+M1.length)) 0),(100,.ag [.v (.int .i64 x.1),.sl 2 (eTys x.2.binds) none,.v (.int .i64 x.2.kind),.v (.int .i64 x.2.index),.sl 4 (eTms x.2.args) none]),(102,.v (.bool false))] TSO_ok hnt fun K hK=>?_
    refine And.intro (by constructor <;> omega) ?_;refine And.intro (by first | rfl | exact VLe.of_eq (by simp)) ?_;refine And.intro (pl_ok hn hy) ?_;refine And.intro (pl_eq hy) ?_;refine And.intro (by constructor <;> omega) ?_;refine And.intro (by first | rfl | exact VLe.of_eq (by simp)) ?_;refine And.intro (pl_ok hn hx) ?_;refine And.intro (pl_eq hx) ?_;refine dcl (ho) ?_;refine And.intro (dfalse (fun h=>hlt (cmpI_lt.1 h))) ?_
    refine hK _ _ (by kernel_rfl) ?_;clear hK K;refine dw_cond (t:=true) rfl ?_;rw[if_pos rfl];refine dwk [(105,.v (.int .i64 (↑(a+(X1++(M1++[x])).length))))] TSO_ok hnt fun K hK=>?_;refine And.intro (dintE (by rw[IntWalk.i64_in _ (by omega)];simp;omega)) ?_;refine hK _ _ ?_;clear hK K
    have e3:c=a+(X1++(M1++[x])).length+M2.length:=by rw[←hc];simp;omega
    rw[e3]
    refine⟨⟨(X1++(M1++[x]),M2,X2),by rw[←hs];simp,fun u hu=>?g1,h2⟩,by simp;omega,VS.toA⟩
    case g1=>
     rcases List.mem_append.1 hu with hu | hu
     ·exact h1 u hu
     ·rcases List.mem_append.1 hu with hu | hu
      ·have:=a2.2.2 u hu x (by simp);omega
      ·rw[List.mem_singleton] at hu;subst hu;omega
def SymC (N:Nat):Prop:=∀ (A X Y Z:List (Int×Tm)) (n a m b:Nat),X.length+Y.length≤N→(A++X++Y++Z).length=n→A.length=a→a+X.length=m→m+Y.length=b→0<X.length→0<Y.length→So.Srt X→So.Srt Y→n≤1000000 →
 CallG Tryz.prog 179 (symIn n a m b) (symR (A++X++Y++Z)) (symR (A++So.ss (X++Y)++Z)) (.tu [])
set_option maxHeartbeats 4000000 in
theorem sym_step (N:Nat)(ih:∀ k,k<N→SymC k)(A X Y Z:List (Int×Tm))(n a m b:Nat)(hN:X.length+Y.length≤N)(hn:(A++X++Y++Z).length=n)(ha:A.length=a)(hm:a+X.length=m)(hb:m+Y.length=b)(hX2:2≤X.length)(hY2:2≤Y.length)(hX:So.Srt X)(hY:So.Srt Y)(hM:n≤1000000):
  CallG Tryz.prog 179 (symIn n a m b) (symR (A++X++Y++Z)) (symR (A++So.ss (X++Y)++Z)) (.tu []):=by
 have hbn:b+Z.length=n:=by simp at hn;omega
 obtain⟨L,hL⟩:∃ L,A++X++Y++Z=L:=⟨_,rfl⟩
 rw[hL] at hn ⊢
 obtain⟨mid,hmid⟩:∃ mid,mid=(a+b) / 2:=⟨_,rfl⟩
 obtain⟨lo,hi,hlo⟩:∃ lo hi,(mid<m∧lo+b=mid+m∧hi=mid)∨(m≤mid∧lo=a∧hi=m):=by
  by_cases h:mid<m
  ·exact⟨mid+m-b,mid,.inl ⟨h,by omega,rfl⟩⟩
  ·exact⟨a,m,.inr ⟨by omega,rfl,rfl⟩⟩
 obtain⟨q,hq⟩:∃ q,q+1=mid+m:=⟨mid+m-1,by omega⟩
 refine callG_of_dw 1 220 [] TSO_ok (by kernel_rfl) Tryz.func179 rfl Tryz.ntmps179 rfl (by simp) ?dwords ?dbody
 case dwords=>simp[wordsG,rowN,rowsR,gkey,Key.eq,D.ok,D.oks,D.okss,rnames,inN,ckey,ePairs_ok]
 case dbody=>
  intro cx hnt hn0
  refine dw_seq ?_;refine dw_seq ?_;refine dwk [(27,.v (.int .i64 (↑X.length))),(28,.v (.bool false))] TSO_ok hnt fun K hK=>?_;refine And.intro auI ?_;refine And.intro (beqF (by omega)) ?_;refine hK _ _ ?_;clear hK K;refine dw_cond (t:=false) rfl ?_;rw[if_neg (by simp)];refine dw_skip ?_;refine dw_seq ?_;refine dw_seq ?_;refine dwk [(79,.v (.int .i64 (↑Y.length))),(80,.v (.bool false))] TSO_ok hnt fun K hK=>?_
  refine And.intro auI ?_;refine And.intro (beqF (by omega)) ?_;refine hK _ _ ?_;clear hK K;refine dw_cond (t:=false) rfl ?_;rw[if_neg (by simp)];refine dw_skip ?_;refine dw_seq ?_;refine dwk [(131,.v (.int .i64 (↑(a+b)))),(134,.v (.int .i64 (↑mid)))] TSO_ok hnt fun K hK=>?_;refine And.intro auI ?_;refine And.intro (dintE (by rw[hmid];exact half_i _ (by omega))) ?_;refine hK _ _ ?_;clear hK K
  refine dw_seq ?_;refine dwk [(137,.v (.int .i64 (↑(mid+m))))] TSO_ok hnt fun K hK=>?_;refine And.intro auI ?_;refine hK _ _ ?_;clear hK K;refine dw_seq ?_;refine dwk [] TSO_ok hnt fun _ z9=>z9 _ _ ?_
  refine dw_cut (τ:=[(.t 0,.ps 0 n),(.t 1,.v (.int .i64 ↑a)),(.t 2,.v (.int .i64 ↑m)),(.t 3,.v (.int .i64 ↑b)),(.t 4,.fn 113 []),(.t 18,.v (.int .i64 ↑mid)),(.t 19,.v (.int .i64 ↑(mid+m))),(.t 20,.v (.int .i64 ↑lo)),(.t 21,.v (.int .i64 ↑hi)),(.r 0,.rp 79 5 (ePairs L))]) (N1:=1) ?_ ?_
  ·rcases hlo with⟨g1,g2,g3⟩ | ⟨g1,g2,g3⟩
   ·rw[g3]
    refine dw_seq ?_;refine dwk [(140,.v (.bool true))] TSO_ok hnt fun K hK=>?_;refine And.intro auT ?_;refine hK _ _ ?_;clear hK K;refine dw_cond (t:=true) rfl ?_;rw[if_pos rfl];refine dw_seq ?_;refine dwk [(143,.v (.int .i64 (↑lo)))] TSO_ok hnt fun K hK=>?_;refine And.intro auI ?_;refine hK _ _ ?_;clear hK K;refine dwk [] TSO_ok hnt fun _ z9=>z9 _ _ ?_
    exact cut_ok (VS.toK (by omega) (by repeat first | exact trivial | refine And.intro (And.intro (by first | rfl | simp[D.ok,D.oks,D.okss,D.okm,upto,keyOk,argsT]) (by first | exact Or.inl rfl | exact Or.inr ⟨_,rfl,(by repeat first | exact VLe.refl _ | exact VLe.nil _ | exact VLe.untag _ _ _ | refine VLe.ag ?_ | refine VLe.tu ?_ | refine VLeL.cons ?_ ?_ | exact VLeL.nil),trivial⟩ | simp[get,Key.eq,argsT])) ?_))
   ·rw[g2,g3]
    refine dw_seq ?_;refine dwk [(140,.v (.bool false))] TSO_ok hnt fun K hK=>?_;refine And.intro auF ?_;refine hK _ _ ?_;clear hK K;refine dw_cond (t:=false) rfl ?_;rw[if_neg (by simp)];refine dw_seq ?_;refine dwk [] TSO_ok hnt fun _ z9=>z9 _ _ ?_;refine dwk [] TSO_ok hnt fun _ z9=>z9 _ _ ?_
    exact cut_ok (VS.toK (by omega) (by repeat first | exact trivial | refine And.intro (And.intro (by first | rfl | simp[D.ok,D.oks,D.okss,D.okm,upto,keyOk,argsT]) (by first | exact Or.inl rfl | exact Or.inr ⟨_,rfl,(by repeat first | exact VLe.refl _ | exact VLe.nil _ | exact VLe.untag _ _ _ | refine VLe.ag ?_ | refine VLe.tu ?_ | refine VLeL.cons ?_ ?_ | exact VLeL.nil),trivial⟩ | simp[get,Key.eq,argsT])) ?_))
  ·skip
   refine dw_seq ?_;refine dwk [(148,.v (.int .i64 (↑q)))] TSO_ok hnt fun K hK=>?_;refine And.intro auI ?_;refine hK _ _ ?_;clear hK K;refine dw_seq ?_;refine dw_block ?_
   refine dw_loop (ι:={ p:Nat×Nat // lo≤p.1∧p.1≤p.2∧p.2≤hi∧(p.1=lo∨So.ky L (p.1-1)≤So.ky L (mid+m-p.1))∧(p.2=hi∨So.ky L (mid+m-1-p.2)<So.ky L p.2) }) (fun p=>[(.t 0,.ps 0 n),(.t 1,.v (.int .i64 ↑a)),(.t 2,.v (.int .i64 ↑m)),(.t 3,.v (.int .i64 ↑b)),(.t 4,.fn 113 []),(.t 18,.v (.int .i64 ↑mid)),(.t 19,.v (.int .i64 ↑(mid+m))),(.t 20,.v (.int .i64 ↑p.1.1)),(.t 21,.v (.int .i64 ↑p.1.2)),(.t 22,.v (.int .i64 ↑q)),(.r 0,.rp 79 5 (ePairs L))]) 1 (fun p=>p.1.2-p.1.1) (⟨(lo,hi),Nat.le_refl _,by dsimp only;omega,Nat.le_refl _,.inl rfl,.inl rfl⟩) (VS.toA) fun j=>?_
   obtain⟨⟨s,r⟩,k1,k2,k3,k4,k5⟩:=j
   dsimp only at k1 k2 k3 k4 k5 ⊢
   by_cases hsr:s<r
   ·obtain⟨c,hc⟩:∃ c,c=(s+r) / 2:=⟨_,rfl⟩
    have hcm:c<m:=by omega
    obtain⟨d,hd⟩:∃ d,d+c=q:=⟨q-c,by omega⟩
    obtain⟨x,hx⟩:=So.at_ex hn (show c<n by omega)
    obtain⟨y,hy⟩:=So.at_ex hn (show d<n by omega)
    have ex:=So.ky_at hx
    have ey:=So.ky_at hy
    have ho:=sorder_d y x
    rw[ePair_eq,ePair_eq] at ho
    by_cases hlt:y.1<x.1
    ·skip
     refine dw_seq ?_;refine dw_seq ?_;refine dwk [(151,.v (.bool true))] TSO_ok hnt fun K hK=>?_;refine And.intro auT ?_;refine hK _ _ ?_;clear hK K;refine dw_cond (t:=true) rfl ?_;rw[if_pos rfl];refine dw_skip ?_;refine dw_block ?_;refine dw_seq ?_;refine dwk [(154,.v (.int .i64 (↑(s+r)))),(157,.v (.int .i64 (↑c)))] TSO_ok hnt fun K hK=>?_;refine And.intro auI ?_;refine And.intro (dintE (by rw[hc];exact half_i _ (by omega))) ?_
     refine hK _ _ ?_;clear hK K;refine dw_seq ?_;refine dwkD [(162,.v (.int .i64 (↑d))),(163,.pr 0 n 5 (d) 0),(164,.ag [.v (.int .i64 y.1),.sl 2 (eTys y.2.binds) none,.v (.int .i64 y.2.kind),.v (.int .i64 y.2.index),.sl 4 (eTms y.2.args) none]),(167,.pr 0 n 5 (c) 0),(168,.ag [.v (.int .i64 x.1),.sl 2 (eTys x.2.binds) none,.v (.int .i64 x.2.kind),.v (.int .i64 x.2.index),.sl 4 (eTms x.2.args) none]),(170,.v (.bool true))] TSO_ok hnt fun K hK=>?_
     refine And.intro auI ?_;refine And.intro (by constructor <;> omega) ?_;refine And.intro (by first | rfl | exact VLe.of_eq (by simp)) ?_;refine And.intro (pl_ok hn hy) ?_;refine And.intro (pl_eq hy) ?_;refine And.intro (by constructor <;> omega) ?_;refine And.intro (by first | rfl | exact VLe.of_eq (by simp)) ?_;refine And.intro (pl_ok hn hx) ?_;refine And.intro (pl_eq hx) ?_;refine dcl (ho) ?_
     refine And.intro (dtrue (cmpI_lt.2 hlt)) ?_;refine hK _ _ (by kernel_rfl) ?_;clear hK K;refine dw_cond (t:=false) rfl ?_;rw[if_neg (by simp)];refine dwk [] TSO_ok hnt fun _ z9=>z9 _ _ ?_
     refine⟨⟨(s,c),k1,by dsimp only;omega,by dsimp only;omega,k4,.inr (by dsimp only;rw[show mid+m-1-c=d by omega,ex,ey];exact hlt)⟩,by first | omega | (dsimp only;omega),VS.toA⟩
    ·skip
     refine dw_seq ?_;refine dw_seq ?_;refine dwk [(151,.v (.bool true))] TSO_ok hnt fun K hK=>?_;refine And.intro auT ?_;refine hK _ _ ?_;clear hK K;refine dw_cond (t:=true) rfl ?_;rw[if_pos rfl];refine dw_skip ?_;refine dw_block ?_;refine dw_seq ?_;refine dwk [(154,.v (.int .i64 (↑(s+r)))),(157,.v (.int .i64 (↑c)))] TSO_ok hnt fun K hK=>?_;refine And.intro auI ?_;refine And.intro (dintE (by rw[hc];exact half_i _ (by omega))) ?_
     refine hK _ _ ?_;clear hK K;refine dw_seq ?_;refine dwkD [(162,.v (.int .i64 (↑d))),(163,.pr 0 n 5 (d) 0),(164,.ag [.v (.int .i64 y.1),.sl 2 (eTys y.2.binds) none,.v (.int .i64 y.2.kind),.v (.int .i64 y.2.index),.sl 4 (eTms y.2.args) none]),(167,.pr 0 n 5 (c) 0),(168,.ag [.v (.int .i64 x.1),.sl 2 (eTys x.2.binds) none,.v (.int .i64 x.2.kind),.v (.int .i64 x.2.index),.sl 4 (eTms x.2.args) none]),(170,.v (.bool false))] TSO_ok hnt fun K hK=>?_
     refine And.intro auI ?_;refine And.intro (by constructor <;> omega) ?_;refine And.intro (by first | rfl | exact VLe.of_eq (by simp)) ?_;refine And.intro (pl_ok hn hy) ?_;refine And.intro (pl_eq hy) ?_;refine And.intro (by constructor <;> omega) ?_;refine And.intro (by first | rfl | exact VLe.of_eq (by simp)) ?_;refine And.intro (pl_ok hn hx) ?_;refine And.intro (pl_eq hx) ?_;refine dcl (ho) ?_
     refine And.intro (dfalse (fun h=>hlt (cmpI_lt.1 h))) ?_;refine hK _ _ (by kernel_rfl) ?_;clear hK K;refine dw_cond (t:=true) rfl ?_;rw[if_pos rfl];refine dwk [(173,.v (.int .i64 (↑(c+1))))] TSO_ok hnt fun K hK=>?_;refine And.intro auI ?_;refine hK _ _ ?_;clear hK K
     refine⟨⟨(c+1,r),by dsimp only;omega,by dsimp only;omega,k3,.inr (by dsimp only;rw[show c+1-1=c by omega,show mid+m-(c+1)=d by omega,ex,ey];omega),k5⟩,by first | omega | (dsimp only;omega),VS.toA⟩
   ·have hrs:r=s:=by omega
    subst hrs
    obtain⟨X1,X2,Y1,Y2,rfl,rfl,e1,e2,h1,h2⟩:=So.sym_cut (mid:=mid) (s:=r) hX hY hL.symm ha hm hb (by omega) (by omega) (by omega) (by omega) (by
      rcases k4 with k4 | k4
      ·omega
      ·exact .inr (.inr k4)) (by
      rcases k5 with k5 | k5
      ·omega
      ·exact .inr (.inr k5))
    rw[List.length_append] at hm hb hX2 hY2
    rw[List.length_append,List.length_append] at hN
    obtain⟨e,he⟩:∃ e,e+r=mid+m:=⟨mid+m-r,by omega⟩
    have hcut:=So.ss_cut hX hY h1 h2
    have sx:=So.srt_app.1 hX
    have sy:=So.srt_app.1 hY
    have hlen:A.length+X1.length+X2.length+Y1.length+Y2.length+Z.length=n:=by omega
    rw[hcut]
    refine dw_seq ?_;refine dw_seq ?_;refine dwk [(151,.v (.bool false))] TSO_ok hnt fun K hK=>?_;refine And.intro auF ?_;refine hK _ _ ?_;clear hK K;refine dw_cond (t:=false) rfl ?_;rw[if_neg (by simp)];refine dw_exit ?_;refine dw_seq ?_;refine dwk [(177,.v (.int .i64 (↑e)))] TSO_ok hnt fun K hK=>?_;refine And.intro auI ?_;refine hK _ _ ?_;clear hK K
    refine dw_cut (τ:=[(.t 0,.ps 0 n),(.t 1,.v (.int .i64 ↑a)),(.t 3,.v (.int .i64 ↑b)),(.t 4,.fn 113 []),(.t 18,.v (.int .i64 ↑mid)),(.t 20,.v (.int .i64 ↑r)),(.t 24,.v (.int .i64 ↑e)),(.r 0,.rp 79 5 (ePairs (A++X1++Y1++(X2++(Y2++Z)))))]) (N1:=1) ?_ ?_
    ·by_cases c1:r<m
     ·by_cases c2:m<e
      ·have hrot:=rotate_d (A++X1) X2 Y1 (Y2++Z) n r m e (by simp;omega) (by simp;omega) (by omega) (by omega) (by omega) (by omega) hM
       have f1:A++X1++Y1++X2++(Y2++Z)=A++X1++Y1++(X2++(Y2++Z)):=by simp
       have f2:L=A++X1++X2++Y1++(Y2++Z):=by rw[←hL];simp
       rw[f1] at hrot
       rw[f2]
       refine dw_seq ?_;refine dwk [(180,.v (.bool true)),(184,.v (.bool true))] TSO_ok hnt fun K hK=>?_;refine And.intro auT ?_;refine And.intro auT ?_;refine hK _ _ ?_;clear hK K;refine dw_cond (t:=true) rfl ?_;rw[if_pos rfl];refine dwk [] TSO_ok hnt fun K hK=>?_;refine dcn (CallG.n (hrot) _) ?_;refine hK _ _ ?_;clear hK K
       exact cut_ok VS.toA
      ·have:Y1=[]:=List.length_eq_zero_iff.1 (by omega)
       have f2:L=A++X1++Y1++(X2++(Y2++Z)):=by rw[←hL,this];simp
       rw[f2]
       refine dw_seq ?_;refine dwk [(180,.v (.bool true)),(184,.v (.bool false))] TSO_ok hnt fun K hK=>?_;refine And.intro auT ?_;refine And.intro auF ?_;refine hK _ _ ?_;clear hK K;refine dw_cond (t:=false) rfl ?_;rw[if_neg (by simp)];refine dw_skip ?_
       exact cut_ok VS.toA
     ·have:X2=[]:=List.length_eq_zero_iff.1 (by omega)
      have f2:L=A++X1++Y1++(X2++(Y2++Z)):=by rw[←hL,this];simp
      rw[f2]
      refine dw_seq ?_;refine dwk [(180,.v (.bool false))] TSO_ok hnt fun K hK=>?_;refine And.intro auF ?_;refine hK _ _ ?_;clear hK K;refine dw_cond (t:=false) rfl ?_;rw[if_neg (by simp)];refine dw_skip ?_
      exact cut_ok VS.toA
    ·skip
     refine dw_cut (τ:=[(.t 0,.ps 0 n),(.t 3,.v (.int .i64 ↑b)),(.t 4,.fn 113 []),(.t 18,.v (.int .i64 ↑mid)),(.t 24,.v (.int .i64 ↑e)),(.r 0,.rp 79 5 (ePairs (A++So.ss (X1++Y1)++X2++Y2++Z)))]) (N1:=1) ?_ ?_
     ·have f1:A++So.ss (X1++Y1)++(X2++(Y2++Z))=A++So.ss (X1++Y1)++X2++Y2++Z:=by simp
      by_cases c1:a<r
      ·by_cases c2:r<mid
       ·have hs:=ih (X1.length+Y1.length) (by omega) A X1 Y1 (X2++(Y2++Z)) n a r mid (Nat.le_refl _) (by simp;omega) ha e1 e2 (by omega) (by omega) sx.1 sy.1 hM
        rw[f1] at hs
        refine dw_seq ?_;refine dwk [(194,.v (.bool true)),(198,.v (.bool true))] TSO_ok hnt fun K hK=>?_;refine And.intro auT ?_;refine And.intro auT ?_;refine hK _ _ ?_;clear hK K;refine dw_cond (t:=true) rfl ?_;rw[if_pos rfl];refine dwk [] TSO_ok hnt fun K hK=>?_;refine dcn (CallG.n (hs) _) ?_;refine hK _ _ ?_;clear hK K
        exact cut_ok VS.toA
       ·have hy0:Y1=[]:=List.length_eq_zero_iff.1 (by omega)
        have hss:So.ss (X1++Y1)=X1++Y1:=So.ss_self (by rw[hy0,List.append_nil];exact sx.1)
        rw[←f1,hss,←List.append_assoc A X1 Y1]
        refine dw_seq ?_;refine dwk [(194,.v (.bool true)),(198,.v (.bool false))] TSO_ok hnt fun K hK=>?_;refine And.intro auT ?_;refine And.intro auF ?_;refine hK _ _ ?_;clear hK K;refine dw_cond (t:=false) rfl ?_;rw[if_neg (by simp)];refine dw_skip ?_
        exact cut_ok VS.toA
      ·have hx0:X1=[]:=List.length_eq_zero_iff.1 (by omega)
       have hss:So.ss (X1++Y1)=X1++Y1:=So.ss_self (by rw[hx0,List.nil_append];exact sy.1)
       rw[←f1,hss,←List.append_assoc A X1 Y1]
       refine dw_seq ?_;refine dwk [(194,.v (.bool false))] TSO_ok hnt fun K hK=>?_;refine And.intro auF ?_;refine hK _ _ ?_;clear hK K;refine dw_cond (t:=false) rfl ?_;rw[if_neg (by simp)];refine dw_skip ?_
       exact cut_ok VS.toA
     ·have f3:A++(So.ss (X1++Y1)++So.ss (X2++Y2))++Z=A++So.ss (X1++Y1)++So.ss (X2++Y2)++Z:=by simp
      rw[f3]
      by_cases c1:mid<e
      ·by_cases c2:e<b
       ·have hs:=ih (X2.length+Y2.length) (by omega) (A++So.ss (X1++Y1)) X2 Y2 Z n mid e b (Nat.le_refl _) (by simp[So.ss_len];omega) (by simp[So.ss_len];omega) (by omega) (by omega) (by omega) (by omega) sx.2.1 sy.2.1 hM
        refine dw_seq ?_;refine dwk [(208,.v (.bool true)),(212,.v (.bool true))] TSO_ok hnt fun K hK=>?_;refine And.intro auT ?_;refine And.intro auT ?_;refine hK _ _ ?_;clear hK K;refine dw_cond (t:=true) rfl ?_;rw[if_pos rfl];refine dwk [] TSO_ok hnt fun K hK=>?_;refine dcn (CallG.n (hs) _) ?_;refine hK _ _ ?_;clear hK K
        exact reta rfl
       ·have hy0:Y2=[]:=List.length_eq_zero_iff.1 (by omega)
        have hss:So.ss (X2++Y2)=X2++Y2:=So.ss_self (by rw[hy0,List.append_nil];exact sx.2.1)
        rw[hss,←List.append_assoc _ X2 Y2]
        refine dw_seq ?_;refine dwk [(208,.v (.bool true)),(212,.v (.bool false))] TSO_ok hnt fun K hK=>?_;refine And.intro auT ?_;refine And.intro auF ?_;refine hK _ _ ?_;clear hK K;refine dw_cond (t:=false) rfl ?_;rw[if_neg (by simp)];refine dw_skip ?_
        exact reta rfl
      ·have hx0:X2=[]:=List.length_eq_zero_iff.1 (by omega)
       have hss:So.ss (X2++Y2)=X2++Y2:=So.ss_self (by rw[hx0,List.nil_append];exact sy.2.1)
       rw[hss,←List.append_assoc _ X2 Y2]
       refine dw_seq ?_;refine dwk [(208,.v (.bool false))] TSO_ok hnt fun K hK=>?_;refine And.intro auF ?_;refine hK _ _ ?_;clear hK K;refine dw_cond (t:=false) rfl ?_;rw[if_neg (by simp)];refine dw_skip ?_
       exact reta rfl
theorem sym_all (N:Nat):SymC N:=by
 induction N using Nat.strongRecOn with
 | ind N ih=>
  intro A X Y Z n a m b hN hn ha hm hb h1 h2 hX hY hM
  by_cases c1:X.length=1
  ·obtain⟨x,rfl⟩:=List.length_eq_one_iff.1 c1
   exact sym_left A x Y Z n a m b hn ha (by simpa using hm) hb hY hM
  ·by_cases c2:Y.length=1
   ·obtain⟨y,rfl⟩:=List.length_eq_one_iff.1 c2
    exact sym_right A X y Z n a m b hn ha hm (by simpa using hb) hX c1 hM
   ·exact sym_step N ih A X Y Z n a m b hN hn ha hm hb (by omega) (by omega) hX hY hM
theorem symM_d (A X Y Z:List (Int×Tm))(n a m b:Nat)(hn:(A++X++Y++Z).length=n)(ha:A.length=a)(hm:a+X.length=m)(hb:m+Y.length=b)(h1:0<X.length)(h2:0<Y.length)(hX:So.Srt X)(hY:So.Srt Y)(hM:n≤1000000):
  CallG Tryz.prog 179 (symIn n a m b) (symR (A++X++Y++Z)) (symR (A++So.ss (X++Y)++Z)) (.tu []):=sym_all _ A X Y Z n a m b (Nat.le_refl _) hn ha hm hb h1 h2 hX hY hM
def TSP_79:TI:=⟨5,true,[Value.int IntKind.i64 0,Value.slice none 0 0,Value.int IntKind.i64 0,Value.int IntKind.i64 0,Value.slice none 0 0],[(0,1,false),(1,4,true)],none,72,6,none,false⟩
theorem TSP_79_ok:TypOk Tryz.prog 79 TSP_79:=by constructor <;> kernel_rfl
def TSP_51:TI:=⟨1,false,[Value.slice none 0 0],[],some 79,24,5,none,false⟩
theorem TSP_51_ok:TypOk Tryz.prog 51 TSP_51:=by constructor <;> kernel_rfl
def TSP_50:TI:=⟨1,false,[Value.slice none 0 0],[],some 79,24,5,none,false⟩
theorem TSP_50_ok:TypOk Tryz.prog 50 TSP_50:=by constructor <;> kernel_rfl
def TSP_3:TI:=⟨1,false,[Value.int IntKind.i64 0],[],none,8,2,none,false⟩
theorem TSP_3_ok:TypOk Tryz.prog 3 TSP_3:=by constructor <;> kernel_rfl
def TSP_41:TI:=⟨4,true,[Value.slice none 0 0,Value.int IntKind.i64 0,Value.int IntKind.i64 0,Value.slice none 0 0],[(0,1,false),(1,2,true),(3,1,false)],none,64,6,none,false⟩
theorem TSP_41_ok:TypOk Tryz.prog 41 TSP_41:=by constructor <;> kernel_rfl
def TSP_204:TI:=⟨1,false,[Value.nilFunc],[],none,8,8,none,false⟩
theorem TSP_204_ok:TypOk Tryz.prog 204 TSP_204:=by constructor <;> kernel_rfl
def TSP:List (Nat×TI):=[(79,TSP_79),(51,TSP_51),(50,TSP_50),(3,TSP_3),(41,TSP_41),(204,TSP_204)]
theorem TSP_ok:TabOk Tryz.prog TSP:=(((((((TabOk.nil _).cons TSP_204_ok).cons TSP_41_ok).cons TSP_3_ok).cons TSP_50_ok).cons TSP_51_ok).cons TSP_79_ok)
namespace So
theorem Ch.two {α:Type}{s:Nat}{Q:List (Int×α)}(h:Ch s Q)(hl:2 * s≤Q.length)(hs:0<s):∃ c d l,Q=c++d++l∧c.length=s∧d.length=s∧Srt c∧Srt d∧Ch s l:=by
 obtain⟨c,l,rfl,hc,hsc,hch⟩:=h.more (by omega)
 rw[List.length_append] at hl
 by_cases h1:s<l.length
 ·obtain⟨d,l2,rfl,hd,hsd,hch2⟩:=hch.more h1
  exact⟨c,d,l2,by rw[List.append_assoc],hc,hd,hsc,hsd,hch2⟩
 ·exact⟨c,l,[],by simp,hc,by omega,hsc,hch.one (by omega) hs,.last [] (by simp) srt_nil⟩
end So
set_option maxHeartbeats 4000000 in
theorem stableC_d (l:List (Int×Tm))(n:Nat)(hn:l.length=n)(hM:n≤1000000):
  CallG Tryz.prog 149 [.ps 0 n,.v (.int .i64 ↑n),.fn 113 []] (symR l) (symR (So.ss l)) (.tu []):=by
 refine callG_of_dw 1 63 [] TSO_ok (by kernel_rfl) Tryz.func149 rfl Tryz.ntmps149 rfl (by simp) ?dwords ?dbody
 case dwords=>simp[wordsG,rowN,rowsR,gkey,Key.eq,D.ok,D.oks,D.okss,rnames,inN,ckey,ePairs_ok]
 case dbody=>
  intro cx hnt hn0
  refine dw_seq ?_;refine dwk [] TSO_ok hnt fun _ z9=>z9 _ _ ?_;refine dw_seq ?_;refine dwk [] TSO_ok hnt fun _ z9=>z9 _ _ ?_;refine dw_seq ?_;refine dw_block ?_
  refine dw_loop (ι:={ p:List (Int×Tm)×List (Int×Tm) // So.Fu 20 p.1∧So.Same (p.1++p.2) l∧p.1.length+p.2.length=n }) (fun p=>[(.t 0,.ps 0 n),(.t 1,.v (.int .i64 ↑n)),(.t 2,.fn 113 []),(.t 6,.v (.int .i64 20)),(.t 7,.v (.int .i64 ↑p.1.1.length)),(.t 8,.v (.int .i64 ↑(p.1.1.length+20))),(.r 0,.rp 79 5 (ePairs (p.1.1++p.1.2)))]) 1 (fun p=>p.1.2.length) (⟨([],l),.nil,So.Same.refl _,by simpa using hn⟩) ((VS.toK (by omega) (by repeat first | exact trivial | refine And.intro (And.intro (by first | rfl | simp[D.ok,D.oks,D.okss,D.okm,upto,keyOk,argsT]) (by first | exact Or.inl rfl | exact Or.inr ⟨_,rfl,(by repeat first | exact VLe.refl _ | exact VLe.nil _ | exact VLe.untag _ _ _ | refine VLe.ag ?_ | refine VLe.tu ?_ | refine VLeL.cons ?_ ?_ | exact VLeL.nil),trivial⟩ | simp[get,Key.eq,argsT])) ?_))) fun j=>?_
  obtain⟨⟨P,Q⟩,hF,hS,hl⟩:=j
  dsimp only at hF hS hl ⊢
  by_cases hb:P.length+20≤n
  ·obtain⟨Q1,Q2,rfl,h20⟩:∃ Q1 Q2,Q=Q1++Q2∧Q1.length=20:=⟨Q.take 20,Q.drop 20,(List.take_append_drop _ _).symm,by simp;omega⟩
   rw[List.length_append] at hl
   have hins:=insSort_d P Q1 Q2 n P.length (P.length+20) (by simp;omega) rfl (by omega) hM
   rw[←List.append_assoc]
   refine dw_seq ?_;refine dw_seq ?_;refine dwk [(13,.v (.bool true))] TSO_ok hnt fun K hK=>?_;refine And.intro auT ?_;refine hK _ _ ?_;clear hK K;refine dw_cond (t:=true) rfl ?_;rw[if_pos rfl];refine dw_skip ?_;refine dw_block ?_;refine dw_seq ?_;refine dwk [] TSO_ok hnt fun K hK=>?_;refine dcn (CallG.n (hins) _) ?_;refine hK _ _ ?_;clear hK K;refine dw_seq ?_;refine dwk [(7,.v (.int .i64 ↑(P++So.ss Q1).length))] TSO_ok hnt fun K hK=>?_
   refine And.intro (VLe.of_eq (by rw[List.length_append,So.ss_len,h20])) ?_;refine hK _ _ ?_;clear hK K;refine dwk [(22,.v (.int .i64 (↑((P++So.ss Q1).length+20))))] TSO_ok hnt fun K hK=>?_;refine And.intro (dintE (by rw[IntWalk.i64_in _ (by omega)];simp[So.ss_len];omega)) ?_;refine hK _ _ ?_;clear hK K
   refine⟨⟨(P++So.ss Q1,Q2),hF.snoc (by rw[So.ss_len,h20]) (So.ss_srt _),So.Same.trans (by simpa using((So.Same.refl P).app ((So.ss_same Q1).app (So.Same.refl Q2)))) (by simpa using hS),by simp[So.ss_len];omega⟩,by simp;omega,VS.toA⟩
  ·have hins:=insSort_d P Q [] n P.length n (by simp;omega) rfl hl hM
   rw[List.append_nil,List.append_nil] at hins
   refine dw_seq ?_;refine dw_seq ?_;refine dwk [(13,.v (.bool false))] TSO_ok hnt fun K hK=>?_;refine And.intro auF ?_;refine hK _ _ ?_;clear hK K;refine dw_cond (t:=false) rfl ?_;rw[if_neg (by simp)];refine dw_exit ?_;refine dw_seq ?_;refine dwk [] TSO_ok hnt fun K hK=>?_;refine dcn (CallG.n (hins) _) ?_;refine hK _ _ ?_;clear hK K;refine dw_block ?_
   refine dw_loop (ι:={ p:Nat×List (Int×Tm) // 0<p.1∧p.1≤20+2 * n∧So.Ch p.1 p.2∧So.Same p.2 l∧p.2.length=n }) (fun p=>[(.t 0,.ps 0 n),(.t 1,.v (.int .i64 ↑n)),(.t 2,.fn 113 []),(.t 6,.v (.int .i64 ↑p.1.1)),(.r 0,.rp 79 5 (ePairs p.1.2))]) 1 (fun p=>n-p.1.1) (⟨(20,P++So.ss Q),by dsimp only;omega,by dsimp only;omega,hF.ch (.last _ (by rw[So.ss_len];omega) (So.ss_srt _)),((So.Same.refl P).app (So.ss_same Q)).trans hS,by simp[So.ss_len];omega⟩) (VS.toA) fun j=>?_
   clear hins hF hS hl hb P Q
   obtain⟨⟨s,L⟩,h0,hbd,hC,hS,hl⟩:=j
   dsimp only at h0 hbd hC hS hl ⊢
   by_cases hsn:s<n
   ·skip
    refine dw_seq ?_;refine dw_seq ?_;refine dwk [(30,.v (.bool true))] TSO_ok hnt fun K hK=>?_;refine And.intro auT ?_;refine hK _ _ ?_;clear hK K;refine dw_cond (t:=true) rfl ?_;rw[if_pos rfl];refine dw_skip ?_;refine dw_block ?_;refine dw_seq ?_;refine dwk [(32,.v (.int .i64 (↑(2 * s)))),(8,.v (.int .i64 ↑(0+2 * s)))] TSO_ok hnt fun K hK=>?_;refine And.intro auI ?_;refine And.intro (VLe.of_eq (by rw[Nat.zero_add])) ?_
    refine hK _ _ ?_;clear hK K;refine dw_seq ?_;refine dw_block ?_
    refine dw_loop (ι:={ p:List (Int×Tm)×List (Int×Tm) // So.Fu (2 * s) p.1∧So.Ch s p.2∧So.Same (p.1++p.2) l∧p.1.length+p.2.length=n }) (fun p=>[(.t 0,.ps 0 n),(.t 1,.v (.int .i64 ↑n)),(.t 2,.fn 113 []),(.t 6,.v (.int .i64 ↑s)),(.t 7,.v (.int .i64 ↑p.1.1.length)),(.t 8,.v (.int .i64 ↑(p.1.1.length+2 * s))),(.r 0,.rp 79 5 (ePairs (p.1.1++p.1.2)))]) 1 (fun p=>p.1.2.length) (⟨([],L),.nil,hC,hS,by simpa using hl⟩) ((VS.toK (by omega) (by repeat first | exact trivial | refine And.intro (And.intro (by first | rfl | simp[D.ok,D.oks,D.okss,D.okm,upto,keyOk,Nat.zero_add]) (by first | exact Or.inl rfl | exact Or.inr ⟨_,rfl,(by repeat first | exact VLe.refl _ | exact VLe.nil _ | exact VLe.untag _ _ _ | refine VLe.ag ?_ | refine VLe.tu ?_ | refine VLeL.cons ?_ ?_ | exact VLeL.nil),trivial⟩ | simp[get,Key.eq,Nat.zero_add])) ?_))) fun j=>?_
    clear hC hS hl L
    obtain⟨⟨P,Q⟩,hF,hC,hS,hl⟩:=j
    dsimp only at hF hC hS hl ⊢
    by_cases hb:P.length+2 * s≤n
    ·obtain⟨c,d,Q2,rfl,hc,hd,sc,sd,hC2⟩:=hC.two (by omega) h0
     rw[List.length_append,List.length_append] at hl
     have hm:=symM_d P c d Q2 n P.length (P.length+s) (P.length+2 * s) (by simp;omega) rfl (by omega) (by omega) (by omega) (by omega) sc sd hM
     have e1:P++(c++d++Q2)=P++c++d++Q2:=by simp
     rw[e1]
     refine dw_seq ?_;refine dw_seq ?_;refine dwk [(35,.v (.bool true))] TSO_ok hnt fun K hK=>?_;refine And.intro auT ?_;refine hK _ _ ?_;clear hK K;refine dw_cond (t:=true) rfl ?_;rw[if_pos rfl];refine dw_skip ?_;refine dw_block ?_;refine dw_seq ?_;refine dwk [(40,.v (.int .i64 (↑(P.length+s))))] TSO_ok hnt fun K hK=>?_;refine And.intro auI ?_;refine dcn (CallG.n (hm) _) ?_;refine hK _ _ ?_;clear hK K
     refine dw_seq ?_;refine dwk [(7,.v (.int .i64 ↑(P++So.ss (c++d)).length))] TSO_ok hnt fun K hK=>?_;refine And.intro (VLe.of_eq (by rw[List.length_append,So.ss_len,List.length_append,hc,hd,Nat.two_mul])) ?_;refine hK _ _ ?_;clear hK K;refine dwk [(47,.v (.int .i64 (↑(2 * s)))),(48,.v (.int .i64 (↑((P++So.ss (c++d)).length+2 * s))))] TSO_ok hnt fun K hK=>?_;refine And.intro auI ?_
     refine And.intro (dintE (by rw[IntWalk.i64_in _ (by omega)];simp[So.ss_len];omega)) ?_;refine hK _ _ ?_;clear hK K
     refine⟨⟨(P++So.ss (c++d),Q2),hF.snoc (by rw[So.ss_len,List.length_append];omega) (So.ss_srt _),hC2,So.Same.trans (by simpa using((So.Same.refl P).app ((So.ss_same (c++d)).app (So.Same.refl Q2)))) (by simpa using hS),by simp[So.ss_len];omega⟩,by simp;omega,VS.toA⟩
    ·by_cases hq:s<Q.length
     ·obtain⟨c,d,rfl,hc,sc,hC2⟩:=hC.more hq
      rw[List.length_append] at hl hq
      have sd:=hC2.one (by omega) h0
      have hm:=symM_d P c d [] n P.length (P.length+s) n (by simp;omega) rfl (by omega) (by omega) (by omega) (by omega) sc sd hM
      have e1:P++(c++d)=P++c++d:=by simp
      rw[List.append_nil,List.append_nil] at hm
      rw[e1]
      refine dw_seq ?_;refine dw_seq ?_;refine dwk [(35,.v (.bool false))] TSO_ok hnt fun K hK=>?_;refine And.intro auF ?_;refine hK _ _ ?_;clear hK K;refine dw_cond (t:=false) rfl ?_;rw[if_neg (by simp)];refine dw_exit ?_;refine dw_seq ?_;refine dw_seq ?_;refine dwk [(51,.v (.int .i64 (↑(P.length+s))))] TSO_ok hnt fun K hK=>?_;refine And.intro auI ?_;refine hK _ _ ?_;clear hK K
      refine dw_seq ?_;refine dwk [(54,.v (.bool true))] TSO_ok hnt fun K hK=>?_;refine And.intro auT ?_;refine hK _ _ ?_;clear hK K;refine dw_cond (t:=true) rfl ?_;rw[if_pos rfl];refine dwk [] TSO_ok hnt fun K hK=>?_;refine dcn (CallG.n (hm) _) ?_;refine hK _ _ ?_;clear hK K;refine dwk [(62,.v (.int .i64 (↑(2 * s))))] TSO_ok hnt fun K hK=>?_;refine And.intro auI ?_;refine hK _ _ ?_;clear hK K
      refine⟨⟨(2 * s,P++So.ss (c++d)),by dsimp only;omega,by dsimp only;omega,hF.ch (.last _ (by rw[So.ss_len,List.length_append];omega) (So.ss_srt _)),So.Same.trans ((So.Same.refl P).app (So.ss_same (c++d))) hS,by simp[So.ss_len];omega⟩,by first | omega | (dsimp only;omega),VS.toA⟩
     ·have sq:=hC.one (by omega) h0
      refine dw_seq ?_;refine dw_seq ?_;refine dwk [(35,.v (.bool false))] TSO_ok hnt fun K hK=>?_;refine And.intro auF ?_;refine hK _ _ ?_;clear hK K;refine dw_cond (t:=false) rfl ?_;rw[if_neg (by simp)];refine dw_exit ?_;refine dw_seq ?_;refine dw_seq ?_;refine dwk [(51,.v (.int .i64 (↑(P.length+s))))] TSO_ok hnt fun K hK=>?_;refine And.intro auI ?_;refine hK _ _ ?_;clear hK K
      refine dw_seq ?_;refine dwk [(54,.v (.bool false))] TSO_ok hnt fun K hK=>?_;refine And.intro auF ?_;refine hK _ _ ?_;clear hK K;refine dw_cond (t:=false) rfl ?_;rw[if_neg (by simp)];refine dw_skip ?_;refine dwk [(62,.v (.int .i64 (↑(2 * s))))] TSO_ok hnt fun K hK=>?_;refine And.intro auI ?_;refine hK _ _ ?_;clear hK K
      refine⟨⟨(2 * s,P++Q),by dsimp only;omega,by dsimp only;omega,hF.ch (.last _ (by omega) sq),hS,by simp;omega⟩,by first | omega | (dsimp only;omega),VS.toA⟩
   ·have hsrt:=hC.one (by omega) h0
    have hfin:So.ss l=L:=So.ss_eq hsrt hS
    rw[hfin]
    refine dw_seq ?_;refine dw_seq ?_;refine dwk [(30,.v (.bool false))] TSO_ok hnt fun K hK=>?_;refine And.intro auF ?_;refine hK _ _ ?_;clear hK K;refine dw_cond (t:=false) rfl ?_;rw[if_neg (by simp)];refine dw_exit ?_
    exact reta rfl
theorem stable_d (l:List (Int×Tm))(n:Nat)(hn:l.length=n)(hM:n≤1000000):
  CallG Tryz.prog 123 [.ps 0 n,.fn 113 []] (symR l) (symR (So.ss l)) (.tu []):=by
 have hs:=stableC_d l n hn hM
 refine callG_of_dw 1 9 [] TSO_ok (by kernel_rfl) Tryz.func123 rfl Tryz.ntmps123 rfl (by simp) ?dwords ?dbody
 case dwords=>simp[wordsG,rowN,rowsR,gkey,Key.eq,D.ok,D.oks,D.okss,rnames,inN,ckey,ePairs_ok]
 case dbody=>
  intro cx hnt hn0
  refine dwk [] TSO_ok hnt fun K hK=>?_;refine dcn (CallG.n (hs) _) ?_;refine hK _ _ ?_;clear hK K
  exact reta rfl
theorem sortedW_d (l:List (Int×Tm))(hl:l.length≤1000000)(ht:∀ p∈l,p.2.full≤900000∧p.2.Fit)(nm:Nat):CallN Tryz.prog 83 [.sl 5 (ePairs l) none] [] nm [(.r nm,.rw 79 5 l.length)] (.sl 5 (ePairs (So.ss l)) (some nm)):=by
 have hst:=stable_d l l.length rfl hl
 refine callRow_of_dw 25 [ResultVar.tmp 2] TSP_ok (by kernel_rfl) Tryz.func83 rfl Tryz.ntmps83 rfl (by simp) (by simp[D.ok,ePairs_ok]) (by simp[D.okss,ePairs_ok]) ?dbody nm
 case dbody=>
  intro cx hnt hn0
  refine dw_seq ?_;refine dwk [] TSP_ok hnt fun _ z9=>z9 _ _ ?_
  refine dw_cut (τ:=[(.t 0,.sl 5 (ePairs l) none),(.t 3,.v (.slice none 0 0))]) (N1:=0) ?_ ?_
  ·skip
   refine dwk [] TSP_ok hnt fun _ z9=>z9 _ _ ?_
   exact cut_ok (VS.toK (by omega) (by repeat first | exact trivial | refine And.intro (And.intro (by first | rfl | simp[D.ok,D.oks,D.okss,D.okm,upto,keyOk,argsT]) (by first | exact Or.inl rfl | exact Or.inr ⟨_,rfl,(by repeat first | exact VLe.refl _ | exact VLe.nil _ | exact VLe.untag _ _ _ | refine VLe.ag ?_ | refine VLe.tu ?_ | refine VLeL.cons ?_ ?_ | exact VLeL.nil),trivial⟩ | simp[get,Key.eq,argsT])) ?_))
  ·refine DW.vs (VS.rowPT (x:=3) (by rw[hnt];decide) 79 5 rfl) ?_
   refine dw_seq ?_;refine dw_seq ?_;refine dwk [(7,.v (.int .i64 (↑l.length)))] TSP_ok hnt fun K hK=>?_;refine And.intro (dintE (by rw[ePairs_len])) ?_;refine hK _ _ ?_;clear hK K;refine dw_block ?_
   refine dw_loop (ι:={ k:Nat // k≤l.length }) (fun k=>[(.t 3,.ps 0 k.1),(.t 6,.sl 5 (ePairs l) none),(.t 7,.v (.int .i64 ↑l.length)),(.t 8,.v (.int .i64 ↑k.1)),(.r 0,.rp 79 5 (ePairs (l.take k.1)))]) 1 (fun k=>l.length-k.1) (⟨0,Nat.zero_le _⟩) ((VS.toK (by omega) (by repeat first | exact trivial | refine And.intro (And.intro (by first | rfl | simp[D.ok,D.oks,D.okss,D.okm,upto,keyOk,argsT]) (by first | exact Or.inl rfl | exact Or.inr ⟨_,rfl,(by repeat first | exact VLe.refl _ | exact VLe.nil _ | exact VLe.untag _ _ _ | refine VLe.ag ?_ | refine VLe.tu ?_ | refine VLeL.cons ?_ ?_ | exact VLeL.nil),trivial⟩ | simp[get,Key.eq,argsT])) ?_))) fun k=>?_
   obtain⟨k,hk⟩:=k
   dsimp only
   by_cases hlt:k<l.length
   ·have hc:=copyW_d l[k].2 (ht _ (List.getElem_mem hlt)).1 (ht _ (List.getElem_mem hlt)).2
    rw[eTm_eq] at hc
    have htk:ePairs (l.take k)++[[.v (.int .i64 l[k].1),.sl 2 (eTys l[k].2.binds) none,.v (.int .i64 l[k].2.kind),.v (.int .i64 l[k].2.index),.sl 4 (eTms l[k].2.args) none]]=ePairs (l.take (k+1)):=by
     rw[List.take_add_one,List.getElem?_eq_getElem hlt,←ePair_eq]
     show List.map ePair (l.take k)++[ePair l[k]]=List.map ePair (l.take k++[l[k]])
     rw[List.map_append];rfl
    refine dw_seq ?_;refine dwk [(9,.v (.bool true))] TSP_ok hnt fun K hK=>?_;refine And.intro auT ?_;refine hK _ _ ?_;clear hK K;refine dw_seq ?_;refine dw_cond (t:=true) rfl ?_;rw[if_pos rfl];refine dw_skip ?_;refine dw_seq ?_;refine dw_block ?_;refine dw_seq ?_;refine dwk [(10,.q [.v (.int .i64 l[k].1),.sl 2 (eTys l[k].2.binds) none,.v (.int .i64 l[k].2.kind),.v (.int .i64 l[k].2.index),.sl 4 (eTms l[k].2.args) none])] TSP_ok hnt fun K hK=>?_
    refine And.intro (elo (ePairs_len l)) ?_;refine And.intro (elv (ePairs_getD l k) (ePair_eq _)) ?_;refine hK _ _ ?_;clear hK K;refine dwkD [(20,.ps 0 (k+1))] TSP_ok hnt fun K hK=>?_;refine dcl (hc) ?_;refine And.intro (⟨by simp[ePairs_len];omega,by simp[ePairs_len];omega⟩) ?_;refine And.intro (VLe.refl _) ?_;refine hK _ _ (by kernel_rfl) ?_;clear hK K
    rw[htk]
    refine dwk [(21,.v (.int .i64 (↑(k+1))))] TSP_ok hnt fun K hK=>?_;refine And.intro auI ?_;refine hK _ _ ?_;clear hK K
    refine⟨⟨k+1,by omega⟩,by first | omega | (dsimp only;omega),VS.toA⟩
   ·have hke:l.take k=l:=List.take_of_length_le (by omega)
    have hkl:k=l.length:=by omega
    rw[hke,hkl]
    refine dw_seq ?_;refine dwk [(9,.v (.bool false))] TSP_ok hnt fun K hK=>?_;refine And.intro auF ?_;refine hK _ _ ?_;clear hK K;refine dw_seq ?_;refine dw_cond (t:=false) rfl ?_;rw[if_neg (by simp)];refine dw_exit ?_;refine dw_seq ?_;refine dwk [] TSP_ok hnt fun K hK=>?_;refine dcn (CallG.n (hst) _) ?_;refine hK _ _ ?_;clear hK K;refine dw_seq ?_;refine dwk [] TSP_ok hnt fun K hK=>?_
    refine hK _ _ ?_;clear hK K
    refine dw_freeze (x:=2) (g:=0) rfl rfl (ePairs_len _ |>.trans (So.ss_len l)) ?_
    rw[show (ePairs (So.ss l)).length=l.length by rw[ePairs_len,So.ss_len]]
    refine dw_ret ?_
    exact⟨.inr rfl,0,rfl,rfl⟩
theorem sortedN_d (l:List (Int×Tm))(hl:l.length≤1000000)(ht:∀ p∈l,p.2.full≤80000∧p.2.Fit)(nm:Nat):CallN Tryz.prog 83 [.sl 5 (ePairs l) none] [] nm [(.r nm,.rw 79 5 l.length)] (.sl 5 (ePairs (So.ss l)) (some nm)):=
 sortedW_d l hl (fun p hp=>⟨by have:=(ht p hp).1;omega,(ht p hp).2⟩) nm
def TSL_51:TI:=⟨1,false,[Value.slice none 0 0],[],some 79,24,5,none,false⟩
theorem TSL_51_ok:TypOk Tryz.prog 51 TSL_51:=by constructor <;> kernel_rfl
def TSL_79:TI:=⟨5,true,[Value.int IntKind.i64 0,Value.slice none 0 0,Value.int IntKind.i64 0,Value.int IntKind.i64 0,Value.slice none 0 0],[(0,1,false),(1,4,true)],none,72,6,none,false⟩
theorem TSL_79_ok:TypOk Tryz.prog 79 TSL_79:=by constructor <;> kernel_rfl
def TSL_3:TI:=⟨1,false,[Value.int IntKind.i64 0],[],none,8,2,none,false⟩
theorem TSL_3_ok:TypOk Tryz.prog 3 TSL_3:=by constructor <;> kernel_rfl
def TSL_59:TI:=⟨1,false,[Value.slice none 0 0],[],some 3,24,5,none,false⟩
theorem TSL_59_ok:TypOk Tryz.prog 59 TSL_59:=by constructor <;> kernel_rfl
def TSL_41:TI:=⟨4,true,[Value.slice none 0 0,Value.int IntKind.i64 0,Value.int IntKind.i64 0,Value.slice none 0 0],[(0,1,false),(1,2,true),(3,1,false)],none,64,6,none,false⟩
theorem TSL_41_ok:TypOk Tryz.prog 41 TSL_41:=by constructor <;> kernel_rfl
def TSL_50:TI:=⟨1,false,[Value.slice none 0 0],[],some 79,24,5,none,false⟩
theorem TSL_50_ok:TypOk Tryz.prog 50 TSL_50:=by constructor <;> kernel_rfl
def TSL_163:TI:=⟨1,false,[Value.nilFunc],[],none,8,8,none,false⟩
theorem TSL_163_ok:TypOk Tryz.prog 163 TSL_163:=by constructor <;> kernel_rfl
def TSL_204:TI:=⟨1,false,[Value.nilFunc],[],none,8,8,none,false⟩
theorem TSL_204_ok:TypOk Tryz.prog 204 TSL_204:=by constructor <;> kernel_rfl
def TSL_174:TI:=⟨1,false,[Value.pointer none],[],none,8,4,none,false⟩
theorem TSL_174_ok:TypOk Tryz.prog 174 TSL_174:=by constructor <;> kernel_rfl
def TSL:List (Nat×TI):=[(51,TSL_51),(79,TSL_79),(3,TSL_3),(59,TSL_59),(41,TSL_41),(50,TSL_50),(163,TSL_163),(204,TSL_204),(174,TSL_174)]
theorem TSL_ok:TabOk Tryz.prog TSL:=((((((((((TabOk.nil _).cons TSL_174_ok).cons TSL_204_ok).cons TSL_163_ok).cons TSL_50_ok).cons TSL_41_ok).cons TSL_59_ok).cons TSL_3_ok).cons TSL_79_ok).cons TSL_51_ok)
namespace So
def ixB {α:Type}(f:α→Bool):List α→Nat→Int
 | [],_=>-1
 | x :: l,k=>if f x then k else ixB f l (k+1)
variable {α:Type} {f:α→Bool} {l:List α} {j:Nat}
theorem ixB_miss (h:j<l.length)(hf:f l[j]=false):ixB f (l.drop j) j=ixB f (l.drop (j+1)) (j+1):=by rw[List.drop_eq_getElem_cons h,ixB,if_neg (by simp[hf])]
theorem ixB_hit (h:j<l.length)(hf:f l[j]=true):ixB f (l.drop j) j=j:=by rw[List.drop_eq_getElem_cons h,ixB,if_pos hf]
theorem ixB_end (h:l.length≤j):ixB f (l.drop j) j=-1:=by rw[List.drop_of_length_le h];rfl
theorem ixB_ge:∀ (l:List α) (k:Nat),0≤ixB f l k↔l.any f=true
 | [],k=>by simp[ixB]
 | x :: l,k=>by
  rw[ixB,List.any_cons]
  by_cases h:f x=true
  ·simp[h]
  ·simp only[h,if_false,Bool.false_or]
   exact ixB_ge l (k+1)
theorem ixB_spec:∀ (l:List α) (k:Nat),(ixB f l k=-1∧∀ x∈l,f x=false)∨∃ i,∃ h:i<l.length,ixB f l k=((k+i:Nat):Int)∧f l[i]=true∧∀ x∈l.take i,f x=false
 | [],k=>.inl ⟨rfl,by simp⟩
 | x :: l,k=>by
  rw[ixB]
  by_cases h:f x=true
  ·exact .inr ⟨0,by simp,by simp[h],by simpa using h,by simp⟩
  ·have hx:f x=false:=by simpa using h
   rw[if_neg h]
   rcases ixB_spec l (k+1) with⟨h1,h2⟩ | ⟨i,h0,h1,h2,h3⟩
   ·exact .inl ⟨h1,fun y hy=>(List.mem_cons.1 hy).elim (fun e=>e ▸ hx) (h2 y)⟩
   ·refine .inr ⟨i+1,by simpa using h0,by rw[h1];congr 1;omega,by simpa using h2,fun y hy=>?_⟩
    rw[List.take_succ_cons] at hy
    exact(List.mem_cons.1 hy).elim (fun e=>e ▸ hx) (h3 y)
end So
theorem index_d (v:Int)(l:List Int)(hl:l.length≤1000000):PureC Tryz.prog 125 [.sl 1 (eIs l) none,.v (.int .i64 v)] (.v (.int .i64 (So.ixB (fun x=>decide (x=v)) l 0))):=by
 obtain⟨f,hf⟩:∃ f:Int→Bool,f=fun x=>decide (x=v):=⟨_,rfl⟩
 rw[←hf]
 refine calldw 0 19 [ResultVar.tmp 4] TSL_ok Tryz.func125 rfl Tryz.ntmps125 rfl fun cx hnt hn0=>?_
 ·skip
  refine dw_seq ?_;refine dwk [] TSL_ok hnt fun _ z9=>z9 _ _ ?_;refine dw_seq ?_;refine dw_seq ?_;refine dwk [(7,.v (.int .i64 (↑l.length)))] TSL_ok hnt fun K hK=>?_;refine And.intro (dintE (by rw[eIs_len])) ?_;refine hK _ _ ?_;clear hK K;refine dw_block ?_
  refine dw_loop (ι:={ j:Nat // So.ixB f l 0=So.ixB f (l.drop j) j }) (fun j=>[(.t 0,.sl 1 (eIs l) none),(.t 1,.v (.int .i64 v)),(.t 7,.v (.int .i64 ↑l.length)),(.t 8,.v (.int .i64 ↑j.1))]) 0 (fun j=>l.length-j.1) (⟨0,rfl⟩) ((VS.toK (by omega) (by repeat first | exact trivial | refine And.intro (And.intro (by first | rfl | simp[D.ok,D.oks,D.okss,D.okm,upto,keyOk,argsT]) (by first | exact Or.inl rfl | exact Or.inr ⟨_,rfl,(by repeat first | exact VLe.refl _ | exact VLe.nil _ | exact VLe.untag _ _ _ | refine VLe.ag ?_ | refine VLe.tu ?_ | refine VLeL.cons ?_ ?_ | exact VLeL.nil),trivial⟩ | simp[get,Key.eq,argsT])) ?_))) fun j=>?_
  obtain⟨j,hj⟩:=j
  dsimp only
  rw[hj]
  by_cases hlt:j<l.length
  ·by_cases hv:l[j]=v
   ·rw[So.ixB_hit hlt (by rw[hf];simpa using hv)]
    refine dw_seq ?_;refine dwk [(9,.v (.bool true))] TSL_ok hnt fun K hK=>?_;refine And.intro auT ?_;refine hK _ _ ?_;clear hK K;refine dw_seq ?_;refine dw_cond (t:=true) rfl ?_;rw[if_pos rfl];refine dw_skip ?_;refine dw_seq ?_;refine dw_block ?_;refine dw_seq ?_;refine dwk [] TSL_ok hnt fun _ z9=>z9 _ _ ?_;refine dw_seq ?_;refine dwk [(14,.q [.v (.int .i64 (l[j]))]),(16,.v (.bool true))] TSL_ok hnt fun K hK=>?_
    refine And.intro (elo (eIs_len l)) ?_;refine And.intro (elv (eIs_getD l j) rfl) ?_;refine And.intro (beqT hv.symm) ?_;refine hK _ _ ?_;clear hK K;refine dw_cond (t:=true) rfl ?_;rw[if_pos rfl];refine dw_seq ?_;refine dwk [] TSL_ok hnt fun _ z9=>z9 _ _ ?_;refine dw_ret ?_
    exact reta rfl
   ·have hm:=So.ixB_miss hlt (f:=f) (by rw[hf];simpa using hv)
    refine dw_seq ?_;refine dwk [(9,.v (.bool true))] TSL_ok hnt fun K hK=>?_;refine And.intro auT ?_;refine hK _ _ ?_;clear hK K;refine dw_seq ?_;refine dw_cond (t:=true) rfl ?_;rw[if_pos rfl];refine dw_skip ?_;refine dw_seq ?_;refine dw_block ?_;refine dw_seq ?_;refine dwk [] TSL_ok hnt fun _ z9=>z9 _ _ ?_;refine dw_seq ?_;refine dwk [(14,.q [.v (.int .i64 (l[j]))]),(16,.v (.bool false))] TSL_ok hnt fun K hK=>?_
    refine And.intro (elo (eIs_len l)) ?_;refine And.intro (elv (eIs_getD l j) rfl) ?_;refine And.intro (beqF (fun h=>hv h.symm)) ?_;refine hK _ _ ?_;clear hK K;refine dw_cond (t:=false) rfl ?_;rw[if_neg (by simp)];refine dw_skip ?_;refine dwk [(18,.v (.int .i64 (↑(j+1))))] TSL_ok hnt fun K hK=>?_;refine And.intro auI ?_;refine hK _ _ ?_;clear hK K
    rw[hm]
    refine⟨⟨j+1,rfl⟩,by first | omega | (dsimp only;omega),VS.toA⟩
  ·rw[So.ixB_end (by omega)]
   refine dw_seq ?_;refine dwk [(9,.v (.bool false))] TSL_ok hnt fun K hK=>?_;refine And.intro auF ?_;refine hK _ _ ?_;clear hK K;refine dw_seq ?_;refine dw_cond (t:=false) rfl ?_;rw[if_neg (by simp)];refine dw_exit ?_;refine dw_seq ?_;refine dwk [] TSL_ok hnt fun _ z9=>z9 _ _ ?_;refine dw_ret ?_
   exact reta rfl
theorem contains_d (v:Int)(l:List Int)(hl:l.length≤1000000):PureC Tryz.prog 87 [.sl 1 (eIs l) none,.v (.int .i64 v)] (.v (.bool (l.any fun x=>decide (x=v)))):=by
 have hi:=index_d v l hl
 have hg:=So.ixB_ge (f:=fun x=>decide (x=v)) l 0
 refine calldw 0 9 [ResultVar.tmp 4] TSL_ok Tryz.func87 rfl Tryz.ntmps87 rfl fun cx hnt hn0=>?_
 ·skip
  refine dw_seq ?_;refine dwk [] TSL_ok hnt fun _ z9=>z9 _ _ ?_;refine dw_seq ?_;refine dwk [(8,.v (.bool (l.any fun x=>decide (x=v))))] TSL_ok hnt fun K hK=>?_;refine dcl (hi) ?_;refine And.intro (VLe.of_eq (by congr 2;rw[Bool.eq_iff_iff];simpa using hg)) ?_;refine hK _ _ ?_;clear hK K;refine dw_ret ?_
  exact reta rfl
def del (m:List Int)(p:Int×Tm):Bool:=m.any fun x=>decide (x=p.1)
theorem without1_d (p:Int×Tm)(m:List Int)(hm:m.length≤1000000):CallC Tryz.prog 86 [.ag (ePair p),.p 0 0] [(.c 0 0,.sl 1 (eIs m) none)] [(.c 0 0,.sl 1 (eIs m) none)] (.v (.bool (del m p))):=by
 have hc:=contains_d p.1 m hm
 rw[ePair_eq]
 unfold del
 refine calldw 1 8 [ResultVar.tmp 3] TSL_ok Tryz.func86 rfl Tryz.ntmps86 rfl fun cx hnt hn0=>?_
 ·skip
  refine dw_seq ?_;refine dwk [] TSL_ok hnt fun _ z9=>z9 _ _ ?_;refine dw_seq ?_;refine dwk [] TSL_ok hnt fun K hK=>?_;refine dcl (hc) ?_;refine hK _ _ ?_;clear hK K;refine dw_ret ?_
  exact reta rfl
theorem ixP_d (l:List (Int×Tm))(n:Nat)(hn:l.length=n)(hM:n≤1000000)(m:List Int)(hm:m.length≤1000000):
  CallG Tryz.prog 124 [.ps 3 n,.fn 86 [.p 0 0]] [(.r 3,.rp 79 5 (ePairs l)),(.c 0 0,.sl 1 (eIs m) none)] [(.r 3,.rp 79 5 (ePairs l)),(.c 0 0,.sl 1 (eIs m) none)] (.v (.int .i64 (So.ixB (del m) l 0))):=by
 refine callG_of_dw 4 19 [ResultVar.tmp 4] TSL_ok (by kernel_rfl) Tryz.func124 rfl Tryz.ntmps124 rfl (by simp) ?dwords ?dbody
 case dwords=>simp[wordsG,rowN,rowsR,gkey,Key.eq,D.ok,D.oks,D.okss,rnames,inN,ckey,ePairs_ok,eIs_ok]
 case dbody=>
  intro cx hnt hn0
  refine dw_seq ?_;refine dwk [] TSL_ok hnt fun _ z9=>z9 _ _ ?_;refine dw_seq ?_;refine dw_seq ?_;refine dwk [] TSL_ok hnt fun _ z9=>z9 _ _ ?_;refine dw_block ?_
  refine dw_loop (ι:={ j:Nat // So.ixB (del m) l 0=So.ixB (del m) (l.drop j) j }) (fun j=>[(.t 0,.ps 3 n),(.t 1,.fn 86 [.p 0 0]),(.t 7,.v (.int .i64 ↑n)),(.t 8,.v (.int .i64 ↑j.1)),(.r 3,.rp 79 5 (ePairs l)),(.c 0 0,.sl 1 (eIs m) none)]) 4 (fun j=>l.length-j.1) (⟨0,rfl⟩) ((VS.toK (by omega) (by repeat first | exact trivial | refine And.intro (And.intro (by first | rfl | simp[D.ok,D.oks,D.okss,D.okm,upto,keyOk,argsT]) (by first | exact Or.inl rfl | exact Or.inr ⟨_,rfl,(by repeat first | exact VLe.refl _ | exact VLe.nil _ | exact VLe.untag _ _ _ | refine VLe.ag ?_ | refine VLe.tu ?_ | refine VLeL.cons ?_ ?_ | exact VLeL.nil),trivial⟩ | simp[get,Key.eq,argsT])) ?_))) fun j=>?_
  obtain⟨j,hj⟩:=j
  dsimp only
  rw[hj]
  by_cases hlt:j<l.length
  ·obtain⟨p,hp⟩:∃ p,p=l[j]:=⟨_,rfl⟩
   have hpj:l[j]?=some p:=by rw[hp];exact List.getElem?_eq_getElem hlt
   have hw:=without1_d p m hm
   rw[ePair_eq] at hw
   cases hd:del m p with
   | true=>
    rw[hd] at hw
    rw[So.ixB_hit hlt (by rw[←hp];exact hd)]
    refine dw_seq ?_;refine dwk [(9,.v (.bool true))] TSL_ok hnt fun K hK=>?_;refine And.intro auT ?_;refine hK _ _ ?_;clear hK K;refine dw_seq ?_;refine dw_cond (t:=true) rfl ?_;rw[if_pos rfl];refine dw_skip ?_;refine dw_seq ?_;refine dw_block ?_;refine dw_seq ?_;refine dwk [] TSL_ok hnt fun _ z9=>z9 _ _ ?_;refine dw_seq ?_;refine dwk [(14,.pr 3 n 5 (j) 0),(15,.ag [.v (.int .i64 p.1),.sl 2 (eTys p.2.binds) none,.v (.int .i64 p.2.kind),.v (.int .i64 p.2.index),.sl 4 (eTms p.2.args) none])] TSL_ok hnt fun K hK=>?_
    refine And.intro (by constructor <;> omega) ?_;refine And.intro (by first | rfl | exact VLe.of_eq (by simp)) ?_;refine And.intro (pl_ok hn hpj) ?_;refine And.intro (pl_eq hpj) ?_;refine dcl (hw) ?_;refine hK _ _ ?_;clear hK K;refine dw_cond (t:=true) rfl ?_;rw[if_pos rfl];refine dw_seq ?_;refine dwk [] TSL_ok hnt fun _ z9=>z9 _ _ ?_;refine dw_ret ?_
    exact reta rfl
   | false=>
    rw[hd] at hw
    rw[So.ixB_miss hlt (by rw[←hp];exact hd)]
    refine dw_seq ?_;refine dwk [(9,.v (.bool true))] TSL_ok hnt fun K hK=>?_;refine And.intro auT ?_;refine hK _ _ ?_;clear hK K;refine dw_seq ?_;refine dw_cond (t:=true) rfl ?_;rw[if_pos rfl];refine dw_skip ?_;refine dw_seq ?_;refine dw_block ?_;refine dw_seq ?_;refine dwk [] TSL_ok hnt fun _ z9=>z9 _ _ ?_;refine dw_seq ?_;refine dwk [(14,.pr 3 n 5 (j) 0),(15,.ag [.v (.int .i64 p.1),.sl 2 (eTys p.2.binds) none,.v (.int .i64 p.2.kind),.v (.int .i64 p.2.index),.sl 4 (eTms p.2.args) none])] TSL_ok hnt fun K hK=>?_
    refine And.intro (by constructor <;> omega) ?_;refine And.intro (by first | rfl | exact VLe.of_eq (by simp)) ?_;refine And.intro (pl_ok hn hpj) ?_;refine And.intro (pl_eq hpj) ?_;refine dcl (hw) ?_;refine hK _ _ ?_;clear hK K;refine dw_cond (t:=false) rfl ?_;rw[if_neg (by simp)];refine dw_skip ?_;refine dwk [(18,.v (.int .i64 (↑(j+1))))] TSL_ok hnt fun K hK=>?_;refine And.intro auI ?_
    refine hK _ _ ?_;clear hK K
    refine⟨⟨j+1,rfl⟩,by first | omega | (dsimp only;omega),VS.toA⟩
  ·rw[So.ixB_end (by omega)]
   refine dw_seq ?_;refine dwk [(9,.v (.bool false))] TSL_ok hnt fun K hK=>?_;refine And.intro auF ?_;refine hK _ _ ?_;clear hK K;refine dw_seq ?_;refine dw_cond (t:=false) rfl ?_;rw[if_neg (by simp)];refine dw_exit ?_;refine dw_seq ?_;refine dwk [] TSL_ok hnt fun _ z9=>z9 _ _ ?_;refine dw_ret ?_
   exact reta rfl
def kept (m:List Int)(l:List (Int×Tm)):List (Int×Tm):=l.filter fun p=>!del m p
theorem kept_none {m:List Int}{l:List (Int×Tm)}(h:∀ p∈l,del m p=false):kept m l=l:=List.filter_eq_self.2 fun p hp=>by simp[h p hp]
theorem kept_take {m:List Int}{l:List (Int×Tm)}{j:Nat}(h:j<l.length):kept m (l.take (j+1))=if del m l[j] then kept m (l.take j) else kept m (l.take j)++[l[j]]:=by
 unfold kept
 rw[List.take_add_one,List.getElem?_eq_getElem h,Option.toList_some,List.filter_append]
 by_cases hd:del m l[j]=true <;> simp[hd]
theorem kept_le (m:List Int)(l:List (Int×Tm))(j:Nat):(kept m (l.take j)).length≤j:=Nat.le_trans (List.length_filter_le _ _) (by simp;omega)
theorem set_kept {K l:List (Int×Tm)}{p:Int×Tm}(h:K.length<l.length):(K++l.drop K.length).set K.length p=(K++[p])++l.drop (K++[p]).length:=by
 rw[List.set_append_right _ _ (Nat.le_refl _),Nat.sub_self,List.drop_eq_getElem_cons h,List.set_cons_zero]
 simp
theorem clr_len {L:List (Int×Tm)}{n k:Nat}{z:List D}(hn:L.length=n)(hk:k≤n):((ePairs L).take k++List.replicate (n-k) z).length=n:=by
 rw[List.length_append,List.length_take,ePairs_len,List.length_replicate];omega
theorem clr_take (K R:List (Int×Tm))(r:List (List D)):(((ePairs (K++R)).take K.length++r).take ((K.length:Nat):Int).toNat).drop (0:Int).toNat=ePairs K:=by
 have h:(ePairs (K++R)).take K.length=ePairs K:=by
  rw[ePairs,List.map_append,List.take_append_of_le_length (by simp),List.take_of_length_le (by simp)];rfl
 rw[h]
 show (List.take K.length (ePairs K++r)).drop 0=ePairs K
 rw[List.drop_zero,List.take_append_of_le_length (by rw[ePairs_len];exact Nat.le_refl _),List.take_of_length_le (by rw[ePairs_len];exact Nat.le_refl _)]
set_option maxHeartbeats 4000000 in
theorem delF_d (l:List (Int×Tm))(n:Nat)(hn:l.length=n)(hM:n≤1000000)(m:List Int)(hm:m.length≤1000000):
  CallG Tryz.prog 84 [.ps 3 n,.fn 86 [.p 0 0]] [(.r 3,.rp 79 5 (ePairs l)),(.c 0 0,.sl 1 (eIs m) none)] [(.r 3,.rw 79 5 n),(.c 0 0,.sl 1 (eIs m) none)] (.sl 5 (ePairs (kept m l)) none):=by
 have hix:=ixP_d l n hn hM m hm
 refine callG_of_dw 4 42 [ResultVar.tmp 4] TSL_ok (by kernel_rfl) Tryz.func84 rfl Tryz.ntmps84 rfl (by simp) ?dwords ?dbody
 case dwords=>simp[wordsG,rowN,rowsR,gkey,Key.eq,D.ok,D.oks,D.okss,rnames,inN,ckey,ePairs_ok,eIs_ok]
 case dbody=>
  intro cx hnt hn0
  refine dw_seq ?_;refine dwk [] TSL_ok hnt fun _ z9=>z9 _ _ ?_;refine dw_seq ?_;refine dwk [] TSL_ok hnt fun K hK=>?_;refine dcn (CallG.n (hix) _) ?_;refine hK _ _ ?_;clear hK K
  rcases So.ixB_spec (f:=del m) l 0 with⟨h1,h2⟩ | ⟨i0,h0,h1,h2,h3⟩
  ·rw[h1,kept_none h2]
   refine dw_seq ?_;refine dw_seq ?_;refine dwk [(12,.v (.bool true))] TSL_ok hnt fun K hK=>?_;refine And.intro (beqT rfl) ?_;refine hK _ _ ?_;clear hK K;refine dw_cond (t:=true) rfl ?_;rw[if_pos rfl];refine dw_seq ?_;refine dwk [] TSL_ok hnt fun _ z9=>z9 _ _ ?_
   refine dw_freeze (x:=4) (g:=3) rfl rfl (by rw[ePairs_len,hn]) ?_
   rw[ePairs_len,hn]
   refine dw_ret ?_
   exact reta rfl
  ·rw[h1,Nat.zero_add]
   refine dw_seq ?_;refine dw_seq ?_;refine dwk [(12,.v (.bool false))] TSL_ok hnt fun K hK=>?_;refine And.intro (beqF (by omega)) ?_;refine hK _ _ ?_;clear hK K;refine dw_cond (t:=false) rfl ?_;rw[if_neg (by simp)];refine dw_skip ?_;refine dw_seq ?_;refine dw_seq ?_;refine dwk [(15,.v (.int .i64 (↑(i0+1))))] TSL_ok hnt fun K hK=>?_;refine And.intro auI ?_;refine hK _ _ ?_;clear hK K
   have hk0:kept m (l.take (i0+1))=l.take i0:=by rw[kept_take h0,if_pos h2];exact kept_none h3
   rw[show ((i0:Nat):Int)=(((kept m (l.take (i0+1))).length:Nat):Int) by rw[hk0,List.length_take,Nat.min_eq_left (by omega)]]
   rw[show ePairs l=ePairs (kept m (l.take (i0+1))++l.drop (kept m (l.take (i0+1))).length) by rw[hk0,List.length_take,Nat.min_eq_left (by omega),List.take_append_drop]]
   refine dw_block ?_
   refine dw_loop (ι:={ j:Nat // i0+1≤j∧j≤n }) (fun j=>[(.t 0,.ps 3 n),(.t 1,.fn 86 [.p 0 0]),(.t 5,.v (.int .i64 ↑(kept m (l.take j.1)).length)),(.t 6,.v (.int .i64 ↑j.1)),(.r 3,.rp 79 5 (ePairs (kept m (l.take j.1)++l.drop (kept m (l.take j.1)).length))),(.c 0 0,.sl 1 (eIs m) none)]) 4 (fun j=>n-j.1) (⟨i0+1,Nat.le_refl _,by omega⟩) (VS.toA) fun j=>?_
   obtain⟨j,hj1,hj2⟩:=j
   dsimp only
   obtain⟨K,hK⟩:∃ K,kept m (l.take j)=K:=⟨_,rfl⟩
   have hkl:=kept_le m l j
   rw[hK] at hkl ⊢
   obtain⟨L,hL⟩:∃ L,K++l.drop K.length=L:=⟨_,rfl⟩
   rw[hL]
   have hnL:L.length=n:=by rw[←hL];simp;omega
   by_cases hlt:j<n
   ·obtain⟨p,hp⟩:∃ p,p=l[j]:=⟨_,rfl⟩
    have hpj:L[j]?=some p:=by
     rw[←hL,List.getElem?_append_right (by omega),List.getElem?_drop,hp,show K.length+(j-K.length)=j by omega]
     exact List.getElem?_eq_getElem _
    have hkt:=kept_take (m:=m) (l:=l) (j:=j) (by omega)
    rw[←hp,hK] at hkt
    have hw:=without1_d p m hm
    rw[ePair_eq] at hw
    cases hd:del m p with
    | true=>
     rw[hd] at hw hkt
     rw[if_pos rfl] at hkt;refine dw_seq ?_;refine dw_seq ?_;refine dwk [(18,.v (.int .i64 (↑n))),(19,.v (.bool true))] TSL_ok hnt fun K hK=>?_;refine And.intro auI ?_;refine And.intro auT ?_;refine hK _ _ ?_;clear hK K;refine dw_cond (t:=true) rfl ?_;rw[if_pos rfl];refine dw_skip ?_;refine dw_seq ?_;refine dw_block ?_;refine dw_seq ?_;refine dwk [(24,.pr 3 n 5 (j) 0),(25,.ag [.v (.int .i64 p.1),.sl 2 (eTys p.2.binds) none,.v (.int .i64 p.2.kind),.v (.int .i64 p.2.index),.sl 4 (eTms p.2.args) none])] TSL_ok hnt fun K hK=>?_
     refine And.intro (by constructor <;> omega) ?_;refine And.intro (by first | rfl | exact VLe.of_eq (by simp)) ?_;refine And.intro (pl_ok hnL hpj) ?_;refine And.intro (pl_eq hpj) ?_;refine hK _ _ ?_;clear hK K;refine dw_seq ?_;refine dwk [] TSL_ok hnt fun K hK=>?_;refine dcl (hw) ?_;refine hK _ _ ?_;clear hK K;refine dw_cond (t:=false) rfl ?_;rw[if_neg (by simp)];refine dw_skip ?_;refine dwk [(21,.v (.int .i64 (↑(j+1))))] TSL_ok hnt fun K hK=>?_
     refine And.intro auI ?_;refine hK _ _ ?_;clear hK K
     rw[←hL,←hkt]
     refine⟨⟨j+1,by omega,by omega⟩,by first | omega | (dsimp only;omega),VS.toA⟩
    | false=>
     rw[hd] at hw hkt
     rw[if_neg (by simp)] at hkt;refine dw_seq ?_;refine dw_seq ?_;refine dwk [(18,.v (.int .i64 (↑n))),(19,.v (.bool true))] TSL_ok hnt fun K hK=>?_;refine And.intro auI ?_;refine And.intro auT ?_;refine hK _ _ ?_;clear hK K;refine dw_cond (t:=true) rfl ?_;rw[if_pos rfl];refine dw_skip ?_;refine dw_seq ?_;refine dw_block ?_;refine dw_seq ?_;refine dwk [(24,.pr 3 n 5 (j) 0),(25,.ag [.v (.int .i64 p.1),.sl 2 (eTys p.2.binds) none,.v (.int .i64 p.2.kind),.v (.int .i64 p.2.index),.sl 4 (eTms p.2.args) none])] TSL_ok hnt fun K hK=>?_
     refine And.intro (by constructor <;> omega) ?_;refine And.intro (by first | rfl | exact VLe.of_eq (by simp)) ?_;refine And.intro (pl_ok hnL hpj) ?_;refine And.intro (pl_eq hpj) ?_;refine hK _ _ ?_;clear hK K;refine dw_seq ?_;refine dwk [] TSL_ok hnt fun K hK=>?_;refine dcl (hw) ?_;refine hK _ _ ?_;clear hK K;refine dw_cond (t:=true) rfl ?_;rw[if_pos rfl];refine dw_seq ?_;refine dwk [(33,.pr 3 n 5 (K.length) 0)] TSL_ok hnt fun K hK=>?_
     refine And.intro (by constructor <;> omega) ?_;refine And.intro (by first | rfl | exact VLe.of_eq (by simp)) ?_;refine And.intro (⟨by rw[ePairs_len];omega,by omega⟩) ?_;refine hK _ _ ?_;clear hK K
     rw[eP_set L K.length p,←hL,set_kept (by omega)]
     refine dwk [(35,.v (.int .i64 (↑(K++[p]).length)))] TSL_ok hnt fun K hK=>?_;refine And.intro (dintE (by rw[IntWalk.i64_in _ (by omega)];simp)) ?_;refine hK _ _ ?_;clear hK K;refine dwk [(21,.v (.int .i64 (↑(j+1))))] TSL_ok hnt fun K hK=>?_;refine And.intro auI ?_;refine hK _ _ ?_;clear hK K
     rw[←hkt]
     refine⟨⟨j+1,by omega,by omega⟩,by first | omega | (dsimp only;omega),VS.toA⟩
   ·have hKf:K=kept m l:=by rw[←hK,List.take_of_length_le (by omega)]
    refine dw_seq ?_;refine dw_seq ?_;refine dwk [(18,.v (.int .i64 (↑n))),(19,.v (.bool false))] TSL_ok hnt fun K hK=>?_;refine And.intro auI ?_;refine And.intro auF ?_;refine hK _ _ ?_;clear hK K;refine dw_cond (t:=false) rfl ?_;rw[if_neg (by simp)];refine dw_exit ?_;refine dw_seq ?_;refine dwk [(38,.pt 3 n 5 K.length)] TSL_ok hnt fun K hK=>?_;refine And.intro (⟨by omega,by omega⟩) ?_
    refine And.intro (VLe.refl _) ?_;refine And.intro (⟨by rw[ePairs_len];omega,by omega⟩) ?_;refine hK _ _ ?_;clear hK K
    refine dw_freeze (x:=0) (g:=3) rfl rfl (clr_len (by omega) (by omega)) ?_
    rw[clr_len (by omega) (by omega)]
    refine dw_seq ?_;refine dwk [(41,.sl 5 (ePairs K) none)] TSL_ok hnt fun K hK=>?_;refine And.intro (⟨by omega,by rw[clr_len (by omega) (by omega)];omega⟩) ?_;refine And.intro (VLe.of_eq (by rw[←hL];exact congrArg (D.sl 5 · none) (clr_take ..))) ?_;refine hK _ _ ?_;clear hK K
    rw[hKf]
    refine dw_ret ?_
    exact reta rfl
def TRP_22:TI:=⟨1,false,[Value.slice none 0 0],[],some 103,24,5,none,false⟩
theorem TRP_22_ok:TypOk Tryz.prog 22 TRP_22:=by constructor <;> kernel_rfl
def TRP_103:TI:=⟨2,true,[Value.slice none 0 0,Value.int IntKind.i64 0],[(0,1,false),(1,1,false)],none,32,6,none,false⟩
theorem TRP_103_ok:TypOk Tryz.prog 103 TRP_103:=by constructor <;> kernel_rfl
def TRP:List (Nat×TI):=[(22,TRP_22),(103,TRP_103)]
theorem TRP_ok:TabOk Tryz.prog TRP:=(((TabOk.nil _).cons TRP_103_ok).cons TRP_22_ok)
namespace Pn
mutual
def pth:Tm→List Int→List (List Int)
 | .mk _ _ _ a,p=>p :: pths a p 0
def pths:List Tm→List Int→Nat→List (List Int)
 | [],_,_=>[]
 | t :: l,p,j=>pth t (p++[(j:Int)])++pths l p (j+1)
end
end Pn
def ePaths (l:List (List Int)):List (List D):=l.map fun p=>[.sl 1 (eIs p) none]
@[simp] theorem ePaths_ok (f g:Nat→Bool) (l:List (List Int)):D.okss f g (ePaths l)=true:=D.okss_map _ l fun l _=>by simp[D.oks,D.ok,eIs_ok]
theorem rbehind_d (l r:List Ty)(h:l.length+r.length≤900000):PureC Tryz.prog 48 [.sl 2 (eTys l) none,.sl 2 (eTys r) none] (.sl 2 (eTys (l++r)) none):=by
 rw[eTys_append]
 have e1:=eTys_len l
 have e2:=eTys_len r
 refine call_of_dw 0 12 [ResultVar.tmp 4] TRP_ok (by kernel_rfl) Tryz.func48 rfl Tryz.ntmps48 rfl (by simp) ?dwords ?dbody
 case dwords=>simp[wordsOk,D.ok,D.oks,D.okss,rnames,inN,ckey,eTys_ok,←eTys_append]
 case dbody=>
  intro cx hnt hn0
  refine dw_seq ?_;refine dwk [] TRP_ok hnt fun _ z9=>z9 _ _ ?_;refine dw_seq ?_;refine dwk [] TRP_ok hnt fun _ z9=>z9 _ _ ?_;refine dw_seq ?_;refine dwk [] TRP_ok hnt fun K hK=>?_;refine And.intro (by omega) ?_;refine hK _ _ ?_;clear hK K;refine dw_seq ?_;refine dwk [] TRP_ok hnt fun K hK=>?_;refine And.intro (⟨rfl,by omega⟩) ?_;refine hK _ _ ?_;clear hK K
  refine dw_ret ?_
  exact reta rfl
namespace Pn
end Pn
namespace Pn
end Pn
def eBd (b:Pn.Bd):List (Int×D):=b.map fun p=>(p.1,.ag (eTm p.2))
@[simp] theorem eBd_ok (f g:Nat→Bool) (b:Pn.Bd):D.okm f g (eBd b)=true:=okm_map _ b fun p _=>by simp[D.ok,eTm_ok]
namespace Pn
abbrev nb (t:Tm):Tm:=.mk [] t.kind t.index t.args
end Pn
namespace Pn
variable {C M:List Ty}
end Pn
variable {C M:List Ty}
namespace Pn
end Pn
end Go.Proofs.YtflbnonbfmmchaaGreat
