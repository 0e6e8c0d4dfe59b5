/-
  A region that draws its order, walked outside any fence, is taken into the fence that asks nothing, in a round of a loop or not. Deep values: a round of a loop over a function, walked as a call is: from where it begins, and back. Deep values: code walked within a round; a loop over an iterator that turns nothing and is never left early. Deep values: a region behind a loop over a function, whose frame bears a mark. proof.copied: a step as new memory. slices.Backward of a slice of structs of four cells: an iterator that only reads. proof.Reverse: a chain's steps turned round. kind.Compare. term.all: which of two lists is less. term.Compare. RuleOrders, walked in the deep way. Swap of rule and of the document. Orders: rule's and the document's. The axioms of the laws of layer 27. Package audit, walked in the deep way: Chain, Step. rule.Typed alone. Package audit, walked in the deep way: Lemma. Package audit, walked in the deep way: slices.Clone of pairs, proof.pair, Where. Package audit, walked in the deep way: Where.
-/
import Derived.Test.YtclihnccilkohaaGreatRowAuditChainsp1
import Derived.OrdersIn
import Derived.RangeFuncCalls
import Derived.Test.YtclihnccilkohaaGreatRowAuditChainsp6
import Derived.Test.YtclihnccilkohaaGreatRowAuditChainsp5
import Derived.RangeFuncLeaves
import Derived.Test.YtclihnccilkohaaGreatRowAuditChainsp8
import Derived.Test.YtclihnccilkohaaGreatRowAuditChainsp7
import Derived.Test.YtclihnccilkohaaGreatRowAuditChainsp4
set_option maxRecDepth 100000
set_option maxHeartbeats 1000000
set_option linter.unusedVariables false
set_option linter.unusedSimpArgs false
namespace Go.Proofs.YtclihnccilkohaaGreat
def WideF (F:Fence):Prop:=F=Fence.wide∨∃ l,F=Fence.wide.inRound l
theorem wide_self:WideF Fence.wide:=.inl rfl
theorem wide_round (l:Nat):WideF (Fence.wide.inRound l):=.inr ⟨l,rfl⟩
def OnlyN (Q:Exit→Act→World→Prop):Exit→Act→World→Prop
 | .normal,a,w=>Q .normal a w
 | _,_,_=>False
theorem OnlyN.normal {Q:Exit→Act→World→Prop}{a:Act}{w:World}(h:Q .normal a w):OnlyN Q .normal a w:=h
theorem calls_wideF {F:Fence}(hw:WideF F)(n:Nat){P:Program}{f:FuncId}{args:Array Value}{w:World}{R:Ending→World→Prop}(h:Calls P f args w R):CallsIn F n P f args w R:=by
 rcases hw with rfl | ⟨l,rfl⟩
 ·exact callsIn_wide.2 h
 ·exact CallsIn.inRound l (callsIn_wide.2 h)
theorem rows_wideF {F:Fence}(hw:WideF F)(n:Nat){P:Program}{row:String}{args:Array Value}{w:World}{R:Value→World→Prop}(h:Rows P row args w R):RowsIn F n P row args w R:=by
 rcases hw with rfl | ⟨l,rfl⟩
 ·exact fun c cs _=>let ⟨v,w',r,s⟩:=h c cs;⟨v,w',r,stepsIn_wide.2 s⟩
 ·exact fun c cs _=>let ⟨v,w',r,s⟩:=h c cs;⟨v,w',r,stepsIn_wide.2 s⟩
theorem oper_in {F:Fence}(hw:WideF F){n:Nat}{P:Program}{o:Oper}(ho:∀ c,o.op≠.defer c){a:Act}{w:World}{K:Act→World→Prop}{Q:Exit→Act→World→Prop}(h:o.wp P a w K (OnlyN Q)):o.wpIn F n P a w K Q:=by
 have hfn:∀ f,F.fn f:=by rcases hw with rfl | ⟨l,rfl⟩ <;> intro f <;> trivial
 have hd:F.depth=none:=by rcases hw with rfl | ⟨l,rfl⟩ <;> rfl
 refine⟨fun f _=>hfn f,?_⟩
 rw[Oper.semAt_eq _ _ _ ho]
 unfold Oper.wp at h
 generalize (execOp a.eval o).run P w=r at *
 have hdd:F.depth.isSome=true→1≤n:=fun e=>by rw[hd] at e;cases e
 cases r with
 | ok x w'=>
  cases x <;> simp only[Oper.upon,Oper.uponIn] at h ⊢ <;>
   first
    | exact h
    | exact⟨hdd,(calls_wideF hw _ h).mono (fun e w'' he=>by cases e <;> first | exact he | exact he.elim | (obtain⟨_,_,he⟩:=he;exact he.elim))⟩
    | exact⟨hdd,rows_wideF hw _ h⟩
 | halt x w'=>cases x <;> simp only[Oper.upon,Oper.uponIn] at h ⊢ <;> first | exact h.elim | exact h
def noDefer (ops:Array Oper):Bool:=ops.toList.all fun o=>match o.op with | .defer _=>false | _=>true
theorem noDefer_spec {ops:Array Oper}(h:noDefer ops=true){i:Nat}{o:Oper}(ho:ops[i]?=some o)(c:Call):o.op≠.defer c:=by
 intro e
 have hm:o∈ops.toList:=by
  rw[←Array.getElem?_toList] at ho
  exact List.mem_of_getElem? ho
 have:=List.all_eq_true.1 h o hm
 simp[e] at this
theorem wpOp_in {F:Fence}(hw:WideF F){n:Nat}{P:Program}{ops:Array Oper}(hnd:noDefer ops=true){Q:Exit→Act→World→Prop}{i:Nat}{K:Act→World→Prop}{a:Act}{w:World}(h:wpOp P ops (OnlyN Q) i K a w):wpOpIn F n P ops Q i K a w:=by
 have hfn:∀ f,F.fn f:=by rcases hw with rfl | ⟨l,rfl⟩ <;> intro f <;> trivial
 unfold wpOp at h
 unfold wpOpIn
 split
 ·rename_i ho;simpa[ho] using h
 ·rename_i o ho
  simp only[ho] at h
  by_cases hwant:Region.wanted o (yielded ops a.tmps)=true
  ·rw[if_pos hwant] at h ⊢
   rcases h with h | ⟨_,_,_,h⟩
   ·exact oper_in hw (noDefer_spec hnd ho) h
   ·exact h.elim
  ·rw[if_neg hwant] at h ⊢
   exact⟨fun f _=>hfn f,h⟩
theorem wpAny_in {F:Fence}(hw:WideF F){n:Nat}{P:Program}{md:Region.Mode}{ops:Array Oper}(hnd:noDefer ops=true){Q:Exit→Act→World→Prop}:∀ (fuel:Nat) (listed:Array Bool) (a:Act) (w:World),wpAny P md ops (OnlyN Q) fuel listed a w→wpAnyIn F n P md ops Q fuel listed a w
 | 0,_,_,_,h=>h
 | fuel+1,_,_,_,h=>⟨h.1,fun i hi=>wpOpIn_mono (fun _ _ hh=>wpAny_in hw hnd fuel _ _ _ hh) (wpOp_in hw hnd (h.2 i hi))⟩
end Go.Proofs.YtclihnccilkohaaGreat
namespace Go.Proofs.YtclihnccilkohaaGreat
open Go.RowKit
theorem get_app:∀ (ρ R:List (Key×D)) (k:Key),(∀ p∈ρ,p.1≠k)→get (ρ++R) k=get R k
 | [],_,_,_=>rfl
 | (k',d) :: ρ,R,k,h=>by
  rw[List.cons_append,get,if_neg (fun e=>h (k',d) (by simp) (Key.eq_iff.1 e)),get_app ρ R k fun p hp=>h p (by simp[hp])]
theorem get_appL:∀ (ρ R:List (Key×D)) (k:Key) (d:D),get (ρ++R) k=some d→(k,d)∈ρ∨get R k=some d
 | [],_,_,_,h=>.inr h
 | (k',d') :: ρ,R,k,d,h=>by
  rw[List.cons_append,get] at h
  split at h
  ·rename_i e;cases h;rw[Key.eq_iff.1 e];exact .inl (by simp)
  ·exact(get_appL ρ R k d h).imp (fun h=>by simp[h]) id
set_option maxHeartbeats 2000000 in
theorem round_of_st {cx:Cx}{Fr:Nat→Prop}{m:Mp}{Im:Nat→Nat→Prop}{w:World}{a:Act}{σ R W:List (Key×D)}(hs0:St cx Fr m Im w a σ)(N0 nt:Nat)(hR:∀ p∈R,get σ p.1=some p.2)(hw:wordsG [] R W (.v undef) N0=true) 
  (a1:Act) (ρ:List (Key×D)) (hd1:a1.defers=[]) (hn1:a1.tmps.size=nt) (hρ:∀ p∈ρ,∃ x,p.1=.t x∧p.2.ok (inN R) (rowN R)=true∧Rel m Im w (a1.tmps.getD x undef) p.2) :
  ∃ cx',cx'.nt=nt∧cx'.n0=N0∧cx'.w0=w∧cx'.Im0=Im∧cx'.m0=m.cut (inN R) (rowN R)∧St cx' (fun k=>N0≤k) cx'.m0 Im w a1 (ρ++R) ∧
   ∀ Fr' m' Im' w' a' σ',St cx' Fr' m' Im' w' a' σ'→(∀ p∈W,get σ' p.1=some p.2∨∃ d,get σ' p.1=some d∧VLe d p.2∧(match p.1 with | .c _ _=>True | _=>False))→∃ m2,St cx Fr m2 Im' w' a (puts (dropT R σ) W):=by
 have hmem:=hs0.mem
 have hargs:RelL m Im w [] []:=trivial
 simp only[wordsG,Bool.and_eq_true,List.all_eq_true,decide_eq_true_eq] at hw
 obtain⟨⟨⟨⟨⟨w1,w2⟩,w3⟩,w4⟩,w5⟩,w6⟩:=hw
 have hRc:∀ k off d,(Key.c k off,d)∈R→∃ b v,m.blk k=some b∧w.cell? ⟨b,off,none⟩=some v∧Rel m Im w v d:=fun k off d hm=>hs0.ce k off d (hR _ hm)
 have hRo:∀ k d,(Key.o k,d)∈R→∃ b,m.obj k=some b∧ObOk m Im w b d:=fun k d hm=>hs0.ok k d (hR _ hm)
 have hRr:∀ g d,(Key.r g,d)∈R→∃ Rw,m.row g=some Rw∧RoOk m Im w Rw d:=fun g d hm=>hs0.ro g d (hR _ hm)
 let RB:Nat→Prop:=fun b=>∃ g Rw,rowN R g=true∧m.row g=some Rw∧Rw.hv.ownBlock=some b
 have hnoj:∀ X J,(Key.j,D.j X J)∉R:=fun X J hm=>by have:=(w2 _ hm).2;cases this
 have hin:∀ k b,inN R k=true→m.blk k=some b→Tch m R b:=fun k b hk hb=>by
  rcases of_rnames hk with⟨off,d,hm⟩ | ⟨d,hm⟩
  ·exact .inl ⟨k,off,d,hm,hb⟩
  ·obtain⟨b',q1,_⟩:=hRo _ _ hm
   have:=hmem.dis k b hb
   rw[this] at q1;cases q1
 have hino:∀ k b,inN R k=true→m.obj k=some b→Tch m R b:=fun k b hk hb=>by
  rcases of_rnames hk with⟨off,d,hm⟩ | ⟨d,hm⟩
  ·obtain⟨b',v,q1,_⟩:=hRc _ _ _ hm
   have:=hmem.dis k b' q1
   rw[this] at hb;cases hb
  ·exact .inr (.inr ⟨k,d,hm,hb⟩)
 have hlt:∀ k,inN R k=true→k<N0:=fun k hk=>w5 k (by unfold inN at hk;rwa [List.contains_iff_mem] at hk)
 have hltr:∀ g,rowN R g=true→g<N0:=fun g hg=>(w6 g (by unfold rowN at hg;rwa [List.contains_iff_mem] at hg)).1
 have hTb:∀ b k,Tch m R b→m.blk k=some b→inN R k=true:=fun b k ht hk=>by
  rcases ht with⟨k',off,d,hm,hb⟩ | ⟨X,J,hm,_⟩ | ⟨k',d,hm,hb⟩
  ·have:=hmem.inj k k' b hk hb;subst this;exact mem_rnames hm
  ·exact absurd hm (hnoj X J)
  ·exact absurd hk (hmem.oblk k' k b hb)
 have hTo:∀ b k,Tch m R b→m.obj k=some b→inN R k=true:=fun b k ht hk=>by
  rcases ht with⟨k',off,d,hm,hb⟩ | ⟨X,J,hm,_⟩ | ⟨k',d,hm,hb⟩
  ·exact absurd hb (hmem.oblk k k' b hk)
  ·exact absurd hm (hnoj X J)
  ·have:=hmem.oinj k k' b hk hb;subst this;exact mem_rnamesO hm
 have hTr:∀ b g Rw,Tch m R b→m.row g=some Rw→Rw.hv.ownBlock≠some b:=fun b g Rw ht hg e=>by
  rcases ht with⟨k',off,d,hm,hb⟩ | ⟨X,J,hm,_⟩ | ⟨k',d,hm,hb⟩
  ·exact hmem.rblk g Rw b k' hg e hb
  ·exact absurd hm (hnoj X J)
  ·exact hmem.orow k' g Rw b hb hg e
 have hTown:∀ b,Tch m R b→cx.C b∨cx.w0.heap.size≤b:=fun b ht=>by
  rcases ht with⟨k',off,d,hm,hb⟩ | ⟨X,J,hm,_⟩ | ⟨k',d,hm,hb⟩
  ·exact hmem.own k' b hb
  ·exact absurd hm (hnoj X J)
  ·exact hmem.oown k' b hb
 have hTim:∀ b o,Tch m R b→¬ Im b o:=fun b o ht=>by
  rcases ht with⟨k',off,d,hm,hb⟩ | ⟨X,J,hm,_⟩ | ⟨k',d,hm,hb⟩
  ·exact hmem.nim k' b o hb
  ·exact absurd hm (hnoj X J)
  ·exact hmem.onim k' b o hb
 have hTX:∀ b X J,Tch m R b→XOk cx m Im w X J→¬ X b:=fun b X J ht hX hb=>by
  rcases ht with⟨k',off,d,hm,hb'⟩ | ⟨X',J',hm,_⟩ | ⟨k',d,hm,hb'⟩
  ·exact hX.blk b k' hb hb'
  ·exact hnoj X' J' hm
  ·exact hX.obj b k' hb hb'
 let cx':Cx:={ w0:=w,C:=fun b=>Tch m R b∨RB b,Im0:=Im,m0:=m.cut (inN R) (rowN R),nt:=nt,n0:=N0,h0:=fun k b hk=>hlt k (Mp.cut_blk hk).1,h0o:=fun k b hk=>hlt k (Mp.cut_obj hk).1,CR:=RB,hCR:=fun b h=>.inr h,h0r:=fun g Rw hg=>hltr g (Mp.cut_row hg).1 }
 have hst:St cx' (fun k=>N0≤k) (m.cut (inN R) (rowN R)) Im w a1 (ρ++R):=by
  refine⟨{
   off:=Off.refl _ _,im:=hmem.im,imb:=fun b o h=>.inl h,im0:=fun b o h=>h
   own:=fun k b hk=>.inl (.inl (hin k b (Mp.cut_blk hk).1 (Mp.cut_blk hk).2))
   lt:=fun k b hk=>hmem.lt k b (Mp.cut_blk hk).2
   free:=fun k b o hk=>hmem.free k b o (Mp.cut_blk hk).2
   nim:=fun k b o hk=>hmem.nim k b o (Mp.cut_blk hk).2
   inj:=fun k k' b hk hk'=>hmem.inj k k' b (Mp.cut_blk hk).2 (Mp.cut_blk hk').2
   row:=fun g R hg=>hmem.row g R (Mp.cut_row hg).2
   rIm:=fun g R b o hg=>hmem.rIm g R b o (Mp.cut_row hg).2
   rblk:=fun g R b k hg hb hk=>hmem.rblk g R b k (Mp.cut_row hg).2 hb (Mp.cut_blk hk).2
   rinj:=fun g g' R R' b hg hg'=>hmem.rinj g g' R R' b (Mp.cut_row hg).2 (Mp.cut_row hg').2
   fr:=fun k hk=>⟨?f1,?f2,?f3⟩
   m0:=fun k b hk=>hk
   m0o:=fun k b hk=>hk
   oown:=fun k b hk=>.inl (.inl (hino k b (Mp.cut_obj hk).1 (Mp.cut_obj hk).2))
   olt:=fun k b hk=>hmem.olt k b (Mp.cut_obj hk).2
   onim:=fun k b o hk=>hmem.onim k b o (Mp.cut_obj hk).2
   oinj:=fun k k' b hk hk'=>hmem.oinj k k' b (Mp.cut_obj hk).2 (Mp.cut_obj hk').2
   oblk:=fun k k' b hk hk'=>hmem.oblk k k' b (Mp.cut_obj hk).2 (Mp.cut_blk hk').2
   orow:=fun k g R b hk hg=>hmem.orow k g R b (Mp.cut_obj hk).2 (Mp.cut_row hg).2
   dis:=fun k b hk=>?dis
   k0:=KeepI.refl _ _
   rown:=fun g Rw b hg hb=>.inr ⟨g,Rw,(Mp.cut_row hg).1,(Mp.cut_row hg).2,hb⟩
   m0r:=fun g Rw hg=>⟨Rw,hg,Nat.le_refl _,fun _=>rfl⟩ },hd1,?sz,fun x d hx=>?tm,fun k off d hx=>?ce,fun g d hx=>?ro,fun d hx=>?jk,fun k d hx=>?okk⟩
  case f1=>
   by_cases hk2:inN R k=true
   ·have:=hlt k hk2;omega
   ·simp[Mp.cut,hk2]
  case f2=>
   by_cases hk2:rowN R k=true
   ·have:=hltr k hk2;omega
   ·simp[Mp.cut,hk2]
  case f3=>
   by_cases hk2:inN R k=true
   ·have:=hlt k hk2;omega
   ·simp[Mp.cut,hk2]
  case dis=>
   have:=hmem.dis k b (Mp.cut_blk hk).2
   show (if _ then m.obj k else none)=none
   rw[this];simp
  case sz=>exact hn1
  case tm=>
   rcases get_appL ρ R _ d hx with hm | hx
   ·obtain⟨y,e,h1,h2⟩:=hρ _ hm
    cases e
    exact h2.cut h1
   ·have:=(w2 _ (mem_of_get hx)).2
    cases this
  case ce=>
   rw[get_app ρ R _ fun p hp=>by obtain⟨y,e,_⟩:=hρ p hp;rw[e];simp] at hx
   have hm:=mem_of_get hx
   obtain⟨b,v,q1,q2,q3⟩:=hRc _ _ _ hm
   exact⟨b,v,by simp only[Mp.cut,mem_rnames hm,if_true];exact q1,q2,q3.cut (w2 _ hm).1⟩
  case ro=>
   rw[get_app ρ R _ fun p hp=>by obtain⟨y,e,_⟩:=hρ p hp;rw[e];simp] at hx
   have hm:=mem_of_get hx
   obtain⟨Rw,q1,q2⟩:=hRr _ _ hm
   exact⟨Rw,by simp only[Mp.cut,mem_rowsR hm,if_true];exact q1,q2.cut (w2 _ hm).1⟩
  case jk=>
   rw[get_app ρ R _ fun p hp=>by obtain⟨y,e,_⟩:=hρ p hp;rw[e];simp] at hx
   have:=(w2 _ (mem_of_get hx)).2
   cases this
  case okk=>
   rw[get_app ρ R _ fun p hp=>by obtain⟨y,e,_⟩:=hρ p hp;rw[e];simp] at hx
   have hm:=mem_of_get hx
   obtain⟨b,q1,q2⟩:=hRo _ _ hm
   exact⟨b,by simp only[Mp.cut,mem_rnamesO hm,if_true];exact q1,q2.cut (w2 _ hm).1⟩
 refine⟨cx',rfl,rfl,rfl,rfl,rfl,hst,fun Fr' m' Im' w' a' σ' hs hq4=>?_⟩
 have hmem':=hs.mem
 have hoff:Off (fun b=>Tch m R b∨RB b) w w':=hmem'.off
 have hki:KeepI Im w w':=hmem'.k0
 have hi:∀ b o,Im b o→Im' b o:=hmem'.im0
 have hib:∀ b o,Im' b o→Im b o∨w.heap.size≤b∨RB b:=hmem'.imb
 have hrown:∀ g Rw b,m'.row g=some Rw→Rw.hv.ownBlock=some b→w.heap.size≤b∨RB b:=hmem'.rown
 have hsame:∀ b,b<w.heap.size→¬ Tch m R b→¬ RB b→w'.heap[b]?=w.heap[b]?:=fun b hb h1 h2=>hoff.block b hb fun h=>h.elim h1 h2
 have hmb:∀ k b,inN R k=true→m.blk k=some b→m'.blk k=some b:=fun k b hk hb=>hmem'.m0 k b (by show (m.cut (inN R) (rowN R)).blk k=some b;simp[Mp.cut,hk,hb])
 have hmo:∀ k b,inN R k=true→m.obj k=some b→m'.obj k=some b:=fun k b hk hb=>hmem'.m0o k b (by show (m.cut (inN R) (rowN R)).obj k=some b;simp[Mp.cut,hk,hb])
 have hm':∀ k b,inN R k=true→m'.blk k=some b→m.blk k=some b:=fun k b hk hb=>by
  rcases of_rnames hk with⟨off,d,hm⟩ | ⟨d,hm⟩
  ·obtain⟨b',_,q1,_⟩:=hRc _ _ _ hm
   have:=hmb k b' hk q1
   rw[this] at hb;cases hb;exact q1
  ·obtain⟨b',q1,_⟩:=hRo _ _ hm
   have:=hmo k b' hk q1
   rw[hmem'.dis k b hb] at this;cases this
 have hmo':∀ k b,inN R k=true→m'.obj k=some b→m.obj k=some b:=fun k b hk hb=>by
  rcases of_rnames hk with⟨off,d,hm⟩ | ⟨d,hm⟩
  ·obtain⟨b',_,q1,_⟩:=hRc _ _ _ hm
   have:=hmb k b' hk q1
   rw[hmem'.dis k b' this] at hb;cases hb
  ·obtain⟨b',q1,_⟩:=hRo _ _ hm
   have:=hmo k b' hk q1
   rw[this] at hb;cases hb;exact q1
 let m2:Mp:=⟨m.blk,fun g=>if rowN R g then m'.row g else m.row g,m.obj⟩
 have h2r:∀ {g Rw},m2.row g=some Rw→(rowN R g=true∧m'.row g=some Rw)∨(rowN R g=false∧m.row g=some Rw):=fun {g Rw} hg=>by
  cases hr:rowN R g with
  | true=>left;simp[m2,hr] at hg;exact⟨rfl,hg⟩
  | false=>right;simp[m2,hr] at hg;exact⟨rfl,hg⟩
 have hRBr:∀ b g Rw,RB b→m.row g=some Rw→Rw.hv.ownBlock=some b→rowN R g=true:=fun b g Rw ⟨g2,R2,q1,q2,q3⟩ hg ho=>by
  have:=hmem.rinj g2 g R2 Rw b q2 hg q3 ho
  subst this;exact q1
 have hRBb:∀ b k,RB b→m.blk k≠some b:=fun b k ⟨g2,R2,q1,q2,q3⟩=>hmem.rblk g2 R2 b k q2 q3
 have hRBo:∀ b k,RB b→m.obj k≠some b:=fun b k ⟨g2,R2,q1,q2,q3⟩ hk=>hmem.orow k g2 R2 b hk q2 q3
 have hRBw:∀ b,RB b→cx.w0.heap.size≤b∨cx.CR b:=fun b ⟨g2,R2,q1,q2,q3⟩=>hmem.rown g2 R2 b q2 q3
 have hrlt:∀ g Rw b,m.row g=some Rw→Rw.hv.ownBlock=some b→b<w.heap.size:=fun g Rw b hg ho=>by
  obtain⟨xs,hx⟩:=hmem.row g Rw hg
  exact(row_lt hx ho).2
 have hle:m.le m2:=⟨fun _ _ h=>h,fun g Rw hg=>by
  cases hr:rowN R g with
  | true=>
   obtain⟨R',q1,q2⟩:=hmem'.m0r g Rw (by show (m.cut (inN R) (rowN R)).row g=some Rw;simp[Mp.cut,hr,hg])
   exact⟨R',by simp[m2,hr,q1],q2⟩
  | false=>exact⟨Rw,by simp[m2,hr,hg],Nat.le_refl _,fun _=>rfl⟩,fun _ _ h=>h⟩
 have hcutle:(m'.cut (inN R) (rowN R)).le m2:=⟨fun k b hk=>hm' k b (Mp.cut_blk hk).1 (Mp.cut_blk hk).2,fun g Rw hg=>⟨Rw,by simp[m2,(Mp.cut_row hg).1,(Mp.cut_row hg).2],Nat.le_refl _,fun _=>rfl⟩,fun k b hk=>hmo' k b (Mp.cut_obj hk).1 (Mp.cut_obj hk).2⟩
 have hrel:∀ {x d},Rel m' Im' w' x d→d.ok (inN R) (rowN R)=true→Rel m2 Im' w' x d:=fun hx hd=>(hx.cut hd).mono hcutle (KeepI.refl _ _) fun _ _ h=>h
 have hmono:∀ {x d},Rel m Im w x d→Rel m2 Im' w' x d:=fun hx=>hx.mono hle hki hi
 have hmem2:MemOk cx Fr m2 Im' w':={
  off:=⟨hoff.os.trans hmem.off.os,hoff.tape.trans hmem.off.tape,hoff.output.trans hmem.off.output,Nat.le_trans hmem.off.size hoff.size,fun b hb hC=>(hsame b (Nat.lt_of_lt_of_le hb hmem.off.size) (fun h=>(hTown b h).elim hC fun h=>Nat.lt_irrefl _ (Nat.lt_of_lt_of_le hb h)) (fun h=>(hRBw b h).elim (fun h=>Nat.lt_irrefl _ (Nat.lt_of_lt_of_le hb h)) fun h=>hC (cx.hCR b h))).trans (hmem.off.block b hb hC)⟩
  im:=hmem'.im
  imb:=fun b o hh=>by
   rcases hib b o hh with h1 | h1 | h1
   ·exact hmem.imb b o h1
   ·exact .inr (.inl (Nat.le_trans hmem.off.size h1))
   ·exact .inr (hRBw b h1)
  im0:=fun b o hh=>hi b o (hmem.im0 b o hh)
  own:=hmem.own
  lt:=fun k b hk=>Nat.lt_of_lt_of_le (hmem.lt k b hk) hoff.size
  free:=fun k b o hk=>by
   cases hn:inN R k with
   | true=>exact hmem'.free k b o (hmb k b hn hk)
   | false=>exact(World.frozen?_of_block (a:=⟨b,o,none⟩) (hsame b (hmem.lt k b hk) (fun h=>by rw[hTb b k h hk] at hn;cases hn) fun h=>hRBb b k h hk)).trans (hmem.free k b o hk)
  nim:=fun k b o hk hh=>by
   cases hn:inN R k with
   | true=>exact hmem'.nim k b o (hmb k b hn hk) hh
   | false=>
    rcases hib b o hh with h1 | h1 | h1
    ·exact hmem.nim k b o hk h1
    ·have:=hmem.lt k b hk;omega
    ·exact hRBb b k h1 hk
  inj:=hmem.inj
  row:=fun g Rw hg=>by
   rcases h2r hg with⟨_,hg⟩ | ⟨hn,hg⟩
   ·exact hmem'.row g Rw hg
   ·obtain⟨xs,hx⟩:=hmem.row g Rw hg
    refine⟨xs,hx.1,?_⟩
    rcases hx.2 with h0 | ⟨g',cap,cur,e,h1,h2,h3⟩
    ·exact .inl h0
    ·refine .inr ⟨g',cap,cur,e,h1,?_,h3⟩
     have ho:Rw.hv.ownBlock=some g':=by rw[e];rfl
     rw[hsame g' (lt_of_block h2) (fun ht=>hTr g' g Rw ht hg ho) fun ht=>by rw[hRBr g' g Rw ht hg ho] at hn;cases hn];exact h2
  rIm:=fun g Rw b o hg ho hh=>by
   rcases h2r hg with⟨_,hg⟩ | ⟨hn,hg⟩
   ·exact hmem'.rIm g Rw b o hg ho hh
   ·rcases hib b o hh with h1 | h1 | h1
    ·exact hmem.rIm g Rw b o hg ho h1
    ·have:=hrlt g Rw b hg ho;omega
    ·rw[hRBr b g Rw h1 hg ho] at hn;cases hn
  rblk:=fun g Rw b k hg ho hk=>by
   rcases h2r hg with⟨_,hg⟩ | ⟨hn,hg⟩
   ·rcases hrown g Rw b hg ho with h1 | h1
    ·have:=hmem.lt k b hk;omega
    ·exact hRBb b k h1 hk
   ·exact hmem.rblk g Rw b k hg ho hk
  rinj:=fun g g' Rw Rw' b hg hg' ho ho'=>by
   rcases h2r hg with⟨hn,hg⟩ | ⟨hn,hg⟩ <;> rcases h2r hg' with⟨hn',hg'⟩ | ⟨hn',hg'⟩
   ·exact hmem'.rinj g g' Rw Rw' b hg hg' ho ho'
   ·rcases hrown g Rw b hg ho with h1 | h1
    ·have:=hrlt g' Rw' b hg' ho';omega
    ·rw[hRBr b g' Rw' h1 hg' ho'] at hn';cases hn'
   ·rcases hrown g' Rw' b hg' ho' with h1 | h1
    ·have:=hrlt g Rw b hg ho;omega
    ·rw[hRBr b g Rw h1 hg ho] at hn;cases hn
   ·exact hmem.rinj g g' Rw Rw' b hg hg' ho ho'
  fr:=fun k hk=>⟨(hmem.fr k hk).1,by
   cases hn:rowN R k with
   | true=>
    obtain⟨d,hm⟩:=of_rowsR hn
    obtain⟨Rw,q1,_⟩:=hRr _ _ hm
    rw[(hmem.fr k hk).2.1] at q1;cases q1
   | false=>simp[m2,hn,(hmem.fr k hk).2.1],(hmem.fr k hk).2.2⟩
  m0:=hmem.m0
  m0o:=hmem.m0o
  oown:=hmem.oown
  olt:=fun k b hk=>Nat.lt_of_lt_of_le (hmem.olt k b hk) hoff.size
  onim:=fun k b o hk hh=>by
   cases hn:inN R k with
   | true=>exact hmem'.onim k b o (hmo k b hn hk) hh
   | false=>
    rcases hib b o hh with h1 | h1 | h1
    ·exact hmem.onim k b o hk h1
    ·have:=hmem.olt k b hk;omega
    ·exact hRBo b k h1 hk
  oinj:=hmem.oinj
  oblk:=hmem.oblk
  orow:=fun k g Rw b hk hg ho=>by
   rcases h2r hg with⟨_,hg⟩ | ⟨hn,hg⟩
   ·rcases hrown g Rw b hg ho with h1 | h1
    ·have:=hmem.olt k b hk;omega
    ·exact hRBo b k h1 hk
   ·exact hmem.orow k g Rw b hk hg ho
  dis:=hmem.dis
  k0:=hmem.k0.trans (hki.weaken hmem.im0)
  rown:=fun g Rw b hg ho=>by
   rcases h2r hg with⟨_,hg⟩ | ⟨hn,hg⟩
   ·rcases hrown g Rw b hg ho with h1 | h1
    ·exact .inl (Nat.le_trans hmem.off.size h1)
    ·exact hRBw b h1
   ·exact hmem.rown g Rw b hg ho
  m0r:=hmem.m0r_le hle }
 have hg0:∀ k,get (dropT R σ) k=if touches R k then none else get σ k:=fun k=>by
  unfold dropT
  rw[get_filter (fun k=>!touches R k)]
  cases touches R k <;> rfl
 let keep:Key→Bool:=fun k=>match k with | .r g=>!rowN R g | _=>true
 have hg1:∀ k,get ((dropT R σ).filter fun p=>keep p.1) k=if keep k then get (dropT R σ) k else none:=fun k=>get_filter keep _ k
 have hst1:St cx Fr m2 Im' w' a ((dropT R σ).filter fun p=>keep p.1):=by
  refine⟨hmem2,hs0.df,hs0.nt,fun x d hx=>?_,fun k off d hx=>?_,fun g d hx=>?_,fun d hx=>?_,fun k d hx=>?_⟩
  ·rw[hg1,if_pos rfl,hg0] at hx;simp only[touches] at hx;exact hmono (hs0.tm x d hx)
  ·rw[hg1,if_pos rfl,hg0] at hx
   by_cases ht:touches R (.c k off)=true
   ·rw[if_pos ht] at hx;cases hx
   ·rw[if_neg ht] at hx
    obtain⟨b,u,q1,q2,q3⟩:=hs0.ce k off d hx
    refine⟨b,u,q1,?_,hmono q3⟩
    refine(World.cell?_of_block (a:=⟨b,off,none⟩) (hsame b (ltOfCell q2) (fun hb=>?_) fun hb=>hRBb b k hb q1)).trans q2
    rcases hb with⟨k',off',d',hm,hb⟩ | ⟨X,J,hm,hb⟩ | ⟨k',d',hm,hb⟩
    ·have:=hmem.inj k k' b q1 hb
     subst this
     exact ht (by simp only[touches,List.any_eq_true];exact⟨_,hm,by simp⟩)
    ·exact absurd hm (hnoj X J)
    ·exact hmem.oblk k' k b hb q1
  ·rw[hg1] at hx
   cases hn:rowN R g with
   | true=>simp[keep,hn] at hx
   | false=>
    rw[if_pos (by simp[keep,hn]),hg0] at hx;simp only[touches] at hx
    obtain⟨Rw,q1,q2⟩:=hs0.ro g d hx
    exact⟨Rw,by simp[m2,hn,q1],q2.mono (fun b hb=>hsame b (hmem.rlt q1 hb) (fun ht=>hTr b g Rw ht q1 hb) fun ht=>by rw[hRBr b g Rw ht q1 hb] at hn;cases hn) hle hki hi fun b o hb hh=>(hib b o hh).elim id fun h2=>h2.elim (fun h2=>absurd (hmem.rlt q1 hb) (Nat.not_lt.2 h2)) fun ht=>by rw[hRBr b g Rw ht q1 hb] at hn;cases hn⟩
  ·rw[hg1,if_pos rfl,hg0] at hx
   have ht:touches R .j=false:=by
    cases ht:touches R .j with
    | false=>rfl
    | true=>
     simp only[touches,List.any_eq_true] at ht
     obtain⟨⟨k,d'⟩,hp,hj⟩:=ht
     cases k <;> simp[isJ] at hj
     have:=(w2 _ hp).2;cases this
   rw[ht] at hx
   obtain⟨X,J,e,hX⟩:=hs0.jk d hx
   have hRX:∀ b,X b→¬ RB b:=fun b hb ⟨g2,R2,q1,q2,q3⟩=>hX.row b g2 R2 hb q2 q3
   have hxs:∀ b,X b→w'.heap[b]?=w.heap[b]?:=fun b hb=>hsame b (hX.lt b hb) (fun ht=>hTX b X J ht hX hb) (hRX b hb)
   refine⟨X,J,e,hX.stable _ hoff.size hxs,fun w2 hs2 hx2=>hX.stable w2 (Nat.le_trans hoff.size hs2) fun b hb=>(hx2 b hb).trans (hxs b hb),fun b hb=>Nat.lt_of_lt_of_le (hX.lt b hb) hoff.size,hX.own,fun b o hb hh=>?_,hX.blk,fun b g Rw hb hg ho=>?_,hX.obj⟩
   ·rcases hib b o hh with h1 | h1 | h1
    ·exact hX.nim b o hb h1
    ·have:=hX.lt b hb;omega
    ·exact hRX b hb h1
   ·rcases h2r hg with⟨_,hg⟩ | ⟨hn,hg⟩
    ·rcases hrown g Rw b hg ho with h1 | h1
     ·have:=hX.lt b hb;omega
     ·exact hRX b hb h1
    ·exact hX.row b g Rw hb hg ho
  ·rw[hg1,if_pos rfl,hg0] at hx
   by_cases ht:touches R (.o k)=true
   ·rw[if_pos ht] at hx;cases hx
   ·rw[if_neg ht] at hx
    obtain⟨b,q1,q2⟩:=hs0.ok k d hx
    refine⟨b,q1,q2.mono (hsame b (hmem.olt k b q1) (fun hT=>?_) fun hb=>hRBo b k hb q1) hle hki hi⟩
    rcases hT with⟨k',off',d',hm,hb'⟩ | ⟨X',J',hm,hb'⟩ | ⟨k',d',hm,hb'⟩
    ·exact hmem.oblk k k' b q1 hb'
    ·exact hnoj X' J' hm
    ·have:=hmem.oinj k k' b q1 hb'
     subst this
     exact ht (by simp only[touches,List.any_eq_true];exact⟨_,hm,by simp⟩)
 have hW:Holds cx m2 Im' w' W:=fun p hp=>by
  have hok:=w3 p hp
  have hg:=hq4 p hp
  obtain⟨key,d⟩:=p
  cases key with
  | c k off=>
   have hk:inN R k=true:=hok.2
   rcases hg with hg | ⟨d',hg,e,_⟩
   ·obtain⟨b,x,q1,q2,q3⟩:=hs.ce k off d hg
    exact⟨b,x,hm' k b hk q1,q2,hrel q3 hok.1⟩
   ·obtain⟨b,x,q1,q2,q3⟩:=hs.ce k off d' hg
    exact⟨b,x,hm' k b hk q1,q2,hrel (e _ _ _ _ q3) hok.1⟩
  | o k=>
   have hk:inN R k=true:=hok.2
   rcases hg with hg | ⟨d',hg,e,hf⟩
   ·obtain⟨b,q1,q2⟩:=hs.ok k d hg
    exact⟨b,hmo' k b hk q1,(q2.cut hok.1).mono rfl hcutle (KeepI.refl _ _) fun _ _ h=>h⟩
   ·exact hf.elim
  | r g=>
   have hk:rowN R g=true:=hok.2
   rcases hg with hg | ⟨d',hg,e,hf⟩
   ·obtain⟨Rw,q1,q2⟩:=hs.ro g d hg
    exact⟨Rw,by simp[m2,hk,q1],(q2.cut hok.1).mono (fun _ _=>rfl) hcutle (KeepI.refl _ _) (fun _ _ h=>h) fun _ _ _ h=>h⟩
   ·exact hf.elim
  | j=>cases hok.2
  | t x=>cases hok.2
 have hst2:=(hst1.putHolds hW).sub (σ':=puts (dropT R σ) W) fun k d hk=>by
  by_cases hW:∃ p∈W,p.1=k
  ·rw[←hk];exact get_puts_in W _ _ k hW
  ·have hW':∀ p∈W,p.1≠k:=fun p hp e=>hW ⟨p,hp,e⟩
   rw[get_puts_not W _ _ hW'] at hk ⊢
   rw[hg1,if_pos]
   ·exact hk
   ·cases k with
    | r g=>
     show (!rowN R g)=true
     cases hn:rowN R g with
     | false=>rfl
     | true=>
      have:=(w6 g (by unfold rowN at hn;rwa [List.contains_iff_mem] at hn)).2
      simp only[List.any_eq_true] at this
      obtain⟨p,hp,e⟩:=this
      exact absurd (Key.eq_iff.1 e) (hW' p hp)
    | _=>rfl
 exact⟨m2,hst2⟩
/-! an iterator that only reads -/
def SeqX {α:Type}(F:Fence)(n:Nat)(P:Program)(g:Nat)(lb:Array Value)(encs:Nat→α→Array Value)(R:Nat→α→World→Prop)(Rd:World→Prop)(N:Nat):Prop:=
 ∀ (l:Nat) (J:Nat→World→Prop) (W:World),(∀ k V,J k V→Rd V) →
  (∀ k x V,J k V→R k x V→k<N→YieldAt F (n-1) P l (encs k x) V fun e V'=>e=.returned (.bool true)∧J (k+1) V') →
  J 0 W→CallsIn F n P g (#[.func (.yield l) #[] #[]]++lb) W fun e W'=>(∃ v,e=.returned v)∧J N W'
theorem range_X {F:Fence}{n:Nat}{P:Program}{α:Type}{g:Operand}{ps:Array Tmp}{assign body:Code}{Q:Exit→Act→World→Prop}{a:Act}{w:World} 
  (hro:F.round=none) (hn:1≤n) {gf:Nat} {lb:Array Value} (hg:a.eval g=.func (.func gf) #[] lb) (hF:F.fn gf) (eg:∀ args w,(callFunc gf args).run P w=.ok (.enter gf args) w)
  {encs:Nat→α→Array Value} {R:Nat→α→World→Prop} {Rd:World→Prop} {N:Nat} (hseq:SeqX F (n-1) P gf lb encs R Rd N) (hps:∀ k x,(encs k x).size=ps.size)
  (I:Nat→World→Prop) (hRd:∀ k W,I k W→Rd W) (hI:Mild (fun o:Obj=>o.isCells=false) w.heap.size I) (h0:I 0 w) (Ra:Nat→α→Act→World→Prop)
  (hRa:∀ k x a' W l (o o':Obj),w.heap.size≤l→W.heap[l]?=some o→o.isCells=false→Ra k x a' W→Ra k x a' (W.putObj l o'))
  (hassign:∀ (l D k:Nat) (x:α) (W:World) (o o2:Obj) (K:Act→World→Prop),w.heap.size≤l→w.heap.size≤D→W.heap[l]?=some o→o.isCells=false→W.heap[D]?=some o2→o2.isCells=false→I k W→R k x W→k<N →
   (∀ a' W',W'.heap[l]?=some o→W'.heap[D]?=some o2→Ra k x a' W'→K a' W') →
   assign.wpIn (F.inRound l) (n-1-1) P (Exit.then K (fun _ _ _=>False)) { tmps:=(ps.zip (encs k x)).foldl (fun t (p,v)=>t.setIfInBounds p v) a.tmps,defers:=[] } W)
  (hbody:∀ (l D k:Nat) (x:α) (a':Act) (W:World) (o o2:Obj),w.heap.size≤l→w.heap.size≤D→W.heap[l]?=some o→o.isCells=false→W.heap[D]?=some o2→o2.isCells=false→k<N→Ra k x a' W →
   body.wpIn (F.inRound l) (n-1-1) P (fun e _ W'=>e=.normal∧W'.heap[l]?=some o∧W'.heap[D]?=some o2∧I (k+1) W') a' W)
  (hdone:∀ (D:Nat) (W:World),w.heap.size≤D→I N W→W.heap[D]?=some (.deferred (some []))→Q .normal { a with defers:={ target:=.collected D,args:=#[] } :: a.defers } W) :
  (Code.rangeFunc g ps assign body).wpIn F n P Q a w:=by
 refine wpIn_rangeFunc fun fn hfn=>?_
 rw[hro]
 let L:LoopState→Option Code→Obj:=fun st pe=>.loop { state:=st,pending:=pe,fn,tmps:=a.tmps,params:=ps,assign,body,defers:=w.heap.size }
 let D:Obj:=.deferred (some [])
 obtain⟨W1,hW1⟩:∃ W1,(w.alloc D).alloc (L .ready none)=W1:=⟨_,rfl⟩
 have hz:W1.heap.size=w.heap.size+2:=by rw[←hW1];simp
 have hL:W1.heap[w.heap.size+1]?=some (L .ready none):=by rw[←hW1];have h:=World.alloc_heap_new (w.alloc D) (L .ready none);rwa [World.size_alloc] at h
 have hD:W1.heap[w.heap.size]?=some D:=by rw[←hW1];exact(Below.heap_alloc _ _ _ (by simp)).trans (World.alloc_heap_new w D)
 refine⟨w.heap.size+1,[{ target:=.collected w.heap.size,args:=#[] }],W1,{ target:=.fn (.func gf) lb,args:=#[.func (.yield (w.heap.size+1)) #[] #[]] },W1,gf,
  #[.func (.yield (w.heap.size+1)) #[] #[]]++lb,W1,by rw[←hW1];exact run_enterLoop_outer _ _ _ _ _,by simp only[resolve,hg];simp[go_sem],?_,by simp[invoke,go_sem,eg],fun _=>hn,?_⟩
 ·intro f' hf';simp[Target.leads] at hf';subst hf';exact hF
 refine(hseq (w.heap.size+1) (fun k W=>I k W∧W.heap[w.heap.size+1]?=some (L .ready none)∧W.heap[w.heap.size]?=some D) W1 (fun k V h=>hRd k V h.1) ?_
  ⟨by rw[←hW1];exact hI.alloc (hI.alloc h0 _) _,hL,hD⟩).mono ?_
 ·rintro k x V0 ⟨hi0,hl0,hd0⟩ hR0 hlt0
  refine⟨fn,_,assign,body,run_yield (P:=P) (args:=encs k x) hl0 (hps k x),roundIn_of_wpIn hfn (hassign (w.heap.size+1) w.heap.size k x V0 _ _ _ (by omega) (Nat.le_refl _) hl0 rfl hd0 rfl hi0 hR0 hlt0 fun a' V hl hd hra=>?_)⟩
  have hlt:w.heap.size+1<V.heap.size:=(Array.getElem?_eq_some_iff.1 hl).1
  refine⟨_,run_beginRound hl rfl,?_⟩
  obtain⟨V2,hV2⟩:∃ V2,V.putObj (w.heap.size+1) (L .busy none)=V2:=⟨_,rfl⟩
  have hl2:V2.heap[w.heap.size+1]?=some (L .busy none):=by rw[←hV2];exact World.putObj_heap_same hlt
  have hd2:V2.heap[w.heap.size]?=some D:=by rw[←hV2];exact(World.putObj_heap_other (by omega)).trans hd
  have hra2:Ra k x a' V2:=by rw[←hV2];exact hRa _ _ _ _ _ _ _ (by omega) hl rfl hra
  show Code.wpIn _ _ _ _ _ _ (V.putObj (w.heap.size+1) (L .busy none))
  rw[hV2]
  clear hV2 hl hd hlt
  refine wpIn_mono (hbody _ w.heap.size k x a' V2 _ _ (by omega) (Nat.le_refl _) hl2 rfl hd2 rfl hlt0 hra2) ?_
  rintro e a3 V3 ⟨rfl,h1,h2,hi⟩
  exact⟨_,_,run_endRound (P:=P) none h1,rfl,hI.put (fun o h=>h) hi _ h1 rfl (by omega),World.putObj_heap_same (Array.getElem?_eq_some_iff.1 h1).1,(World.putObj_heap_other (by omega)).trans h2⟩
 ·rintro e W2 ⟨⟨v,rfl⟩,hi,hl,hd⟩
  exact⟨none,_,run_endLoop (P:=P) hl (by simp),hdone _ _ (Nat.le_refl _) (hI.put (fun o h=>h) hi _ hl rfl (by omega)) ((World.putObj_heap_other (by omega)).trans hd)⟩
/-! code walked within a fence -/
def DWI (P:Program)(F:Fence)(n:Nat)(cx:Cx)(c:Code)(σ:List (Key×D))(N:Nat)(Q:Exit→List (Key×D)→Nat→Prop):Prop:=
 ∀ m Im w a,St cx (fun k=>N≤k) m Im w a σ→c.wpIn F n P (fun e a' w'=>∃ σ' N' m' Im',Q e σ' N'∧St cx (fun k=>N'≤k) m' Im' w' a' σ') a w
section
variable {P:Program} {F:Fence} {n:Nat} {T:List (Nat×TI)} {cx:Cx} {m m':Mp} {Im Im':Nat→Nat→Prop} {w w':World} {a:Act} {σ σ' τ:List (Key×D)} {N N':Nat} {Q:Exit→List (Key×D)→Nat→Prop}
theorem DWI.vs {c:Code}(hv:VS cx σ N τ N')(h:DWI P F n cx c τ N' Q):DWI P F n cx c σ N Q:=fun m Im w a hs=>by
 obtain⟨m',h'⟩:=hv m Im w a hs
 exact h m' Im w a h'
theorem dwi_seq {x y:Code}(h:DWI P F n cx x σ N (thenQ (fun σ' N'=>DWI P F n cx y σ' N' Q) Q)):DWI P F n cx (.seq x y) σ N Q:=fun m Im w a hs=>
 wpIn_seq (wpIn_mono (h m Im w a hs) fun e a' w' ⟨σ',N',m',Im',h1,h2⟩=>by
  cases e with
  | normal=>exact h1 m' Im' w' a' h2
  | _=>exact⟨σ',N',m',Im',h1,h2⟩)
theorem dwi_block {id:Nat}{c:Code}(h:DWI P F n cx c σ N (blockQ id Q)):DWI P F n cx (.block id c) σ N Q:=fun m Im w a hs=>
 wpIn_block (wpIn_mono (h m Im w a hs) fun e a' w' ⟨σ',N',m',Im',h1,h2⟩=>by
  cases e with
  | exit id'=>
   simp only[blockQ] at h1
   show if id'=id then _ else _
   split
   ·rename_i e;rw[if_pos e] at h1;exact⟨σ',N',m',Im',h1,h2⟩
   ·rename_i e;rw[if_neg e] at h1;exact⟨σ',N',m',Im',h1,h2⟩
  | _=>exact⟨σ',N',m',Im',h1,h2⟩)
theorem DWI.run {c:Code}{Q0:Exit→Act→World→Prop}(h:DWI P F n cx c σ N Q)(hs:St cx (fun k=>N≤k) m Im w a σ)(hq:∀ e a' w' σ' N' m' Im',Q e σ' N'→St cx (fun k=>N'≤k) m' Im' w' a' σ'→Q0 e a' w'):c.wpIn F n P Q0 a w:=
 wpIn_mono (h m Im w a hs) fun e a' w' ⟨σ',N',m',Im',h1,h2⟩=>hq e a' w' σ' N' m' Im' h1 h2
theorem wpOps_in (hw:WideF F){ops:Array Oper}(hnd:noDefer ops=true){Q:Exit→Act→World→Prop}:∀ (is:List Nat) (a:Act) (w:World),wpOps P ops (OnlyN Q) is a w→wpOpsIn F n P ops Q is a w
 | [],_,_,h=>h
 | i :: is,a,w,h=>by
  rw[wpOps_cons] at h
  rw[wpOpsIn_cons]
  exact wpOpIn_mono (fun a w hh=>wpOps_in hw hnd is a w hh) (wpOp_in hw hnd h)
theorem wpIn_regionD (hw:WideF F)(hT:TabOk P T)(hm:P.follows .mixedOrders=true){id:Nat}{ops:Array Oper}(hnd:noDefer ops=true){draw:Bool}{N:Nat}{Q:Exit→Act→World→Prop}(hd:ops.all (fun o=>match o.dst with | none=>true | some d=>decide (d<cx.nt))=true) 
  {K:List (Key×D)→Prop} (hK:∀ m Im w a σ',K σ'→St cx (fun k=>N+ops.size≤k) m Im w a σ'→Q .normal a w)
  (h:DRg P T ops N ops.toList 0 σ [] (fun σ' lg=>(draw=true→chkB ops lg=true)∧K σ')) (hst:St cx (fun k=>N≤k) m Im w a σ):(Code.region id ops draw).wpIn F n P Q a w:=by
 have hdst:∀ o∈ops.toList,∀ d,o.dst=some d→d<cx.nt:=fun o ho d e=>by
  have:=(Array.all_eq_true'.1 hd) o (by simpa using ho)
  rw[e] at this;simpa using this
 obtain⟨ss,es,l1,l2,g1,g2,g3,g4,g5⟩:=drg_steps (cx:=cx) (Q:=OnlyN Q) hT ops.toList 0 σ [] hdst h
 have hl1:ss.length=ops.size:=by simpa using l1
 have hl2:es.length=ops.size:=by simpa using l2
 have hop:∀ i (h:i<ops.size),OpT P cx ops (OnlyN Q) ops[i] (N+i) (ss.getD i default):=fun i hi=>by
  have:=g1 i (by simpa using hi) (by omega)
  rw[Nat.zero_add] at this
  rw[List.getD_eq_getElem?_getD,List.getElem?_eq_getElem (by omega)]
  simpa using this
 have hR:∀ i,i<ops.size→∀ p∈(ss.getD i default).Rv,get (canL (fun i=>ss.getD i default) σ all' i) p.1=some p.2:=fun i hi p hp=>by
  rw[canL_fold ss σ i (by omega)]
  rw[List.getD_eq_getElem?_getD,List.getElem?_eq_getElem (by omega)] at hp
  exact g3 i (by omega) p hp
 have hfin:∀ m Im w a,St cx (fun k=>N≤k∧N+ops.size≤k) m Im w a (canL (fun i=>ss.getD i default) σ all' ops.size)→OnlyN Q .normal a w:=fun m Im w a h=>by
  rw[canL_fold ss σ _ (by omega),List.take_of_length_le (by omega)] at h
  exact hK m Im w a _ g5 (h.less fun k hk=>⟨by omega,hk⟩)
 cases draw with
 | false=>
  refine wpIn_region (wpOps_in hw hnd _ _ _ ?_)
  rw[List.range_eq_range']
  refine region_seq hop hR (fun k hk=>hk) hfin ops.size 0 (m:=m) (Im:=Im) (by omega) ?_
  exact hst.less fun k hk=>hk.1
 | true=>
  have hchk:=g4 rfl
  simp only[chkB,List.append_nil,List.reverse_reverse,Bool.and_eq_true] at hchk
  obtain⟨hidx,hpairs⟩:=hchk
  refine wpIn_region_any hm (wpAny_in hw hnd _ _ _ _ ?_)
  have hst':St cx (fun k=>N≤k) m Im w.drew a σ:=hst.below0 (Below.refl _ _).drew
  refine region_any hop hR (fun i j hij hj=>?_) (fun j i he=>idxOk_edg ops.toList 0 (fun j _=>by simp) hidx j i (Nat.zero_le _) he) (fun k hk=>hk) hfin hst'
  simp only[pairsB,List.all_eq_true,List.mem_range] at hpairs
  have:=hpairs j (by omega) i hij
  rw[Bool.or_eq_true] at this
  rcases this with h1 | h1
  ·exact .inl (masks_anc ops.toList [] (fun j _=>by simp) (fun j i hb=>by simp at hb) j i h1)
  ·right
   have hi:i<es.length:=by omega
   have hj':j<es.length:=by omega
   rw[List.getElem?_eq_getElem hi,List.getElem?_eq_getElem hj'] at h1
   rw[List.getD_eq_getElem?_getD,List.getElem?_eq_getElem (by omega),List.getD_eq_getElem?_getD,List.getElem?_eq_getElem (by omega)]
   exact cf_of (g2 i (by omega) hi) (g2 j (by omega) hj') h1
theorem dwi_region (hw:WideF F)(hT:TabOk P T)(hm:P.follows .mixedOrders=true){id:Nat}{ops:Array Oper}{draw:Bool}(hnd:noDefer ops=true)(hd:ops.all (fun o=>match o.dst with | none=>true | some d=>decide (d<cx.nt))=true) 
  (h:DRg P T ops N ops.toList 0 σ [] (fun σ' lg=>(draw=true→chkB ops lg=true)∧Q .normal σ' (N+ops.size))):DWI P F n cx (.region id ops draw) σ N Q:=fun m Im w a hs=>
 wpIn_regionD hw hT hm hnd hd (K:=fun σ'=>Q .normal σ' (N+ops.size)) (fun m' Im' w' a' σ' hq hs'=>⟨σ',N+ops.size,m',Im',hq,hs'⟩) h hs
theorem dwik (hw:WideF F){nt N1:Nat}(ov:List (Nat×D))(hT:TabOk P T)(hnt:cx.nt=nt){id:Nat}{ops:Array Oper}(h:∀ K:Env→List Ent→Prop,(∀ σ' lg,Q .normal σ' N1→K σ' lg)→DRk P T ops N false ov ops.toList 0 σ [] K)(hm:P.follows .mixedOrders=true:=by kernel_rfl)(hnd:noDefer ops=true:=by kernel_rfl)(hd:dstOk nt ops=true:=by kernel_rfl)(hN:N+ops.size=N1:=by simp only[List.size_toArray,List.length_cons,List.length_nil,Nat.reduceAdd];rfl):DWI P F n cx (.region id ops false) σ N Q:=
 dwi_region hw hT hm hnd (by rw[hnt];exact hd) (drk_drg (K:=fun σ' _=>Q .normal σ' N1) (fun σ' lg lg' _ hk=>⟨fun e=>(by cases e),hN ▸ hk⟩) _ _ _ _ _ (fun e=>by cases e) (h _ fun _ _ h=>h))
/-! stores that soft objects do not touch -/
def plainKey:Key→Bool
 | .t _=>true
 | .c _ _=>true
 | .r _=>true
 | _=>false
theorem St.soft {Fr:Nat→Prop}{row:Option Nat}{B:Nat}(h:St cx Fr m Im w a σ)(hσ:σ.all (fun p=>plainKey p.1)=true)(hB:cx.w0.heap.size≤B)(hm:∀ k b,m.blk k=some b→row≠some b)(hg:w.grownBy w' row)(hr:∀ r,row=some r→B≤r∧∃ o:Obj,w.heap[r]?=some o∧o.isCells=false):St cx Fr m Im w' a σ:=by
 have hr':∀ r,row=some r→∃ o:Obj,w.heap[r]?=some o∧o.isCells=false:=fun r e=>(hr r e).2
 have hcell:∀ {p:Addr} {v:Value},w.cell? p=some v→w'.cell? p=some v:=fun hv=>cell_kept hv hg hr'
 have hki:KeepI Im w w':=fun b o v _ hv=>hcell hv
 have hrow:∀ {R:RowM} {xs:List Value},w.ownsRow 0 R.E R.n R.hv R.len xs→∀ b,R.hv.ownBlock=some b→w'.heap[b]?=w.heap[b]?:=fun {R xs} hx b hb=>by
  rcases hx.2 with⟨h0,_⟩ | ⟨g',cap,cur,e,h1,h2,h3⟩
  ·rw[h0] at hb;cases hb
  ·rw[e] at hb;cases hb
   refine hg.block _ (Array.getElem?_eq_some_iff.1 h2).1 fun e2=>?_
   obtain⟨o,ho,hc⟩:=hr' _ e2.symm
   rw[h2] at ho;cases ho;cases hc
 have hno:∀ k d,get σ k=some d→plainKey k=true:=fun k d hk=>List.all_eq_true.1 hσ _ (mem_of_get hk)
 refine⟨{ h.mem with
  off:=⟨hg.os.trans h.mem.off.os,hg.tape.trans h.mem.off.tape,hg.output.trans h.mem.off.output,Nat.le_trans h.mem.off.size hg.size,fun b hb hC=>(hg.block b (Nat.lt_of_lt_of_le hb h.mem.off.size) fun e=>?_).trans (h.mem.off.block b hb hC)⟩
  im:=fun b o hi=>?_
  lt:=fun k b hk=>Nat.lt_of_lt_of_le (h.mem.lt k b hk) hg.size
  free:=fun k b o hk=>(World.frozen?_of_block (a:=⟨b,o,none⟩) (hg.block b (h.mem.lt k b hk) fun e=>?_)).trans (h.mem.free k b o hk)
  row:=fun g R hR=>?_
  olt:=fun k b hk=>Nat.lt_of_lt_of_le (h.mem.olt k b hk) hg.size
  k0:=h.mem.k0.trans (hki.weaken h.mem.im0) },h.df,h.nt,fun x d hx=>(h.tm x d hx).mono (Mp.le.refl _) hki (fun _ _ h=>h),fun k off d hx=>?_,fun g d hx=>?_,fun d hx=>?_,fun k d hx=>?_⟩
 ·have:=(hr b e.symm).1;omega
 ·obtain⟨v,hv⟩:=h.mem.im b o hi
  exact⟨v,hcell hv⟩
 ·exact hm k b hk e.symm
 ·obtain⟨xs,hx⟩:=h.mem.row g R hR
  exact⟨xs,ownsRow_same hx (hrow hx)⟩
 ·obtain⟨b,v,q1,q2,q3⟩:=h.ce k off d hx
  exact⟨b,v,q1,hcell q2,q3.mono (Mp.le.refl _) hki (fun _ _ h=>h)⟩
 ·obtain⟨R,q1,q2⟩:=h.ro g d hx
  obtain⟨xs,hxs⟩:=h.mem.row g R q1
  exact⟨R,q1,q2.mono (hrow hxs) (Mp.le.refl _) hki (fun _ _ h=>h) fun _ _ _ h=>h⟩
 ·have:=hno _ _ hx;cases this
 ·have:=hno _ _ hx;cases this
theorem MemOk.cutFG {Fr:Nat→Prop}(h:MemOk cx Fr m Im w){f g:Nat→Bool}(hb:∀ k b,cx.m0.blk k=some b→f k=true)(ho:∀ k b,cx.m0.obj k=some b→f k=true)(hr:∀ k R,cx.m0.row k=some R→g k=true):MemOk cx Fr (m.cut f g) Im w where
 off:=h.off
 im:=h.im
 imb:=h.imb
 im0:=h.im0
 own k b hk:=h.own k b (Mp.cut_blk hk).2
 lt k b hk:=h.lt k b (Mp.cut_blk hk).2
 free k b o hk:=h.free k b o (Mp.cut_blk hk).2
 nim k b o hk:=h.nim k b o (Mp.cut_blk hk).2
 inj k k' b hk hk':=h.inj k k' b (Mp.cut_blk hk).2 (Mp.cut_blk hk').2
 row g R hg:=h.row g R (Mp.cut_row hg).2
 k0:=h.k0
 rown g R b hg:=h.rown g R b (Mp.cut_row hg).2
 m0r x R hg:=by
  obtain⟨R',q1,q2⟩:=h.m0r x R hg
  exact⟨R',by simp[Mp.cut,hr x R hg,q1],q2⟩
 rIm g R b o hg:=h.rIm g R b o (Mp.cut_row hg).2
 rblk g R b k hg hb hk:=h.rblk g R b k (Mp.cut_row hg).2 hb (Mp.cut_blk hk).2
 rinj g g' R R' b hg hg':=h.rinj g g' R R' b (Mp.cut_row hg).2 (Mp.cut_row hg').2
 fr k hk:=by
  obtain⟨q1,q2,q3⟩:=h.fr k hk
  simp[Mp.cut,q1,q2,q3]
 m0o k b hk:=by simp[Mp.cut,ho k b hk,h.m0o k b hk]
 oown k b hk:=h.oown k b (Mp.cut_obj hk).2
 olt k b hk:=h.olt k b (Mp.cut_obj hk).2
 onim k b o hk:=h.onim k b o (Mp.cut_obj hk).2
 oinj k k' b hk hk':=h.oinj k k' b (Mp.cut_obj hk).2 (Mp.cut_obj hk').2
 oblk k k' b hk hk':=h.oblk k k' b (Mp.cut_obj hk).2 (Mp.cut_blk hk').2
 orow k g R b hk hg:=h.orow k g R b (Mp.cut_obj hk).2 (Mp.cut_row hg).2
 dis k b hk:=by
  have:=h.dis k b (Mp.cut_blk hk).2
  show (if _ then m.obj k else none)=none
  rw[this];simp
 m0 k b hk:=by simp[Mp.cut,hb k b hk,h.m0 k b hk]
def okN (σ:List (Key×D)):Bool:=σ.all fun p=>p.2.ok (inN σ) (rowN σ)&&plainKey p.1
theorem St.only {Fr:Nat→Prop}(h:St cx Fr m Im w a σ)(hσ:okN σ=true)(hb:∀ k b,cx.m0.blk k=some b→inN σ k=true)(ho:∀ k b,cx.m0.obj k=some b→inN σ k=true)(hr:∀ k R,cx.m0.row k=some R→rowN σ k=true):St cx Fr (m.cut (inN σ) (rowN σ)) Im w a σ:=by
 have hok:∀ k d,get σ k=some d→d.ok (inN σ) (rowN σ)=true∧plainKey k=true:=fun k d hk=>by
  have:=List.all_eq_true.1 hσ _ (mem_of_get hk)
  simpa using this
 refine⟨h.mem.cutFG hb ho hr,h.df,h.nt,fun x d hx=>(h.tm x d hx).cut (hok _ _ hx).1,fun k off d hx=>?_,fun g d hx=>?_,fun d hx=>?_,fun k d hx=>?_⟩
 ·obtain⟨b,v,q1,q2,q3⟩:=h.ce k off d hx
  exact⟨b,v,by simp only[Mp.cut,mem_rnames (mem_of_get hx),if_true];exact q1,q2,q3.cut (hok _ _ hx).1⟩
 ·obtain⟨R,q1,q2⟩:=h.ro g d hx
  exact⟨R,by simp only[Mp.cut,mem_rowsR (mem_of_get hx),if_true];exact q1,q2.cut (hok _ _ hx).1⟩
 ·have:=(hok _ _ hx).2;cases this
 ·have:=(hok _ _ hx).2;cases this
theorem St.cells {Fr:Nat→Prop}(h:St cx Fr m Im w a σ)(hσ:okN σ=true)(hn:∀ k b,m.blk k=some b→inN σ k=true){k b:Nat}(hk:m.blk k=some b){o:Obj}(ho:w.heap[b]?=some o):o.isCells=true:=by
 rcases of_rnames (hn k b hk) with⟨off,d,hm⟩ | ⟨d,hm⟩
 ·have:∃ d',get σ (.c k off)=some d':=by
   clear hσ hn h
   induction σ with
   | nil=>cases hm
   | cons p σ ih=>
    obtain⟨k',d'⟩:=p
    rw[get]
    split
    ·exact⟨d',rfl⟩
    ·rename_i hne
     rcases List.mem_cons.1 hm with e | hm
     ·cases e;exact absurd (Key.eq_refl _) hne
     ·exact ih hm
  obtain⟨d',hd'⟩:=this
  obtain⟨b',v,q1,q2,_⟩:=h.ce k off d' hd'
  rw[hk] at q1;cases q1
  obtain⟨o',h1,h2⟩:=cells_of_cell q2
  rw[ho] at h1;cases h1;exact h2
 ·have:=List.all_eq_true.1 hσ _ hm
  simp[plainKey] at this
theorem St.reslot {Fr:Nat→Prop}{a2:Act}(h:St cx Fr m Im w a σ)(hd:a2.defers=[])(hn:a2.tmps.size=cx.nt)(ht:∀ x d,get τ (.t x)=some d→Rel cx.m0 cx.Im0 cx.w0 (a2.tmps.getD x undef) d)(hc:∀ k d,get τ k=some d→(match k with | .t _=>True | _=>get σ k=some d)):St cx Fr m Im w a2 τ where
 mem:=h.mem
 df:=hd
 nt:=hn
 tm x d hx:=(ht x d hx).mono ⟨h.mem.m0,h.mem.m0r,h.mem.m0o⟩ h.mem.k0 h.mem.im0
 ce k off d hx:=h.ce k off d (hc _ _ hx)
 ro g d hx:=h.ro g d (hc _ _ hx)
 jk d hx:=h.jk d (hc _ _ hx)
 ok k d hx:=h.ok k d (hc _ _ hx)
theorem St.hold {Fr:Nat→Prop}(h:St cx Fr m Im w a σ)(hσ:okN σ=true)(hn:∀ k b,m.blk k=some b→inN σ k=true)(hno:∀ k b,m.obj k=some b→False)(X:Nat→Prop)(J:World→Prop)(hX:∀ b,X b→cx.w0.heap.size≤b∧∃ o:Obj,w.heap[b]?=some o∧o.isCells=false)(hJ:J w) 
  (hs:∀ w':World,(∀ b,X b→w'.heap[b]?=w.heap[b]?)→J w'):St cx Fr m Im w a (put1 .j (.j X J) σ):=by
 refine h.putj ⟨hJ,fun w' _ hb=>hs w' hb,fun b hb=>?_,fun b hb=>.inr (hX b hb).1,fun b o hb hi=>?_,fun b k hb hk=>?_,fun b g R hb hR ho=>?_,fun b k _ hk=>hno k b hk⟩
 ·obtain⟨_,o,ho,_⟩:=hX b hb
  exact(Array.getElem?_eq_some_iff.1 ho).1
 ·obtain⟨_,o2,ho,hc⟩:=hX b hb
  obtain⟨v,hv⟩:=h.mem.im b o hi
  obtain⟨o',h1,h2⟩:=cells_of_cell hv
  rw[ho] at h1;cases h1;rw[hc] at h2;cases h2
 ·obtain⟨_,o2,ho,hc⟩:=hX b hb
  have:=h.cells hσ hn hk ho
  rw[hc] at this;cases this
 ·obtain⟨_,o2,hb',hc⟩:=hX b hb
  obtain⟨xs,hx⟩:=h.mem.row g R hR
  rcases hx.2 with⟨h0,_⟩ | ⟨g',cap,cur,e,h1,h2,h3⟩
  ·rw[h0] at ho;cases ho
  ·rw[e] at ho;cases ho
   rw[h2] at hb';cases hb';cases hc
/-! code behind a loop: the frame bears a mark -/
theorem oper_defers {ds:List Deferred}{o:Oper}{K K':Act→World→Prop}{Q Q':Exit→Act→World→Prop}(hK:∀ a w,K a w→K' { a with defers:=ds } w){a:Act}{w:World}(hnd:∀ c,o.op≠.defer c)(h:o.wp P a w K (OnlyN Q))(hx:∀ d w',(execOp a.eval o).run P w≠.ok (.defer d) w'):o.wp P { a with defers:=ds } w K' (OnlyN Q'):=by
 have hp:∀ v,({ a with defers:=ds }:Act).put o.dst v={ a.put o.dst v with defers:=ds }:=fun v=>by cases o.dst <;> rfl
 unfold Oper.wp at h ⊢
 have he:({ a with defers:=ds }:Act).eval=a.eval:=by funext x;cases x <;> rfl
 rw[he]
 generalize (execOp a.eval o).run P w=r at *
 cases r with
 | ok x w'=>
  cases x <;> simp only[Oper.upon] at h ⊢
  case defer d=>exact absurd rfl (hx d w')
  all_goals
   first
    | exact h.elim
    | (rw[hp];exact hK _ _ h)
    | exact h.mono (fun e w'' he=>by cases e <;> first | (show K' _ _;rw[hp];exact hK _ _ he) | exact he.elim | (obtain⟨_,_,he⟩:=he;exact he.elim))
    | exact h.mono (fun v w'' he=>by rw[hp];exact hK _ _ he)
 | halt x w'=>cases x <;> simp only[Oper.upon] at h ⊢ <;> first | exact h.elim | exact h
end
def calmB (o:Oper):Bool:=match o.op with
 | .assign _=>true
 | .move _=>true
 | .load _ _=>true
 | _=>false
theorem calm_exec {P:Program}{o:Oper}(h:calmB o=true)(ρ:Operand→Value)(w:World)(d:Deferred)(w':World):(execOp ρ o).run P w≠.ok (.defer d) w':=by
 intro e
 unfold calmB at h
 split at h
 ·rename_i x ho;simp[execOp,ho] at e
 ·rename_i x ho;simp[execOp,ho] at e
 ·rename_i t x ho
  simp only[execOp,ho,Sem.run_bind] at e
  cases hr:(Instr.loadAt t (ρ x)).run P w with
  | ok v w2=>rw[hr] at e;simp[Result.andThen] at e
  | halt v w2=>rw[hr] at e;simp[Result.andThen] at e
 ·cases h
theorem calm_nd {o:Oper}(h:calmB o=true):∀ c,o.op≠.defer c:=fun c e=>by
 unfold calmB at h
 rw[e] at h;cases h
theorem wpOps_defers {P:Program}{ds:List Deferred}{ops:Array Oper}(hc:ops.toList.all calmB=true){Q:Exit→Act→World→Prop}:∀ (is:List Nat) (a:Act) (w:World),wpOps P ops (OnlyN fun _ a w=>Q .normal { a with defers:=ds } w) is a w→wpOps P ops (OnlyN Q) is { a with defers:=ds } w
 | [],a,w,h=>h
 | i :: is,a,w,h=>by
  rw[wpOps_cons] at h ⊢
  have ih:=wpOps_defers (P:=P) (ds:=ds) hc (Q:=Q) is
  unfold wpOp at h ⊢
  split
  ·rename_i ho;rw[ho] at h;exact ih _ _ h
  ·rename_i o ho
   rw[ho] at h
   simp only at h
   have hm:calmB o=true:=by
    rw[←Array.getElem?_toList] at ho
    exact List.all_eq_true.1 hc o (List.mem_of_getElem? ho)
   by_cases hw:Region.wanted o (yielded ops a.tmps)=true
   ·rw[if_pos hw] at h ⊢
    rcases h with h | ⟨_,_,_,h⟩
    ·exact .inl (oper_defers (K':=wpOps P ops (OnlyN Q) is) ih (calm_nd hm) h fun d w'=>calm_exec hm _ _ d w')
    ·exact h.elim
   ·rw[if_neg hw] at h ⊢
    have:=ih _ _ h
    have hp:({ a with defers:=ds }:Act).put o.dst undef={ a.put o.dst undef with defers:=ds }:=by cases o.dst <;> rfl
    rw[hp];exact this
section
variable {P:Program} {F:Fence} {n:Nat} {T:List (Nat×TI)} {cx:Cx} {m m':Mp} {Im Im':Nat→Nat→Prop} {w w':World} {a:Act} {σ σ' τ:List (Key×D)} {N N':Nat}
theorem region_defers (hw:WideF F){nt N1:Nat}{ds:List Deferred}(ov:List (Nat×D))(hT:TabOk P T)(hnt:cx.nt=nt){id:Nat}{ops:Array Oper}{Q:Exit→Act→World→Prop}{τ:List (Key×D)}(hst:St cx (fun k=>N≤k) m Im w a σ) 
  (hQ:∀ m Im w a,St cx (fun k=>N1≤k) m Im w a τ→Q .normal { a with defers:=ds } w) (h:∀ K:Env→List Ent→Prop,(∀ σ' lg,VS cx σ' N1 τ N1→K σ' lg)→DRk P T ops N false ov ops.toList 0 σ [] K)
  (hm:P.follows .mixedOrders=true:=by kernel_rfl) (hc:ops.toList.all calmB=true:=by kernel_rfl) (hd:dstOk nt ops=true:=by kernel_rfl) (hN:N+ops.size=N1:=by simp only[List.size_toArray,List.length_cons,List.length_nil,Nat.reduceAdd];rfl):(Code.region id ops false).wpIn F n P Q { a with defers:=ds } w:=by
 subst hN
 have hnd:noDefer ops=true:=by
  refine List.all_eq_true.2 fun o ho=>?_
  have:=calm_nd (List.all_eq_true.1 hc o ho)
  split
  ·rename_i c e;exact absurd e (this c)
  ·rfl
 have hdst:∀ o∈ops.toList,∀ d,o.dst=some d→d<cx.nt:=fun o ho d e=>by
  rw[hnt]
  have:=(Array.all_eq_true'.1 hd) o (by simpa using ho)
  rw[e] at this;simpa using this
 have hdrg:=drk_drg (P:=P) (T:=T) (ops:=ops) (nm:=N) (K:=fun σ' _=>VS cx σ' (N+ops.size) τ (N+ops.size)) (K2:=fun σ' _=>VS cx σ' (N+ops.size) τ (N+ops.size)) (fun σ' lg lg' _ hk=>hk) ops.toList 0 σ [] [] (fun e=>by cases e) (h _ fun _ _ h=>h)
 obtain⟨ss,es,l1,l2,g1,g2,g3,g5⟩:=drg_steps (cx:=cx) (Q:=OnlyN fun _ a w=>Q .normal { a with defers:=ds } w) hT ops.toList 0 σ [] hdst hdrg
 have hl1:ss.length=ops.size:=by simpa using l1
 have hop:∀ i (h:i<ops.size),OpT P cx ops (OnlyN fun _ a w=>Q .normal { a with defers:=ds } w) ops[i] (N+i) (ss.getD i default):=fun i hi=>by
  have:=g1 i (by simpa using hi) (by omega)
  rw[Nat.zero_add] at this
  rw[List.getD_eq_getElem?_getD,List.getElem?_eq_getElem (by omega)]
  simpa using this
 have hR:∀ i,i<ops.size→∀ p∈(ss.getD i default).Rv,get (canL (fun i=>ss.getD i default) σ all' i) p.1=some p.2:=fun i hi p hp=>by
  rw[canL_fold ss σ i (by omega)]
  rw[List.getD_eq_getElem?_getD,List.getElem?_eq_getElem (by omega)] at hp
  exact g3 i (by omega) p hp
 have hfin:∀ m Im w a,St cx (fun k=>N≤k∧N+ops.size≤k) m Im w a (canL (fun i=>ss.getD i default) σ all' ops.size)→OnlyN (fun _ a w=>Q .normal { a with defers:=ds } w) .normal a w:=fun m Im w a h=>by
  rw[canL_fold ss σ _ (by omega),List.take_of_length_le (by omega)] at h
  obtain⟨m',h'⟩:=g5 m Im w a (h.less fun k hk=>⟨by omega,hk⟩)
  exact hQ m' Im w a h'
 refine wpIn_region (wpOps_in hw hnd _ _ _ (wpOps_defers hc _ _ _ ?_))
 rw[List.range_eq_range']
 refine region_seq hop hR (fun k hk=>hk) hfin ops.size 0 (m:=m) (Im:=Im) (by omega) ?_
 exact hst.less fun k hk=>hk.1
theorem seq_run {x y:Code}{τ:List (Key×D)}{N1:Nat}{Q:Exit→Act→World→Prop}(hx:DWI P F n cx x σ N (cutQ cx τ N1))(hs:St cx (fun k=>N≤k) m Im w a σ)(hy:∀ m Im w a,St cx (fun k=>N1≤k) m Im w a τ→y.wpIn F n P Q a w):(Code.seq x y).wpIn F n P Q a w:=
 wpIn_seq (wpIn_mono (hx m Im w a hs) fun e a' w' ⟨σ',N',m',Im',h1,h2⟩=>by
  cases e with
  | normal=>
   obtain⟨m2,h3⟩:=h1 m' Im' w' a' h2
   exact hy _ _ _ _ h3
  | _=>exact h1.elim)
theorem get_of_mem:∀ {σ:List (Key×D)} {k:Key} {d:D},(k,d)∈σ→∃ d',get σ k=some d'
 | [],_,_,h=>by cases h
 | (k',d') :: σ,k,d,h=>by
  rw[get]
  split
  ·exact⟨d',rfl⟩
  ·rename_i hne
   rcases List.mem_cons.1 h with e | hm
   ·cases e;exact absurd (Key.eq_refl _) hne
   ·exact get_of_mem hm
theorem St.neat {Fr:Nat→Prop}(h:St cx Fr m Im w a σ)(hσ:okN σ=true)(hb:∀ k b,cx.m0.blk k=some b→inN σ k=true)(ho:∀ k b,cx.m0.obj k=some b→inN σ k=true)(hr:∀ k R,cx.m0.row k=some R→rowN σ k=true):
  ∃ m',(∀ k b,m'.blk k=some b→inN σ k=true)∧(∀ k b,m'.obj k=some b→False)∧St cx Fr m' Im w a σ:=by
 have h1:=h.only hσ hb ho hr
 refine⟨_,fun k b hk=>(Mp.cut_blk hk).1,fun k b hk=>?_,h1⟩
 rcases of_rnames (Mp.cut_obj hk).1 with⟨off,d,hm⟩ | ⟨d,hm⟩
 ·obtain⟨d',hd'⟩:=get_of_mem hm
  obtain⟨b',v,q1,_⟩:=h1.ce k off d' hd'
  have:=h1.mem.dis k b' q1
  rw[hk] at this;cases this
 ·have:=List.all_eq_true.1 hσ _ hm
  simp[plainKey] at this
theorem St.softN {Fr:Nat→Prop}{row:Option Nat}{B:Nat}(h:St cx Fr m Im w a σ)(hσ:okN σ=true)(hn:∀ k b,m.blk k=some b→inN σ k=true)(hB:cx.w0.heap.size≤B)(hg:w.grownBy w' row)(hr:∀ r,row=some r→B≤r∧∃ o:Obj,w.heap[r]?=some o∧o.isCells=false):St cx Fr m Im w' a σ:=by
 refine h.soft ?_ hB (fun k b hk e=>?_) hg hr
 ·refine List.all_eq_true.2 fun p hp=>?_
  have:=List.all_eq_true.1 hσ p hp
  simp only[Bool.and_eq_true] at this
  exact this.2
 ·obtain⟨_,o,ho,hc⟩:=hr b e
  have:=h.cells hσ hn hk ho
  rw[hc] at this;cases this
end
def TAUS_86:TI:=⟨4,true,[Value.int IntKind.i64 0,Value.bool false,Value.slice none 0 0,Value.slice none 0 0],[(0,1,false),(1,1,false),(2,1,false),(3,1,false)],none,64,6,none,false⟩
theorem TAUS_86_ok:TypOk Tryz.prog 86 TAUS_86:=by constructor <;> kernel_rfl
def TAUS_84:TI:=⟨1,false,[Value.slice none 0 0],[],some 110,24,5,none,false⟩
theorem TAUS_84_ok:TypOk Tryz.prog 84 TAUS_84:=by constructor <;> kernel_rfl
def TAUS_71:TI:=⟨1,false,[Value.slice none 0 0],[],some 3,24,5,none,false⟩
theorem TAUS_71_ok:TypOk Tryz.prog 71 TAUS_71:=by constructor <;> kernel_rfl
def TAUS_110:TI:=⟨5,true,[Value.int IntKind.i64 0,Value.slice none 0 0,Value.int IntKind.i64 0,Value.int IntKind.i64 0,Value.slice none 0 0],[(0,1,false),(1,4,true)],none,72,6,none,false⟩
theorem TAUS_110_ok:TypOk Tryz.prog 110 TAUS_110:=by constructor <;> kernel_rfl
def TAUS_3:TI:=⟨1,false,[Value.int IntKind.i64 0],[],none,8,2,none,false⟩
theorem TAUS_3_ok:TypOk Tryz.prog 3 TAUS_3:=by constructor <;> kernel_rfl
def TAUS_62:TI:=⟨4,true,[Value.slice none 0 0,Value.int IntKind.i64 0,Value.int IntKind.i64 0,Value.slice none 0 0],[(0,1,false),(1,2,true),(3,1,false)],none,64,6,none,false⟩
theorem TAUS_62_ok:TypOk Tryz.prog 62 TAUS_62:=by constructor <;> kernel_rfl
def TAUS_4:TI:=⟨1,false,[Value.bool false],[],none,1,1,none,false⟩
theorem TAUS_4_ok:TypOk Tryz.prog 4 TAUS_4:=by constructor <;> kernel_rfl
def TAUS:List (Nat×TI):=[(86,TAUS_86),(84,TAUS_84),(71,TAUS_71),(110,TAUS_110),(3,TAUS_3),(62,TAUS_62),(4,TAUS_4)]
theorem TAUS_ok:TabOk Tryz.prog TAUS:=((((((((TabOk.nil _).cons TAUS_4_ok).cons TAUS_62_ok).cons TAUS_3_ok).cons TAUS_110_ok).cons TAUS_71_ok).cons TAUS_84_ok).cons TAUS_86_ok)
set_option maxHeartbeats 4000000 in
theorem copied_d (x:Au.St)(hp:x.path.length≤900000)(hl:x.s.length≤100000)(hs:∀ p∈x.s,p.2.full≤900000∧p.2.Fit):PureC Tryz.prog 71 [.ag (eSt x)] (.ag (eSt x)):=by
 have hC:=clone_d x.path hp
 have hT:=fun j (h:j<x.s.length)=>copyW_d x.s[j].2 (hs _ (List.getElem_mem h)).1 (hs _ (List.getElem_mem h)).2
 simp only[eTm_eq] at hT
 obtain⟨O,hO⟩:∃ O:Nat→List (Int×Tm),∀ j,x.s.take j=O j:=⟨_,fun _=>rfl⟩
 have hO0:O 0=[]:=by rw[←hO];rfl
 have hOn:∀ j (h:j<x.s.length),O j++[x.s[j]]=O (j+1):=fun j h=>by rw[←hO,←hO,List.take_add_one,List.getElem?_eq_getElem h];rfl
 have hOl:∀ j,j≤x.s.length→(O j).length=j:=fun j h=>by rw[←hO,List.length_take];omega
 unfold eSt
 refine calldw 0 34 [ResultVar.cell 2 86] TAUS_ok Tryz.func71 rfl Tryz.ntmps71 rfl fun cx hnt hn0=>?_
 ·skip
  refine dw_seq ?_;refine dwk [] TAUS_ok hnt fun _ z9=>z9 _ _ ?_;refine dw_seq ?_;refine dwkD [] TAUS_ok hnt fun K hK=>?_;refine dcl (hC) ?_;refine hK _ _ (by kernel_rfl) ?_;clear hK K
  refine DW.vs (VS.row (k:=10) (off:=3) 110 5 rfl) ?_
  refine dw_seq ?_;refine dw_seq ?_;refine dwk [(16,.v (.int .i64 (↑x.s.length)))] TAUS_ok hnt fun K hK=>?_;refine And.intro (dintE (by rw[ePairs_len])) ?_;refine hK _ _ ?_;clear hK K;refine dw_block ?_
  refine dw_loop (ι:={ j:Nat // j≤x.s.length }) (fun j=>[(.t 2,.p 1 0),(.t 3,.p 10 0),(.t 15,.sl 5 (ePairs x.s) none),(.t 16,.v (.int .i64 ↑x.s.length)),(.t 17,.v (.int .i64 ↑j.1)),(.c 10 0,.v (.int .i64 x.eq)),(.c 10 1,.v (.bool x.back)),(.c 10 2,.sl 1 (eIs x.path) none),(.c 10 3,.sl 5 (ePairs (O j.1)) (some 12)),(.r 12,.rw 110 5 (O j.1).length),(.c 1 0,.v (.int .i64 0)),(.c 1 1,.v (.bool false)),(.c 1 2,.v (.slice none 0 0)),(.c 1 3,.v (.slice none 0 0))]) 30 (fun j=>x.s.length-j.1) (⟨0,Nat.zero_le _⟩) ((by dsimp only;rw[hO0];exact VS.toA)) fun j=>?_
  obtain⟨j,hj⟩:=j
  dsimp only
  by_cases hlt:j<x.s.length
  ·have ht:=hT j hlt
   have hsn:=ePairs_snoc (O j) x.s[j]
   rw[hOn j hlt] at hsn
   have hl1:(ePairs (O j)).length=(O j).length:=ePairs_len _
   have hl3:=hOl j hj
   have hl2:(ePairs (O (j+1))).length=(O (j+1)).length:=ePairs_len _
   refine dw_seq ?_;refine dwk [(18,.v (.bool true))] TAUS_ok hnt fun K hK=>?_;refine And.intro auT ?_;refine hK _ _ ?_;clear hK K;refine dw_seq ?_;refine dw_cond (t:=true) rfl ?_;rw[if_pos rfl];refine dw_skip ?_;refine dw_seq ?_;refine dw_block ?_;refine dw_seq ?_;refine dwk [(19,.q [.v (.int .i64 x.s[j].1),.sl 2 (eTys x.s[j].2.binds) none,.v (.int .i64 x.s[j].2.kind),.v (.int .i64 x.s[j].2.index),.sl 4 (eTms x.s[j].2.args) none])] TAUS_ok hnt fun K hK=>?_
   refine And.intro (elo (ePairs_len x.s)) ?_;refine And.intro (elv (ePairs_getD x.s j) (ePair_eq _)) ?_;refine hK _ _ ?_;clear hK K;refine dwkD [] TAUS_ok hnt fun K hK=>?_;refine dcl (ht) ?_;refine And.intro (⟨by omega,by rw[hl1];simp;omega⟩) ?_;refine hK _ _ (by kernel_rfl) ?_;clear hK K
   rw[hsn,hl2]
   refine dwk [(32,.v (.int .i64 (↑(j+1))))] TAUS_ok hnt fun K hK=>?_;refine And.intro auI ?_;refine hK _ _ ?_;clear hK K
   refine⟨⟨j+1,hlt⟩,by first | omega | (dsimp only;omega),VS.toA⟩
  ·have hje:j=x.s.length:=by omega
   subst hje
   have hOm:O x.s.length=x.s:=by rw[←hO,List.take_length]
   rw[hOm]
   refine dw_seq ?_;refine dwk [(18,.v (.bool false))] TAUS_ok hnt fun K hK=>?_;refine And.intro auF ?_;refine hK _ _ ?_;clear hK K;refine dw_seq ?_;refine dw_cond (t:=false) rfl ?_;rw[if_neg (by simp)];refine dw_exit ?_;refine dw_seq ?_;refine dwk [(33,.ag [.v (.int .i64 x.eq),.v (.bool x.back),.sl 1 (eIs x.path) none,.sl 5 (ePairs x.s) none])] TAUS_ok hnt fun K hK=>?_;refine And.intro (auV) ?_
   refine hK _ _ ?_;clear hK K;refine dw_ret ?_
   exact reta rfl
end Go.Proofs.YtclihnccilkohaaGreat
namespace Go.Proofs.YtclihnccilkohaaGreat
open Go.RowKit Go.Shelf
attribute [local go_sem] Oper.semAt_some
theorem bk_look {m:Mp}{Im:Nat→Nat→Prop}{V:World}{g:Nat}{pv:Value}{L:List (List D)}(h:Rel m Im V (.func (.func g) #[] #[pv]) (.fn g [.q [.sl 4 L none]])):
  ∃ b o a c bl off,∃ X:Nat→Nat→Value,pv=.pointer (some ⟨b,o,none⟩)∧V.cell? ⟨b,o,none⟩=some (.slice a L.length c)∧L.length≤maxLen∧(0<L.length→a=some ⟨bl,off,none⟩)∧(∀ i j,i<L.length→j<4→V.cell? ⟨bl,off+i * 4+j,none⟩=some (X i j)) ∧
   (∀ i (h:i<L.length),L[i].length=4)∧∀ i (h:i<L.length) j (h':j<L[i].length),Rel m Im V (X i j) L[i][j]:=by
 obtain⟨cs,e,hcs⟩:=rel_fn.1 h
 have ecs:cs=[pv]:=by
  have:=congrArg Array.toList (Value.func.inj e).2.2
  simpa using this.symm
 subst ecs
 have hq:=hcs.1
 cases hq with
 | q b o Y l h1 h2=>
  have c1:=(h1 0 (by simp)).1
  have r1:=h2 0 (by simp)
  simp only[List.getElem_cons_zero,Nat.add_zero] at r1 c1
  generalize Y 0=y at r1 c1
  cases r1 with
  | sl a c bl off n X l g hm ha hc hn ho hr hg=>
   exact⟨b,o,a,c,bl,off,X,rfl,c1,hm.1,ha,fun i j hi hj=>(hc i j hi hj).1,hn,hr⟩
theorem bk_val {m:Mp}{Im:Nat→Nat→Prop}{V:World}{g:Nat}{L:List (List D)}{b o bl off c i:Nat}{a:Option Addr}{x0 x1 x2 x3:Value}(hi:i<L.length)(c1:V.cell? ⟨b,o,none⟩=some (.slice a L.length c))(ha:a=some ⟨bl,off,none⟩) 
  (e0:V.cell? ⟨bl,off+i * 4,none⟩=some x0) (e1:V.cell? ⟨bl,off+i * 4+1,none⟩=some x1) (e2:V.cell? ⟨bl,off+i * 4+2,none⟩=some x2) (e3:V.cell? ⟨bl,off+i * 4+3,none⟩=some x3)
  (h:Rel m Im V (.func (.func g) #[] #[.pointer (some ⟨b,o,none⟩)]) (.fn g [.q [.sl 4 L none]])):Rel m Im V (.agg #[x0,x1,x2,x3]) (.ag (L.getD i [])):=by
 obtain⟨b',o',a',c',bl',off',X,ep,d1,hm,ha',hc,hn,hr⟩:=bk_look h
 cases ep
 rw[c1] at d1
 simp only[Option.some.injEq,Value.slice.injEq] at d1
 obtain⟨d1,_,_⟩:=d1
 have:=ha' (by omega)
 rw[←d1,ha] at this
 simp only[Option.some.injEq,Addr.mk.injEq,and_true] at this
 obtain⟨rfl,rfl⟩:=this
 have f0:=hc i 0 hi (by omega);have f1:=hc i 1 hi (by omega);have f2:=hc i 2 hi (by omega);have f3:=hc i 3 hi (by omega)
 rw[Nat.add_zero,e0] at f0;rw[e1] at f1;rw[e2] at f2;rw[e3] at f3
 rw[List.getD_eq_getElem?_getD,List.getElem?_eq_getElem hi,Option.getD_some]
 refine .ag [x0,x1,x2,x3] _ (by rw[hn i hi];rfl) fun j hj=>?_
 have hr':=hr i hi j hj
 rw[hn i hi] at hj
 match j,hj with
 | 0,_=>rw[←Option.some.inj f0] at hr';exact hr'
 | 1,_=>rw[←Option.some.inj f1] at hr';exact hr'
 | 2,_=>rw[←Option.some.inj f2] at hr';exact hr'
 | 3,_=>rw[←Option.some.inj f3] at hr';exact hr'
theorem back_k (b:Value)(n:Nat)(w:World)(hs:∃ p m c,b=.slice p m c):
  CallsIn Fence.wide n Tryz.prog 70 #[b] w fun e w'=>e=.returned (.func (.func 100) #[] #[.pointer (some ⟨w.heap.size,0,none⟩)])∧w'=w.alloc (.cells #[b] 78):=by
 obtain⟨pb,mb,cb,rfl⟩:=hs
 refine callsIn_of_wp Tryz.func70 rfl trivial ?_ rfl
 simp only[Tryz.ntmps70,List.size_toArray,List.length_cons,List.length_nil,Nat.reduceAdd,Nat.reduceSub,Array.replicate_succ,Array.replicate_zero,List.push_toArray,List.append_toArray,List.nil_append,List.cons_append]
 gi_wp2_with fail
 go_ret
 exact⟨rfl,rfl⟩
theorem back_d (L:List (List D)):PureC Tryz.prog 70 [.sl 4 L none] (.fn 100 [.q [.sl 4 L none]]):=by
 refine⟨by kernel_rfl,fun cx Fr m Im w vs hmem hargs _=>?_⟩
 match vs,hargs with
 | [v],⟨hv,_⟩=>
  have hsl:∃ p k c,v=.slice p k c:=by cases hv;exact⟨_,_,_,rfl⟩
  refine(callsIn_wide (n:=9)).1 ((back_k v 9 w hsl).mono ?_)
  rintro e w' ⟨rfl,rfl⟩
  have hb:Below w.heap.size w (w.alloc (.cells #[v] 78)):=(Below.refl _ _).alloc (Nat.le_refl _) _
  have hnew:(w.alloc (.cells #[v] 78)).cell? ⟨w.heap.size,0,none⟩=some v:=(Blk.new _ _ _ rfl).cell rfl
  have hki:KeepI Im w (w.alloc (.cells #[v] 78)):=KeepI.below hb
  refine⟨_,fun b o=>Im b o∨(b=w.heap.size∧o=0),rfl,⟨hb.os,hb.tape,hb.output,hb.size,fun b hb' _=>hb.block b hb'⟩,fun b o h=>.inl h,fun b o h=>h.imp id fun h=>by omega,fun b o h=>?_,fun k b o hk=>?_,?_,fun p hp=>by cases hp⟩
  ·rcases h with h | ⟨rfl,rfl⟩
   ·obtain⟨x,hx⟩:=hmem.im b o h
    exact⟨x,hki b o x h hx⟩
   ·exact⟨v,hnew⟩
  ·exact(World.frozen?_of_block (a:=⟨b,o,none⟩) (hb.block b (hmem.lt k b hk))).trans (hmem.free k b o hk)
  ·refine .fn _ [.pointer (some ⟨w.heap.size,0,none⟩)] _ rfl fun i hi=>?_
   have:i=0:=by simp at hi;omega
   subst this
   refine .q _ _ (fun _=>v) _ (fun i hi=>?_) fun i hi=>?_
   ·have:i=0:=by simp at hi;omega
    subst this
    exact⟨hnew,.inr ⟨rfl,rfl⟩⟩
   ·have:i=0:=by simp at hi;omega
    subst this
    exact hv.mono (Mp.le.refl _) hki fun _ _ h=>.inl h
theorem back_seq (L:List (List D))(n:Nat)(pv:Value):SeqX Fence.wide n Tryz.prog 100 #[pv] (fun k v=>#[.int .i64 ((L.length:Int)-1-(k:Int)),v])
  (fun k v V=>∀ m Im,Rel m Im V (.func (.func 100) #[] #[pv]) (.fn 100 [.q [.sl 4 L none]])→Rel m Im V v (.ag (L.getD (L.length-1-k) [])))
  (fun V=>∃ m Im,Rel m Im V (.func (.func 100) #[] #[pv]) (.fn 100 [.q [.sl 4 L none]])) L.length:=by
 intro l J W hJ hY h0
 have hdd:∀ k:Nat,(Fence.wide.depth.isSome=true→1≤k):=fun k h=>by cases h
 have HJ:=Lib.hid hJ;clear hJ
 have HY:=Lib.hid hY;clear hY
 obtain⟨m,Im,hr⟩:=HJ.out 0 W h0
 obtain⟨b,o,a,c,bl,off,X,rfl,c1,hm,_⟩:=bk_look hr
 obtain⟨nn,hnn⟩:∃ nn,L.length=nn:=⟨_,rfl⟩
 rw[hnn] at c1 hm
 clear hr
 have hmx:nn≤9223372036854775807:=hm
 have i1:IntKind.i64.wrap ((nn:Int)-1)=(nn:Int)-1:=IntWalk.i64_in _ (by omega)
 have Hnn:=Lib.hid hnn
 rw[hnn]
 clear hnn
 refine callsIn_of_wp Tryz.func100 rfl trivial ?_ rfl
 simp only[Tryz.ntmps100,List.size_toArray,List.length_cons,List.length_nil,Nat.reduceAdd,Nat.reduceSub,Array.replicate_succ,Array.replicate_zero,List.push_toArray,List.append_toArray,List.nil_append,List.cons_append]
 gi_wp2_with fail
 gi_loopw [3] (fun i wr=>∃ k:Nat,k≤nn∧i=.int .i64 ((nn:Int)-1-(k:Int))∧Hid (J k wr)) (fun i _=>(intOf i+1).toNat)
 case atStart=>exact⟨0,by omega,by simp,h0⟩
 case round=>
  obtain⟨k,hk,rfl,hj⟩:=hrel
  have Hj:=Lib.hid hj;clear hj
  by_cases hlt:k<nn
  ·obtain⟨i,hi⟩:∃ i:Nat,(nn:Int)-1-(k:Int)=(i:Int):=⟨nn-1-k,by omega⟩
   have hin:i<nn:=by omega
   obtain⟨m,Im,hr⟩:=HJ.out k wr Hj.out
   obtain⟨b',o',a',c',bl',off',X',ep,d1,_,ha',hc,_⟩:=bk_look hr
   cases ep
   rw[Hnn.out] at d1 ha' hc
   obtain rfl:=ha' (by omega)
   have Hr:=Lib.hid hr;clear hr
   have e0:wr.cell? ⟨bl',off'+i * 4,none⟩=some (X' i 0):=hc i 0 hin (by omega)
   have e1:wr.cell? ⟨bl',off'+i * 4+1,none⟩=some (X' i 1):=hc i 1 hin (by omega)
   have e2:wr.cell? ⟨bl',off'+i * 4+2,none⟩=some (X' i 2):=hc i 2 hin (by omega)
   have e3:wr.cell? ⟨bl',off'+i * 4+3,none⟩=some (X' i 3):=hc i 3 hin (by omega)
   obtain⟨x0,hx0⟩:∃ x,X' i 0=x:=⟨_,rfl⟩
   obtain⟨x1,hx1⟩:∃ x,X' i 1=x:=⟨_,rfl⟩
   obtain⟨x2,hx2⟩:∃ x,X' i 2=x:=⟨_,rfl⟩
   obtain⟨x3,hx3⟩:∃ x,X' i 3=x:=⟨_,rfl⟩
   rw[hx0] at e0;rw[hx1] at e1;rw[hx2] at e2;rw[hx3] at e3
   clear hc ha' hx0 hx1 hx2 hx3
   obtain⟨fn,tmps,assign,body,hy,hR⟩:=HY.out k (.agg #[x0,x1,x2,x3]) wr Hj.out (fun m Im hm=>by
    have:=bk_val (i:=i) (by rw[Hnn.out];exact hin) (by rw[Hnn.out];exact d1) rfl e0 e1 e2 e3 hm
    rw[show L.length-1-k=i by rw[Hnn.out];omega];exact this) (by rw[Hnn.out];exact hlt)
   rw[Hnn.out,hi] at hy
   rw[hi]
   have HR:=Lib.hid hR;clear hR
   have i2:IntKind.i64.wrap ((i:Int)-1)=(i:Int)-1:=IntWalk.i64_in _ (by omega)
   have hi':=Lib.hid hi;clear hi
   gi_wp2_with fail
   refine⟨hdd _,HR.out.mono ?_⟩
   rintro e W2 ⟨rfl,hj2⟩
   have Hj2:=Lib.hid hj2;clear hj2
   gi_wp2_with fail
   go_roundw
   case rel=>exact⟨k+1,by omega,by have:=hi'.out;simp;omega,Hj2.out⟩
   case measure=>first | (simp[intOf];done) | (simp[intOf];omega)
  ·have hkn:k=nn:=by omega
   subst hkn
   rw[show (k:Int)-1-(k:Int)=-1 by omega]
   gi_wp2_with fail
   go_end0
   exact⟨⟨_,rfl⟩,Hj.out⟩
end Go.Proofs.YtclihnccilkohaaGreat
namespace Go.Proofs.YtclihnccilkohaaGreat
open Go.RowKit
def TAUT_86:TI:=⟨4,true,[Value.int IntKind.i64 0,Value.bool false,Value.slice none 0 0,Value.slice none 0 0],[(0,1,false),(1,1,false),(2,1,false),(3,1,false)],none,64,6,none,false⟩
theorem TAUT_86_ok:TypOk Tryz.prog 86 TAUT_86:=by constructor <;> kernel_rfl
def TAUT_78:TI:=⟨1,false,[Value.slice none 0 0],[],some 86,24,5,none,false⟩
theorem TAUT_78_ok:TypOk Tryz.prog 78 TAUT_78:=by constructor <;> kernel_rfl
def TAUT_84:TI:=⟨1,false,[Value.slice none 0 0],[],some 110,24,5,none,false⟩
theorem TAUT_84_ok:TypOk Tryz.prog 84 TAUT_84:=by constructor <;> kernel_rfl
def TAUT_110:TI:=⟨5,true,[Value.int IntKind.i64 0,Value.slice none 0 0,Value.int IntKind.i64 0,Value.int IntKind.i64 0,Value.slice none 0 0],[(0,1,false),(1,4,true)],none,72,6,none,false⟩
theorem TAUT_110_ok:TypOk Tryz.prog 110 TAUT_110:=by constructor <;> kernel_rfl
def TAUT_3:TI:=⟨1,false,[Value.int IntKind.i64 0],[],none,8,2,none,false⟩
theorem TAUT_3_ok:TypOk Tryz.prog 3 TAUT_3:=by constructor <;> kernel_rfl
def TAUT_4:TI:=⟨1,false,[Value.bool false],[],none,1,1,none,false⟩
theorem TAUT_4_ok:TypOk Tryz.prog 4 TAUT_4:=by constructor <;> kernel_rfl
def TAUT_71:TI:=⟨1,false,[Value.slice none 0 0],[],some 3,24,5,none,false⟩
theorem TAUT_71_ok:TypOk Tryz.prog 71 TAUT_71:=by constructor <;> kernel_rfl
def TAUT_62:TI:=⟨4,true,[Value.slice none 0 0,Value.int IntKind.i64 0,Value.int IntKind.i64 0,Value.slice none 0 0],[(0,1,false),(1,2,true),(3,1,false)],none,64,6,none,false⟩
theorem TAUT_62_ok:TypOk Tryz.prog 62 TAUT_62:=by constructor <;> kernel_rfl
def TAUT:List (Nat×TI):=[(86,TAUT_86),(78,TAUT_78),(84,TAUT_84),(110,TAUT_110),(3,TAUT_3),(4,TAUT_4),(71,TAUT_71),(62,TAUT_62)]
theorem TAUT_ok:TabOk Tryz.prog TAUT:=(((((((((TabOk.nil _).cons TAUT_62_ok).cons TAUT_71_ok).cons TAUT_4_ok).cons TAUT_3_ok).cons TAUT_110_ok).cons TAUT_84_ok).cons TAUT_78_ok).cons TAUT_86_ok)
set_option maxHeartbeats 4000000 in
set_option maxRecDepth 100000 in
theorem reverse_d (l:List Au.St)(hl:l.length≤100000)(hs':∀ x∈l,x.path.length≤900000∧x.s.length≤100000∧∀ p∈x.s,p.2.full≤900000∧p.2.Fit):PureC Tryz.prog 35 [.sl 4 (eSts l) none] (.sl 4 (eSts (l.reverse.map Au.flip)) none):=by
 obtain⟨Z,hZ⟩:∃ Z,l.reverse.map Au.flip=Z:=⟨_,rfl⟩
 obtain⟨O,hO⟩:∃ O:Nat→List Au.St,∀ j,Z.take j=O j:=⟨_,fun _=>rfl⟩
 have hZl:Z.length=l.length:=by rw[←hZ];simp
 have hO0:O 0=[]:=by rw[←hO];rfl
 have hOn:∀ j (h:j<l.length),O j++[Au.flip (l[l.length-1-j])]=O (j+1):=fun j h=>by
  rw[←hO,←hO,List.take_add_one,List.getElem?_eq_getElem (by omega)]
  congr 1
  simp only[←hZ,List.getElem_map,List.getElem_reverse,Option.toList]
 have hOl:∀ j,j≤l.length→(O j).length=j:=fun j h=>by rw[←hO,List.length_take];omega
 have hOm:O l.length=Z:=by rw[←hO,←hZl,List.take_length]
 rw[hZ]
 refine⟨by kernel_rfl,fun cx0 Fr0 m0 Im0 w0 vs hmem hargs _=>?_⟩
 refine(callsIn_wide (n:=9)).1 (callsIn_of_wp_marks Tryz.func35 rfl trivial ?_ rfl)
 obtain⟨cx,c1,c2,c3,c4,c5,hst⟩:=entry0 hmem hargs (by simp[D.ok,eSts_ok]) 21 (by simp) Tryz.ntmps35
 simp only[argsT] at hst
 refine seq_run (τ:=[(.t 0,.sl 4 (eSts l) none),(.t 2,.v (.slice none 0 0))]) (N1:=1) ?_ hst fun m1 Im1 w1 a1 hs1=>?_
 ·refine dwik wide_self [] TAUT_ok c1 fun K hK=>?_
  refine hK _ _ ?_;clear hK K
  exact VS.toA
 refine seq_run (τ:=[(.t 0,.sl 4 (eSts l) none),(.t 3,.p 1 0),(.c 1 0,.sl 4 [] (some 2)),(.r 2,.rw 86 4 0)]) (N1:=3) ?_ hs1 fun m2 Im2 w2 a2 hs2=>?_
 ·refine dwik wide_self [] TAUT_ok c1 fun K hK=>?_
  refine hK _ _ ?_;clear hK K
  exact VS.trans (VS.row (k:=1) (off:=0) 86 4 rfl) VS.toA
 refine wpIn_seq ?_
 refine seq_run (τ:=[(.t 3,.p 1 0),(.t 7,.fn 100 [.q [.sl 4 (eSts l) none]]),(.c 1 0,.sl 4 [] (some 2)),(.r 2,.rw 86 4 0)]) (N1:=5) ?_ hs2 fun m3 Im3 w3 a3 hs3=>?_
 ·refine dwik wide_self [] TAUT_ok c1 fun K hK=>?_
  refine dcl (back_d (eSts l)) ?_
  refine hK _ _ ?_;clear hK K
  exact VS.toA
 clear hs1 hs2 hst
 refine wpIn_block ?_
 have hdf:=hs3.df
 obtain⟨pv,hfv⟩:∃ pv,a3.tmps.getD 7 undef=.func (.func 100) #[] #[pv]:=by
  obtain⟨cs,e,hcs⟩:=rel_fn.1 (hs3.tm 7 _ rfl)
  match cs,hcs with
  | [pv],_=>exact⟨pv,e⟩
 obtain⟨cx1,d1,d2,d3,d4,d5,hst1,hback⟩:=round_of_st hs3 3 21 (R:=[(.c 1 0,.sl 4 [] (some 2)),(.r 2,.rw 86 4 0)]) (W:=[(.c 1 0,.sl 4 (eSts Z) (some 2)),(.r 2,.rw 86 4 Z.length)])
  (by intro p hp;simp only[List.mem_cons,List.not_mem_nil,or_false] at hp;rcases hp with rfl | rfl <;> rfl) (by simp[wordsG,D.ok,D.okss,eSts_ok,inN,rnames,rowN,rowsR,gkey,Key.eq]) a3 [(.t 3,.p 1 0),(.t 7,.fn 100 [.q [.sl 4 (eSts l) none]])] hdf (hs3.nt.trans c1)
  (by
   intro p hp
   simp only[List.mem_cons,List.not_mem_nil,or_false] at hp
   rcases hp with rfl | rfl
   ·exact⟨3,rfl,by simp[D.ok,inN,rnames],hs3.tm 3 _ rfl⟩
   ·exact⟨7,rfl,by simp[D.ok,D.oks,eSts_ok],hs3.tm 7 _ rfl⟩)
 have hz1:cx1.m0.blk=fun k=>if k=1 then m3.blk 1 else none:=by
  rw[d5];funext k;simp only[Mp.cut]
  by_cases hk:k=1
  ·subst hk;simp[inN,rnames]
  ·simp[inN,rnames,hk]
 have hz2:∀ k b,cx1.m0.obj k=some b→False:=fun k b hk=>by
  rw[d5] at hk
  obtain⟨q1,q2⟩:=Mp.cut_obj hk
  have hk1:k=1:=by simpa[inN,rnames] using q1
  subst hk1
  obtain⟨b',v,e1,_⟩:=hs3.ce 1 0 _ rfl
  rw[hs3.mem.dis 1 b' e1] at q2;cases q2
 have hz3:∀ k R,cx1.m0.row k=some R→k=2:=fun k R hk=>by
  rw[d5] at hk
  simpa[rowN,rowsR] using(Mp.cut_row hk).1
 have hz1':∀ k b,cx1.m0.blk k=some b→k=1:=fun k b hk=>by
  rw[hz1] at hk
  by_cases e:k=1
  ·exact e
  ·simp[e] at hk
 have hsz:cx1.w0.heap.size≤w3.heap.size:=by rw[d3];exact Nat.le_refl _
 obtain⟨TT,hTT⟩:∃ TT:Nat→List (Key×D),TT=fun k=>[(.t 3,.p 1 0),(.t 7,.fn 100 [.q [.sl 4 (eSts l) none]]),(.c 1 0,.sl 4 (eSts (O k)) (some 2)),(.r 2,.rw 86 4 (O k).length)]:=⟨_,rfl⟩
 obtain⟨SS,hSS⟩:∃ SS:Nat→Au.St→List (Key×D),SS=fun k x=>[(.t 3,.p 1 0),(.t 5,.p 3 0),(.c 3 0,.v (.int .i64 x.eq)),(.c 3 1,.v (.bool x.back)),(.c 3 2,.sl 1 (eIs x.path) none),(.c 3 3,.sl 5 (ePairs x.s) none),(.c 1 0,.sl 4 (eSts (O k)) (some 2)),(.r 2,.rw 86 4 (O k).length)]:=⟨_,rfl⟩
 have hTn:∀ k j,inN (TT k) j=decide (j=1):=fun k j=>by rw[hTT];by_cases h:j=1 <;> simp[inN,rnames,h]
 have hTr:∀ k j,rowN (TT k) j=decide (j=2):=fun k j=>by rw[hTT];by_cases h:j=2 <;> simp[rowN,rowsR,h]
 have hTo:∀ k,okN (TT k)=true:=fun k=>by rw[hTT];simp[okN,plainKey,D.ok,D.oks,eSts_ok,inN,rnames,rowN,rowsR]
 have hSn:∀ k x j,inN (SS k x) j=(decide (j=1)||decide (j=3)):=fun k x j=>by rw[hSS];by_cases h:j=1 <;> by_cases h':j=3 <;> simp[inN,rnames,h,h']
 have hSr:∀ k x j,rowN (SS k x) j=decide (j=2):=fun k x j=>by rw[hSS];by_cases h:j=2 <;> simp[rowN,rowsR,h]
 have hSo:∀ k x,okN (SS k x)=true:=fun k x=>by rw[hSS];simp[okN,plainKey,D.ok,D.oks,eSts_ok,eIs_ok,ePairs_ok,inN,rnames,rowN,rowsR]
 refine range_X (Rd:=fun V=>∃ m Im,Rel m Im V (.func (.func 100) #[] #[pv]) (.fn 100 [.q [.sl 4 (eSts l) none]])) rfl (by omega) (gf:=100) (lb:=#[pv]) hfv trivial (enters_of Tryz.func100 (by kernel_rfl) rfl) (N:=(eSts l).length) (back_seq (eSts l) (9-1) pv) (fun _ _=>rfl)
  (fun k W=>∃ m Im,(∀ j b,m.blk j=some b→inN (TT k) j=true)∧(∀ j b,m.obj j=some b→False)∧St cx1 (fun j=>3≤j) m Im W a3 (TT k)) ?rd ?mild ?start
  (fun k _ a' W=>∃ x,x=l[l.length-1-k]?∧∃ y,x=some y∧∃ m Im,(∀ j b,m.blk j=some b→inN (SS k y) j=true)∧(∀ j b,m.obj j=some b→False)∧St cx1 (fun j=>5≤j) m Im W a' (SS k y)) ?ra ?assign ?body ?done
 case rd=>
  rintro k W ⟨m,Im,_,_,hs⟩
  have:=hs.tm 7 _ (by rw[hTT];rfl)
  rw[hfv] at this
  exact⟨m,Im,this⟩
 case mild=>
  rintro k W W' row ⟨m,Im,hn,hno,hs⟩ hg hr
  exact⟨m,Im,hn,hno,hs.softN (hTo k) hn hsz hg hr⟩
 case start=>
  have h0:St cx1 (fun j=>3≤j) cx1.m0 Im3 w3 a3 (TT 0):=by
   rw[hTT];dsimp only;rw[hO0];exact hst1
  exact⟨_,_,fun j b hj=>by rw[hTn,hz1' j b hj];rfl,hz2,h0⟩
 case ra=>
  rintro k v a' W l0 o o' hl0 ho hoc ⟨x,hx,y,hy,m,Im,hn,hno,hs⟩
  exact⟨x,hx,y,hy,m,Im,hn,hno,hs.softN (hSo k y) hn hsz (grownBy_putObj' W l0 o') (fun r e=>by cases e;exact⟨hl0,o,ho,hoc⟩)⟩
 case assign=>
  rintro l0 D0 k v W o o2 K hl0 hD0 ho hoc ho2 ho2c ⟨m,Im,hn,hno,hs⟩ hR hk hK
  rw[eSts_len] at hk
  obtain⟨x,hx⟩:∃ x,l[l.length-1-k]=x:=⟨_,rfl⟩
  have hv:=hR m Im (by rw[←hfv];exact hs.tm 7 _ (by rw[hTT];rfl))
  rw[eSts_len,eSts_getD l _ (by omega),hx] at hv
  have hh:=hs.hold (hTo k) hn hno (fun b=>b=l0∨b=D0) (fun w'=>w'.heap[l0]?=some o∧w'.heap[D0]?=some o2) (fun b hb=>by
   rcases hb with rfl | rfl
   ·exact⟨Nat.le_trans hsz hl0,o,ho,hoc⟩
   ·exact⟨Nat.le_trans hsz hD0,o2,ho2,ho2c⟩) ⟨ho,ho2⟩ (fun w' hw'=>⟨(hw' l0 (.inl rfl)).trans ho,(hw' D0 (.inr rfl)).trans ho2⟩)
  have hh2:=(hh.put (dst:=8) (v:=.int .i64 (((eSts l).length:Int)-1-(k:Int))) (by rw[d1];decide) (.v _)).put (dst:=9) (v:=v) (by rw[d1];decide) hv
  have ea:({ tmps:=(#[8,9].zip #[.int .i64 (((eSts l).length:Int)-1-(k:Int)),v]).foldl (fun t (p,v)=>t.setIfInBounds p v) a3.tmps,defers:=[] }:Act)=(a3.put (some 8) (.int .i64 (((eSts l).length:Int)-1-(k:Int)))).put (some 9) v:=by
   obtain⟨t3,d3'⟩:=a3
   simp only at hdf
   subst hdf
   simp[Act.put]
  rw[ea]
  refine wpIn_mono ((?_:DWI Tryz.prog (Fence.wide.inRound l0) (9-1-1) cx1 _ _ 3 (cutQ cx1 ((.j,.j (fun b=>b=l0∨b=D0) (fun w'=>w'.heap[l0]?=some o∧w'.heap[D0]?=some o2)) :: SS k x) 5)) m Im W _ hh2) ?_
  ·rw[hSS,hTT]
   unfold eSt
   refine dwik (wide_round l0) [] TAUT_ok d1 fun K hK=>?_
   refine hK _ _ ?_;clear hK K
   exact VS.toA
  ·rintro e a' W' ⟨σ',N',m',Im',h1,h2⟩
   cases e with
   | normal=>
    obtain⟨m4,h3⟩:=h1 m' Im' W' a' h2
    obtain⟨X,J,e,hX⟩:=h3.jk _ rfl
    cases e
    have h4:St cx1 (fun j=>5≤j) m4 Im' W' a' (SS k x):=h3.sub fun key d hd=>by
     rw[get]
     split
     ·rename_i e
      rw[←Key.eq_iff.1 e,hSS] at hd;simp[get,Key.eq] at hd
     ·exact hd
    obtain⟨m5,q1,q2,q3⟩:=h4.neat (hSo k x) (fun j b hj=>by rw[hSn,hz1' j b hj];rfl) (fun j b hj=>(hz2 j b hj).elim) (fun j R hj=>by rw[hSr,hz3 j R hj];rfl)
    exact hK a' W' hX.holds.1 hX.holds.2 ⟨_,rfl,x,by rw[List.getElem?_eq_getElem (by omega),hx],m5,Im',q1,q2,q3⟩
   | _=>exact h1.elim
 case body=>
  rintro l0 D0 k v a' W o o2 hl0 hD0 ho hoc ho2 ho2c hk ⟨x,hx,y,hy,m,Im,hn,hno,hs⟩
  rw[eSts_len] at hk
  have hyx:l[l.length-1-k]=y:=by
   rw[hy,List.getElem?_eq_getElem (by omega)] at hx;exact(Option.some.inj hx).symm
  clear hx hy x
  have hmy:y∈l:=by rw[←hyx];exact List.getElem_mem _
  have hcp:=copied_d y (hs' y hmy).1 (hs' y hmy).2.1 (hs' y hmy).2.2
  unfold eSt at hcp
  have hsn:=eSts_snoc (O k) (Au.flip y)
  rw[←hyx,hOn k hk,hyx] at hsn
  have hl1:(eSts (O k)).length=(O k).length:=eSts_len _
  have hl3:=hOl k (by omega)
  have hl2:(eSts (O (k+1))).length=(O (k+1)).length:=eSts_len _
  have hh:=hs.hold (hSo k y) hn hno (fun b=>b=l0∨b=D0) (fun w'=>w'.heap[l0]?=some o∧w'.heap[D0]?=some o2) (fun b hb=>by
   rcases hb with rfl | rfl
   ·exact⟨Nat.le_trans hsz hl0,o,ho,hoc⟩
   ·exact⟨Nat.le_trans hsz hD0,o2,ho2,ho2c⟩) ⟨ho,ho2⟩ (fun w' hw'=>⟨(hw' l0 (.inl rfl)).trans ho,(hw' D0 (.inr rfl)).trans ho2⟩)
  refine wpIn_mono ((?_:DWI Tryz.prog (Fence.wide.inRound l0) (9-1-1) cx1 _ _ 5 (cutQ cx1 [(.j,.j (fun b=>b=l0∨b=D0) (fun w'=>w'.heap[l0]?=some o∧w'.heap[D0]?=some o2)),(.c 1 0,.sl 4 (eSts (O (k+1))) (some 2)),(.r 2,.rw 86 4 (O (k+1)).length)] 3)) m Im W a' hh) ?_
  ·rw[hSS]
   refine dwi_block ?_
   refine dwi_seq ?_
   refine dwik (wide_round l0) [] TAUT_ok d1 fun K hK=>?_
   refine dcl hcp ?_
   refine hK _ _ ?_;clear hK K
   refine dwi_seq ?_
   refine dwik (wide_round l0) [] TAUT_ok d1 fun K hK=>?_
   refine hK _ _ ?_;clear hK K
   refine dwik (wide_round l0) [] TAUT_ok d1 fun K hK=>?_
   refine And.intro (⟨by omega,by rw[hl1];simp;omega⟩) ?_
   refine hK _ _ ?_;clear hK K
   have hsn':eSts (O k)++[[.v (.int .i64 y.eq),.v (.bool (!y.back)),.sl 1 (eIs y.path) none,.sl 5 (ePairs y.s) none]]=eSts (O (k+1)):=hsn
   rw[hsn',hl2]
   show VS cx1 _ _ _ 3
   exact VS.toA
  ·rintro e a2' W' ⟨σ',N',m',Im',h1,h2⟩
   cases e with
   | normal=>
    obtain⟨m4,h3⟩:=h1 m' Im' W' a2' h2
    obtain⟨X,J,e,hX⟩:=h3.jk _ rfl
    cases e
    have h4:St cx1 (fun j=>3≤j) m4 Im' W' a3 (TT (k+1)):=h3.reslot hdf (by rw[d1];exact hs3.nt.trans c1) (fun z d hz=>by
     rw[d3,d4]
     rw[hTT] at hz
     by_cases e3:z=3
     ·subst e3;cases hz;exact hst1.tm 3 _ rfl
     ·by_cases e7:z=7
      ·subst e7;cases hz;exact hst1.tm 7 _ rfl
      ·have this:∀ q:Tmp,z≠q→Key.eq (.t q) (.t z)=false:=fun q hq=>by
        cases hh:Key.eq (.t q) (.t z) with
        | false=>rfl
        | true=>exact absurd (Key.t.inj (Key.eq_iff.1 hh)).symm hq
       simp only[get,this 3 e3,this 7 e7] at hz
       simp[Key.eq] at hz) (fun key d hd=>by
     rw[hTT] at hd
     cases key with
     | t z=>trivial
     | c j off=>exact hd
     | r g=>exact hd
     | o j=>exact hd
     | j=>exact(by simp[get,Key.eq] at hd))
    obtain⟨m5,q1,q2,q3⟩:=h4.neat (hTo (k+1)) (fun j b hj=>by rw[hTn,hz1' j b hj];rfl) (fun j b hj=>(hz2 j b hj).elim) (fun j R hj=>by rw[hTr,hz3 j R hj];rfl)
    exact⟨rfl,hX.holds.1,hX.holds.2,m5,Im',q1,q2,q3⟩
   | _=>exact h1.elim
 case done=>
  rintro D0 W hD0 ⟨m,Im,hn,hno,hs⟩ hD
  rw[eSts_len] at hn hs
  rw[hTT] at hs
  dsimp only at hs
  rw[hOm] at hs
  obtain⟨m4,hs4⟩:=hback _ _ _ _ _ _ hs (by intro p hp;simp only[List.mem_cons,List.not_mem_nil,or_false] at hp;rcases hp with rfl | rfl <;> exact .inl rfl)
  have hsz0:cx.w0.heap.size≤w3.heap.size:=hs3.mem.off.size
  have hs5:St cx (fun j=>5≤j) m4 Im W a3 [(.t 3,.p 1 0),(.c 1 0,.sl 4 (eSts Z) (some 2)),(.r 2,.rw 86 4 Z.length)]:=hs4.sub fun key d hd=>by
   simp only[get] at hd
   split at hd
   ·rename_i e;cases hd;rw[←Key.eq_iff.1 e];rfl
   ·split at hd
    ·rename_i e;cases hd;rw[←Key.eq_iff.1 e];rfl
    ·split at hd
     ·rename_i e;cases hd;rw[←Key.eq_iff.1 e];rfl
     ·cases hd
  have h00:∀ k b,cx.m0.blk k=some b→False:=fun k b hk=>by have:=cx.h0 k b hk;omega
  have h01:∀ k b,cx.m0.obj k=some b→False:=fun k b hk=>by have:=cx.h0o k b hk;omega
  have h02:∀ k R,cx.m0.row k=some R→False:=fun k b hk=>by have:=cx.h0r k b hk;omega
  obtain⟨m5,hn5,hno5,hs6⟩:=hs5.neat (by simp[okN,plainKey,D.ok,D.oks,eSts_ok,inN,rnames,rowN,rowsR]) (fun j b hj=>(h00 j b hj).elim) (fun j b hj=>(h01 j b hj).elim) (fun j b hj=>(h02 j b hj).elim)
  have hh:=hs6.hold (by simp[okN,plainKey,D.ok,D.oks,eSts_ok,inN,rnames,rowN,rowsR]) hn5 hno5 (fun b=>b=D0) (fun w'=>w'.heap[D0]?=some (.deferred (some []))) (fun b hb=>by
   subst hb;exact⟨Nat.le_trans hsz0 hD0,_,hD,rfl⟩) hD (fun w' hw'=>(hw' D0 rfl).trans hD)
  rw[hdf]
  show Code.wpIn _ _ _ (.seq _ .ret) _ _ _
  refine wpIn_seq (region_defers wide_self (τ:=[(.j,.j (fun b=>b=D0) (fun w'=>w'.heap[D0]?=some (.deferred (some [])))),(.t 2,.sl 4 (eSts Z) none)]) [] TAUT_ok c1 hh (fun m Im w a hs=>?_) fun K hK=>?_)
  ·refine wpIn_ret ?_
   obtain⟨X,J,e,hX⟩:=hs.jk _ rfl
   cases e
   have hD':w.heap[D0]?=some (.deferred (some [])):=hX.holds
   have h4:St cx (fun j=>7≤j) m Im w a [(.t 2,.sl 4 (eSts Z) none)]:=hs.sub fun key d hd=>by
    simp only[get] at hd
    split at hd
    ·rename_i e;cases hd;rw[←Key.eq_iff.1 e];rfl
    ·cases hd
   obtain⟨m6,hn6,hno6,h5⟩:=h4.neat (by simp[okN,plainKey,D.ok,D.oks,eSts_ok]) (fun j b hj=>(h00 j b hj).elim) (fun j b hj=>(h01 j b hj).elim) (fun j b hj=>(h02 j b hj).elim)
   have h6:=h5.softN (by simp[okN,plainKey,D.ok,D.oks,eSts_ok]) hn6 hsz0 (grownBy_putObj' w D0 (.deferred none)) (fun r e=>by cases e;exact⟨hD0,_,hD',rfl⟩)
   refine⟨by simp,.inl ⟨_,_,rfl,run_takeDeferred hD',?_⟩⟩
   obtain⟨v,r1,r2⟩:=resD_run (P:=Tryz.prog) (fn:=Tryz.f35) TAUT_ok h6 (d:=.sl 4 (eSts Z) none) rfl
   refine⟨v,r1,v,Im,rfl,?_⟩
   have hoff:=h6.mem.off
   rw[c3] at hoff
   refine⟨⟨hoff.os,hoff.tape,hoff.output,hoff.size,fun b hb _=>hoff.block b hb (c4 b)⟩,fun b o h=>h6.mem.im0 b o (by rw[c5];exact h),fun b o h=>?_,h6.mem.im,fun k b o hk=>?_,?_,fun p hp=>by cases hp⟩
   ·rcases h6.mem.imb b o h with h1 | h1 | h1
    ·left;rw[c5] at h1;exact h1
    ·right;rw[c3] at h1;exact h1
    ·exact absurd (cx.hCR b h1) (c4 b)
   ·exact(World.frozen?_of_block (a:=⟨b,o,none⟩) (hoff.block b (hmem.lt k b hk) (c4 b))).trans (hmem.free k b o hk)
   ·exact(Rel.cut (f:=fun _=>false) (g:=noR) r2 (by simp[D.ok,eSts_ok])).mono (cut_any _ _) (KeepI.refl _ _) fun _ _ h=>h
  ·refine hK _ _ ?_;clear hK K
   exact VS.toA
def TRJ_64:TI:=⟨9,true,[Value.slice none 0 0,Value.int IntKind.i64 0,Value.int IntKind.i64 0,Value.slice none 0 0,Value.slice none 0 0,Value.int IntKind.i64 0,Value.int IntKind.i64 0,Value.slice none 0 0,Value.slice none 0 0],[(0,4,true),(4,4,true),(8,1,false)],none,152,6,none,false⟩
theorem TRJ_64_ok:TypOk Tryz.prog 64 TRJ_64:=by constructor <;> kernel_rfl
def TRJ_62:TI:=⟨4,true,[Value.slice none 0 0,Value.int IntKind.i64 0,Value.int IntKind.i64 0,Value.slice none 0 0],[(0,1,false),(1,2,true),(3,1,false)],none,64,6,none,false⟩
theorem TRJ_62_ok:TypOk Tryz.prog 62 TRJ_62:=by constructor <;> kernel_rfl
def TRJ_31:TI:=⟨4,true,[Value.slice none 0 0,Value.int IntKind.i64 0,Value.int IntKind.i64 0,Value.slice none 0 0],[(0,1,false),(1,2,true),(3,1,false)],none,64,6,none,false⟩
theorem TRJ_31_ok:TypOk Tryz.prog 31 TRJ_31:=by constructor <;> kernel_rfl
def TRJ_41:TI:=⟨1,false,[Value.slice none 0 0],[],some 106,24,5,none,false⟩
theorem TRJ_41_ok:TypOk Tryz.prog 41 TRJ_41:=by constructor <;> kernel_rfl
def TRJ_33:TI:=⟨9,true,[Value.slice none 0 0,Value.int IntKind.i64 0,Value.int IntKind.i64 0,Value.slice none 0 0,Value.slice none 0 0,Value.int IntKind.i64 0,Value.int IntKind.i64 0,Value.slice none 0 0,Value.slice none 0 0],[(0,4,true),(4,4,true),(8,1,false)],none,152,6,none,false⟩
theorem TRJ_33_ok:TypOk Tryz.prog 33 TRJ_33:=by constructor <;> kernel_rfl
def TRJ_106:TI:=⟨2,true,[Value.slice none 0 0,Value.int IntKind.i64 0],[(0,1,false),(1,1,false)],none,32,6,none,false⟩
theorem TRJ_106_ok:TypOk Tryz.prog 106 TRJ_106:=by constructor <;> kernel_rfl
def TRJ_3:TI:=⟨1,false,[Value.int IntKind.i64 0],[],none,8,2,none,false⟩
theorem TRJ_3_ok:TypOk Tryz.prog 3 TRJ_3:=by constructor <;> kernel_rfl
def TRJ:List (Nat×TI):=[(64,TRJ_64),(62,TRJ_62),(31,TRJ_31),(41,TRJ_41),(33,TRJ_33),(106,TRJ_106),(3,TRJ_3)]
theorem TRJ_ok:TabOk Tryz.prog TRJ:=((((((((TabOk.nil _).cons TRJ_3_ok).cons TRJ_106_ok).cons TRJ_33_ok).cons TRJ_41_ok).cons TRJ_31_ok).cons TRJ_62_ok).cons TRJ_64_ok)
theorem rsize_d (t:Tm)(h:t.full≤400000):PureC Tryz.prog 75 [.ag (eTm t)] (.v (.int .i64 t.size)):=by
 refine pure_below (by kernel_rfl) fun m Im w vs hv=>?_
 match vs,hv with
 | [x1],hv=>
  obtain⟨b,k,i,a,rfl,ht⟩:=agTm hv.1
  refine(size6_r t ht w (by have:=Tm.size_le_full t;omega) (Keep.refl _ _)).mono ?_
  rintro e w' ⟨rfl,hb⟩
  exact⟨_,rfl,hb,fun _ _ _=>.v _⟩
namespace Ru
def wt (p:Li.Pr):Int:=(p.l.size:Int)+(p.r.size:Int)
def cmp (a b:Li.Pr):Int:=orl (sgn (wt a) (wt b)) (orl (Tm.cmp a.l b.l) (orl (Tm.cmp a.r b.r) (Tm.cmpB a.m b.m)))
end Ru
theorem rwt_d (p:Li.Pr)(h1:p.l.full≤400000)(h2:p.r.full≤400000):PureC Tryz.prog 37 [.ag (ePr p)] (.v (.int .i64 (Ru.wt p))):=by
 have c1:=rsize_d p.l h1
 have c2:=rsize_d p.r h2
 have z1:=Tm.size_le_full p.l
 have z2:=Tm.size_le_full p.r
 rw[ePr_at]
 rw[eTm_eq] at c1 c2
 unfold Ru.wt
 refine calldw 0 10 [ResultVar.tmp 2] TRJ_ok Tryz.func37 rfl Tryz.ntmps37 rfl fun cx hnt hn0=>?_
 ·skip
  refine dw_seq ?_;refine dwk [] TRJ_ok hnt fun _ z9=>z9 _ _ ?_;refine dw_seq ?_;refine dwkD [(9,.v (.int .i64 (((p.l.size)+(p.r.size)))))] TRJ_ok hnt fun K hK=>?_;refine dcl (c1) ?_;refine dcl (c2) ?_;refine And.intro auI ?_;refine hK _ _ (by kernel_rfl) ?_;clear hK K;refine dw_ret ?_
  exact reta rfl
def TRS_64:TI:=⟨9,true,[Value.slice none 0 0,Value.int IntKind.i64 0,Value.int IntKind.i64 0,Value.slice none 0 0,Value.slice none 0 0,Value.int IntKind.i64 0,Value.int IntKind.i64 0,Value.slice none 0 0,Value.slice none 0 0],[(0,4,true),(4,4,true),(8,1,false)],none,152,6,none,false⟩
theorem TRS_64_ok:TypOk Tryz.prog 64 TRS_64:=by constructor <;> kernel_rfl
def TRS_62:TI:=⟨4,true,[Value.slice none 0 0,Value.int IntKind.i64 0,Value.int IntKind.i64 0,Value.slice none 0 0],[(0,1,false),(1,2,true),(3,1,false)],none,64,6,none,false⟩
theorem TRS_62_ok:TypOk Tryz.prog 62 TRS_62:=by constructor <;> kernel_rfl
def TRS_41:TI:=⟨1,false,[Value.slice none 0 0],[],some 106,24,5,none,false⟩
theorem TRS_41_ok:TypOk Tryz.prog 41 TRS_41:=by constructor <;> kernel_rfl
def TRS_106:TI:=⟨2,true,[Value.slice none 0 0,Value.int IntKind.i64 0],[(0,1,false),(1,1,false)],none,32,6,none,false⟩
theorem TRS_106_ok:TypOk Tryz.prog 106 TRS_106:=by constructor <;> kernel_rfl
def TRS:List (Nat×TI):=[(64,TRS_64),(62,TRS_62),(41,TRS_41),(106,TRS_106)]
theorem TRS_ok:TabOk Tryz.prog TRS:=(((((TabOk.nil _).cons TRS_106_ok).cons TRS_41_ok).cons TRS_62_ok).cons TRS_64_ok)
namespace Ru
def swap (p:Li.Pr):Li.Pr:=⟨p.r,p.l,p.m⟩
theorem swap_at (p:Li.Pr):ePr (swap p)=[.sl 2 (eTys p.r.binds) none,.v (.int .i64 p.r.kind),.v (.int .i64 p.r.index),.sl 4 (eTms p.r.args) none,.sl 2 (eTys p.l.binds) none,.v (.int .i64 p.l.kind),.v (.int .i64 p.l.index),.sl 4 (eTms p.l.args) none,.sl 2 (eTys p.m) none]:=rfl
end Ru
theorem rutypes_d (M:List Ty)(h:Ty.sizes M≤800000):PureC Tryz.prog 103 [.sl 2 (eTys M) none] (.sl 2 (eTys M) none):=by
 have ha:=arrow_d (.mk [] 0) M (by rw[ty_size];simp[Ty.sizes];omega)
 simp only[eTy_eq,args_mk',base_mk',List.append_nil] at ha
 refine calldw 0 7 [ResultVar.tmp 2] TRS_ok Tryz.func103 rfl Tryz.ntmps103 rfl fun cx hnt hn0=>?_
 ·skip
  refine dw_seq ?_;refine dwk [] TRS_ok hnt fun _ z9=>z9 _ _ ?_;refine dw_seq ?_;refine dwk [(3,.ag [.sl 2 (eTys []) none,.v (.int .i64 0)])] TRS_ok hnt fun K hK=>?_;refine And.intro (auV) ?_;refine dcl (ha) ?_;refine hK _ _ ?_;clear hK K;refine dw_ret ?_
  exact reta rfl
theorem rucopied_d (p:Li.Pr)(h1:p.l.full≤900000∧p.l.Fit)(h2:p.r.full≤900000∧p.r.Fit)(h3:Ty.sizes p.m≤800000):PureC Tryz.prog 113 [.ag (ePr p)] (.ag (ePr p)):=by
 have c1:=copyW_d p.l h1.1 h1.2
 have c2:=copyW_d p.r h2.1 h2.2
 have c3:=rutypes_d p.m h3
 rw[eTm_eq] at c1 c2
 rw[ePr_at]
 refine calldw 0 13 [ResultVar.cell 2 64] TRS_ok Tryz.func113 rfl Tryz.ntmps113 rfl fun cx hnt hn0=>?_
 ·skip
  refine dw_seq ?_;refine dwk [] TRS_ok hnt fun _ z9=>z9 _ _ ?_;refine dw_seq ?_;refine dwkD [] TRS_ok hnt fun K hK=>?_;refine dcl (c1) ?_;refine dcl (c2) ?_;refine dcl (c3) ?_;refine hK _ _ (by kernel_rfl) ?_;clear hK K;refine dw_ret ?_
  exact reta rfl
theorem ruswap_d (p:Li.Pr)(h1:p.l.full≤900000∧p.l.Fit)(h2:p.r.full≤900000∧p.r.Fit)(h3:Ty.sizes p.m≤800000):PureC Tryz.prog 89 [.ag (ePr p)] (.ag (ePr (Ru.swap p))):=by
 have c:=rucopied_d (Ru.swap p) h2 h1 h3
 rw[Ru.swap_at] at c ⊢
 rw[ePr_at]
 refine calldw 0 11 [ResultVar.cell 2 64] TRS_ok Tryz.func89 rfl Tryz.ntmps89 rfl fun cx hnt hn0=>?_
 ·skip
  refine dw_seq ?_;refine dwk [] TRS_ok hnt fun _ z9=>z9 _ _ ?_;refine dw_seq ?_;refine dwk [] TRS_ok hnt fun K hK=>?_;refine dcl (c) ?_;refine hK _ _ ?_;clear hK K;refine dw_ret ?_
  exact reta rfl
def TRM_43:TI:=⟨3,true,[Value.int IntKind.i64 0,Value.slice none 0 0,Value.slice none 0 0],[(0,1,false),(1,1,false),(2,1,false)],none,56,6,none,false⟩
theorem TRM_43_ok:TypOk Tryz.prog 43 TRM_43:=by constructor <;> kernel_rfl
def TRM_41:TI:=⟨1,false,[Value.slice none 0 0],[],some 106,24,5,none,false⟩
theorem TRM_41_ok:TypOk Tryz.prog 41 TRM_41:=by constructor <;> kernel_rfl
def TRM_24:TI:=⟨3,true,[Value.int IntKind.i64 0,Value.slice none 0 0,Value.slice none 0 0],[(0,1,false),(1,1,false),(2,1,false)],none,56,6,none,false⟩
theorem TRM_24_ok:TypOk Tryz.prog 24 TRM_24:=by constructor <;> kernel_rfl
def TRM_22:TI:=⟨1,false,[Value.slice none 0 0],[],some 104,24,5,none,false⟩
theorem TRM_22_ok:TypOk Tryz.prog 22 TRM_22:=by constructor <;> kernel_rfl
def TRM_64:TI:=⟨9,true,[Value.slice none 0 0,Value.int IntKind.i64 0,Value.int IntKind.i64 0,Value.slice none 0 0,Value.slice none 0 0,Value.int IntKind.i64 0,Value.int IntKind.i64 0,Value.slice none 0 0,Value.slice none 0 0],[(0,4,true),(4,4,true),(8,1,false)],none,152,6,none,false⟩
theorem TRM_64_ok:TypOk Tryz.prog 64 TRM_64:=by constructor <;> kernel_rfl
def TRM_3:TI:=⟨1,false,[Value.int IntKind.i64 0],[],none,8,2,none,false⟩
theorem TRM_3_ok:TypOk Tryz.prog 3 TRM_3:=by constructor <;> kernel_rfl
def TRM_104:TI:=⟨2,true,[Value.slice none 0 0,Value.int IntKind.i64 0],[(0,1,false),(1,1,false)],none,32,6,none,false⟩
theorem TRM_104_ok:TypOk Tryz.prog 104 TRM_104:=by constructor <;> kernel_rfl
def TRM_106:TI:=⟨2,true,[Value.slice none 0 0,Value.int IntKind.i64 0],[(0,1,false),(1,1,false)],none,32,6,none,false⟩
theorem TRM_106_ok:TypOk Tryz.prog 106 TRM_106:=by constructor <;> kernel_rfl
def TRM:List (Nat×TI):=[(43,TRM_43),(41,TRM_41),(24,TRM_24),(22,TRM_22),(64,TRM_64),(3,TRM_3),(104,TRM_104),(106,TRM_106)]
theorem TRM_ok:TabOk Tryz.prog TRM:=(((((((((TabOk.nil _).cons TRM_106_ok).cons TRM_104_ok).cons TRM_3_ok).cons TRM_64_ok).cons TRM_22_ok).cons TRM_24_ok).cons TRM_41_ok).cons TRM_43_ok)
namespace Ru
end Ru
theorem ePrs_append (l r:List Li.Pr):ePrs (l++r)=ePrs l++ePrs r:=List.map_append ..
theorem ePrs_one (x:Li.Pr):ePrs [x]=[[.sl 2 (eTys x.l.binds) none,.v (.int .i64 x.l.kind),.v (.int .i64 x.l.index),.sl 4 (eTms x.l.args) none,.sl 2 (eTys x.r.binds) none,.v (.int .i64 x.r.kind),.v (.int .i64 x.r.index),.sl 4 (eTms x.r.args) none,.sl 2 (eTys x.m) none]]:=rfl
theorem ePrs_snoc (l:List Li.Pr)(x:Li.Pr):ePrs l++[[.sl 2 (eTys x.l.binds) none,.v (.int .i64 x.l.kind),.v (.int .i64 x.l.index),.sl 4 (eTms x.l.args) none,.sl 2 (eTys x.r.binds) none,.v (.int .i64 x.r.kind),.v (.int .i64 x.r.index),.sl 4 (eTms x.r.args) none,.sl 2 (eTys x.m) none]]=ePrs (l++[x]):=by rw[ePrs_append,ePrs_one]
theorem twd_d (b:Int)(C M:List Ty)(h1:Ty.sizes C≤900000)(h2:Ty.sizes M≤900000):PureC Tryz.prog 12 [.ag [.v (.int .i64 b),.sl 2 (eTys C) none,.sl 2 (eTys M) none]] (.ag [.v (.int .i64 b),.sl 2 (eTys C) none,.sl 2 (eTys M) none]):=by
 have hC:=toTys_d C h1
 have hM:=toTys_d M h2
 refine calldw 0 12 [ResultVar.cell 2 43] TRM_ok Tryz.func12 rfl Tryz.ntmps12 rfl fun cx hnt hn0=>?_
 ·skip
  refine dw_seq ?_;refine dwk [] TRM_ok hnt fun _ z9=>z9 _ _ ?_;refine dw_seq ?_;refine dwkD [] TRM_ok hnt fun K hK=>?_;refine dcl (hC) ?_;refine dcl (hM) ?_;refine hK _ _ (by kernel_rfl) ?_;clear hK K;refine dw_ret ?_
  exact reta rfl
theorem ruworld_d (b:Int)(C Mw:List Ty)(p:Li.Pr)(h1:Ty.sizes C≤800000)(h2:Ty.sizes p.m≤800000):PureC Tryz.prog 78 [.ag [.v (.int .i64 b),.sl 2 (eTys C) none,.sl 2 (eTys Mw) none],.ag (ePr p)] (.ag [.v (.int .i64 b),.sl 2 (eTys C) none,.sl 2 (eTys p.m) none]):=by
 have hC:=rutypes_d C h1
 have hM:=rutypes_d p.m h2
 rw[ePr_at]
 refine calldw 0 14 [ResultVar.cell 4 43] TRM_ok Tryz.func78 rfl Tryz.ntmps78 rfl fun cx hnt hn0=>?_
 ·skip
  refine dw_seq ?_;refine dwk [] TRM_ok hnt fun _ z9=>z9 _ _ ?_;refine dw_seq ?_;refine dwkD [] TRM_ok hnt fun K hK=>?_;refine dcl (hC) ?_;refine dcl (hM) ?_;refine hK _ _ (by kernel_rfl) ?_;clear hK K;refine dw_ret ?_
  exact reta rfl
def TAUP_25:TI:=⟨1,false,[Value.slice none 0 0],[],some 33,24,5,none,false⟩
theorem TAUP_25_ok:TypOk Tryz.prog 25 TAUP_25:=by constructor <;> kernel_rfl
def TAUP_33:TI:=⟨9,true,[Value.slice none 0 0,Value.int IntKind.i64 0,Value.int IntKind.i64 0,Value.slice none 0 0,Value.slice none 0 0,Value.int IntKind.i64 0,Value.int IntKind.i64 0,Value.slice none 0 0,Value.slice none 0 0],[(0,4,true),(4,4,true),(8,1,false)],none,152,6,none,false⟩
theorem TAUP_33_ok:TypOk Tryz.prog 33 TAUP_33:=by constructor <;> kernel_rfl
def TAUP_3:TI:=⟨1,false,[Value.int IntKind.i64 0],[],none,8,2,none,false⟩
theorem TAUP_3_ok:TypOk Tryz.prog 3 TAUP_3:=by constructor <;> kernel_rfl
def TAUP_34:TI:=⟨1,false,[Value.slice none 0 0],[],some 64,24,5,none,false⟩
theorem TAUP_34_ok:TypOk Tryz.prog 34 TAUP_34:=by constructor <;> kernel_rfl
def TAUP_64:TI:=⟨9,true,[Value.slice none 0 0,Value.int IntKind.i64 0,Value.int IntKind.i64 0,Value.slice none 0 0,Value.slice none 0 0,Value.int IntKind.i64 0,Value.int IntKind.i64 0,Value.slice none 0 0,Value.slice none 0 0],[(0,4,true),(4,4,true),(8,1,false)],none,152,6,none,false⟩
theorem TAUP_64_ok:TypOk Tryz.prog 64 TAUP_64:=by constructor <;> kernel_rfl
def TAUP:List (Nat×TI):=[(25,TAUP_25),(33,TAUP_33),(3,TAUP_3),(34,TAUP_34),(64,TAUP_64)]
theorem TAUP_ok:TabOk Tryz.prog TAUP:=((((((TabOk.nil _).cons TAUP_64_ok).cons TAUP_34_ok).cons TAUP_3_ok).cons TAUP_33_ok).cons TAUP_25_ok)
namespace Au
def okA (p:Li.Pr):Bool:=fewP p&&decide (Ru.wt p≤60)
theorem sizes_of {l:List Ty}{n:Nat}(h:∀ t∈l,t.size≤n):Ty.sizes l≤l.length * n:=by
 induction l with
 | nil=>simp[Ty.sizes]
 | cons t l ih=>
  have h1:=h t (by simp)
  have h2:=ih fun u hu=>h u (by simp[hu])
  simp only[Ty.sizes,List.length_cons,Nat.succ_mul]
  omega
end Au
set_option maxHeartbeats 4000000 in
theorem axioms_d (l:List Li.Pr)(hl:l.length≤9223372036854775807):PureC Tryz.prog 7 [.sl 9 (ePrs l) none] (.tu [.sl 9 (ePrs (if (l.take 6).all Au.okA=true then l.take 6 else [])) none,.sl 9 (ePrs (if (l.take 6).all Au.okA=true then l.take 6 else [])) none,.v (.bool ((l.take 6).all Au.okA))]):=by
 obtain⟨m,hm⟩:∃ m,l.take 6=m:=⟨_,rfl⟩
 have hml:m.length=min 6 l.length:=by rw[←hm,List.length_take]
 have hF:=fun p=>few17_d [p] (by simp)
 rw[hm]
 obtain⟨V,hV⟩:∃ V,(if m.all Au.okA=true then m else [])=V:=⟨_,rfl⟩
 obtain⟨B,hB⟩:∃ B,m.all Au.okA=B:=⟨_,rfl⟩
 rw[hV,hB]
 rw[hB] at hV
 have e6:D.sl 9 (List.drop (((none:Option Int).getD 0)).toNat (List.take ((some ((min l.length 6:Nat):Int)).getD ((ePrs l).length:Int)).toNat (ePrs l))) none=D.sl 9 (ePrs m) none:=by
  show D.sl 9 (List.drop 0 (List.take (((min l.length 6:Nat):Int)).toNat (ePrs l))) none=_
  rw[Int.toNat_natCast,List.drop_zero,←hm,ePrs,ePrs,←List.map_take,List.take_eq_take_iff.2 (show min (min l.length 6) l.length=min 6 l.length by omega)]
 obtain⟨O,hO⟩:∃ O:Nat→List Li.Pr,∀ j,m.take j=O j:=⟨_,fun _=>rfl⟩
 have hO0:O 0=[]:=by rw[←hO];rfl
 have hOn:∀ j (h:j<m.length),O j++[m[j]]=O (j+1):=fun j h=>by rw[←hO,←hO,List.take_add_one,List.getElem?_eq_getElem h];rfl
 have hOl:∀ j,j≤m.length→(O j).length=j:=fun j h=>by rw[←hO,List.length_take];omega
 refine calldw 0 43 [ResultVar.tmp 2,ResultVar.tmp 3,ResultVar.tmp 4] TAUP_ok Tryz.func7 rfl Tryz.ntmps7 rfl fun cx hnt hn0=>?_
 ·skip
  refine dw_seq ?_;refine dwk [] TAUP_ok hnt fun _ z9=>z9 _ _ ?_;refine dw_seq ?_;refine dwk [(10,.v (.int .i64 (↑(min l.length 6)))),(11,.sl 9 (ePrs m) none)] TAUP_ok hnt fun K hK=>?_;refine And.intro (dintE (by (rw[ePrs_len];omega))) ?_;refine And.intro (⟨by omega,by rw[ePrs_len];omega⟩) ?_;refine And.intro (VLe.of_eq e6) ?_;refine hK _ _ ?_;clear hK K;refine dw_seq ?_
  refine dwk [] TAUP_ok hnt fun _ z9=>z9 _ _ ?_
  refine DW.vs (VS.rowT (x:=5) (by rw[hnt];decide) 64 9 rfl) ?_
  refine dw_seq ?_;refine dw_seq ?_;refine dwk [] TAUP_ok hnt fun _ z9=>z9 _ _ ?_;refine dw_block ?_
  refine dw_loop (ι:={ j:Nat // j≤m.length∧∀ i (h:i<m.length),i<j→Au.okA m[i]=true }) (fun j=>[(.t 0,.sl 9 (ePrs m) none),(.t 5,.sl 9 (ePrs (O j.1)) (some 10)),(.r 10,.rw 64 9 (O j.1).length),(.t 6,.v (.int .i64 ↑j.1))]) 20 (fun j=>m.length-j.1) (⟨0,Nat.zero_le _,fun i h h2=>by omega⟩) ((by dsimp only;rw[hO0];exact VS.toA)) fun j=>?_
  obtain⟨j,hj,hjo⟩:=j
  dsimp only
  by_cases hlt:j<m.length
  ·obtain⟨p,hp⟩:∃ p,m[j]=p:=⟨_,rfl⟩
   have eP:ePrs [p]=[[.sl 2 (eTys p.l.binds) none,.v (.int .i64 p.l.kind),.v (.int .i64 p.l.index),.sl 4 (eTms p.l.args) none,.sl 2 (eTys p.r.binds) none,.v (.int .i64 p.r.kind),.v (.int .i64 p.r.index),.sl 4 (eTms p.r.args) none,.sl 2 (eTys p.m) none]]:=by rw[←ePr_at];rfl
   have hf:=hF p
   have hgd:(ePrs m).getD j []=[.sl 2 (eTys p.l.binds) none,.v (.int .i64 p.l.kind),.v (.int .i64 p.l.index),.sl 4 (eTms p.l.args) none,.sl 2 (eTys p.r.binds) none,.v (.int .i64 p.r.kind),.v (.int .i64 p.r.index),.sl 4 (eTms p.r.args) none,.sl 2 (eTys p.m) none]:=by rw[ePrs_getD m j hlt,hp,ePr_at]
   have hbad:Au.okA p=false→B=false:=fun h=>by rw[←hB,List.all_eq_false];exact⟨m[j],List.getElem_mem hlt,by rw[hp,h];simp⟩
   cases h1:fewP p with
   | false=>
    have hb:=hbad (by rw[Au.okA,h1];rfl)
    rw[hb,if_neg (by simp)] at hV
    subst hb hV
    rw[show [p].all fewP=false by simp[h1]] at hf
    refine dw_seq ?_;refine dw_seq ?_;refine dwk [(14,.v (.int .i64 (↑m.length))),(15,.v (.bool true))] TAUP_ok hnt fun K hK=>?_;refine And.intro (dintE (by rw[ePrs_len])) ?_;refine And.intro auT ?_;refine hK _ _ ?_;clear hK K;refine dw_cond (t:=true) rfl ?_;rw[if_pos rfl];refine dw_skip ?_;refine dw_seq ?_;refine dw_block ?_;refine dw_seq ?_;refine dw_seq ?_;refine dwk [(20,.q [.sl 2 (eTys p.l.binds) none,.v (.int .i64 p.l.kind),.v (.int .i64 p.l.index),.sl 4 (eTms p.l.args) none,.sl 2 (eTys p.r.binds) none,.v (.int .i64 p.r.kind),.v (.int .i64 p.r.index),.sl 4 (eTms p.r.args) none,.sl 2 (eTys p.m) none]),(22,.sl 9 (ePrs [p]) none)] TAUP_ok hnt fun K hK=>?_
    refine And.intro (⟨by omega,by rw[ePrs_len];omega⟩) ?_;refine And.intro (VLe.of_eq (by rw[Int.toNat_natCast,hgd])) ?_;refine And.intro ((by rw[eP];exact VLe.untag _ _ _)) ?_;refine dcl (hf) ?_;refine hK _ _ ?_;clear hK K;refine dw_cond (t:=true) rfl ?_;rw[if_pos rfl];refine dw_seq ?_;refine dwk [] TAUP_ok hnt fun _ z9=>z9 _ _ ?_;refine dw_ret ?_
    exact reta rfl
   | true=>
    rw[show [p].all fewP=true by simp[h1]] at hf
    obtain⟨⟨z1,z2⟩,z3,z4⟩:=fewP_ok h1
    have hw:=rwt_d p (by omega) (by omega)
    rw[ePr_at] at hw
    by_cases h2:Ru.wt p≤60
    ·have ht:=to17_d p (by omega) (by omega) (by have:=Au.sizes_of z4;omega)
     rw[ePr_at] at ht
     have hsn:=ePrs_snoc (O j) p
     rw[←hp,hOn j hlt,hp] at hsn
     have hl1:(ePrs (O j)).length=(O j).length:=ePrs_len _
     have hl3:=hOl j hj
     have hl2:(ePrs (O (j+1))).length=(O (j+1)).length:=ePrs_len _
     refine dw_seq ?_;refine dw_seq ?_;refine dwk [(14,.v (.int .i64 (↑m.length))),(15,.v (.bool true))] TAUP_ok hnt fun K hK=>?_;refine And.intro (dintE (by rw[ePrs_len])) ?_;refine And.intro auT ?_;refine hK _ _ ?_;clear hK K;refine dw_cond (t:=true) rfl ?_;rw[if_pos rfl];refine dw_skip ?_;refine dw_seq ?_;refine dw_block ?_;refine dw_seq ?_;refine dw_seq ?_;refine dwk [(20,.q [.sl 2 (eTys p.l.binds) none,.v (.int .i64 p.l.kind),.v (.int .i64 p.l.index),.sl 4 (eTms p.l.args) none,.sl 2 (eTys p.r.binds) none,.v (.int .i64 p.r.kind),.v (.int .i64 p.r.index),.sl 4 (eTms p.r.args) none,.sl 2 (eTys p.m) none]),(22,.sl 9 (ePrs [p]) none),(28,.q [.sl 2 (eTys p.l.binds) none,.v (.int .i64 p.l.kind),.v (.int .i64 p.l.index),.sl 4 (eTms p.l.args) none,.sl 2 (eTys p.r.binds) none,.v (.int .i64 p.r.kind),.v (.int .i64 p.r.index),.sl 4 (eTms p.r.args) none,.sl 2 (eTys p.m) none]),(31,.v (.bool false))] TAUP_ok hnt fun K hK=>?_
     refine And.intro (⟨by omega,by rw[ePrs_len];omega⟩) ?_;refine And.intro (VLe.of_eq (by rw[Int.toNat_natCast,hgd])) ?_;refine And.intro ((by rw[eP];exact VLe.untag _ _ _)) ?_;refine dcl (hf) ?_;refine And.intro (⟨by omega,by rw[ePrs_len];omega⟩) ?_;refine And.intro (VLe.of_eq (by rw[Int.toNat_natCast,hgd])) ?_;refine dcl (hw) ?_;refine And.intro (dfalse (by omega)) ?_;refine hK _ _ ?_;clear hK K
     refine dw_cond (t:=false) rfl ?_;rw[if_neg (by simp)];refine dw_skip ?_;refine dwk [(36,.q [.sl 2 (eTys p.l.binds) none,.v (.int .i64 p.l.kind),.v (.int .i64 p.l.index),.sl 4 (eTms p.l.args) none,.sl 2 (eTys p.r.binds) none,.v (.int .i64 p.r.kind),.v (.int .i64 p.r.index),.sl 4 (eTms p.r.args) none,.sl 2 (eTys p.m) none])] TAUP_ok hnt fun K hK=>?_;refine And.intro (⟨by omega,by rw[ePrs_len];omega⟩) ?_
     refine And.intro (VLe.of_eq (by rw[Int.toNat_natCast,hgd])) ?_;refine dcl (ht) ?_;refine And.intro (⟨by omega,by rw[hl1];simp;omega⟩) ?_;refine hK _ _ ?_;clear hK K
     rw[hsn,hl2]
     refine dwk [(17,.v (.int .i64 (↑(j+1))))] TAUP_ok hnt fun K hK=>?_;refine And.intro auI ?_;refine hK _ _ ?_;clear hK K
     refine⟨⟨j+1,hlt,fun i h h3=>if hij:i=j then by subst hij;rw[hp,Au.okA,h1,decide_eq_true h2];rfl else hjo i h (by omega)⟩,by first | omega | (dsimp only;omega),VS.toA⟩
    ·have hb:=hbad (by rw[Au.okA,h1,decide_eq_false h2];rfl)
     rw[hb,if_neg (by simp)] at hV
     subst hb hV
     refine dw_seq ?_;refine dw_seq ?_;refine dwk [(14,.v (.int .i64 (↑m.length))),(15,.v (.bool true))] TAUP_ok hnt fun K hK=>?_;refine And.intro (dintE (by rw[ePrs_len])) ?_;refine And.intro auT ?_;refine hK _ _ ?_;clear hK K;refine dw_cond (t:=true) rfl ?_;rw[if_pos rfl];refine dw_skip ?_;refine dw_seq ?_;refine dw_block ?_;refine dw_seq ?_;refine dw_seq ?_;refine dwk [(20,.q [.sl 2 (eTys p.l.binds) none,.v (.int .i64 p.l.kind),.v (.int .i64 p.l.index),.sl 4 (eTms p.l.args) none,.sl 2 (eTys p.r.binds) none,.v (.int .i64 p.r.kind),.v (.int .i64 p.r.index),.sl 4 (eTms p.r.args) none,.sl 2 (eTys p.m) none]),(22,.sl 9 (ePrs [p]) none),(28,.q [.sl 2 (eTys p.l.binds) none,.v (.int .i64 p.l.kind),.v (.int .i64 p.l.index),.sl 4 (eTms p.l.args) none,.sl 2 (eTys p.r.binds) none,.v (.int .i64 p.r.kind),.v (.int .i64 p.r.index),.sl 4 (eTms p.r.args) none,.sl 2 (eTys p.m) none]),(31,.v (.bool true))] TAUP_ok hnt fun K hK=>?_
     refine And.intro (⟨by omega,by rw[ePrs_len];omega⟩) ?_;refine And.intro (VLe.of_eq (by rw[Int.toNat_natCast,hgd])) ?_;refine And.intro ((by rw[eP];exact VLe.untag _ _ _)) ?_;refine dcl (hf) ?_;refine And.intro (⟨by omega,by rw[ePrs_len];omega⟩) ?_;refine And.intro (VLe.of_eq (by rw[Int.toNat_natCast,hgd])) ?_;refine dcl (hw) ?_;refine And.intro (dtrue (by omega)) ?_;refine hK _ _ ?_;clear hK K
     refine dw_cond (t:=true) rfl ?_;rw[if_pos rfl];refine dw_seq ?_;refine dwk [] TAUP_ok hnt fun _ z9=>z9 _ _ ?_;refine dw_ret ?_
     exact reta rfl
  ·have hje:j=m.length:=by omega
   subst hje
   have hall:m.all Au.okA=true:=by
    rw[List.all_eq_true]
    intro x hx
    obtain⟨i,hi,rfl⟩:=List.getElem_of_mem hx
    exact hjo i hi hi
   rw[hB] at hall
   subst hall
   rw[if_pos rfl] at hV
   have hOm:O m.length=m:=by rw[←hO,List.take_length]
   subst hV
   rw[hOm]
   refine dw_seq ?_;refine dw_seq ?_;refine dwk [(14,.v (.int .i64 (↑m.length))),(15,.v (.bool false))] TAUP_ok hnt fun K hK=>?_;refine And.intro (dintE (by rw[ePrs_len])) ?_;refine And.intro auF ?_;refine hK _ _ ?_;clear hK K;refine dw_cond (t:=false) rfl ?_;rw[if_neg (by simp)];refine dw_exit ?_;refine dw_seq ?_;refine dwk [] TAUP_ok hnt fun _ z9=>z9 _ _ ?_
   refine dw_ret ?_
   exact reta rfl
def TAUG_62:TI:=⟨4,true,[Value.slice none 0 0,Value.int IntKind.i64 0,Value.int IntKind.i64 0,Value.slice none 0 0],[(0,1,false),(1,2,true),(3,1,false)],none,64,6,none,false⟩
theorem TAUG_62_ok:TypOk Tryz.prog 62 TAUG_62:=by constructor <;> kernel_rfl
def TAUG_86:TI:=⟨4,true,[Value.int IntKind.i64 0,Value.bool false,Value.slice none 0 0,Value.slice none 0 0],[(0,1,false),(1,1,false),(2,1,false),(3,1,false)],none,64,6,none,false⟩
theorem TAUG_86_ok:TypOk Tryz.prog 86 TAUG_86:=by constructor <;> kernel_rfl
def TAUG_43:TI:=⟨3,true,[Value.int IntKind.i64 0,Value.slice none 0 0,Value.slice none 0 0],[(0,1,false),(1,1,false),(2,1,false)],none,56,6,none,false⟩
theorem TAUG_43_ok:TypOk Tryz.prog 43 TAUG_43:=by constructor <;> kernel_rfl
def TAUG_78:TI:=⟨1,false,[Value.slice none 0 0],[],some 86,24,5,none,false⟩
theorem TAUG_78_ok:TypOk Tryz.prog 78 TAUG_78:=by constructor <;> kernel_rfl
def TAUG_140:TI:=⟨5,true,[Value.int IntKind.i64 0,Value.slice none 0 0,Value.slice none 0 0,Value.slice none 0 0,Value.int IntKind.i64 0],[(0,3,true),(3,1,false),(4,1,false)],none,88,6,none,false⟩
theorem TAUG_140_ok:TypOk Tryz.prog 140 TAUG_140:=by constructor <;> kernel_rfl
def TAUG_50:TI:=⟨1,false,[Value.int IntKind.i64 0],[],none,8,2,none,false⟩
theorem TAUG_50_ok:TypOk Tryz.prog 50 TAUG_50:=by constructor <;> kernel_rfl
def TAUG_138:TI:=⟨1,false,[Value.pointer none],[],none,8,4,none,false⟩
theorem TAUG_138_ok:TypOk Tryz.prog 138 TAUG_138:=by constructor <;> kernel_rfl
def TAUG_3:TI:=⟨1,false,[Value.int IntKind.i64 0],[],none,8,2,none,false⟩
theorem TAUG_3_ok:TypOk Tryz.prog 3 TAUG_3:=by constructor <;> kernel_rfl
def TAUG_34:TI:=⟨1,false,[Value.slice none 0 0],[],some 64,24,5,none,false⟩
theorem TAUG_34_ok:TypOk Tryz.prog 34 TAUG_34:=by constructor <;> kernel_rfl
def TAUG_64:TI:=⟨9,true,[Value.slice none 0 0,Value.int IntKind.i64 0,Value.int IntKind.i64 0,Value.slice none 0 0,Value.slice none 0 0,Value.int IntKind.i64 0,Value.int IntKind.i64 0,Value.slice none 0 0,Value.slice none 0 0],[(0,4,true),(4,4,true),(8,1,false)],none,152,6,none,false⟩
theorem TAUG_64_ok:TypOk Tryz.prog 64 TAUG_64:=by constructor <;> kernel_rfl
def TAUG:List (Nat×TI):=[(62,TAUG_62),(86,TAUG_86),(43,TAUG_43),(78,TAUG_78),(140,TAUG_140),(50,TAUG_50),(138,TAUG_138),(3,TAUG_3),(34,TAUG_34),(64,TAUG_64)]
theorem TAUG_ok:TabOk Tryz.prog TAUG:=(((((((((((TabOk.nil _).cons TAUG_64_ok).cons TAUG_34_ok).cons TAUG_3_ok).cons TAUG_138_ok).cons TAUG_50_ok).cons TAUG_140_ok).cons TAUG_78_ok).cons TAUG_43_ok).cons TAUG_86_ok).cons TAUG_62_ok)
theorem ePrs_ren (ρ:Nat→Nat)(l:List Li.Pr):D.renss ρ (ePrs l)=ePrs l:=D.renss_id (f:=fun _=>false) (g:=fun _=>false) (fun _ h=>by cases h) _ (ePrs_ok _ _ l)
theorem eSts_ren (ρ:Nat→Nat)(l:List Au.St):D.renss ρ (eSts l)=eSts l:=D.renss_id (f:=fun _=>false) (g:=fun _=>false) (fun _ h=>by cases h) _ (eSts_ok _ _ l)
set_option maxHeartbeats 4000000 in
theorem Chain_d (b:Int)(C Mw:List Ty)(eqs:List Li.Pr)(t:Tm)(l:List Au.St)(code:List Ty→Tm→Ty→Int)(hc:∀ X t u,checkCode C Mw t X u (code X t u))(hCl:C.length≤1000000)(hMl:Mw.length≤1000000) 
  (hel:eqs.length≤1000) (hes:∀ q∈eqs,Au.EqOk q) (hl:l.length≤1000) (hx:∀ x∈l,Au.SOk x) (ht:Au.TOk t) :
  PureC Tryz.prog 32 [.ag [.v (.int .i64 b),.sl 2 (eTys C) none,.sl 2 (eTys Mw) none],.sl 9 (ePrs eqs) none,.ag (eTm t),.sl 4 (eSts l) none] (.tu [.ag (eTm (Au.chain code eqs l t).1),.v (.int .i64 (Au.chain code eqs l t).2)]):=by
 have h:=chain_d b C Mw eqs t l code hc hCl hMl hel hes hl hx ht
 obtain⟨⟨o,e⟩,hO⟩:∃ r,Au.chain code eqs l t=r:=⟨_,rfl⟩
 rw[hO] at h ⊢
 dsimp only at h ⊢
 have h:=h.ren (fun _=>7) (by simp[Au.ck,renOk,D.ok,D.oks,rnames,inN,ckey,eTm_ok,eTms_ok,eTys_ok,ePrs_ok,eSts_ok]) (by intro k h1 k' h2 _;simp[Au.ck,rnames] at h1 h2;rw[h1,h2])
 simp only[Au.ck,List.map_cons,List.map_nil,D.ren,D.rens,renE,Key.ren,eTm_ren,eTys_ren,ePrs_ren,eSts_ren] at h
 rw[eTm_eq t,eTm_eq o] at h ⊢
 refine calldw 0 25 [ResultVar.cell 8 62,ResultVar.tmp 9] TAUG_ok Tryz.func32 rfl Tryz.ntmps32 rfl fun cx hnt hn0=>?_
 ·skip
  refine dw_seq ?_;refine dwk [] TAUG_ok hnt fun _ z9=>z9 _ _ ?_;refine dw_seq ?_;refine dwk [] TAUG_ok hnt fun _ z9=>z9 _ _ ?_;refine dw_seq ?_;refine dwk [] TAUG_ok hnt fun K hK=>?_;refine dcl (h) ?_;refine hK _ _ ?_;clear hK K;refine dw_seq ?_;refine dwkD [] TAUG_ok hnt fun K hK=>?_;refine hK _ _ (by kernel_rfl) ?_;clear hK K;refine dw_ret ?_
  exact reta rfl
theorem Step_d (b:Int)(C Mw:List Ty)(eqs:List Li.Pr)(t:Tm)(x:Au.St)(code:List Ty→Tm→Ty→Int)(hc:∀ X t u,checkCode C Mw t X u (code X t u))(hCl:C.length≤1000000)(hMl:Mw.length≤1000000) 
  (hel:eqs.length≤1000) (hes:∀ q∈eqs,Au.EqOk q) (hx:Au.SOk x) (ht:Au.TOk t) :
  PureC Tryz.prog 26 [.ag [.v (.int .i64 b),.sl 2 (eTys C) none,.sl 2 (eTys Mw) none],.sl 9 (ePrs eqs) none,.ag (eTm t),.ag (eSt x)] (.tu [.ag (eTm (Au.chain code eqs [x] t).1),.v (.int .i64 (Au.chain code eqs [x] t).2)]):=by
 have h:=Chain_d b C Mw eqs t [x] code hc hCl hMl hel hes (by simp) (fun y hy=>by rw[List.mem_singleton] at hy;subst hy;exact hx) ht
 obtain⟨⟨o,e⟩,hO⟩:∃ r,Au.chain code eqs [x] t=r:=⟨_,rfl⟩
 rw[hO] at h ⊢
 dsimp only at h ⊢
 have eS:eSts [x]=[eSt x]:=rfl
 rw[eTm_eq t,eTm_eq o] at h ⊢
 unfold eSt at eS ⊢
 refine calldw 0 18 [ResultVar.cell 8 62,ResultVar.tmp 9] TAUG_ok Tryz.func26 rfl Tryz.ntmps26 rfl fun cx hnt hn0=>?_
 ·skip
  refine dw_seq ?_;refine dwk [] TAUG_ok hnt fun _ z9=>z9 _ _ ?_;refine dw_seq ?_;refine dwk [(14,.sl 4 (eSts [x]) none)] TAUG_ok hnt fun K hK=>?_;refine And.intro ((by rw[eS];exact VLe.untag _ _ _)) ?_;refine dcl (h) ?_;refine hK _ _ ?_;clear hK K;refine dw_ret ?_
  exact reta rfl
def TRUR_43:TI:=⟨3,true,[Value.int IntKind.i64 0,Value.slice none 0 0,Value.slice none 0 0],[(0,1,false),(1,1,false),(2,1,false)],none,56,6,none,false⟩
theorem TRUR_43_ok:TypOk Tryz.prog 43 TRUR_43:=by constructor <;> kernel_rfl
def TRUR_62:TI:=⟨4,true,[Value.slice none 0 0,Value.int IntKind.i64 0,Value.int IntKind.i64 0,Value.slice none 0 0],[(0,1,false),(1,2,true),(3,1,false)],none,64,6,none,false⟩
theorem TRUR_62_ok:TypOk Tryz.prog 62 TRUR_62:=by constructor <;> kernel_rfl
def TRUR_64:TI:=⟨9,true,[Value.slice none 0 0,Value.int IntKind.i64 0,Value.int IntKind.i64 0,Value.slice none 0 0,Value.slice none 0 0,Value.int IntKind.i64 0,Value.int IntKind.i64 0,Value.slice none 0 0,Value.slice none 0 0],[(0,4,true),(4,4,true),(8,1,false)],none,152,6,none,false⟩
theorem TRUR_64_ok:TypOk Tryz.prog 64 TRUR_64:=by constructor <;> kernel_rfl
def TRUR_41:TI:=⟨1,false,[Value.slice none 0 0],[],some 106,24,5,none,false⟩
theorem TRUR_41_ok:TypOk Tryz.prog 41 TRUR_41:=by constructor <;> kernel_rfl
def TRUR_106:TI:=⟨2,true,[Value.slice none 0 0,Value.int IntKind.i64 0],[(0,1,false),(1,1,false)],none,32,6,none,false⟩
theorem TRUR_106_ok:TypOk Tryz.prog 106 TRUR_106:=by constructor <;> kernel_rfl
def TRUR_3:TI:=⟨1,false,[Value.int IntKind.i64 0],[],none,8,2,none,false⟩
theorem TRUR_3_ok:TypOk Tryz.prog 3 TRUR_3:=by constructor <;> kernel_rfl
def TRUR_50:TI:=⟨1,false,[Value.int IntKind.i64 0],[],none,8,2,none,false⟩
theorem TRUR_50_ok:TypOk Tryz.prog 50 TRUR_50:=by constructor <;> kernel_rfl
def TRUR:List (Nat×TI):=[(43,TRUR_43),(62,TRUR_62),(64,TRUR_64),(41,TRUR_41),(106,TRUR_106),(3,TRUR_3),(50,TRUR_50)]
theorem TRUR_ok:TabOk Tryz.prog TRUR:=((((((((TabOk.nil _).cons TRUR_50_ok).cons TRUR_3_ok).cons TRUR_106_ok).cons TRUR_41_ok).cons TRUR_64_ok).cons TRUR_62_ok).cons TRUR_43_ok)
set_option maxHeartbeats 4000000 in
theorem rutypedD_d (b:Int)(C Mw:List Ty)(p:Li.Pr)(hl:p.l.full≤20000∧p.l.Fit)(hr:p.r.full≤20000∧p.r.Fit)(hC:C.length≤900000)(hM:p.m.length≤900000)(hs:∀ t∈C++p.m,t.size≤400000):
  ∃ c:Int,(c=0↔Ru.Good b C p)∧PureC Tryz.prog 46 [.ag [.v (.int .i64 b),.sl 2 (eTys C) none,.sl 2 (eTys Mw) none],.ag (ePr p)] (.v (.int .i64 c)):=by
 obtain⟨w,hw⟩:∃ w:Bool,w=true↔RightWd b C p.m:=by
  by_cases h:RightWd b C p.m
  ·exact⟨true,by simp[h]⟩
  ·exact⟨false,by simp[h]⟩
 have hW1:=tworld_d b C p.m w hw hs
 have r1:=right_d p.l (by omega)
 have r2:=right_d p.r (by omega)
 rw[show decide (p.l.size≤5000∧p.l.depth≤60)=Li.rt p.l from rfl] at r1
 rw[show decide (p.r.size≤5000∧p.r.depth≤60)=Li.rt p.r from rfl] at r2
 have t1:=ttype_d b C p.m p.l (by have:=hl.2;generalize p.l=t at this;cases t;exact(Tm.fit_iff.1 this).2.1) (by omega) (by omega) (by omega)
 rw[ePr_at]
 rw[eTm_eq] at r1 r2 t1
 cases w with
 | false=>
  refine⟨1,⟨fun h=>absurd h (by decide),fun h=>absurd (hw.2 h.w) (by simp)⟩,?_⟩
  ·skip
   refine calldw 0 59 [ResultVar.tmp 4] TRUR_ok Tryz.func46 rfl Tryz.ntmps46 rfl fun cx hnt hn0=>?_
   ·skip
    refine dw_seq ?_;refine dwk [] TRUR_ok hnt fun _ z9=>z9 _ _ ?_;refine dw_seq ?_;refine dwk [] TRUR_ok hnt fun _ z9=>z9 _ _ ?_;refine dw_seq ?_;refine dw_block ?_;refine dw_seq ?_;refine dwk [] TRUR_ok hnt fun K hK=>?_;refine dcl (hW1) ?_;refine hK _ _ ?_;clear hK K;refine dw_cond (t:=true) rfl ?_;rw[if_pos rfl];refine dw_seq ?_;refine dwk [] TRUR_ok hnt fun K hK=>?_
    refine hK _ _ ?_;clear hK K;refine dw_ret ?_
    exact reta rfl
 | true=>
 cases hL:Li.rt p.l with
 | false=>
  rw[hL] at r1
  refine⟨2,⟨fun h=>absurd h (by decide),fun h=>absurd h.l (by rw[hL];simp)⟩,?_⟩
  ·skip
   refine calldw 0 59 [ResultVar.tmp 4] TRUR_ok Tryz.func46 rfl Tryz.ntmps46 rfl fun cx hnt hn0=>?_
   ·skip
    refine dw_seq ?_;refine dwk [] TRUR_ok hnt fun _ z9=>z9 _ _ ?_;refine dw_seq ?_;refine dwk [] TRUR_ok hnt fun _ z9=>z9 _ _ ?_;refine dw_seq ?_;refine dw_block ?_;refine dw_seq ?_;refine dwk [] TRUR_ok hnt fun K hK=>?_;refine dcl (hW1) ?_;refine hK _ _ ?_;clear hK K;refine dw_cond (t:=false) rfl ?_;rw[if_neg (by simp)];refine dw_seq ?_
    refine dwk [] TRUR_ok hnt fun K hK=>?_;refine dcl (r1) ?_;refine hK _ _ ?_;clear hK K;refine dw_cond (t:=true) rfl ?_;rw[if_pos rfl];refine dw_seq ?_;refine dwk [] TRUR_ok hnt fun _ z9=>z9 _ _ ?_;refine dw_ret ?_
    exact reta rfl
 | true=>
 rw[hL] at r1
 cases hR:Li.rt p.r with
 | false=>
  rw[hR] at r2
  refine⟨2,⟨fun h=>absurd h (by decide),fun h=>absurd h.r (by rw[hR];simp)⟩,?_⟩
  ·skip
   refine calldw 0 59 [ResultVar.tmp 4] TRUR_ok Tryz.func46 rfl Tryz.ntmps46 rfl fun cx hnt hn0=>?_
   ·skip
    refine dw_seq ?_;refine dwk [] TRUR_ok hnt fun _ z9=>z9 _ _ ?_;refine dw_seq ?_;refine dwk [] TRUR_ok hnt fun _ z9=>z9 _ _ ?_;refine dw_seq ?_;refine dw_block ?_;refine dw_seq ?_;refine dwk [] TRUR_ok hnt fun K hK=>?_;refine dcl (hW1) ?_;refine hK _ _ ?_;clear hK K;refine dw_cond (t:=false) rfl ?_;rw[if_neg (by simp)];refine dw_seq ?_
    refine dwk [] TRUR_ok hnt fun K hK=>?_;refine dcl (r1) ?_;refine dcl (r2) ?_;refine hK _ _ ?_;clear hK K;refine dw_cond (t:=true) rfl ?_;rw[if_pos rfl];refine dw_seq ?_;refine dwk [] TRUR_ok hnt fun _ z9=>z9 _ _ ?_;refine dw_ret ?_
    exact reta rfl
 | true=>
 rw[hR] at r2
 obtain⟨o,ho⟩:∃ o,tyOf C p.m p.l=o:=⟨_,rfl⟩
 rw[ho] at t1
 cases o with
 | none=>
  simp only[Option.getD_none,Option.isSome_none,Bool.false_eq_true,if_false] at t1
  rw[tyZ_eq] at t1
  refine⟨5,⟨fun h=>absurd h (by decide),fun h=>(by obtain⟨u,h,_⟩:=h.u;rw[ho] at h;cases h)⟩,?_⟩
  ·skip
   refine calldw 0 59 [ResultVar.tmp 4] TRUR_ok Tryz.func46 rfl Tryz.ntmps46 rfl fun cx hnt hn0=>?_
   ·skip
    refine dw_seq ?_;refine dwk [] TRUR_ok hnt fun _ z9=>z9 _ _ ?_;refine dw_seq ?_;refine dwk [] TRUR_ok hnt fun _ z9=>z9 _ _ ?_;refine dw_seq ?_;refine dw_block ?_;refine dw_seq ?_;refine dwk [] TRUR_ok hnt fun K hK=>?_;refine dcl (hW1) ?_;refine hK _ _ ?_;clear hK K;refine dw_cond (t:=false) rfl ?_;rw[if_neg (by simp)];refine dw_seq ?_
    refine dwk [] TRUR_ok hnt fun K hK=>?_;refine dcl (r1) ?_;refine dcl (r2) ?_;refine hK _ _ ?_;clear hK K;refine dw_cond (t:=false) rfl ?_;rw[if_neg (by simp)];refine dw_skip ?_;refine dw_seq ?_;refine dwk [] TRUR_ok hnt fun K hK=>?_;refine dcl (t1) ?_;refine hK _ _ ?_;clear hK K;refine dw_seq ?_;refine dw_seq ?_;refine dwk [(39,.v (.bool true))] TRUR_ok hnt fun K hK=>?_;refine And.intro (bneT (by decide)) ?_
    refine hK _ _ ?_;clear hK K;refine dw_cond (t:=true) rfl ?_;rw[if_pos rfl];refine dw_seq ?_;refine dwk [] TRUR_ok hnt fun _ z9=>z9 _ _ ?_;refine dw_ret ?_
    exact reta rfl
 | some u=>
 simp only[Option.getD_some,Option.isSome_some,if_true] at t1
 rw[eTy_eq] at t1
 by_cases hu:u.args=[]
 ·have hu0:u.args.length=0:=by rw[hu];rfl
  by_cases hi1:IsOf C p.m p.l [] u
  ·have k1:=ruclos_d b C p.m u p.l 0 (by omega) (by omega) (checkYes hL hi1) (by omega) hl.2
   rw[decide_eq_true rfl] at k1
   rw[eTm_eq] at k1
   by_cases hi2:IsOf C p.m p.r [] u
   ·have k2:=ruclos_d b C p.m u p.r 0 (by omega) (by omega) (checkYes hR hi2) (by omega) hr.2
    rw[decide_eq_true rfl] at k2
    rw[eTm_eq] at k2
    refine⟨0,⟨fun _=>⟨hw.1 rfl,hL,hR,u,ho,hu,hi1,hi2⟩,fun _=>rfl⟩,?_⟩
    ·skip
     refine calldw 0 59 [ResultVar.tmp 4] TRUR_ok Tryz.func46 rfl Tryz.ntmps46 rfl fun cx hnt hn0=>?_
     ·skip
      refine dw_seq ?_;refine dwk [] TRUR_ok hnt fun _ z9=>z9 _ _ ?_;refine dw_seq ?_;refine dwk [] TRUR_ok hnt fun _ z9=>z9 _ _ ?_;refine dw_seq ?_;refine dw_block ?_;refine dw_seq ?_;refine dwk [] TRUR_ok hnt fun K hK=>?_;refine dcl (hW1) ?_;refine hK _ _ ?_;clear hK K;refine dw_cond (t:=false) rfl ?_;rw[if_neg (by simp)];refine dw_seq ?_
      refine dwk [] TRUR_ok hnt fun K hK=>?_;refine dcl (r1) ?_;refine dcl (r2) ?_;refine hK _ _ ?_;clear hK K;refine dw_cond (t:=false) rfl ?_;rw[if_neg (by simp)];refine dw_skip ?_;refine dw_seq ?_;refine dwk [] TRUR_ok hnt fun K hK=>?_;refine dcl (t1) ?_;refine hK _ _ ?_;clear hK K;refine dw_seq ?_;refine dw_seq ?_;refine dwk [(39,.v (.bool false)),(43,.v (.int .i64 (↑u.args.length))),(44,.v (.bool false))] TRUR_ok hnt fun K hK=>?_
      refine And.intro (bneF rfl) ?_;refine And.intro (dintE (by rw[eTys_len])) ?_;refine And.intro auF ?_;refine hK _ _ ?_;clear hK K;refine dw_cond (t:=false) rfl ?_;rw[if_neg (by simp)];refine dw_skip ?_;refine dw_seq ?_;refine dwk [] TRUR_ok hnt fun _ z9=>z9 _ _ ?_;refine dw_seq ?_;refine dw_seq ?_;refine dwk [] TRUR_ok hnt fun K hK=>?_;refine dcl (k1) ?_;refine dcl (k2) ?_
      refine hK _ _ ?_;clear hK K;refine dw_cond (t:=false) rfl ?_;rw[if_neg (by simp)];refine dw_skip ?_;refine dw_seq ?_;refine dwk [] TRUR_ok hnt fun _ z9=>z9 _ _ ?_;refine dw_ret ?_
      exact reta rfl
   ·have k2:=ruclos_d b C p.m u p.r 5 (by omega) (by omega) (checkNo hR hi2) (by omega) hr.2
    rw[decide_eq_false (by decide)] at k2
    rw[eTm_eq] at k2
    refine⟨5,⟨fun h=>absurd h (by decide),fun h=>(by obtain⟨u',h,_,_,h4⟩:=h.u;rw[ho] at h;cases h;exact absurd h4 hi2)⟩,?_⟩
    ·skip
     refine calldw 0 59 [ResultVar.tmp 4] TRUR_ok Tryz.func46 rfl Tryz.ntmps46 rfl fun cx hnt hn0=>?_
     ·skip
      refine dw_seq ?_;refine dwk [] TRUR_ok hnt fun _ z9=>z9 _ _ ?_;refine dw_seq ?_;refine dwk [] TRUR_ok hnt fun _ z9=>z9 _ _ ?_;refine dw_seq ?_;refine dw_block ?_;refine dw_seq ?_;refine dwk [] TRUR_ok hnt fun K hK=>?_;refine dcl (hW1) ?_;refine hK _ _ ?_;clear hK K;refine dw_cond (t:=false) rfl ?_;rw[if_neg (by simp)];refine dw_seq ?_
      refine dwk [] TRUR_ok hnt fun K hK=>?_;refine dcl (r1) ?_;refine dcl (r2) ?_;refine hK _ _ ?_;clear hK K;refine dw_cond (t:=false) rfl ?_;rw[if_neg (by simp)];refine dw_skip ?_;refine dw_seq ?_;refine dwk [] TRUR_ok hnt fun K hK=>?_;refine dcl (t1) ?_;refine hK _ _ ?_;clear hK K;refine dw_seq ?_;refine dw_seq ?_;refine dwk [(39,.v (.bool false)),(43,.v (.int .i64 (↑u.args.length))),(44,.v (.bool false))] TRUR_ok hnt fun K hK=>?_
      refine And.intro (bneF rfl) ?_;refine And.intro (dintE (by rw[eTys_len])) ?_;refine And.intro auF ?_;refine hK _ _ ?_;clear hK K;refine dw_cond (t:=false) rfl ?_;rw[if_neg (by simp)];refine dw_skip ?_;refine dw_seq ?_;refine dwk [] TRUR_ok hnt fun _ z9=>z9 _ _ ?_;refine dw_seq ?_;refine dw_seq ?_;refine dwk [] TRUR_ok hnt fun K hK=>?_;refine dcl (k1) ?_;refine dcl (k2) ?_
      refine hK _ _ ?_;clear hK K;refine dw_cond (t:=true) rfl ?_;rw[if_pos rfl];refine dw_seq ?_;refine dwk [] TRUR_ok hnt fun _ z9=>z9 _ _ ?_;refine dw_ret ?_
      exact reta rfl
  ·have k1:=ruclos_d b C p.m u p.l 5 (by omega) (by omega) (checkNo hL hi1) (by omega) hl.2
   rw[decide_eq_false (by decide)] at k1
   rw[eTm_eq] at k1
   refine⟨5,⟨fun h=>absurd h (by decide),fun h=>(by obtain⟨u',h,_,h3,_⟩:=h.u;rw[ho] at h;cases h;exact absurd h3 hi1)⟩,?_⟩
   ·skip
    refine calldw 0 59 [ResultVar.tmp 4] TRUR_ok Tryz.func46 rfl Tryz.ntmps46 rfl fun cx hnt hn0=>?_
    ·skip
     refine dw_seq ?_;refine dwk [] TRUR_ok hnt fun _ z9=>z9 _ _ ?_;refine dw_seq ?_;refine dwk [] TRUR_ok hnt fun _ z9=>z9 _ _ ?_;refine dw_seq ?_;refine dw_block ?_;refine dw_seq ?_;refine dwk [] TRUR_ok hnt fun K hK=>?_;refine dcl (hW1) ?_;refine hK _ _ ?_;clear hK K;refine dw_cond (t:=false) rfl ?_;rw[if_neg (by simp)];refine dw_seq ?_
     refine dwk [] TRUR_ok hnt fun K hK=>?_;refine dcl (r1) ?_;refine dcl (r2) ?_;refine hK _ _ ?_;clear hK K;refine dw_cond (t:=false) rfl ?_;rw[if_neg (by simp)];refine dw_skip ?_;refine dw_seq ?_;refine dwk [] TRUR_ok hnt fun K hK=>?_;refine dcl (t1) ?_;refine hK _ _ ?_;clear hK K;refine dw_seq ?_;refine dw_seq ?_;refine dwk [(39,.v (.bool false)),(43,.v (.int .i64 (↑u.args.length))),(44,.v (.bool false))] TRUR_ok hnt fun K hK=>?_
     refine And.intro (bneF rfl) ?_;refine And.intro (dintE (by rw[eTys_len])) ?_;refine And.intro auF ?_;refine hK _ _ ?_;clear hK K;refine dw_cond (t:=false) rfl ?_;rw[if_neg (by simp)];refine dw_skip ?_;refine dw_seq ?_;refine dwk [] TRUR_ok hnt fun _ z9=>z9 _ _ ?_;refine dw_seq ?_;refine dw_seq ?_;refine dwk [] TRUR_ok hnt fun K hK=>?_;refine dcl (k1) ?_;refine hK _ _ ?_;clear hK K
     refine dw_cond (t:=true) rfl ?_;rw[if_pos rfl];refine dw_seq ?_;refine dwk [] TRUR_ok hnt fun _ z9=>z9 _ _ ?_;refine dw_ret ?_
     exact reta rfl
 ·have hu0:0<u.args.length:=List.length_pos_iff.2 hu
  refine⟨5,⟨fun h=>absurd h (by decide),fun h=>(by obtain⟨u',h,h2,_⟩:=h.u;rw[ho] at h;cases h;exact absurd h2 hu)⟩,?_⟩
  ·skip
   refine calldw 0 59 [ResultVar.tmp 4] TRUR_ok Tryz.func46 rfl Tryz.ntmps46 rfl fun cx hnt hn0=>?_
   ·skip
    refine dw_seq ?_;refine dwk [] TRUR_ok hnt fun _ z9=>z9 _ _ ?_;refine dw_seq ?_;refine dwk [] TRUR_ok hnt fun _ z9=>z9 _ _ ?_;refine dw_seq ?_;refine dw_block ?_;refine dw_seq ?_;refine dwk [] TRUR_ok hnt fun K hK=>?_;refine dcl (hW1) ?_;refine hK _ _ ?_;clear hK K;refine dw_cond (t:=false) rfl ?_;rw[if_neg (by simp)];refine dw_seq ?_
    refine dwk [] TRUR_ok hnt fun K hK=>?_;refine dcl (r1) ?_;refine dcl (r2) ?_;refine hK _ _ ?_;clear hK K;refine dw_cond (t:=false) rfl ?_;rw[if_neg (by simp)];refine dw_skip ?_;refine dw_seq ?_;refine dwk [] TRUR_ok hnt fun K hK=>?_;refine dcl (t1) ?_;refine hK _ _ ?_;clear hK K;refine dw_seq ?_;refine dw_seq ?_;refine dwk [(39,.v (.bool false)),(43,.v (.int .i64 (↑u.args.length))),(44,.v (.bool true))] TRUR_ok hnt fun K hK=>?_
    refine And.intro (bneF rfl) ?_;refine And.intro (dintE (by rw[eTys_len])) ?_;refine And.intro auT ?_;refine hK _ _ ?_;clear hK K;refine dw_cond (t:=true) rfl ?_;rw[if_pos rfl];refine dw_seq ?_;refine dwk [] TRUR_ok hnt fun _ z9=>z9 _ _ ?_;refine dw_ret ?_
    exact reta rfl
def TAUH_62:TI:=⟨4,true,[Value.slice none 0 0,Value.int IntKind.i64 0,Value.int IntKind.i64 0,Value.slice none 0 0],[(0,1,false),(1,2,true),(3,1,false)],none,64,6,none,false⟩
theorem TAUH_62_ok:TypOk Tryz.prog 62 TAUH_62:=by constructor <;> kernel_rfl
def TAUH_43:TI:=⟨3,true,[Value.int IntKind.i64 0,Value.slice none 0 0,Value.slice none 0 0],[(0,1,false),(1,1,false),(2,1,false)],none,56,6,none,false⟩
theorem TAUH_43_ok:TypOk Tryz.prog 43 TAUH_43:=by constructor <;> kernel_rfl
def TAUH_112:TI:=⟨10,true,[Value.slice none 0 0,Value.int IntKind.i64 0,Value.int IntKind.i64 0,Value.slice none 0 0,Value.slice none 0 0,Value.int IntKind.i64 0,Value.int IntKind.i64 0,Value.slice none 0 0,Value.slice none 0 0,Value.slice none 0 0],[(0,9,true),(9,1,false)],none,176,6,none,false⟩
theorem TAUH_112_ok:TypOk Tryz.prog 112 TAUH_112:=by constructor <;> kernel_rfl
def TAUH_64:TI:=⟨9,true,[Value.slice none 0 0,Value.int IntKind.i64 0,Value.int IntKind.i64 0,Value.slice none 0 0,Value.slice none 0 0,Value.int IntKind.i64 0,Value.int IntKind.i64 0,Value.slice none 0 0,Value.slice none 0 0],[(0,4,true),(4,4,true),(8,1,false)],none,152,6,none,false⟩
theorem TAUH_64_ok:TypOk Tryz.prog 64 TAUH_64:=by constructor <;> kernel_rfl
def TAUH_78:TI:=⟨1,false,[Value.slice none 0 0],[],some 86,24,5,none,false⟩
theorem TAUH_78_ok:TypOk Tryz.prog 78 TAUH_78:=by constructor <;> kernel_rfl
def TAUH_50:TI:=⟨1,false,[Value.int IntKind.i64 0],[],none,8,2,none,false⟩
theorem TAUH_50_ok:TypOk Tryz.prog 50 TAUH_50:=by constructor <;> kernel_rfl
def TAUH_34:TI:=⟨1,false,[Value.slice none 0 0],[],some 64,24,5,none,false⟩
theorem TAUH_34_ok:TypOk Tryz.prog 34 TAUH_34:=by constructor <;> kernel_rfl
def TAUH_86:TI:=⟨4,true,[Value.int IntKind.i64 0,Value.bool false,Value.slice none 0 0,Value.slice none 0 0],[(0,1,false),(1,1,false),(2,1,false),(3,1,false)],none,64,6,none,false⟩
theorem TAUH_86_ok:TypOk Tryz.prog 86 TAUH_86:=by constructor <;> kernel_rfl
def TAUH:List (Nat×TI):=[(62,TAUH_62),(43,TAUH_43),(112,TAUH_112),(64,TAUH_64),(78,TAUH_78),(50,TAUH_50),(34,TAUH_34),(86,TAUH_86)]
theorem TAUH_ok:TabOk Tryz.prog TAUH:=(((((((((TabOk.nil _).cons TAUH_86_ok).cons TAUH_34_ok).cons TAUH_50_ok).cons TAUH_78_ok).cons TAUH_64_ok).cons TAUH_112_ok).cons TAUH_43_ok).cons TAUH_62_ok)
namespace Au
structure Lm where
 p:Li.Pr
 l:List St
def lemma1 (code:List Ty→Tm→Ty→Int)(eqs:List Li.Pr)(c:Int)(x:Lm):Int:=
 if c≠0 then c else if (chain code eqs x.l x.p.l).2=0∧(chain code eqs x.l x.p.l).1≠x.p.r then 12 else (chain code eqs x.l x.p.l).2
end Au
def eLm (x:Au.Lm):List D:=[.sl 2 (eTys x.p.l.binds) none,.v (.int .i64 x.p.l.kind),.v (.int .i64 x.p.l.index),.sl 4 (eTms x.p.l.args) none,.sl 2 (eTys x.p.r.binds) none,.v (.int .i64 x.p.r.kind),.v (.int .i64 x.p.r.index),.sl 4 (eTms x.p.r.args) none,.sl 2 (eTys x.p.m) none,.sl 4 (eSts x.l) none]
set_option maxHeartbeats 4000000 in
theorem Lemma_d (b:Int)(C Mw:List Ty)(eqs:List Li.Pr)(x:Au.Lm)(c:Int)(code:List Ty→Tm→Ty→Int) 
  (hT:PureC Tryz.prog 46 [.ag [.v (.int .i64 b),.sl 2 (eTys C) none,.sl 2 (eTys Mw) none],.ag (ePr x.p)] (.v (.int .i64 c)))
  (hc:∀ X t u,checkCode C x.p.m t X u (code X t u)) (hCl:C.length≤1000000) (hMl:x.p.m.length≤1000000) (hCs:Ty.sizes C≤800000) (hMs:Ty.sizes x.p.m≤800000)
  (hel:eqs.length≤1000) (hes:∀ q∈eqs,Au.EqOk q) (hl:x.l.length≤1000) (hx:∀ y∈x.l,Au.SOk y) (ht:Au.TOk x.p.l) :
  PureC Tryz.prog 43 [.ag [.v (.int .i64 b),.sl 2 (eTys C) none,.sl 2 (eTys Mw) none],.sl 9 (ePrs eqs) none,.ag (eLm x)] (.v (.int .i64 (Au.lemma1 code eqs c x))):=by
 have hW:=ruworld_d b C Mw x.p hCs hMs
 have hCh:=Chain_d b C x.p.m eqs x.p.l x.l code hc hCl hMl hel hes hl hx ht
 obtain⟨v,hv⟩:∃ v,Au.lemma1 code eqs c x=v:=⟨_,rfl⟩
 rw[hv]
 unfold Au.lemma1 at hv
 obtain⟨⟨o,e⟩,hO⟩:∃ r,Au.chain code eqs x.l x.p.l=r:=⟨_,rfl⟩
 rw[hO] at hCh hv
 dsimp only at hCh hv
 have hE:=equal2_d o x.p.r
 rw[ePr_at] at hT hW
 simp only[eTm_eq] at hCh hE
 unfold eLm
 by_cases h0:c=0
 ·rw[if_neg (fun h=>h h0)] at hv
  refine calldw 0 42 [ResultVar.tmp 6] TAUH_ok Tryz.func43 rfl Tryz.ntmps43 rfl fun cx hnt hn0=>?_
  ·skip
   refine dw_seq ?_;refine dwk [] TAUH_ok hnt fun _ z9=>z9 _ _ ?_;refine dw_seq ?_;refine dw_seq ?_;refine dwk [] TAUH_ok hnt fun K hK=>?_;refine dcl (hT) ?_;refine hK _ _ ?_;clear hK K;refine dw_seq ?_;refine dwk [(15,.v (.bool false))] TAUH_ok hnt fun K hK=>?_;refine And.intro (bneF h0) ?_;refine hK _ _ ?_;clear hK K;refine dw_cond (t:=false) rfl ?_;rw[if_neg (by simp)]
   refine dw_skip ?_;refine dw_seq ?_;refine dwkD [] TAUH_ok hnt fun K hK=>?_;refine dcl (hW) ?_;refine dcl (hCh) ?_;refine hK _ _ (by kernel_rfl) ?_;clear hK K
   by_cases h1:e=0
   ·by_cases h2:o=x.p.r
    ·rw[if_neg (fun h=>h.2 h2)] at hv
     subst hv
     rw[decide_eq_true h2] at hE
     refine dw_seq ?_;refine dw_seq ?_;refine dwk [(32,.v (.bool true))] TAUH_ok hnt fun K hK=>?_;refine And.intro (beqT h1) ?_;refine dcl (hE) ?_;refine hK _ _ ?_;clear hK K;refine dw_cond (t:=false) rfl ?_;rw[if_neg (by simp)];refine dw_skip ?_;refine dw_seq ?_;refine dwk [] TAUH_ok hnt fun _ z9=>z9 _ _ ?_;refine dw_ret ?_
     exact reta rfl
    ·rw[if_pos ⟨h1,h2⟩] at hv
     subst hv
     rw[decide_eq_false h2] at hE
     refine dw_seq ?_;refine dw_seq ?_;refine dwk [(32,.v (.bool true))] TAUH_ok hnt fun K hK=>?_;refine And.intro (beqT h1) ?_;refine dcl (hE) ?_;refine hK _ _ ?_;clear hK K;refine dw_cond (t:=true) rfl ?_;rw[if_pos rfl];refine dwk [] TAUH_ok hnt fun _ z9=>z9 _ _ ?_;refine dw_seq ?_;refine dwk [] TAUH_ok hnt fun _ z9=>z9 _ _ ?_;refine dw_ret ?_
     exact reta rfl
   ·rw[if_neg (fun h=>h1 h.1)] at hv
    subst hv
    refine dw_seq ?_;refine dw_seq ?_;refine dwk [(32,.v (.bool false))] TAUH_ok hnt fun K hK=>?_;refine And.intro (beqF h1) ?_;refine hK _ _ ?_;clear hK K;refine dw_cond (t:=false) rfl ?_;rw[if_neg (by simp)];refine dw_skip ?_;refine dw_seq ?_;refine dwk [] TAUH_ok hnt fun _ z9=>z9 _ _ ?_;refine dw_ret ?_
    exact reta rfl
 ·rw[if_pos h0] at hv
  subst hv
  refine calldw 0 42 [ResultVar.tmp 6] TAUH_ok Tryz.func43 rfl Tryz.ntmps43 rfl fun cx hnt hn0=>?_
  ·skip
   refine dw_seq ?_;refine dwk [] TAUH_ok hnt fun _ z9=>z9 _ _ ?_;refine dw_seq ?_;refine dw_seq ?_;refine dwk [] TAUH_ok hnt fun K hK=>?_;refine dcl (hT) ?_;refine hK _ _ ?_;clear hK K;refine dw_seq ?_;refine dwk [(15,.v (.bool true))] TAUH_ok hnt fun K hK=>?_;refine And.intro (bneT h0) ?_;refine hK _ _ ?_;clear hK K;refine dw_cond (t:=true) rfl ?_;rw[if_pos rfl]
   refine dw_seq ?_;refine dwk [] TAUH_ok hnt fun _ z9=>z9 _ _ ?_;refine dw_ret ?_
   exact reta rfl
def TAUI_64:TI:=⟨9,true,[Value.slice none 0 0,Value.int IntKind.i64 0,Value.int IntKind.i64 0,Value.slice none 0 0,Value.slice none 0 0,Value.int IntKind.i64 0,Value.int IntKind.i64 0,Value.slice none 0 0,Value.slice none 0 0],[(0,4,true),(4,4,true),(8,1,false)],none,152,6,none,false⟩
theorem TAUI_64_ok:TypOk Tryz.prog 64 TAUI_64:=by constructor <;> kernel_rfl
def TAUI_34:TI:=⟨1,false,[Value.slice none 0 0],[],some 64,24,5,none,false⟩
theorem TAUI_34_ok:TypOk Tryz.prog 34 TAUI_34:=by constructor <;> kernel_rfl
def TAUI_45:TI:=⟨1,false,[Value.slice none 0 0],[],some 112,24,5,none,false⟩
theorem TAUI_45_ok:TypOk Tryz.prog 45 TAUI_45:=by constructor <;> kernel_rfl
def TAUI_112:TI:=⟨10,true,[Value.slice none 0 0,Value.int IntKind.i64 0,Value.int IntKind.i64 0,Value.slice none 0 0,Value.slice none 0 0,Value.int IntKind.i64 0,Value.int IntKind.i64 0,Value.slice none 0 0,Value.slice none 0 0,Value.slice none 0 0],[(0,9,true),(9,1,false)],none,176,6,none,false⟩
theorem TAUI_112_ok:TypOk Tryz.prog 112 TAUI_112:=by constructor <;> kernel_rfl
def TAUI_47:TI:=⟨1,true,[Value.slice none 0 0],[(0,1,false)],none,24,6,none,false⟩
theorem TAUI_47_ok:TypOk Tryz.prog 47 TAUI_47:=by constructor <;> kernel_rfl
def TAUI_3:TI:=⟨1,false,[Value.int IntKind.i64 0],[],none,8,2,none,false⟩
theorem TAUI_3_ok:TypOk Tryz.prog 3 TAUI_3:=by constructor <;> kernel_rfl
def TAUI_43:TI:=⟨3,true,[Value.int IntKind.i64 0,Value.slice none 0 0,Value.slice none 0 0],[(0,1,false),(1,1,false),(2,1,false)],none,56,6,none,false⟩
theorem TAUI_43_ok:TypOk Tryz.prog 43 TAUI_43:=by constructor <;> kernel_rfl
def TAUI_50:TI:=⟨1,false,[Value.int IntKind.i64 0],[],none,8,2,none,false⟩
theorem TAUI_50_ok:TypOk Tryz.prog 50 TAUI_50:=by constructor <;> kernel_rfl
def TAUI_62:TI:=⟨4,true,[Value.slice none 0 0,Value.int IntKind.i64 0,Value.int IntKind.i64 0,Value.slice none 0 0],[(0,1,false),(1,2,true),(3,1,false)],none,64,6,none,false⟩
theorem TAUI_62_ok:TypOk Tryz.prog 62 TAUI_62:=by constructor <;> kernel_rfl
def TAUI_41:TI:=⟨1,false,[Value.slice none 0 0],[],some 106,24,5,none,false⟩
theorem TAUI_41_ok:TypOk Tryz.prog 41 TAUI_41:=by constructor <;> kernel_rfl
def TAUI_106:TI:=⟨2,true,[Value.slice none 0 0,Value.int IntKind.i64 0],[(0,1,false),(1,1,false)],none,32,6,none,false⟩
theorem TAUI_106_ok:TypOk Tryz.prog 106 TAUI_106:=by constructor <;> kernel_rfl
def TAUI:List (Nat×TI):=[(64,TAUI_64),(34,TAUI_34),(45,TAUI_45),(112,TAUI_112),(47,TAUI_47),(3,TAUI_3),(43,TAUI_43),(50,TAUI_50),(62,TAUI_62),(41,TAUI_41),(106,TAUI_106)]
theorem TAUI_ok:TabOk Tryz.prog TAUI:=((((((((((((TabOk.nil _).cons TAUI_106_ok).cons TAUI_41_ok).cons TAUI_62_ok).cons TAUI_50_ok).cons TAUI_43_ok).cons TAUI_3_ok).cons TAUI_47_ok).cons TAUI_112_ok).cons TAUI_45_ok).cons TAUI_34_ok).cons TAUI_64_ok)
theorem cloneR_nil (a:Option Addr)(c nm:Nat):CallN Tryz.prog 47 [.v (.slice a 0 c)] [] nm [(.r nm,.rp 64 9 [])] (.ps nm 0):=by
 refine callPriv_of_dw 8 [ResultVar.tmp 2] TAUI_ok (by kernel_rfl) Tryz.func47 rfl Tryz.ntmps47 rfl (by simp) (by simp[D.ok]) (by simp[D.okss]) ?dbody nm
 case dbody=>
  intro cx hnt hn0
  refine dw_seq ?_;refine dwk [] TAUI_ok hnt fun _ z9=>z9 _ _ ?_
  cases a with
  | none=>
   refine dw_seq ?_;refine dw_seq ?_;refine dwk [(4,.v (.bool true))] TAUI_ok hnt fun K hK=>?_;refine And.intro (VLe.refl _) ?_;refine hK _ _ ?_;clear hK K;refine dw_cond (t:=true) rfl ?_;rw[if_pos rfl];refine dw_seq ?_;refine dwk [] TAUI_ok hnt fun _ z9=>z9 _ _ ?_
   refine DW.vs (VS.rowPT (x:=2) (by rw[hnt];decide) 64 9 rfl) ?_
   refine dw_ret ?_
   exact⟨.inr rfl,_,rfl,rfl⟩
  | some a=>
   refine dw_seq ?_;refine dw_seq ?_;refine dwk [(4,.v (.bool false))] TAUI_ok hnt fun K hK=>?_;refine And.intro (VLe.refl _) ?_;refine hK _ _ ?_;clear hK K;refine dw_cond (t:=false) rfl ?_;rw[if_neg (by simp)];refine dw_skip ?_;refine dw_seq ?_;refine dwk [(5,.ps 3 0)] TAUI_ok hnt fun K hK=>?_;refine And.intro (VLe.ps0 _ _) ?_;refine And.intro (by decide) ?_;refine hK _ _ ?_;clear hK K
   refine dw_ret ?_
   exact⟨.inr rfl,_,rfl,rfl⟩
theorem cloneR_cons (x:Li.Pr)(l:List Li.Pr)(hl:l.length≤900000)(nm:Nat):CallN Tryz.prog 47 [.sl 9 (ePrs (x :: l)) none] [] nm [(.r nm,.rp 64 9 (ePrs (x :: l)))] (.ps nm (x :: l).length):=by
 refine callPriv_of_dw 8 [ResultVar.tmp 2] TAUI_ok (by kernel_rfl) Tryz.func47 rfl Tryz.ntmps47 rfl (by simp) (by simp[D.ok,ePrs_ok]) (by simp[D.okss,ePrs_ok]) ?dbody nm
 case dbody=>
  intro cx hnt hn0
  refine dw_seq ?_;refine dwk [] TAUI_ok hnt fun _ z9=>z9 _ _ ?_;refine dw_seq ?_;refine dw_seq ?_;refine dwk [(4,.v (.bool false))] TAUI_ok hnt fun K hK=>?_;refine And.intro (VLe.refl _) ?_;refine hK _ _ ?_;clear hK K;refine dw_cond (t:=false) rfl ?_;rw[if_neg (by simp)];refine dw_skip ?_;refine dw_seq ?_;refine dwk [(5,.ps 3 0)] TAUI_ok hnt fun K hK=>?_
  refine And.intro (VLe.ps0 _ _) ?_;refine And.intro (by rw[ePrs_len];simp;omega) ?_;refine hK _ _ ?_;clear hK K;refine dw_ret ?_
  exact⟨.inr rfl,3,by rw[show (x :: l).length=(ePrs (x :: l)).length by rw[ePrs_len]];rfl,rfl⟩
theorem cloneR_d (l:List Li.Pr)(hl:l.length≤900000)(nm:Nat):CallN Tryz.prog 47 [.sl 9 (ePrs l) none] [] nm [(.r nm,.rp 64 9 (ePrs l))] (.ps nm l.length):=by
 cases l with
 | cons x l=>exact cloneR_cons x l (by simp at hl;omega) nm
 | nil=>
  refine⟨by kernel_rfl,fun cx Fr m Im w a σ vs hnm hs hv hR=>?_⟩
  match vs,hv with
  | [v],hv=>
   obtain⟨a0,c,bl,off,X,rfl,_⟩:=rel_sl hv.1
   exact(cloneR_nil a0 c nm).2 cx Fr m Im w a σ _ hnm hs ⟨.v _,trivial⟩ hR
theorem ppair_d (p:Li.Pr)(h1:p.l.full≤900000∧p.l.Fit)(h2:p.r.full≤900000∧p.r.Fit)(h3:Ty.sizes p.m≤800000):PureC Tryz.prog 51 [.ag (ePr p)] (.ag (ePr p)):=by
 have c1:=ruswap_d p h1 h2 h3
 have c2:=ruswap_d (Ru.swap p) h2 h1 h3
 rw[show Ru.swap (Ru.swap p)=p from rfl] at c2
 rw[ePr_at p] at c1 c2 ⊢
 rw[ePr_at (Ru.swap p)] at c1 c2
 refine calldw 0 6 [ResultVar.cell 2 64] TAUI_ok Tryz.func51 rfl Tryz.ntmps51 rfl fun cx hnt hn0=>?_
 ·skip
  refine dw_seq ?_;refine dwk [] TAUI_ok hnt fun _ z9=>z9 _ _ ?_;refine dw_seq ?_;refine dwk [] TAUI_ok hnt fun K hK=>?_;refine dcl (c1) ?_;refine dcl (c2) ?_;refine hK _ _ ?_;clear hK K;refine dw_ret ?_
  exact reta rfl
def eLms (l:List Au.Lm):List (List D):=l.map eLm
theorem eLms_len (l:List Au.Lm):(eLms l).length=l.length:=List.length_map ..
theorem eLms_getD (l:List Au.Lm)(i:Nat)(h:i<l.length):(eLms l).getD i []=eLm l[i]:=by
 rw[eLms,List.getD_eq_getElem?_getD,List.getElem?_map,List.getElem?_eq_getElem h];rfl
@[simp] theorem eLm_ok (f g:Nat→Bool) (x:Au.Lm):D.oks f g (eLm x)=true:=by simp[eLm,D.oks,D.ok]
@[simp] theorem eLms_ok (f g:Nat→Bool) (l:List Au.Lm):D.okss f g (eLms l)=true:=D.okss_map _ l fun l _=>eLm_ok f g l
theorem Goal_d (l:List Au.Lm)(hl:l.length≤1000000)(h:∀ x∈l,(x.p.l.full≤900000∧x.p.l.Fit)∧(x.p.r.full≤900000∧x.p.r.Fit)∧Ty.sizes x.p.m≤800000)(hn:l≠[]):
  PureC Tryz.prog 18 [.ag [.sl 10 (eLms l) none]] (.tu [.ag (ePr (l.getLast hn).p),.v (.bool true)]):=by
 have h0:0<l.length:=List.length_pos_iff.2 hn
 obtain⟨x,hx⟩:∃ x,l.getLast hn=x:=⟨_,rfl⟩
 have hxl:l[l.length-1]=x:=by rw[←hx,List.getLast_eq_getElem]
 obtain⟨k,hk⟩:∃ k:Nat,k+1=l.length:=⟨l.length-1,by omega⟩
 have hxk:l[k]=x:=by rw[←hxl];congr 1;omega
 obtain⟨h1,h2,h3⟩:=h x (hx ▸ List.getLast_mem hn)
 have hp:=ppair_d x.p h1 h2 h3
 rw[hx]
 rw[ePr_at] at hp ⊢
 refine calldw 0 19 [ResultVar.cell 2 64,ResultVar.tmp 3] TAUI_ok Tryz.func18 rfl Tryz.ntmps18 rfl fun cx hnt hn0=>?_
 ·skip
  refine dw_seq ?_;refine dwk [] TAUI_ok hnt fun _ z9=>z9 _ _ ?_;refine dw_seq ?_;refine dwk [(7,.v (.int .i64 (↑l.length)))] TAUI_ok hnt fun K hK=>?_;refine And.intro (dintE (by rw[eLms_len])) ?_;refine hK _ _ ?_;clear hK K;refine dw_seq ?_;refine dw_seq ?_;refine dwk [(9,.v (.bool false))] TAUI_ok hnt fun K hK=>?_;refine And.intro (beqF (by omega)) ?_;refine hK _ _ ?_;clear hK K
  refine dw_cond (t:=false) rfl ?_;rw[if_neg (by simp)];refine dw_skip ?_;refine dw_seq ?_;refine dwk [(14,.v (.int .i64 (↑k))),(15,.q [.sl 2 (eTys x.p.l.binds) none,.v (.int .i64 x.p.l.kind),.v (.int .i64 x.p.l.index),.sl 4 (eTms x.p.l.args) none,.sl 2 (eTys x.p.r.binds) none,.v (.int .i64 x.p.r.kind),.v (.int .i64 x.p.r.index),.sl 4 (eTms x.p.r.args) none,.sl 2 (eTys x.p.m) none,.sl 4 (eSts x.l) none])] TAUI_ok hnt fun K hK=>?_
  refine And.intro (dintE (by (rw[IntWalk.i64_in _ (by omega)];omega))) ?_;refine And.intro (⟨by omega,by rw[eLms_len];omega⟩) ?_;refine And.intro (VLe.of_eq (by rw[Int.toNat_natCast,eLms_getD l k (by omega),hxk];rfl)) ?_;refine dcl (hp) ?_;refine hK _ _ ?_;clear hK K;refine dw_ret ?_
  exact reta rfl
def TAUJ_34:TI:=⟨1,false,[Value.slice none 0 0],[],some 64,24,5,none,false⟩
theorem TAUJ_34_ok:TypOk Tryz.prog 34 TAUJ_34:=by constructor <;> kernel_rfl
def TAUJ_64:TI:=⟨9,true,[Value.slice none 0 0,Value.int IntKind.i64 0,Value.int IntKind.i64 0,Value.slice none 0 0,Value.slice none 0 0,Value.int IntKind.i64 0,Value.int IntKind.i64 0,Value.slice none 0 0,Value.slice none 0 0],[(0,4,true),(4,4,true),(8,1,false)],none,152,6,none,false⟩
theorem TAUJ_64_ok:TypOk Tryz.prog 64 TAUJ_64:=by constructor <;> kernel_rfl
def TAUJ_112:TI:=⟨10,true,[Value.slice none 0 0,Value.int IntKind.i64 0,Value.int IntKind.i64 0,Value.slice none 0 0,Value.slice none 0 0,Value.int IntKind.i64 0,Value.int IntKind.i64 0,Value.slice none 0 0,Value.slice none 0 0,Value.slice none 0 0],[(0,9,true),(9,1,false)],none,176,6,none,false⟩
theorem TAUJ_112_ok:TypOk Tryz.prog 112 TAUJ_112:=by constructor <;> kernel_rfl
def TAUJ_43:TI:=⟨3,true,[Value.int IntKind.i64 0,Value.slice none 0 0,Value.slice none 0 0],[(0,1,false),(1,1,false),(2,1,false)],none,56,6,none,false⟩
theorem TAUJ_43_ok:TypOk Tryz.prog 43 TAUJ_43:=by constructor <;> kernel_rfl
def TAUJ_45:TI:=⟨1,false,[Value.slice none 0 0],[],some 112,24,5,none,false⟩
theorem TAUJ_45_ok:TypOk Tryz.prog 45 TAUJ_45:=by constructor <;> kernel_rfl
def TAUJ_3:TI:=⟨1,false,[Value.int IntKind.i64 0],[],none,8,2,none,false⟩
theorem TAUJ_3_ok:TypOk Tryz.prog 3 TAUJ_3:=by constructor <;> kernel_rfl
def TAUJ_47:TI:=⟨1,true,[Value.slice none 0 0],[(0,1,false)],none,24,6,none,false⟩
theorem TAUJ_47_ok:TypOk Tryz.prog 47 TAUJ_47:=by constructor <;> kernel_rfl
def TAUJ_50:TI:=⟨1,false,[Value.int IntKind.i64 0],[],none,8,2,none,false⟩
theorem TAUJ_50_ok:TypOk Tryz.prog 50 TAUJ_50:=by constructor <;> kernel_rfl
def TAUJ:List (Nat×TI):=[(34,TAUJ_34),(64,TAUJ_64),(112,TAUJ_112),(43,TAUJ_43),(45,TAUJ_45),(3,TAUJ_3),(47,TAUJ_47),(50,TAUJ_50)]
theorem TAUJ_ok:TabOk Tryz.prog TAUJ:=(((((((((TabOk.nil _).cons TAUJ_50_ok).cons TAUJ_47_ok).cons TAUJ_3_ok).cons TAUJ_45_ok).cons TAUJ_43_ok).cons TAUJ_112_ok).cons TAUJ_64_ok).cons TAUJ_34_ok)
namespace Au
variable (code:List Ty→List Ty→Tm→Ty→Int) (ct:Li.Pr→Int)
def firstE:List Li.Pr→Int
 | []=>0
 | p :: l=>if ct p≠0 then ct p else firstE l
def lemmas:List Lm→List Li.Pr→Nat→Int×Int
 | [],_,i=>((i:Int),0)
 | x :: l,eqs,i=>if lemma1 (code x.p.m) eqs (ct x.p) x≠0 then ((i:Int),lemma1 (code x.p.m) eqs (ct x.p) x) else lemmas l (eqs++[x.p]) (i+1)
def wh (a:List Li.Pr)(l:List Lm):Int×Int:=if firstE ct a≠0 then (-1,firstE ct a) else lemmas code ct l a 0
def LOk (x:Lm):Prop:=EqOk x.p∧Ty.sizes x.p.m≤800000∧x.l.length≤1000∧∀ y∈x.l,SOk y
theorem EqOk.ok {q:Li.Pr}(h:EqOk q):TOk q.l:=⟨by have:=Tm.size_le_full q.l;have:=h.1.1;omega,h.1.2,by have:=h.1.1;omega⟩
end Au
set_option maxHeartbeats 4000000 in
theorem Where_d (b:Int)(C Mw:List Ty)(a:List Li.Pr)(ls:List Au.Lm)(ct:Li.Pr→Int)(code:List Ty→List Ty→Tm→Ty→Int) 
  (hT:∀ p∈a++ls.map (·.p),PureC Tryz.prog 46 [.ag [.v (.int .i64 b),.sl 2 (eTys C) none,.sl 2 (eTys Mw) none],.ag (ePr p)] (.v (.int .i64 (ct p))))
  (hc:∀ M X t u,checkCode C M t X u (code M X t u)) (hCl:C.length≤1000000) (hCs:Ty.sizes C≤800000)
  (hal:a.length≤100) (ha:∀ q∈a,Au.EqOk q) (hll:ls.length≤100) (hls:∀ x∈ls,Au.LOk x) :
  PureC Tryz.prog 15 [.ag [.v (.int .i64 b),.sl 2 (eTys C) none,.sl 2 (eTys Mw) none],.sl 9 (ePrs a) none,.ag [.sl 10 (eLms ls) none]] (.tu [.v (.int .i64 (Au.wh code ct a ls).1),.v (.int .i64 (Au.wh code ct a ls).2)]):=by
 have hTa:∀ j (h:j<a.length),PureC Tryz.prog 46 [.ag [.v (.int .i64 b),.sl 2 (eTys C) none,.sl 2 (eTys Mw) none],.ag (ePr a[j])] (.v (.int .i64 (ct a[j]))):=fun j h=>hT _ (List.mem_append_left _ (List.getElem_mem h))
 obtain⟨E,hE⟩:∃ E:Nat→List Li.Pr,∀ j,a++(ls.take j).map (·.p)=E j:=⟨_,fun _=>rfl⟩
 have hE0:E 0=a:=by rw[←hE];simp
 have hEn:∀ j (h:j<ls.length),E (j+1)=E j++[ls[j].p]:=fun j h=>by rw[←hE,←hE,List.take_add_one,List.getElem?_eq_getElem h,List.map_append,List.append_assoc];rfl
 have hEl:∀ j,j≤ls.length→(E j).length=a.length+j:=fun j h=>by rw[←hE];simp;omega
 have hEo:∀ j,∀ q∈E j,Au.EqOk q:=fun j q hq=>by
  rw[←hE] at hq
  rcases List.mem_append.1 hq with hq | hq
  ·exact ha q hq
  ·obtain⟨x,hx,rfl⟩:=List.mem_map.1 hq
   exact(hls x (List.mem_of_mem_take hx)).1
 obtain⟨L,hL⟩:∃ L:Nat→Int,∀ j (h:j<ls.length),Au.lemma1 (code ls[j].p.m) (E j) (ct ls[j].p) ls[j]=L j:=⟨fun j=>if h:j<ls.length then Au.lemma1 (code ls[j].p.m) (E j) (ct ls[j].p) ls[j] else 0,fun j h=>by dsimp only;rw[dif_pos h]⟩
 have hLe:∀ j (h:j<ls.length),PureC Tryz.prog 43 [.ag [.v (.int .i64 b),.sl 2 (eTys C) none,.sl 2 (eTys Mw) none],.sl 9 (ePrs (E j)) none,.ag (eLm ls[j])] (.v (.int .i64 (L j))):=fun j h=>by
  rw[←hL j h]
  obtain⟨g1,g2,g3,g4⟩:=hls _ (List.getElem_mem h)
  exact Lemma_d b C Mw (E j) ls[j] (ct ls[j].p) (code ls[j].p.m) (hT _ (List.mem_append_right _ (List.mem_map.2 ⟨_,List.getElem_mem h,rfl⟩))) (hc _) hCl (by have:=g1.2.2;omega) hCs g2 (by rw[hEl j (by omega)];omega) (hEo j) g3 g4 g1.ok
 obtain⟨G,hG⟩:∃ G:Nat→Int×Int,∀ j,Au.lemmas code ct (ls.drop j) (E j) j=G j:=⟨_,fun _=>rfl⟩
 have hGn:∀ j (h:j<ls.length),G j=if L j≠0 then ((j:Int),L j) else G (j+1):=fun j h=>by
  rw[←hG,←hG,List.drop_eq_getElem_cons h,Au.lemmas,hL j h,hEn j h]
 have hGe:G ls.length=((ls.length:Int),0):=by rw[←hG,List.drop_length];rfl
 have hw:Au.wh code ct a ls=if Au.firstE ct a≠0 then (-1,Au.firstE ct a) else G 0:=by rw[←hG,hE0];rfl
 have hF:∀ j (h:j<a.length),Au.firstE ct (a.drop j)=if ct a[j]≠0 then ct a[j] else Au.firstE ct (a.drop (j+1)):=fun j h=>by rw[List.drop_eq_getElem_cons h];rfl
 obtain⟨V,hV⟩:∃ V,Au.wh code ct a ls=V:=⟨_,rfl⟩
 rw[hV] at hw ⊢
 simp only[ePr_at] at hTa
 unfold eLm at hLe
 refine calldw 0 55 [ResultVar.tmp 6,ResultVar.tmp 7] TAUJ_ok Tryz.func15 rfl Tryz.ntmps15 rfl fun cx hnt hn0=>?_
 ·skip
  refine dw_seq ?_;refine dwk [] TAUJ_ok hnt fun _ z9=>z9 _ _ ?_;refine dw_seq ?_;refine dw_seq ?_;refine dwk [(16,.v (.int .i64 (↑a.length)))] TAUJ_ok hnt fun K hK=>?_;refine And.intro (dintE (by rw[ePrs_len])) ?_;refine hK _ _ ?_;clear hK K;refine dw_block ?_
  refine dw_loop (ι:={ j:Nat // j≤a.length∧Au.firstE ct (a.drop j)=Au.firstE ct a }) (fun j=>[(.t 1,.sl 9 (ePrs a) none),(.t 3,.p 0 0),(.t 5,.p 1 0),(.c 0 0,.v (.int .i64 b)),(.c 0 1,.sl 2 (eTys C) none),(.c 0 2,.sl 2 (eTys Mw) none),(.c 1 0,.sl 10 (eLms ls) none),(.t 15,.sl 9 (ePrs a) none),(.t 16,.v (.int .i64 ↑a.length)),(.t 17,.v (.int .i64 ↑j.1))]) 20 (fun j=>a.length-j.1) (⟨0,Nat.zero_le _,rfl⟩) ((by try simp only[List.length_append,List.length_take,List.length_cons,List.length_nil,Nat.zero_add,hE0];exact VS.toA)) fun j=>?_
  obtain⟨j,hj,hje⟩:=j
  dsimp only
  by_cases hlt:j<a.length
  ·have hn:=hF j hlt
   have ht:=hTa j hlt
   by_cases h0:ct a[j]=0
   ·rw[if_neg (fun h=>h h0)] at hn;refine dw_seq ?_;refine dwk [(18,.v (.bool true))] TAUJ_ok hnt fun K hK=>?_;refine And.intro auT ?_;refine hK _ _ ?_;clear hK K;refine dw_seq ?_;refine dw_cond (t:=true) rfl ?_;rw[if_pos rfl];refine dw_skip ?_;refine dw_seq ?_;refine dw_block ?_;refine dw_seq ?_;refine dwk [(19,.q [.sl 2 (eTys a[j].l.binds) none,.v (.int .i64 a[j].l.kind),.v (.int .i64 a[j].l.index),.sl 4 (eTms a[j].l.args) none,.sl 2 (eTys a[j].r.binds) none,.v (.int .i64 a[j].r.kind),.v (.int .i64 a[j].r.index),.sl 4 (eTms a[j].r.args) none,.sl 2 (eTys a[j].m) none])] TAUJ_ok hnt fun K hK=>?_
    refine And.intro (⟨by omega,by rw[ePrs_len];omega⟩) ?_;refine And.intro (VLe.of_eq (by rw[Int.toNat_natCast,ePrs_getD a j hlt,ePr_at])) ?_;refine hK _ _ ?_;clear hK K;refine dw_seq ?_;refine dwk [] TAUJ_ok hnt fun K hK=>?_;refine dcl (ht) ?_;refine hK _ _ ?_;clear hK K;refine dw_seq ?_;refine dwk [(25,.v (.bool false))] TAUJ_ok hnt fun K hK=>?_;refine And.intro (bneF h0) ?_;refine hK _ _ ?_;clear hK K
    refine dw_cond (t:=false) rfl ?_;rw[if_neg (by simp)];refine dw_skip ?_;refine dwk [(27,.v (.int .i64 (↑(j+1))))] TAUJ_ok hnt fun K hK=>?_;refine And.intro auI ?_;refine hK _ _ ?_;clear hK K
    refine⟨⟨j+1,hlt,by rw[←hn,hje]⟩,by first | omega | (dsimp only;omega),VS.toA⟩
   ·rw[if_pos h0] at hn
    rw[←hje,hn,if_pos h0] at hw
    subst hw
    refine dw_seq ?_;refine dwk [(18,.v (.bool true))] TAUJ_ok hnt fun K hK=>?_;refine And.intro auT ?_;refine hK _ _ ?_;clear hK K;refine dw_seq ?_;refine dw_cond (t:=true) rfl ?_;rw[if_pos rfl];refine dw_skip ?_;refine dw_seq ?_;refine dw_block ?_;refine dw_seq ?_;refine dwk [(19,.q [.sl 2 (eTys a[j].l.binds) none,.v (.int .i64 a[j].l.kind),.v (.int .i64 a[j].l.index),.sl 4 (eTms a[j].l.args) none,.sl 2 (eTys a[j].r.binds) none,.v (.int .i64 a[j].r.kind),.v (.int .i64 a[j].r.index),.sl 4 (eTms a[j].r.args) none,.sl 2 (eTys a[j].m) none])] TAUJ_ok hnt fun K hK=>?_
    refine And.intro (⟨by omega,by rw[ePrs_len];omega⟩) ?_;refine And.intro (VLe.of_eq (by rw[Int.toNat_natCast,ePrs_getD a j hlt,ePr_at])) ?_;refine hK _ _ ?_;clear hK K;refine dw_seq ?_;refine dwk [] TAUJ_ok hnt fun K hK=>?_;refine dcl (ht) ?_;refine hK _ _ ?_;clear hK K;refine dw_seq ?_;refine dwk [(25,.v (.bool true))] TAUJ_ok hnt fun K hK=>?_;refine And.intro (bneT h0) ?_;refine hK _ _ ?_;clear hK K
    refine dw_cond (t:=true) rfl ?_;rw[if_pos rfl];refine dw_seq ?_;refine dwk [] TAUJ_ok hnt fun _ z9=>z9 _ _ ?_;refine dw_ret ?_
    exact reta rfl
  ·have hja:j=a.length:=by omega
   subst hja
   rw[List.drop_length] at hje
   rw[←hje,if_neg (fun h=>h rfl)] at hw
   refine dw_seq ?_;refine dwk [(18,.v (.bool false))] TAUJ_ok hnt fun K hK=>?_;refine And.intro auF ?_;refine hK _ _ ?_;clear hK K;refine dw_seq ?_;refine dw_cond (t:=false) rfl ?_;rw[if_neg (by simp)];refine dw_exit ?_;refine dw_seq ?_;refine dwk [] TAUJ_ok hnt fun K hK=>?_;refine dcn (cloneR_d a (by omega) _) ?_;refine hK _ _ ?_;clear hK K
   refine dw_freeze (x:=11) (g:=22) rfl rfl (ePrs_len _) ?_
   rw[←hE0]
   refine dw_seq ?_;refine dw_seq ?_;refine dwk [(32,.v (.int .i64 (↑ls.length)))] TAUJ_ok hnt fun K hK=>?_;refine And.intro (dintE (by rw[eLms_len])) ?_;refine hK _ _ ?_;clear hK K;refine dw_block ?_
   refine dw_loop (ι:={ n:Nat // n≤ls.length∧G n=G 0 }) (fun n=>[(.t 3,.p 0 0),(.t 5,.p 1 0),(.c 0 0,.v (.int .i64 b)),(.c 0 1,.sl 2 (eTys C) none),(.c 0 2,.sl 2 (eTys Mw) none),(.c 1 0,.sl 10 (eLms ls) none),(.t 31,.sl 10 (eLms ls) none),(.t 32,.v (.int .i64 ↑ls.length)),(.t 33,.v (.int .i64 ↑n.1)),(.t 11,.sl 9 (ePrs (E n.1)) (some 22)),(.r 22,.rw 64 9 (ePrs (E n.1)).length)]) 40 (fun n=>ls.length-n.1) (⟨0,Nat.zero_le _,rfl⟩) (VS.toA) fun n=>?_
   obtain⟨n,hn0,hne⟩:=n
   dsimp only
   by_cases hlt:n<ls.length
   ·have hn:=hGn n hlt
    have hl:=hLe n hlt
    have hl1:(ePrs (E n)).length=a.length+n:=by rw[ePrs_len,hEl n (by omega)]
    have hsn:=ePrs_snoc (E n) ls[n].p
    rw[←hEn n hlt] at hsn
    by_cases h0:L n=0
    ·rw[if_neg (fun h=>h h0)] at hn;refine dw_seq ?_;refine dwk [(34,.v (.bool true))] TAUJ_ok hnt fun K hK=>?_;refine And.intro auT ?_;refine hK _ _ ?_;clear hK K;refine dw_seq ?_;refine dw_cond (t:=true) rfl ?_;rw[if_pos rfl];refine dw_skip ?_;refine dw_seq ?_;refine dw_block ?_;refine dw_seq ?_;refine dwk [(36,.q [.sl 2 (eTys ls[n].p.l.binds) none,.v (.int .i64 ls[n].p.l.kind),.v (.int .i64 ls[n].p.l.index),.sl 4 (eTms ls[n].p.l.args) none,.sl 2 (eTys ls[n].p.r.binds) none,.v (.int .i64 ls[n].p.r.kind),.v (.int .i64 ls[n].p.r.index),.sl 4 (eTms ls[n].p.r.args) none,.sl 2 (eTys ls[n].p.m) none,.sl 4 (eSts ls[n].l) none])] TAUJ_ok hnt fun K hK=>?_
     refine And.intro (⟨by omega,by rw[eLms_len];omega⟩) ?_;refine And.intro (VLe.of_eq (by rw[Int.toNat_natCast,eLms_getD ls n hlt];rfl)) ?_;refine hK _ _ ?_;clear hK K;refine dw_seq ?_;refine dw_seq ?_;refine dwk [(39,.sl 9 (ePrs (E n)) none)] TAUJ_ok hnt fun K hK=>?_;refine And.intro (VLe.untag _ _ _) ?_;refine dcl (hl) ?_;refine hK _ _ ?_;clear hK K;refine dw_seq ?_;refine dwk [(43,.v (.bool false))] TAUJ_ok hnt fun K hK=>?_
     refine And.intro (bneF h0) ?_;refine hK _ _ ?_;clear hK K;refine dw_cond (t:=false) rfl ?_;rw[if_neg (by simp)];refine dw_skip ?_;refine dwk [] TAUJ_ok hnt fun K hK=>?_;refine And.intro (⟨by omega,by rw[hl1];simp;omega⟩) ?_;refine hK _ _ ?_;clear hK K
     rw[hsn]
     refine dwk [(51,.v (.int .i64 (↑(n+1))))] TAUJ_ok hnt fun K hK=>?_;refine And.intro auI ?_;refine hK _ _ ?_;clear hK K
     refine⟨⟨n+1,hlt,by rw[←hn,hne]⟩,by first | omega | (dsimp only;omega),VS.toA⟩
    ·rw[if_pos h0] at hn
     rw[←hne,hn] at hw
     subst hw
     refine dw_seq ?_;refine dwk [(34,.v (.bool true))] TAUJ_ok hnt fun K hK=>?_;refine And.intro auT ?_;refine hK _ _ ?_;clear hK K;refine dw_seq ?_;refine dw_cond (t:=true) rfl ?_;rw[if_pos rfl];refine dw_skip ?_;refine dw_seq ?_;refine dw_block ?_;refine dw_seq ?_;refine dwk [(36,.q [.sl 2 (eTys ls[n].p.l.binds) none,.v (.int .i64 ls[n].p.l.kind),.v (.int .i64 ls[n].p.l.index),.sl 4 (eTms ls[n].p.l.args) none,.sl 2 (eTys ls[n].p.r.binds) none,.v (.int .i64 ls[n].p.r.kind),.v (.int .i64 ls[n].p.r.index),.sl 4 (eTms ls[n].p.r.args) none,.sl 2 (eTys ls[n].p.m) none,.sl 4 (eSts ls[n].l) none])] TAUJ_ok hnt fun K hK=>?_
     refine And.intro (⟨by omega,by rw[eLms_len];omega⟩) ?_;refine And.intro (VLe.of_eq (by rw[Int.toNat_natCast,eLms_getD ls n hlt];rfl)) ?_;refine hK _ _ ?_;clear hK K;refine dw_seq ?_;refine dw_seq ?_;refine dwk [(39,.sl 9 (ePrs (E n)) none)] TAUJ_ok hnt fun K hK=>?_;refine And.intro (VLe.untag _ _ _) ?_;refine dcl (hl) ?_;refine hK _ _ ?_;clear hK K;refine dw_seq ?_;refine dwk [(43,.v (.bool true))] TAUJ_ok hnt fun K hK=>?_
     refine And.intro (bneT h0) ?_;refine hK _ _ ?_;clear hK K;refine dw_cond (t:=true) rfl ?_;rw[if_pos rfl];refine dw_seq ?_;refine dwk [] TAUJ_ok hnt fun _ z9=>z9 _ _ ?_;refine dw_ret ?_
     exact reta rfl
   ·have hnl:n=ls.length:=by omega
    subst hnl
    rw[←hne,hGe] at hw
    subst hw
    refine dw_seq ?_;refine dwk [(34,.v (.bool false))] TAUJ_ok hnt fun K hK=>?_;refine And.intro auF ?_;refine hK _ _ ?_;clear hK K;refine dw_seq ?_;refine dw_cond (t:=false) rfl ?_;rw[if_neg (by simp)];refine dw_exit ?_;refine dw_seq ?_;refine dwk [(54,.v (.int .i64 (↑ls.length)))] TAUJ_ok hnt fun K hK=>?_;refine And.intro (dintE (by rw[eLms_len])) ?_;refine hK _ _ ?_;clear hK K
    refine dw_ret ?_
    exact reta rfl
end Go.Proofs.YtclihnccilkohaaGreat
