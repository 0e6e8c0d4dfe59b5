/-
  Parts of the proof.
-/
import Derived.WalkKit
import Derived.Deep.AppendLies
import Derived.Lib.AppendZerosOnto
import Derived.Test.YtclihnccilkohaaGreatChecked
import Derived.ProofKit
import Derived.WideKeyArgs
import Derived.OpenShut
import Derived.Test.YtclihnccilkohaaGreatProg
import Derived.Lib.Hide
import Derived.Deep.QuietTactic
import Derived.BigQuiet
import Derived.OrdersHeld
import Derived.Deep.RegionHeld
import Derived.Deep.RegionHeld3
import Derived.Deep.DrawnRows
import Derived.RangeFuncNested
import Derived.RangeFuncBound
import Derived.RangeFuncCalls
import Derived.RangeFuncLeaves
import Derived.Shelf.Abstract
import Derived.Shelf.RegionOpen
import Derived.OwnWalkIn
import Derived.TacticsInMore
import Derived.LoopNIn
import Derived.LoopIn
import Derived.Shelf.Small.Bits
import Derived.Shelf.Small.Wraps
import Derived.Shelf.Strconv.Itoa0
import Derived.Shelf.Sort.Plain
import Derived.Ground.Names2Prog
import Derived.Shelf.Slices.Clone
import Derived.Shelf.Slices.CompactI
import Derived.Shelf.Slices.SearchI
import Derived.Shelf.Slices.Cells
import Derived.Shelf.Slices.In.SortNone
set_option maxRecDepth 100000
set_option maxHeartbeats 1000000
set_option linter.unusedVariables false
set_option linter.unusedSimpArgs false
namespace Go.Proofs.YtclihnccilkohaaGreat
open Go.RowKit
def Keep (F:Nat->Prop)(w w':World):Prop:=∀ k o v,F k->w.cell? ⟨k,o,none⟩=some v->w'.cell? ⟨k,o,none⟩=some v
namespace Keep
variable {F:Nat->Prop} {w w' w'':World}
theorem refl (F:Nat->Prop)(w:World):Keep F w w:=λ _ _ _ _ h=>h
theorem trans (h:Keep F w w')(h':Keep F w' w''):Keep F w w'':=λ k o v hk hv=>h' k o v hk (h k o v hk hv)
theorem lt {k o:Nat}{v:Value}(h:w.cell? ⟨k,o,none⟩=some v):k<w.heap.size:=by
 simp only[World.cell?] at h
 by_cases hk:k<w.heap.size
 ·exact hk
 rw[Array.getElem?_eq_none (by omega)] at h;simp at h
theorem below (h:Keep F w w')(hb:Below w'.heap.size w' w''):Keep F w w'':=
 h.trans λ k o _ _ hv=>(hb.cell (p:=⟨k,o,none⟩) (lt hv)).trans hv
theorem alloc (h:Keep F w w')(o:Obj):Keep F w (w'.alloc o):=h.below ((Below.refl _ _).alloc (Nat.le_refl _) _)
theorem grown (h:Keep F w w'){row:Option Nat}(hg:w'.grownBy w'' row)(hr:∀ k,row=some k->¬ F k):Keep F w w'':=
 h.trans λ k _ _ hk hv=>hg.cell hv (λ e=>hr k e.symm hk)
end Keep
theorem Pm (w:World)(o:Obj)(n:Nat):(w.alloc o).heap[n]?=if n=w.heap.size then some o else w.heap[n]?:=by
 by_cases h:n=w.heap.size
 ·subst h;rw[if_pos rfl];exact heap_alloc_new _ _
 rw[if_neg h]
 show (w.heap.push o)[n]?=_
 rw[Array.getElem?_push,if_neg h]
def Blk (w:World)(n:Nat)(cs:Array Value)(t:TypeId):Prop:=w.heap[n]?=some (.cells cs t (0,0))
namespace Blk
variable {w w':World} {n:Nat} {cs:Array Value} {t:TypeId}
theorem lt (h:Blk w n cs t):n<w.heap.size:=lt_of_block h
theorem new (w:World)(cs:Array Value)(t:TypeId){n:Nat}(h:n=w.heap.size):Blk (w.alloc (.cells cs t)) n cs t:=by
 subst h;exact heap_alloc_new _ _
theorem same (h:Blk w n cs t)(hw:w'.heap[n]?=w.heap[n]?):Blk w' n cs t:=Eq.trans hw h
theorem alloc (h:Blk w n cs t)(o:Obj):Blk (w.alloc o) n cs t:=h.same (by rw[Pm,if_neg (Nat.ne_of_lt h.lt)])
theorem drew (h:Blk w n cs t):Blk w.drew n cs t:=h
theorem below (h:Blk w n cs t)(hb:Below w.heap.size w w'):Blk w' n cs t:=h.same (hb.block n h.lt)
theorem grown (h:Blk w n cs t){row:Option Nat}(hg:w.grownBy w' row)(hne:row≠some n):Blk w' n cs t:=h.same (hg.block n h.lt (Ne.symm hne))
theorem far (h:Blk w n cs t)(p:Addr)(u:Value)(hp:n≠p.block):Blk (w.setCell p u) n cs t:=h.same (Below.heap_setCell _ _ _ _ hp)
theorem set (h:Blk w n cs t)(i:Nat)(u:Value):Blk (w.setCell ⟨n,i,none⟩ u) n (cs.setIfInBounds i u) t:=by
 have h':w.heap[n]?=some (.cells cs t (0,0)):=h
 show (w.heap.modify n _)[n]?=_
 simp[Array.getElem?_modify,h']
theorem cell (h:Blk w n cs t){i:Nat}{v:Value}(hv:cs[i]?=some v):w.cell? ⟨n,i,none⟩=some v:=by
 have h':w.heap[n]?=some (.cells cs t (0,0)):=h
 simp[World.cell?,h',hv]
theorem free (h:Blk w n cs t)(i:Nat):w.frozen? ⟨n,i,none⟩=false:=by
 have h':w.heap[n]?=some (.cells cs t (0,0)):=h
 simp[World.frozen?,h']
end Blk
structure Rp (α:Type) where
 n:Nat
 R:(Nat->Prop)->World->List Value->α->Prop
 len:∀ {F w x a},R F w x a->x.length=n
 one:∀ {F w x a},R F w x a->∀ u∈x,u.oneCell'=true
 keep:∀ {F w w' x a},R F w x a->Keep F w w'->R F w' x a
 weaken:∀ {F F' w x a},R F w x a->(∀ k,k<w.heap.size->F k->F' k)->R F' w x a
def Y6 {α:Type}(r:Rp α)(F:Nat->Prop)(w:World)(v:Value)(l:List α):Prop:=
 ∃ (a:Option Addr) (c bl off:Nat) (X:Nat->List Value),v=.slice a l.length c/\(l.length<=maxLen/\l.length<=c)/\(0<l.length->a=some ⟨bl,off,none⟩/\F bl) /\
  (∀ i j u,i<l.length->(X i)[j]?=some u->w.cell? ⟨bl,off+i * r.n+j,none⟩=some u)/\∀ i (h:i<l.length),r.R F w (X i) l[i]
theorem Y6.keep {α:Type}{r:Rp α}{F:Nat->Prop}{w w':World}{v:Value}{l:List α}(h:Y6 r F w v l)(hw:Keep F w w'):Y6 r F w' v l:=by
 obtain⟨a,c,bl,off,X,hv,hl,ha,h1,h2⟩:=h
 exact⟨a,c,bl,off,X,hv,hl,ha,λ i j u hi hu=>hw _ _ _ (ha (by omega)).2 (h1 i j u hi hu),λ i hi=>r.keep (h2 i hi) hw⟩
theorem Y6.weaken {α:Type}{r:Rp α}{F F':Nat->Prop}{w:World}{v:Value}{l:List α}(hn:0<r.n)(h:Y6 r F w v l)(hF:∀ k,k<w.heap.size->F k->F' k):Y6 r F' w v l:=by
 obtain⟨a,c,bl,off,X,hv,hl,ha,h1,h2⟩:=h
 refine⟨a,c,bl,off,X,hv,hl,λ h0=>⟨(ha h0).1,hF _ ?_ (ha h0).2⟩,h1,λ i hi=>r.weaken (h2 i hi) hF⟩
 have hx:=r.len (h2 0 h0)
 exact Keep.lt (h1 0 0 ((X 0)[0]'(by omega)) h0 (by simp))
def Acc {α:Type}(r:Rp α)(E:TypeId)(base:Nat)(F:Nat->Prop)(w:World)(v:Value)(l:List α):Prop:=
 ∃ X:List (List Value),X.length=l.length/\w.ownsRow base E r.n v l.length X.flatten/\∀ i (h:i<l.length),∃ x,X[i]?=some x/\r.R (λ k=>F k/\v.ownBlock≠some k) w x l[i]
theorem UZ {w w':World}{base:Nat}{e:TypeId}{size:Nat}{v:Value}{n:Nat}{xs:List Value}(h:w.ownsRow base e size v n xs)(hb:Below w.heap.size w w'):w'.ownsRow base e size v n xs:=
 h.kept ⟨hb.os,hb.tape,hb.output,hb.size,λ k hk _=>hb.block k hk⟩ (row:=none) (by cases h:v.ownBlock <;> simp)
namespace Acc
variable {α:Type} {r:Rp α} {E:TypeId} {base:Nat} {F:Nat->Prop} {w w':World} {v:Value} {l:List α}
theorem nil (r:Rp α)(E:TypeId)(base:Nat)(F:Nat->Prop)(w:World):Acc r E base F w (.slice none 0 0) []:=
 ⟨[],rfl,World.ownsRow_nil _ _ _ _,λ i h=>absurd h (by simp)⟩
theorem len_shape (h:Acc r E base F w v l):∃ a c,v=.slice a l.length c:=by
 obtain⟨X,h1,h2,h3⟩:=h
 rcases h2.2 with⟨rfl,h0⟩ | ⟨g,cap,cur,hv,_⟩
 ·exact⟨none,0,by rw[h0]⟩
 exact⟨_,_,hv⟩
theorem base_le (h:Acc r E base F w v l):∀ k,v.ownBlock=some k->base<=k/\k<w.heap.size:=by
 obtain⟨X,h1,h2,h3⟩:=h
 exact h2.lt
theorem sl {F':Nat->Prop}(h:Acc r E base F w v l)(hF:∀ k,k<w.heap.size->F k->F' k)(hbase:∀ k,base<=k->F' k):Y6 r F' w v l:=by
 obtain⟨X,h1,h2,h3⟩:=h
 have hx:∀ i (hi:i<l.length),r.R F' w (X.getD i []) l[i]:=λ i hi=>by
  obtain⟨x,hx,hr⟩:=h3 i hi
  have:X.getD i []=x:=by simp[hx]
  rw[this]
  exact r.weaken hr λ k hk hc=>hF k hk hc.1
 rcases h2.2 with⟨rfl,h0⟩ | ⟨g,cap,cur,rfl,hg,hh,hn,hm,hs,ht⟩
 ·exact⟨none,0,0,0,λ i=>X.getD i [],by rw[h0],by omega,λ h=>absurd h (by omega),λ i _ _ hi=>absurd hi (by omega),hx⟩
 refine⟨some ⟨g,0,none⟩,cap,g,0,λ i=>X.getD i [],rfl,by omega,λ _=>⟨rfl,hbase g hg⟩,λ i j u hi hu=>?_,hx⟩
 have hl:∀ i,i<X.length->(X.getD i []).length=r.n:=λ i hi=>r.len (hx i (by omega))
 have key:X.flatten[i * r.n+j]?=some u:=by
  have hall:∀ (Y:List (List Value)),(∀ i,i<Y.length->(Y.getD i []).length=r.n)->∀ i j u,i<Y.length->(Y.getD i [])[j]?=some u->Y.flatten[i * r.n+j]?=some u:=by
   intro Y
   induction Y with
   | nil=>intro _ i j u hi;simp at hi
   | cons y Y ih=>
    intro hY i j u hi hu
    have hy:y.length=r.n:=by have:=hY 0 (by simp);simpa using this
    rw[List.flatten_cons]
    cases i with
    | zero=>
     simp at hu
     have:j<y.length:=by
      rcases Nat.lt_or_ge j y.length with h | h
      ·exact h
      rw[List.getElem?_eq_none h] at hu;cases hu
     rw[List.getElem?_append_left (by omega)];simpa using hu
    | succ i=>
     rw[List.getElem?_append_right (by rw[hy,Nat.succ_mul];omega)]
     have:=ih (λ i hi=>by have:=hY (i+1) (by simpa using hi);simpa using this) i j u (by simpa using hi) (by simpa using hu)
     rw[<-this];congr 1;rw[hy,Nat.succ_mul];omega
  exact hall X hl i j u (by omega) hu
 rw[<-ht] at key
 simp only[World.cell?,hh]
 rw[List.getElem?_take] at key
 split at key
 ·simpa using key
 cases key
end Acc
def IsSl2 {α:Type}(r:Rp α)(G F:Nat->Prop)(w:World)(v:Value)(l:List α):Prop:=
 ∃ (a:Option Addr) (c bl off:Nat) (X:Nat->List Value),v=.slice a l.length c/\(l.length<=maxLen/\l.length<=c)/\(0<l.length->a=some ⟨bl,off,none⟩/\G bl) /\
  (∀ i j u,i<l.length->(X i)[j]?=some u->w.cell? ⟨bl,off+i * r.n+j,none⟩=some u)/\∀ i (h:i<l.length),r.R F w (X i) l[i]
namespace IsSl2
variable {α:Type} {r:Rp α} {G F:Nat->Prop} {w w':World} {v:Value} {l:List α}
theorem of (h:Y6 r F w v l):IsSl2 r F F w v l:=h
theorem keep (h:IsSl2 r G F w v l)(hG:Keep G w w')(hF:Keep F w w'):IsSl2 r G F w' v l:=by
 obtain⟨a,c,bl,off,X,hv,hl,ha,h1,h2⟩:=h
 exact⟨a,c,bl,off,X,hv,hl,ha,λ i j u hi hu=>hG _ _ _ (ha (by omega)).2 (h1 i j u hi hu),λ i hi=>r.keep (h2 i hi) hF⟩
theorem bel (h:IsSl2 r G F w v l)(hb:Below w.heap.size w w'):IsSl2 r G F w' v l:=h.keep ((Keep.refl _ _).below hb) ((Keep.refl _ _).below hb)
theorem weaken {G' F':Nat->Prop}(hn:0<r.n)(h:IsSl2 r G F w v l)(hG:∀ k,k<w.heap.size->G k->G' k)(hF:∀ k,k<w.heap.size->F k->F' k):IsSl2 r G' F' w v l:=by
 obtain⟨a,c,bl,off,X,hv,hl,ha,h1,h2⟩:=h
 refine⟨a,c,bl,off,X,hv,hl,λ h0=>⟨(ha h0).1,hG _ ?_ (ha h0).2⟩,h1,λ i hi=>r.weaken (h2 i hi) hF⟩
 have hx:=r.len (h2 0 h0)
 exact Keep.lt (h1 0 0 ((X 0)[0]'(by omega)) h0 (by simp))
theorem sl (hn:0<r.n)(h:IsSl2 r G F w v l){F':Nat->Prop}(hG:∀ k,k<w.heap.size->G k->F' k)(hF:∀ k,k<w.heap.size->F k->F' k):Y6 r F' w v l:=h.weaken hn hG hF
theorem shape (h:IsSl2 r G F w v l):∃ a c,v=.slice a l.length c:=by
 obtain⟨a,c,_,_,_,hv,_⟩:=h
 exact⟨a,c,hv⟩
end IsSl2
theorem Acc.sl2 {α:Type}{r:Rp α}{E:TypeId}{base:Nat}{F:Nat->Prop}{w:World}{v:Value}{l:List α}(h:Acc r E base F w v l):IsSl2 r (λ q=>base<=q) F w v l:=by
 obtain⟨X,h1,h2,h3⟩:=h
 let r2:Rp α:={ n:=r.n,R:=λ _ _ x a=>r.R F w x a,len:=r.len,one:=r.one,keep:=λ h _=>h,weaken:=λ h _=>h }
 have h0:Y6 r2 (λ k=>base<=k∨False) w v l:=Acc.sl (F:=λ _=>False) ⟨X,h1,h2,λ i hi=>by
  obtain⟨x,hx,hr⟩:=h3 i hi
  exact⟨x,hx,r.weaken hr λ _ _ hc=>hc.1⟩⟩ (λ _ _ h=>.inr h) (λ _ h=>.inl h)
 obtain⟨a,c,bl,off,Y,hv,hl,ha,g1,g2⟩:=h0
 exact⟨a,c,bl,off,Y,hv,hl,λ h=>⟨(ha h).1,(ha h).2.resolve_right id⟩,g1,g2⟩
/-! a whole slice appended -/
theorem Pg {X:Nat->List Value}{n:Nat}:∀ m,(∀ i,i<m->(X i).length=n)->((List.range m).map X).flatten.length=m * n:=by
 intro m
 induction m with
 | zero=>intro _;simp
 | succ m ih=>
  intro h
  rw[List.range_succ,List.map_append,List.flatten_append,List.length_append,ih (λ i hi=>h i (by omega))]
  simp[h m (by omega),Nat.succ_mul]
theorem LJ {X:Nat->List Value}{n:Nat}(hn:0<n):∀ m,(∀ i,i<m->(X i).length=n)->∀ j u,((List.range m).map X).flatten[j]?=some u->j / n<m/\(X (j / n))[j % n]?=some u:=by
 intro m
 induction m with
 | zero=>intro _ j u h;simp at h
 | succ m ih=>
  intro h j u hj
  have hl:=Pg m (λ i hi=>h i (by omega))
  rw[List.range_succ,List.map_append,List.flatten_append] at hj
  by_cases hjm:j<m * n
  ·rw[List.getElem?_append_left (by omega)] at hj
   have:=ih (λ i hi=>h i (by omega)) j u hj
   exact⟨by omega,this.2⟩
  rw[List.getElem?_append_right (by omega),hl] at hj
  simp at hj
  have hx:=h m (by omega)
  have hlt:j-m * n<n:=by
   rcases Nat.lt_or_ge (j-m * n) n with h' | h'
   ·exact h'
   rw[List.getElem?_eq_none (by omega)] at hj;cases hj
  have e1:j=(j-m * n)+n * m:=by rw[Nat.mul_comm n m];omega
  have e2:j / n=m:=by rw[e1,Nat.add_mul_div_left _ _ hn,Nat.div_eq_of_lt hlt];omega
  have e3:j % n=j-m * n:=by
   conv=>lhs;rw[e1]
   rw[Nat.add_mul_mod_self_left,Nat.mod_eq_of_lt hlt]
  exact⟨by omega,by rw[e2,e3];exact hj⟩
theorem TL {P:Program}(w:World)(t ty e:TypeId)(i:TypeInfo)(ht:P.underlying t=some (.slice e))(hi:P.info? e=some i){base:Nat}{size:Nat}{v:Value}{n:Nat}{xs:List Value} 
  (hown:w.ownsRow base e size v n xs) (c:Nat):(Builtin.append_ #[t,t] ty #[v,.slice none 0 c]).run P w=.ok v w:=by
 rcases hown.2 with⟨rfl,rfl⟩ | ⟨g,cap,cur,rfl,hbg,hg,hnc,hcm,hcs,htake⟩
 ·simp[Builtin.append_,run_underlying ht,sizeOf,typeInfo,hi,Builtin.lenOf,Builtin.firstCells]
 simp[Builtin.append_,run_underlying ht,sizeOf,typeInfo,hi,Builtin.lenOf,Builtin.firstCells,hnc,storeCells]
theorem Rx {α:Type}(r:Rp α)(hrn:0<r.n){P:Program}(w:World)(t ty:TypeId)(base:Nat)(e:TypeId)(i:TypeInfo)(z:Value)(bytes:Nat)(ht:P.underlying t=some (.slice e))(hi:P.info? e=some i)(hz:i.zero=some z) 
  (hsize:i.size=r.n) (hby:i.bytes=bytes) (hzs:z.cells.size=r.n) (hbb:bytes<=1000)
  (F:Nat->Prop) (v:Value) (l:List α) (hacc:Acc r e base F w v l) (x:Value) (l2:List α) {G:Nat->Prop} (hx:IsSl2 r G (λ k=>F k/\v.ownBlock≠some k) w x l2) (hl:l.length+l2.length<=1000000) (hbase:base<=w.heap.size) :
  ∃ v' w',(Builtin.append_ #[t,t] ty #[v,x]).run P w=.ok v' w'/\Acc r e base F w' v' (l++l2)/\w.grownBy w' v.ownBlock/\(v'.ownBlock=v.ownBlock∨v'.ownBlock=some w.heap.size):=by
 obtain⟨X,h1,h2,h3⟩:=hacc
 obtain⟨a,c,bl,off,Y,rfl,hm,ha,g1,g2⟩:=hx
 have hlen:∀ i,i<l2.length->(Y i).length=r.n:=λ i hi=>r.len (g2 i hi)
 have step:∀ v' w',w'.ownsRow base e r.n v' (l.length+l2.length) (X.flatten++((List.range l2.length).map Y).flatten)->w.grownBy w' v.ownBlock->(v'.ownBlock=v.ownBlock∨v'.ownBlock=some w.heap.size)->Acc r e base F w' v' (l++l2):=by
  intro v' w' hown hgrow hat
  have hk:∀ {x:List Value} {b:α},r.R (λ k=>F k/\v.ownBlock≠some k) w x b->r.R (λ k=>F k/\v'.ownBlock≠some k) w' x b:=λ {x b} h=>by
   have h0:=r.keep h ((Keep.refl _ _).grown hgrow (λ k hk hc=>hc.2 hk))
   rcases hat with hat | hat
   ·rw[hat];exact h0
   have h1:r.R (λ k=>F k/\k<w.heap.size/\v.ownBlock≠some k) w x b:=r.weaken h λ k hk hc=>⟨hc.1,hk,hc.2⟩
   have h2:=r.keep h1 ((Keep.refl _ _).grown hgrow (λ k hk hc=>hc.2.2 hk))
   exact r.weaken h2 λ k _ hc=>⟨hc.1,by rw[hat];intro e;cases e;omega⟩
  refine⟨X++(List.range l2.length).map Y,by simp[h1],by simpa using hown,λ i hi=>?_⟩
  by_cases hi':i<l.length
  ·obtain⟨y,hy,hr⟩:=h3 i hi'
   refine⟨y,by rw[List.getElem?_append_left (by omega)];exact hy,?_⟩
   rw[List.getElem_append_left hi'];exact hk hr
  rw[List.length_append] at hi
  have hr:=g2 (i-l.length) (by omega)
  refine⟨Y (i-l.length),by rw[List.getElem?_append_right (by omega),h1,List.getElem?_map,List.getElem?_range (by omega)];rfl,?_⟩
  rw[List.getElem_append_right (by omega)];exact hk hr
 by_cases h0:l2.length=0
 ·have hn:l2=[]:=List.eq_nil_of_length_eq_zero h0
  subst hn
  cases a with
  | none=>
   refine⟨v,w,TL w t ty e i ht hi h2 c,by rw[List.append_nil];exact⟨X,h1,h2,h3⟩,⟨rfl,rfl,rfl,Nat.le_refl _,λ _ _ _=>rfl⟩,.inl rfl⟩
  | some a=>
   obtain⟨v',w',hr,h4,h5,h6,h7⟩:=run_append_own_at (P:=P) w base t ty e i z r.n bytes ht hi hz hsize hby hzs hrn v l.length X.flatten h2 a 0 c [] (by simp) (by simp) (by simp) (by unfold maxLen;simp at hl;omega) (by
    have:(l.length+0) * bytes<=1000000 * 1000:=Nat.mul_le_mul (by simp at hl;omega) hbb
    omega) hbase
   exact⟨v',w',hr,step v' w' (by simpa using h4) h5 h7,h5,h7⟩
 obtain⟨rfl,hF⟩:=ha (by omega)
 obtain⟨v',w',hr,h4,h5,h6,h7⟩:=run_append_own_at (P:=P) w base t ty e i z r.n bytes ht hi hz hsize hby hzs hrn v l.length X.flatten h2 ⟨bl,off,none⟩ l2.length c ((List.range l2.length).map Y).flatten
  (Pg _ hlen) (λ j u hj=>by
   obtain⟨q1,q2⟩:=LJ hrn _ hlen j u hj
   have:=g1 _ _ u q1 q2
   have hadd:(⟨bl,off,none⟩:Addr).add j=⟨bl,off+j / r.n * r.n+j % r.n,none⟩:=by
    have hq:=Nat.div_add_mod' j r.n
    unfold Addr.add
    split
    ·rename_i hj0;simp[hj0]
    simp;omega
   rw[hadd];exact this) (λ u hu=>by
   obtain⟨y,hy,hu⟩:=List.mem_flatten.1 hu
   obtain⟨i,hi,rfl⟩:=List.mem_map.1 hy
   exact r.one (g2 i (by simpa using hi)) u hu) (by unfold maxLen;omega) (by
   have:(l.length+l2.length) * bytes<=1000000 * 1000:=Nat.mul_le_mul (by omega) hbb
   omega) hbase
 exact⟨v',w',hr,step v' w' h4 h5 h7,h5,h7⟩
theorem Vh {P:Program}{w w':World}{ops:Array Oper}{rest:List Oper}{o:Oper}{a:Act}{Q:Exit->Act->World->Prop}(hgd:o.guard=none)(s x:Operand)(ta tb:TypeId)(v':Value) 
  (ho:o.op=.call { callee:=.builtin .append,args:=#[s,x],argTypes:=#[ta,tb] }) (hr:(Builtin.append_ #[ta,tb] o.type #[a.eval s,a.eval x]).run P w=.ok v' w')
  (h:wpList P ops Q rest (a.put o.dst v') w'):wpList P ops Q (o :: rest) a w:=by
 refine wpList_plain hgd λ _ hK=>?_
 unfold Oper.wp execOp
 simp only[ho,resolve,invoke,builtin,Sem.run_bind,Sem.run_pure,Result.andThen_ok,List.map_toArray,List.map_cons,List.map_nil,hr]
 exact hK _ _ h
theorem Uw {α:Type}(r:Rp α)(hrn:0<r.n){P:Program}{w:World}{ops:Array Oper}{rest:List Oper}{o:Oper}{a:Act}{Q:Exit->Act->World->Prop}(hgd:o.guard=none)(s x:Operand)(t:TypeId) 
  (ho:o.op=.call { callee:=.builtin .append,args:=#[s,x],argTypes:=#[t,t] })
  (base:Nat) (e:TypeId) (i:TypeInfo) (z:Value) (bytes:Nat) (ht:P.underlying t=some (.slice e)) (hi:P.info? e=some i) (hz:i.zero=some z)
  (hsize:i.size=r.n) (hby:i.bytes=bytes) (hzs:z.cells.size=r.n) (hbb:bytes<=1000)
  (F:Nat->Prop) (v:Value) (l:List α) (hs:a.eval s=v) (hacc:Acc r e base F w v l) (y:Value) (l2:List α) (hx:a.eval x=y) {G:Nat->Prop} (hy:IsSl2 r G (λ k=>F k/\v.ownBlock≠some k) w y l2) (hl:l.length+l2.length<=1000000) (hbase:base<=w.heap.size)
  (h:∀ v' w',Acc r e base F w' v' (l++l2)->w.grownBy w' v.ownBlock->(v'.ownBlock=v.ownBlock∨v'.ownBlock=some w.heap.size)->wpList P ops Q rest (a.put o.dst v') w') :
  wpList P ops Q (o :: rest) a w:=by
 obtain⟨v',w',hr,h2,h3,h4⟩:=Rx r hrn (P:=P) w t o.type base e i z bytes ht hi hz hsize hby hzs hbb F v l hacc y l2 hy hl hbase
 refine wpList_plain hgd λ _ hK=>?_
 unfold Oper.wp execOp
 simp only[ho,resolve,invoke,builtin,Sem.run_bind,Sem.run_pure,Result.andThen_ok,List.map_toArray,List.map_cons,List.map_nil,hs,hx,hr]
 exact hK _ _ (h v' w' h2 h3 h4)
inductive Ty where
 | mk (args:List Ty) (base:Int)
namespace Ty
def args:Ty->List Ty | .mk a _=>a
def base:Ty->Int | .mk _ b=>b
theorem ind {p:Ty->Prop}(h:∀ args base,(∀ t∈args,p t)->p (.mk args base))(t:Ty):p t:=
 Ty.rec (motive_1:=p) (motive_2:=λ l=>∀ t∈l,p t) (λ a b ih=>h a b ih) (by simp)
  (λ a l ha hl t ht=>by
   rcases List.mem_cons.1 ht with rfl | h
   ·exact ha
   exact hl t h) t
mutual
def size:Ty->Nat
 | .mk a _=>sizes a+1
def sizes:List Ty->Nat
 | []=>0
 | t :: l=>size t+sizes l
end
mutual
def depth:Ty->Nat
 | .mk a _=>depths a+1
def depths:List Ty->Nat
 | []=>0
 | t :: l=>max (depth t) (depths l)
end
theorem sizes_append (l r:List Ty):sizes (l++r)=sizes l+sizes r:=by
 induction l with
 | nil=>simp[sizes]
 | cons t l ih=>simp[sizes,ih];omega
theorem depths_append (l r:List Ty):depths (l++r)=max (depths l) (depths r):=by
 induction l with
 | nil=>simp[depths]
 | cons t l ih=>simp[depths,ih]
theorem sizes_take (l:List Ty)(i:Nat)(h:i<l.length):sizes (l.take (i+1))=sizes (l.take i)+size l[i]:=by
 rw[List.take_succ_eq_append_getElem h,sizes_append];simp[sizes]
theorem depths_take (l:List Ty)(i:Nat)(h:i<l.length):depths (l.take (i+1))=max (depths (l.take i)) (depth l[i]):=by
 rw[List.take_succ_eq_append_getElem h,depths_append];simp[depths]
theorem size_pos (t:Ty):1<=t.size:=by cases t;simp[size]
theorem depth_pos (t:Ty):1<=t.depth:=by cases t;simp[depth]
theorem sizes_take_le (l:List Ty)(i:Nat):sizes (l.take i)<=sizes l:=by
 conv=>rhs;rw[<-List.take_append_drop i l]
 rw[sizes_append];omega
theorem depths_take_le (l:List Ty)(i:Nat):depths (l.take i)<=depths l:=by
 conv=>rhs;rw[<-List.take_append_drop i l]
 rw[depths_append];omega
theorem le_sizes (l:List Ty):l.length<=sizes l:=by
 induction l with
 | nil=>simp[sizes]
 | cons t l ih=>have:=size_pos t;simp[sizes];omega
theorem size_mem {l:List Ty}{t:Ty}(h:t∈l):t.size<=sizes l:=by
 induction l with
 | nil=>cases h
 | cons u l ih=>
  simp only[sizes]
  rcases List.mem_cons.1 h with rfl | h
  ·omega
  have:=ih h;omega
theorem depth_mem {l:List Ty}{t:Ty}(h:t∈l):t.depth<=depths l:=by
 induction l with
 | nil=>cases h
 | cons u l ih=>
  simp only[depths]
  rcases List.mem_cons.1 h with rfl | h
  ·omega
  have:=ih h;omega
theorem size_get {l:List Ty}{b:Int}(i:Nat)(h:i<l.length):l[i].size<(mk l b).size:=by
 have:=size_mem (List.getElem_mem h);simp[size];omega
theorem depth_get {l:List Ty}{b:Int}(i:Nat)(h:i<l.length):l[i].depth<(mk l b).depth:=by
 have:=depth_mem (List.getElem_mem h);simp[depth];omega
theorem length_lt {l:List Ty}{b:Int}:l.length<(mk l b).size:=by
 have:=le_sizes l;simp[size];omega
end Ty
inductive Xj (F:Nat->Prop) (w:World):Value->Value->Ty->Prop where
 | mk (a:Option Addr) (n c:Nat) (b:Int) (args:List Ty) (bl off:Nat) (A:Nat->Option Addr) (N C:Nat->Nat) (B:Nat->Int)
   (hn:args.length=n) (hm:n<=maxLen/\n<=c) (ha:0<n->a=some ⟨bl,off,none⟩/\F bl)
   (h1:∀ i,i<n->w.cell? ⟨bl,off+i * 2,none⟩=some (.slice (A i) (N i) (C i)))
   (h2:∀ i,i<n->w.cell? ⟨bl,off+i * 2+1,none⟩=some (.int .i64 (B i)))
   (h3:∀ i (h:i<args.length),Xj F w (.slice (A i) (N i) (C i)) (.int .i64 (B i)) args[i]) :
   Xj F w (.slice a n c) (.int .i64 b) (.mk args b)
theorem Xj.keep {F:Nat->Prop}{w w':World}{s b:Value}{t:Ty}(h:Xj F w s b t)(hw:Keep F w w'):Xj F w' s b t:=by
 induction h with
 | mk a n c b args bl off A N C B hn hm ha h1 h2 h3 ih=>
  exact Xj.mk a n c b args bl off A N C B hn hm ha (λ i hi=>hw _ _ _ (ha (by omega)).2 (h1 i hi)) (λ i hi=>hw _ _ _ (ha (by omega)).2 (h2 i hi)) ih
theorem Xj.weaken {F F':Nat->Prop}{w:World}{s b:Value}{t:Ty}(h:Xj F w s b t)(hF:∀ k,k<w.heap.size->F k->F' k):Xj F' w s b t:=by
 induction h with
 | mk a n c b args bl off A N C B hn hm ha h1 h2 h3 ih=>
  exact Xj.mk a n c b args bl off A N C B hn hm (λ h=>⟨(ha h).1,hF _ (Keep.lt (h1 0 h)) (ha h).2⟩) h1 h2 ih
theorem Xj.one {F:Nat->Prop}{w:World}{s b:Value}{t:Ty}(h:Xj F w s b t):s.oneCell'=true/\b.oneCell'=true:=by
 cases h;exact⟨rfl,rfl⟩
theorem Xj.shape {F:Nat->Prop}{w:World}{s b:Value}{t:Ty}(h:Xj F w s b t):∃ a c,s=.slice a t.args.length c/\b=.int .i64 t.base:=by
 cases h with
 | mk a n c b args bl off A N C B hn=>subst hn;exact⟨a,c,rfl,rfl⟩
def YD:Rp Ty where
 n:=2
 R F w x t:=∃ s b,x=[s,b]/\Xj F w s b t
 len:=by rintro F w x a ⟨s,b,rfl,_⟩;rfl
 one:=by
  rintro F w x a ⟨s,b,rfl,h⟩ u hu
  have:=h.one
  simp at hu
  rcases hu with rfl | rfl
  ·exact this.1
  exact this.2
 keep:=by rintro F w w' x a ⟨s,b,rfl,h⟩ hk;exact⟨s,b,rfl,h.keep hk⟩
 weaken:=by rintro F F' w x a ⟨s,b,rfl,h⟩ hk;exact⟨s,b,rfl,h.weaken hk⟩
theorem Nu {F:Nat->Prop}{w:World}{v:Value}{l:List Ty}(h:Y6 YD F w v l)(b:Int):Xj F w v (.int .i64 b) (.mk l b):=by
 obtain⟨a,c,bl,off,X,rfl,hl,ha,h1,h2⟩:=h
 let A:Nat->Option Addr:=λ i=>match (X i).getD 0 default with | .slice a _ _=>a | _=>none
 let N:Nat->Nat:=λ i=>match (X i).getD 0 default with | .slice _ n _=>n | _=>0
 let C:Nat->Nat:=λ i=>match (X i).getD 0 default with | .slice _ _ c=>c | _=>0
 let B:Nat->Int:=λ i=>match (X i).getD 1 default with | .int _ b=>b | _=>0
 have hx:∀ i (h:i<l.length),X i=[.slice (A i) (N i) (C i),.int .i64 (B i)]/\Xj F w (.slice (A i) (N i) (C i)) (.int .i64 (B i)) l[i]:=λ i hi=>by
  obtain⟨s,b,hx,ht⟩:=h2 i hi
  obtain⟨a',c',rfl,rfl⟩:=ht.shape
  have e1:A i=a':=by simp[A,hx]
  have e2:N i=l[i].args.length:=by simp[N,hx]
  have e3:C i=c':=by simp[C,hx]
  have e4:B i=l[i].base:=by simp[B,hx]
  rw[e1,e2,e3,e4];exact⟨hx,ht⟩
 refine Xj.mk a l.length c b l bl off A N C B rfl hl ha (λ i hi=>?_) (λ i hi=>?_) (λ i hi=>(hx i hi).2)
 ·exact h1 i 0 _ hi (by rw[(hx i hi).1];rfl)
 exact h1 i 1 _ hi (by rw[(hx i hi).1];rfl)
theorem Xj.inv {F:Nat->Prop}{w:World}{s b:Value}{t:Ty}(h:Xj F w s b t):b=.int .i64 t.base/\Y6 YD F w s t.args:=by
 cases h with
 | mk a n c b args bl off A N C B hn hm ha h1 h2 h3=>
  subst hn
  refine⟨rfl,a,c,bl,off,λ i=>[.slice (A i) (N i) (C i),.int .i64 (B i)],rfl,hm,ha,λ i j u hi hu=>?_,λ i hi=>⟨_,_,rfl,h3 i hi⟩⟩
  match j with
  | 0=>simp at hu;subst hu;exact h1 i hi
  | 1=>simp at hu;subst hu;exact h2 i hi
  | j+2=>simp at hu
end Go.Proofs.YtclihnccilkohaaGreat
namespace Go.Proofs.YtclihnccilkohaaGreat
open Go.RowKit Go.ChangeShapes Go.WideShapes Go.ChangeAt
theorem own:ownKnob Tryz.prog.godebug=none:=by kernel_rfl
theorem Jt:laidOutB Tryz.prog=true:=by kernel_rfl
def Rd {α H:Type}(enc:TypeId×Value->H)(W:World)(base:Nat)(sp:Nat->Bool)(hd:Bool)(t:TypeId)(r:Rp α)(D:DataW H->α->Prop)(n:Nat):Prop:=
 ∀ cs x,DataW.trod enc Tryz.prog W base sp hd n t cs=some x->∃ v,r.R (λ _=>True) W cs v/\D x.1 v
theorem PU (bl off n:Nat):(⟨bl,off,none⟩:Addr).add n=⟨bl,off+n,none⟩:=by
 unfold Addr.add;split
 ·subst_vars;rfl
 rfl
theorem YH {α H:Type}{enc:TypeId×Value->H}{W:World}{base:Nat}{sp:Nat->Bool}{hd:Bool}{t e:TypeId}{r:Rp α}{D:DataW H->α->Prop}{fuel:Nat}{cs:List Value}{x:DataW H×List MemPlace} 
  (ht:Tryz.prog.underlying t=some (.slice e)) (hn:Tryz.prog.cellsOf e=r.n) (hpos:0<r.n) (hr:∀ m,m<fuel->Rd enc W base sp hd e r D m) (h:DataW.trod enc Tryz.prog W base sp hd fuel t cs=some x) :
  ∃ a n c l,cs=[.slice a n c]/\n<=c/\Y6 r (λ _=>True) W (.slice a n c) l/\∀ i (h:i<l.length),∃ d es spare,x.1=.slice es spare/\d∈es/\D d l[i]:=by
 rcases DataW.trod_slice ht h with⟨rfl,_⟩ | ⟨a,len,cap,elems,rest,n,rfl,rfl,rfl,hb,hl,hm,hlen,hel,_,_⟩
 ·exact⟨_,_,_,[],rfl,Nat.le_refl _,⟨none,0,0,0,λ _=>[],rfl,⟨Nat.zero_le _,Nat.le_refl _⟩,λ h=>absurd h (by simp),λ _ _ _ h=>absurd h (by simp),λ _ h=>absurd h (by simp)⟩,λ _ h=>absurd h (by simp)⟩
 have H:∀ i:Fin len,∃ y:List Value×α,W.cells? base (a.add (i * r.n)) r.n=some y.1/\r.R (λ _=>True) W y.1 y.2/\∃ d∈elems.map (·.1),D d y.2:=λ i=>by
  have h1:=hel i i.2
  rw[List.getElem?_eq_getElem (by omega),hn] at h1
  obtain⟨cs',h2,h3⟩:=Option.bind_eq_some_iff.1 h1
  obtain⟨v,hv,hd⟩:=hr n (by omega) _ _ h3
  exact⟨⟨cs',v⟩,h2,hv,_,List.mem_map_of_mem (List.getElem_mem _),hd⟩
 obtain⟨f,hf⟩:=Classical.axiomOfChoice H
 refine⟨_,_,_,List.ofFn λ i=>(f i).2,rfl,hl,⟨some a,cap,a.block,a.off,λ i=>if h:i<len then (f ⟨i,h⟩).1 else [],by simp,by simp;omega,λ h0=>?_,λ i j u hi hu=>?_,λ i hi=>?_⟩,λ i hi=>?_⟩
 ·have h0:0<len:=by simpa using h0
  have h1:=(World.cells?_some (hf ⟨0,h0⟩).1)
  have h2:=h1.2.2 0 hpos
  rw[List.getElem?_eq_getElem (by rw[h1.2.1];exact hpos)] at h2
  have h3:=World.cell?_spot h2
  obtain⟨bl,off,spot⟩:=a
  have:spot=none:=by simpa[Addr.add] using h3
  subst this
  exact⟨rfl,trivial⟩
 ·have hi:i<len:=by simpa using hi
  simp only[dif_pos hi] at hu
  have h1:=(World.cells?_some (hf ⟨i,hi⟩).1)
  have hj:j<r.n:=by
   rcases Nat.lt_or_ge j r.n with h | h
   ·exact h
   rw[List.getElem?_eq_none (by rw[h1.2.1];exact h)] at hu;cases hu
  have h2:=h1.2.2 j hj
  rw[hu] at h2
  have h0:=(World.cells?_some (hf ⟨0,by omega⟩).1)
  have h0':=h0.2.2 0 hpos
  rw[List.getElem?_eq_getElem (by rw[h0.2.1];exact hpos)] at h0'
  have h3:=World.cell?_spot h0'
  obtain⟨bl,off,spot⟩:=a
  have:spot=none:=by simpa[Addr.add] using h3
  subst this
  rw[PU,PU] at h2
  exact h2
 ·have hi:i<len:=by simpa using hi
  simp only[dif_pos hi,List.getElem_ofFn]
  exact(hf ⟨i,hi⟩).2.1
 have hi:i<len:=by simpa using hi
 obtain⟨d,h1,h2⟩:=(hf ⟨i,hi⟩).2.2
 exact⟨d,_,_,rfl,h1,by simpa using h2⟩
theorem M4 {α:Type}{cs:List α}(h:cs.length=2):∃ a b,cs=[a,b]:=by
 match cs,h with
 | [a,b],_=>exact⟨a,b,rfl⟩
theorem V6:Tryz.prog.cellsOf 3=1:=by kernel_rfl
theorem UQ:Tryz.prog.cellsOf 104=2:=by kernel_rfl
theorem Ti:Tryz.prog.cellsOf 22=1:=by kernel_rfl
theorem HQ {H:Type}(enc:TypeId×Value->H)(W:World)(base:Nat)(sp:Nat->Bool)(hd:Bool):∀ n,Rd enc W base sp hd 104 YD (λ _ _=>True) n:=by
 intro n
 induction n using Nat.strongRecOn with
 | ind n ih=>
  intro cs x h
  obtain⟨xs,m,rfl,rfl,hl,hlen,hf⟩:=DataW.trod_struct Tryz.underlying104 h
  rw[UQ] at hl
  obtain⟨v0,v1,rfl⟩:=M4 hl
  have h0:DataW.trod enc Tryz.prog W base sp hd m 22 ([v0,v1].take (Tryz.prog.cellsOf 22))=xs[0]?:=hf 0 _ rfl
  have h1:DataW.trod enc Tryz.prog W base sp hd m 3 ([v1].take (Tryz.prog.cellsOf 3))=xs[1]?:=hf 1 _ rfl
  rw[Ti] at h0
  rw[V6] at h1
  have hlen:xs.length=2:=hlen
  rw[List.getElem?_eq_getElem (by omega)] at h0 h1
  obtain⟨va,vn,vc,l,hv,_,hs,_⟩:=YH Tryz.underlying22 UQ (by decide) (λ k hk=>ih k (by omega)) h0
  obtain⟨b,hb,_,_⟩:=DataW.trod_int Tryz.underlying3 h1
  have e0:[v0]=[.slice va vn vc]:=hv
  have e1:[v1]=[.int .i64 b]:=hb
  simp only[List.cons.injEq,and_true] at e0 e1
  subst e0 e1
  exact⟨.mk l b,⟨_,_,rfl,Nu hs b⟩,trivial⟩
theorem Ry {H:Type}{enc:TypeId×Value->H}{W W':World}{sp:Nat->Bool}:∀ {ts:List TypeId} {vs:List Value} {ds:List (DataW H)} {p:List MemPlace},
  DataW.TrodAll enc Tryz.prog W 0 (λ _=>true) true ts vs ds p->(∀ t∈ts,Tryz.prog.readableRec t=true/\t<Tryz.prog.types.size)->(∀ x∈p,W.sameAt W' x)->(∀ x∈p,sp x.block=true) ->
  DataW.TrodAll enc Tryz.prog W' 0 sp true ts vs ds p:=by
 intro ts
 induction ts with
 | nil=>intro vs ds p h;cases vs <;> cases ds <;> first | exact λ _ _ _=>h | exact h.elim
 | cons t ts ih=>
  intro vs ds p h hts hs hsp
  cases vs with
  | nil=>exact h.elim
  | cons v vs=>
   cases ds with
   | nil=>exact h.elim
   | cons d ds=>
    obtain⟨p,q,h0,h1,rfl⟩:=h
    exact⟨p,q,WideElems.Trod_stays Jt (hts t (by simp)).1 (hts t (by simp)).2 h0 (λ x hx=>hs x (by simp[hx])) (λ x hx=>hsp x (by simp[hx])),ih h1 (λ t ht=>hts t (by simp[ht])) (λ x hx=>hs x (by simp[hx])) (λ x hx=>hsp x (by simp[hx])),rfl⟩
set_option maxRecDepth 100000 in
theorem Lt {α H:Type}{enc:TypeId×Value->H}{W:World}{base:Nat}{sp:Nat->Bool}{hd:Bool}{t e:TypeId}{r:Rp α}{D:DataW H->α->Prop}{v:Value}{d:DataW H}{p:List MemPlace}{rch:Reach}{b0:Nat} 
  (ht:Tryz.prog.underlying t=some (.slice e)) (hn:Tryz.prog.cellsOf e=r.n) (hpos:0<r.n) (hr:∀ m,Rd enc W base sp hd e r D m) (hval:Value.okWide Tryz.prog W rch b0 t v) (h:DataW.Trod enc Tryz.prog W base sp hd t v d p) :
  ∃ a n c l,v=.slice a n c/\n<=c/\Y6 r (λ _=>True) W (.slice a n c) l/\∀ i (h:i<l.length),∃ x es spare,d=.slice es spare/\x∈es/\D x l[i]:=by
 obtain⟨fuel,h⟩:=h
 obtain⟨a,n,c,l,h1,h2,h3,h4⟩:=YH ht hn hpos (λ m _=>hr m) h
 refine⟨a,n,c,l,?_,h2,h3,h4⟩
 obtain⟨a',n',c',rfl⟩:=okWide_slice ht hval
 simpa[Value.cells] using h1
set_option maxRecDepth 100000 in
theorem NJ {H:Type}{enc:TypeId×Value->H}{f:Func}{s:ChangeSpec}{fresh handsOn again apart:Bool}{W W':World}{args:Array Value}{ds gs:List (DataW H)}{before:List MemPlace} 
  (hW:DataW.Whole enc Tryz.prog f.params.toList s.vars apart W args.toList ds gs before) (hv:s.vars=[]) (hts:∀ t∈f.params.toList,Tryz.prog.readableRec t=true/\t<Tryz.prog.types.size)
  (hr:f.resultTypes=#[4]) (hfn:s.fn H (ds++gs)={ results:=[.lit (.bool true)],args:=ds }) (hb:Below W.heap.size W W') :
  s.post enc Tryz.prog f apart fresh handsOn again W args (.bool true) W':=by
 have hlt:=hW.lt
 have hW':=hW
 obtain⟨p,q,hA,hV,rfl,hz,hn⟩:=hW
 rw[hv] at hV
 obtain⟨rfl,rfl⟩:=trodVars_none hV
 have hres:∀ (b:Nat) (sp:Nat->Bool) (hd:Bool),DataW.TrodAll enc Tryz.prog W' b sp hd f.resultTypes.toList ((Value.bool true).resultList f.resultTypes.size) (s.fn H (ds++[])).results []:=λ _ _ _=>by
  rw[hr,hfn];exact trodAll_cons_mk (shut_bool Tryz.underlying4 _) trodAll_mk0
 have hargs:∀ sp:Nat->Bool,(∀ x∈p++[],sp x.block=true)->DataW.TrodAll enc Tryz.prog W' 0 sp true f.params.toList args.toList (s.fn H (ds++[])).args p:=λ sp hs=>by
  rw[hfn];exact Ry hA hts (λ x hx=>hb.same (hlt x (by simp[hx]))) (λ x hx=>hs x (by simp[hx]))
 have hvars:∀ sp:Nat->Bool,DataW.TrodVars enc Tryz.prog W' sp s.vars (s.fn H (ds++[])).vars []:=λ sp=>by rw[hv,hfn];rfl
 have hok:=ok_one (P:=Tryz.prog) (W':=W') (f:=f) (v:=.bool true) hr rfl (okWide_bool_mk Tryz.underlying4 _)
 refine⟨ds,[],p++[],[],p,[],hW',hres _ _ _,hargs _ (λ x hx=>by simpa using hlt x hx),hvars _,World.keptBut_mono (λ p hp=>⟨hp,.inr (by simpa using hp)⟩) (hb.frame _),λ _=>?_⟩
 refine⟨hok,_,_,([]++p)++[],⟨[]++p,[],trodAll_append (hargs _ (λ _ _=>rfl)) (hres _ _ _),hvars _,rfl,?_,?_⟩,?_⟩
 ·intro b off hp
  rw[hb.frozen (hlt (.cell b off) (by simpa using hp))]
  exact hz b off (by simpa using hp)
 ·intro ha
  simpa using hn ha
 intro x hx _
 simpa using hx
end Go.Proofs.YtclihnccilkohaaGreat
namespace Go.Proofs.YtclihnccilkohaaGreat
open Go.RowKit
inductive Tm where
 | mk (binds:List Ty) (kind index:Int) (args:List Tm)
namespace Tm
def binds:Tm->List Ty | .mk b _ _ _=>b
def kind:Tm->Int | .mk _ k _ _=>k
def index:Tm->Int | .mk _ _ i _=>i
def args:Tm->List Tm | .mk _ _ _ a=>a
theorem ind {p:Tm->Prop}(h:∀ binds kind index args,(∀ t∈args,p t)->p (.mk binds kind index args))(t:Tm):p t:=
 Tm.rec (motive_1:=p) (motive_2:=λ l=>∀ t∈l,p t) (λ b k i a ih=>h b k i a ih) (by simp)
  (λ a l ha hl t ht=>by
   rcases List.mem_cons.1 ht with rfl | h
   ·exact ha
   exact hl t h) t
mutual
def size:Tm->Nat
 | .mk _ _ _ a=>sizes a+1
def sizes:List Tm->Nat
 | []=>0
 | t :: l=>size t+sizes l
end
mutual
def depth:Tm->Nat
 | .mk _ _ _ a=>depths a+1
def depths:List Tm->Nat
 | []=>0
 | t :: l=>max (depth t) (depths l)
end
mutual
def full:Tm->Nat
 | .mk b _ _ a=>Ty.sizes b+fulls a+1
def fulls:List Tm->Nat
 | []=>0
 | t :: l=>full t+fulls l
end
theorem size_eq (b:List Ty)(k i:Int)(a:List Tm):(mk b k i a).size=sizes a+1:=by simp[size]
theorem depth_eq (b:List Ty)(k i:Int)(a:List Tm):(mk b k i a).depth=depths a+1:=by simp[depth]
theorem full_eq (b:List Ty)(k i:Int)(a:List Tm):(mk b k i a).full=Ty.sizes b+fulls a+1:=by simp[full]
theorem sizes_append (l r:List Tm):sizes (l++r)=sizes l+sizes r:=by
 induction l with
 | nil=>simp[sizes]
 | cons t l ih=>simp[sizes,ih];omega
theorem fulls_append (l r:List Tm):fulls (l++r)=fulls l+fulls r:=by
 induction l with
 | nil=>simp[fulls]
 | cons t l ih=>simp[fulls,ih];omega
theorem depths_append (l r:List Tm):depths (l++r)=max (depths l) (depths r):=by
 induction l with
 | nil=>simp[depths]
 | cons t l ih=>simp[depths,ih]
theorem sizes_take (l:List Tm)(i:Nat)(h:i<l.length):sizes (l.take (i+1))=sizes (l.take i)+size l[i]:=by
 rw[List.take_succ_eq_append_getElem h,sizes_append];simp[sizes]
theorem fulls_take (l:List Tm)(i:Nat)(h:i<l.length):fulls (l.take (i+1))=fulls (l.take i)+full l[i]:=by
 rw[List.take_succ_eq_append_getElem h,fulls_append];simp[fulls]
theorem depths_take (l:List Tm)(i:Nat)(h:i<l.length):depths (l.take (i+1))=max (depths (l.take i)) (depth l[i]):=by
 rw[List.take_succ_eq_append_getElem h,depths_append];simp[depths]
theorem size_pos (t:Tm):1<=t.size:=by cases t;simp[size]
theorem sizes_take_le (l:List Tm)(i:Nat):sizes (l.take i)<=sizes l:=by
 conv=>rhs;rw[<-List.take_append_drop i l]
 rw[sizes_append];omega
theorem fulls_take_le (l:List Tm)(i:Nat):fulls (l.take i)<=fulls l:=by
 conv=>rhs;rw[<-List.take_append_drop i l]
 rw[fulls_append];omega
theorem depths_take_le (l:List Tm)(i:Nat):depths (l.take i)<=depths l:=by
 conv=>rhs;rw[<-List.take_append_drop i l]
 rw[depths_append];omega
theorem len_sizes (l:List Tm):l.length<=sizes l:=by
 induction l with
 | nil=>simp[sizes]
 | cons t l ih=>have:=size_pos t;simp[sizes];omega
theorem size_mem {l:List Tm}{t:Tm}(h:t∈l):t.size<=sizes l:=by
 induction l with
 | nil=>cases h
 | cons u l ih=>
  simp only[sizes]
  rcases List.mem_cons.1 h with rfl | h
  ·omega
  have:=ih h;omega
theorem full_mem {l:List Tm}{t:Tm}(h:t∈l):t.full<=fulls l:=by
 induction l with
 | nil=>cases h
 | cons u l ih=>
  simp only[fulls]
  rcases List.mem_cons.1 h with rfl | h
  ·omega
  have:=ih h;omega
theorem depth_mem {l:List Tm}{t:Tm}(h:t∈l):t.depth<=depths l:=by
 induction l with
 | nil=>cases h
 | cons u l ih=>
  simp only[depths]
  rcases List.mem_cons.1 h with rfl | h
  ·omega
  have:=ih h;omega
theorem size_le_full (t:Tm):t.size<=t.full:=by
 induction t using Tm.ind with
 | h b k i a ih=>
  have:∀ l:List Tm,(∀ t∈l,t.size<=t.full)->sizes l<=fulls l:=by
   intro l
   induction l with
   | nil=>intro _;simp[sizes]
   | cons t l ih2=>intro h;have:=ih2 (λ t ht=>h t (by simp[ht]));have:=h t (by simp);simp[sizes,fulls];omega
  have:=this a ih
  rw[size_eq,full_eq];omega
theorem depth_le_size (t:Tm):t.depth<=t.size:=by
 induction t using Tm.ind with
 | h b k i a ih=>
  have:∀ l:List Tm,(∀ t∈l,t.depth<=t.size)->depths l<=sizes l:=by
   intro l
   induction l with
   | nil=>intro _;simp[depths]
   | cons t l ih2=>intro h;have:=ih2 (λ t ht=>h t (by simp[ht]));have:=h t (by simp);simp[sizes,depths];omega
  have:=this a ih
  rw[size_eq,depth_eq];omega
end Tm
inductive XS (F:Nat->Prop) (w:World):Value->Value->Value->Value->Tm->Prop where
 | mk (bv:Value) (k i:Int) (a:Option Addr) (n c:Nat) (binds:List Ty) (args:List Tm) (bl off:Nat) (PA A:Nat->Option Addr) (PN PC N C:Nat->Nat) (K I:Nat->Int)
   (hb:Y6 YD F w bv binds) (hn:args.length=n) (hm:n<=maxLen/\n<=c) (ha:0<n->a=some ⟨bl,off,none⟩/\F bl)
   (h1:∀ i,i<n->w.cell? ⟨bl,off+i * 4,none⟩=some (.slice (PA i) (PN i) (PC i)))
   (h2:∀ i,i<n->w.cell? ⟨bl,off+i * 4+1,none⟩=some (.int .i64 (K i)))
   (h3:∀ i,i<n->w.cell? ⟨bl,off+i * 4+2,none⟩=some (.int .i64 (I i)))
   (h4:∀ i,i<n->w.cell? ⟨bl,off+i * 4+3,none⟩=some (.slice (A i) (N i) (C i)))
   (h5:∀ i (h:i<args.length),XS F w (.slice (PA i) (PN i) (PC i)) (.int .i64 (K i)) (.int .i64 (I i)) (.slice (A i) (N i) (C i)) args[i]) :
   XS F w bv (.int .i64 k) (.int .i64 i) (.slice a n c) (.mk binds k i args)
theorem XS.keep {F:Nat->Prop}{w w':World}{b k i a:Value}{t:Tm}(h:XS F w b k i a t)(hw:Keep F w w'):XS F w' b k i a t:=by
 induction h with
 | mk bv k i a n c binds args bl off PA A PN PC N C K I hb hn hm ha h1 h2 h3 h4 h5 ih=>
  exact XS.mk bv k i a n c binds args bl off PA A PN PC N C K I (hb.keep hw) hn hm ha (λ i hi=>hw _ _ _ (ha (by omega)).2 (h1 i hi)) (λ i hi=>hw _ _ _ (ha (by omega)).2 (h2 i hi)) (λ i hi=>hw _ _ _ (ha (by omega)).2 (h3 i hi)) (λ i hi=>hw _ _ _ (ha (by omega)).2 (h4 i hi)) ih
theorem XS.weaken {F F':Nat->Prop}{w:World}{b k i a:Value}{t:Tm}(h:XS F w b k i a t)(hF:∀ k,k<w.heap.size->F k->F' k):XS F' w b k i a t:=by
 induction h with
 | mk bv k i a n c binds args bl off PA A PN PC N C K I hb hn hm ha h1 h2 h3 h4 h5 ih=>
  exact XS.mk bv k i a n c binds args bl off PA A PN PC N C K I (hb.weaken (by decide) hF) hn hm (λ h=>⟨(ha h).1,hF _ (Keep.lt (h1 0 h)) (ha h).2⟩) h1 h2 h3 h4 ih
theorem Y6.shape {α:Type}{r:Rp α}{F:Nat->Prop}{w:World}{v:Value}{l:List α}(h:Y6 r F w v l):∃ a c,v=.slice a l.length c:=by
 obtain⟨a,c,_,_,_,hv,_⟩:=h
 exact⟨a,c,hv⟩
theorem XS.shape {F:Nat->Prop}{w:World}{b k i a:Value}{t:Tm}(h:XS F w b k i a t):∃ pa pc qa qc,b=.slice pa t.binds.length pc/\k=.int .i64 t.kind/\i=.int .i64 t.index/\a=.slice qa t.args.length qc:=by
 cases h with
 | mk bv k i a n c binds args bl off PA A PN PC N C K I hb hn=>
  obtain⟨pa,pc,rfl⟩:=hb.shape
  subst hn
  exact⟨pa,pc,a,c,rfl,rfl,rfl,rfl⟩
theorem XS.one {F:Nat->Prop}{w:World}{b k i a:Value}{t:Tm}(h:XS F w b k i a t):b.oneCell'=true/\k.oneCell'=true/\i.oneCell'=true/\a.oneCell'=true:=by
 obtain⟨pa,pc,qa,qc,rfl,rfl,rfl,rfl⟩:=h.shape
 exact⟨rfl,rfl,rfl,rfl⟩
def U6:Rp Tm where
 n:=4
 R F w x t:=∃ b k i a,x=[b,k,i,a]/\XS F w b k i a t
 len:=by rintro F w x a ⟨b,k,i,a,rfl,_⟩;rfl
 one:=by
  rintro F w x a ⟨b,k,i,a,rfl,h⟩ u hu
  have:=h.one
  simp at hu
  rcases hu with rfl | rfl | rfl | rfl
  ·exact this.1
  ·exact this.2.1
  ·exact this.2.2.1
  exact this.2.2.2
 keep:=by rintro F w w' x a ⟨b,k,i,a,rfl,h⟩ hk;exact⟨b,k,i,a,rfl,h.keep hk⟩
 weaken:=by rintro F F' w x a ⟨b,k,i,a,rfl,h⟩ hk;exact⟨b,k,i,a,rfl,h.weaken hk⟩
theorem Qq {F:Nat->Prop}{w:World}{bv v:Value}{binds:List Ty}{l:List Tm}(hb:Y6 YD F w bv binds)(h:Y6 U6 F w v l)(k i:Int):XS F w bv (.int .i64 k) (.int .i64 i) v (.mk binds k i l):=by
 obtain⟨a,c,bl,off,X,rfl,hl,ha,h1,h2⟩:=h
 let PA:Nat->Option Addr:=λ i=>match (X i).getD 0 default with | .slice a _ _=>a | _=>none
 let PN:Nat->Nat:=λ i=>match (X i).getD 0 default with | .slice _ n _=>n | _=>0
 let PC:Nat->Nat:=λ i=>match (X i).getD 0 default with | .slice _ _ c=>c | _=>0
 let K:Nat->Int:=λ i=>match (X i).getD 1 default with | .int _ b=>b | _=>0
 let I:Nat->Int:=λ i=>match (X i).getD 2 default with | .int _ b=>b | _=>0
 let A:Nat->Option Addr:=λ i=>match (X i).getD 3 default with | .slice a _ _=>a | _=>none
 let N:Nat->Nat:=λ i=>match (X i).getD 3 default with | .slice _ n _=>n | _=>0
 let C:Nat->Nat:=λ i=>match (X i).getD 3 default with | .slice _ _ c=>c | _=>0
 have hx:∀ i (h:i<l.length),X i=[.slice (PA i) (PN i) (PC i),.int .i64 (K i),.int .i64 (I i),.slice (A i) (N i) (C i)]/\XS F w (.slice (PA i) (PN i) (PC i)) (.int .i64 (K i)) (.int .i64 (I i)) (.slice (A i) (N i) (C i)) l[i]:=λ i hi=>by
  obtain⟨b',k',i',a',hx,ht⟩:=h2 i hi
  obtain⟨pa,pc,qa,qc,rfl,rfl,rfl,rfl⟩:=ht.shape
  have e1:PA i=pa:=by simp[PA,hx]
  have e2:PN i=l[i].binds.length:=by simp[PN,hx]
  have e3:PC i=pc:=by simp[PC,hx]
  have e4:K i=l[i].kind:=by simp[K,hx]
  have e5:I i=l[i].index:=by simp[I,hx]
  have e6:A i=qa:=by simp[A,hx]
  have e7:N i=l[i].args.length:=by simp[N,hx]
  have e8:C i=qc:=by simp[C,hx]
  rw[e1,e2,e3,e4,e5,e6,e7,e8];exact⟨hx,ht⟩
 refine XS.mk bv k i a l.length c binds l bl off PA A PN PC N C K I hb rfl hl ha (λ i hi=>?_) (λ i hi=>?_) (λ i hi=>?_) (λ i hi=>?_) (λ i hi=>(hx i hi).2)
 ·exact h1 i 0 _ hi (by rw[(hx i hi).1];rfl)
 ·exact h1 i 1 _ hi (by rw[(hx i hi).1];rfl)
 ·exact h1 i 2 _ hi (by rw[(hx i hi).1];rfl)
 exact h1 i 3 _ hi (by rw[(hx i hi).1];rfl)
theorem XS.inv {F:Nat->Prop}{w:World}{b k i a:Value}{t:Tm}(h:XS F w b k i a t):k=.int .i64 t.kind/\i=.int .i64 t.index/\Y6 YD F w b t.binds/\Y6 U6 F w a t.args:=by
 cases h with
 | mk bv k i a n c binds args bl off PA A PN PC N C K I hb hn hm ha h1 h2 h3 h4 h5=>
  subst hn
  refine⟨rfl,rfl,hb,a,c,bl,off,λ i=>[.slice (PA i) (PN i) (PC i),.int .i64 (K i),.int .i64 (I i),.slice (A i) (N i) (C i)],rfl,hm,ha,λ i j u hi hu=>?_,λ i hi=>⟨_,_,_,_,rfl,h5 i hi⟩⟩
  match j with
  | 0=>simp at hu;subst hu;exact h1 i hi
  | 1=>simp at hu;subst hu;exact h2 i hi
  | 2=>simp at hu;subst hu;exact h3 i hi
  | 3=>simp at hu;subst hu;exact h4 i hi
  | j+4=>simp at hu
def Pb (t:Ty)(most depth:Int)(r:Int):Prop:=
 1<=r/\r<=(most+1) * (max depth 0+1)/\((r<=most/\r=t.size/\(t.depth:Int)<=depth)∨(most<r/\¬ ((t.size:Int)<=most/\(t.depth:Int)<=depth)))
def JT (t:Ty)(most depth:Int)(w:World)(e:Ending)(w':World):Prop:=∃ r:Int,Pb t most depth r/\e=.returned (.int .i64 r)/\Below w.heap.size w w'
def Ud (l:List Ty)(most depth:Int)(k:Nat)(r:Int):Prop:=
 (r<=most/\r=Ty.sizes (l.take k)+1/\(Ty.depths (l.take k):Int)+1<=depth)∨(most<r/\¬ ((Ty.sizes l:Int)+1<=most/\(Ty.depths l:Int)+1<=depth))
theorem Ql (l:List Ty)(most depth:Int)(hd:1<=depth)(hm:1<=most):Ud l most depth 0 1:=by
 unfold Ud
 exact .inl ⟨hm,by simp[Ty.sizes],by simp[Ty.depths];omega⟩
theorem Pc (l:List Ty)(most depth:Int)(k:Nat)(r r':Int)(h:Ud l most depth k r)(hr:r<=most)(hk:k<l.length)(h':Pb l[k] most (depth-1) r')(h0:1<=r):
  Ud l most depth (k+1) (r+r'):=by
 unfold Ud Pb at *
 have s1:=Ty.sizes_take l k hk
 have s2:=Ty.depths_take l k hk
 have s3:=Ty.sizes_take_le l (k+1)
 have s4:=Ty.depths_take_le l (k+1)
 omega
theorem SU (l:List Ty)(b:Int)(most depth:Int)(k:Nat)(r:Int)(h:Ud l most depth k r)(h':most<r∨l.length<=k)(h0:1<=r)(hb:r<=(most+1) * (max depth 0+1)):
  Pb (.mk l b) most depth r:=by
 unfold Ud at h
 refine⟨h0,hb,?_⟩
 simp only[Ty.size,Ty.depth]
 rcases h' with h' | h'
 ·omega
 rw[List.take_of_length_le h'] at h;omega
set_option maxHeartbeats 400000 in
theorem Jj {F:Nat->Prop}{w0:World}{s b:Value}{t:Ty}(ht:Xj F w0 s b t):∀ (most depth:Int) (w:World),1<=most->most<=1000->depth<=1000->-1000<=depth ->
  Keep F w0 w ->
  Calls Tryz.prog 76 #[.agg #[s,b],.int .i64 most,.int .i64 depth] w (JT t most depth w):=by
 induction ht with
 | mk a n c b args bl off A N C B hn hm ha h1 h2 h3 ih=>
 intro most depth w hm0 hm1 hd1 hd0 hw
 unfold maxLen at hm
 by_cases hd:depth<=0
 ·go_enter Tryz.func76,Tryz.ntmps76
  go_wp2_with fail
  go_ret
  refine⟨_,?_,rfl,(Below.refl _ _).alloc (Nat.le_refl _) _⟩
  have:=Ty.depth_pos (.mk args b)
  refine⟨by omega,?_,.inr ⟨by omega,by omega⟩⟩
  rw[show max depth 0=0 from by omega];omega
 have hd':1<=depth:=by omega
 clear h3
 have Hih:=Lib.hid ih;clear ih
 have hst:=Lib.hid (Ql args most depth hd' hm0)
 have hmul:Hid ((most+1) * max (depth-1) 0+(most+1)=(most+1) * (max depth 0)/\0<=(most+1) * max depth 0/\(most+1) * max depth 0<=1001 * 1000/\(most+1) * (max depth 0+1)=(most+1) * max depth 0+(most+1)/\(most+1) * (max (depth-1) 0+1)=(most+1) * max (depth-1) 0+(most+1)):=by
  refine⟨?_,Int.mul_nonneg (by omega) (by omega),Int.mul_le_mul (by omega) (by omega) (by omega) (by omega),by rw[Int.mul_add];omega,by rw[Int.mul_add];omega⟩
  rw[show max depth 0=max (depth-1) 0+1 from by omega,Int.mul_add];omega
 go_enter Tryz.func76,Tryz.ntmps76
 go_wp2_with fail
 go_loopw [7,8] (λ x i wr=>∃ (k:Nat) (r:Int),i=.int .i64 k/\x=.int .i64 r/\k<=n/\Ud args most depth k r/\1<=r/\r<=most+(most+1) * (max depth 0) /\
  Below w.heap.size w wr/\wr.heap[w.heap.size]?=some (.cells #[.slice a n c,.int .i64 b] 104)) (λ _ i _=>n-(intOf i).toNat)
 case atStart=>
  have:=hmul.out
  exact⟨0,1,rfl,rfl,by omega,hst.out,by omega,by omega,(Below.refl _ _).alloc (Nat.le_refl _) _,heap_alloc_new _ _⟩
 case round=>
  obtain⟨k,r,rfl,rfl,hk,hrel,hr1,hr2,hb,hbox⟩:=hrel
  have c0:wr.cell? ⟨w.heap.size,0,none⟩=some (.slice a n c):=by simp[World.cell?,hbox]
  have hrb:r<=2000000:=by have:=hmul.out;omega
  have hsz:w.heap.size<wr.heap.size:=lt_of_block hbox
  have Hbox:=Lib.hid hbox;clear hbox
  by_cases hlt:k<n
  ·obtain⟨rfl,hF⟩:=ha (by omega)
   have e1:wr.cell? ⟨bl,off+k * 2,none⟩=some (.slice (A k) (N k) (C k)):=(hw.below hb) _ _ _ hF (h1 k hlt)
   have e2:wr.cell? ⟨bl,off+k * 2+1,none⟩=some (.int .i64 (B k)):=(hw.below hb) _ _ _ hF (h2 k hlt)
   by_cases hr:r<=most
   ·go_wp2_with fail
    refine(Hih.out k (by omega) most (depth-1) wr hm0 hm1 (by omega) (by omega) (hw.below hb)).mono ?_
    rintro e w1 ⟨r',hf,rfl,hb1⟩
    have hr':1<=r'/\r'<=3000000:=by have:=hmul.out;have:=hf.1;have:=hf.2.1;omega
    go_wp2_with fail
    go_roundw
    case rel=>
     have:=hmul.out;have:=hf.2.1
     exact⟨k+1,r+r',by go_num,rfl,by omega,Pc _ _ _ _ _ _ hrel hr (by omega) hf hr1,by omega,by omega,hb.trans (hb1.mono (by omega)),by rw[hb1.block _ hsz];exact Hbox.out⟩
    case measure=>simp[intOf];omega
   have hend:=Lib.hid (SU args b most depth k r hrel (.inl (by omega)) hr1 (by have:=hmul.out;omega))
   go_wp2_with fail
   go_ret
   exact⟨r,hend.out,rfl,hb⟩
  have hend:=Lib.hid (SU args b most depth k r hrel (.inr (by omega)) hr1 (by have:=hmul.out;omega))
  go_wp2_with fail
  go_ret
  exact⟨r,hend.out,rfl,hb⟩
end Go.Proofs.YtclihnccilkohaaGreat
namespace Go.Proofs.YtclihnccilkohaaGreat
section
variable {P:Program} {ops:Array Oper} {Q:Exit->Act->World->Prop} {md:Region.Mode} {S:World->Prop}
def SG (ops:Array Oper)(j:Nat):Bool:=match ops[j]? with
 | none=>true
 | some o=>match o.op with
  | .store ..=>false
  | .assign _=>false
  | _=>true
def K7 (P:Program)(md:Region.Mode)(ops:Array Oper)(Q:Exit->Act->World->Prop)(S:World->Prop):Nat->Array Bool->Act->World->Prop
 | 0,listed,a,w=>Region.ready md ops listed=[]/\Q .normal a w
 | n+1,listed,a,w=>
  (Region.ready md ops listed=[]->Q .normal a w) /\
  ∀ i∈Region.ready md ops listed,wpOp P ops Q i (λ a' w'=>(SG ops i=true->S w->S w')/\K7 P md ops Q S n (listed.setIfInBounds i true) a' w') a w
theorem OR:∀ (n:Nat) (listed:Array Bool) (a:Act) (w:World),K7 P md ops Q S n listed a w->wpAny P md ops Q n listed a w
 | 0,_,_,_,h=>h
 | n+1,_,_,_,h=>⟨h.1,λ i hi=>wpOp_mono (λ a' w' hh=>OR n _ a' w' hh.2) (h.2 i hi)⟩
def Ov (md:Region.Mode)(ops:Array Oper)(listed:Array Bool)(i:Nat):Bool:=
 (List.range ops.size).all λ j=>SG ops j||j==i||listed.getD j true||match ops[j]? with
  | some oj=>oj.after.any (λ e=>Region.binds md e&&e.on==i)
  | none=>true
theorem QA {i:Nat}{listed:Array Bool}(h:Ov md ops listed i=true)(j:Nat)(oj:Oper)(hj:ops[j]?=some oj)(hne:j≠i)(hun:listed.getD j true=false) 
  (hno:∀ e∈oj.after,Region.binds md e=true->e.on≠i):SG ops j=true:=by
 simp only[Ov,List.all_eq_true,List.mem_range] at h
 have h1:=h j (Array.getElem?_eq_some_iff.1 hj).1
 simp only[hj,Bool.or_eq_true,beq_iff_eq,hne,hun,or_false,Bool.false_eq_true] at h1
 rcases h1 with h1 | h1
 ·exact h1
 obtain⟨e,he,hb⟩:=Array.any_eq_true'.1 h1
 simp only[Bool.and_eq_true,beq_iff_eq] at hb
 exact absurd hb.2 (hno e he hb.1)
theorem N8 {i:Nat}{oi:Oper}{v:Value}(hi:ops[i]?=some oi)(hsel:∀ (j:Nat) (o:Oper) cs b,ops[j]?=some o->o.op≠.select cs b) 
  (hQ:∀ c a w,Q (.panic c) (a.put oi.dst v) w->Q (.panic c) a w) (hai:SG ops i=true) :
  ∀ (n:Nat) (listed:Array Bool) (a:Act) (w:World),
   (∀ j oj,ops[j]?=some oj->j≠i->listed.getD j true=false->(∀ e∈oj.after,Region.binds md e=true->e.on≠i)->oi.apart ops oj=true/\SG ops j=true) ->
   i∈Region.ready md ops listed->YieldsIf P ops S oi v a->S w ->
   K7 P md ops Q S n (listed.setIfInBounds i true) (a.put oi.dst v) w->K7 P md ops Q S (n+1) listed a w:=by
 intro n
 induction n with
 | zero=>
  intro listed a w _ hr hy hS H
  refine⟨λ h0=>(by rw[h0] at hr;cases hr),λ j hj=>?_⟩
  by_cases hji:j=i
  ·subst hji;exact hy.wpOp hi hS ⟨λ _ h=>h,H⟩
  have h0:=ready_mono hj hji
  rw[H.1] at h0;cases h0
 | succ n ih=>
  intro listed a w hfree hr hy hS H
  refine⟨λ h0=>(by rw[h0] at hr;cases hr),λ j hj=>?_⟩
  by_cases hji:j=i
  ·subst hji;exact hy.wpOp hi hS ⟨λ _ h=>h,H⟩
  have hrest:=H.2 j (ready_mono hj hji)
  obtain⟨hjun,oj,hoj,hall⟩:=mem_ready.1 hj
  have hiun:=(mem_ready.1 hr).1
  have hnot:∀ e∈oj.after,Region.binds md e=true->e.on≠i:=λ e he hb heq=>by
   have hl:=hall e he hb
   rw[heq] at hl
   rcases Nat.lt_or_ge i listed.size with hlt | hge
   ·simp[hlt] at hiun hl;rw[hiun] at hl;cases hl
   simp[Array.getElem?_eq_none hge] at hl
  obtain⟨hap,haj⟩:=hfree j oj hoj hji hjun hnot
  have hput:=wpOp_putIf hoj hap (λ cs b=>hsel i oi cs b hi) (λ cs b=>hsel j oj cs b hoj) hQ hy hrest
  refine wpOp_mono (λ a' w' hh=>?_) hput
  obtain⟨hy',hSw,hw⟩:=hh
  refine⟨hSw,ih (listed.setIfInBounds j true) a' w' ?_ (ready_mono hr (Ne.symm hji)) hy' (hSw haj hS) ?_⟩
  ·intro k ok hk hki hun hno
   refine hfree k ok hk hki ?_ hno
   by_cases hjk:j=k
   ·subst hjk;exact hjun
   rw[getD_set_ne true hjk] at hun;exact hun
  rw[Array.setIfInBounds_comm _ _ hji];exact hw
theorem YL {i:Nat}{oi:Oper}{v:Value}{n:Nat}{listed:Array Bool}{a:Act}{w:World}(hi:ops[i]?=some oi) 
  (hs:(Region.noSelect ops&&Region.free md ops listed i&&(Region.ready md ops listed).contains i&&SG ops i&&Ov md ops listed i)=true)
  (hQ:∀ c a w,Q (.panic c) (a.put oi.dst v) w->Q (.panic c) a w) (hS:S w) (hy:YieldsIf P ops S oi v a)
  (h:K7 P md ops Q S n (listed.setIfInBounds i true) (a.put oi.dst v) w):K7 P md ops Q S (n+1) listed a w:=by
 simp only[Bool.and_eq_true] at hs
 obtain⟨⟨⟨⟨h1,h2⟩,h3⟩,h4⟩,h5⟩:=hs
 exact N8 hi (Region.noSelect_spec h1) hQ h4 n listed a w (λ j oj hj hne hun hno=>⟨Region.free_spec hi h2 j oj hj hne hun hno,QA h5 j oj hj hne hun hno⟩) (by simpa using h3) hy hS h
theorem Q2 {i:Nat}{oi:Oper}{n:Nat}{listed:Array Bool}{a:Act}{w:World}(hr:Region.ready md ops listed=[i])(hi:ops[i]?=some oi) 
  (h:∀ K:Act->World->Prop,Shut (∀ a w,(SG ops i=true->S w)->K7 P md ops Q S n (listed.setIfInBounds i true) a w->K a w)->if Region.wanted oi (yielded ops a.tmps)=true then Oper.wp P oi a w K Q else K (a.put oi.dst undef) w) :
  K7 P md ops Q S (n+1) listed a w:=by
 refine⟨λ h0=>(by rw[hr] at h0;cases h0),λ j hj=>?_⟩
 rw[hr] at hj
 have:j=i:=by simpa using hj
 subst this
 exact wpOp_step hi (λ K hK=>h K (λ a w h1 h2=>hK a w ⟨λ ha _=>h1 ha,h2⟩))
theorem Q3 {n:Nat}{listed:Array Bool}{a:Act}{w:World}(hr:Region.ready md ops listed=[])(h:Q .normal a w):K7 P md ops Q S n listed a w:=by
 cases n with
 | zero=>exact⟨hr,h⟩
 | succ n=>exact⟨λ _=>h,λ i hi=>by rw[hr] at hi;cases hi⟩
theorem Ux {id:Nat}{a:Act}{w:World}(hm:P.follows .mixedOrders=true)(h:K7 P .any ops Q S ops.size (Array.replicate ops.size false) a w.drew):(Code.region id ops true).wp P Q a w:=
 wp_region_any hm (OR _ _ _ _ h)
end
end Go.Proofs.YtclihnccilkohaaGreat
namespace Go.Proofs.YtclihnccilkohaaGreat
open Go.RowKit
def Hk (n:Int)(w:World)(e:Ending)(w':World):Prop:=e=.returned (.int .i64 n)/\Below w.heap.size w w'
def SC (p:Prop)(w:World)(e:Ending)(w':World):Prop:=∃ b:Bool,(b=true↔p)/\e=.returned (.bool b)/\Below w.heap.size w w'
theorem QF {p:Prop}(h:false=true↔p):¬ p:=λ hp=>by simpa using h.2 hp
theorem Sy {p:Prop}(h:true=true↔p):p:=h.1 rfl
namespace Ty
theorem depth_le_size (t:Ty):t.depth<=t.size:=by
 induction t using Ty.ind with
 | h args base ih=>
  simp only[size,depth]
  have:∀ l:List Ty,(∀ t∈l,t.depth<=t.size)->depths l<=sizes l:=by
   intro l
   induction l with
   | nil=>intro _;simp[depths]
   | cons t l ih2=>intro h;have:=ih2 (λ t ht=>h t (by simp[ht]));have:=h t (by simp);simp[sizes,depths];omega
  have:=this args ih;omega
theorem size_eq (l:List Ty)(b:Int):(mk l b).size=sizes l+1:=by simp[size]
theorem depth_eq (l:List Ty)(b:Int):(mk l b).depth=depths l+1:=by simp[depth]
inductive Low (bases:Int):Ty->Prop where
 | mk (l:List Ty) (b:Int) (h0:0<=b) (h1:b<bases) (h:∀ t∈l,Low bases t):Low bases (.mk l b)
theorem low_iff {bases:Int}{l:List Ty}{b:Int}:Low bases (.mk l b)↔0<=b/\b<bases/\∀ t∈l,Low bases t:=
 ⟨λ h=>by cases h with | mk _ _ h0 h1 h=>exact⟨h0,h1,h⟩,fun⟨h0,h1,h⟩=>.mk _ _ h0 h1 h⟩
theorem forall_take_succ {p:Ty->Prop}{l:List Ty}{k:Nat}(hk:k<l.length)(h:∀ t∈l.take k,p t)(h':p l[k]):∀ t∈l.take (k+1),p t:=by
 intro t ht
 rw[List.take_succ_eq_append_getElem hk] at ht
 rcases List.mem_append.1 ht with ht | ht
 ·exact h t ht
 simp at ht;subst ht;exact h'
end Ty
set_option maxHeartbeats 400000 in
theorem GT {F:Nat->Prop}{w0:World}{s b:Value}{t:Ty}(ht:Xj F w0 s b t):∀ w:World,t.size<=1000000->Keep F w0 w ->
  Calls Tryz.prog 90 #[.agg #[s,b]] w (Hk t.size w):=by
 induction ht with
 | mk a n c b args bl off A N C B hn hm ha h1 h2 h3 ih=>
 intro w hsz hw
 clear h3 hm
 subst hn
 have hlen:args.length<=1000000:=by have:=Ty.length_lt (l:=args) (b:=b);omega
 have Hsz:Hid (∀ i (h:i<args.length),args[i].size<=1000000/\Ty.sizes (args.take i)+args[i].size<=1000000):=λ i h=>by
  have:=Ty.sizes_take args i h;have:=Ty.sizes_take_le args (i+1);rw[Ty.size_eq] at hsz;omega
 have Hend:Hid ((Ty.mk args b).size=Ty.sizes args+1):=Ty.size_eq _ _
 have Hih:=Lib.hid ih;clear ih hsz
 go_enter Tryz.func90,Tryz.ntmps90
 go_wp2_with fail
 go_loopw [3,4] (λ x i wr=>∃ k:Nat,i=.int .i64 k/\x=.int .i64 ((Ty.sizes (args.take k):Int)+1)/\k<=args.length/\Below w.heap.size w wr/\Blk wr w.heap.size #[.slice a args.length c,.int .i64 b] 104) (λ _ i _=>args.length-(intOf i).toNat)
 case atStart=>exact⟨0,rfl,rfl,by omega,(Below.refl _ _).alloc (Nat.le_refl _) _,Blk.new _ _ _ rfl⟩
 case round=>
  obtain⟨k,rfl,rfl,hk,hb,hbox⟩:=hrel
  have c0:wr.cell? ⟨w.heap.size,0,none⟩=some (.slice a args.length c):=hbox.cell rfl
  have hlt0:=hbox.lt
  by_cases hlt:k<args.length
  ·obtain⟨rfl,hF⟩:=ha (by omega)
   have e1:wr.cell? ⟨bl,off+k * 2,none⟩=some (.slice (A k) (N k) (C k)):=(hw.below hb) _ _ _ hF (h1 k hlt)
   have e2:wr.cell? ⟨bl,off+k * 2+1,none⟩=some (.int .i64 (B k)):=(hw.below hb) _ _ _ hF (h2 k hlt)
   have hs:Ty.sizes (args.take k)<=1000000/\args[k].size<=1000000:=by have:=Hsz.out k hlt;omega
   go_wp2_with fail
   refine(Hih.out k hlt _ (Hsz.out k hlt).1 (hw.below hb)).mono ?_
   rintro e w1 ⟨rfl,hb1⟩
   go_wp2_with fail
   go_roundw
   case rel=>exact⟨k+1,by go_num,by rw[Ty.sizes_take _ _ hlt];go_num,by omega,hb.trans (hb1.mono (by omega)),hbox.below hb1⟩
   case measure=>simp[intOf];omega
  go_wp2_with fail
  go_ret
  refine⟨?_,hb⟩
  rw[Hend.out,List.take_of_length_le (by omega)];rfl
set_option maxHeartbeats 400000 in
theorem JU {F:Nat->Prop}{w:World}{s b:Value}{t:Ty}(ht:Xj F w s b t)(most depth:Int)(hm0:1<=most)(hm1:most<=1000)(hd1:depth<=1000)(hd0:-1000<=depth):
  Calls Tryz.prog 39 #[.agg #[s,b],.int .i64 most,.int .i64 depth] w (SC ((t.size:Int)<=most/\(t.depth:Int)<=depth) w):=by
 cases ht with
 | mk a n c b args bl off A N C B hn hm ha h1 h2 h3=>
 have Ht:Hid (Xj F w (.slice a n c) (.int .i64 b) (.mk args b)):=Xj.mk a n c b args bl off A N C B hn hm ha h1 h2 h3
 clear hn hm ha h1 h2 h3
 go_enter Tryz.func39,Tryz.ntmps39
 go_wp2_with fail
 refine(Jj Ht.out most depth _ hm0 hm1 hd1 hd0 ((Keep.refl _ _).alloc _)).mono ?_
 rintro e w1 ⟨r,hf,rfl,hb1⟩
 go_wp2_with fail
 go_ret
 refine⟨decide (r<=most),?_,rfl,((Below.refl _ _).alloc (Nat.le_refl _) _).trans (hb1.mono (by simp))⟩
 unfold Pb at hf
 rw[decide_eq_true_iff]
 constructor
 ·intro h;omega
 intro h;omega
set_option maxHeartbeats 400000 in
theorem HD {F:Nat->Prop}{w0:World}{s b:Value}{t:Ty}(ht:Xj F w0 s b t):∀ (bases:Int) (w:World),t.size<=1000000->Keep F w0 w ->
  Calls Tryz.prog 131 #[.agg #[s,b],.int .i64 bases] w (SC (Ty.Low bases t) w):=by
 induction ht with
 | mk a n c b args bl off A N C B hn hm ha h1 h2 h3 ih=>
 intro bases w hsz hw
 clear h3 hm
 subst hn
 have hlen:args.length<=1000000:=by have:=Ty.length_lt (l:=args) (b:=b);omega
 have Hsz:Hid (∀ i (h:i<args.length),args[i].size<=1000000):=λ i h=>by
  have:=Ty.size_get (b:=b) i h;omega
 have Hlow:Hid (Ty.Low bases (.mk args b)↔0<=b/\b<bases/\∀ t∈args,Ty.Low bases t):=Ty.low_iff
 have Hih:=Lib.hid ih;clear ih hsz
 by_cases hb0:b<0
 ·skip
  go_enter Tryz.func131,Tryz.ntmps131
  go_wp2_with fail
  go_ret
  refine⟨false,?_,rfl,(Below.refl _ _).alloc (Nat.le_refl _) _⟩
  rw[Hlow.out];simp;omega
 by_cases hb1:bases<=b
 ·skip
  go_enter Tryz.func131,Tryz.ntmps131
  go_wp2_with fail
  go_ret
  refine⟨false,?_,rfl,(Below.refl _ _).alloc (Nat.le_refl _) _⟩
  rw[Hlow.out];simp;omega
 go_enter Tryz.func131,Tryz.ntmps131
 go_wp2_with fail
 go_loopw [5] (λ i wr=>∃ k:Nat,i=.int .i64 k/\k<=args.length/\(∀ t∈args.take k,Ty.Low bases t)/\Below w.heap.size w wr/\Blk wr w.heap.size #[.slice a args.length c,.int .i64 b] 104) (λ i _=>args.length-(intOf i).toNat)
 case atStart=>exact⟨0,rfl,by omega,by simp,(Below.refl _ _).alloc (Nat.le_refl _) _,Blk.new _ _ _ rfl⟩
 case round=>
  obtain⟨k,rfl,hk,hall,hb,hbox⟩:=hrel
  have Hall:=Lib.hid hall;clear hall
  have c0:wr.cell? ⟨w.heap.size,0,none⟩=some (.slice a args.length c):=hbox.cell rfl
  have hlt0:=hbox.lt
  by_cases hlt:k<args.length
  ·obtain⟨rfl,hF⟩:=ha (by omega)
   have e1:wr.cell? ⟨bl,off+k * 2,none⟩=some (.slice (A k) (N k) (C k)):=(hw.below hb) _ _ _ hF (h1 k hlt)
   have e2:wr.cell? ⟨bl,off+k * 2+1,none⟩=some (.int .i64 (B k)):=(hw.below hb) _ _ _ hF (h2 k hlt)
   go_wp2_with fail
   refine(Hih.out k hlt _ _ (Hsz.out k hlt) (hw.below hb)).mono ?_
   rintro e w1 ⟨r,hr,rfl,hb2⟩
   cases r
   ·have Hr:=Lib.hid (QF hr);clear hr
    go_wp2_with fail
    go_ret
    refine⟨false,?_,rfl,hb.trans (hb2.mono (by omega))⟩
    rw[Hlow.out];simp
    intro _ _
    exact⟨args[k],List.getElem_mem hlt,Hr.out⟩
   have Hr:=Lib.hid (Sy hr);clear hr
   go_wp2_with fail
   go_roundw
   case rel=>exact⟨k+1,by go_num,by omega,Ty.forall_take_succ hlt Hall.out Hr.out,hb.trans (hb2.mono (by omega)),hbox.below hb2⟩
   case measure=>simp[intOf];omega
  go_wp2_with fail
  go_ret
  refine⟨true,?_,rfl,hb⟩
  rw[Hlow.out];simp
  have h:=Hall.out
  rw[List.take_of_length_le (by omega)] at h
  exact⟨by omega,by omega,h⟩
set_option maxHeartbeats 400000 in
theorem OH {F:Nat->Prop}{w:World}{s b:Value}{t:Ty}(ht:Xj F w s b t)(bases:Int):
  Calls Tryz.prog 111 #[.agg #[s,b],.int .i64 bases] w (SC (t.size<=1000/\t.depth<=60/\Ty.Low bases t) w):=by
 cases ht with
 | mk a n c b args bl off A N C B hn hm ha h1 h2 h3=>
 have Ht:Hid (Xj F w (.slice a n c) (.int .i64 b) (.mk args b)):=Xj.mk a n c b args bl off A N C B hn hm ha h1 h2 h3
 clear hn hm ha h1 h2 h3
 go_enter Tryz.func111,Tryz.ntmps111
 go_wp2_with fail
 refine(JU (Ht.out.keep ((Keep.refl _ _).alloc _)) 1000 60 (by omega) (by omega) (by omega) (by omega)).mono ?_
 rintro e w1 ⟨r,hr,rfl,hb1⟩
 have hB:Below w.heap.size w w1:=((Below.refl _ _).alloc (Nat.le_refl _) _).trans (hb1.mono (by simp))
 cases r
 ·have Hr:=Lib.hid (QF hr);clear hr
  go_wp2_with fail
  go_ret
  refine⟨false,?_,rfl,hB⟩
  simp
  intro h1 h2
  exact absurd ⟨by omega,by omega⟩ Hr.out
 have Hr:=Lib.hid (Sy hr);clear hr
 have c0:=((Blk.new w #[.slice a n c,.int .i64 b] 104 rfl).below hb1)
 have c1:w1.cell? ⟨w.heap.size,0,none⟩=some (.slice a n c):=c0.cell rfl
 have c2:w1.cell? ⟨w.heap.size,1,none⟩=some (.int .i64 b):=c0.cell rfl
 go_wp2_with fail
 refine(HD Ht.out bases _ (by have:=Hr.out;omega) (((Keep.refl _ _).alloc _).below hb1)).mono ?_
 rintro e w2 ⟨r,hr2,rfl,hb2⟩
 go_wp2_with fail
 go_ret
 have:=Hr.out
 exact⟨r,by rw[hr2];exact⟨λ h=>⟨by omega,by omega,h⟩,λ h=>h.2.2⟩,rfl,hB.trans (hb2.mono hB.size)⟩
theorem XL (l:List Ty)(b:Int):(Ty.mk l b).args=l:=rfl
theorem Wv (l:List Ty)(b:Int):(Ty.mk l b).base=b:=rfl
theorem Us {p:Prop}{w:World}{e:Ending}{w':World}(h:SC p w e w'):∃ r:Bool,Hid (r=true↔p)/\e=.returned (.bool r)/\Below w.heap.size w w':=h
attribute [local go_sem ↓] Go.wp_at_zero Go.wp_at_succ
theorem LO:(Tryz.prog.info? 106).map (λ i=>(i.zero,i.size,i.bytes))=some (some (.agg #[.slice none 0 0,.int .i64 0]),2,32):=by kernel_rfl
end Go.Proofs.YtclihnccilkohaaGreat
namespace Go.Proofs.YtclihnccilkohaaGreat
open Go.RowKit Go.Shelf
attribute [local go_sem] Oper.semAt_some
theorem NO {F:Fence}(hd:F.depth=none)(k:Nat):F.room k:=λ d h=>by rw[hd] at h;cases h
theorem NP {F:Fence}(hd:F.depth=none){m m':Nat}{P:Program}{l:Nat}{f:FuncId}{tmps:Array Value}{assign body:Code}{w:World}{R:Ending->World->Prop} 
  (h:RoundIn F m P l f tmps assign body w R):RoundIn F m' P l f tmps assign body w R:=⟨h.1,λ c cs _=>h.2 c cs (NO hd _)⟩
theorem Ro {F:Fence}(hd:F.depth=none){m:Nat}(m':Nat){P:Program}{l:Nat}{args:Array Value}{W:World}{R:Ending->World->Prop}(h:YieldAt F m P l args W R):YieldAt F m' P l args W R:=by
 obtain⟨fn,tmps,assign,body,hy,hR⟩:=h
 exact⟨fn,tmps,assign,body,hy,NP hd hR⟩
structure KeepC (G:Nat->TypeId->Prop) (A B:World):Prop where
 size:A.heap.size<=B.heap.size
 cells:∀ k cs t fr,G k t->A.heap[k]?=some (.cells cs t fr)->B.heap[k]?=some (.cells cs t fr)
namespace KeepC
variable {G:Nat->TypeId->Prop} {A B C:World}
theorem refl (G:Nat->TypeId->Prop)(A:World):KeepC G A A:=⟨Nat.le_refl _,λ _ _ _ _ _ h=>h⟩
theorem trans (h:KeepC G A B)(h':KeepC G B C):KeepC G A C:=⟨Nat.le_trans h.size h'.size,λ k cs t fr hk hc=>h'.cells k cs t fr hk (h.cells k cs t fr hk hc)⟩
theorem below (h:KeepC G A B)(hb:Below B.heap.size B C):KeepC G A C:=h.trans ⟨hb.size,λ k _ _ _ _ hc=>(hb.block k (Array.getElem?_eq_some_iff.1 hc).1).trans hc⟩
theorem alloc (h:KeepC G A B)(o:Obj):KeepC G A (B.alloc o):=h.below ((Below.refl _ _).alloc (Nat.le_refl _) _)
theorem setCell (h:KeepC G A B)(p:Addr)(u:Value)(hp:∀ t,¬ G p.block t):KeepC G A (B.setCell p u):=
 h.trans ⟨by simp,λ k cs t fr hk hc=>(Below.heap_setCell _ _ _ _ (λ e=>hp _ (e ▸ hk))).trans hc⟩
theorem putObj (G:Nat->TypeId->Prop)(W:World)(l:Nat)(o o':Obj)(hl:W.heap[l]?=some o)(ho:o.isCells=false):KeepC G W (W.putObj l o'):=
 ⟨by simp,λ k cs t fr _ hc=>by
  have hne:k≠l:=λ e=>by subst e;rw[hl] at hc;cases hc;simp[Obj.isCells] at ho
  exact(World.putObj_heap_other hne).trans hc⟩
theorem keep {F:Nat->Prop}(h:KeepC G A B)(hF:∀ k t,F k->k<A.heap.size->G k t):Keep F A B:=λ k o v hk hv=>by
 have hlt:=Keep.lt hv
 simp only[World.cell?] at hv ⊢
 cases hc:A.heap[k]? with
 | none=>rw[hc] at hv;simp at hv
 | some x=>
  cases x with
  | cells cs t fr=>rw[h.cells k cs t fr (hF k t hk hlt) hc];rw[hc] at hv;exact hv
  | _=>rw[hc] at hv;simp at hv
theorem keep' {F:Nat->Prop}{w0:World}(h:KeepC G A B)(hw:Keep F w0 A)(hF:∀ k t,F k->k<w0.heap.size->G k t):Keep F w0 B:=λ k o v hk hv=>
 (h.keep (F:=λ q=>F q/\q<w0.heap.size) λ q t hq _=>hF q t hq.1 hq.2) k o v ⟨hk,Keep.lt hv⟩ (hw k o v hk hv)
theorem blk (h:KeepC G A B){n:Nat}{cs:Array Value}{t:TypeId}(hb:Blk A n cs t)(hn:G n t):Blk B n cs t:=h.cells n cs t (0,0) hn hb
end KeepC
namespace Ty
mutual
def pre:Ty->Nat->List (Nat×Ty)
 | .mk l b,d=>(d,.mk l b) :: pres l (d+1)
def pres:List Ty->Nat->List (Nat×Ty)
 | [],_=>[]
 | t :: l,d=>pre t d++pres l d
end
theorem pres_append (l r:List Ty)(d:Nat):pres (l++r) d=pres l d++pres r d:=by
 induction l with
 | nil=>simp[pres]
 | cons t l ih=>simp[pres,ih]
theorem pres_take (l:List Ty)(i d:Nat)(h:i<l.length):pres (l.take (i+1)) d=pres (l.take i) d++pre l[i] d:=by
 rw[List.take_succ_eq_append_getElem h,pres_append];simp[pres]
theorem pres_take_le (l:List Ty)(i d:Nat):pres (l.take i) d <+: pres l d:=by
 conv=>rhs;rw[<-List.take_append_drop i l]
 rw[pres_append];exact List.prefix_append _ _
theorem pre_length (t:Ty):∀ d,(pre t d).length=t.size:=by
 induction t using Ty.ind with
 | h args base ih=>
  intro d
  have:∀ l:List Ty,(∀ t∈l,∀ d,(pre t d).length=t.size)->∀ d,(pres l d).length=sizes l:=by
   intro l
   induction l with
   | nil=>intro _ d;simp[pres,sizes]
   | cons t l ih2=>intro h d;simp[pres,sizes,h t (by simp) d,ih2 (λ t ht=>h t (by simp[ht])) d]
  simp[pre,size,this args ih (d+1)]
theorem pres_length (l:List Ty)(d:Nat):(pres l d).length=sizes l:=by
 induction l with
 | nil=>simp[pres,sizes]
 | cons t l ih=>simp[pres,sizes,pre_length,ih]
end Ty
structure U5 (F:Nat->Prop) (w:World) where
 d:Nat
 a:Option Addr
 n:Nat
 c:Nat
 b:Int
 t:Ty
 ok:Xj F w (.slice a n c) (.int .i64 b) t
 sz:t.size<=1000000
def U5.key {F:Nat->Prop}{w:World}(x:U5 F w):Nat×Ty:=(x.d,x.t)
def U5.enc {F:Nat->Prop}{w:World}(x:U5 F w):Array Value:=#[.int .i64 x.d,.agg #[.slice x.a x.n x.c,.int .i64 x.b]]
def K5 {F:Nat->Prop}{w0:World}(G:Nat->TypeId->Prop)(J Jx:List (U5 F w0)->World->Prop)(pre:List (U5 F w0))(l:List (Nat×Ty))(W:World)(e:Ending)(W':World):Prop:=
 (e=.returned (.bool true)/\KeepC G W W'/\∃ xs,xs.map U5.key=l/\J (pre++xs) W')∨(e=.returned (.bool false)/\∃ xs,xs.map U5.key <+: l/\Jx (pre++xs) W')
set_option maxRecDepth 100000 in
set_option maxHeartbeats 1000000 in
theorem IB {F:Nat->Prop}{w0:World}(G:Nat->TypeId->Prop)(hGF:∀ k t,F k->k<w0.heap.size->G k t)(l N:Nat)(hN0:N<=1000000)(J Jx:List (U5 F w0)->World->Prop)(hJ:∀ p W o,J p W->J p (W.alloc o)) 
  (hY:∀ m pre x W,J pre W->pre.length<N->YieldAt Fence.wide m Tryz.prog l (U5.enc x) W λ e W'=>
   (e=.returned (.bool true)/\J (pre++[x]) W'/\KeepC G W W')∨(e=.returned (.bool false)/\Jx (pre++[x]) W'))
  {s b:Value} {t:Ty} (ht:Xj F w0 s b t):∀ (n d:Nat) (di:Int) (pre:List (U5 F w0)) (W:World),di=d->(∀ k t,W.heap.size<=k->t≠3->G k t)->Keep F w0 W->J pre W->pre.length+t.size<=N->d+t.depth<=1000000 ->
   CallsIn Fence.wide n Tryz.prog 144 #[.agg #[s,b],.int .i64 di,.func (.yield l) #[] #[]] W (K5 G J Jx pre (t.pre d) W):=by
 induction ht with
 | mk a n c b args bl off A N' C B hn hm ha h1 h2 h3 ih=>
 intro nn d di pre W hdi hG hw hJ0 hN hd
 subst hdi
 have ht:Xj F w0 (.slice a n c) (.int .i64 b) (.mk args b):=Xj.mk a n c b args bl off A N' C B hn hm ha h1 h2 h3
 clear h3 hm
 subst hn
 have Hsz0:Hid ((Ty.mk args b).size<=1000000):=by show _<=_;omega
 have hdd:∀ k:Nat,(Fence.wide.depth.isSome=true->1<=k):=λ k h=>by cases h
 have hlen:args.length<=1000000:=by have:=Ty.length_lt (l:=args) (b:=b);omega
 obtain⟨fn,tmps,assign,body,hy,hR⟩:=hY (nn-1) pre ⟨d,_,_,_,_,_,ht,Hsz0.out⟩ (W.alloc (.cells #[.slice a args.length c,.int .i64 b] 106)) (hJ _ _ _ hJ0) (by have:=Ty.size_pos (.mk args b);omega)
 dsimp only[U5.enc] at hy
 refine callsIn_of_wp Tryz.func144 rfl trivial ?_ rfl
 simp only[Tryz.ntmps144,List.size_toArray,List.length_cons,List.length_nil,Nat.reduceAdd,Nat.reduceSub,Array.replicate_succ,Array.replicate_zero,List.push_toArray,List.append_toArray,List.nil_append,List.cons_append]
 gi_wp2_with fail
 refine⟨hdd _,hR.mono ?_⟩
 rintro e W1 (⟨rfl,hJ1,hk1⟩ | ⟨rfl,hx1⟩)
 rotate_left
 ·gi_wp2_with fail
  go_ret
  exact .inr ⟨rfl,[⟨d,_,_,_,_,_,ht,Hsz0.out⟩],⟨Ty.pres args (d+1),by simp[U5.key,Ty.pre]⟩,hx1⟩
 have hk0:KeepC G W W1:=((KeepC.refl G W).alloc _).trans hk1
 have hbox:Blk W1 W.heap.size #[.slice a args.length c,.int .i64 b] 106:=hk1.blk (Blk.new _ _ _ rfl) (hG _ _ (Nat.le_refl _) (by decide))
 have c0:W1.cell? ⟨W.heap.size,0,none⟩=some (.slice a args.length c):=hbox.cell rfl
 have Hih:=Lib.hid ih;clear ih
 have hG':=Lib.hid hG;clear hG
 have hN':=Lib.hid hN;clear hN
 have hd':=Lib.hid hd;clear hd
 have Ht:=Lib.hid ht
 have hJ1':=Lib.hid hJ1
 clear hR hy hY
 gi_wp2_with fail
 gi_loopw [8,17] (λ _ i wr=>∃ (k:Nat) (xs:List (U5 F w0)),i=.int .i64 k/\k<=args.length/\Hid (xs.map U5.key=Ty.pres (args.take k) (d+1))/\J (pre++[⟨d,_,_,_,_,_,Ht.out,Hsz0.out⟩]++xs) wr/\KeepC G W wr) (λ _ i _=>args.length-(intOf i).toNat)
 case atStart=>exact⟨0,[],rfl,by omega,by simp[Hid,Ty.pres],by simpa using hJ1,hk0⟩
 case round=>
  obtain⟨k,xs,rfl,hk,hxs,hJr,hkr⟩:=hrel
  have Hkr:=Lib.hid hkr
  have HJr:=Lib.hid hJr;clear hJr
  have hsz:=hkr.size
  by_cases hlt:k<args.length
  ·obtain⟨rfl,hF⟩:=ha (by omega)
   have hKp:Keep F w0 wr:=hkr.keep' hw hGF
   have e1:wr.cell? ⟨bl,off+k * 2,none⟩=some (.slice (A k) (N' k) (C k)):=hKp _ _ _ hF (h1 k hlt)
   have e2:wr.cell? ⟨bl,off+k * 2+1,none⟩=some (.int .i64 (B k)):=hKp _ _ _ hF (h2 k hlt)
   have hdb:(d:Int)<=1000000:=by have:=hd'.out;omega
   have hs1:=Lib.hid (Ty.sizes_take args k hlt)
   have hs2:=Lib.hid (Ty.sizes_take_le args (k+1))
   have hl:Hid (xs.length=Ty.sizes (args.take k)):=by
    show _=_
    have:=congrArg List.length hxs.out
    rw[List.length_map] at this
    rw[this,Ty.pres_length]
   gi_wp2_with fail
   refine⟨trivial,hdd _,(Hih.out k hlt (nn-1) (d+1) ((d:Int)+1) _ _ (by omega) (λ q t hq ht=>hG'.out q t (by simp at hq;omega) ht) (hKp.alloc _) (hJ _ _ _ HJr.out) ?_ ?_).mono ?_⟩
   ·have:=hN'.out;have:=hl.out;have:=hs1.out;have:=hs2.out;simp[Ty.size_eq] at *;omega
   ·have:=hd'.out;have:=Ty.depth_get (b:=b) k hlt;omega
   rintro e W2 (⟨rfl,hk2,ys,hys,hJ2⟩ | ⟨rfl,ys,hys,hx2⟩)
   ·have HJ2:=Lib.hid hJ2;clear hJ2
    have Hys:=Lib.hid hys;clear hys
    gi_wp2_with fail
    go_roundw
    case rel=>exact⟨k+1,xs++ys,by go_num,by omega,by show _=_;rw[List.map_append,hxs.out,Hys.out,Ty.pres_take _ _ _ hlt],by rw[<-List.append_assoc];exact HJ2.out,(Hkr.out.alloc _).trans hk2⟩
    case measure=>simp[intOf];omega
   have Hys:=Lib.hid hys;clear hys
   have Hx2:=Lib.hid hx2;clear hx2
   gi_wp2_with fail
   go_ret
   refine .inr ⟨rfl,⟨d,_,_,_,_,_,Ht.out,Hsz0.out⟩ :: (xs++ys),?_,by simpa using Hx2.out⟩
   obtain⟨r,hr⟩:=Hys.out
   have hp:=Ty.pres_take args k (d+1) hlt
   rw[<-hr] at hp
   obtain⟨q,hq⟩:=Ty.pres_take_le args (k+1) (d+1)
   refine⟨r++q,?_⟩
   simp only[Ty.pre,List.map_cons,List.map_append,U5.key,List.cons_append]
   rw[<-hq,hp,<-hxs.out]
   simp[U5.key,Function.comp_def]
  gi_wp2_with fail
  go_ret
  refine .inl ⟨rfl,Hkr.out,⟨d,_,_,_,_,_,Ht.out,Hsz0.out⟩ :: xs,?_,by simpa using HJr.out⟩
  have h:=hxs.out
  rw[List.take_of_length_le (by omega)] at h
  simp[Ty.pre,U5.key,<-h]
theorem Jg {F:Nat->Prop}{w0:World}(G:Nat->TypeId->Prop)(hGF:∀ k t,F k->k<w0.heap.size->G k t)(l:Nat)(J Jx:List (U5 F w0)->World->Prop)(hJ:∀ p W o,J p W->J p (W.alloc o)) 
  {s b:Value} {t:Ty} (ht:Xj F w0 s b t) (hsz:t.size<=500000) (n:Nat)
  (hY:∀ pre x W,J pre W->pre.length<t.size->YieldAt Fence.wide (n-1) Tryz.prog l (U5.enc x) W λ e W'=>
   (e=.returned (.bool true)/\J (pre++[x]) W'/\KeepC G W W')∨(e=.returned (.bool false)/\Jx (pre++[x]) W'))
  (W:World) (hG:∀ k t,W.heap.size<=k->t≠3->G k t) (hw:Keep F w0 W) (Bt:Nat) (c0:W.cell? ⟨Bt,0,none⟩=some s) (c1:W.cell? ⟨Bt,1,none⟩=some b) (h0:J [] W) :
  CallsIn Fence.wide n Tryz.prog 143 #[.func (.yield l) #[] #[],.pointer (some ⟨Bt,0,none⟩)] W λ e W'=>(∃ v,e=.returned v) /\
   ((∃ ys,List.map U5.key ys=t.pre 1/\J ys W')∨(∃ pre,List.map U5.key pre <+: t.pre 1/\Jx pre W')):=by
 have hdd:∀ k:Nat,(Fence.wide.depth.isSome=true->1<=k):=λ k h=>by cases h
 have hp:=Lib.hid (IB G hGF l t.size (by omega) J Jx hJ (λ m pre x W hj hl=>Ro rfl m (hY pre x W hj hl)) ht (n-1) 1 1 [] W rfl hG hw h0 (by simp) (by have:=Ty.depth_le_size t;omega))
 have hG':=Lib.hid hG;clear hG hY
 obtain⟨a,c,rfl,rfl⟩:=ht.shape
 refine callsIn_of_wp Tryz.func143 rfl trivial ?_ rfl
 simp only[Tryz.ntmps143,List.size_toArray,List.length_cons,List.length_nil,Nat.reduceAdd,Nat.reduceSub,Array.replicate_succ,Array.replicate_zero,List.push_toArray,List.append_toArray,List.nil_append,List.cons_append]
 gi_wp2_with fail
 refine⟨trivial,hdd _,hp.out.mono ?_⟩
 rintro e W1 (⟨rfl,hk,ys,hys,hJ1⟩ | ⟨rfl,ys,hys,hx⟩)
 ·have A1:=Lib.hid hys;clear hys
  gi_wp2_with fail
  go_end0
  exact⟨⟨_,rfl⟩,.inl ⟨ys,A1.out,by simpa using hJ1⟩⟩
 have A1:=Lib.hid hys;clear hys
 gi_wp2_with fail
 go_end0
 exact⟨⟨_,rfl⟩,.inr ⟨ys,A1.out,by simpa using hx⟩⟩
theorem Ob {F:Nat->Prop}{w0:World}(G:Nat->TypeId->Prop)(hGF:∀ k t,F k->k<w0.heap.size->G k t){s b:Value}{t:Ty}(ht:Xj F w0 s b t)(hsz:t.size<=500000)(n:Nat) 
  (w:World) (hG:∀ k t,w.heap.size<=k->t≠3->G k t) (hw:Keep F w0 w) (Bt:Nat) (hB:Blk w Bt #[s,b] 106) :
  SeqStopsK Fence.wide n Tryz.prog 143 #[.pointer (some ⟨Bt,0,none⟩)] (U5.enc (F:=F) (w:=w0)) (KeepC G) (λ ys=>ys.map U5.key=t.pre 1) (λ p=>p.map U5.key <+: t.pre 1) t.size w:=
 λ l J Jx W hW hJ _ hY h0=>by
  have hB':=hB.below hW
  exact Jg G hGF l J Jx (λ p W' o hj=>hJ p W' _ none hj (World.grownBy_alloc W' o none) (λ r e=>by cases e)) ht hsz n hY W (λ k t hk ht=>hG k t (Nat.le_trans hW.size hk) ht) (hw.below hW) Bt (hB'.cell rfl) (hB'.cell rfl) h0
theorem II (s b:Value)(n:Nat)(w:World)(hs:∃ a m c,s=.slice a m c)(hb:∃ i,b=.int .i64 i):
  CallsIn Fence.wide n Tryz.prog 130 #[.agg #[s,b]] w λ e w'=>e=.returned (.func (.func 143) #[] #[.pointer (some ⟨w.heap.size,0,none⟩)])/\w'=w.alloc (.cells #[s,b] 106):=by
 obtain⟨a,m,c,rfl⟩:=hs
 obtain⟨i,rfl⟩:=hb
 refine callsIn_of_wp Tryz.func130 rfl trivial ?_ rfl
 simp only[Tryz.ntmps130,List.size_toArray,List.length_cons,List.length_nil,Nat.reduceAdd,Nat.reduceSub,Array.replicate_succ,Array.replicate_zero,List.push_toArray,List.append_toArray,List.nil_append,List.cons_append]
 gi_wp2_with fail
 go_ret
 exact⟨rfl,rfl⟩
end Go.Proofs.YtclihnccilkohaaGreat
namespace Go.Proofs.YtclihnccilkohaaGreat
open Go.RowKit Go.Shelf
attribute [local go_sem] Oper.semAt_some
def GV (a b:Nat)(k:Nat)(_:TypeId):Prop:=k<a∨b<=k
theorem Uj {W W':World}{row:Option Nat}{n:Nat}{cs:Array Value}{t:TypeId}(h:Blk W n cs t)(hg:W.grownBy W' row)(hrow:∀ r,row=some r->∃ o:Obj,W.heap[r]?=some o/\o.isCells=false):Blk W' n cs t:=
 h.grown hg λ e=>by
  obtain⟨o,ho,hc⟩:=hrow _ e
  have h':W.heap[n]?=_:=h
  rw[h'] at ho;cases ho;simp[Obj.isCells] at hc
def Ur:List (Nat×Ty)->Nat:=List.foldl (λ n x=>max n x.1) 0
theorem Mj (l:List (Nat×Ty))(n:Nat):l.foldl (λ n x=>max n x.1) n=max n (Ur l):=by
 induction l generalizing n with
 | nil=>simp[Ur]
 | cons x l ih=>simp only[Ur,List.foldl_cons];rw[ih,ih];omega
theorem TT (l r:List (Nat×Ty)):Ur (l++r)=max (Ur l) (Ur r):=by
 simp only[Ur,List.foldl_append];rw[Mj];rfl
theorem T2 (x:Nat×Ty)(l:List (Nat×Ty)):Ur (x :: l)=max x.1 (Ur l):=by
 have:=TT [x] l;simpa[Ur] using this
theorem Lk (t:Ty):∀ d,Ur (t.pre d)+1=d+t.depth:=by
 induction t using Ty.ind with
 | h args base ih=>
  intro d
  have:∀ l:List Ty,(∀ t∈l,∀ d,Ur (t.pre d)+1=d+t.depth)->∀ d,max (Ur (Ty.pres l (d+1))+1) (d+1)=d+1+Ty.depths l:=by
   intro l
   induction l with
   | nil=>intro _ d;simp[Ty.pres,Ur,Ty.depths]
   | cons t l ih2=>
    intro h d
    have h1:=h t (by simp) (d+1)
    have h2:=ih2 (λ t ht=>h t (by simp[ht])) d
    simp only[Ty.pres,TT,Ty.depths];omega
  have h1:=this args ih d
  simp only[Ty.pre,T2,Ty.depth];omega
theorem Jw {l:List (Nat×Ty)}{m:Nat}(h:∀ p∈l,p.1<=m):Ur l<=m:=by
 induction l with
 | nil=>simp[Ur]
 | cons x l ih=>rw[T2];have:=h x (by simp);have:=ih (λ p hp=>h p (by simp[hp]));omega
theorem Ju {l:List (Nat×Ty)}{p:Nat×Ty}(h:p∈l):p.1<=Ur l:=by
 induction l with
 | nil=>cases h
 | cons x l ih=>
  rw[T2]
  rcases List.mem_cons.1 h with rfl | h
  ·omega
  have:=ih h;omega
theorem Jy (t:Ty):∀ d p,p∈t.pre d->∀ {bases:Int},Ty.Low bases t->0<=p.2.base/\p.2.base<bases:=by
 induction t using Ty.ind with
 | h args base ih=>
  intro d p hp bases hl
  rw[Ty.low_iff] at hl
  simp only[Ty.pre] at hp
  rcases List.mem_cons.1 hp with rfl | hp
  ·exact⟨hl.1,hl.2.1⟩
  have:∀ l:List Ty,(∀ t∈l,t∈args)->p∈Ty.pres l (d+1)->0<=p.2.base/\p.2.base<bases:=by
   intro l
   induction l with
   | nil=>intro _ h;simp[Ty.pres] at h
   | cons t l ih2=>
    intro hs h
    simp only[Ty.pres] at h
    rcases List.mem_append.1 h with h | h
    ·exact ih t (hs t (by simp)) _ _ h (hl.2.2 t (hs t (by simp)))
    exact ih2 (λ t ht=>hs t (by simp[ht])) h
  exact this args (λ _ h=>h) hp
theorem Ow (t:Ty){bases:Int}:∀ d,(∀ p∈t.pre d,0<=p.2.base/\p.2.base<bases)->Ty.Low bases t:=by
 induction t using Ty.ind with
 | h args base ih=>
  intro d h
  have h0:=h (d,.mk args base) (by simp[Ty.pre])
  refine .mk _ _ h0.1 h0.2 λ t ht=>ih t ht (d+1) λ p hp=>h p ?_
  have:∀ l:List Ty,t∈l->p∈Ty.pres l (d+1):=by
   intro l
   induction l with
   | nil=>intro h;cases h
   | cons u l ih2=>
    intro h
    simp only[Ty.pres]
    rcases List.mem_cons.1 h with rfl | h
    ·exact List.mem_append_left _ hp
    exact List.mem_append_right _ (ih2 h)
  simp only[Ty.pre]
  exact List.mem_cons_of_mem _ (this args ht)
end Go.Proofs.YtclihnccilkohaaGreat
namespace Go.Proofs.YtclihnccilkohaaGreat
open Go.RowKit Go.Shelf
attribute [local go_sem] Oper.semAt_some
def SB (bases:Int)(p:Nat×Ty):Prop:=p.1<=60/\0<=p.2.base/\p.2.base<bases
theorem Rf (t:Ty)(bases:Int):(t.size<=1000/\∀ p∈t.pre 1,SB bases p)↔(t.size<=1000/\t.depth<=60/\Ty.Low bases t):=by
 have hd:=Lk t 1
 constructor
 ·rintro⟨h1,h2⟩
  have:=Jw (l:=t.pre 1) (m:=60) λ p hp=>(h2 p hp).1
  exact⟨h1,by omega,Ow t 1 λ p hp=>(h2 p hp).2⟩
 rintro⟨h1,h2,h3⟩
 exact⟨h1,λ p hp=>⟨by have:=Ju hp;omega,Jy t 1 p hp h3⟩⟩
set_option maxRecDepth 100000 in
set_option maxHeartbeats 4000000 in
theorem KJ {F:Nat->Prop}{w:World}{s b:Value}{t:Ty}(ht:Xj F w s b t)(bases:Int)(hsz:t.size<=500000):
  Calls Tryz.prog 107 #[.agg #[s,b],.int .i64 bases] w (SC (t.size<=1000/\t.depth<=60/\Ty.Low bases t) w):=by
 refine(callsIn_wide (n:=9)).1 ?_
 obtain⟨a,c,hs,hb⟩:=ht.shape
 have Ht:=Lib.hid (ht.weaken (F':=λ _=>True) λ _ _ _=>trivial)
 have hshape:(∃ a m c,s=.slice a m c)/\∃ i,b=.int .i64 i:=⟨⟨_,_,_,hs⟩,_,hb⟩
 subst hs hb
 clear ht
 obtain⟨l2,hl2⟩:∃ l2,t.args.length=l2:=⟨_,rfl⟩
 obtain⟨b2,hb2⟩:∃ b2,t.base=b2:=⟨_,rfl⟩
 rw[hl2,hb2] at Ht hshape ⊢
 clear hl2 hb2
 refine callsIn_of_wp_marks Tryz.func107 rfl trivial ?_ rfl
 simp only[Tryz.ntmps107,List.size_toArray,List.length_cons,List.length_nil,Nat.reduceAdd,Nat.reduceSub,Array.replicate_succ,Array.replicate_zero,List.push_toArray,List.append_toArray,List.nil_append,List.cons_append]
 gi_wp2_with fail
 refine⟨trivial,(II _ _ _ _ hshape.1 hshape.2).mono ?_⟩
 rintro e w' ⟨rfl,rfl⟩
 gi_wp2_with fail
 obtain⟨w5,hw5⟩:∃ w5,((((w.alloc (.cells #[.slice a l2 c,.int .i64 b2] 106)).alloc (.cells #[.int .i64 bases] 3)).alloc (.cells #[.bool false] 4)).alloc (.cells #[.int .i64 0] 3)).alloc (.cells #[.slice a l2 c,.int .i64 b2] 106)=w5:=⟨_,rfl⟩
 have hB0:Below w.heap.size w w5:=by rw[<-hw5];exact(((((Below.refl _ w).alloc (Nat.le_refl _) _).alloc (by simp) _).alloc (by simp;omega) _).alloc (by simp;omega) _).alloc (by simp;omega) _
 have hz:w5.heap.size=w.heap.size+5:=by rw[<-hw5];simp
 have x1:Blk w5 (w.heap.size+1) #[.int .i64 bases] 3:=by rw[<-hw5];exact(((Blk.new _ _ _ (by simp)).alloc _).alloc _).alloc _
 have x2:Blk w5 (w.heap.size+2) #[.bool false] 4:=by rw[<-hw5];exact((Blk.new _ _ _ (by simp)).alloc _).alloc _
 have x3:Blk w5 (w.heap.size+3) #[.int .i64 0] 3:=by rw[<-hw5];exact(Blk.new _ _ _ (by simp)).alloc _
 have x4:Blk w5 (w.heap.size+4) #[.slice a l2 c,.int .i64 b2] 106:=by rw[<-hw5];exact Blk.new _ _ _ (by simp)
 rw[hw5]
 clear hw5
 have Hz:=Lib.hid hz;clear hz
 have hge:w.heap.size+5<=w5.heap.size:=by have:=Hz.out;omega
 refine wpIn_rangeFunc_ownH rfl (by omega) (gf:=143) (lb:=#[.pointer (some ⟨w.heap.size+1+1+1+1,0,none⟩)]) rfl trivial (enters_of Tryz.func143 (by kernel_rfl) rfl)
  (Ob (GV w.heap.size (w.heap.size+4)) (λ k _ _ hk=>.inl hk) Ht.out hsz (9-1) w5 (λ k _ hk _=>.inr (by omega)) ((Keep.refl _ _).below hB0) (w.heap.size+1+1+1+1) x4)
  (λ h h'=>h.trans h') (λ W l o o' _ hl ho _=>KeepC.putObj _ W l o o' hl ho) (Below.refl _ _) (λ _=>rfl)
  (λ pre W=>(((Blk W (w.heap.size+1) #[.int .i64 bases] 3/\Blk W (w.heap.size+2) #[.bool false] 4)/\Blk W (w.heap.size+3) #[.int .i64 (pre.length:Int)] 3)/\Hid (pre.length<=1000/\∀ x∈pre,SB bases x.key))/\Below w.heap.size w5 W)
  (λ c pre W=>((c=.ret/\Hid (1000<pre.length∨∃ x∈pre,¬ SB bases x.key))/\Blk W (w.heap.size+2) #[.bool false] 4)/\Below w.heap.size w5 W)
  (OwnFrom.and (Own.from (I:=fun(pre:List (U5 (λ _=>True) w)) W=>((Blk W (w.heap.size+1) #[.int .i64 bases] 3/\Blk W (w.heap.size+2) #[.bool false] 4)/\Blk W (w.heap.size+3) #[.int .i64 (pre.length:Int)] 3)/\Hid (pre.length<=1000/\∀ x∈pre,SB bases x.key)) (λ pre A B row hs hg hr=>⟨⟨⟨Uj hs.1.1.1 hg hr,Uj hs.1.1.2 hg hr⟩,Uj hs.1.2 hg hr⟩,hs.2⟩) _) (ownFrom_below hB0.size (by omega)))
  (λ c=>OwnFrom.and (Own.from (I:=fun(pre:List (U5 (λ _=>True) w)) W=>(c=.ret/\Hid (1000<pre.length∨∃ x∈pre,¬ SB bases x.key))/\Blk W (w.heap.size+2) #[.bool false] 4) (λ pre A B row hs hg hr=>⟨hs.1,Uj hs.2 hg hr⟩) _) (ownFrom_below hB0.size (by omega)))
  ⟨⟨⟨⟨x1,x2⟩,x3⟩,⟨by simp,by simp⟩⟩,Below.refl _ _⟩
  (λ x a' W=>∃ Bx,w5.heap.size<=Bx/\Blk W Bx #[.slice x.a x.n x.c,.int .i64 x.b] 106/\a'={ tmps:=#[.agg #[.slice a l2 c,.int .i64 b2],.int .i64 bases,.pointer (some ⟨w.heap.size,0,none⟩),.pointer (some ⟨w.heap.size+1,0,none⟩),.pointer (some ⟨w.heap.size+1+1,0,none⟩),.pointer (some ⟨w.heap.size+1+1+1,0,none⟩),.int .i64 x.d,.pointer (some ⟨Bx,0,none⟩),.agg #[.slice a l2 c,.int .i64 b2],.func (.func 143) #[] #[.pointer (some ⟨w.heap.size+1+1+1+1,0,none⟩)],.int .i64 x.d,.agg #[.slice x.a x.n x.c,.int .i64 x.b],undef,undef,undef,undef,undef,undef,undef,undef,undef,undef,undef,undef,undef,undef,undef,undef,undef,undef,undef],defers:=[] })
  (λ x a'=>by
   rintro u A B row ⟨Bx,h1,h2,h3⟩ hg hr
   exact⟨Bx,h1,Uj h2 hg (λ r e=>(hr r e).2),h3⟩) ?assign ?body ?done ?stop
 case assign=>
  rintro l pre x W K ⟨⟨⟨⟨y1,y2⟩,y3⟩,hp⟩,hB⟩ hK
  have HK:=Lib.hid hK;clear hK
  have Hp:=hp
  simp only[U5.enc] at *
  gi_wp2
  have ha:=Below.alloc (Below.refl W.heap.size W) (Nat.le_refl _) (.cells #[.slice x.a x.n x.c,.int .i64 x.b] 106)
  exact HK.out _ _ ((KeepsOthers.alloc _ _).from _) ((KeepC.refl _ W).alloc _) ⟨⟨⟨⟨y1.alloc _,y2.alloc _⟩,y3.alloc _⟩,hp⟩,hB.alloc (Nat.le_trans hB0.size hB.size) _⟩ ⟨W.heap.size,hB.size,Blk.new _ _ _ rfl,rfl⟩
 case body=>
  rintro l pre x a' W hl ⟨r,hr⟩ ⟨⟨⟨⟨y1,y2⟩,y3⟩,hp⟩,hB⟩ ⟨Bx,hBx,bX,rfl⟩ hlt
  have c1:W.cell? ⟨w.heap.size+1,0,none⟩=some (.int .i64 bases):=y1.cell rfl
  have c2:W.cell? ⟨w.heap.size+2,0,none⟩=some (.bool false):=y2.cell rfl
  have f2:=y2.free 0
  have c3:W.cell? ⟨w.heap.size+3,0,none⟩=some (.int .i64 (pre.length:Int)):=y3.cell rfl
  have f3:=y3.free 0
  have cx:W.cell? ⟨Bx,1,none⟩=some (.int .i64 x.b):=bX.cell rfl
  have hxb:Hid (x.b=x.t.base):=by have h:=x.ok.inv.1;exact(Value.int.inj h).2
  have hlt2:(pre.length:Int)<=1000000:=by omega
  have hBn:¬ (Bx=w.heap.size+3):=by omega
  have hNok:Hid ((¬ SB bases x.key)->(1000<(pre++[x]).length∨∃ y∈pre++[x],¬ SB bases y.key)):=λ h=>.inr ⟨x,by simp,h⟩
  have hbd:Hid (Below w.heap.size w5 ((W.setCell ⟨w.heap.size+3,0,none⟩ (.int .i64 ((pre.length:Int)+1))).setCell ⟨w.heap.size+2,0,none⟩ (.bool false))):=(hB.setCell (by simp) _).setCell (by simp) _
  by_cases h1:60<x.d
  ·have h1':(60:Int)<(x.d:Int):=by omega
   gi_wp2
   exact⟨((KeepsOthers.setCell W _ _).trans (KeepsOthers.setCell _ _ _)).from _,⟨⟨rfl,hNok.out (λ h=>by have:=h.1;simp[U5.key] at this;omega)⟩,(y2.far ⟨w.heap.size+3,0,none⟩ _ (by simp)).set 0 _⟩,hbd.out⟩
  by_cases h2:(1000:Int)<(pre.length:Int)+1
  ·gi_wp2
   exact⟨((KeepsOthers.setCell W _ _).trans (KeepsOthers.setCell _ _ _)).from _,⟨⟨rfl,.inl (by simp;omega)⟩,(y2.far ⟨w.heap.size+3,0,none⟩ _ (by simp)).set 0 _⟩,hbd.out⟩
  by_cases h3:x.b<0
  ·gi_wp2
   exact⟨((KeepsOthers.setCell W _ _).trans (KeepsOthers.setCell _ _ _)).from _,⟨⟨rfl,hNok.out (λ h=>by have:=h.2.1;rw[U5.key,<-hxb.out] at this;omega)⟩,(y2.far ⟨w.heap.size+3,0,none⟩ _ (by simp)).set 0 _⟩,hbd.out⟩
  by_cases h4:bases<=x.b
  ·gi_wp2
   exact⟨((KeepsOthers.setCell W _ _).trans (KeepsOthers.setCell _ _ _)).from _,⟨⟨rfl,hNok.out (λ h=>by have:=h.2.2;rw[U5.key,<-hxb.out] at this;omega)⟩,(y2.far ⟨w.heap.size+3,0,none⟩ _ (by simp)).set 0 _⟩,hbd.out⟩
  gi_wp2
  refine⟨(KeepsOthers.setCell W _ _).from _,(KeepC.refl _ W).setCell _ _ (by simp[GV];omega),⟨⟨⟨y1.far _ _ (by simp),y2.far _ _ (by simp)⟩,?_⟩,⟨by simp;omega,λ y hy=>?_⟩⟩,hB.setCell (by simp;omega) _⟩
  ·simpa using y3.set 0 (.int .i64 ((pre.length:Int)+1))
  rcases List.mem_append.1 hy with hy | hy
  ·exact hp.out.2 y hy
  simp at hy;subst hy
  exact⟨by simp[U5.key];omega,by simp only[U5.key];rw[<-hxb.out];omega,by simp only[U5.key];rw[<-hxb.out];omega⟩
 case done=>
  rintro D ys W hD hys ⟨⟨⟨⟨y1,y2⟩,y3⟩,hp⟩,hB⟩ hK
  have c2:W.cell? ⟨w.heap.size+2,0,none⟩=some (.bool false):=y2.cell rfl
  have f2:=y2.free 0
  have Hys:=Lib.hid hys;clear hys
  gi_wp2
  have hK':=(KeepsOthers.setCell W ⟨w.heap.size+2,0,none⟩ (.bool true)).same D _ hK rfl
  refine⟨by simp,.inl ⟨_,_,rfl,run_takeDeferred hK',?_⟩⟩
  have hc5:=cell_kept ((y2.set 0 (.bool true)).cell (i:=0) (v:=.bool true) rfl) (grownBy_putObj' _ D (.deferred none)) (λ r e=>by cases e;exact⟨_,hK',rfl⟩)
  refine⟨.bool true,?_,⟨true,?_,rfl,?_⟩⟩
  ·simp[results,Tryz.f107,go_sem,hc5]
  ·rw[<-Rf]
   simp
   have hl:ys.length=t.size:=by rw[<-Ty.pre_length t 1,<-Hys.out,List.length_map]
   refine⟨by have:=hp.out.1;omega,λ p1 p2 hp'=>?_⟩
   rw[<-Hys.out] at hp'
   obtain⟨y,hy,he⟩:=List.mem_map.1 hp'
   rw[<-he];exact hp.out.2 y hy
  exact((hB0.trans hB).setCell (p:=⟨w.heap.size+2,0,none⟩) (by simp) _).trans (belowK_b (w:=w) (Nat.le_refl _) _ D _ _ (by omega) hK' rfl rfl)
 case stop=>
  rintro D c pre W hD hpre ⟨⟨⟨rfl,hbad⟩,y2⟩,hB⟩ hK
  gi_wp2
  refine⟨by simp,.inl ⟨_,_,rfl,run_takeDeferred hK,?_⟩⟩
  have hc5:=cell_kept (y2.cell (i:=0) (v:=.bool false) rfl) (grownBy_putObj' _ D (.deferred none)) (λ r e=>by cases e;exact⟨_,hK,rfl⟩)
  refine⟨.bool false,?_,⟨false,?_,rfl,?_⟩⟩
  ·simp[results,Tryz.f107,go_sem,hc5]
  ·rw[<-Rf]
   simp only[Bool.false_eq_true,false_iff,not_and]
   intro h1 h2
   rcases hbad.out with h | ⟨y,hy,h⟩
   ·have:=hpre.length_le
    rw[List.length_map,Ty.pre_length] at this;omega
   exact h (h2 y.key (hpre.subset (List.mem_map.2 ⟨y,hy,rfl⟩)))
  exact(hB0.trans hB).trans (belowK_b (w:=w) (Nat.le_refl _) W D _ _ (by omega) hK rfl rfl)
end Go.Proofs.YtclihnccilkohaaGreat
namespace Go.Proofs.YtclihnccilkohaaGreat
open Go.RowKit
attribute [local go_sem ↓] Go.wp_at_zero Go.wp_at_succ
end Go.Proofs.YtclihnccilkohaaGreat
namespace Go.Proofs.YtclihnccilkohaaGreat
open Go.RowKit
def Hh (F:Nat->Prop)(l:List Ty)(w:World)(e:Ending)(w':World):Prop:=
 ∃ a c,e=.returned (.slice a l.length c)/\IsSl2 YD (λ k=>w.heap.size<=k) F w' (.slice a l.length c) l/\Below w.heap.size w w'
def K3 (w:World)(e:Ending)(w':World):Prop:=∃ v,e=.returned v/\(∀ F,Acc YD 106 w.heap.size F w' v [])/\Below w.heap.size w w'
set_option maxRecDepth 100000 in
set_option maxHeartbeats 400000 in
theorem LM (n:Nat)(m:Int)(w:World)(hnm:m=n)(hn:n<=1000000):
  Calls Tryz.prog 129 #[.slice none 0 0,.int .i64 m] w (K3 w):=by
 subst hnm
 obtain⟨i0,hi0,hz0,hz1,hz2⟩:=info_parts LO
 by_cases h0:n=0
 ·subst h0
  go_enter Tryz.func129,Tryz.ntmps129
  go_wp2_with fail
  go_ret
  exact⟨_,rfl,λ F=>Acc.nil _ _ _ _ _,Below.refl _ _⟩
 have hr:∀ ty,(Builtin.append_ #[41,3] ty #[.slice none 0 0,.int .i64 (n:Int)]).run Tryz.prog w=_:=λ ty=>
  Lib.run_append_grow_zeros w 41 3 ty 106 i0 (.agg #[.slice none 0 0,.int .i64 0]) .i64 .i64 Tryz.underlying41 Tryz.underlying3 hi0 hz0 none 0 0 [] (run_firstCells_none _ _ _ _ _) n (by omega) (by rw[hz1];decide) (by omega) (by omega) (by rw[hz2];omega) (by rw[hz2];exact growslice_fits (by omega) (by omega))
 have hr':∃ g,n<=g/\g<=maxLen/\∀ ty,(Builtin.append_ #[41,3] ty #[.slice none 0 0,.int .i64 (n:Int)]).run Tryz.prog w=.ok (.slice (some ⟨w.heap.size,0,none⟩) n g) (w.drew.alloc (.cells (Builtin.zeroCells (#[.slice none 0 0,.int .i64 0]) n++Builtin.zeroCells (#[.slice none 0 0,.int .i64 0]) (g-n)) 106)):=by
  refine⟨grownCap w n 0 106,grownCap_ge _ _ _ _,grownCap_le_maxLen _ _ _ _ (by unfold maxLen;omega),λ ty=>?_⟩
  have:=hr ty
  simpa[Value.cells] using this
 obtain⟨g,hg1,hg2,hg⟩:=hr'
 have hg2':=hg2
 clear hg2
 clear hr
 have hn0:0<(n:Int):=by omega
 have Hg:=Lib.hid hg;clear hg
 go_enter Tryz.func129,Tryz.ntmps129
 go_wp2_with (at_builtin;refine Vh rfl _ _ _ _ _ rfl (Hg.out _) ?_)
 go_ret
 refine⟨_,rfl,λ F=>⟨[],rfl,⟨rfl,.inr ⟨w.heap.size,g,_,rfl,Nat.le_refl _,heap_alloc_new w.drew _,Nat.zero_le _,hg2',?_,rfl⟩⟩,λ i h=>absurd h (by simp)⟩,(Below.refl _ _).drew.alloc (Nat.le_refl _) _⟩
 simp[size_zeroCells,YD];omega
set_option maxRecDepth 100000 in
set_option maxHeartbeats 1000000 in
theorem P6 {F:Nat->Prop}{w:World}{B:Nat}{a1 a2:Option Addr}{c1 c2:Nat}{l1 l2:List Ty}{tt:TypeId}(hB:Blk w B #[.slice a1 l1.length c1,.slice a2 l2.length c2] tt) 
  {G1 G2:Nat->Prop} (h1:IsSl2 YD G1 F w (.slice a1 l1.length c1) l1) (h2:IsSl2 YD G2 F w (.slice a2 l2.length c2) l2) (hl:l1.length+l2.length<=100000) :
  Calls Tryz.prog 105 #[.slice (some ⟨B,0,none⟩) 2 2] w (Hh F (l1++l2) w):=by
 obtain⟨i0,hi0,hz0,hz1,hz2⟩:=info_parts LO
 have H1:=Lib.hid (h1.weaken (G':=λ q=>q<w.heap.size) (F':=λ q=>F q/\q<w.heap.size) (by decide) (λ k hk _=>hk) λ k hk hF=>⟨hF,hk⟩);clear h1
 have H2:=Lib.hid (h2.weaken (G':=λ q=>q<w.heap.size) (F':=λ q=>F q/\q<w.heap.size) (by decide) (λ k hk _=>hk) λ k hk hF=>⟨hF,hk⟩);clear h2
 have b0:w.cell? ⟨B,0,none⟩=some (.slice a1 l1.length c1):=hB.cell rfl
 have b1:w.cell? ⟨B,1,none⟩=some (.slice a2 l2.length c2):=hB.cell rfl
 go_enter Tryz.func105,Tryz.ntmps105
 go_wp2_with fail
 go_loop [3,5,11] (λ x y i=>∃ k:Nat,k<=2/\i=.int .i64 k/\x=.int .i64 ((if k=0 then 0 else if k=1 then l1.length else l1.length+l2.length:Nat):Int)) (λ _ _ i=>2-(intOf i).toNat)
 case atStart=>exact⟨0,by omega,rfl,rfl⟩
 case round=>
  obtain⟨k,hk,rfl,rfl⟩:=hrel
  obtain rfl | rfl | rfl:k=0∨k=1∨k=2:=by omega
  ·have hs:(0:Int)+(l1.length:Int)<=100000:=by omega
   go_wp2_with fail
   go_round
   case rel=>exact⟨1,by omega,rfl,by simp⟩
   case measure=>simp[intOf]
  ·have hs:(l1.length:Int)+(l2.length:Int)<=100000:=by omega
   go_wp2_with fail
   go_round
   case rel=>exact⟨2,by omega,rfl,by simp⟩
   case measure=>simp[intOf]
  go_wp2_with fail
  refine(LM (l1.length+l2.length) _ w (by omega) (by omega)).mono ?_
  rintro e w1 ⟨v,rfl,hacc,hb1⟩
  have Hacc:=Lib.hid hacc;clear hacc
  have hKp:Keep (λ _=>True) w w1:=(Keep.refl _ _).below hb1
  go_wp2_with fail
  go_loopw [6,8,27] (λ x _ i wr=>∃ (k:Nat) (v:Value),x=v/\k<=2/\i=.int .i64 k/\Below w.heap.size w wr/\Acc YD 106 w.heap.size (λ q=>F q/\q<w.heap.size) wr v (if k=0 then [] else if k=1 then l1 else l1++l2)) (λ _ _ i _=>2-(intOf i).toNat)
  case atStart=>exact⟨0,v,rfl,by omega,rfl,hb1,Hacc.out _⟩
  case round=>
   obtain⟨k,y,hy,hk,rfl,hb,hacc⟩:=hrel
   subst hy
   have d0:wr.cell? ⟨B,0,none⟩=some (.slice a1 l1.length c1):=(hb.cell (p:=⟨B,0,none⟩) hB.lt).trans b0
   have d1:wr.cell? ⟨B,1,none⟩=some (.slice a2 l2.length c2):=(hb.cell (p:=⟨B,1,none⟩) hB.lt).trans b1
   have hsz:=hb.size
   have hKr:Keep (λ q=>F q/\q<w.heap.size) w wr:=λ q o v hq hv=>(hb.cell (p:=⟨q,o,none⟩) hq.2).trans hv
   have hFa:∀ {v:Value} {l:List Ty},Acc YD 106 w.heap.size (λ q=>F q/\q<w.heap.size) wr v l->∀ q,(F q/\q<w.heap.size)->((F q/\q<w.heap.size)/\v.ownBlock≠some q):=
    λ h q hq=>⟨hq,λ e=>by have:=(h.base_le q e).1;omega⟩
   have G1:=Lib.hid ((H1.out.bel hb))
   have G2:=Lib.hid ((H2.out.bel hb))
   obtain rfl | rfl | rfl:k=0∨k=1∨k=2:=by omega
   ·have Ha:=Lib.hid hacc;clear hacc
    go_wp2_with (at_builtin;refine Uw YD (by decide) rfl _ _ _ rfl w.heap.size 106 i0 _ 32 Tryz.underlying41 hi0 hz0 hz1 hz2 rfl (by decide) (λ q=>F q/\q<w.heap.size) u6 [] rfl Ha.out _ l1 rfl (G1.out.weaken (by decide) (λ _ _ h=>h) λ q _ hq=>hFa Ha.out q hq) (by simp;omega) hsz ?_;intro v' w2 hacc2 hgrow hat)
    have Hacc2:=Lib.hid hacc2;clear hacc2
    go_roundw
    case rel=>exact⟨1,_,rfl,by omega,rfl,hb.grown hgrow hsz (λ q hq=>(Ha.out.base_le q hq).1),by simpa using Hacc2.out⟩
    case measure=>simp[intOf]
   ·have Ha:=Lib.hid hacc;clear hacc
    go_wp2_with (at_builtin;refine Uw YD (by decide) rfl _ _ _ rfl w.heap.size 106 i0 _ 32 Tryz.underlying41 hi0 hz0 hz1 hz2 rfl (by decide) (λ q=>F q/\q<w.heap.size) u6 l1 rfl (by simpa using Ha.out) _ l2 rfl (G2.out.weaken (by decide) (λ _ _ h=>h) λ q _ hq=>hFa Ha.out q hq) (by omega) hsz ?_;intro v' w2 hacc2 hgrow hat)
    have Hacc2:=Lib.hid hacc2;clear hacc2
    go_roundw
    case rel=>exact⟨2,_,rfl,by omega,rfl,hb.grown hgrow hsz (λ q hq=>(Ha.out.base_le q hq).1),by simpa using Hacc2.out⟩
    case measure=>simp[intOf]
   have Ha:=Lib.hid hacc;clear hacc
   go_wp2_with fail
   go_ret
   have h0:Acc YD 106 w.heap.size (λ q=>F q/\q<w.heap.size) wr u6 (l1++l2):=by simpa using Ha.out
   obtain⟨a,c,hv⟩:=h0.len_shape
   refine⟨a,c,?_,?_,hb⟩
   ·rw[<-hv];rfl
   rw[<-hv];exact h0.sl2.weaken (by decide) (λ _ _ h=>h) (λ _ _ h=>h.1)
end Go.Proofs.YtclihnccilkohaaGreat
namespace Go.Proofs
open Go.Shelf
def Tryz.lays189_ren:Go.Shelf.Ren:=⟨λ | 189=>146 | 125=>155 | 257=>154 | 128=>171 | 129=>172 | 294=>162 | 295=>163 | 296=>164 | 297=>165 | 298=>166 | 299=>167 | 216=>168 | 300=>169 | 301=>170 | 328=>181 | 329=>182 | 330=>183 | 331=>184 | 332=>185 | 215=>173 | 343=>194 | n=>n,λ | 28=>71 | 3=>3 | 46=>267 | 0=>0 | 51=>251 | 53=>287 | 4=>4 | 183=>279 | 182=>278 | 131=>158 | 5=>5 | 9=>9 | 218=>293 | 222=>297 | 228=>308 | 229=>53 | n=>n,λ | n=>n⟩
theorem Tryz.lays189:Go.Proofs.Lays.n189 Tryz.prog Tryz.lays189_ren:={
 mixed:=by kernel_rfl
 f125:=Tryz.func155.trans (congrArg some (by kernel_rfl))
 f128:=Tryz.func171.trans (congrArg some (by kernel_rfl))
 f129:=Tryz.func172.trans (congrArg some (by kernel_rfl))
 f189:=Tryz.func146.trans (congrArg some (by kernel_rfl))
 f215:=Tryz.func173.trans (congrArg some (by kernel_rfl))
 f216:=Tryz.func168.trans (congrArg some (by kernel_rfl))
 f257:=Tryz.func154.trans (congrArg some (by kernel_rfl))
 f294:=Tryz.func162.trans (congrArg some (by kernel_rfl))
 f295:=Tryz.func163.trans (congrArg some (by kernel_rfl))
 f296:=Tryz.func164.trans (congrArg some (by kernel_rfl))
 f297:=Tryz.func165.trans (congrArg some (by kernel_rfl))
 f298:=Tryz.func166.trans (congrArg some (by kernel_rfl))
 f299:=Tryz.func167.trans (congrArg some (by kernel_rfl))
 f300:=Tryz.func169.trans (congrArg some (by kernel_rfl))
 f301:=Tryz.func170.trans (congrArg some (by kernel_rfl))
 f328:=Tryz.func181.trans (congrArg some (by kernel_rfl))
 f329:=Tryz.func182.trans (congrArg some (by kernel_rfl))
 f330:=Tryz.func183.trans (congrArg some (by kernel_rfl))
 f331:=Tryz.func184.trans (congrArg some (by kernel_rfl))
 f332:=Tryz.func185.trans (congrArg some (by kernel_rfl))
 f343:=Tryz.func194.trans (congrArg some (by kernel_rfl))
 t0:=Tryz.underlying0
 a0:=Tryz.isAgg0
 z0:=Tryz.sizeOf0
 v0:=Tryz.zeroValue0
 t3:=Tryz.underlying3
 a3:=Tryz.isAgg3
 z3:=Tryz.sizeOf3
 v3:=Tryz.zeroValue3
 t4:=Tryz.underlying4
 a4:=Tryz.isAgg4
 z4:=Tryz.sizeOf4
 v4:=Tryz.zeroValue4
 t5:=Tryz.underlying5
 a5:=Tryz.isAgg5
 z5:=Tryz.sizeOf5
 v5:=Tryz.zeroValue5
 t9:=Tryz.underlying9
 a9:=Tryz.isAgg9
 z9:=Tryz.sizeOf9
 v9:=Tryz.zeroValue9
 t28:=Tryz.underlying71
 a28:=Tryz.isAgg71
 z28:=Tryz.sizeOf71
 v28:=Tryz.zeroValue71
 t46:=Tryz.underlying267
 a46:=Tryz.isAgg267
 z46:=Tryz.sizeOf267
 v46:=Tryz.zeroValue267
 t51:=Tryz.underlying251
 a51:=Tryz.isAgg251
 z51:=Tryz.sizeOf251
 v51:=Tryz.zeroValue251
 t53:=Tryz.underlying287
 a53:=Tryz.isAgg287
 z53:=Tryz.sizeOf287
 v53:=Tryz.zeroValue287
 t131:=Tryz.underlying158
 a131:=Tryz.isAgg158
 z131:=Tryz.sizeOf158
 v131:=Tryz.zeroValue158
 t182:=Tryz.underlying278
 a182:=Tryz.isAgg278
 z182:=Tryz.sizeOf278
 v182:=Tryz.zeroValue278
 t183:=Tryz.underlying279
 a183:=Tryz.isAgg279
 z183:=Tryz.sizeOf279
 v183:=Tryz.zeroValue279
 t218:=Tryz.underlying293
 a218:=Tryz.isAgg293
 z218:=Tryz.sizeOf293
 v218:=Tryz.zeroValue293
 t222:=Tryz.underlying297
 a222:=Tryz.isAgg297
 z222:=Tryz.sizeOf297
 v222:=Tryz.zeroValue297
 t228:=Tryz.underlying308
 a228:=Tryz.isAgg308
 z228:=Tryz.sizeOf308
 v228:=Tryz.zeroValue308
 t229:=Tryz.underlying53
 a229:=Tryz.isAgg53
 z229:=Tryz.sizeOf53
 v229:=Tryz.zeroValue53 }
open Go.Sort Go.RowKit in
theorem Tryz.slices_Sort_int (blk off cap:Nat)(zs:List Int)(w:World)(hH:Holds (Value.int .i64) w blk off zs.toArray)(hblk:blk<w.heap.size)(hsz:zs.length<4611686018427387904):
  Calls Tryz.prog 146 #[.slice (some ⟨blk,off,none⟩) zs.length cap] w λ e w'=>
   e=.returned (.tuple #[])/\∃ n os,w'=grow (putRow (Value.int .i64) (Sort.ahead w n) blk off (zs.mergeSort λ x y=>decide (x<=y)).toArray) os:=Any.slices_Sort_int Tryz.lays189 blk off cap zs w hH hblk hsz
def Tryz.laysNm220_ren:Go.Shelf.Ren:=⟨λ | 20=>147 | n=>n,λ | 22=>71 | 3=>3 | 4=>4 | 0=>0 | n=>n,λ | n=>n⟩
theorem Tryz.laysNm220:Go.Proofs.Lays2.n20 Tryz.prog Tryz.laysNm220_ren:={
 mixed:=by kernel_rfl
 f20:=Tryz.func147.trans (congrArg some (by kernel_rfl))
 t0:=Tryz.underlying0
 a0:=Tryz.isAgg0
 z0:=Tryz.sizeOf0
 v0:=Tryz.zeroValue0
 t3:=Tryz.underlying3
 a3:=Tryz.isAgg3
 z3:=Tryz.sizeOf3
 v3:=Tryz.zeroValue3
 t4:=Tryz.underlying4
 a4:=Tryz.isAgg4
 z4:=Tryz.sizeOf4
 v4:=Tryz.zeroValue4
 t22:=Tryz.underlying71
 a22:=Tryz.isAgg71
 z22:=Tryz.sizeOf71
 v22:=Tryz.zeroValue71
 i3:=by kernel_rfl }
open Go.RowKit Go.Lib Go.Sort in
theorem Tryz.slices_Compact_int (blk off cap:Nat)(zs:List Int)(w:World)(hH:Holds (Value.int .i64) w blk off zs.toArray)(hsz:zs.length<=9223372036854775807)(hcap:zs.length<=cap):
  Calls Tryz.prog 147 #[.slice (some ⟨blk,off,none⟩) zs.length cap] w λ e w'=>e=.returned (.slice (some ⟨blk,off,none⟩) (Lib.compact zs).length cap)/\∃ q,w'=putRow (Value.int .i64) (Sort.ahead w q) blk off (Lib.compact zs++List.replicate (zs.length-(Lib.compact zs).length) 0).toArray:=Any.slices_Compact_int Tryz.laysNm220 blk off cap zs w hH hsz hcap
open Go.RowKit Go.Lib Go.Sort in
theorem Tryz.slices_Compact_int_empty (a:Option Addr)(cap:Nat)(w:World):
  Calls Tryz.prog 147 #[.slice a 0 cap] w λ e w'=>e=.returned (.slice a 0 cap)/\w'=w:=Any.slices_Compact_int_empty Tryz.laysNm220 a cap w
open Go.RowKit Go.Sort in
theorem Tryz.slices_Sort_int_none (p:Option Addr)(cap:Nat)(w:World):
  Calls Tryz.prog 146 #[.slice p 0 cap] w λ e w'=>e=.returned (.tuple #[])/\w'=w:=Any.slices_Sort_int_none Tryz.lays189 p cap w
end Go.Proofs
namespace Go.Proofs.YtclihnccilkohaaGreat
open Go.RowKit
namespace Ty
mutual
def text (names:List ByteArray):Ty->List UInt8
 | .mk l b=>texts names l++(names.getD b.toNat default).data.toList
def texts (names:List ByteArray):List Ty->List UInt8
 | []=>[]
 | t :: l=>(if t.args=[] then text names t else 40 :: text names t++[41])++[32,45,62,32]++texts names l
end
def part (names:List ByteArray)(t:Ty):List UInt8:=if t.args=[] then text names t else 40 :: text names t++[41]
end Ty
theorem LQ {α:Type}(r:Rp α)(F:Nat->Prop)(w:World):Y6 r F w (.slice none 0 0) []:=
 ⟨none,0,0,0,λ _=>[],rfl,⟨Nat.zero_le _,Nat.le_refl _⟩,λ h=>absurd h (by simp),λ _ _ _ h=>absurd h (by simp),λ _ h=>absurd h (by simp)⟩
theorem Xj.bel {F:Nat->Prop}{w w':World}{s b:Value}{t:Ty}(h:Xj F w s b t)(hb:Below w.heap.size w w'):Xj F w' s b t:=h.keep ((Keep.refl _ _).below hb)
theorem Td {F:Nat->Prop}{w:World}{a:Option Addr}{n c:Nat}{l:List Tm}(h:Y6 U6 F w (.slice a n c) l):n=l.length/\(l.length<=maxLen/\l.length<=c)/\∃ (bl off:Nat) (PA A:Nat->Option Addr) (PN PC N C:Nat->Nat) (K I:Nat->Int),
  (0<l.length->a=some ⟨bl,off,none⟩/\F bl)/\(∀ i,i<l.length->w.cell? ⟨bl,off+i * 4,none⟩=some (.slice (PA i) (PN i) (PC i)))/\(∀ i,i<l.length->w.cell? ⟨bl,off+i * 4+1,none⟩=some (.int .i64 (K i))) /\
  (∀ i,i<l.length->w.cell? ⟨bl,off+i * 4+2,none⟩=some (.int .i64 (I i)))/\(∀ i,i<l.length->w.cell? ⟨bl,off+i * 4+3,none⟩=some (.slice (A i) (N i) (C i))) /\
  ∀ i (h:i<l.length),XS F w (.slice (PA i) (PN i) (PC i)) (.int .i64 (K i)) (.int .i64 (I i)) (.slice (A i) (N i) (C i)) l[i]:=by
 have ht:=Qq (LQ YD F w) h 0 0
 cases ht with
 | mk bv k i a n c binds args bl off PA A PN PC N C K I hb hn hm ha h1 h2 h3 h4 h5=>
 subst hn
 exact⟨rfl,hm,bl,off,PA,A,PN,PC,N,C,K,I,ha,h1,h2,h3,h4,h5⟩
namespace Ty
mutual
def eta:Ty->Int->Int->Tm
 | .mk l _,k,i=>.mk l k (if k=0 then i+(l.length:Nat) else i) (etas l)
def etas:List Ty->List Tm
 | []=>[]
 | t :: l=>eta t 0 (l.length:Nat) :: etas l
end
end Ty
namespace Tm
inductive Fit:Tm->Prop where
 | mk (b:List Ty) (k i:Int) (a:List Tm) (h0:-9223372036854775808<=i) (h1:i<=9223372036854775807) (h:∀ t∈a,Fit t):Fit (.mk b k i a)
theorem fit_iff {b:List Ty}{k i:Int}{a:List Tm}:Fit (.mk b k i a)↔-9223372036854775808<=i/\i<=9223372036854775807/\∀ t∈a,Fit t:=
 ⟨λ h=>by cases h with | mk _ _ _ _ h0 h1 h=>exact⟨h0,h1,h⟩,fun⟨h0,h1,h⟩=>.mk _ _ _ _ h0 h1 h⟩
def zero:Tm:=.mk [] 0 0 []
def headIx (t:Tm):Int:=if t.kind=0 then t.index-(t.binds.length:Nat) else t.index
end Tm
def Ty.Eta (t:Ty)(k i:Int):Tm:=if k=0/\(i<0∨1000<i) then Tm.zero else Ty.eta t k i
end Go.Proofs.YtclihnccilkohaaGreat
namespace Go.Proofs.YtclihnccilkohaaGreat
open Go.RowKit Go.ChangeShapes Go.WideShapes Go.ChangeAt
theorem RC {n:Int}(h:(Lit.int .i64 n).wf=true):-9223372036854775808<=n/\n<=9223372036854775807:=by
 have h2:IntKind.i64.min<=n/\n<=9223372036854775807:=by simpa[Lit.wf] using h
 have h3:IntKind.i64.min=-9223372036854775808:=by rfl
 omega
theorem Jm {α:Type}{cs:List α}(h:cs.length=4):∃ a b c d,cs=[a,b,c,d]:=by
 match cs,h with
 | [a,b,c,d],_=>exact⟨a,b,c,d,rfl⟩
theorem RI:Tryz.prog.cellsOf 28=2:=by kernel_rfl
theorem V5:Tryz.prog.cellsOf 31=4:=by kernel_rfl
theorem O5:Tryz.prog.cellsOf 29=1:=by kernel_rfl
theorem IQ {H:Type}{enc:TypeId×Value->H}{W:World}{base:Nat}{sp:Nat->Bool}{hd:Bool}{n:Nat}{cs:List Value}{x:DataW H×List MemPlace}(h:DataW.trod enc Tryz.prog W base sp hd n 28 cs=some x):
  ∃ k i,cs=[.int .i64 k,.int .i64 i]/\(-9223372036854775808<=k/\k<=9223372036854775807)/\(-9223372036854775808<=i/\i<=9223372036854775807):=by
 obtain⟨xs,m,rfl,rfl,hl,hlen,hf⟩:=DataW.trod_struct Tryz.underlying28 h
 rw[RI] at hl
 obtain⟨v0,v1,rfl⟩:=M4 hl
 have h0:DataW.trod enc Tryz.prog W base sp hd m 3 ([v0,v1].take (Tryz.prog.cellsOf 3))=xs[0]?:=hf 0 _ rfl
 have h1:DataW.trod enc Tryz.prog W base sp hd m 3 ([v1].take (Tryz.prog.cellsOf 3))=xs[1]?:=hf 1 _ rfl
 rw[V6] at h0 h1
 have hlen:xs.length=2:=hlen
 rw[List.getElem?_eq_getElem (by omega)] at h0 h1
 obtain⟨k,hk,_,hwk⟩:=DataW.trod_int Tryz.underlying3 h0
 obtain⟨i,hi,_,hwi⟩:=DataW.trod_int Tryz.underlying3 h1
 have e0:[v0]=[.int .i64 k]:=hk
 have e1:[v1]=[.int .i64 i]:=hi
 simp only[List.cons.injEq,and_true] at e0 e1
 subst e0 e1
 exact⟨k,i,rfl,RC hwk,RC hwi⟩
theorem HP {H:Type}(enc:TypeId×Value->H)(W:World)(base:Nat)(sp:Nat->Bool)(hd:Bool):∀ n,Rd enc W base sp hd 31 U6 (λ _ t=>t.Fit) n:=by
 intro n
 induction n using Nat.strongRecOn with
 | ind n ih=>
  intro cs x h
  obtain⟨xs,m,rfl,rfl,hl,hlen,hf⟩:=DataW.trod_struct Tryz.underlying31 h
  rw[V5] at hl
  obtain⟨v0,v1,v2,v3,rfl⟩:=Jm hl
  have h0:DataW.trod enc Tryz.prog W base sp hd m 22 ([v0,v1,v2,v3].take (Tryz.prog.cellsOf 22))=xs[0]?:=hf 0 _ rfl
  have h1:DataW.trod enc Tryz.prog W base sp hd m 28 ([v1,v2,v3].take (Tryz.prog.cellsOf 28))=xs[1]?:=hf 1 _ rfl
  have h2:DataW.trod enc Tryz.prog W base sp hd m 29 ([v3].take (Tryz.prog.cellsOf 29))=xs[2]?:=hf 2 _ rfl
  rw[Ti] at h0
  rw[RI] at h1
  rw[O5] at h2
  have hlen:xs.length=3:=hlen
  rw[List.getElem?_eq_getElem (by omega)] at h0 h1 h2
  obtain⟨va,vn,vc,l,hv,_,hs,_⟩:=YH Tryz.underlying22 UQ (by decide) (λ j hj=>HQ enc W base sp hd j) h0
  obtain⟨k,i,hki,_,hi⟩:=IQ h1
  obtain⟨ta,tn,tc,tl,htv,_,hts,hfit⟩:=YH Tryz.underlying29 V5 (by decide) (λ j hj=>ih j (by omega)) h2
  have e0:[v0]=[.slice va vn vc]:=hv
  have e1:[v1,v2]=[.int .i64 k,.int .i64 i]:=hki
  have e3:[v3]=[.slice ta tn tc]:=htv
  simp only[List.cons.injEq,and_true] at e0 e1 e3
  obtain⟨e1,e2⟩:=e1
  subst e0 e1 e2 e3
  refine⟨.mk l k i tl,⟨_,_,_,_,rfl,Qq hs hts k i⟩,?_⟩
  refine Tm.fit_iff.2 ⟨hi.1,hi.2,λ t ht=>?_⟩
  obtain⟨j,hj,rfl⟩:=List.getElem_of_mem ht
  obtain⟨_,_,_,_,_,h⟩:=hfit j hj
  exact h
theorem M6 {α:Type}{cs:List α}(h:cs.length=3):∃ a b c,cs=[a,b,c]:=by
 match cs,h with
 | [a,b,c],_=>exact⟨a,b,c,rfl⟩
theorem O4:Tryz.prog.cellsOf 24=3:=by kernel_rfl
set_option maxRecDepth 100000 in
theorem NG {H:Type}{enc:TypeId×Value->H}{W:World}{base:Nat}{sp:Nat->Bool}{hd:Bool}{r:Reach}{b0:Nat}{v:Value}{d:DataW H}{p:List MemPlace} 
  (hval:Value.okWide Tryz.prog W r b0 24 v) (h:DataW.Trod enc Tryz.prog W base sp hd 24 v d p) :
  ∃ b cv mv C M,v=.agg #[.int .i64 b,cv,mv]/\Y6 YD (λ _=>True) W cv C/\Y6 YD (λ _=>True) W mv M:=by
 obtain⟨n,h⟩:=h
 obtain⟨xs,m,_,_,hl,hlen,hf⟩:=DataW.trod_struct Tryz.underlying24 h
 rw[O4] at hl
 obtain⟨v0,v1,v2,hv⟩:=M6 hl
 rw[hv] at hf
 have h0:DataW.trod enc Tryz.prog W base sp hd m 3 ([v0,v1,v2].take (Tryz.prog.cellsOf 3))=xs[0]?:=hf 0 _ rfl
 have h1:DataW.trod enc Tryz.prog W base sp hd m 22 ([v1,v2].take (Tryz.prog.cellsOf 22))=xs[1]?:=hf 1 _ rfl
 have h2:DataW.trod enc Tryz.prog W base sp hd m 22 ([v2].take (Tryz.prog.cellsOf 22))=xs[2]?:=hf 2 _ rfl
 rw[V6] at h0
 rw[Ti] at h1 h2
 have hlen:xs.length=3:=hlen
 rw[List.getElem?_eq_getElem (by omega)] at h0 h1 h2
 obtain⟨b,hb,_,_⟩:=DataW.trod_int Tryz.underlying3 h0
 obtain⟨va,vn,vc,C,hcv,_,hC,_⟩:=YH Tryz.underlying22 UQ (by decide) (λ j hj=>HQ enc W base sp hd j) h1
 obtain⟨ma,mn,mc,M,hmv,_,hM,_⟩:=YH Tryz.underlying22 UQ (by decide) (λ j hj=>HQ enc W base sp hd j) h2
 have e0:[v0]=[.int .i64 b]:=hb
 have e1:[v1]=[.slice va vn vc]:=hcv
 have e2:[v2]=[.slice ma mn mc]:=hmv
 simp only[List.cons.injEq,and_true] at e0 e1 e2
 subst e0 e1 e2
 obtain⟨cs,rfl,_⟩:=okWide_struct Tryz.underlying24 hval
 refine⟨b,_,_,C,M,?_,hC,hM⟩
 have:cs.toList=[.int .i64 b,.slice va vn vc,.slice ma mn mc]:=hv
 rw[<-Array.toList_inj.1 (show cs.toList=(#[.int .i64 b,.slice va vn vc,.slice ma mn mc]:Array Value).toList from this)]
end Go.Proofs.YtclihnccilkohaaGreat
namespace Go.Proofs.YtclihnccilkohaaGreat
open Go.RowKit
structure Off (F:Nat->Prop) (w w':World):Prop where
 os:w'.os=w.os
 tape:w'.tape=w.tape
 output:w'.output=w.output
 size:w.heap.size<=w'.heap.size
 block:∀ k,k<w.heap.size->¬ F k->w'.heap[k]?=w.heap[k]?
namespace Off
variable {F G:Nat->Prop} {w w' w'':World}
theorem refl (F:Nat->Prop)(w:World):Off F w w:=⟨rfl,rfl,rfl,Nat.le_refl _,λ _ _ _=>rfl⟩
theorem trans (h:Off F w w')(h':Off F w' w''):Off F w w'':=
 ⟨h'.os.trans h.os,h'.tape.trans h.tape,h'.output.trans h.output,Nat.le_trans h.size h'.size,λ k hk hF=>(h'.block k (Nat.lt_of_lt_of_le hk h.size) hF).trans (h.block k hk hF)⟩
theorem below (h:Off F w w')(hb:Below w'.heap.size w' w''):Off F w w'':=h.trans ⟨hb.os,hb.tape,hb.output,hb.size,λ k hk _=>hb.block k hk⟩
theorem drew (h:Off F w w'):Off F w w'.drew:=h.below (Below.refl _ _).drew
theorem alloc (h:Off F w w')(o:Obj):Off F w (w'.alloc o):=h.below ((Below.refl _ _).alloc (Nat.le_refl _) _)
theorem grown (h:Off F w w'){row:Option Nat}(hg:w'.grownBy w'' row)(hr:∀ k,row=some k->F k):Off F w w'':=
 h.trans ⟨hg.os,hg.tape,hg.output,hg.size,λ k hk hF=>hg.block k hk λ e=>hF (hr k e.symm)⟩
theorem set (h:Off F w w')(p:Addr)(u:Value)(hp:F p.block∨w.heap.size<=p.block):Off F w (w'.setCell p u):=by
 have hb:=(Below.refl 0 w').setCell (p:=p) (Nat.zero_le _) u
 refine⟨hb.os.trans h.os,hb.tape.trans h.tape,hb.output.trans h.output,Nat.le_trans h.size hb.size,λ k hk hF=>?_⟩
 exact(Below.heap_setCell _ _ _ _ (λ e=>by rcases hp with hp | hp;exact hF (e ▸ hp);omega)).trans (h.block k hk hF)
theorem blk (h:Off F w w'){n:Nat}{cs:Array Value}{t:TypeId}(hb:Blk w n cs t)(hF:¬ F n):Blk w' n cs t:=hb.same (h.block n hb.lt hF)
end Off
inductive D where
 | v (x:Value)
 | sl (n:Nat) (l:List (List D)) (g:Option Nat)
 | p (k off:Nat)
 | q (l:List D)
 | ag (l:List D)
 | tu (l:List D)
 | fn (f:FuncId) (caps:List D)
 | rw (E n len:Nat)
 | o (k:Nat)
 | mo (k:Nat)
 | mp (l:List (Int×D))
 | ob (J:Nat->World->Prop)
 | j (X:Nat->Prop) (J:World->Prop)
 | cl (n:Nat) (l:List (List D))
 | rp (E n:Nat) (l:List (List D))
 | ps (g len:Nat)
 | pr (g len n i j:Nat)
 | pt (g len n lo:Nat)
 | mq (bm:Nat) (es:Array MapEntry) (clock:Nat) (l:List (Int×D))
 | it (k bm:Nat) (es:Array MapEntry) (clock:Nat) (rem:List Nat) (last:Option Nat)
structure Vi where
 hv:Value
 len:Nat
 E:Nat
 n:Nat
structure Mp where
 blk:Nat->Option Nat
 row:Nat->Option Vi
 obj:Nat->Option Nat
structure Mp.le (m m':Mp):Prop where
 blk:∀ k b,m.blk k=some b->m'.blk k=some b
 row:∀ g R,m.row g=some R->∃ R',m'.row g=some R'/\R.len<=R'.len/\(R'.len=R.len->R'.hv=R.hv)
 obj:∀ k b,m.obj k=some b->m'.obj k=some b
theorem Mp.le.refl (m:Mp):m.le m:=⟨λ _ _ h=>h,λ _ R h=>⟨R,h,Nat.le_refl _,λ _=>rfl⟩,λ _ _ h=>h⟩
theorem Mp.le.trans {a b c:Mp}(h:a.le b)(h':b.le c):a.le c:=
 ⟨λ k x hk=>h'.blk k x (h.blk k x hk),λ g R hg=>by
  obtain⟨R1,h1,h2,h3⟩:=h.row g R hg
  obtain⟨R2,g1,g2,g3⟩:=h'.row g R1 h1
  refine⟨R2,g1,by omega,λ e=>?_⟩
  have e1:R1.len=R.len:=by omega
  rw[g3 (by omega),h3 e1],λ k x hk=>h'.obj k x (h.obj k x hk)⟩
def Mp.cut (m:Mp)(f g:Nat->Bool):Mp:=⟨λ k=>if f k then m.blk k else none,λ r=>if g r then m.row r else none,λ k=>if f k then m.obj k else none⟩
theorem Mp.cut_le (m:Mp)(f g:Nat->Bool):(m.cut f g).le m:=
 ⟨λ k b h=>by
  by_cases hk:f k=true
  ·simpa[Mp.cut,hk] using h
  ·simp[Mp.cut,hk] at h,λ r R h=>by
  by_cases hk:g r=true
  ·exact⟨R,by simpa[Mp.cut,hk] using h,Nat.le_refl _,λ _=>rfl⟩
  ·simp[Mp.cut,hk] at h,λ k b h=>by
  by_cases hk:f k=true
  ·simpa[Mp.cut,hk] using h
  simp[Mp.cut,hk] at h⟩
def Z8 (Im:Nat->Nat->Prop)(w w':World):Prop:=∀ b o v,Im b o->w.cell? ⟨b,o,none⟩=some v->w'.cell? ⟨b,o,none⟩=some v
theorem Z8.refl (Im:Nat->Nat->Prop)(w:World):Z8 Im w w:=λ _ _ _ _ h=>h
theorem Z8.trans {Im:Nat->Nat->Prop}{w w' w'':World}(h:Z8 Im w w')(h':Z8 Im w' w''):Z8 Im w w'':=λ b o v hi hv=>h' b o v hi (h b o v hi hv)
theorem Z8.weaken {Im Im':Nat->Nat->Prop}{w w':World}(h:Z8 Im' w w')(hi:∀ b o,Im b o->Im' b o):Z8 Im w w':=λ b o v h1 hv=>h b o v (hi b o h1) hv
inductive Yz (m:Mp) (Im:Nat->Nat->Prop) (w:World):Value->D->Prop where
 | v (x:Value):Yz m Im w x (.v x)
 | p (k off b:Nat) (h:m.blk k=some b):Yz m Im w (.pointer (some ⟨b,off,none⟩)) (.p k off)
 | o (k b:Nat) (h:m.obj k=some b):Yz m Im w (.pointer (some ⟨b,0,none⟩)) (.o k)
 | mo (k b:Nat) (h:m.obj k=some b):Yz m Im w (.map (some b)) (.mo k)
 | q (bl off:Nat) (X:Nat->Value) (l:List D) (h:∀ i,i<l.length->w.cell? ⟨bl,off+i,none⟩=some (X i)/\Im bl (off+i))
   (hr:∀ i (h:i<l.length),Yz m Im w (X i) l[i]):Yz m Im w (.pointer (some ⟨bl,off,none⟩)) (.q l)
 | sl (a:Option Addr) (c bl off n:Nat) (X:Nat->Nat->Value) (l:List (List D)) (g:Option Nat)
   (hm:l.length<=maxLen/\l.length<=c) (ha:0<l.length->a=some ⟨bl,off,none⟩)
   (hc:∀ i j,i<l.length->j<n->w.cell? ⟨bl,off+i * n+j,none⟩=some (X i j)/\Im bl (off+i * n+j))
   (hn:∀ i (h:i<l.length),l[i].length=n)
   (h1:∀ i j,i<l.length->j<n->(X i j).oneCell'=true)
   (hr:∀ i (h:i<l.length) j (h':j<l[i].length),Yz m Im w (X i j) l[i][j])
   (hg:∀ r,g=some r->∃ R,m.row r=some R/\l.length<=R.len/\(l.length=R.len->R.hv=.slice a l.length c)) :
   Yz m Im w (.slice a l.length c) (.sl n l g)
 | cl (a:Option Addr) (n:Nat) (l:List (List D)) (h:Yz m Im w (.slice a l.length l.length) (.sl n l none)):Yz m Im w (.slice a l.length l.length) (.cl n l)
 | ps (a:Option Addr) (c g len:Nat) (ha:0<len->∃ b,a=some ⟨b,0,none⟩) (hc:len<=c) (h:∃ R,m.row g=some R/\len<=R.len/\(len=R.len->R.hv=.slice a len c)):Yz m Im w (.slice a len c) (.ps g len)
 | pr (g len n i j b:Nat) (h:∃ R,m.row g=some R/\len<=R.len/\(len=R.len->R.hv.ownBlock=some b)):Yz m Im w (.pointer (some ⟨b,i * n+j,none⟩)) (.pr g len n i j)
 | pt (a:Option Addr) (c g len n lo:Nat) (h:∃ R,m.row g=some R/\len<=R.len/\(len=R.len->lo<len->∃ b,R.hv.ownBlock=some b/\a=some ⟨b,lo * n,none⟩)):Yz m Im w (.slice a (len-lo) c) (.pt g len n lo)
 | ag (cs:List Value) (l:List D) (hn:cs.length=l.length) (hr:∀ i (h:i<l.length),Yz m Im w (cs.getD i undef) l[i]):Yz m Im w (.agg cs.toArray) (.ag l)
 | tu (cs:List Value) (l:List D) (hn:cs.length=l.length) (hr:∀ i (h:i<l.length),Yz m Im w (cs.getD i undef) l[i]):Yz m Im w (.tuple cs.toArray) (.tu l)
 | fn (f:FuncId) (cs:List Value) (l:List D) (hn:cs.length=l.length) (hr:∀ i (h:i<l.length),Yz m Im w (cs.getD i undef) l[i]):Yz m Im w (.func (.func f) #[] cs.toArray) (.fn f l)
theorem Yz.mono {m m':Mp}{Im Im':Nat->Nat->Prop}{w w':World}{x:Value}{d:D}(h:Yz m Im w x d)(hm:m.le m')(hk:Z8 Im w w')(hi:∀ b o,Im b o->Im' b o):Yz m' Im' w' x d:=by
 induction h with
 | v x=>exact .v x
 | p k off b h=>exact .p k off b (hm.blk k b h)
 | o k b h=>exact .o k b (hm.obj k b h)
 | mo k b h=>exact .mo k b (hm.obj k b h)
 | q bl off X l h hr ih=>exact .q bl off X l (λ i hl=>⟨hk _ _ _ (h i hl).2 (h i hl).1,hi _ _ (h i hl).2⟩) ih
 | sl a c bl off n X l g h1 ha hc hn ho hr hg ih=>
  refine .sl a c bl off n X l g h1 ha (λ i j hl hj=>⟨hk _ _ _ (hc i j hl hj).2 (hc i j hl hj).1,hi _ _ (hc i j hl hj).2⟩) hn ho ih λ r e=>?_
  obtain⟨R,q1,q2,q3⟩:=hg r e
  obtain⟨R',p1,p2,p3⟩:=hm.row r R q1
  exact⟨R',p1,by omega,λ e=>by rw[p3 (by omega),q3 (by omega)]⟩
 | cl a n l h ih=>exact .cl a n l ih
 | ps a c g len ha hc h=>
  obtain⟨R,q1,q2,q3⟩:=h
  obtain⟨R',p1,p2,p3⟩:=hm.row g R q1
  exact .ps a c g len ha hc ⟨R',p1,by omega,λ e=>by rw[p3 (by omega),q3 (by omega)]⟩
 | pt a c g len n lo h=>
  obtain⟨R,q1,q2,q3⟩:=h
  obtain⟨R',p1,p2,p3⟩:=hm.row g R q1
  exact .pt a c g len n lo ⟨R',p1,by omega,λ e hl=>by rw[p3 (by omega)];exact q3 (by omega) hl⟩
 | pr g len n i j b h=>
  obtain⟨R,q1,q2,q3⟩:=h
  obtain⟨R',p1,p2,p3⟩:=hm.row g R q1
  exact .pr g len n i j b ⟨R',p1,by omega,λ e=>by rw[p3 (by omega),q3 (by omega)]⟩
 | ag cs l hn hr ih=>exact .ag cs l hn ih
 | tu cs l hn hr ih=>exact .tu cs l hn ih
 | fn f cs l hn hr ih=>exact .fn f cs l hn ih
def YU (m:Mp)(Im:Nat->Nat->Prop)(w:World):List Value->List D->Prop
 | [],[]=>True
 | x :: xs,d :: ds=>Yz m Im w x d/\YU m Im w xs ds
 | _,_=>False
section
variable {m m':Mp} {Im Im':Nat->Nat->Prop} {w w':World}
theorem ZS:∀ {xs:List Value} {ds:List D},YU m Im w xs ds↔xs.length=ds.length/\∀ i (h:i<ds.length),Yz m Im w (xs.getD i undef) ds[i]
 | [],[]=>by simp[YU]
 | [],_ :: _=>by simp[YU]
 | _ :: _,[]=>by simp[YU]
 | x :: xs,d :: ds=>by
  simp only[YU,ZS (xs:=xs) (ds:=ds),List.length_cons]
  constructor
  ·rintro⟨h1,h2,h3⟩
   refine⟨by omega,λ i h=>?_⟩
   cases i with
   | zero=>exact h1
   | succ i=>exact h3 i (by omega)
  rintro⟨h1,h2⟩
  exact⟨h2 0 (by omega),by omega,λ i h=>h2 (i+1) (by omega)⟩
theorem YU.mono (hm:m.le m')(hk:Z8 Im w w')(hi:∀ b o,Im b o->Im' b o){xs:List Value}{ds:List D}(h:YU m Im w xs ds):YU m' Im' w' xs ds:=by
 rw[ZS] at h ⊢
 exact⟨h.1,λ i hl=>(h.2 i hl).mono hm hk hi⟩
theorem Yr {x:Value}{y:Value}:Yz m Im w x (.v y)↔x=y:=⟨λ h=>by cases h;rfl,λ h=>h ▸ .v x⟩
theorem Wa {x:Value}{l:List D}:Yz m Im w x (.ag l)↔∃ cs,x=.agg cs.toArray/\YU m Im w cs l:=
 ⟨λ h=>by cases h with | ag cs l hn hr=>exact⟨cs,rfl,ZS.2 ⟨hn,hr⟩⟩,fun⟨cs,e,h⟩=>e ▸ .ag cs l (ZS.1 h).1 (ZS.1 h).2⟩
theorem Qy {x:Value}{l:List D}:Yz m Im w x (.tu l)↔∃ cs,x=.tuple cs.toArray/\YU m Im w cs l:=
 ⟨λ h=>by cases h with | tu cs l hn hr=>exact⟨cs,rfl,ZS.2 ⟨hn,hr⟩⟩,fun⟨cs,e,h⟩=>e ▸ .tu cs l (ZS.1 h).1 (ZS.1 h).2⟩
theorem PE {x:Value}{f:FuncId}{l:List D}:Yz m Im w x (.fn f l)↔∃ cs,x=.func (.func f) #[] cs.toArray/\YU m Im w cs l:=
 ⟨λ h=>by cases h with | fn f cs l hn hr=>exact⟨cs,rfl,ZS.2 ⟨hn,hr⟩⟩,fun⟨cs,e,h⟩=>e ▸ .fn f cs l (ZS.1 h).1 (ZS.1 h).2⟩
end
/-! names and rows of some kind -/
mutual
def D.ok (f g:Nat->Bool):D->Bool
 | .v _=>true
 | .sl _ l r=>D.okss f g l&&(match r with | none=>true | some r=>g r)
 | .p k _=>f k
 | .q l=>D.oks f g l
 | .ag l=>D.oks f g l
 | .tu l=>D.oks f g l
 | .fn _ l=>D.oks f g l
 | .rw _ _ _=>true
 | .o k=>f k
 | .mo k=>f k
 | .mp l=>D.okm f g l
 | .ob _=>true
 | .j _ _=>true
 | .cl _ l=>D.okss f g l
 | .rp _ _ l=>D.okss f g l
 | .ps r _=>g r
 | .pr r _ _ _ _=>g r
 | .pt r _ _ _=>g r
 | .mq _ _ _ l=>D.okm f g l
 | .it k _ _ _ _ _=>f k
def D.oks (f g:Nat->Bool):List D->Bool
 | []=>true
 | d :: l=>D.ok f g d&&D.oks f g l
def D.okss (f g:Nat->Bool):List (List D)->Bool
 | []=>true
 | d :: l=>D.oks f g d&&D.okss f g l
def D.okm (f g:Nat->Bool):List (Int×D)->Bool
 | []=>true
 | (_,d) :: l=>D.ok f g d&&D.okm f g l
end
theorem D.oks_get {f g:Nat->Bool}:∀ {l:List D},D.oks f g l=true->∀ i (h:i<l.length),l[i].ok f g=true
 | [],_,i,h=>absurd h (by simp)
 | d :: l,h,i,hi=>by
  simp only[D.oks,Bool.and_eq_true] at h
  cases i with
  | zero=>exact h.1
  | succ i=>exact D.oks_get h.2 i (by simpa using hi)
theorem D.okss_get {f g:Nat->Bool}:∀ {l:List (List D)},D.okss f g l=true->∀ i (h:i<l.length),D.oks f g l[i]=true
 | [],_,i,h=>absurd h (by simp)
 | d :: l,h,i,hi=>by
  simp only[D.okss,Bool.and_eq_true] at h
  cases i with
  | zero=>exact h.1
  | succ i=>exact D.okss_get h.2 i (by simpa using hi)
theorem D.okss_map {f g:Nat->Bool}{α:Type}(e:α->List D)(l:List α)(h:∀ x∈l,D.oks f g (e x)=true):D.okss f g (l.map e)=true:=by
 induction l with
 | nil=>rfl
 | cons x l ih=>simp only[List.map_cons,D.okss,Bool.and_eq_true];exact⟨h x (by simp),ih λ y hy=>h y (by simp[hy])⟩
theorem Yz.cut {m:Mp}{Im:Nat->Nat->Prop}{w:World}{x:Value}{d:D}{f g:Nat->Bool}(h:Yz m Im w x d)(hd:d.ok f g=true):Yz (m.cut f g) Im w x d:=by
 induction h with
 | v x=>exact .v x
 | p k off b h=>exact .p k off b (by simp only[D.ok] at hd;simp only[Mp.cut,hd,if_true];exact h)
 | o k b h=>exact .o k b (by simp only[D.ok] at hd;simp only[Mp.cut,hd,if_true];exact h)
 | mo k b h=>exact .mo k b (by simp only[D.ok] at hd;simp only[Mp.cut,hd,if_true];exact h)
 | q bl off X l h hr ih=>simp only[D.ok] at hd;exact .q bl off X l h λ i hi=>ih i hi (D.oks_get hd i hi)
 | sl a c bl off n X l r h1 ha hc hn ho hr hg ih=>
  simp only[D.ok,Bool.and_eq_true] at hd
  refine .sl a c bl off n X l r h1 ha hc hn ho (λ i hi j hj=>ih i hi j hj (D.oks_get (D.okss_get hd.1 i hi) j hj)) λ r' e=>?_
  obtain⟨R,q1,q2⟩:=hg r' e
  subst e
  have hr:=hd.2
  simp only at hr
  exact⟨R,by simp only[Mp.cut,hr,if_true];exact q1,q2⟩
 | cl a n l h ih=>exact .cl a n l (ih (by simp only[D.ok] at hd ⊢;simp[hd]))
 | pt a c r len n lo h=>
  simp only[D.ok] at hd
  obtain⟨R,q1,q2⟩:=h
  exact .pt a c r len n lo ⟨R,by simp only[Mp.cut,hd,if_true];exact q1,q2⟩
 | ps a c r len ha hc h=>
  simp only[D.ok] at hd
  obtain⟨R,q1,q2⟩:=h
  exact .ps a c r len ha hc ⟨R,by simp only[Mp.cut,hd,if_true];exact q1,q2⟩
 | pr r len n i j b h=>
  simp only[D.ok] at hd
  obtain⟨R,q1,q2⟩:=h
  exact .pr r len n i j b ⟨R,by simp only[Mp.cut,hd,if_true];exact q1,q2⟩
 | ag cs l hn hr ih=>simp only[D.ok] at hd;exact .ag cs l hn λ i hi=>ih i hi (D.oks_get hd i hi)
 | tu cs l hn hr ih=>simp only[D.ok] at hd;exact .tu cs l hn λ i hi=>ih i hi (D.oks_get hd i hi)
 | fn f cs l hn hr ih=>simp only[D.ok] at hd;exact .fn f cs l hn λ i hi=>ih i hi (D.oks_get hd i hi)
theorem D.okm_get {f g:Nat->Bool}:∀ {l:List (Int×D)},D.okm f g l=true->∀ i (h:i<l.length),l[i].2.ok f g=true
 | [],_,i,h=>absurd h (by simp)
 | (_,d) :: l,h,i,hi=>by
  simp only[D.okm,Bool.and_eq_true] at h
  cases i with
  | zero=>exact h.1
  | succ i=>exact D.okm_get h.2 i (by simpa using hi)
def D.un1:D->D
 | .sl n l _=>.sl n l none
 | d=>d
theorem Yz.un1 {m:Mp}{Im:Nat->Nat->Prop}{w:World}{x:Value}{d:D}(h:Yz m Im w x d):Yz m Im w x d.un1:=by
 cases h with
 | sl a c bl off n X l g h1 ha hc hn ho hr hg=>exact .sl a c bl off n X l none h1 ha hc hn ho hr λ r e=>by cases e
 | v x=>exact .v x
 | cl a n l h=>exact .cl a n l h
 | ps a c g len ha hc h=>exact .ps a c g len ha hc h
 | pt a c g len n lo h=>exact .pt a c g len n lo h
 | pr g len n i j b h=>exact .pr g len n i j b h
 | p k off b h=>exact .p k off b h
 | o k b h=>exact .o k b h
 | mo k b h=>exact .mo k b h
 | q bl off X l h hr=>exact .q bl off X l h hr
 | ag cs l hn hr=>exact .ag cs l hn hr
 | tu cs l hn hr=>exact .tu cs l hn hr
 | fn f cs l hn hr=>exact .fn f cs l hn hr
def Zm (d e:D):Prop:=∀ (m:Mp) (Im:Nat->Nat->Prop) (w:World) (x:Value),Yz m Im w x d->Yz m Im w x e
def ZO (l r:List D):Prop:=l.length=r.length/\∀ i (h:i<l.length) (h':i<r.length),Zm l[i] r[i]
@[refl,simp] theorem Zm.refl (d:D):Zm d d:=λ _ _ _ _ h=>h
theorem Zm.of_eq {d e:D}(h:d=e):Zm d e:=h ▸ Zm.refl d
theorem Zm.trans {a b c:D}(h:Zm a b)(h':Zm b c):Zm a c:=λ m Im w x hx=>h' m Im w x (h m Im w x hx)
theorem Zm.untag (n:Nat)(l:List (List D))(g:Option Nat):Zm (.sl n l g) (.sl n l none):=λ _ _ _ _ h=>h.un1
theorem Zm.nil (n:Nat):Zm (.v (.slice none 0 0)) (.sl n [] none):=λ m Im w x h=>by
 have:=Yr.1 h;subst this
 exact .sl none 0 0 0 n (λ _ _=>undef) [] none (by decide) (λ h=>absurd h (by simp)) (λ _ _ h=>absurd h (by simp)) (λ _ h=>absurd h (by simp)) (λ _ _ h=>absurd h (by simp)) (λ _ h=>absurd h (by simp)) λ _ e=>by cases e
theorem ZO.nil:ZO [] []:=⟨rfl,λ _ h=>absurd h (by simp)⟩
theorem ZO.cons {d e:D}{l r:List D}(h:Zm d e)(h':ZO l r):ZO (d :: l) (e :: r):=⟨by simp[h'.1],λ i hi hi'=>by
 cases i with
 | zero=>exact h
 | succ i=>exact h'.2 i (by simpa using hi) (by simpa using hi')⟩
theorem Zm.ag {l r:List D}(h:ZO l r):Zm (.ag l) (.ag r):=λ m Im w x hx=>by
 cases hx with
 | ag cs l hn hr=>exact .ag cs r (hn.trans h.1) λ i hi=>h.2 i (by rw[h.1];exact hi) hi m Im w _ (hr i (by rw[h.1];exact hi))
theorem Zm.tu {l r:List D}(h:ZO l r):Zm (.tu l) (.tu r):=λ m Im w x hx=>by
 cases hx with
 | tu cs l hn hr=>exact .tu cs r (hn.trans h.1) λ i hi=>h.2 i (by rw[h.1];exact hi) hi m Im w _ (hr i (by rw[h.1];exact hi))
/-! keys -/
inductive Key where
 | t (x:Nat)
 | c (k off:Nat)
 | r (g:Nat)
 | o (k:Nat)
 | j
def Key.eq:Key->Key->Bool
 | .t x,.t y=>Nat.beq x y
 | .c x z,.c y u=>Nat.beq x y&&Nat.beq z u
 | .r x,.r y=>Nat.beq x y
 | .o x,.o y=>Nat.beq x y
 | .j,.j=>true
 | _,_=>false
theorem Key.eq_iff {a b:Key}:Key.eq a b=true↔a=b:=by cases a <;> cases b <;> simp[Key.eq]
theorem Key.eq_refl (a:Key):Key.eq a a=true:=Key.eq_iff.2 rfl
def get:List (Key×D)->Key->Option D
 | [],_=>none
 | (k',d) :: r,k=>if Key.eq k' k then some d else get r k
def XW (k:Key)(d:D)(σ:List (Key×D)):List (Key×D):=(k,d) :: σ
theorem Zo (k:Key)(d:D)(σ:List (Key×D))(k':Key):get (XW k d σ) k'=if Key.eq k k' then some d else get σ k':=rfl
def YC (σ:List (Key×D)):List (Key×D)->List (Key×D)
 | []=>σ
 | (k,d) :: r=>YC (XW k d σ) r
theorem Xx:∀ (W:List (Key×D)) (σ:List (Key×D)) (k:Key),(∀ p∈W,p.1≠k)->get (YC σ W) k=get σ k
 | [],_,_,_=>rfl
 | (k1,d1) :: W,σ,k,h=>by
  rw[YC,Xx W _ _ (λ p hp=>h p (by simp[hp])),Zo,if_neg]
  rw[Key.eq_iff];exact h (k1,d1) (by simp)
theorem Uo:∀ (W:List (Key×D)) (σ σ':List (Key×D)) (k:Key),(∃ p∈W,p.1=k)->get (YC σ W) k=get (YC σ' W) k
 | [],_,_,_,h=>by obtain⟨p,hp,_⟩:=h;cases hp
 | (k1,d1) :: W,σ,σ',k,h=>by
  rw[YC,YC]
  by_cases hW:∃ p∈W,p.1=k
  ·exact Uo W _ _ k hW
  have hW':∀ p∈W,p.1≠k:=λ p hp e=>hW ⟨p,hp,e⟩
  obtain⟨p,hp,e⟩:=h
  rcases List.mem_cons.1 hp with rfl | hp
  ·rw[Xx W _ _ hW',Xx W _ _ hW',Zo,Zo];simp only at e;rw[if_pos (Key.eq_iff.2 e),if_pos (Key.eq_iff.2 e)]
  exact absurd e (hW' p hp)
theorem SZ (W:List (Key×D))(σ σ':List (Key×D))(k:Key)(h:get σ k=get σ' k):get (YC σ W) k=get (YC σ' W) k:=by
 by_cases hW:∃ p∈W,p.1=k
 ·exact Uo W _ _ k hW
 have hW':∀ p∈W,p.1≠k:=λ p hp e=>hW ⟨p,hp,e⟩
 rw[Xx W _ _ hW',Xx W _ _ hW',h]
end Go.Proofs.YtclihnccilkohaaGreat
