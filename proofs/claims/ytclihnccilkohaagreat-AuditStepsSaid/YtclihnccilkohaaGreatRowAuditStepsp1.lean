/-
  How plain data lie in memory: footprints that are kept, slices of any elements, slices that a call is building; and simple types. What a simple type is in plain Lean, and when memory holds one. From the readings of a row's arguments to the representations that the walks ask, and from a walk that keeps what was there to the row's end. What a term is in plain Lean, and when memory holds one. The reference's count of a type's types: how far it counts, and what its count says. A region that draws its order: a load may be taken first where every other operation that can come up ahead of it keeps its cell; of what comes behind a store nothing is asked. The reference's size, order and depth of a type, whether its bases are low, whether two types are the same: what each hands back. Whether two types are the same, as the reference asks it. kind.Equal, and slices.EqualFunc with it. The reference's count of a term's terms and types. A type, copied cell by cell: To, Of of the laws. kind.Each: all types within, each ahead of its arguments: what the iterator hands to a loop's body. kind.Size, kind.Depth, kind.Right: what the loops over all types within hand back. kind.Right: whether a type may be, by a loop that is left early. A type's order, its copy, the type of a base and arguments: what the program's functions hand back. slices.Grow from nil and slices.Concat of two slices of types. kind.Of, kind.Arrow, kind.Rest: types that are made. DERIVED: THE SHELF's CONTRACTS AT THIS DUMP, IN PLAIN WORDS (tools/lay-plain.mjs out of 'TryzShelf.lean', which tools/lay-shelf.mjs wrote): THE SAME DECLARATIONS UNDER THE SAME NAMES: 'import', 'namespace', 'open', 'def', 'theorem' AND NOTHING ELSE: no command of the shelf's: FOR A HAND-IN. Each laying: the table of numbers ('.._ren') and one theorem, a field a fact of the dump's own or the kernel's comparison; each contract: ONE APPLICATION. A type's text: the reference's, and the program's. The chapter's example of the kinds' laws, kind.Text, and whether some types are few. Terms: whether they are few; copied cell by cell, there and back. The law KindParts, stepped through. The law KindTexts, stepped through, where every name has at most 1048576 bytes. The verifier's all: copies of at most twenty types. The document's Arrow and Rest. Long forms of heads, as the reference makes them. Whether two terms are the same, as the reference asks it. Long forms and their heads, as the reference tells them. The readings of a row's arguments that are heads, terms or worlds. The readings of a row's arguments that are worlds. What a call may turn. Deep values: what a value reads as, wherever it lies in memory; a store of deep values by keys. When memory and a frame read as a store of deep values; how this is kept.
-/
import Derived.WalkKit
import Derived.Deep.AppendLies
import Derived.Lib.AppendZerosOnto
import Derived.Test.YtclihnccilkohaaGreatChecked
import Derived.ProofKit
import Derived.WideKeyArgs
import Derived.OpenShut
import Derived.Test.YtclihnccilkohaaGreatProg
import Derived.Lib.Hide
import Derived.Deep.QuietTactic
import Derived.BigQuiet
import Derived.OrdersHeld
import Derived.Deep.RegionHeld
import Derived.Deep.RegionHeld3
import Derived.Deep.DrawnRows
import Derived.RangeFuncNested
import Derived.RangeFuncBound
import Derived.RangeFuncCalls
import Derived.RangeFuncLeaves
import Derived.Shelf.Abstract
import Derived.Shelf.RegionOpen
import Derived.OwnWalkIn
import Derived.TacticsInMore
import Derived.LoopNIn
import Derived.LoopIn
import Derived.Shelf.Small.Bits
import Derived.Shelf.Small.Wraps
import Derived.Shelf.Strconv.Itoa0
import Derived.Shelf.Sort.Plain
import Derived.Ground.Names2Prog
import Derived.Shelf.Slices.Clone
import Derived.Shelf.Slices.CompactI
import Derived.Shelf.Slices.SearchI
import Derived.Shelf.Slices.Cells
import Derived.Shelf.Slices.In.SortNone
set_option maxRecDepth 100000
set_option maxHeartbeats 1000000
set_option linter.unusedVariables false
set_option linter.unusedSimpArgs false
namespace Go.Proofs.YtclihnccilkohaaGreat
open Go.RowKit
def Keep (F:Nat→Prop)(w w':World):Prop:=∀ k o v,F k→w.cell? ⟨k,o,none⟩=some v→w'.cell? ⟨k,o,none⟩=some v
namespace Keep
variable {F:Nat→Prop} {w w' w'':World}
theorem refl (F:Nat→Prop)(w:World):Keep F w w:=fun _ _ _ _ h=>h
theorem trans (h:Keep F w w')(h':Keep F w' w''):Keep F w w'':=fun k o v hk hv=>h' k o v hk (h k o v hk hv)
theorem lt {k o:Nat}{v:Value}(h:w.cell? ⟨k,o,none⟩=some v):k<w.heap.size:=by
 simp only[World.cell?] at h
 by_cases hk:k<w.heap.size
 ·exact hk
 ·rw[Array.getElem?_eq_none (by omega)] at h;simp at h
theorem below (h:Keep F w w')(hb:Below w'.heap.size w' w''):Keep F w w'':=
 h.trans fun k o _ _ hv=>(hb.cell (p:=⟨k,o,none⟩) (lt hv)).trans hv
theorem alloc (h:Keep F w w')(o:Obj):Keep F w (w'.alloc o):=h.below ((Below.refl _ _).alloc (Nat.le_refl _) _)
theorem grown (h:Keep F w w'){row:Option Nat}(hg:w'.grownBy w'' row)(hr:∀ k,row=some k→¬ F k):Keep F w w'':=
 h.trans fun k _ _ hk hv=>hg.cell hv (fun e=>hr k e.symm hk)
end Keep
theorem RF (w:World)(o:Obj)(n:Nat):(w.alloc o).heap[n]?=if n=w.heap.size then some o else w.heap[n]?:=by
 by_cases h:n=w.heap.size
 ·subst h;rw[if_pos rfl];exact heap_alloc_new _ _
 ·rw[if_neg h]
  show (w.heap.push o)[n]?=_
  rw[Array.getElem?_push,if_neg h]
def Blk (w:World)(n:Nat)(cs:Array Value)(t:TypeId):Prop:=w.heap[n]?=some (.cells cs t (0,0))
namespace Blk
variable {w w':World} {n:Nat} {cs:Array Value} {t:TypeId}
theorem lt (h:Blk w n cs t):n<w.heap.size:=lt_of_block h
theorem new (w:World)(cs:Array Value)(t:TypeId){n:Nat}(h:n=w.heap.size):Blk (w.alloc (.cells cs t)) n cs t:=by
 subst h;exact heap_alloc_new _ _
theorem same (h:Blk w n cs t)(hw:w'.heap[n]?=w.heap[n]?):Blk w' n cs t:=Eq.trans hw h
theorem alloc (h:Blk w n cs t)(o:Obj):Blk (w.alloc o) n cs t:=h.same (by rw[RF,if_neg (Nat.ne_of_lt h.lt)])
theorem drew (h:Blk w n cs t):Blk w.drew n cs t:=h
theorem below (h:Blk w n cs t)(hb:Below w.heap.size w w'):Blk w' n cs t:=h.same (hb.block n h.lt)
theorem grown (h:Blk w n cs t){row:Option Nat}(hg:w.grownBy w' row)(hne:row≠some n):Blk w' n cs t:=h.same (hg.block n h.lt (Ne.symm hne))
theorem far (h:Blk w n cs t)(p:Addr)(u:Value)(hp:n≠p.block):Blk (w.setCell p u) n cs t:=h.same (Below.heap_setCell _ _ _ _ hp)
theorem set (h:Blk w n cs t)(i:Nat)(u:Value):Blk (w.setCell ⟨n,i,none⟩ u) n (cs.setIfInBounds i u) t:=by
 have h':w.heap[n]?=some (.cells cs t (0,0)):=h
 show (w.heap.modify n _)[n]?=_
 simp[Array.getElem?_modify,h']
theorem cell (h:Blk w n cs t){i:Nat}{v:Value}(hv:cs[i]?=some v):w.cell? ⟨n,i,none⟩=some v:=by
 have h':w.heap[n]?=some (.cells cs t (0,0)):=h
 simp[World.cell?,h',hv]
theorem free (h:Blk w n cs t)(i:Nat):w.frozen? ⟨n,i,none⟩=false:=by
 have h':w.heap[n]?=some (.cells cs t (0,0)):=h
 simp[World.frozen?,h']
end Blk
structure Rp (α:Type) where
 n:Nat
 R:(Nat→Prop)→World→List Value→α→Prop
 len:∀ {F w x a},R F w x a→x.length=n
 one:∀ {F w x a},R F w x a→∀ u∈x,u.oneCell'=true
 keep:∀ {F w w' x a},R F w x a→Keep F w w'→R F w' x a
 weaken:∀ {F F' w x a},R F w x a→(∀ k,k<w.heap.size→F k→F' k)→R F' w x a
def Yd {α:Type}(r:Rp α)(F:Nat→Prop)(w:World)(v:Value)(l:List α):Prop:=
 ∃ (a:Option Addr) (c bl off:Nat) (X:Nat→List Value),v=.slice a l.length c∧(l.length≤maxLen∧l.length≤c)∧(0<l.length→a=some ⟨bl,off,none⟩∧F bl) ∧
  (∀ i j u,i<l.length→(X i)[j]?=some u→w.cell? ⟨bl,off+i * r.n+j,none⟩=some u)∧∀ i (h:i<l.length),r.R F w (X i) l[i]
theorem Yd.keep {α:Type}{r:Rp α}{F:Nat→Prop}{w w':World}{v:Value}{l:List α}(h:Yd r F w v l)(hw:Keep F w w'):Yd r F w' v l:=by
 obtain⟨a,c,bl,off,X,hv,hl,ha,h1,h2⟩:=h
 exact⟨a,c,bl,off,X,hv,hl,ha,fun i j u hi hu=>hw _ _ _ (ha (by omega)).2 (h1 i j u hi hu),fun i hi=>r.keep (h2 i hi) hw⟩
theorem Yd.weaken {α:Type}{r:Rp α}{F F':Nat→Prop}{w:World}{v:Value}{l:List α}(hn:0<r.n)(h:Yd r F w v l)(hF:∀ k,k<w.heap.size→F k→F' k):Yd r F' w v l:=by
 obtain⟨a,c,bl,off,X,hv,hl,ha,h1,h2⟩:=h
 refine⟨a,c,bl,off,X,hv,hl,fun h0=>⟨(ha h0).1,hF _ ?_ (ha h0).2⟩,h1,fun i hi=>r.weaken (h2 i hi) hF⟩
 have hx:=r.len (h2 0 h0)
 exact Keep.lt (h1 0 0 ((X 0)[0]'(by omega)) h0 (by simp))
def Acc {α:Type}(r:Rp α)(E:TypeId)(base:Nat)(F:Nat→Prop)(w:World)(v:Value)(l:List α):Prop:=
 ∃ X:List (List Value),X.length=l.length∧w.ownsRow base E r.n v l.length X.flatten∧∀ i (h:i<l.length),∃ x,X[i]?=some x∧r.R (fun k=>F k∧v.ownBlock≠some k) w x l[i]
theorem VT {w w':World}{base:Nat}{e:TypeId}{size:Nat}{v:Value}{n:Nat}{xs:List Value}(h:w.ownsRow base e size v n xs)(hb:Below w.heap.size w w'):w'.ownsRow base e size v n xs:=
 h.kept ⟨hb.os,hb.tape,hb.output,hb.size,fun k hk _=>hb.block k hk⟩ (row:=none) (by cases h:v.ownBlock <;> simp)
namespace Acc
variable {α:Type} {r:Rp α} {E:TypeId} {base:Nat} {F:Nat→Prop} {w w':World} {v:Value} {l:List α}
theorem nil (r:Rp α)(E:TypeId)(base:Nat)(F:Nat→Prop)(w:World):Acc r E base F w (.slice none 0 0) []:=
 ⟨[],rfl,World.ownsRow_nil _ _ _ _,fun i h=>absurd h (by simp)⟩
theorem len_shape (h:Acc r E base F w v l):∃ a c,v=.slice a l.length c:=by
 obtain⟨X,h1,h2,h3⟩:=h
 rcases h2.2 with⟨rfl,h0⟩ | ⟨g,cap,cur,hv,_⟩
 ·exact⟨none,0,by rw[h0]⟩
 ·exact⟨_,_,hv⟩
theorem base_le (h:Acc r E base F w v l):∀ k,v.ownBlock=some k→base≤k∧k<w.heap.size:=by
 obtain⟨X,h1,h2,h3⟩:=h
 exact h2.lt
theorem sl {F':Nat→Prop}(h:Acc r E base F w v l)(hF:∀ k,k<w.heap.size→F k→F' k)(hbase:∀ k,base≤k→F' k):Yd r F' w v l:=by
 obtain⟨X,h1,h2,h3⟩:=h
 have hx:∀ i (hi:i<l.length),r.R F' w (X.getD i []) l[i]:=fun i hi=>by
  obtain⟨x,hx,hr⟩:=h3 i hi
  have:X.getD i []=x:=by simp[hx]
  rw[this]
  exact r.weaken hr fun k hk hc=>hF k hk hc.1
 rcases h2.2 with⟨rfl,h0⟩ | ⟨g,cap,cur,rfl,hg,hh,hn,hm,hs,ht⟩
 ·exact⟨none,0,0,0,fun i=>X.getD i [],by rw[h0],by omega,fun h=>absurd h (by omega),fun i _ _ hi=>absurd hi (by omega),hx⟩
 ·refine⟨some ⟨g,0,none⟩,cap,g,0,fun i=>X.getD i [],rfl,by omega,fun _=>⟨rfl,hbase g hg⟩,fun i j u hi hu=>?_,hx⟩
  have hl:∀ i,i<X.length→(X.getD i []).length=r.n:=fun i hi=>r.len (hx i (by omega))
  have key:X.flatten[i * r.n+j]?=some u:=by
   have hall:∀ (Y:List (List Value)),(∀ i,i<Y.length→(Y.getD i []).length=r.n)→∀ i j u,i<Y.length→(Y.getD i [])[j]?=some u→Y.flatten[i * r.n+j]?=some u:=by
    intro Y
    induction Y with
    | nil=>intro _ i j u hi;simp at hi
    | cons y Y ih=>
     intro hY i j u hi hu
     have hy:y.length=r.n:=by have:=hY 0 (by simp);simpa using this
     rw[List.flatten_cons]
     cases i with
     | zero=>
      simp at hu
      have:j<y.length:=by
       rcases Nat.lt_or_ge j y.length with h | h
       ·exact h
       ·rw[List.getElem?_eq_none h] at hu;cases hu
      rw[List.getElem?_append_left (by omega)];simpa using hu
     | succ i=>
      rw[List.getElem?_append_right (by rw[hy,Nat.succ_mul];omega)]
      have:=ih (fun i hi=>by have:=hY (i+1) (by simpa using hi);simpa using this) i j u (by simpa using hi) (by simpa using hu)
      rw[←this];congr 1;rw[hy,Nat.succ_mul];omega
   exact hall X hl i j u (by omega) hu
  rw[←ht] at key
  simp only[World.cell?,hh]
  rw[List.getElem?_take] at key
  split at key
  ·simpa using key
  ·cases key
end Acc
def IsSl2 {α:Type}(r:Rp α)(G F:Nat→Prop)(w:World)(v:Value)(l:List α):Prop:=
 ∃ (a:Option Addr) (c bl off:Nat) (X:Nat→List Value),v=.slice a l.length c∧(l.length≤maxLen∧l.length≤c)∧(0<l.length→a=some ⟨bl,off,none⟩∧G bl) ∧
  (∀ i j u,i<l.length→(X i)[j]?=some u→w.cell? ⟨bl,off+i * r.n+j,none⟩=some u)∧∀ i (h:i<l.length),r.R F w (X i) l[i]
namespace IsSl2
variable {α:Type} {r:Rp α} {G F:Nat→Prop} {w w':World} {v:Value} {l:List α}
theorem of (h:Yd r F w v l):IsSl2 r F F w v l:=h
theorem keep (h:IsSl2 r G F w v l)(hG:Keep G w w')(hF:Keep F w w'):IsSl2 r G F w' v l:=by
 obtain⟨a,c,bl,off,X,hv,hl,ha,h1,h2⟩:=h
 exact⟨a,c,bl,off,X,hv,hl,ha,fun i j u hi hu=>hG _ _ _ (ha (by omega)).2 (h1 i j u hi hu),fun i hi=>r.keep (h2 i hi) hF⟩
theorem bel (h:IsSl2 r G F w v l)(hb:Below w.heap.size w w'):IsSl2 r G F w' v l:=h.keep ((Keep.refl _ _).below hb) ((Keep.refl _ _).below hb)
theorem weaken {G' F':Nat→Prop}(hn:0<r.n)(h:IsSl2 r G F w v l)(hG:∀ k,k<w.heap.size→G k→G' k)(hF:∀ k,k<w.heap.size→F k→F' k):IsSl2 r G' F' w v l:=by
 obtain⟨a,c,bl,off,X,hv,hl,ha,h1,h2⟩:=h
 refine⟨a,c,bl,off,X,hv,hl,fun h0=>⟨(ha h0).1,hG _ ?_ (ha h0).2⟩,h1,fun i hi=>r.weaken (h2 i hi) hF⟩
 have hx:=r.len (h2 0 h0)
 exact Keep.lt (h1 0 0 ((X 0)[0]'(by omega)) h0 (by simp))
theorem sl (hn:0<r.n)(h:IsSl2 r G F w v l){F':Nat→Prop}(hG:∀ k,k<w.heap.size→G k→F' k)(hF:∀ k,k<w.heap.size→F k→F' k):Yd r F' w v l:=h.weaken hn hG hF
theorem shape (h:IsSl2 r G F w v l):∃ a c,v=.slice a l.length c:=by
 obtain⟨a,c,_,_,_,hv,_⟩:=h
 exact⟨a,c,hv⟩
end IsSl2
theorem Acc.sl2 {α:Type}{r:Rp α}{E:TypeId}{base:Nat}{F:Nat→Prop}{w:World}{v:Value}{l:List α}(h:Acc r E base F w v l):IsSl2 r (fun q=>base≤q) F w v l:=by
 obtain⟨X,h1,h2,h3⟩:=h
 let r2:Rp α:={ n:=r.n,R:=fun _ _ x a=>r.R F w x a,len:=r.len,one:=r.one,keep:=fun h _=>h,weaken:=fun h _=>h }
 have h0:Yd r2 (fun k=>base≤k∨False) w v l:=Acc.sl (F:=fun _=>False) ⟨X,h1,h2,fun i hi=>by
  obtain⟨x,hx,hr⟩:=h3 i hi
  exact⟨x,hx,r.weaken hr fun _ _ hc=>hc.1⟩⟩ (fun _ _ h=>.inr h) (fun _ h=>.inl h)
 obtain⟨a,c,bl,off,Y,hv,hl,ha,g1,g2⟩:=h0
 exact⟨a,c,bl,off,Y,hv,hl,fun h=>⟨(ha h).1,(ha h).2.resolve_right id⟩,g1,g2⟩
/-! a whole slice appended -/
theorem Qz {X:Nat→List Value}{n:Nat}:∀ m,(∀ i,i<m→(X i).length=n)→((List.range m).map X).flatten.length=m * n:=by
 intro m
 induction m with
 | zero=>intro _;simp
 | succ m ih=>
  intro h
  rw[List.range_succ,List.map_append,List.flatten_append,List.length_append,ih (fun i hi=>h i (by omega))]
  simp[h m (by omega),Nat.succ_mul]
theorem Ep {X:Nat→List Value}{n:Nat}(hn:0<n):∀ m,(∀ i,i<m→(X i).length=n)→∀ j u,((List.range m).map X).flatten[j]?=some u→j / n<m∧(X (j / n))[j % n]?=some u:=by
 intro m
 induction m with
 | zero=>intro _ j u h;simp at h
 | succ m ih=>
  intro h j u hj
  have hl:=Qz m (fun i hi=>h i (by omega))
  rw[List.range_succ,List.map_append,List.flatten_append] at hj
  by_cases hjm:j<m * n
  ·rw[List.getElem?_append_left (by omega)] at hj
   have:=ih (fun i hi=>h i (by omega)) j u hj
   exact⟨by omega,this.2⟩
  ·rw[List.getElem?_append_right (by omega),hl] at hj
   simp at hj
   have hx:=h m (by omega)
   have hlt:j-m * n<n:=by
    rcases Nat.lt_or_ge (j-m * n) n with h' | h'
    ·exact h'
    ·rw[List.getElem?_eq_none (by omega)] at hj;cases hj
   have e1:j=(j-m * n)+n * m:=by rw[Nat.mul_comm n m];omega
   have e2:j / n=m:=by rw[e1,Nat.add_mul_div_left _ _ hn,Nat.div_eq_of_lt hlt];omega
   have e3:j % n=j-m * n:=by
    conv=>lhs;rw[e1]
    rw[Nat.add_mul_mod_self_left,Nat.mod_eq_of_lt hlt]
   exact⟨by omega,by rw[e2,e3];exact hj⟩
theorem UJ {P:Program}(w:World)(t ty e:TypeId)(i:TypeInfo)(ht:P.underlying t=some (.slice e))(hi:P.info? e=some i){base:Nat}{size:Nat}{v:Value}{n:Nat}{xs:List Value} 
  (hown:w.ownsRow base e size v n xs) (c:Nat):(Builtin.append_ #[t,t] ty #[v,.slice none 0 c]).run P w=.ok v w:=by
 rcases hown.2 with⟨rfl,rfl⟩ | ⟨g,cap,cur,rfl,hbg,hg,hnc,hcm,hcs,htake⟩
 ·simp[Builtin.append_,run_underlying ht,sizeOf,typeInfo,hi,Builtin.lenOf,Builtin.firstCells]
 ·simp[Builtin.append_,run_underlying ht,sizeOf,typeInfo,hi,Builtin.lenOf,Builtin.firstCells,hnc,storeCells]
theorem TH {α:Type}(r:Rp α)(hrn:0<r.n){P:Program}(w:World)(t ty:TypeId)(base:Nat)(e:TypeId)(i:TypeInfo)(z:Value)(bytes:Nat)(ht:P.underlying t=some (.slice e))(hi:P.info? e=some i)(hz:i.zero=some z) 
  (hsize:i.size=r.n) (hby:i.bytes=bytes) (hzs:z.cells.size=r.n) (hbb:bytes≤1000)
  (F:Nat→Prop) (v:Value) (l:List α) (hacc:Acc r e base F w v l) (x:Value) (l2:List α) {G:Nat→Prop} (hx:IsSl2 r G (fun k=>F k∧v.ownBlock≠some k) w x l2) (hl:l.length+l2.length≤1000000) (hbase:base≤w.heap.size) :
  ∃ v' w',(Builtin.append_ #[t,t] ty #[v,x]).run P w=.ok v' w'∧Acc r e base F w' v' (l++l2)∧w.grownBy w' v.ownBlock∧(v'.ownBlock=v.ownBlock∨v'.ownBlock=some w.heap.size):=by
 obtain⟨X,h1,h2,h3⟩:=hacc
 obtain⟨a,c,bl,off,Y,rfl,hm,ha,g1,g2⟩:=hx
 have hlen:∀ i,i<l2.length→(Y i).length=r.n:=fun i hi=>r.len (g2 i hi)
 have step:∀ v' w',w'.ownsRow base e r.n v' (l.length+l2.length) (X.flatten++((List.range l2.length).map Y).flatten)→w.grownBy w' v.ownBlock→(v'.ownBlock=v.ownBlock∨v'.ownBlock=some w.heap.size)→Acc r e base F w' v' (l++l2):=by
  intro v' w' hown hgrow hat
  have hk:∀ {x:List Value} {b:α},r.R (fun k=>F k∧v.ownBlock≠some k) w x b→r.R (fun k=>F k∧v'.ownBlock≠some k) w' x b:=fun {x b} h=>by
   have h0:=r.keep h ((Keep.refl _ _).grown hgrow (fun k hk hc=>hc.2 hk))
   rcases hat with hat | hat
   ·rw[hat];exact h0
   ·have h1:r.R (fun k=>F k∧k<w.heap.size∧v.ownBlock≠some k) w x b:=r.weaken h fun k hk hc=>⟨hc.1,hk,hc.2⟩
    have h2:=r.keep h1 ((Keep.refl _ _).grown hgrow (fun k hk hc=>hc.2.2 hk))
    exact r.weaken h2 fun k _ hc=>⟨hc.1,by rw[hat];intro e;cases e;omega⟩
  refine⟨X++(List.range l2.length).map Y,by simp[h1],by simpa using hown,fun i hi=>?_⟩
  by_cases hi':i<l.length
  ·obtain⟨y,hy,hr⟩:=h3 i hi'
   refine⟨y,by rw[List.getElem?_append_left (by omega)];exact hy,?_⟩
   rw[List.getElem_append_left hi'];exact hk hr
  ·rw[List.length_append] at hi
   have hr:=g2 (i-l.length) (by omega)
   refine⟨Y (i-l.length),by rw[List.getElem?_append_right (by omega),h1,List.getElem?_map,List.getElem?_range (by omega)];rfl,?_⟩
   rw[List.getElem_append_right (by omega)];exact hk hr
 by_cases h0:l2.length=0
 ·have hn:l2=[]:=List.eq_nil_of_length_eq_zero h0
  subst hn
  cases a with
  | none=>
   refine⟨v,w,UJ w t ty e i ht hi h2 c,by rw[List.append_nil];exact⟨X,h1,h2,h3⟩,⟨rfl,rfl,rfl,Nat.le_refl _,fun _ _ _=>rfl⟩,.inl rfl⟩
  | some a=>
   obtain⟨v',w',hr,h4,h5,h6,h7⟩:=run_append_own_at (P:=P) w base t ty e i z r.n bytes ht hi hz hsize hby hzs hrn v l.length X.flatten h2 a 0 c [] (by simp) (by simp) (by simp) (by unfold maxLen;simp at hl;omega) (by
    have:(l.length+0) * bytes≤1000000 * 1000:=Nat.mul_le_mul (by simp at hl;omega) hbb
    omega) hbase
   exact⟨v',w',hr,step v' w' (by simpa using h4) h5 h7,h5,h7⟩
 ·obtain⟨rfl,hF⟩:=ha (by omega)
  obtain⟨v',w',hr,h4,h5,h6,h7⟩:=run_append_own_at (P:=P) w base t ty e i z r.n bytes ht hi hz hsize hby hzs hrn v l.length X.flatten h2 ⟨bl,off,none⟩ l2.length c ((List.range l2.length).map Y).flatten
   (Qz _ hlen) (fun j u hj=>by
    obtain⟨q1,q2⟩:=Ep hrn _ hlen j u hj
    have:=g1 _ _ u q1 q2
    have hadd:(⟨bl,off,none⟩:Addr).add j=⟨bl,off+j / r.n * r.n+j % r.n,none⟩:=by
     have hq:=Nat.div_add_mod' j r.n
     unfold Addr.add
     split
     ·rename_i hj0;simp[hj0]
     ·simp;omega
    rw[hadd];exact this) (fun u hu=>by
    obtain⟨y,hy,hu⟩:=List.mem_flatten.1 hu
    obtain⟨i,hi,rfl⟩:=List.mem_map.1 hy
    exact r.one (g2 i (by simpa using hi)) u hu) (by unfold maxLen;omega) (by
    have:(l.length+l2.length) * bytes≤1000000 * 1000:=Nat.mul_le_mul (by omega) hbb
    omega) hbase
  exact⟨v',w',hr,step v' w' h4 h5 h7,h5,h7⟩
theorem W7 {P:Program}{w w':World}{ops:Array Oper}{rest:List Oper}{o:Oper}{a:Act}{Q:Exit→Act→World→Prop}(hgd:o.guard=none)(s x:Operand)(ta tb:TypeId)(v':Value) 
  (ho:o.op=.call { callee:=.builtin .append,args:=#[s,x],argTypes:=#[ta,tb] }) (hr:(Builtin.append_ #[ta,tb] o.type #[a.eval s,a.eval x]).run P w=.ok v' w')
  (h:wpList P ops Q rest (a.put o.dst v') w'):wpList P ops Q (o :: rest) a w:=by
 refine wpList_plain hgd fun _ hK=>?_
 unfold Oper.wp execOp
 simp only[ho,resolve,invoke,builtin,Sem.run_bind,Sem.run_pure,Result.andThen_ok,List.map_toArray,List.map_cons,List.map_nil,hr]
 exact hK _ _ h
theorem Vt {α:Type}(r:Rp α)(hrn:0<r.n){P:Program}{w:World}{ops:Array Oper}{rest:List Oper}{o:Oper}{a:Act}{Q:Exit→Act→World→Prop}(hgd:o.guard=none)(s x:Operand)(t:TypeId) 
  (ho:o.op=.call { callee:=.builtin .append,args:=#[s,x],argTypes:=#[t,t] })
  (base:Nat) (e:TypeId) (i:TypeInfo) (z:Value) (bytes:Nat) (ht:P.underlying t=some (.slice e)) (hi:P.info? e=some i) (hz:i.zero=some z)
  (hsize:i.size=r.n) (hby:i.bytes=bytes) (hzs:z.cells.size=r.n) (hbb:bytes≤1000)
  (F:Nat→Prop) (v:Value) (l:List α) (hs:a.eval s=v) (hacc:Acc r e base F w v l) (y:Value) (l2:List α) (hx:a.eval x=y) {G:Nat→Prop} (hy:IsSl2 r G (fun k=>F k∧v.ownBlock≠some k) w y l2) (hl:l.length+l2.length≤1000000) (hbase:base≤w.heap.size)
  (h:∀ v' w',Acc r e base F w' v' (l++l2)→w.grownBy w' v.ownBlock→(v'.ownBlock=v.ownBlock∨v'.ownBlock=some w.heap.size)→wpList P ops Q rest (a.put o.dst v') w') :
  wpList P ops Q (o :: rest) a w:=by
 obtain⟨v',w',hr,h2,h3,h4⟩:=TH r hrn (P:=P) w t o.type base e i z bytes ht hi hz hsize hby hzs hbb F v l hacc y l2 hy hl hbase
 refine wpList_plain hgd fun _ hK=>?_
 unfold Oper.wp execOp
 simp only[ho,resolve,invoke,builtin,Sem.run_bind,Sem.run_pure,Result.andThen_ok,List.map_toArray,List.map_cons,List.map_nil,hs,hx,hr]
 exact hK _ _ (h v' w' h2 h3 h4)
inductive Ty where
 | mk (args:List Ty) (base:Int)
namespace Ty
def args:Ty→List Ty | .mk a _=>a
def base:Ty→Int | .mk _ b=>b
theorem ind {p:Ty→Prop}(h:∀ args base,(∀ t∈args,p t)→p (.mk args base))(t:Ty):p t:=
 Ty.rec (motive_1:=p) (motive_2:=fun l=>∀ t∈l,p t) (fun a b ih=>h a b ih) (by simp)
  (fun a l ha hl t ht=>by
   rcases List.mem_cons.1 ht with rfl | h
   ·exact ha
   ·exact hl t h) t
mutual
def size:Ty→Nat
 | .mk a _=>sizes a+1
def sizes:List Ty→Nat
 | []=>0
 | t :: l=>size t+sizes l
end
mutual
def depth:Ty→Nat
 | .mk a _=>depths a+1
def depths:List Ty→Nat
 | []=>0
 | t :: l=>max (depth t) (depths l)
end
theorem sizes_append (l r:List Ty):sizes (l++r)=sizes l+sizes r:=by
 induction l with
 | nil=>simp[sizes]
 | cons t l ih=>simp[sizes,ih];omega
theorem depths_append (l r:List Ty):depths (l++r)=max (depths l) (depths r):=by
 induction l with
 | nil=>simp[depths]
 | cons t l ih=>simp[depths,ih]
theorem sizes_take (l:List Ty)(i:Nat)(h:i<l.length):sizes (l.take (i+1))=sizes (l.take i)+size l[i]:=by
 rw[List.take_succ_eq_append_getElem h,sizes_append];simp[sizes]
theorem size_pos (t:Ty):1≤t.size:=by cases t;simp[size]
theorem sizes_take_le (l:List Ty)(i:Nat):sizes (l.take i)≤sizes l:=by
 conv=>rhs;rw[←List.take_append_drop i l]
 rw[sizes_append];omega
theorem le_sizes (l:List Ty):l.length≤sizes l:=by
 induction l with
 | nil=>simp[sizes]
 | cons t l ih=>have:=size_pos t;simp[sizes];omega
theorem size_mem {l:List Ty}{t:Ty}(h:t∈l):t.size≤sizes l:=by
 induction l with
 | nil=>cases h
 | cons u l ih=>
  simp only[sizes]
  rcases List.mem_cons.1 h with rfl | h
  ·omega
  ·have:=ih h;omega
theorem depth_mem {l:List Ty}{t:Ty}(h:t∈l):t.depth≤depths l:=by
 induction l with
 | nil=>cases h
 | cons u l ih=>
  simp only[depths]
  rcases List.mem_cons.1 h with rfl | h
  ·omega
  ·have:=ih h;omega
theorem size_get {l:List Ty}{b:Int}(i:Nat)(h:i<l.length):l[i].size<(mk l b).size:=by
 have:=size_mem (List.getElem_mem h);simp[size];omega
theorem depth_get {l:List Ty}{b:Int}(i:Nat)(h:i<l.length):l[i].depth<(mk l b).depth:=by
 have:=depth_mem (List.getElem_mem h);simp[depth];omega
theorem length_lt {l:List Ty}{b:Int}:l.length<(mk l b).size:=by
 have:=le_sizes l;simp[size];omega
end Ty
inductive Xi (F:Nat→Prop) (w:World):Value→Value→Ty→Prop where
 | mk (a:Option Addr) (n c:Nat) (b:Int) (args:List Ty) (bl off:Nat) (A:Nat→Option Addr) (N C:Nat→Nat) (B:Nat→Int)
   (hn:args.length=n) (hm:n≤maxLen∧n≤c) (ha:0<n→a=some ⟨bl,off,none⟩∧F bl)
   (h1:∀ i,i<n→w.cell? ⟨bl,off+i * 2,none⟩=some (.slice (A i) (N i) (C i)))
   (h2:∀ i,i<n→w.cell? ⟨bl,off+i * 2+1,none⟩=some (.int .i64 (B i)))
   (h3:∀ i (h:i<args.length),Xi F w (.slice (A i) (N i) (C i)) (.int .i64 (B i)) args[i]) :
   Xi F w (.slice a n c) (.int .i64 b) (.mk args b)
theorem Xi.keep {F:Nat→Prop}{w w':World}{s b:Value}{t:Ty}(h:Xi F w s b t)(hw:Keep F w w'):Xi F w' s b t:=by
 induction h with
 | mk a n c b args bl off A N C B hn hm ha h1 h2 h3 ih=>
  exact Xi.mk a n c b args bl off A N C B hn hm ha (fun i hi=>hw _ _ _ (ha (by omega)).2 (h1 i hi)) (fun i hi=>hw _ _ _ (ha (by omega)).2 (h2 i hi)) ih
theorem Xi.weaken {F F':Nat→Prop}{w:World}{s b:Value}{t:Ty}(h:Xi F w s b t)(hF:∀ k,k<w.heap.size→F k→F' k):Xi F' w s b t:=by
 induction h with
 | mk a n c b args bl off A N C B hn hm ha h1 h2 h3 ih=>
  exact Xi.mk a n c b args bl off A N C B hn hm (fun h=>⟨(ha h).1,hF _ (Keep.lt (h1 0 h)) (ha h).2⟩) h1 h2 ih
theorem Xi.one {F:Nat→Prop}{w:World}{s b:Value}{t:Ty}(h:Xi F w s b t):s.oneCell'=true∧b.oneCell'=true:=by
 cases h;exact⟨rfl,rfl⟩
theorem Xi.shape {F:Nat→Prop}{w:World}{s b:Value}{t:Ty}(h:Xi F w s b t):∃ a c,s=.slice a t.args.length c∧b=.int .i64 t.base:=by
 cases h with
 | mk a n c b args bl off A N C B hn=>subst hn;exact⟨a,c,rfl,rfl⟩
def YO:Rp Ty where
 n:=2
 R F w x t:=∃ s b,x=[s,b]∧Xi F w s b t
 len:=by rintro F w x a ⟨s,b,rfl,_⟩;rfl
 one:=by
  rintro F w x a ⟨s,b,rfl,h⟩ u hu
  have:=h.one
  simp at hu
  rcases hu with rfl | rfl
  ·exact this.1
  ·exact this.2
 keep:=by rintro F w w' x a ⟨s,b,rfl,h⟩ hk;exact⟨s,b,rfl,h.keep hk⟩
 weaken:=by rintro F F' w x a ⟨s,b,rfl,h⟩ hk;exact⟨s,b,rfl,h.weaken hk⟩
theorem KU {F:Nat→Prop}{w:World}{v:Value}{l:List Ty}(h:Yd YO F w v l)(b:Int):Xi F w v (.int .i64 b) (.mk l b):=by
 obtain⟨a,c,bl,off,X,rfl,hl,ha,h1,h2⟩:=h
 let A:Nat→Option Addr:=fun i=>match (X i).getD 0 default with | .slice a _ _=>a | _=>none
 let N:Nat→Nat:=fun i=>match (X i).getD 0 default with | .slice _ n _=>n | _=>0
 let C:Nat→Nat:=fun i=>match (X i).getD 0 default with | .slice _ _ c=>c | _=>0
 let B:Nat→Int:=fun i=>match (X i).getD 1 default with | .int _ b=>b | _=>0
 have hx:∀ i (h:i<l.length),X i=[.slice (A i) (N i) (C i),.int .i64 (B i)]∧Xi F w (.slice (A i) (N i) (C i)) (.int .i64 (B i)) l[i]:=fun i hi=>by
  obtain⟨s,b,hx,ht⟩:=h2 i hi
  obtain⟨a',c',rfl,rfl⟩:=ht.shape
  have e1:A i=a':=by simp[A,hx]
  have e2:N i=l[i].args.length:=by simp[N,hx]
  have e3:C i=c':=by simp[C,hx]
  have e4:B i=l[i].base:=by simp[B,hx]
  rw[e1,e2,e3,e4];exact⟨hx,ht⟩
 refine Xi.mk a l.length c b l bl off A N C B rfl hl ha (fun i hi=>?_) (fun i hi=>?_) (fun i hi=>(hx i hi).2)
 ·exact h1 i 0 _ hi (by rw[(hx i hi).1];rfl)
 ·exact h1 i 1 _ hi (by rw[(hx i hi).1];rfl)
theorem Xi.inv {F:Nat→Prop}{w:World}{s b:Value}{t:Ty}(h:Xi F w s b t):b=.int .i64 t.base∧Yd YO F w s t.args:=by
 cases h with
 | mk a n c b args bl off A N C B hn hm ha h1 h2 h3=>
  subst hn
  refine⟨rfl,a,c,bl,off,fun i=>[.slice (A i) (N i) (C i),.int .i64 (B i)],rfl,hm,ha,fun i j u hi hu=>?_,fun i hi=>⟨_,_,rfl,h3 i hi⟩⟩
  match j with
  | 0=>simp at hu;subst hu;exact h1 i hi
  | 1=>simp at hu;subst hu;exact h2 i hi
  | j+2=>simp at hu
end Go.Proofs.YtclihnccilkohaaGreat
namespace Go.Proofs.YtclihnccilkohaaGreat
open Go.RowKit Go.ChangeShapes Go.WideShapes Go.ChangeAt
theorem own:ownKnob Tryz.prog.godebug=none:=by kernel_rfl
theorem Cy:laidOutB Tryz.prog=true:=by kernel_rfl
def Rd {α H:Type}(enc:TypeId×Value→H)(W:World)(base:Nat)(sp:Nat→Bool)(hd:Bool)(t:TypeId)(r:Rp α)(D:DataW H→α→Prop)(n:Nat):Prop:=
 ∀ cs x,DataW.trod enc Tryz.prog W base sp hd n t cs=some x→∃ v,r.R (fun _=>True) W cs v∧D x.1 v
theorem Qe (bl off n:Nat):(⟨bl,off,none⟩:Addr).add n=⟨bl,off+n,none⟩:=by
 unfold Addr.add;split
 ·subst_vars;rfl
 ·rfl
theorem YB {α H:Type}{enc:TypeId×Value→H}{W:World}{base:Nat}{sp:Nat→Bool}{hd:Bool}{t e:TypeId}{r:Rp α}{D:DataW H→α→Prop}{fuel:Nat}{cs:List Value}{x:DataW H×List MemPlace} 
  (ht:Tryz.prog.underlying t=some (.slice e)) (hn:Tryz.prog.cellsOf e=r.n) (hpos:0<r.n) (hr:∀ m,m<fuel→Rd enc W base sp hd e r D m) (h:DataW.trod enc Tryz.prog W base sp hd fuel t cs=some x) :
  ∃ a n c l,cs=[.slice a n c]∧n≤c∧Yd r (fun _=>True) W (.slice a n c) l∧∀ i (h:i<l.length),∃ d es spare,x.1=.slice es spare∧d∈es∧D d l[i]:=by
 rcases DataW.trod_slice ht h with⟨rfl,_⟩ | ⟨a,len,cap,elems,rest,n,rfl,rfl,rfl,hb,hl,hm,hlen,hel,_,_⟩
 ·exact⟨_,_,_,[],rfl,Nat.le_refl _,⟨none,0,0,0,fun _=>[],rfl,⟨Nat.zero_le _,Nat.le_refl _⟩,fun h=>absurd h (by simp),fun _ _ _ h=>absurd h (by simp),fun _ h=>absurd h (by simp)⟩,fun _ h=>absurd h (by simp)⟩
 ·have H:∀ i:Fin len,∃ y:List Value×α,W.cells? base (a.add (i * r.n)) r.n=some y.1∧r.R (fun _=>True) W y.1 y.2∧∃ d∈elems.map (·.1),D d y.2:=fun i=>by
   have h1:=hel i i.2
   rw[List.getElem?_eq_getElem (by omega),hn] at h1
   obtain⟨cs',h2,h3⟩:=Option.bind_eq_some_iff.1 h1
   obtain⟨v,hv,hd⟩:=hr n (by omega) _ _ h3
   exact⟨⟨cs',v⟩,h2,hv,_,List.mem_map_of_mem (List.getElem_mem _),hd⟩
  obtain⟨f,hf⟩:=Classical.axiomOfChoice H
  refine⟨_,_,_,List.ofFn fun i=>(f i).2,rfl,hl,⟨some a,cap,a.block,a.off,fun i=>if h:i<len then (f ⟨i,h⟩).1 else [],by simp,by simp;omega,fun h0=>?_,fun i j u hi hu=>?_,fun i hi=>?_⟩,fun i hi=>?_⟩
  ·have h0:0<len:=by simpa using h0
   have h1:=(World.cells?_some (hf ⟨0,h0⟩).1)
   have h2:=h1.2.2 0 hpos
   rw[List.getElem?_eq_getElem (by rw[h1.2.1];exact hpos)] at h2
   have h3:=World.cell?_spot h2
   obtain⟨bl,off,spot⟩:=a
   have:spot=none:=by simpa[Addr.add] using h3
   subst this
   exact⟨rfl,trivial⟩
  ·have hi:i<len:=by simpa using hi
   simp only[dif_pos hi] at hu
   have h1:=(World.cells?_some (hf ⟨i,hi⟩).1)
   have hj:j<r.n:=by
    rcases Nat.lt_or_ge j r.n with h | h
    ·exact h
    ·rw[List.getElem?_eq_none (by rw[h1.2.1];exact h)] at hu;cases hu
   have h2:=h1.2.2 j hj
   rw[hu] at h2
   have h0:=(World.cells?_some (hf ⟨0,by omega⟩).1)
   have h0':=h0.2.2 0 hpos
   rw[List.getElem?_eq_getElem (by rw[h0.2.1];exact hpos)] at h0'
   have h3:=World.cell?_spot h0'
   obtain⟨bl,off,spot⟩:=a
   have:spot=none:=by simpa[Addr.add] using h3
   subst this
   rw[Qe,Qe] at h2
   exact h2
  ·have hi:i<len:=by simpa using hi
   simp only[dif_pos hi,List.getElem_ofFn]
   exact(hf ⟨i,hi⟩).2.1
  ·have hi:i<len:=by simpa using hi
   obtain⟨d,h1,h2⟩:=(hf ⟨i,hi⟩).2.2
   exact⟨d,_,_,rfl,h1,by simpa using h2⟩
theorem GM {α:Type}{cs:List α}(h:cs.length=2):∃ a b,cs=[a,b]:=by
 match cs,h with
 | [a,b],_=>exact⟨a,b,rfl⟩
theorem WV:Tryz.prog.cellsOf 3=1:=by kernel_rfl
theorem UX:Tryz.prog.cellsOf 104=2:=by kernel_rfl
theorem UA:Tryz.prog.cellsOf 22=1:=by kernel_rfl
theorem rdR {H:Type}(enc:TypeId×Value→H)(W:World)(base:Nat)(sp:Nat→Bool)(hd:Bool):∀ n,Rd enc W base sp hd 104 YO (fun _ _=>True) n:=by
 intro n
 induction n using Nat.strongRecOn with
 | ind n ih=>
  intro cs x h
  obtain⟨xs,m,rfl,rfl,hl,hlen,hf⟩:=DataW.trod_struct Tryz.underlying104 h
  rw[UX] at hl
  obtain⟨v0,v1,rfl⟩:=GM hl
  have h0:DataW.trod enc Tryz.prog W base sp hd m 22 ([v0,v1].take (Tryz.prog.cellsOf 22))=xs[0]?:=hf 0 _ rfl
  have h1:DataW.trod enc Tryz.prog W base sp hd m 3 ([v1].take (Tryz.prog.cellsOf 3))=xs[1]?:=hf 1 _ rfl
  rw[UA] at h0
  rw[WV] at h1
  have hlen:xs.length=2:=hlen
  rw[List.getElem?_eq_getElem (by omega)] at h0 h1
  obtain⟨va,vn,vc,l,hv,_,hs,_⟩:=YB Tryz.underlying22 UX (by decide) (fun k hk=>ih k (by omega)) h0
  obtain⟨b,hb,_,_⟩:=DataW.trod_int Tryz.underlying3 h1
  have e0:[v0]=[.slice va vn vc]:=hv
  have e1:[v1]=[.int .i64 b]:=hb
  simp only[List.cons.injEq,and_true] at e0 e1
  subst e0 e1
  exact⟨.mk l b,⟨_,_,rfl,KU hs b⟩,trivial⟩
theorem TJ {H:Type}{enc:TypeId×Value→H}{W W':World}{sp:Nat→Bool}:∀ {ts:List TypeId} {vs:List Value} {ds:List (DataW H)} {p:List MemPlace},
  DataW.TrodAll enc Tryz.prog W 0 (fun _=>true) true ts vs ds p→(∀ t∈ts,Tryz.prog.readableRec t=true∧t<Tryz.prog.types.size)→(∀ x∈p,W.sameAt W' x)→(∀ x∈p,sp x.block=true) →
  DataW.TrodAll enc Tryz.prog W' 0 sp true ts vs ds p:=by
 intro ts
 induction ts with
 | nil=>intro vs ds p h;cases vs <;> cases ds <;> first | exact fun _ _ _=>h | exact h.elim
 | cons t ts ih=>
  intro vs ds p h hts hs hsp
  cases vs with
  | nil=>exact h.elim
  | cons v vs=>
   cases ds with
   | nil=>exact h.elim
   | cons d ds=>
    obtain⟨p,q,h0,h1,rfl⟩:=h
    exact⟨p,q,WideElems.Trod_stays Cy (hts t (by simp)).1 (hts t (by simp)).2 h0 (fun x hx=>hs x (by simp[hx])) (fun x hx=>hsp x (by simp[hx])),ih h1 (fun t ht=>hts t (by simp[ht])) (fun x hx=>hs x (by simp[hx])) (fun x hx=>hsp x (by simp[hx])),rfl⟩
set_option maxRecDepth 100000 in
theorem Bi {α H:Type}{enc:TypeId×Value→H}{W:World}{base:Nat}{sp:Nat→Bool}{hd:Bool}{t e:TypeId}{r:Rp α}{D:DataW H→α→Prop}{v:Value}{d:DataW H}{p:List MemPlace}{rch:Reach}{b0:Nat} 
  (ht:Tryz.prog.underlying t=some (.slice e)) (hn:Tryz.prog.cellsOf e=r.n) (hpos:0<r.n) (hr:∀ m,Rd enc W base sp hd e r D m) (hval:Value.okWide Tryz.prog W rch b0 t v) (h:DataW.Trod enc Tryz.prog W base sp hd t v d p) :
  ∃ a n c l,v=.slice a n c∧n≤c∧Yd r (fun _=>True) W (.slice a n c) l∧∀ i (h:i<l.length),∃ x es spare,d=.slice es spare∧x∈es∧D x l[i]:=by
 obtain⟨fuel,h⟩:=h
 obtain⟨a,n,c,l,h1,h2,h3,h4⟩:=YB ht hn hpos (fun m _=>hr m) h
 refine⟨a,n,c,l,?_,h2,h3,h4⟩
 obtain⟨a',n',c',rfl⟩:=okWide_slice ht hval
 simpa[Value.cells] using h1
set_option maxRecDepth 100000 in
theorem Jm {H:Type}{enc:TypeId×Value→H}{f:Func}{s:ChangeSpec}{fresh handsOn again apart:Bool}{W W':World}{args:Array Value}{ds gs:List (DataW H)}{before:List MemPlace} 
  (hW:DataW.Whole enc Tryz.prog f.params.toList s.vars apart W args.toList ds gs before) (hv:s.vars=[]) (hts:∀ t∈f.params.toList,Tryz.prog.readableRec t=true∧t<Tryz.prog.types.size)
  (hr:f.resultTypes=#[4]) (hfn:s.fn H (ds++gs)={ results:=[.lit (.bool true)],args:=ds }) (hb:Below W.heap.size W W') :
  s.post enc Tryz.prog f apart fresh handsOn again W args (.bool true) W':=by
 have hlt:=hW.lt
 have hW':=hW
 obtain⟨p,q,hA,hV,rfl,hz,hn⟩:=hW
 rw[hv] at hV
 obtain⟨rfl,rfl⟩:=trodVars_none hV
 have hres:∀ (b:Nat) (sp:Nat→Bool) (hd:Bool),DataW.TrodAll enc Tryz.prog W' b sp hd f.resultTypes.toList ((Value.bool true).resultList f.resultTypes.size) (s.fn H (ds++[])).results []:=fun _ _ _=>by
  rw[hr,hfn];exact trodAll_cons_mk (shut_bool Tryz.underlying4 _) trodAll_mk0
 have hargs:∀ sp:Nat→Bool,(∀ x∈p++[],sp x.block=true)→DataW.TrodAll enc Tryz.prog W' 0 sp true f.params.toList args.toList (s.fn H (ds++[])).args p:=fun sp hs=>by
  rw[hfn];exact TJ hA hts (fun x hx=>hb.same (hlt x (by simp[hx]))) (fun x hx=>hs x (by simp[hx]))
 have hvars:∀ sp:Nat→Bool,DataW.TrodVars enc Tryz.prog W' sp s.vars (s.fn H (ds++[])).vars []:=fun sp=>by rw[hv,hfn];rfl
 have hok:=ok_one (P:=Tryz.prog) (W':=W') (f:=f) (v:=.bool true) hr rfl (okWide_bool_mk Tryz.underlying4 _)
 refine⟨ds,[],p++[],[],p,[],hW',hres _ _ _,hargs _ (fun x hx=>by simpa using hlt x hx),hvars _,World.keptBut_mono (fun p hp=>⟨hp,.inr (by simpa using hp)⟩) (hb.frame _),fun _=>?_⟩
 refine⟨hok,_,_,([]++p)++[],⟨[]++p,[],trodAll_append (hargs _ (fun _ _=>rfl)) (hres _ _ _),hvars _,rfl,?_,?_⟩,?_⟩
 ·intro b off hp
  rw[hb.frozen (hlt (.cell b off) (by simpa using hp))]
  exact hz b off (by simpa using hp)
 ·intro ha
  simpa using hn ha
 ·intro x hx _
  simpa using hx
end Go.Proofs.YtclihnccilkohaaGreat
namespace Go.Proofs.YtclihnccilkohaaGreat
open Go.RowKit
inductive Tm where
 | mk (binds:List Ty) (kind index:Int) (args:List Tm)
namespace Tm
def binds:Tm→List Ty | .mk b _ _ _=>b
def kind:Tm→Int | .mk _ k _ _=>k
def index:Tm→Int | .mk _ _ i _=>i
def args:Tm→List Tm | .mk _ _ _ a=>a
theorem ind {p:Tm→Prop}(h:∀ binds kind index args,(∀ t∈args,p t)→p (.mk binds kind index args))(t:Tm):p t:=
 Tm.rec (motive_1:=p) (motive_2:=fun l=>∀ t∈l,p t) (fun b k i a ih=>h b k i a ih) (by simp)
  (fun a l ha hl t ht=>by
   rcases List.mem_cons.1 ht with rfl | h
   ·exact ha
   ·exact hl t h) t
mutual
def size:Tm→Nat
 | .mk _ _ _ a=>sizes a+1
def sizes:List Tm→Nat
 | []=>0
 | t :: l=>size t+sizes l
end
mutual
def depth:Tm→Nat
 | .mk _ _ _ a=>depths a+1
def depths:List Tm→Nat
 | []=>0
 | t :: l=>max (depth t) (depths l)
end
mutual
def full:Tm→Nat
 | .mk b _ _ a=>Ty.sizes b+fulls a+1
def fulls:List Tm→Nat
 | []=>0
 | t :: l=>full t+fulls l
end
theorem size_eq (b:List Ty)(k i:Int)(a:List Tm):(mk b k i a).size=sizes a+1:=by simp[size]
theorem depth_eq (b:List Ty)(k i:Int)(a:List Tm):(mk b k i a).depth=depths a+1:=by simp[depth]
theorem full_eq (b:List Ty)(k i:Int)(a:List Tm):(mk b k i a).full=Ty.sizes b+fulls a+1:=by simp[full]
theorem sizes_append (l r:List Tm):sizes (l++r)=sizes l+sizes r:=by
 induction l with
 | nil=>simp[sizes]
 | cons t l ih=>simp[sizes,ih];omega
theorem fulls_append (l r:List Tm):fulls (l++r)=fulls l+fulls r:=by
 induction l with
 | nil=>simp[fulls]
 | cons t l ih=>simp[fulls,ih];omega
theorem depths_append (l r:List Tm):depths (l++r)=max (depths l) (depths r):=by
 induction l with
 | nil=>simp[depths]
 | cons t l ih=>simp[depths,ih]
theorem sizes_take (l:List Tm)(i:Nat)(h:i<l.length):sizes (l.take (i+1))=sizes (l.take i)+size l[i]:=by
 rw[List.take_succ_eq_append_getElem h,sizes_append];simp[sizes]
theorem fulls_take (l:List Tm)(i:Nat)(h:i<l.length):fulls (l.take (i+1))=fulls (l.take i)+full l[i]:=by
 rw[List.take_succ_eq_append_getElem h,fulls_append];simp[fulls]
theorem depths_take (l:List Tm)(i:Nat)(h:i<l.length):depths (l.take (i+1))=max (depths (l.take i)) (depth l[i]):=by
 rw[List.take_succ_eq_append_getElem h,depths_append];simp[depths]
theorem size_pos (t:Tm):1≤t.size:=by cases t;simp[size]
theorem sizes_take_le (l:List Tm)(i:Nat):sizes (l.take i)≤sizes l:=by
 conv=>rhs;rw[←List.take_append_drop i l]
 rw[sizes_append];omega
theorem fulls_take_le (l:List Tm)(i:Nat):fulls (l.take i)≤fulls l:=by
 conv=>rhs;rw[←List.take_append_drop i l]
 rw[fulls_append];omega
theorem depths_take_le (l:List Tm)(i:Nat):depths (l.take i)≤depths l:=by
 conv=>rhs;rw[←List.take_append_drop i l]
 rw[depths_append];omega
theorem len_sizes (l:List Tm):l.length≤sizes l:=by
 induction l with
 | nil=>simp[sizes]
 | cons t l ih=>have:=size_pos t;simp[sizes];omega
theorem size_mem {l:List Tm}{t:Tm}(h:t∈l):t.size≤sizes l:=by
 induction l with
 | nil=>cases h
 | cons u l ih=>
  simp only[sizes]
  rcases List.mem_cons.1 h with rfl | h
  ·omega
  ·have:=ih h;omega
theorem full_mem {l:List Tm}{t:Tm}(h:t∈l):t.full≤fulls l:=by
 induction l with
 | nil=>cases h
 | cons u l ih=>
  simp only[fulls]
  rcases List.mem_cons.1 h with rfl | h
  ·omega
  ·have:=ih h;omega
theorem depth_mem {l:List Tm}{t:Tm}(h:t∈l):t.depth≤depths l:=by
 induction l with
 | nil=>cases h
 | cons u l ih=>
  simp only[depths]
  rcases List.mem_cons.1 h with rfl | h
  ·omega
  ·have:=ih h;omega
theorem size_le_full (t:Tm):t.size≤t.full:=by
 induction t using Tm.ind with
 | h b k i a ih=>
  have:∀ l:List Tm,(∀ t∈l,t.size≤t.full)→sizes l≤fulls l:=by
   intro l
   induction l with
   | nil=>intro _;simp[sizes]
   | cons t l ih2=>intro h;have:=ih2 (fun t ht=>h t (by simp[ht]));have:=h t (by simp);simp[sizes,fulls];omega
  have:=this a ih
  rw[size_eq,full_eq];omega
theorem depth_le_size (t:Tm):t.depth≤t.size:=by
 induction t using Tm.ind with
 | h b k i a ih=>
  have:∀ l:List Tm,(∀ t∈l,t.depth≤t.size)→depths l≤sizes l:=by
   intro l
   induction l with
   | nil=>intro _;simp[depths]
   | cons t l ih2=>intro h;have:=ih2 (fun t ht=>h t (by simp[ht]));have:=h t (by simp);simp[sizes,depths];omega
  have:=this a ih
  rw[size_eq,depth_eq];omega
end Tm
inductive Xv (F:Nat→Prop) (w:World):Value→Value→Value→Value→Tm→Prop where
 | mk (bv:Value) (k i:Int) (a:Option Addr) (n c:Nat) (binds:List Ty) (args:List Tm) (bl off:Nat) (PA A:Nat→Option Addr) (PN PC N C:Nat→Nat) (K I:Nat→Int)
   (hb:Yd YO F w bv binds) (hn:args.length=n) (hm:n≤maxLen∧n≤c) (ha:0<n→a=some ⟨bl,off,none⟩∧F bl)
   (h1:∀ i,i<n→w.cell? ⟨bl,off+i * 4,none⟩=some (.slice (PA i) (PN i) (PC i)))
   (h2:∀ i,i<n→w.cell? ⟨bl,off+i * 4+1,none⟩=some (.int .i64 (K i)))
   (h3:∀ i,i<n→w.cell? ⟨bl,off+i * 4+2,none⟩=some (.int .i64 (I i)))
   (h4:∀ i,i<n→w.cell? ⟨bl,off+i * 4+3,none⟩=some (.slice (A i) (N i) (C i)))
   (h5:∀ i (h:i<args.length),Xv F w (.slice (PA i) (PN i) (PC i)) (.int .i64 (K i)) (.int .i64 (I i)) (.slice (A i) (N i) (C i)) args[i]) :
   Xv F w bv (.int .i64 k) (.int .i64 i) (.slice a n c) (.mk binds k i args)
theorem Xv.keep {F:Nat→Prop}{w w':World}{b k i a:Value}{t:Tm}(h:Xv F w b k i a t)(hw:Keep F w w'):Xv F w' b k i a t:=by
 induction h with
 | mk bv k i a n c binds args bl off PA A PN PC N C K I hb hn hm ha h1 h2 h3 h4 h5 ih=>
  exact Xv.mk bv k i a n c binds args bl off PA A PN PC N C K I (hb.keep hw) hn hm ha (fun i hi=>hw _ _ _ (ha (by omega)).2 (h1 i hi)) (fun i hi=>hw _ _ _ (ha (by omega)).2 (h2 i hi)) (fun i hi=>hw _ _ _ (ha (by omega)).2 (h3 i hi)) (fun i hi=>hw _ _ _ (ha (by omega)).2 (h4 i hi)) ih
theorem Xv.weaken {F F':Nat→Prop}{w:World}{b k i a:Value}{t:Tm}(h:Xv F w b k i a t)(hF:∀ k,k<w.heap.size→F k→F' k):Xv F' w b k i a t:=by
 induction h with
 | mk bv k i a n c binds args bl off PA A PN PC N C K I hb hn hm ha h1 h2 h3 h4 h5 ih=>
  exact Xv.mk bv k i a n c binds args bl off PA A PN PC N C K I (hb.weaken (by decide) hF) hn hm (fun h=>⟨(ha h).1,hF _ (Keep.lt (h1 0 h)) (ha h).2⟩) h1 h2 h3 h4 ih
theorem Yd.shape {α:Type}{r:Rp α}{F:Nat→Prop}{w:World}{v:Value}{l:List α}(h:Yd r F w v l):∃ a c,v=.slice a l.length c:=by
 obtain⟨a,c,_,_,_,hv,_⟩:=h
 exact⟨a,c,hv⟩
theorem Xv.shape {F:Nat→Prop}{w:World}{b k i a:Value}{t:Tm}(h:Xv F w b k i a t):∃ pa pc qa qc,b=.slice pa t.binds.length pc∧k=.int .i64 t.kind∧i=.int .i64 t.index∧a=.slice qa t.args.length qc:=by
 cases h with
 | mk bv k i a n c binds args bl off PA A PN PC N C K I hb hn=>
  obtain⟨pa,pc,rfl⟩:=hb.shape
  subst hn
  exact⟨pa,pc,a,c,rfl,rfl,rfl,rfl⟩
theorem Xv.one {F:Nat→Prop}{w:World}{b k i a:Value}{t:Tm}(h:Xv F w b k i a t):b.oneCell'=true∧k.oneCell'=true∧i.oneCell'=true∧a.oneCell'=true:=by
 obtain⟨pa,pc,qa,qc,rfl,rfl,rfl,rfl⟩:=h.shape
 exact⟨rfl,rfl,rfl,rfl⟩
def VZ:Rp Tm where
 n:=4
 R F w x t:=∃ b k i a,x=[b,k,i,a]∧Xv F w b k i a t
 len:=by rintro F w x a ⟨b,k,i,a,rfl,_⟩;rfl
 one:=by
  rintro F w x a ⟨b,k,i,a,rfl,h⟩ u hu
  have:=h.one
  simp at hu
  rcases hu with rfl | rfl | rfl | rfl
  ·exact this.1
  ·exact this.2.1
  ·exact this.2.2.1
  ·exact this.2.2.2
 keep:=by rintro F w w' x a ⟨b,k,i,a,rfl,h⟩ hk;exact⟨b,k,i,a,rfl,h.keep hk⟩
 weaken:=by rintro F F' w x a ⟨b,k,i,a,rfl,h⟩ hk;exact⟨b,k,i,a,rfl,h.weaken hk⟩
theorem SJ {F:Nat→Prop}{w:World}{bv v:Value}{binds:List Ty}{l:List Tm}(hb:Yd YO F w bv binds)(h:Yd VZ F w v l)(k i:Int):Xv F w bv (.int .i64 k) (.int .i64 i) v (.mk binds k i l):=by
 obtain⟨a,c,bl,off,X,rfl,hl,ha,h1,h2⟩:=h
 let PA:Nat→Option Addr:=fun i=>match (X i).getD 0 default with | .slice a _ _=>a | _=>none
 let PN:Nat→Nat:=fun i=>match (X i).getD 0 default with | .slice _ n _=>n | _=>0
 let PC:Nat→Nat:=fun i=>match (X i).getD 0 default with | .slice _ _ c=>c | _=>0
 let K:Nat→Int:=fun i=>match (X i).getD 1 default with | .int _ b=>b | _=>0
 let I:Nat→Int:=fun i=>match (X i).getD 2 default with | .int _ b=>b | _=>0
 let A:Nat→Option Addr:=fun i=>match (X i).getD 3 default with | .slice a _ _=>a | _=>none
 let N:Nat→Nat:=fun i=>match (X i).getD 3 default with | .slice _ n _=>n | _=>0
 let C:Nat→Nat:=fun i=>match (X i).getD 3 default with | .slice _ _ c=>c | _=>0
 have hx:∀ i (h:i<l.length),X i=[.slice (PA i) (PN i) (PC i),.int .i64 (K i),.int .i64 (I i),.slice (A i) (N i) (C i)]∧Xv F w (.slice (PA i) (PN i) (PC i)) (.int .i64 (K i)) (.int .i64 (I i)) (.slice (A i) (N i) (C i)) l[i]:=fun i hi=>by
  obtain⟨b',k',i',a',hx,ht⟩:=h2 i hi
  obtain⟨pa,pc,qa,qc,rfl,rfl,rfl,rfl⟩:=ht.shape
  have e1:PA i=pa:=by simp[PA,hx]
  have e2:PN i=l[i].binds.length:=by simp[PN,hx]
  have e3:PC i=pc:=by simp[PC,hx]
  have e4:K i=l[i].kind:=by simp[K,hx]
  have e5:I i=l[i].index:=by simp[I,hx]
  have e6:A i=qa:=by simp[A,hx]
  have e7:N i=l[i].args.length:=by simp[N,hx]
  have e8:C i=qc:=by simp[C,hx]
  rw[e1,e2,e3,e4,e5,e6,e7,e8];exact⟨hx,ht⟩
 refine Xv.mk bv k i a l.length c binds l bl off PA A PN PC N C K I hb rfl hl ha (fun i hi=>?_) (fun i hi=>?_) (fun i hi=>?_) (fun i hi=>?_) (fun i hi=>(hx i hi).2)
 ·exact h1 i 0 _ hi (by rw[(hx i hi).1];rfl)
 ·exact h1 i 1 _ hi (by rw[(hx i hi).1];rfl)
 ·exact h1 i 2 _ hi (by rw[(hx i hi).1];rfl)
 ·exact h1 i 3 _ hi (by rw[(hx i hi).1];rfl)
theorem Xv.inv {F:Nat→Prop}{w:World}{b k i a:Value}{t:Tm}(h:Xv F w b k i a t):k=.int .i64 t.kind∧i=.int .i64 t.index∧Yd YO F w b t.binds∧Yd VZ F w a t.args:=by
 cases h with
 | mk bv k i a n c binds args bl off PA A PN PC N C K I hb hn hm ha h1 h2 h3 h4 h5=>
  subst hn
  refine⟨rfl,rfl,hb,a,c,bl,off,fun i=>[.slice (PA i) (PN i) (PC i),.int .i64 (K i),.int .i64 (I i),.slice (A i) (N i) (C i)],rfl,hm,ha,fun i j u hi hu=>?_,fun i hi=>⟨_,_,_,_,rfl,h5 i hi⟩⟩
  match j with
  | 0=>simp at hu;subst hu;exact h1 i hi
  | 1=>simp at hu;subst hu;exact h2 i hi
  | 2=>simp at hu;subst hu;exact h3 i hi
  | 3=>simp at hu;subst hu;exact h4 i hi
  | j+4=>simp at hu
end Go.Proofs.YtclihnccilkohaaGreat
namespace Go.Proofs.YtclihnccilkohaaGreat
section
variable {P:Program} {ops:Array Oper} {Q:Exit→Act→World→Prop} {md:Region.Mode} {S:World→Prop}
end
end Go.Proofs.YtclihnccilkohaaGreat
namespace Go.Proofs.YtclihnccilkohaaGreat
open Go.RowKit
def AA (n:Int)(w:World)(e:Ending)(w':World):Prop:=e=.returned (.int .i64 n)∧Below w.heap.size w w'
def Kg (p:Prop)(w:World)(e:Ending)(w':World):Prop:=∃ b:Bool,(b=true↔p)∧e=.returned (.bool b)∧Below w.heap.size w w'
theorem A6 {p:Prop}(h:false=true↔p):¬ p:=fun hp=>by simpa using h.2 hp
theorem CK {p:Prop}(h:true=true↔p):p:=h.1 rfl
namespace Ty
theorem depth_le_size (t:Ty):t.depth≤t.size:=by
 induction t using Ty.ind with
 | h args base ih=>
  simp only[size,depth]
  have:∀ l:List Ty,(∀ t∈l,t.depth≤t.size)→depths l≤sizes l:=by
   intro l
   induction l with
   | nil=>intro _;simp[depths]
   | cons t l ih2=>intro h;have:=ih2 (fun t ht=>h t (by simp[ht]));have:=h t (by simp);simp[sizes,depths];omega
  have:=this args ih;omega
theorem size_eq (l:List Ty)(b:Int):(mk l b).size=sizes l+1:=by simp[size]
theorem depth_eq (l:List Ty)(b:Int):(mk l b).depth=depths l+1:=by simp[depth]
inductive Low (bases:Int):Ty→Prop where
 | mk (l:List Ty) (b:Int) (h0:0≤b) (h1:b<bases) (h:∀ t∈l,Low bases t):Low bases (.mk l b)
theorem low_iff {bases:Int}{l:List Ty}{b:Int}:Low bases (.mk l b)↔0≤b∧b<bases∧∀ t∈l,Low bases t:=
 ⟨fun h=>by cases h with | mk _ _ h0 h1 h=>exact⟨h0,h1,h⟩,fun⟨h0,h1,h⟩=>.mk _ _ h0 h1 h⟩
end Ty
theorem Xc (l:List Ty)(b:Int):(Ty.mk l b).args=l:=rfl
theorem XS (l:List Ty)(b:Int):(Ty.mk l b).base=b:=rfl
theorem Ti {p:Prop}{w:World}{e:Ending}{w':World}(h:Kg p w e w'):∃ r:Bool,Hid (r=true↔p)∧e=.returned (.bool r)∧Below w.heap.size w w':=h
attribute [local go_sem ↓] Go.wp_at_zero Go.wp_at_succ
theorem Ev:(Tryz.prog.info? 106).map (fun i=>(i.zero,i.size,i.bytes))=some (some (.agg #[.slice none 0 0,.int .i64 0]),2,32):=by kernel_rfl
end Go.Proofs.YtclihnccilkohaaGreat
namespace Go.Proofs.YtclihnccilkohaaGreat
open Go.RowKit Go.Shelf
attribute [local go_sem] Oper.semAt_some
theorem Jr {F:Fence}(hd:F.depth=none)(k:Nat):F.room k:=fun d h=>by rw[hd] at h;cases h
theorem Js {F:Fence}(hd:F.depth=none){m m':Nat}{P:Program}{l:Nat}{f:FuncId}{tmps:Array Value}{assign body:Code}{w:World}{R:Ending→World→Prop} 
  (h:RoundIn F m P l f tmps assign body w R):RoundIn F m' P l f tmps assign body w R:=⟨h.1,fun c cs _=>h.2 c cs (Jr hd _)⟩
theorem TC {F:Fence}(hd:F.depth=none){m:Nat}(m':Nat){P:Program}{l:Nat}{args:Array Value}{W:World}{R:Ending→World→Prop}(h:YieldAt F m P l args W R):YieldAt F m' P l args W R:=by
 obtain⟨fn,tmps,assign,body,hy,hR⟩:=h
 exact⟨fn,tmps,assign,body,hy,Js hd hR⟩
structure KeepC (G:Nat→TypeId→Prop) (A B:World):Prop where
 size:A.heap.size≤B.heap.size
 cells:∀ k cs t fr,G k t→A.heap[k]?=some (.cells cs t fr)→B.heap[k]?=some (.cells cs t fr)
namespace KeepC
variable {G:Nat→TypeId→Prop} {A B C:World}
theorem refl (G:Nat→TypeId→Prop)(A:World):KeepC G A A:=⟨Nat.le_refl _,fun _ _ _ _ _ h=>h⟩
theorem trans (h:KeepC G A B)(h':KeepC G B C):KeepC G A C:=⟨Nat.le_trans h.size h'.size,fun k cs t fr hk hc=>h'.cells k cs t fr hk (h.cells k cs t fr hk hc)⟩
theorem below (h:KeepC G A B)(hb:Below B.heap.size B C):KeepC G A C:=h.trans ⟨hb.size,fun k _ _ _ _ hc=>(hb.block k (Array.getElem?_eq_some_iff.1 hc).1).trans hc⟩
theorem alloc (h:KeepC G A B)(o:Obj):KeepC G A (B.alloc o):=h.below ((Below.refl _ _).alloc (Nat.le_refl _) _)
theorem setCell (h:KeepC G A B)(p:Addr)(u:Value)(hp:∀ t,¬ G p.block t):KeepC G A (B.setCell p u):=
 h.trans ⟨by simp,fun k cs t fr hk hc=>(Below.heap_setCell _ _ _ _ (fun e=>hp _ (e ▸ hk))).trans hc⟩
theorem putObj (G:Nat→TypeId→Prop)(W:World)(l:Nat)(o o':Obj)(hl:W.heap[l]?=some o)(ho:o.isCells=false):KeepC G W (W.putObj l o'):=
 ⟨by simp,fun k cs t fr _ hc=>by
  have hne:k≠l:=fun e=>by subst e;rw[hl] at hc;cases hc;simp[Obj.isCells] at ho
  exact(World.putObj_heap_other hne).trans hc⟩
theorem keep {F:Nat→Prop}(h:KeepC G A B)(hF:∀ k t,F k→k<A.heap.size→G k t):Keep F A B:=fun k o v hk hv=>by
 have hlt:=Keep.lt hv
 simp only[World.cell?] at hv ⊢
 cases hc:A.heap[k]? with
 | none=>rw[hc] at hv;simp at hv
 | some x=>
  cases x with
  | cells cs t fr=>rw[h.cells k cs t fr (hF k t hk hlt) hc];rw[hc] at hv;exact hv
  | _=>rw[hc] at hv;simp at hv
theorem keep' {F:Nat→Prop}{w0:World}(h:KeepC G A B)(hw:Keep F w0 A)(hF:∀ k t,F k→k<w0.heap.size→G k t):Keep F w0 B:=fun k o v hk hv=>
 (h.keep (F:=fun q=>F q∧q<w0.heap.size) fun q t hq _=>hF q t hq.1 hq.2) k o v ⟨hk,Keep.lt hv⟩ (hw k o v hk hv)
theorem blk (h:KeepC G A B){n:Nat}{cs:Array Value}{t:TypeId}(hb:Blk A n cs t)(hn:G n t):Blk B n cs t:=h.cells n cs t (0,0) hn hb
end KeepC
namespace Ty
mutual
def pre:Ty→Nat→List (Nat×Ty)
 | .mk l b,d=>(d,.mk l b) :: pres l (d+1)
def pres:List Ty→Nat→List (Nat×Ty)
 | [],_=>[]
 | t :: l,d=>pre t d++pres l d
end
theorem pres_append (l r:List Ty)(d:Nat):pres (l++r) d=pres l d++pres r d:=by
 induction l with
 | nil=>simp[pres]
 | cons t l ih=>simp[pres,ih]
theorem pres_take (l:List Ty)(i d:Nat)(h:i<l.length):pres (l.take (i+1)) d=pres (l.take i) d++pre l[i] d:=by
 rw[List.take_succ_eq_append_getElem h,pres_append];simp[pres]
theorem pres_take_le (l:List Ty)(i d:Nat):pres (l.take i) d <+: pres l d:=by
 conv=>rhs;rw[←List.take_append_drop i l]
 rw[pres_append];exact List.prefix_append _ _
theorem pre_length (t:Ty):∀ d,(pre t d).length=t.size:=by
 induction t using Ty.ind with
 | h args base ih=>
  intro d
  have:∀ l:List Ty,(∀ t∈l,∀ d,(pre t d).length=t.size)→∀ d,(pres l d).length=sizes l:=by
   intro l
   induction l with
   | nil=>intro _ d;simp[pres,sizes]
   | cons t l ih2=>intro h d;simp[pres,sizes,h t (by simp) d,ih2 (fun t ht=>h t (by simp[ht])) d]
  simp[pre,size,this args ih (d+1)]
theorem pres_length (l:List Ty)(d:Nat):(pres l d).length=sizes l:=by
 induction l with
 | nil=>simp[pres,sizes]
 | cons t l ih=>simp[pres,sizes,pre_length,ih]
end Ty
structure V9 (F:Nat→Prop) (w:World) where
 d:Nat
 a:Option Addr
 n:Nat
 c:Nat
 b:Int
 t:Ty
 ok:Xi F w (.slice a n c) (.int .i64 b) t
 sz:t.size≤1000000
def V9.key {F:Nat→Prop}{w:World}(x:V9 F w):Nat×Ty:=(x.d,x.t)
def V9.enc {F:Nat→Prop}{w:World}(x:V9 F w):Array Value:=#[.int .i64 x.d,.agg #[.slice x.a x.n x.c,.int .i64 x.b]]
def D1 {F:Nat→Prop}{w0:World}(G:Nat→TypeId→Prop)(J Jx:List (V9 F w0)→World→Prop)(pre:List (V9 F w0))(l:List (Nat×Ty))(W:World)(e:Ending)(W':World):Prop:=
 (e=.returned (.bool true)∧KeepC G W W'∧∃ xs,xs.map V9.key=l∧J (pre++xs) W')∨(e=.returned (.bool false)∧∃ xs,xs.map V9.key <+: l∧Jx (pre++xs) W')
set_option maxRecDepth 100000 in
set_option maxHeartbeats 1000000 in
theorem BD {F:Nat→Prop}{w0:World}(G:Nat→TypeId→Prop)(hGF:∀ k t,F k→k<w0.heap.size→G k t)(l N:Nat)(hN0:N≤1000000)(J Jx:List (V9 F w0)→World→Prop)(hJ:∀ p W o,J p W→J p (W.alloc o)) 
  (hY:∀ m pre x W,J pre W→pre.length<N→YieldAt Fence.wide m Tryz.prog l (V9.enc x) W fun e W'=>
   (e=.returned (.bool true)∧J (pre++[x]) W'∧KeepC G W W')∨(e=.returned (.bool false)∧Jx (pre++[x]) W'))
  {s b:Value} {t:Ty} (ht:Xi F w0 s b t):∀ (n d:Nat) (di:Int) (pre:List (V9 F w0)) (W:World),di=d→(∀ k t,W.heap.size≤k→t≠3→G k t)→Keep F w0 W→J pre W→pre.length+t.size≤N→d+t.depth≤1000000 →
   CallsIn Fence.wide n Tryz.prog 144 #[.agg #[s,b],.int .i64 di,.func (.yield l) #[] #[]] W (D1 G J Jx pre (t.pre d) W):=by
 induction ht with
 | mk a n c b args bl off A N' C B hn hm ha h1 h2 h3 ih=>
 intro nn d di pre W hdi hG hw hJ0 hN hd
 subst hdi
 have ht:Xi F w0 (.slice a n c) (.int .i64 b) (.mk args b):=Xi.mk a n c b args bl off A N' C B hn hm ha h1 h2 h3
 clear h3 hm
 subst hn
 have Hsz0:Hid ((Ty.mk args b).size≤1000000):=by show _≤_;omega
 have hdd:∀ k:Nat,(Fence.wide.depth.isSome=true→1≤k):=fun k h=>by cases h
 have hlen:args.length≤1000000:=by have:=Ty.length_lt (l:=args) (b:=b);omega
 obtain⟨fn,tmps,assign,body,hy,hR⟩:=hY (nn-1) pre ⟨d,_,_,_,_,_,ht,Hsz0.out⟩ (W.alloc (.cells #[.slice a args.length c,.int .i64 b] 106)) (hJ _ _ _ hJ0) (by have:=Ty.size_pos (.mk args b);omega)
 dsimp only[V9.enc] at hy
 refine callsIn_of_wp Tryz.func144 rfl trivial ?_ rfl
 simp only[Tryz.ntmps144,List.size_toArray,List.length_cons,List.length_nil,Nat.reduceAdd,Nat.reduceSub,Array.replicate_succ,Array.replicate_zero,List.push_toArray,List.append_toArray,List.nil_append,List.cons_append]
 gi_wp2_with fail
 refine⟨hdd _,hR.mono ?_⟩
 rintro e W1 (⟨rfl,hJ1,hk1⟩ | ⟨rfl,hx1⟩)
 rotate_left
 ·gi_wp2_with fail
  go_ret
  exact .inr ⟨rfl,[⟨d,_,_,_,_,_,ht,Hsz0.out⟩],⟨Ty.pres args (d+1),by simp[V9.key,Ty.pre]⟩,hx1⟩
 have hk0:KeepC G W W1:=((KeepC.refl G W).alloc _).trans hk1
 have hbox:Blk W1 W.heap.size #[.slice a args.length c,.int .i64 b] 106:=hk1.blk (Blk.new _ _ _ rfl) (hG _ _ (Nat.le_refl _) (by decide))
 have c0:W1.cell? ⟨W.heap.size,0,none⟩=some (.slice a args.length c):=hbox.cell rfl
 have Hih:=Lib.hid ih;clear ih
 have hG':=Lib.hid hG;clear hG
 have hN':=Lib.hid hN;clear hN
 have hd':=Lib.hid hd;clear hd
 have Ht:=Lib.hid ht
 have hJ1':=Lib.hid hJ1
 clear hR hy hY
 gi_wp2_with fail
 gi_loopw [8,17] (fun _ i wr=>∃ (k:Nat) (xs:List (V9 F w0)),i=.int .i64 k∧k≤args.length∧Hid (xs.map V9.key=Ty.pres (args.take k) (d+1))∧J (pre++[⟨d,_,_,_,_,_,Ht.out,Hsz0.out⟩]++xs) wr∧KeepC G W wr) (fun _ i _=>args.length-(intOf i).toNat)
 case atStart=>exact⟨0,[],rfl,by omega,by simp[Hid,Ty.pres],by simpa using hJ1,hk0⟩
 case round=>
  obtain⟨k,xs,rfl,hk,hxs,hJr,hkr⟩:=hrel
  have Hkr:=Lib.hid hkr
  have HJr:=Lib.hid hJr;clear hJr
  have hsz:=hkr.size
  by_cases hlt:k<args.length
  ·obtain⟨rfl,hF⟩:=ha (by omega)
   have hKp:Keep F w0 wr:=hkr.keep' hw hGF
   have e1:wr.cell? ⟨bl,off+k * 2,none⟩=some (.slice (A k) (N' k) (C k)):=hKp _ _ _ hF (h1 k hlt)
   have e2:wr.cell? ⟨bl,off+k * 2+1,none⟩=some (.int .i64 (B k)):=hKp _ _ _ hF (h2 k hlt)
   have hdb:(d:Int)≤1000000:=by have:=hd'.out;omega
   have hs1:=Lib.hid (Ty.sizes_take args k hlt)
   have hs2:=Lib.hid (Ty.sizes_take_le args (k+1))
   have hl:Hid (xs.length=Ty.sizes (args.take k)):=by
    show _=_
    have:=congrArg List.length hxs.out
    rw[List.length_map] at this
    rw[this,Ty.pres_length]
   gi_wp2_with fail
   refine⟨trivial,hdd _,(Hih.out k hlt (nn-1) (d+1) ((d:Int)+1) _ _ (by omega) (fun q t hq ht=>hG'.out q t (by simp at hq;omega) ht) (hKp.alloc _) (hJ _ _ _ HJr.out) ?_ ?_).mono ?_⟩
   ·have:=hN'.out;have:=hl.out;have:=hs1.out;have:=hs2.out;simp[Ty.size_eq] at *;omega
   ·have:=hd'.out;have:=Ty.depth_get (b:=b) k hlt;omega
   rintro e W2 (⟨rfl,hk2,ys,hys,hJ2⟩ | ⟨rfl,ys,hys,hx2⟩)
   ·have HJ2:=Lib.hid hJ2;clear hJ2
    have Hys:=Lib.hid hys;clear hys
    gi_wp2_with fail
    go_roundw
    case rel=>exact⟨k+1,xs++ys,by go_num,by omega,by show _=_;rw[List.map_append,hxs.out,Hys.out,Ty.pres_take _ _ _ hlt],by rw[←List.append_assoc];exact HJ2.out,(Hkr.out.alloc _).trans hk2⟩
    case measure=>simp[intOf];omega
   ·have Hys:=Lib.hid hys;clear hys
    have Hx2:=Lib.hid hx2;clear hx2
    gi_wp2_with fail
    go_ret
    refine .inr ⟨rfl,⟨d,_,_,_,_,_,Ht.out,Hsz0.out⟩ :: (xs++ys),?_,by simpa using Hx2.out⟩
    obtain⟨r,hr⟩:=Hys.out
    have hp:=Ty.pres_take args k (d+1) hlt
    rw[←hr] at hp
    obtain⟨q,hq⟩:=Ty.pres_take_le args (k+1) (d+1)
    refine⟨r++q,?_⟩
    simp only[Ty.pre,List.map_cons,List.map_append,V9.key,List.cons_append]
    rw[←hq,hp,←hxs.out]
    simp[V9.key,Function.comp_def]
  ·gi_wp2_with fail
   go_ret
   refine .inl ⟨rfl,Hkr.out,⟨d,_,_,_,_,_,Ht.out,Hsz0.out⟩ :: xs,?_,by simpa using HJr.out⟩
   have h:=hxs.out
   rw[List.take_of_length_le (by omega)] at h
   simp[Ty.pre,V9.key,←h]
theorem Cl {F:Nat→Prop}{w0:World}(G:Nat→TypeId→Prop)(hGF:∀ k t,F k→k<w0.heap.size→G k t)(l:Nat)(J Jx:List (V9 F w0)→World→Prop)(hJ:∀ p W o,J p W→J p (W.alloc o)) 
  {s b:Value} {t:Ty} (ht:Xi F w0 s b t) (hsz:t.size≤500000) (n:Nat)
  (hY:∀ pre x W,J pre W→pre.length<t.size→YieldAt Fence.wide (n-1) Tryz.prog l (V9.enc x) W fun e W'=>
   (e=.returned (.bool true)∧J (pre++[x]) W'∧KeepC G W W')∨(e=.returned (.bool false)∧Jx (pre++[x]) W'))
  (W:World) (hG:∀ k t,W.heap.size≤k→t≠3→G k t) (hw:Keep F w0 W) (Bt:Nat) (c0:W.cell? ⟨Bt,0,none⟩=some s) (c1:W.cell? ⟨Bt,1,none⟩=some b) (h0:J [] W) :
  CallsIn Fence.wide n Tryz.prog 143 #[.func (.yield l) #[] #[],.pointer (some ⟨Bt,0,none⟩)] W fun e W'=>(∃ v,e=.returned v) ∧
   ((∃ ys,List.map V9.key ys=t.pre 1∧J ys W')∨(∃ pre,List.map V9.key pre <+: t.pre 1∧Jx pre W')):=by
 have hdd:∀ k:Nat,(Fence.wide.depth.isSome=true→1≤k):=fun k h=>by cases h
 have hp:=Lib.hid (BD G hGF l t.size (by omega) J Jx hJ (fun m pre x W hj hl=>TC rfl m (hY pre x W hj hl)) ht (n-1) 1 1 [] W rfl hG hw h0 (by simp) (by have:=Ty.depth_le_size t;omega))
 have hG':=Lib.hid hG;clear hG hY
 obtain⟨a,c,rfl,rfl⟩:=ht.shape
 refine callsIn_of_wp Tryz.func143 rfl trivial ?_ rfl
 simp only[Tryz.ntmps143,List.size_toArray,List.length_cons,List.length_nil,Nat.reduceAdd,Nat.reduceSub,Array.replicate_succ,Array.replicate_zero,List.push_toArray,List.append_toArray,List.nil_append,List.cons_append]
 gi_wp2_with fail
 refine⟨trivial,hdd _,hp.out.mono ?_⟩
 rintro e W1 (⟨rfl,hk,ys,hys,hJ1⟩ | ⟨rfl,ys,hys,hx⟩)
 ·have A1:=Lib.hid hys;clear hys
  gi_wp2_with fail
  go_end0
  exact⟨⟨_,rfl⟩,.inl ⟨ys,A1.out,by simpa using hJ1⟩⟩
 ·have A1:=Lib.hid hys;clear hys
  gi_wp2_with fail
  go_end0
  exact⟨⟨_,rfl⟩,.inr ⟨ys,A1.out,by simpa using hx⟩⟩
theorem PD {F:Nat→Prop}{w0:World}(G:Nat→TypeId→Prop)(hGF:∀ k t,F k→k<w0.heap.size→G k t){s b:Value}{t:Ty}(ht:Xi F w0 s b t)(hsz:t.size≤500000)(n:Nat) 
  (w:World) (hG:∀ k t,w.heap.size≤k→t≠3→G k t) (hw:Keep F w0 w) (Bt:Nat) (hB:Blk w Bt #[s,b] 106) :
  SeqStopsK Fence.wide n Tryz.prog 143 #[.pointer (some ⟨Bt,0,none⟩)] (V9.enc (F:=F) (w:=w0)) (KeepC G) (fun ys=>ys.map V9.key=t.pre 1) (fun p=>p.map V9.key <+: t.pre 1) t.size w:=
 fun l J Jx W hW hJ _ hY h0=>by
  have hB':=hB.below hW
  exact Cl G hGF l J Jx (fun p W' o hj=>hJ p W' _ none hj (World.grownBy_alloc W' o none) (fun r e=>by cases e)) ht hsz n hY W (fun k t hk ht=>hG k t (Nat.le_trans hW.size hk) ht) (hw.below hW) Bt (hB'.cell rfl) (hB'.cell rfl) h0
theorem BL (s b:Value)(n:Nat)(w:World)(hs:∃ a m c,s=.slice a m c)(hb:∃ i,b=.int .i64 i):
  CallsIn Fence.wide n Tryz.prog 130 #[.agg #[s,b]] w fun e w'=>e=.returned (.func (.func 143) #[] #[.pointer (some ⟨w.heap.size,0,none⟩)])∧w'=w.alloc (.cells #[s,b] 106):=by
 obtain⟨a,m,c,rfl⟩:=hs
 obtain⟨i,rfl⟩:=hb
 refine callsIn_of_wp Tryz.func130 rfl trivial ?_ rfl
 simp only[Tryz.ntmps130,List.size_toArray,List.length_cons,List.length_nil,Nat.reduceAdd,Nat.reduceSub,Array.replicate_succ,Array.replicate_zero,List.push_toArray,List.append_toArray,List.nil_append,List.cons_append]
 gi_wp2_with fail
 go_ret
 exact⟨rfl,rfl⟩
end Go.Proofs.YtclihnccilkohaaGreat
namespace Go.Proofs.YtclihnccilkohaaGreat
open Go.RowKit Go.Shelf
attribute [local go_sem] Oper.semAt_some
def But (a b:Nat)(k:Nat)(_:TypeId):Prop:=k<a∨b≤k
theorem Vi {W W':World}{row:Option Nat}{n:Nat}{cs:Array Value}{t:TypeId}(h:Blk W n cs t)(hg:W.grownBy W' row)(hrow:∀ r,row=some r→∃ o:Obj,W.heap[r]?=some o∧o.isCells=false):Blk W' n cs t:=
 h.grown hg fun e=>by
  obtain⟨o,ho,hc⟩:=hrow _ e
  have h':W.heap[n]?=_:=h
  rw[h'] at ho;cases ho;simp[Obj.isCells] at hc
def Vp:List (Nat×Ty)→Nat:=List.foldl (fun n x=>max n x.1) 0
theorem JX (l:List (Nat×Ty))(n:Nat):l.foldl (fun n x=>max n x.1) n=max n (Vp l):=by
 induction l generalizing n with
 | nil=>simp[Vp]
 | cons x l ih=>simp only[Vp,List.foldl_cons];rw[ih,ih];omega
theorem UP (l r:List (Nat×Ty)):Vp (l++r)=max (Vp l) (Vp r):=by
 simp only[Vp,List.foldl_append];rw[JX];rfl
theorem U4 (x:Nat×Ty)(l:List (Nat×Ty)):Vp (x :: l)=max x.1 (Vp l):=by
 have:=UP [x] l;simpa[Vp] using this
theorem FX (t:Ty):∀ d,Vp (t.pre d)+1=d+t.depth:=by
 induction t using Ty.ind with
 | h args base ih=>
  intro d
  have:∀ l:List Ty,(∀ t∈l,∀ d,Vp (t.pre d)+1=d+t.depth)→∀ d,max (Vp (Ty.pres l (d+1))+1) (d+1)=d+1+Ty.depths l:=by
   intro l
   induction l with
   | nil=>intro _ d;simp[Ty.pres,Vp,Ty.depths]
   | cons t l ih2=>
    intro h d
    have h1:=h t (by simp) (d+1)
    have h2:=ih2 (fun t ht=>h t (by simp[ht])) d
    simp only[Ty.pres,UP,Ty.depths];omega
  have h1:=this args ih d
  simp only[Ty.pre,U4,Ty.depth];omega
theorem DB {l:List (Nat×Ty)}{m:Nat}(h:∀ p∈l,p.1≤m):Vp l≤m:=by
 induction l with
 | nil=>simp[Vp]
 | cons x l ih=>rw[U4];have:=h x (by simp);have:=ih (fun p hp=>h p (by simp[hp]));omega
theorem Cz {l:List (Nat×Ty)}{p:Nat×Ty}(h:p∈l):p.1≤Vp l:=by
 induction l with
 | nil=>cases h
 | cons x l ih=>
  rw[U4]
  rcases List.mem_cons.1 h with rfl | h
  ·omega
  ·have:=ih h;omega
theorem DC (t:Ty):∀ d p,p∈t.pre d→∀ {bases:Int},Ty.Low bases t→0≤p.2.base∧p.2.base<bases:=by
 induction t using Ty.ind with
 | h args base ih=>
  intro d p hp bases hl
  rw[Ty.low_iff] at hl
  simp only[Ty.pre] at hp
  rcases List.mem_cons.1 hp with rfl | hp
  ·exact⟨hl.1,hl.2.1⟩
  ·have:∀ l:List Ty,(∀ t∈l,t∈args)→p∈Ty.pres l (d+1)→0≤p.2.base∧p.2.base<bases:=by
    intro l
    induction l with
    | nil=>intro _ h;simp[Ty.pres] at h
    | cons t l ih2=>
     intro hs h
     simp only[Ty.pres] at h
     rcases List.mem_append.1 h with h | h
     ·exact ih t (hs t (by simp)) _ _ h (hl.2.2 t (hs t (by simp)))
     ·exact ih2 (fun t ht=>hs t (by simp[ht])) h
   exact this args (fun _ h=>h) hp
theorem PS (t:Ty){bases:Int}:∀ d,(∀ p∈t.pre d,0≤p.2.base∧p.2.base<bases)→Ty.Low bases t:=by
 induction t using Ty.ind with
 | h args base ih=>
  intro d h
  have h0:=h (d,.mk args base) (by simp[Ty.pre])
  refine .mk _ _ h0.1 h0.2 fun t ht=>ih t ht (d+1) fun p hp=>h p ?_
  have:∀ l:List Ty,t∈l→p∈Ty.pres l (d+1):=by
   intro l
   induction l with
   | nil=>intro h;cases h
   | cons u l ih2=>
    intro h
    simp only[Ty.pres]
    rcases List.mem_cons.1 h with rfl | h
    ·exact List.mem_append_left _ hp
    ·exact List.mem_append_right _ (ih2 h)
  simp only[Ty.pre]
  exact List.mem_cons_of_mem _ (this args ht)
end Go.Proofs.YtclihnccilkohaaGreat
namespace Go.Proofs.YtclihnccilkohaaGreat
open Go.RowKit Go.Shelf
attribute [local go_sem] Oper.semAt_some
def TL (bases:Int)(p:Nat×Ty):Prop:=p.1≤60∧0≤p.2.base∧p.2.base<bases
theorem Su (t:Ty)(bases:Int):(t.size≤1000∧∀ p∈t.pre 1,TL bases p)↔(t.size≤1000∧t.depth≤60∧Ty.Low bases t):=by
 have hd:=FX t 1
 constructor
 ·rintro⟨h1,h2⟩
  have:=DB (l:=t.pre 1) (m:=60) fun p hp=>(h2 p hp).1
  exact⟨h1,by omega,PS t 1 fun p hp=>(h2 p hp).2⟩
 ·rintro⟨h1,h2,h3⟩
  exact⟨h1,fun p hp=>⟨by have:=Cz hp;omega,DC t 1 p hp h3⟩⟩
set_option maxRecDepth 100000 in
set_option maxHeartbeats 4000000 in
theorem DO {F:Nat→Prop}{w:World}{s b:Value}{t:Ty}(ht:Xi F w s b t)(bases:Int)(hsz:t.size≤500000):
  Calls Tryz.prog 107 #[.agg #[s,b],.int .i64 bases] w (Kg (t.size≤1000∧t.depth≤60∧Ty.Low bases t) w):=by
 refine(callsIn_wide (n:=9)).1 ?_
 obtain⟨a,c,hs,hb⟩:=ht.shape
 have Ht:=Lib.hid (ht.weaken (F':=fun _=>True) fun _ _ _=>trivial)
 have hshape:(∃ a m c,s=.slice a m c)∧∃ i,b=.int .i64 i:=⟨⟨_,_,_,hs⟩,_,hb⟩
 subst hs hb
 clear ht
 obtain⟨l2,hl2⟩:∃ l2,t.args.length=l2:=⟨_,rfl⟩
 obtain⟨b2,hb2⟩:∃ b2,t.base=b2:=⟨_,rfl⟩
 rw[hl2,hb2] at Ht hshape ⊢
 clear hl2 hb2
 refine callsIn_of_wp_marks Tryz.func107 rfl trivial ?_ rfl
 simp only[Tryz.ntmps107,List.size_toArray,List.length_cons,List.length_nil,Nat.reduceAdd,Nat.reduceSub,Array.replicate_succ,Array.replicate_zero,List.push_toArray,List.append_toArray,List.nil_append,List.cons_append]
 gi_wp2_with fail
 refine⟨trivial,(BL _ _ _ _ hshape.1 hshape.2).mono ?_⟩
 rintro e w' ⟨rfl,rfl⟩
 gi_wp2_with fail
 obtain⟨w5,hw5⟩:∃ w5,((((w.alloc (.cells #[.slice a l2 c,.int .i64 b2] 106)).alloc (.cells #[.int .i64 bases] 3)).alloc (.cells #[.bool false] 4)).alloc (.cells #[.int .i64 0] 3)).alloc (.cells #[.slice a l2 c,.int .i64 b2] 106)=w5:=⟨_,rfl⟩
 have hB0:Below w.heap.size w w5:=by rw[←hw5];exact(((((Below.refl _ w).alloc (Nat.le_refl _) _).alloc (by simp) _).alloc (by simp;omega) _).alloc (by simp;omega) _).alloc (by simp;omega) _
 have hz:w5.heap.size=w.heap.size+5:=by rw[←hw5];simp
 have x1:Blk w5 (w.heap.size+1) #[.int .i64 bases] 3:=by rw[←hw5];exact(((Blk.new _ _ _ (by simp)).alloc _).alloc _).alloc _
 have x2:Blk w5 (w.heap.size+2) #[.bool false] 4:=by rw[←hw5];exact((Blk.new _ _ _ (by simp)).alloc _).alloc _
 have x3:Blk w5 (w.heap.size+3) #[.int .i64 0] 3:=by rw[←hw5];exact(Blk.new _ _ _ (by simp)).alloc _
 have x4:Blk w5 (w.heap.size+4) #[.slice a l2 c,.int .i64 b2] 106:=by rw[←hw5];exact Blk.new _ _ _ (by simp)
 rw[hw5]
 clear hw5
 have Hz:=Lib.hid hz;clear hz
 have hge:w.heap.size+5≤w5.heap.size:=by have:=Hz.out;omega
 refine wpIn_rangeFunc_ownH rfl (by omega) (gf:=143) (lb:=#[.pointer (some ⟨w.heap.size+1+1+1+1,0,none⟩)]) rfl trivial (enters_of Tryz.func143 (by kernel_rfl) rfl)
  (PD (But w.heap.size (w.heap.size+4)) (fun k _ _ hk=>.inl hk) Ht.out hsz (9-1) w5 (fun k _ hk _=>.inr (by omega)) ((Keep.refl _ _).below hB0) (w.heap.size+1+1+1+1) x4)
  (fun h h'=>h.trans h') (fun W l o o' _ hl ho _=>KeepC.putObj _ W l o o' hl ho) (Below.refl _ _) (fun _=>rfl)
  (fun pre W=>(((Blk W (w.heap.size+1) #[.int .i64 bases] 3∧Blk W (w.heap.size+2) #[.bool false] 4)∧Blk W (w.heap.size+3) #[.int .i64 (pre.length:Int)] 3)∧Hid (pre.length≤1000∧∀ x∈pre,TL bases x.key))∧Below w.heap.size w5 W)
  (fun c pre W=>((c=.ret∧Hid (1000<pre.length∨∃ x∈pre,¬ TL bases x.key))∧Blk W (w.heap.size+2) #[.bool false] 4)∧Below w.heap.size w5 W)
  (OwnFrom.and (Own.from (I:=fun(pre:List (V9 (fun _=>True) w)) W=>((Blk W (w.heap.size+1) #[.int .i64 bases] 3∧Blk W (w.heap.size+2) #[.bool false] 4)∧Blk W (w.heap.size+3) #[.int .i64 (pre.length:Int)] 3)∧Hid (pre.length≤1000∧∀ x∈pre,TL bases x.key)) (fun pre A B row hs hg hr=>⟨⟨⟨Vi hs.1.1.1 hg hr,Vi hs.1.1.2 hg hr⟩,Vi hs.1.2 hg hr⟩,hs.2⟩) _) (ownFrom_below hB0.size (by omega)))
  (fun c=>OwnFrom.and (Own.from (I:=fun(pre:List (V9 (fun _=>True) w)) W=>(c=.ret∧Hid (1000<pre.length∨∃ x∈pre,¬ TL bases x.key))∧Blk W (w.heap.size+2) #[.bool false] 4) (fun pre A B row hs hg hr=>⟨hs.1,Vi hs.2 hg hr⟩) _) (ownFrom_below hB0.size (by omega)))
  ⟨⟨⟨⟨x1,x2⟩,x3⟩,⟨by simp,by simp⟩⟩,Below.refl _ _⟩
  (fun x a' W=>∃ Bx,w5.heap.size≤Bx∧Blk W Bx #[.slice x.a x.n x.c,.int .i64 x.b] 106∧a'={ tmps:=#[.agg #[.slice a l2 c,.int .i64 b2],.int .i64 bases,.pointer (some ⟨w.heap.size,0,none⟩),.pointer (some ⟨w.heap.size+1,0,none⟩),.pointer (some ⟨w.heap.size+1+1,0,none⟩),.pointer (some ⟨w.heap.size+1+1+1,0,none⟩),.int .i64 x.d,.pointer (some ⟨Bx,0,none⟩),.agg #[.slice a l2 c,.int .i64 b2],.func (.func 143) #[] #[.pointer (some ⟨w.heap.size+1+1+1+1,0,none⟩)],.int .i64 x.d,.agg #[.slice x.a x.n x.c,.int .i64 x.b],undef,undef,undef,undef,undef,undef,undef,undef,undef,undef,undef,undef,undef,undef,undef,undef,undef,undef,undef],defers:=[] })
  (fun x a'=>by
   rintro u A B row ⟨Bx,h1,h2,h3⟩ hg hr
   exact⟨Bx,h1,Vi h2 hg (fun r e=>(hr r e).2),h3⟩) ?assign ?body ?done ?stop
 case assign=>
  rintro l pre x W K ⟨⟨⟨⟨y1,y2⟩,y3⟩,hp⟩,hB⟩ hK
  have HK:=Lib.hid hK;clear hK
  have Hp:=hp
  simp only[V9.enc] at *
  gi_wp2
  have ha:=Below.alloc (Below.refl W.heap.size W) (Nat.le_refl _) (.cells #[.slice x.a x.n x.c,.int .i64 x.b] 106)
  exact HK.out _ _ ((KeepsOthers.alloc _ _).from _) ((KeepC.refl _ W).alloc _) ⟨⟨⟨⟨y1.alloc _,y2.alloc _⟩,y3.alloc _⟩,hp⟩,hB.alloc (Nat.le_trans hB0.size hB.size) _⟩ ⟨W.heap.size,hB.size,Blk.new _ _ _ rfl,rfl⟩
 case body=>
  rintro l pre x a' W hl ⟨r,hr⟩ ⟨⟨⟨⟨y1,y2⟩,y3⟩,hp⟩,hB⟩ ⟨Bx,hBx,bX,rfl⟩ hlt
  have c1:W.cell? ⟨w.heap.size+1,0,none⟩=some (.int .i64 bases):=y1.cell rfl
  have c2:W.cell? ⟨w.heap.size+2,0,none⟩=some (.bool false):=y2.cell rfl
  have f2:=y2.free 0
  have c3:W.cell? ⟨w.heap.size+3,0,none⟩=some (.int .i64 (pre.length:Int)):=y3.cell rfl
  have f3:=y3.free 0
  have cx:W.cell? ⟨Bx,1,none⟩=some (.int .i64 x.b):=bX.cell rfl
  have hxb:Hid (x.b=x.t.base):=by have h:=x.ok.inv.1;exact(Value.int.inj h).2
  have hlt2:(pre.length:Int)≤1000000:=by omega
  have hBn:¬ (Bx=w.heap.size+3):=by omega
  have hNok:Hid ((¬ TL bases x.key)→(1000<(pre++[x]).length∨∃ y∈pre++[x],¬ TL bases y.key)):=fun h=>.inr ⟨x,by simp,h⟩
  have hbd:Hid (Below w.heap.size w5 ((W.setCell ⟨w.heap.size+3,0,none⟩ (.int .i64 ((pre.length:Int)+1))).setCell ⟨w.heap.size+2,0,none⟩ (.bool false))):=(hB.setCell (by simp) _).setCell (by simp) _
  by_cases h1:60<x.d
  ·have h1':(60:Int)<(x.d:Int):=by omega
   gi_wp2
   exact⟨((KeepsOthers.setCell W _ _).trans (KeepsOthers.setCell _ _ _)).from _,⟨⟨rfl,hNok.out (fun h=>by have:=h.1;simp[V9.key] at this;omega)⟩,(y2.far ⟨w.heap.size+3,0,none⟩ _ (by simp)).set 0 _⟩,hbd.out⟩
  by_cases h2:(1000:Int)<(pre.length:Int)+1
  ·gi_wp2
   exact⟨((KeepsOthers.setCell W _ _).trans (KeepsOthers.setCell _ _ _)).from _,⟨⟨rfl,.inl (by simp;omega)⟩,(y2.far ⟨w.heap.size+3,0,none⟩ _ (by simp)).set 0 _⟩,hbd.out⟩
  by_cases h3:x.b<0
  ·gi_wp2
   exact⟨((KeepsOthers.setCell W _ _).trans (KeepsOthers.setCell _ _ _)).from _,⟨⟨rfl,hNok.out (fun h=>by have:=h.2.1;rw[V9.key,←hxb.out] at this;omega)⟩,(y2.far ⟨w.heap.size+3,0,none⟩ _ (by simp)).set 0 _⟩,hbd.out⟩
  by_cases h4:bases≤x.b
  ·gi_wp2
   exact⟨((KeepsOthers.setCell W _ _).trans (KeepsOthers.setCell _ _ _)).from _,⟨⟨rfl,hNok.out (fun h=>by have:=h.2.2;rw[V9.key,←hxb.out] at this;omega)⟩,(y2.far ⟨w.heap.size+3,0,none⟩ _ (by simp)).set 0 _⟩,hbd.out⟩
  gi_wp2
  refine⟨(KeepsOthers.setCell W _ _).from _,(KeepC.refl _ W).setCell _ _ (by simp[But];omega),⟨⟨⟨y1.far _ _ (by simp),y2.far _ _ (by simp)⟩,?_⟩,⟨by simp;omega,fun y hy=>?_⟩⟩,hB.setCell (by simp;omega) _⟩
  ·simpa using y3.set 0 (.int .i64 ((pre.length:Int)+1))
  ·rcases List.mem_append.1 hy with hy | hy
   ·exact hp.out.2 y hy
   ·simp at hy;subst hy
    exact⟨by simp[V9.key];omega,by simp only[V9.key];rw[←hxb.out];omega,by simp only[V9.key];rw[←hxb.out];omega⟩
 case done=>
  rintro D ys W hD hys ⟨⟨⟨⟨y1,y2⟩,y3⟩,hp⟩,hB⟩ hK
  have c2:W.cell? ⟨w.heap.size+2,0,none⟩=some (.bool false):=y2.cell rfl
  have f2:=y2.free 0
  have Hys:=Lib.hid hys;clear hys
  gi_wp2
  have hK':=(KeepsOthers.setCell W ⟨w.heap.size+2,0,none⟩ (.bool true)).same D _ hK rfl
  refine⟨by simp,.inl ⟨_,_,rfl,run_takeDeferred hK',?_⟩⟩
  have hc5:=cell_kept ((y2.set 0 (.bool true)).cell (i:=0) (v:=.bool true) rfl) (grownBy_putObj' _ D (.deferred none)) (fun r e=>by cases e;exact⟨_,hK',rfl⟩)
  refine⟨.bool true,?_,⟨true,?_,rfl,?_⟩⟩
  ·simp[results,Tryz.f107,go_sem,hc5]
  ·rw[←Su]
   simp
   have hl:ys.length=t.size:=by rw[←Ty.pre_length t 1,←Hys.out,List.length_map]
   refine⟨by have:=hp.out.1;omega,fun p1 p2 hp'=>?_⟩
   rw[←Hys.out] at hp'
   obtain⟨y,hy,he⟩:=List.mem_map.1 hp'
   rw[←he];exact hp.out.2 y hy
  ·exact((hB0.trans hB).setCell (p:=⟨w.heap.size+2,0,none⟩) (by simp) _).trans (belowK_b (w:=w) (Nat.le_refl _) _ D _ _ (by omega) hK' rfl rfl)
 case stop=>
  rintro D c pre W hD hpre ⟨⟨⟨rfl,hbad⟩,y2⟩,hB⟩ hK
  gi_wp2
  refine⟨by simp,.inl ⟨_,_,rfl,run_takeDeferred hK,?_⟩⟩
  have hc5:=cell_kept (y2.cell (i:=0) (v:=.bool false) rfl) (grownBy_putObj' _ D (.deferred none)) (fun r e=>by cases e;exact⟨_,hK,rfl⟩)
  refine⟨.bool false,?_,⟨false,?_,rfl,?_⟩⟩
  ·simp[results,Tryz.f107,go_sem,hc5]
  ·rw[←Su]
   simp only[Bool.false_eq_true,false_iff,not_and]
   intro h1 h2
   rcases hbad.out with h | ⟨y,hy,h⟩
   ·have:=hpre.length_le
    rw[List.length_map,Ty.pre_length] at this;omega
   ·exact h (h2 y.key (hpre.subset (List.mem_map.2 ⟨y,hy,rfl⟩)))
  ·exact(hB0.trans hB).trans (belowK_b (w:=w) (Nat.le_refl _) W D _ _ (by omega) hK rfl rfl)
end Go.Proofs.YtclihnccilkohaaGreat
namespace Go.Proofs.YtclihnccilkohaaGreat
open Go.RowKit
attribute [local go_sem ↓] Go.wp_at_zero Go.wp_at_succ
end Go.Proofs.YtclihnccilkohaaGreat
namespace Go.Proofs.YtclihnccilkohaaGreat
open Go.RowKit
def As (F:Nat→Prop)(l:List Ty)(w:World)(e:Ending)(w':World):Prop:=
 ∃ a c,e=.returned (.slice a l.length c)∧IsSl2 YO (fun k=>w.heap.size≤k) F w' (.slice a l.length c) l∧Below w.heap.size w w'
def Dc (w:World)(e:Ending)(w':World):Prop:=∃ v,e=.returned v∧(∀ F,Acc YO 106 w.heap.size F w' v [])∧Below w.heap.size w w'
set_option maxRecDepth 100000 in
set_option maxHeartbeats 400000 in
theorem Et (n:Nat)(m:Int)(w:World)(hnm:m=n)(hn:n≤1000000):
  Calls Tryz.prog 129 #[.slice none 0 0,.int .i64 m] w (Dc w):=by
 subst hnm
 obtain⟨i0,hi0,hz0,hz1,hz2⟩:=info_parts Ev
 by_cases h0:n=0
 ·subst h0
  go_enter Tryz.func129,Tryz.ntmps129
  go_wp2_with fail
  go_ret
  exact⟨_,rfl,fun F=>Acc.nil _ _ _ _ _,Below.refl _ _⟩
 ·have hr:∀ ty,(Builtin.append_ #[41,3] ty #[.slice none 0 0,.int .i64 (n:Int)]).run Tryz.prog w=_:=fun ty=>
   Lib.run_append_grow_zeros w 41 3 ty 106 i0 (.agg #[.slice none 0 0,.int .i64 0]) .i64 .i64 Tryz.underlying41 Tryz.underlying3 hi0 hz0 none 0 0 [] (run_firstCells_none _ _ _ _ _) n (by omega) (by rw[hz1];decide) (by omega) (by omega) (by rw[hz2];omega) (by rw[hz2];exact growslice_fits (by omega) (by omega))
  have hr':∃ g,n≤g∧g≤maxLen∧∀ ty,(Builtin.append_ #[41,3] ty #[.slice none 0 0,.int .i64 (n:Int)]).run Tryz.prog w=.ok (.slice (some ⟨w.heap.size,0,none⟩) n g) (w.drew.alloc (.cells (Builtin.zeroCells (#[.slice none 0 0,.int .i64 0]) n++Builtin.zeroCells (#[.slice none 0 0,.int .i64 0]) (g-n)) 106)):=by
   refine⟨grownCap w n 0 106,grownCap_ge _ _ _ _,grownCap_le_maxLen _ _ _ _ (by unfold maxLen;omega),fun ty=>?_⟩
   have:=hr ty
   simpa[Value.cells] using this
  obtain⟨g,hg1,hg2,hg⟩:=hr'
  have hg2':=hg2
  clear hg2
  clear hr
  have hn0:0<(n:Int):=by omega
  have Hg:=Lib.hid hg;clear hg
  go_enter Tryz.func129,Tryz.ntmps129
  go_wp2_with (at_builtin;refine W7 rfl _ _ _ _ _ rfl (Hg.out _) ?_)
  go_ret
  refine⟨_,rfl,fun F=>⟨[],rfl,⟨rfl,.inr ⟨w.heap.size,g,_,rfl,Nat.le_refl _,heap_alloc_new w.drew _,Nat.zero_le _,hg2',?_,rfl⟩⟩,fun i h=>absurd h (by simp)⟩,(Below.refl _ _).drew.alloc (Nat.le_refl _) _⟩
  simp[size_zeroCells,YO];omega
set_option maxRecDepth 100000 in
set_option maxHeartbeats 1000000 in
theorem Qo {F:Nat→Prop}{w:World}{B:Nat}{a1 a2:Option Addr}{c1 c2:Nat}{l1 l2:List Ty}{tt:TypeId}(hB:Blk w B #[.slice a1 l1.length c1,.slice a2 l2.length c2] tt) 
  {G1 G2:Nat→Prop} (h1:IsSl2 YO G1 F w (.slice a1 l1.length c1) l1) (h2:IsSl2 YO G2 F w (.slice a2 l2.length c2) l2) (hl:l1.length+l2.length≤100000) :
  Calls Tryz.prog 105 #[.slice (some ⟨B,0,none⟩) 2 2] w (As F (l1++l2) w):=by
 obtain⟨i0,hi0,hz0,hz1,hz2⟩:=info_parts Ev
 have H1:=Lib.hid (h1.weaken (G':=fun q=>q<w.heap.size) (F':=fun q=>F q∧q<w.heap.size) (by decide) (fun k hk _=>hk) fun k hk hF=>⟨hF,hk⟩);clear h1
 have H2:=Lib.hid (h2.weaken (G':=fun q=>q<w.heap.size) (F':=fun q=>F q∧q<w.heap.size) (by decide) (fun k hk _=>hk) fun k hk hF=>⟨hF,hk⟩);clear h2
 have b0:w.cell? ⟨B,0,none⟩=some (.slice a1 l1.length c1):=hB.cell rfl
 have b1:w.cell? ⟨B,1,none⟩=some (.slice a2 l2.length c2):=hB.cell rfl
 go_enter Tryz.func105,Tryz.ntmps105
 go_wp2_with fail
 go_loop [3,5,11] (fun x y i=>∃ k:Nat,k≤2∧i=.int .i64 k∧x=.int .i64 ((if k=0 then 0 else if k=1 then l1.length else l1.length+l2.length:Nat):Int)) (fun _ _ i=>2-(intOf i).toNat)
 case atStart=>exact⟨0,by omega,rfl,rfl⟩
 case round=>
  obtain⟨k,hk,rfl,rfl⟩:=hrel
  obtain rfl | rfl | rfl:k=0∨k=1∨k=2:=by omega
  ·have hs:(0:Int)+(l1.length:Int)≤100000:=by omega
   go_wp2_with fail
   go_round
   case rel=>exact⟨1,by omega,rfl,by simp⟩
   case measure=>simp[intOf]
  ·have hs:(l1.length:Int)+(l2.length:Int)≤100000:=by omega
   go_wp2_with fail
   go_round
   case rel=>exact⟨2,by omega,rfl,by simp⟩
   case measure=>simp[intOf]
  ·go_wp2_with fail
   refine(Et (l1.length+l2.length) _ w (by omega) (by omega)).mono ?_
   rintro e w1 ⟨v,rfl,hacc,hb1⟩
   have Hacc:=Lib.hid hacc;clear hacc
   have hKp:Keep (fun _=>True) w w1:=(Keep.refl _ _).below hb1
   go_wp2_with fail
   go_loopw [6,8,27] (fun x _ i wr=>∃ (k:Nat) (v:Value),x=v∧k≤2∧i=.int .i64 k∧Below w.heap.size w wr∧Acc YO 106 w.heap.size (fun q=>F q∧q<w.heap.size) wr v (if k=0 then [] else if k=1 then l1 else l1++l2)) (fun _ _ i _=>2-(intOf i).toNat)
   case atStart=>exact⟨0,v,rfl,by omega,rfl,hb1,Hacc.out _⟩
   case round=>
    obtain⟨k,y,hy,hk,rfl,hb,hacc⟩:=hrel
    subst hy
    have d0:wr.cell? ⟨B,0,none⟩=some (.slice a1 l1.length c1):=(hb.cell (p:=⟨B,0,none⟩) hB.lt).trans b0
    have d1:wr.cell? ⟨B,1,none⟩=some (.slice a2 l2.length c2):=(hb.cell (p:=⟨B,1,none⟩) hB.lt).trans b1
    have hsz:=hb.size
    have hKr:Keep (fun q=>F q∧q<w.heap.size) w wr:=fun q o v hq hv=>(hb.cell (p:=⟨q,o,none⟩) hq.2).trans hv
    have hFa:∀ {v:Value} {l:List Ty},Acc YO 106 w.heap.size (fun q=>F q∧q<w.heap.size) wr v l→∀ q,(F q∧q<w.heap.size)→((F q∧q<w.heap.size)∧v.ownBlock≠some q):=
     fun h q hq=>⟨hq,fun e=>by have:=(h.base_le q e).1;omega⟩
    have G1:=Lib.hid ((H1.out.bel hb))
    have G2:=Lib.hid ((H2.out.bel hb))
    obtain rfl | rfl | rfl:k=0∨k=1∨k=2:=by omega
    ·have Ha:=Lib.hid hacc;clear hacc
     go_wp2_with (at_builtin;refine Vt YO (by decide) rfl _ _ _ rfl w.heap.size 106 i0 _ 32 Tryz.underlying41 hi0 hz0 hz1 hz2 rfl (by decide) (fun q=>F q∧q<w.heap.size) u6 [] rfl Ha.out _ l1 rfl (G1.out.weaken (by decide) (fun _ _ h=>h) fun q _ hq=>hFa Ha.out q hq) (by simp;omega) hsz ?_;intro v' w2 hacc2 hgrow hat)
     have Hacc2:=Lib.hid hacc2;clear hacc2
     go_roundw
     case rel=>exact⟨1,_,rfl,by omega,rfl,hb.grown hgrow hsz (fun q hq=>(Ha.out.base_le q hq).1),by simpa using Hacc2.out⟩
     case measure=>simp[intOf]
    ·have Ha:=Lib.hid hacc;clear hacc
     go_wp2_with (at_builtin;refine Vt YO (by decide) rfl _ _ _ rfl w.heap.size 106 i0 _ 32 Tryz.underlying41 hi0 hz0 hz1 hz2 rfl (by decide) (fun q=>F q∧q<w.heap.size) u6 l1 rfl (by simpa using Ha.out) _ l2 rfl (G2.out.weaken (by decide) (fun _ _ h=>h) fun q _ hq=>hFa Ha.out q hq) (by omega) hsz ?_;intro v' w2 hacc2 hgrow hat)
     have Hacc2:=Lib.hid hacc2;clear hacc2
     go_roundw
     case rel=>exact⟨2,_,rfl,by omega,rfl,hb.grown hgrow hsz (fun q hq=>(Ha.out.base_le q hq).1),by simpa using Hacc2.out⟩
     case measure=>simp[intOf]
    ·have Ha:=Lib.hid hacc;clear hacc
     go_wp2_with fail
     go_ret
     have h0:Acc YO 106 w.heap.size (fun q=>F q∧q<w.heap.size) wr u6 (l1++l2):=by simpa using Ha.out
     obtain⟨a,c,hv⟩:=h0.len_shape
     refine⟨a,c,?_,?_,hb⟩
     ·rw[←hv];rfl
     ·rw[←hv];exact h0.sl2.weaken (by decide) (fun _ _ h=>h) (fun _ _ h=>h.1)
end Go.Proofs.YtclihnccilkohaaGreat
namespace Go.Proofs
open Go.Shelf
def Tryz.lays189_ren:Go.Shelf.Ren:=⟨fun | 189=>146 | 125=>155 | 257=>154 | 128=>171 | 129=>172 | 294=>162 | 295=>163 | 296=>164 | 297=>165 | 298=>166 | 299=>167 | 216=>168 | 300=>169 | 301=>170 | 328=>181 | 329=>182 | 330=>183 | 331=>184 | 332=>185 | 215=>173 | 343=>194 | n=>n,fun | 28=>71 | 3=>3 | 46=>267 | 0=>0 | 51=>251 | 53=>287 | 4=>4 | 183=>279 | 182=>278 | 131=>158 | 5=>5 | 9=>9 | 218=>293 | 222=>297 | 228=>308 | 229=>53 | n=>n,fun | n=>n⟩
theorem Tryz.lays189:Go.Proofs.Lays.n189 Tryz.prog Tryz.lays189_ren:={
 mixed:=by kernel_rfl
 f125:=Tryz.func155.trans (congrArg some (by kernel_rfl))
 f128:=Tryz.func171.trans (congrArg some (by kernel_rfl))
 f129:=Tryz.func172.trans (congrArg some (by kernel_rfl))
 f189:=Tryz.func146.trans (congrArg some (by kernel_rfl))
 f215:=Tryz.func173.trans (congrArg some (by kernel_rfl))
 f216:=Tryz.func168.trans (congrArg some (by kernel_rfl))
 f257:=Tryz.func154.trans (congrArg some (by kernel_rfl))
 f294:=Tryz.func162.trans (congrArg some (by kernel_rfl))
 f295:=Tryz.func163.trans (congrArg some (by kernel_rfl))
 f296:=Tryz.func164.trans (congrArg some (by kernel_rfl))
 f297:=Tryz.func165.trans (congrArg some (by kernel_rfl))
 f298:=Tryz.func166.trans (congrArg some (by kernel_rfl))
 f299:=Tryz.func167.trans (congrArg some (by kernel_rfl))
 f300:=Tryz.func169.trans (congrArg some (by kernel_rfl))
 f301:=Tryz.func170.trans (congrArg some (by kernel_rfl))
 f328:=Tryz.func181.trans (congrArg some (by kernel_rfl))
 f329:=Tryz.func182.trans (congrArg some (by kernel_rfl))
 f330:=Tryz.func183.trans (congrArg some (by kernel_rfl))
 f331:=Tryz.func184.trans (congrArg some (by kernel_rfl))
 f332:=Tryz.func185.trans (congrArg some (by kernel_rfl))
 f343:=Tryz.func194.trans (congrArg some (by kernel_rfl))
 t0:=Tryz.underlying0
 a0:=Tryz.isAgg0
 z0:=Tryz.sizeOf0
 v0:=Tryz.zeroValue0
 t3:=Tryz.underlying3
 a3:=Tryz.isAgg3
 z3:=Tryz.sizeOf3
 v3:=Tryz.zeroValue3
 t4:=Tryz.underlying4
 a4:=Tryz.isAgg4
 z4:=Tryz.sizeOf4
 v4:=Tryz.zeroValue4
 t5:=Tryz.underlying5
 a5:=Tryz.isAgg5
 z5:=Tryz.sizeOf5
 v5:=Tryz.zeroValue5
 t9:=Tryz.underlying9
 a9:=Tryz.isAgg9
 z9:=Tryz.sizeOf9
 v9:=Tryz.zeroValue9
 t28:=Tryz.underlying71
 a28:=Tryz.isAgg71
 z28:=Tryz.sizeOf71
 v28:=Tryz.zeroValue71
 t46:=Tryz.underlying267
 a46:=Tryz.isAgg267
 z46:=Tryz.sizeOf267
 v46:=Tryz.zeroValue267
 t51:=Tryz.underlying251
 a51:=Tryz.isAgg251
 z51:=Tryz.sizeOf251
 v51:=Tryz.zeroValue251
 t53:=Tryz.underlying287
 a53:=Tryz.isAgg287
 z53:=Tryz.sizeOf287
 v53:=Tryz.zeroValue287
 t131:=Tryz.underlying158
 a131:=Tryz.isAgg158
 z131:=Tryz.sizeOf158
 v131:=Tryz.zeroValue158
 t182:=Tryz.underlying278
 a182:=Tryz.isAgg278
 z182:=Tryz.sizeOf278
 v182:=Tryz.zeroValue278
 t183:=Tryz.underlying279
 a183:=Tryz.isAgg279
 z183:=Tryz.sizeOf279
 v183:=Tryz.zeroValue279
 t218:=Tryz.underlying293
 a218:=Tryz.isAgg293
 z218:=Tryz.sizeOf293
 v218:=Tryz.zeroValue293
 t222:=Tryz.underlying297
 a222:=Tryz.isAgg297
 z222:=Tryz.sizeOf297
 v222:=Tryz.zeroValue297
 t228:=Tryz.underlying308
 a228:=Tryz.isAgg308
 z228:=Tryz.sizeOf308
 v228:=Tryz.zeroValue308
 t229:=Tryz.underlying53
 a229:=Tryz.isAgg53
 z229:=Tryz.sizeOf53
 v229:=Tryz.zeroValue53 }
open Go.Sort Go.RowKit in
theorem Tryz.slices_Sort_int (blk off cap:Nat)(zs:List Int)(w:World)(hH:Holds (Value.int .i64) w blk off zs.toArray)(hblk:blk<w.heap.size)(hsz:zs.length<4611686018427387904):
  Calls Tryz.prog 146 #[.slice (some ⟨blk,off,none⟩) zs.length cap] w fun e w'=>
   e=.returned (.tuple #[])∧∃ n os,w'=grow (putRow (Value.int .i64) (Sort.ahead w n) blk off (zs.mergeSort fun x y=>decide (x≤y)).toArray) os:=Any.slices_Sort_int Tryz.lays189 blk off cap zs w hH hblk hsz
def Tryz.laysNm220_ren:Go.Shelf.Ren:=⟨fun | 20=>147 | n=>n,fun | 22=>71 | 3=>3 | 4=>4 | 0=>0 | n=>n,fun | n=>n⟩
theorem Tryz.laysNm220:Go.Proofs.Lays2.n20 Tryz.prog Tryz.laysNm220_ren:={
 mixed:=by kernel_rfl
 f20:=Tryz.func147.trans (congrArg some (by kernel_rfl))
 t0:=Tryz.underlying0
 a0:=Tryz.isAgg0
 z0:=Tryz.sizeOf0
 v0:=Tryz.zeroValue0
 t3:=Tryz.underlying3
 a3:=Tryz.isAgg3
 z3:=Tryz.sizeOf3
 v3:=Tryz.zeroValue3
 t4:=Tryz.underlying4
 a4:=Tryz.isAgg4
 z4:=Tryz.sizeOf4
 v4:=Tryz.zeroValue4
 t22:=Tryz.underlying71
 a22:=Tryz.isAgg71
 z22:=Tryz.sizeOf71
 v22:=Tryz.zeroValue71
 i3:=by kernel_rfl }
open Go.RowKit Go.Lib Go.Sort in
theorem Tryz.slices_Compact_int (blk off cap:Nat)(zs:List Int)(w:World)(hH:Holds (Value.int .i64) w blk off zs.toArray)(hsz:zs.length≤9223372036854775807)(hcap:zs.length≤cap):
  Calls Tryz.prog 147 #[.slice (some ⟨blk,off,none⟩) zs.length cap] w fun e w'=>e=.returned (.slice (some ⟨blk,off,none⟩) (Lib.compact zs).length cap)∧∃ q,w'=putRow (Value.int .i64) (Sort.ahead w q) blk off (Lib.compact zs++List.replicate (zs.length-(Lib.compact zs).length) 0).toArray:=Any.slices_Compact_int Tryz.laysNm220 blk off cap zs w hH hsz hcap
open Go.RowKit Go.Lib Go.Sort in
theorem Tryz.slices_Compact_int_empty (a:Option Addr)(cap:Nat)(w:World):
  Calls Tryz.prog 147 #[.slice a 0 cap] w fun e w'=>e=.returned (.slice a 0 cap)∧w'=w:=Any.slices_Compact_int_empty Tryz.laysNm220 a cap w
open Go.RowKit Go.Sort in
theorem Tryz.slices_Sort_int_none (p:Option Addr)(cap:Nat)(w:World):
  Calls Tryz.prog 146 #[.slice p 0 cap] w fun e w'=>e=.returned (.tuple #[])∧w'=w:=Any.slices_Sort_int_none Tryz.lays189 p cap w
end Go.Proofs
namespace Go.Proofs.YtclihnccilkohaaGreat
open Go.RowKit
namespace Ty
mutual
def text (names:List ByteArray):Ty→List UInt8
 | .mk l b=>texts names l++(names.getD b.toNat default).data.toList
def texts (names:List ByteArray):List Ty→List UInt8
 | []=>[]
 | t :: l=>(if t.args=[] then text names t else 40 :: text names t++[41])++[32,45,62,32]++texts names l
end
def part (names:List ByteArray)(t:Ty):List UInt8:=if t.args=[] then text names t else 40 :: text names t++[41]
end Ty
theorem Ex {α:Type}(r:Rp α)(F:Nat→Prop)(w:World):Yd r F w (.slice none 0 0) []:=
 ⟨none,0,0,0,fun _=>[],rfl,⟨Nat.zero_le _,Nat.le_refl _⟩,fun h=>absurd h (by simp),fun _ _ _ h=>absurd h (by simp),fun _ h=>absurd h (by simp)⟩
theorem Xi.bel {F:Nat→Prop}{w w':World}{s b:Value}{t:Ty}(h:Xi F w s b t)(hb:Below w.heap.size w w'):Xi F w' s b t:=h.keep ((Keep.refl _ _).below hb)
theorem Ub {F:Nat→Prop}{w:World}{a:Option Addr}{n c:Nat}{l:List Tm}(h:Yd VZ F w (.slice a n c) l):n=l.length∧(l.length≤maxLen∧l.length≤c)∧∃ (bl off:Nat) (PA A:Nat→Option Addr) (PN PC N C:Nat→Nat) (K I:Nat→Int),
  (0<l.length→a=some ⟨bl,off,none⟩∧F bl)∧(∀ i,i<l.length→w.cell? ⟨bl,off+i * 4,none⟩=some (.slice (PA i) (PN i) (PC i)))∧(∀ i,i<l.length→w.cell? ⟨bl,off+i * 4+1,none⟩=some (.int .i64 (K i))) ∧
  (∀ i,i<l.length→w.cell? ⟨bl,off+i * 4+2,none⟩=some (.int .i64 (I i)))∧(∀ i,i<l.length→w.cell? ⟨bl,off+i * 4+3,none⟩=some (.slice (A i) (N i) (C i))) ∧
  ∀ i (h:i<l.length),Xv F w (.slice (PA i) (PN i) (PC i)) (.int .i64 (K i)) (.int .i64 (I i)) (.slice (A i) (N i) (C i)) l[i]:=by
 have ht:=SJ (Ex YO F w) h 0 0
 cases ht with
 | mk bv k i a n c binds args bl off PA A PN PC N C K I hb hn hm ha h1 h2 h3 h4 h5=>
 subst hn
 exact⟨rfl,hm,bl,off,PA,A,PN,PC,N,C,K,I,ha,h1,h2,h3,h4,h5⟩
namespace Ty
mutual
def eta:Ty→Int→Int→Tm
 | .mk l _,k,i=>.mk l k (if k=0 then i+(l.length:Nat) else i) (etas l)
def etas:List Ty→List Tm
 | []=>[]
 | t :: l=>eta t 0 (l.length:Nat) :: etas l
end
end Ty
namespace Tm
inductive Fit:Tm→Prop where
 | mk (b:List Ty) (k i:Int) (a:List Tm) (h0:-9223372036854775808≤i) (h1:i≤9223372036854775807) (h:∀ t∈a,Fit t):Fit (.mk b k i a)
theorem fit_iff {b:List Ty}{k i:Int}{a:List Tm}:Fit (.mk b k i a)↔-9223372036854775808≤i∧i≤9223372036854775807∧∀ t∈a,Fit t:=
 ⟨fun h=>by cases h with | mk _ _ _ _ h0 h1 h=>exact⟨h0,h1,h⟩,fun⟨h0,h1,h⟩=>.mk _ _ _ _ h0 h1 h⟩
def zero:Tm:=.mk [] 0 0 []
def headIx (t:Tm):Int:=if t.kind=0 then t.index-(t.binds.length:Nat) else t.index
end Tm
def Ty.Eta (t:Ty)(k i:Int):Tm:=if k=0∧(i<0∨1000<i) then Tm.zero else Ty.eta t k i
end Go.Proofs.YtclihnccilkohaaGreat
namespace Go.Proofs.YtclihnccilkohaaGreat
open Go.RowKit Go.ChangeShapes Go.WideShapes Go.ChangeAt
theorem SU {n:Int}(h:(Lit.int .i64 n).wf=true):-9223372036854775808≤n∧n≤9223372036854775807:=by
 have h2:IntKind.i64.min≤n∧n≤9223372036854775807:=by simpa[Lit.wf] using h
 have h3:IntKind.i64.min=-9223372036854775808:=by rfl
 omega
theorem Cq {α:Type}{cs:List α}(h:cs.length=4):∃ a b c d,cs=[a,b,c,d]:=by
 match cs,h with
 | [a,b,c,d],_=>exact⟨a,b,c,d,rfl⟩
theorem SZ:Tryz.prog.cellsOf 28=2:=by kernel_rfl
theorem V8:Tryz.prog.cellsOf 31=4:=by kernel_rfl
theorem Ot:Tryz.prog.cellsOf 29=1:=by kernel_rfl
theorem BS {H:Type}{enc:TypeId×Value→H}{W:World}{base:Nat}{sp:Nat→Bool}{hd:Bool}{n:Nat}{cs:List Value}{x:DataW H×List MemPlace}(h:DataW.trod enc Tryz.prog W base sp hd n 28 cs=some x):
  ∃ k i,cs=[.int .i64 k,.int .i64 i]∧(-9223372036854775808≤k∧k≤9223372036854775807)∧(-9223372036854775808≤i∧i≤9223372036854775807):=by
 obtain⟨xs,m,rfl,rfl,hl,hlen,hf⟩:=DataW.trod_struct Tryz.underlying28 h
 rw[SZ] at hl
 obtain⟨v0,v1,rfl⟩:=GM hl
 have h0:DataW.trod enc Tryz.prog W base sp hd m 3 ([v0,v1].take (Tryz.prog.cellsOf 3))=xs[0]?:=hf 0 _ rfl
 have h1:DataW.trod enc Tryz.prog W base sp hd m 3 ([v1].take (Tryz.prog.cellsOf 3))=xs[1]?:=hf 1 _ rfl
 rw[WV] at h0 h1
 have hlen:xs.length=2:=hlen
 rw[List.getElem?_eq_getElem (by omega)] at h0 h1
 obtain⟨k,hk,_,hwk⟩:=DataW.trod_int Tryz.underlying3 h0
 obtain⟨i,hi,_,hwi⟩:=DataW.trod_int Tryz.underlying3 h1
 have e0:[v0]=[.int .i64 k]:=hk
 have e1:[v1]=[.int .i64 i]:=hi
 simp only[List.cons.injEq,and_true] at e0 e1
 subst e0 e1
 exact⟨k,i,rfl,SU hwk,SU hwi⟩
theorem rdM {H:Type}(enc:TypeId×Value→H)(W:World)(base:Nat)(sp:Nat→Bool)(hd:Bool):∀ n,Rd enc W base sp hd 31 VZ (fun _ t=>t.Fit) n:=by
 intro n
 induction n using Nat.strongRecOn with
 | ind n ih=>
  intro cs x h
  obtain⟨xs,m,rfl,rfl,hl,hlen,hf⟩:=DataW.trod_struct Tryz.underlying31 h
  rw[V8] at hl
  obtain⟨v0,v1,v2,v3,rfl⟩:=Cq hl
  have h0:DataW.trod enc Tryz.prog W base sp hd m 22 ([v0,v1,v2,v3].take (Tryz.prog.cellsOf 22))=xs[0]?:=hf 0 _ rfl
  have h1:DataW.trod enc Tryz.prog W base sp hd m 28 ([v1,v2,v3].take (Tryz.prog.cellsOf 28))=xs[1]?:=hf 1 _ rfl
  have h2:DataW.trod enc Tryz.prog W base sp hd m 29 ([v3].take (Tryz.prog.cellsOf 29))=xs[2]?:=hf 2 _ rfl
  rw[UA] at h0
  rw[SZ] at h1
  rw[Ot] at h2
  have hlen:xs.length=3:=hlen
  rw[List.getElem?_eq_getElem (by omega)] at h0 h1 h2
  obtain⟨va,vn,vc,l,hv,_,hs,_⟩:=YB Tryz.underlying22 UX (by decide) (fun j hj=>rdR enc W base sp hd j) h0
  obtain⟨k,i,hki,_,hi⟩:=BS h1
  obtain⟨ta,tn,tc,tl,htv,_,hts,hfit⟩:=YB Tryz.underlying29 V8 (by decide) (fun j hj=>ih j (by omega)) h2
  have e0:[v0]=[.slice va vn vc]:=hv
  have e1:[v1,v2]=[.int .i64 k,.int .i64 i]:=hki
  have e3:[v3]=[.slice ta tn tc]:=htv
  simp only[List.cons.injEq,and_true] at e0 e1 e3
  obtain⟨e1,e2⟩:=e1
  subst e0 e1 e2 e3
  refine⟨.mk l k i tl,⟨_,_,_,_,rfl,SJ hs hts k i⟩,?_⟩
  refine Tm.fit_iff.2 ⟨hi.1,hi.2,fun t ht=>?_⟩
  obtain⟨j,hj,rfl⟩:=List.getElem_of_mem ht
  obtain⟨_,_,_,_,_,h⟩:=hfit j hj
  exact h
set_option maxRecDepth 100000 in
theorem Bk {H:Type}{enc:TypeId×Value→H}{W:World}{base:Nat}{sp:Nat→Bool}{hd:Bool}{r:Reach}{b0:Nat}{v:Value}{d:DataW H}{p:List MemPlace} 
  (hval:Value.okWide Tryz.prog W r b0 31 v) (h:DataW.Trod enc Tryz.prog W base sp hd 31 v d p):∃ b k i a t,v=.agg #[b,k,i,a]∧Xv (fun _=>True) W b k i a t∧t.Fit:=by
 obtain⟨n,h⟩:=h
 obtain⟨t,⟨b,k,i,a,hx,ht⟩,hf⟩:=rdM enc W base sp hd n _ _ h
 obtain⟨cs,rfl,_⟩:=okWide_struct Tryz.underlying31 hval
 refine⟨b,k,i,a,t,?_,ht,hf⟩
 have:cs.toList=[b,k,i,a]:=hx
 rw[←Array.toList_inj.1 (show cs.toList=(#[b,k,i,a]:Array Value).toList from this)]
theorem GK {α:Type}{cs:List α}(h:cs.length=3):∃ a b c,cs=[a,b,c]:=by
 match cs,h with
 | [a,b,c],_=>exact⟨a,b,c,rfl⟩
theorem Ou:Tryz.prog.cellsOf 24=3:=by kernel_rfl
set_option maxRecDepth 100000 in
theorem Jj {H:Type}{enc:TypeId×Value→H}{W:World}{base:Nat}{sp:Nat→Bool}{hd:Bool}{r:Reach}{b0:Nat}{v:Value}{d:DataW H}{p:List MemPlace} 
  (hval:Value.okWide Tryz.prog W r b0 24 v) (h:DataW.Trod enc Tryz.prog W base sp hd 24 v d p) :
  ∃ b cv mv C M,v=.agg #[.int .i64 b,cv,mv]∧Yd YO (fun _=>True) W cv C∧Yd YO (fun _=>True) W mv M:=by
 obtain⟨n,h⟩:=h
 obtain⟨xs,m,_,_,hl,hlen,hf⟩:=DataW.trod_struct Tryz.underlying24 h
 rw[Ou] at hl
 obtain⟨v0,v1,v2,hv⟩:=GK hl
 rw[hv] at hf
 have h0:DataW.trod enc Tryz.prog W base sp hd m 3 ([v0,v1,v2].take (Tryz.prog.cellsOf 3))=xs[0]?:=hf 0 _ rfl
 have h1:DataW.trod enc Tryz.prog W base sp hd m 22 ([v1,v2].take (Tryz.prog.cellsOf 22))=xs[1]?:=hf 1 _ rfl
 have h2:DataW.trod enc Tryz.prog W base sp hd m 22 ([v2].take (Tryz.prog.cellsOf 22))=xs[2]?:=hf 2 _ rfl
 rw[WV] at h0
 rw[UA] at h1 h2
 have hlen:xs.length=3:=hlen
 rw[List.getElem?_eq_getElem (by omega)] at h0 h1 h2
 obtain⟨b,hb,_,_⟩:=DataW.trod_int Tryz.underlying3 h0
 obtain⟨va,vn,vc,C,hcv,_,hC,_⟩:=YB Tryz.underlying22 UX (by decide) (fun j hj=>rdR enc W base sp hd j) h1
 obtain⟨ma,mn,mc,M,hmv,_,hM,_⟩:=YB Tryz.underlying22 UX (by decide) (fun j hj=>rdR enc W base sp hd j) h2
 have e0:[v0]=[.int .i64 b]:=hb
 have e1:[v1]=[.slice va vn vc]:=hcv
 have e2:[v2]=[.slice ma mn mc]:=hmv
 simp only[List.cons.injEq,and_true] at e0 e1 e2
 subst e0 e1 e2
 obtain⟨cs,rfl,_⟩:=okWide_struct Tryz.underlying24 hval
 refine⟨b,_,_,C,M,?_,hC,hM⟩
 have:cs.toList=[.int .i64 b,.slice va vn vc,.slice ma mn mc]:=hv
 rw[←Array.toList_inj.1 (show cs.toList=(#[.int .i64 b,.slice va vn vc,.slice ma mn mc]:Array Value).toList from this)]
end Go.Proofs.YtclihnccilkohaaGreat
namespace Go.Proofs.YtclihnccilkohaaGreat
open Go.RowKit
structure Off (F:Nat→Prop) (w w':World):Prop where
 os:w'.os=w.os
 tape:w'.tape=w.tape
 output:w'.output=w.output
 size:w.heap.size≤w'.heap.size
 block:∀ k,k<w.heap.size→¬ F k→w'.heap[k]?=w.heap[k]?
namespace Off
variable {F G:Nat→Prop} {w w' w'':World}
theorem refl (F:Nat→Prop)(w:World):Off F w w:=⟨rfl,rfl,rfl,Nat.le_refl _,fun _ _ _=>rfl⟩
theorem trans (h:Off F w w')(h':Off F w' w''):Off F w w'':=
 ⟨h'.os.trans h.os,h'.tape.trans h.tape,h'.output.trans h.output,Nat.le_trans h.size h'.size,fun k hk hF=>(h'.block k (Nat.lt_of_lt_of_le hk h.size) hF).trans (h.block k hk hF)⟩
theorem below (h:Off F w w')(hb:Below w'.heap.size w' w''):Off F w w'':=h.trans ⟨hb.os,hb.tape,hb.output,hb.size,fun k hk _=>hb.block k hk⟩
theorem drew (h:Off F w w'):Off F w w'.drew:=h.below (Below.refl _ _).drew
theorem alloc (h:Off F w w')(o:Obj):Off F w (w'.alloc o):=h.below ((Below.refl _ _).alloc (Nat.le_refl _) _)
theorem grown (h:Off F w w'){row:Option Nat}(hg:w'.grownBy w'' row)(hr:∀ k,row=some k→F k):Off F w w'':=
 h.trans ⟨hg.os,hg.tape,hg.output,hg.size,fun k hk hF=>hg.block k hk fun e=>hF (hr k e.symm)⟩
theorem set (h:Off F w w')(p:Addr)(u:Value)(hp:F p.block∨w.heap.size≤p.block):Off F w (w'.setCell p u):=by
 have hb:=(Below.refl 0 w').setCell (p:=p) (Nat.zero_le _) u
 refine⟨hb.os.trans h.os,hb.tape.trans h.tape,hb.output.trans h.output,Nat.le_trans h.size hb.size,fun k hk hF=>?_⟩
 exact(Below.heap_setCell _ _ _ _ (fun e=>by rcases hp with hp | hp;exact hF (e ▸ hp);omega)).trans (h.block k hk hF)
theorem blk (h:Off F w w'){n:Nat}{cs:Array Value}{t:TypeId}(hb:Blk w n cs t)(hF:¬ F n):Blk w' n cs t:=hb.same (h.block n hb.lt hF)
end Off
inductive D where
 | v (x:Value)
 | sl (n:Nat) (l:List (List D)) (g:Option Nat)
 | p (k off:Nat)
 | q (l:List D)
 | ag (l:List D)
 | tu (l:List D)
 | fn (f:FuncId) (caps:List D)
 | rw (E n len:Nat)
 | o (k:Nat)
 | mo (k:Nat)
 | mp (l:List (Int×D))
 | ob (J:Nat→World→Prop)
 | j (X:Nat→Prop) (J:World→Prop)
 | cl (n:Nat) (l:List (List D))
 | rp (E n:Nat) (l:List (List D))
 | ps (g len:Nat)
 | pr (g len n i j:Nat)
 | pt (g len n lo:Nat)
 | mq (bm:Nat) (es:Array MapEntry) (clock:Nat) (l:List (Int×D))
 | it (k bm:Nat) (es:Array MapEntry) (clock:Nat) (rem:List Nat) (last:Option Nat)
structure W6 where
 hv:Value
 len:Nat
 E:Nat
 n:Nat
structure Mp where
 blk:Nat→Option Nat
 row:Nat→Option W6
 obj:Nat→Option Nat
structure Mp.le (m m':Mp):Prop where
 blk:∀ k b,m.blk k=some b→m'.blk k=some b
 row:∀ g R,m.row g=some R→∃ R',m'.row g=some R'∧R.len≤R'.len∧(R'.len=R.len→R'.hv=R.hv)
 obj:∀ k b,m.obj k=some b→m'.obj k=some b
theorem Mp.le.refl (m:Mp):m.le m:=⟨fun _ _ h=>h,fun _ R h=>⟨R,h,Nat.le_refl _,fun _=>rfl⟩,fun _ _ h=>h⟩
theorem Mp.le.trans {a b c:Mp}(h:a.le b)(h':b.le c):a.le c:=
 ⟨fun k x hk=>h'.blk k x (h.blk k x hk),fun g R hg=>by
  obtain⟨R1,h1,h2,h3⟩:=h.row g R hg
  obtain⟨R2,g1,g2,g3⟩:=h'.row g R1 h1
  refine⟨R2,g1,by omega,fun e=>?_⟩
  have e1:R1.len=R.len:=by omega
  rw[g3 (by omega),h3 e1],fun k x hk=>h'.obj k x (h.obj k x hk)⟩
def Mp.cut (m:Mp)(f g:Nat→Bool):Mp:=⟨fun k=>if f k then m.blk k else none,fun r=>if g r then m.row r else none,fun k=>if f k then m.obj k else none⟩
theorem Mp.cut_le (m:Mp)(f g:Nat→Bool):(m.cut f g).le m:=
 ⟨fun k b h=>by
  by_cases hk:f k=true
  ·simpa[Mp.cut,hk] using h
  ·simp[Mp.cut,hk] at h,fun r R h=>by
  by_cases hk:g r=true
  ·exact⟨R,by simpa[Mp.cut,hk] using h,Nat.le_refl _,fun _=>rfl⟩
  ·simp[Mp.cut,hk] at h,fun k b h=>by
  by_cases hk:f k=true
  ·simpa[Mp.cut,hk] using h
  ·simp[Mp.cut,hk] at h⟩
def Z6 (Im:Nat→Nat→Prop)(w w':World):Prop:=∀ b o v,Im b o→w.cell? ⟨b,o,none⟩=some v→w'.cell? ⟨b,o,none⟩=some v
theorem Z6.refl (Im:Nat→Nat→Prop)(w:World):Z6 Im w w:=fun _ _ _ _ h=>h
theorem Z6.trans {Im:Nat→Nat→Prop}{w w' w'':World}(h:Z6 Im w w')(h':Z6 Im w' w''):Z6 Im w w'':=fun b o v hi hv=>h' b o v hi (h b o v hi hv)
theorem Z6.weaken {Im Im':Nat→Nat→Prop}{w w':World}(h:Z6 Im' w w')(hi:∀ b o,Im b o→Im' b o):Z6 Im w w':=fun b o v h1 hv=>h b o v (hi b o h1) hv
inductive ZD (m:Mp) (Im:Nat→Nat→Prop) (w:World):Value→D→Prop where
 | v (x:Value):ZD m Im w x (.v x)
 | p (k off b:Nat) (h:m.blk k=some b):ZD m Im w (.pointer (some ⟨b,off,none⟩)) (.p k off)
 | o (k b:Nat) (h:m.obj k=some b):ZD m Im w (.pointer (some ⟨b,0,none⟩)) (.o k)
 | mo (k b:Nat) (h:m.obj k=some b):ZD m Im w (.map (some b)) (.mo k)
 | q (bl off:Nat) (X:Nat→Value) (l:List D) (h:∀ i,i<l.length→w.cell? ⟨bl,off+i,none⟩=some (X i)∧Im bl (off+i))
   (hr:∀ i (h:i<l.length),ZD m Im w (X i) l[i]):ZD m Im w (.pointer (some ⟨bl,off,none⟩)) (.q l)
 | sl (a:Option Addr) (c bl off n:Nat) (X:Nat→Nat→Value) (l:List (List D)) (g:Option Nat)
   (hm:l.length≤maxLen∧l.length≤c) (ha:0<l.length→a=some ⟨bl,off,none⟩)
   (hc:∀ i j,i<l.length→j<n→w.cell? ⟨bl,off+i * n+j,none⟩=some (X i j)∧Im bl (off+i * n+j))
   (hn:∀ i (h:i<l.length),l[i].length=n)
   (h1:∀ i j,i<l.length→j<n→(X i j).oneCell'=true)
   (hr:∀ i (h:i<l.length) j (h':j<l[i].length),ZD m Im w (X i j) l[i][j])
   (hg:∀ r,g=some r→∃ R,m.row r=some R∧l.length≤R.len∧(l.length=R.len→R.hv=.slice a l.length c)) :
   ZD m Im w (.slice a l.length c) (.sl n l g)
 | cl (a:Option Addr) (n:Nat) (l:List (List D)) (h:ZD m Im w (.slice a l.length l.length) (.sl n l none)):ZD m Im w (.slice a l.length l.length) (.cl n l)
 | ps (a:Option Addr) (c g len:Nat) (ha:0<len→∃ b,a=some ⟨b,0,none⟩) (hc:len≤c) (h:∃ R,m.row g=some R∧len≤R.len∧(len=R.len→R.hv=.slice a len c)):ZD m Im w (.slice a len c) (.ps g len)
 | pr (g len n i j b:Nat) (h:∃ R,m.row g=some R∧len≤R.len∧(len=R.len→R.hv.ownBlock=some b)):ZD m Im w (.pointer (some ⟨b,i * n+j,none⟩)) (.pr g len n i j)
 | pt (a:Option Addr) (c g len n lo:Nat) (h:∃ R,m.row g=some R∧len≤R.len∧(len=R.len→lo<len→∃ b,R.hv.ownBlock=some b∧a=some ⟨b,lo * n,none⟩)):ZD m Im w (.slice a (len-lo) c) (.pt g len n lo)
 | ag (cs:List Value) (l:List D) (hn:cs.length=l.length) (hr:∀ i (h:i<l.length),ZD m Im w (cs.getD i undef) l[i]):ZD m Im w (.agg cs.toArray) (.ag l)
 | tu (cs:List Value) (l:List D) (hn:cs.length=l.length) (hr:∀ i (h:i<l.length),ZD m Im w (cs.getD i undef) l[i]):ZD m Im w (.tuple cs.toArray) (.tu l)
 | fn (f:FuncId) (cs:List Value) (l:List D) (hn:cs.length=l.length) (hr:∀ i (h:i<l.length),ZD m Im w (cs.getD i undef) l[i]):ZD m Im w (.func (.func f) #[] cs.toArray) (.fn f l)
theorem ZD.mono {m m':Mp}{Im Im':Nat→Nat→Prop}{w w':World}{x:Value}{d:D}(h:ZD m Im w x d)(hm:m.le m')(hk:Z6 Im w w')(hi:∀ b o,Im b o→Im' b o):ZD m' Im' w' x d:=by
 induction h with
 | v x=>exact .v x
 | p k off b h=>exact .p k off b (hm.blk k b h)
 | o k b h=>exact .o k b (hm.obj k b h)
 | mo k b h=>exact .mo k b (hm.obj k b h)
 | q bl off X l h hr ih=>exact .q bl off X l (fun i hl=>⟨hk _ _ _ (h i hl).2 (h i hl).1,hi _ _ (h i hl).2⟩) ih
 | sl a c bl off n X l g h1 ha hc hn ho hr hg ih=>
  refine .sl a c bl off n X l g h1 ha (fun i j hl hj=>⟨hk _ _ _ (hc i j hl hj).2 (hc i j hl hj).1,hi _ _ (hc i j hl hj).2⟩) hn ho ih fun r e=>?_
  obtain⟨R,q1,q2,q3⟩:=hg r e
  obtain⟨R',p1,p2,p3⟩:=hm.row r R q1
  exact⟨R',p1,by omega,fun e=>by rw[p3 (by omega),q3 (by omega)]⟩
 | cl a n l h ih=>exact .cl a n l ih
 | ps a c g len ha hc h=>
  obtain⟨R,q1,q2,q3⟩:=h
  obtain⟨R',p1,p2,p3⟩:=hm.row g R q1
  exact .ps a c g len ha hc ⟨R',p1,by omega,fun e=>by rw[p3 (by omega),q3 (by omega)]⟩
 | pt a c g len n lo h=>
  obtain⟨R,q1,q2,q3⟩:=h
  obtain⟨R',p1,p2,p3⟩:=hm.row g R q1
  exact .pt a c g len n lo ⟨R',p1,by omega,fun e hl=>by rw[p3 (by omega)];exact q3 (by omega) hl⟩
 | pr g len n i j b h=>
  obtain⟨R,q1,q2,q3⟩:=h
  obtain⟨R',p1,p2,p3⟩:=hm.row g R q1
  exact .pr g len n i j b ⟨R',p1,by omega,fun e=>by rw[p3 (by omega),q3 (by omega)]⟩
 | ag cs l hn hr ih=>exact .ag cs l hn ih
 | tu cs l hn hr ih=>exact .tu cs l hn ih
 | fn f cs l hn hr ih=>exact .fn f cs l hn ih
def Yc (m:Mp)(Im:Nat→Nat→Prop)(w:World):List Value→List D→Prop
 | [],[]=>True
 | x :: xs,d :: ds=>ZD m Im w x d∧Yc m Im w xs ds
 | _,_=>False
section
variable {m m':Mp} {Im Im':Nat→Nat→Prop} {w w':World}
theorem ZW:∀ {xs:List Value} {ds:List D},Yc m Im w xs ds↔xs.length=ds.length∧∀ i (h:i<ds.length),ZD m Im w (xs.getD i undef) ds[i]
 | [],[]=>by simp[Yc]
 | [],_ :: _=>by simp[Yc]
 | _ :: _,[]=>by simp[Yc]
 | x :: xs,d :: ds=>by
  simp only[Yc,ZW (xs:=xs) (ds:=ds),List.length_cons]
  constructor
  ·rintro⟨h1,h2,h3⟩
   refine⟨by omega,fun i h=>?_⟩
   cases i with
   | zero=>exact h1
   | succ i=>exact h3 i (by omega)
  ·rintro⟨h1,h2⟩
   exact⟨h2 0 (by omega),by omega,fun i h=>h2 (i+1) (by omega)⟩
theorem Yc.mono (hm:m.le m')(hk:Z6 Im w w')(hi:∀ b o,Im b o→Im' b o){xs:List Value}{ds:List D}(h:Yc m Im w xs ds):Yc m' Im' w' xs ds:=by
 rw[ZW] at h ⊢
 exact⟨h.1,fun i hl=>(h.2 i hl).mono hm hk hi⟩
theorem ZA {x:Value}{y:Value}:ZD m Im w x (.v y)↔x=y:=⟨fun h=>by cases h;rfl,fun h=>h ▸ .v x⟩
theorem XY {x:Value}{l:List D}:ZD m Im w x (.ag l)↔∃ cs,x=.agg cs.toArray∧Yc m Im w cs l:=
 ⟨fun h=>by cases h with | ag cs l hn hr=>exact⟨cs,rfl,ZW.2 ⟨hn,hr⟩⟩,fun⟨cs,e,h⟩=>e ▸ .ag cs l (ZW.1 h).1 (ZW.1 h).2⟩
theorem SR {x:Value}{l:List D}:ZD m Im w x (.tu l)↔∃ cs,x=.tuple cs.toArray∧Yc m Im w cs l:=
 ⟨fun h=>by cases h with | tu cs l hn hr=>exact⟨cs,rfl,ZW.2 ⟨hn,hr⟩⟩,fun⟨cs,e,h⟩=>e ▸ .tu cs l (ZW.1 h).1 (ZW.1 h).2⟩
theorem PZ {x:Value}{f:FuncId}{l:List D}:ZD m Im w x (.fn f l)↔∃ cs,x=.func (.func f) #[] cs.toArray∧Yc m Im w cs l:=
 ⟨fun h=>by cases h with | fn f cs l hn hr=>exact⟨cs,rfl,ZW.2 ⟨hn,hr⟩⟩,fun⟨cs,e,h⟩=>e ▸ .fn f cs l (ZW.1 h).1 (ZW.1 h).2⟩
end
/-! names and rows of some kind -/
mutual
def D.ok (f g:Nat→Bool):D→Bool
 | .v _=>true
 | .sl _ l r=>D.okss f g l&&(match r with | none=>true | some r=>g r)
 | .p k _=>f k
 | .q l=>D.oks f g l
 | .ag l=>D.oks f g l
 | .tu l=>D.oks f g l
 | .fn _ l=>D.oks f g l
 | .rw _ _ _=>true
 | .o k=>f k
 | .mo k=>f k
 | .mp l=>D.okm f g l
 | .ob _=>true
 | .j _ _=>true
 | .cl _ l=>D.okss f g l
 | .rp _ _ l=>D.okss f g l
 | .ps r _=>g r
 | .pr r _ _ _ _=>g r
 | .pt r _ _ _=>g r
 | .mq _ _ _ l=>D.okm f g l
 | .it k _ _ _ _ _=>f k
def D.oks (f g:Nat→Bool):List D→Bool
 | []=>true
 | d :: l=>D.ok f g d&&D.oks f g l
def D.okss (f g:Nat→Bool):List (List D)→Bool
 | []=>true
 | d :: l=>D.oks f g d&&D.okss f g l
def D.okm (f g:Nat→Bool):List (Int×D)→Bool
 | []=>true
 | (_,d) :: l=>D.ok f g d&&D.okm f g l
end
theorem D.oks_get {f g:Nat→Bool}:∀ {l:List D},D.oks f g l=true→∀ i (h:i<l.length),l[i].ok f g=true
 | [],_,i,h=>absurd h (by simp)
 | d :: l,h,i,hi=>by
  simp only[D.oks,Bool.and_eq_true] at h
  cases i with
  | zero=>exact h.1
  | succ i=>exact D.oks_get h.2 i (by simpa using hi)
theorem D.okss_get {f g:Nat→Bool}:∀ {l:List (List D)},D.okss f g l=true→∀ i (h:i<l.length),D.oks f g l[i]=true
 | [],_,i,h=>absurd h (by simp)
 | d :: l,h,i,hi=>by
  simp only[D.okss,Bool.and_eq_true] at h
  cases i with
  | zero=>exact h.1
  | succ i=>exact D.okss_get h.2 i (by simpa using hi)
theorem D.okss_map {f g:Nat→Bool}{α:Type}(e:α→List D)(l:List α)(h:∀ x∈l,D.oks f g (e x)=true):D.okss f g (l.map e)=true:=by
 induction l with
 | nil=>rfl
 | cons x l ih=>simp only[List.map_cons,D.okss,Bool.and_eq_true];exact⟨h x (by simp),ih fun y hy=>h y (by simp[hy])⟩
theorem ZD.cut {m:Mp}{Im:Nat→Nat→Prop}{w:World}{x:Value}{d:D}{f g:Nat→Bool}(h:ZD m Im w x d)(hd:d.ok f g=true):ZD (m.cut f g) Im w x d:=by
 induction h with
 | v x=>exact .v x
 | p k off b h=>exact .p k off b (by simp only[D.ok] at hd;simp only[Mp.cut,hd,if_true];exact h)
 | o k b h=>exact .o k b (by simp only[D.ok] at hd;simp only[Mp.cut,hd,if_true];exact h)
 | mo k b h=>exact .mo k b (by simp only[D.ok] at hd;simp only[Mp.cut,hd,if_true];exact h)
 | q bl off X l h hr ih=>simp only[D.ok] at hd;exact .q bl off X l h fun i hi=>ih i hi (D.oks_get hd i hi)
 | sl a c bl off n X l r h1 ha hc hn ho hr hg ih=>
  simp only[D.ok,Bool.and_eq_true] at hd
  refine .sl a c bl off n X l r h1 ha hc hn ho (fun i hi j hj=>ih i hi j hj (D.oks_get (D.okss_get hd.1 i hi) j hj)) fun r' e=>?_
  obtain⟨R,q1,q2⟩:=hg r' e
  subst e
  have hr:=hd.2
  simp only at hr
  exact⟨R,by simp only[Mp.cut,hr,if_true];exact q1,q2⟩
 | cl a n l h ih=>exact .cl a n l (ih (by simp only[D.ok] at hd ⊢;simp[hd]))
 | pt a c r len n lo h=>
  simp only[D.ok] at hd
  obtain⟨R,q1,q2⟩:=h
  exact .pt a c r len n lo ⟨R,by simp only[Mp.cut,hd,if_true];exact q1,q2⟩
 | ps a c r len ha hc h=>
  simp only[D.ok] at hd
  obtain⟨R,q1,q2⟩:=h
  exact .ps a c r len ha hc ⟨R,by simp only[Mp.cut,hd,if_true];exact q1,q2⟩
 | pr r len n i j b h=>
  simp only[D.ok] at hd
  obtain⟨R,q1,q2⟩:=h
  exact .pr r len n i j b ⟨R,by simp only[Mp.cut,hd,if_true];exact q1,q2⟩
 | ag cs l hn hr ih=>simp only[D.ok] at hd;exact .ag cs l hn fun i hi=>ih i hi (D.oks_get hd i hi)
 | tu cs l hn hr ih=>simp only[D.ok] at hd;exact .tu cs l hn fun i hi=>ih i hi (D.oks_get hd i hi)
 | fn f cs l hn hr ih=>simp only[D.ok] at hd;exact .fn f cs l hn fun i hi=>ih i hi (D.oks_get hd i hi)
theorem D.okm_get {f g:Nat→Bool}:∀ {l:List (Int×D)},D.okm f g l=true→∀ i (h:i<l.length),l[i].2.ok f g=true
 | [],_,i,h=>absurd h (by simp)
 | (_,d) :: l,h,i,hi=>by
  simp only[D.okm,Bool.and_eq_true] at h
  cases i with
  | zero=>exact h.1
  | succ i=>exact D.okm_get h.2 i (by simpa using hi)
def D.un1:D→D
 | .sl n l _=>.sl n l none
 | d=>d
theorem ZD.un1 {m:Mp}{Im:Nat→Nat→Prop}{w:World}{x:Value}{d:D}(h:ZD m Im w x d):ZD m Im w x d.un1:=by
 cases h with
 | sl a c bl off n X l g h1 ha hc hn ho hr hg=>exact .sl a c bl off n X l none h1 ha hc hn ho hr fun r e=>by cases e
 | v x=>exact .v x
 | cl a n l h=>exact .cl a n l h
 | ps a c g len ha hc h=>exact .ps a c g len ha hc h
 | pt a c g len n lo h=>exact .pt a c g len n lo h
 | pr g len n i j b h=>exact .pr g len n i j b h
 | p k off b h=>exact .p k off b h
 | o k b h=>exact .o k b h
 | mo k b h=>exact .mo k b h
 | q bl off X l h hr=>exact .q bl off X l h hr
 | ag cs l hn hr=>exact .ag cs l hn hr
 | tu cs l hn hr=>exact .tu cs l hn hr
 | fn f cs l hn hr=>exact .fn f cs l hn hr
def Zn (d e:D):Prop:=∀ (m:Mp) (Im:Nat→Nat→Prop) (w:World) (x:Value),ZD m Im w x d→ZD m Im w x e
def ZS (l r:List D):Prop:=l.length=r.length∧∀ i (h:i<l.length) (h':i<r.length),Zn l[i] r[i]
@[refl,simp] theorem Zn.refl (d:D):Zn d d:=fun _ _ _ _ h=>h
theorem Zn.of_eq {d e:D}(h:d=e):Zn d e:=h ▸ Zn.refl d
theorem Zn.trans {a b c:D}(h:Zn a b)(h':Zn b c):Zn a c:=fun m Im w x hx=>h' m Im w x (h m Im w x hx)
theorem Zn.untag (n:Nat)(l:List (List D))(g:Option Nat):Zn (.sl n l g) (.sl n l none):=fun _ _ _ _ h=>h.un1
theorem Zn.nil (n:Nat):Zn (.v (.slice none 0 0)) (.sl n [] none):=fun m Im w x h=>by
 have:=ZA.1 h;subst this
 exact .sl none 0 0 0 n (fun _ _=>undef) [] none (by decide) (fun h=>absurd h (by simp)) (fun _ _ h=>absurd h (by simp)) (fun _ h=>absurd h (by simp)) (fun _ _ h=>absurd h (by simp)) (fun _ h=>absurd h (by simp)) fun _ e=>by cases e
theorem ZS.nil:ZS [] []:=⟨rfl,fun _ h=>absurd h (by simp)⟩
theorem ZS.cons {d e:D}{l r:List D}(h:Zn d e)(h':ZS l r):ZS (d :: l) (e :: r):=⟨by simp[h'.1],fun i hi hi'=>by
 cases i with
 | zero=>exact h
 | succ i=>exact h'.2 i (by simpa using hi) (by simpa using hi')⟩
theorem Zn.ag {l r:List D}(h:ZS l r):Zn (.ag l) (.ag r):=fun m Im w x hx=>by
 cases hx with
 | ag cs l hn hr=>exact .ag cs r (hn.trans h.1) fun i hi=>h.2 i (by rw[h.1];exact hi) hi m Im w _ (hr i (by rw[h.1];exact hi))
theorem Zn.tu {l r:List D}(h:ZS l r):Zn (.tu l) (.tu r):=fun m Im w x hx=>by
 cases hx with
 | tu cs l hn hr=>exact .tu cs r (hn.trans h.1) fun i hi=>h.2 i (by rw[h.1];exact hi) hi m Im w _ (hr i (by rw[h.1];exact hi))
/-! keys -/
inductive Key where
 | t (x:Nat)
 | c (k off:Nat)
 | r (g:Nat)
 | o (k:Nat)
 | j
def Key.eq:Key→Key→Bool
 | .t x,.t y=>Nat.beq x y
 | .c x z,.c y u=>Nat.beq x y&&Nat.beq z u
 | .r x,.r y=>Nat.beq x y
 | .o x,.o y=>Nat.beq x y
 | .j,.j=>true
 | _,_=>false
theorem Key.eq_iff {a b:Key}:Key.eq a b=true↔a=b:=by cases a <;> cases b <;> simp[Key.eq]
theorem Key.eq_refl (a:Key):Key.eq a a=true:=Key.eq_iff.2 rfl
def get:List (Key×D)→Key→Option D
 | [],_=>none
 | (k',d) :: r,k=>if Key.eq k' k then some d else get r k
def Xt (k:Key)(d:D)(σ:List (Key×D)):List (Key×D):=(k,d) :: σ
theorem Zo (k:Key)(d:D)(σ:List (Key×D))(k':Key):get (Xt k d σ) k'=if Key.eq k k' then some d else get σ k':=rfl
def Y9 (σ:List (Key×D)):List (Key×D)→List (Key×D)
 | []=>σ
 | (k,d) :: r=>Y9 (Xt k d σ) r
theorem YX:∀ (W:List (Key×D)) (σ:List (Key×D)) (k:Key),(∀ p∈W,p.1≠k)→get (Y9 σ W) k=get σ k
 | [],_,_,_=>rfl
 | (k1,d1) :: W,σ,k,h=>by
  rw[Y9,YX W _ _ (fun p hp=>h p (by simp[hp])),Zo,if_neg]
  rw[Key.eq_iff];exact h (k1,d1) (by simp)
theorem Vm:∀ (W:List (Key×D)) (σ σ':List (Key×D)) (k:Key),(∃ p∈W,p.1=k)→get (Y9 σ W) k=get (Y9 σ' W) k
 | [],_,_,_,h=>by obtain⟨p,hp,_⟩:=h;cases hp
 | (k1,d1) :: W,σ,σ',k,h=>by
  rw[Y9,Y9]
  by_cases hW:∃ p∈W,p.1=k
  ·exact Vm W _ _ k hW
  ·have hW':∀ p∈W,p.1≠k:=fun p hp e=>hW ⟨p,hp,e⟩
   obtain⟨p,hp,e⟩:=h
   rcases List.mem_cons.1 hp with rfl | hp
   ·rw[YX W _ _ hW',YX W _ _ hW',Zo,Zo];simp only at e;rw[if_pos (Key.eq_iff.2 e),if_pos (Key.eq_iff.2 e)]
   ·exact absurd e (hW' p hp)
theorem T6 (W:List (Key×D))(σ σ':List (Key×D))(k:Key)(h:get σ k=get σ' k):get (Y9 σ W) k=get (Y9 σ' W) k:=by
 by_cases hW:∃ p∈W,p.1=k
 ·exact Vm W _ _ k hW
 ·have hW':∀ p∈W,p.1≠k:=fun p hp e=>hW ⟨p,hp,e⟩
  rw[YX W _ _ hW',YX W _ _ hW',h]
structure Cx where
 w0:World
 C:Nat→Prop
 Im0:Nat→Nat→Prop
 m0:Mp
 nt:Nat
 n0:Nat
 h0:∀ k b,m0.blk k=some b→k<n0
 h0o:∀ k b,m0.obj k=some b→k<n0
 CR:Nat→Prop:=fun _=>False
 hCR:∀ b,CR b→C b:=by exact fun _ h=>h.elim
 h0r:∀ g R,m0.row g=some R→g<n0:=by exact fun g R h=>by cases h
structure XO (cx:Cx) (Fr:Nat→Prop) (m:Mp) (Im:Nat→Nat→Prop) (w:World):Prop where
 off:Off cx.C cx.w0 w
 im:∀ b o,Im b o→∃ v,w.cell? ⟨b,o,none⟩=some v
 imb:∀ b o,Im b o→cx.Im0 b o∨cx.w0.heap.size≤b∨cx.CR b
 im0:∀ b o,cx.Im0 b o→Im b o
 own:∀ k b,m.blk k=some b→cx.C b∨cx.w0.heap.size≤b
 lt:∀ k b,m.blk k=some b→b<w.heap.size
 free:∀ k b o,m.blk k=some b→w.frozen? ⟨b,o,none⟩=false
 nim:∀ k b o,m.blk k=some b→¬ Im b o
 inj:∀ k k' b,m.blk k=some b→m.blk k'=some b→k=k'
 row:∀ g R,m.row g=some R→∃ xs,w.ownsRow 0 R.E R.n R.hv R.len xs
 rIm:∀ g R b o,m.row g=some R→R.hv.ownBlock=some b→Im b o→o<R.len * R.n
 rblk:∀ g R b k,m.row g=some R→R.hv.ownBlock=some b→m.blk k≠some b
 rinj:∀ g g' R R' b,m.row g=some R→m.row g'=some R'→R.hv.ownBlock=some b→R'.hv.ownBlock=some b→g=g'
 fr:∀ k,Fr k→m.blk k=none∧m.row k=none∧m.obj k=none
 m0:∀ k b,cx.m0.blk k=some b→m.blk k=some b
 m0o:∀ k b,cx.m0.obj k=some b→m.obj k=some b
 oown:∀ k b,m.obj k=some b→cx.C b∨cx.w0.heap.size≤b
 olt:∀ k b,m.obj k=some b→b<w.heap.size
 onim:∀ k b o,m.obj k=some b→¬ Im b o
 oinj:∀ k k' b,m.obj k=some b→m.obj k'=some b→k=k'
 oblk:∀ k k' b,m.obj k=some b→m.blk k'≠some b
 orow:∀ k g R b,m.obj k=some b→m.row g=some R→R.hv.ownBlock≠some b
 dis:∀ k b,m.blk k=some b→m.obj k=none
 k0:Z6 cx.Im0 cx.w0 w
 rown:∀ g R b,m.row g=some R→R.hv.ownBlock=some b→cx.w0.heap.size≤b∨cx.CR b
 m0r:∀ g R,cx.m0.row g=some R→∃ R',m.row g=some R'∧R.len≤R'.len∧(R'.len=R.len→R'.hv=R.hv)
structure C9 (cx:Cx) (m:Mp) (Im:Nat→Nat→Prop) (w:World) (X:Nat→Prop) (J:World→Prop):Prop where
 holds:J w
 stable:∀ w',w.heap.size≤w'.heap.size→(∀ b,X b→w'.heap[b]?=w.heap[b]?)→J w'
 lt:∀ b,X b→b<w.heap.size
 own:∀ b,X b→cx.C b∨cx.w0.heap.size≤b
 nim:∀ b o,X b→¬ Im b o
 blk:∀ b k,X b→m.blk k≠some b
 row:∀ b g R,X b→m.row g=some R→R.hv.ownBlock≠some b
 obj:∀ b k,X b→m.obj k≠some b
def Vz (es:Array MapEntry)(clock:Nat):Prop:=(es.toList.map (·.born)).Nodup∧∀ e∈es.toList,e.born<clock
inductive XB (m:Mp) (Im:Nat→Nat→Prop) (w:World) (b:Nat):D→Prop where
 | mp (es:Array MapEntry) (clock:Nat) (l:List (Int×D)) (hb:w.heap[b]?=some (.map es clock)) (hl:es.size=l.length) (hk:∀ i (h:i<l.length),(es[i]?).map (·.key)=some (.int .i64 l[i].1))
   (hv:∀ i (h:i<l.length) v,(es[i]?).map (·.val)=some v→ZD m Im w v l[i].2) (hbn:Vz es clock):XB m Im w b (.mp l)
 | mq (es:Array MapEntry) (clock:Nat) (l:List (Int×D)) (hb:w.heap[b]?=some (.map es clock)) (hl:es.size=l.length) (hk:∀ i (h:i<l.length),(es[i]?).map (·.key)=some (.int .i64 l[i].1))
   (hv:∀ i (h:i<l.length) v,(es[i]?).map (·.val)=some v→ZD m Im w v l[i].2) (hbn:Vz es clock):XB m Im w b (.mq b es clock l)
 | it (k bm:Nat) (es:Array MapEntry) (clock:Nat) (rem:List Nat) (last:Option Nat) (seen:Array Nat) (hm:m.obj k=some bm) (hb:w.heap[b]?=some (.mapIter (some bm) clock seen clock)) (hn:rem.Nodup) (hr:∀ i e,es[i]?=some e→(i∈rem↔seen.contains e.born=false))
   (hi:∀ i∈rem,i<es.size) (hl:∀ i,last=some i→∃ (e:MapEntry) (s0:Array Nat),es[i]?=some e∧seen=s0.push e.born):XB m Im w b (.it k bm es clock rem last)
 | ob (J:Nat→World→Prop) (h:J b w) (hs:∀ w',w'.heap[b]?=w.heap[b]?→J b w'):XB m Im w b (.ob J)
theorem XB.mono {m m':Mp}{Im Im':Nat→Nat→Prop}{w w':World}{b:Nat}{d:D}(h:XB m Im w b d)(hb:w'.heap[b]?=w.heap[b]?)(hm:m.le m')(hk:Z6 Im w w')(hi:∀ b o,Im b o→Im' b o):XB m' Im' w' b d:=by
 cases h with
 | mp es clock l h1 h2 h3 h4 h5=>exact .mp es clock l (hb.trans h1) h2 h3 (fun i h v hv=>(h4 i h v hv).mono hm hk hi) h5
 | mq es clock l h1 h2 h3 h4 h5=>exact .mq es clock l (hb.trans h1) h2 h3 (fun i h v hv=>(h4 i h v hv).mono hm hk hi) h5
 | it k bm es clock rem last seen h1 h2 h3 h4 h5 h6=>exact .it k bm es clock rem last seen (hm.obj k bm h1) (hb.trans h2) h3 h4 h5 h6
 | ob J h hs=>exact .ob J (hs w' hb) fun w2 h2=>hs w2 (h2.trans hb)
section
variable {w w':World}
theorem Un {base E n len:Nat}{v:Value}{xs:List Value}(h:w.ownsRow base E n v len xs)(hs:∀ b,v.ownBlock=some b→w'.heap[b]?=w.heap[b]?):w'.ownsRow base E n v len xs:=by
 refine⟨h.1,?_⟩
 rcases h.2 with h0 | ⟨g',cap,cur,e,h1,h2,h3⟩
 ·exact .inl h0
 ·refine .inr ⟨g',cap,cur,e,h1,?_,h3⟩
  rw[hs g' (by rw[e];rfl)];exact h2
inductive XJ (m:Mp) (Im:Nat→Nat→Prop) (w:World) (R:W6):D→Prop where
 | rw:XJ m Im w R (.rw R.E R.n R.len)
 | rp (l:List (List D)) (xs:List Value) (hl:l.length=R.len) (hn:∀ i (h:i<l.length),l[i].length=R.n) (hx:w.ownsRow 0 R.E R.n R.hv R.len xs) (h1:∀ u∈xs,u.oneCell'=true)
   (hr:∀ i (h:i<l.length) j (h':j<l[i].length),ZD m Im w (xs.getD (i * R.n+j) undef) l[i][j]) (hni:∀ b o,R.hv.ownBlock=some b→¬ Im b o):XJ m Im w R (.rp R.E R.n l)
theorem XJ.mono {m m':Mp}{Im Im':Nat→Nat→Prop}{R:W6}{d:D}(h:XJ m Im w R d)(hw:∀ b,R.hv.ownBlock=some b→w'.heap[b]?=w.heap[b]?)(hm:m.le m')(hk:Z6 Im w w')(hi:∀ b o,Im b o→Im' b o)(hni:∀ b o,R.hv.ownBlock=some b→Im' b o→Im b o):XJ m' Im' w' R d:=by
 cases h with
 | rw=>exact .rw
 | rp l xs hl hn hx h1 hr h2=>exact .rp l xs hl hn (Un hx hw) h1 (fun i h j h'=>(hr i h j h').mono hm hk hi) fun b o ho hh=>h2 b o ho (hni b o ho hh)
theorem XJ.rwi {m:Mp}{Im:Nat→Nat→Prop}{R:W6}{E n len:Nat}(h:XJ m Im w R (.rw E n len)):D.rw E n len=.rw R.E R.n R.len:=by
 cases h;rfl
theorem XJ.cut {m:Mp}{Im:Nat→Nat→Prop}{R:W6}{d:D}{f g:Nat→Bool}(h:XJ m Im w R d)(hd:d.ok f g=true):XJ (m.cut f g) Im w R d:=by
 cases h with
 | rw=>exact .rw
 | rp l xs hl hn hx h1 hr h2=>
  simp only[D.ok] at hd
  exact .rp l xs hl hn hx h1 (fun i h j h'=>(hr i h j h').cut (D.oks_get (D.okss_get hd i h) j h')) h2
end
structure St (cx:Cx) (Fr:Nat→Prop) (m:Mp) (Im:Nat→Nat→Prop) (w:World) (a:Act) (σ:List (Key×D)):Prop where
 mem:XO cx Fr m Im w
 df:a.defers=[]
 nt:a.tmps.size=cx.nt
 tm:∀ x d,get σ (.t x)=some d→ZD m Im w (a.tmps.getD x undef) d
 ce:∀ k off d,get σ (.c k off)=some d→∃ b v,m.blk k=some b∧w.cell? ⟨b,off,none⟩=some v∧ZD m Im w v d
 ro:∀ g d,get σ (.r g)=some d→∃ R,m.row g=some R∧XJ m Im w R d
 jk:∀ d,get σ .j=some d→∃ X J,d=.j X J∧C9 cx m Im w X J
 ok:∀ k d,get σ (.o k)=some d→∃ b,m.obj k=some b∧XB m Im w b d
section
variable {cx:Cx} {Fr Fr':Nat→Prop} {m m':Mp} {Im Im':Nat→Nat→Prop} {w w':World} {a:Act} {σ σ':List (Key×D)}
theorem Ya {b o:Nat}{v:Value}(h:w.cell? ⟨b,o,none⟩=some v):b<w.heap.size:=Keep.lt h
theorem Z6.below (hb:Below w.heap.size w w'):Z6 Im w w':=fun b o v _ hv=>(hb.cell (p:=⟨b,o,none⟩) (Ya hv)).trans hv
theorem Wo {base e size n:Nat}{v:Value}{xs:List Value}(h:w.ownsRow base e size v n xs){b:Nat}(hb:v.ownBlock=some b):base≤b∧b<w.heap.size:=h.lt b hb
theorem XO.rlt (h:XO cx Fr m Im w){g:Nat}{R:W6}{b:Nat}(hg:m.row g=some R)(ho:R.hv.ownBlock=some b):b<w.heap.size:=by
 obtain⟨xs,hx⟩:=h.row g R hg
 exact(Wo hx ho).2
theorem XO.m0r_le (h:XO cx Fr m Im w)(hle:m.le m'):∀ g R,cx.m0.row g=some R→∃ R',m'.row g=some R'∧R.len≤R'.len∧(R'.len=R.len→R'.hv=R.hv):=fun g R hg=>by
 obtain⟨R1,h1,h2,h3⟩:=h.m0r g R hg
 obtain⟨R2,g1,g2,g3⟩:=hle.row g R1 h1
 refine⟨R2,g1,by omega,fun e=>?_⟩
 have e1:R1.len=R.len:=by omega
 rw[g3 (by omega),h3 e1]
theorem XO.below (h:XO cx Fr m Im w)(hb:Below w.heap.size w w')(hi:∀ b o,Im b o→Im' b o)(hib:∀ b o,Im' b o→Im b o∨w.heap.size≤b)(hex:∀ b o,Im' b o→∃ v,w'.cell? ⟨b,o,none⟩=some v):XO cx Fr m Im' w' where
 off:=h.off.below hb
 im:=hex
 imb b o hh:=by
  rcases hib b o hh with h1 | h1
  ·exact h.imb b o h1
  ·exact .inr (.inl (Nat.le_trans h.off.size h1))
 im0 b o hh:=hi b o (h.im0 b o hh)
 own:=h.own
 lt k b hk:=Nat.lt_of_lt_of_le (h.lt k b hk) hb.size
 free k b o hk:=(World.frozen?_of_block (a:=⟨b,o,none⟩) (hb.block b (h.lt k b hk))).trans (h.free k b o hk)
 nim k b o hk hh:=by
  rcases hib b o hh with h1 | h1
  ·exact h.nim k b o hk h1
  ·have:=h.lt k b hk;omega
 inj:=h.inj
 row g R hg:=by
  obtain⟨xs,hx⟩:=h.row g R hg
  exact⟨xs,VT hx hb⟩
 rIm g R b o hg hob hh:=by
  rcases hib b o hh with h1 | h1
  ·exact h.rIm g R b o hg hob h1
  ·obtain⟨xs,hx⟩:=h.row g R hg
   have:=(Wo hx hob).2;omega
 rblk:=h.rblk
 rinj:=h.rinj
 fr:=h.fr
 m0:=h.m0
 m0o:=h.m0o
 oown:=h.oown
 olt k b hk:=Nat.lt_of_lt_of_le (h.olt k b hk) hb.size
 onim k b o hk hh:=by
  rcases hib b o hh with h1 | h1
  ·exact h.onim k b o hk h1
  ·have:=h.olt k b hk;omega
 oinj:=h.oinj
 oblk:=h.oblk
 orow:=h.orow
 dis:=h.dis
 k0:=h.k0.trans (Z6.below hb)
 rown:=h.rown
 m0r:=h.m0r
theorem C9.below {X:Nat→Prop}{J:World→Prop}(h:C9 cx m Im w X J)(hb:Below w.heap.size w w')(hib:∀ b o,Im' b o→Im b o∨w.heap.size≤b):C9 cx m Im' w' X J where
 holds:=h.stable w' hb.size fun b hx=>hb.block b (h.lt b hx)
 stable w2 hs hx:=h.stable w2 (Nat.le_trans hb.size hs) fun b hb2=>(hx b hb2).trans (hb.block b (h.lt b hb2))
 lt b hx:=Nat.lt_of_lt_of_le (h.lt b hx) hb.size
 own:=h.own
 nim b o hx hh:=by
  rcases hib b o hh with h1 | h1
  ·exact h.nim b o hx h1
  ·have:=h.lt b hx;omega
 blk:=h.blk
 row:=h.row
 obj:=h.obj
theorem St.below (h:St cx Fr m Im w a σ)(hb:Below w.heap.size w w')(hi:∀ b o,Im b o→Im' b o)(hib:∀ b o,Im' b o→Im b o∨w.heap.size≤b)(hex:∀ b o,Im' b o→∃ v,w'.cell? ⟨b,o,none⟩=some v):St cx Fr m Im' w' a σ where
 mem:=h.mem.below hb hi hib hex
 df:=h.df
 nt:=h.nt
 tm x d hx:=(h.tm x d hx).mono (Mp.le.refl m) (Z6.below hb) hi
 ce k off d hx:=by
  obtain⟨b,v,h1,h2,h3⟩:=h.ce k off d hx
  exact⟨b,v,h1,(hb.cell (p:=⟨b,off,none⟩) (Ya h2)).trans h2,h3.mono (Mp.le.refl m) (Z6.below hb) hi⟩
 ro g d hx:=by
  obtain⟨R,h1,h2⟩:=h.ro g d hx
  exact⟨R,h1,h2.mono (fun b ho=>hb.block b (h.mem.rlt h1 ho)) (Mp.le.refl m) (Z6.below hb) hi fun b o ho hh=>(hib b o hh).elim id fun h2=>absurd (h.mem.rlt h1 ho) (Nat.not_lt.2 h2)⟩
 jk d hd:=by
  obtain⟨X,J,e,h1⟩:=h.jk d hd
  exact⟨X,J,e,h1.below hb hib⟩
 ok k d hd:=by
  obtain⟨b,h1,h2⟩:=h.ok k d hd
  exact⟨b,h1,h2.mono (hb.block b (h.mem.olt k b h1)) (Mp.le.refl m) (Z6.below hb) hi⟩
theorem St.below0 (h:St cx Fr m Im w a σ)(hb:Below w.heap.size w w'):St cx Fr m Im w' a σ:=
 h.below hb (fun _ _ h=>h) (fun _ _ h=>.inl h) (fun b o hh=>by
  obtain⟨v,hv⟩:=h.mem.im b o hh
  exact⟨v,(hb.cell (p:=⟨b,o,none⟩) (Ya hv)).trans hv⟩)
theorem St.put (h:St cx Fr m Im w a σ){dst:Tmp}{v:Value}{d:D}(hl:dst<cx.nt)(hr:ZD m Im w v d):St cx Fr m Im w (a.put (some dst) v) (Xt (.t dst) d σ) where
 mem:=h.mem
 df:=h.df
 nt:=by show (a.tmps.setIfInBounds dst v).size=_;simpa using h.nt
 tm x d' hx:=by
  rw[Zo] at hx
  show ZD m Im w ((a.tmps.setIfInBounds dst v).getD x undef) d'
  by_cases he:Key.eq (.t dst) (.t x)=true
  ·rw[if_pos he] at hx
   cases hx
   have:=Key.eq_iff.1 he
   cases this
   have hl':dst<a.tmps.size:=by rw[h.nt];exact hl
   simpa[hl'] using hr
  ·rw[if_neg he] at hx
   have hne:dst≠x:=fun e=>he (by subst e;exact Key.eq_refl _)
   have:=h.tm x d' hx
   rw[Array.getD_eq_getD_getElem?] at this ⊢
   rw[Array.getElem?_setIfInBounds_ne hne]
   exact this
 ce k off d' hx:=by rw[Zo,if_neg (by simp[Key.eq])] at hx;exact h.ce k off d' hx
 ro g d' hx:=by rw[Zo,if_neg (by simp[Key.eq])] at hx;exact h.ro g d' hx
 jk d' hx:=by rw[Zo,if_neg (by simp[Key.eq])] at hx;exact h.jk d' hx
 ok k d' hx:=by rw[Zo,if_neg (by simp[Key.eq])] at hx;exact h.ok k d' hx
theorem St.sub (h:St cx Fr m Im w a σ)(hs:∀ k d,get σ' k=some d→get σ k=some d):St cx Fr m Im w a σ' where
 mem:=h.mem
 df:=h.df
 nt:=h.nt
 tm x d hx:=h.tm x d (hs _ _ hx)
 ce k off d hx:=h.ce k off d (hs _ _ hx)
 ro g d hx:=h.ro g d (hs _ _ hx)
 jk d hx:=h.jk d (hs _ _ hx)
 ok k d hx:=h.ok k d (hs _ _ hx)
theorem St.putc (h:St cx Fr m Im w a σ){k off b:Nat}{v:Value}{d:D}(hb:m.blk k=some b)(hv:w.cell? ⟨b,off,none⟩=some v)(hr:ZD m Im w v d):St cx Fr m Im w a (Xt (.c k off) d σ) where
 mem:=h.mem
 df:=h.df
 nt:=h.nt
 tm x d' hx:=by rw[Zo,if_neg (by simp[Key.eq])] at hx;exact h.tm x d' hx
 ce k' off' d' hx:=by
  rw[Zo] at hx
  by_cases he:Key.eq (.c k off) (.c k' off')=true
  ·rw[if_pos he] at hx
   cases hx
   have:=Key.eq_iff.1 he
   cases this
   exact⟨b,v,hb,hv,hr⟩
  ·rw[if_neg he] at hx
   exact h.ce k' off' d' hx
 ro g d' hx:=by rw[Zo,if_neg (by simp[Key.eq])] at hx;exact h.ro g d' hx
 jk d' hx:=by rw[Zo,if_neg (by simp[Key.eq])] at hx;exact h.jk d' hx
 ok k d' hx:=by rw[Zo,if_neg (by simp[Key.eq])] at hx;exact h.ok k d' hx
def cellsOf (k:Nat):Nat→List D→List (Key×D)
 | _,[]=>[]
 | o,d :: l=>(.c k o,d) :: cellsOf k (o+1) l
theorem St.putcs {k b:Nat}(hb:m.blk k=some b):∀ (ds:List D) (vs:List Value) (o:Nat) {σ:List (Key×D)},St cx Fr m Im w a σ→Yc m Im w vs ds→(∀ i v,vs[i]?=some v→w.cell? ⟨b,o+i,none⟩=some v)→St cx Fr m Im w a (Y9 σ (cellsOf k o ds))
 | [],_,_,_,h,_,_=>h
 | d :: ds,[],_,_,_,hr,_=>hr.elim
 | d :: ds,v :: vs,o,σ,h,hr,hc=>by
  simp only[cellsOf,Y9]
  refine St.putcs hb ds vs (o+1) (h.putc hb (hc 0 v rfl) hr.1) hr.2 fun i u hu=>?_
  have:=hc (i+1) u (by simpa using hu)
  rw[show o+1+i=o+(i+1) by omega];exact this
def Mp.setB (m:Mp)(k b:Nat):Mp:=⟨fun x=>if x=k then some b else m.blk x,m.row,m.obj⟩
def Mp.setR (m:Mp)(g:Nat)(R:W6):Mp:=⟨m.blk,fun x=>if x=g then some R else m.row x,m.obj⟩
def Mp.setO (m:Mp)(k b:Nat):Mp:=⟨m.blk,m.row,fun x=>if x=k then some b else m.obj x⟩
theorem Mp.setB_le {k b:Nat}(h:m.blk k=none):m.le (m.setB k b):=
 ⟨fun x c hx=>by
  by_cases e:x=k
  ·subst e;rw[h] at hx;cases hx
  ·simp[Mp.setB,e,hx],fun g R hg=>⟨R,hg,Nat.le_refl _,fun _=>rfl⟩,fun _ _ h=>h⟩
theorem Mp.setR_le {g:Nat}{R:W6}(h:∀ R0,m.row g=some R0→R0.len≤R.len∧(R.len=R0.len→R.hv=R0.hv)):m.le (m.setR g R):=
 ⟨fun _ _ h=>h,fun x R0 hx=>by
  by_cases e:x=g
  ·subst e;exact⟨R,by simp[Mp.setR],h R0 hx⟩
  ·exact⟨R0,by simp[Mp.setR,e,hx],Nat.le_refl _,fun _=>rfl⟩,fun _ _ h=>h⟩
theorem Mp.setO_le {k b:Nat}(h:m.obj k=none):m.le (m.setO k b):=
 ⟨fun _ _ h=>h,fun g R hg=>⟨R,hg,Nat.le_refl _,fun _=>rfl⟩,fun x c hx=>by
  by_cases e:x=k
  ·subst e;rw[h] at hx;cases hx
  ·simp[Mp.setO,e,hx]⟩
def XA (Fr:Nat→Prop)(k:Nat):Nat→Prop:=fun x=>Fr x∧x≠k
theorem St.name (h:St cx Fr m Im w a σ){k b:Nat}(hk:Fr k)(hB:cx.w0.heap.size≤b)(hlt:b<w.heap.size)(hfr:∀ o,w.frozen? ⟨b,o,none⟩=false)(hni:∀ o,¬ Im b o) 
  (hnb:∀ k,m.blk k≠some b) (hnr:∀ g R,m.row g=some R→R.hv.ownBlock≠some b) (hnx:∀ X J,get σ .j=some (.j X J)→¬ X b) (hno:∀ k,m.obj k≠some b):St cx (XA Fr k) (m.setB k b) Im w a σ:=by
 have hle:m.le (m.setB k b):=Mp.setB_le (h.mem.fr k hk).1
 have hcase:∀ {x c},(m.setB k b).blk x=some c→(x=k∧c=b)∨(x≠k∧m.blk x=some c):=fun {x c} hx=>by
  by_cases e:x=k
  ·left;simp[Mp.setB,e] at hx;exact⟨e,hx.symm⟩
  ·right;simp[Mp.setB,e] at hx;exact⟨e,hx⟩
 refine⟨{ h.mem with own:=?_,lt:=?_,free:=?_,nim:=?_,inj:=?_,rblk:=?_,fr:=?_,m0:=?_,oblk:=?_,dis:=?_ },h.df,h.nt,fun x d hx=>(h.tm x d hx).mono hle (Z6.refl _ _) (fun _ _ h=>h),fun x off d hx=>?_,fun g d hx=>(h.ro g d hx).imp fun R hR=>⟨hR.1,hR.2.mono (fun _ _=>rfl) hle (Z6.refl _ _) (fun _ _ h=>h) fun _ _ _ h=>h⟩,fun d hd=>?_,fun x d hd=>?_⟩
 ·intro x c hx;rcases hcase hx with⟨_,rfl⟩ | ⟨_,hx⟩;exact .inr hB;exact h.mem.own x c hx
 ·intro x c hx;rcases hcase hx with⟨_,rfl⟩ | ⟨_,hx⟩;exact hlt;exact h.mem.lt x c hx
 ·intro x c o hx;rcases hcase hx with⟨_,rfl⟩ | ⟨_,hx⟩;exact hfr o;exact h.mem.free x c o hx
 ·intro x c o hx;rcases hcase hx with⟨_,rfl⟩ | ⟨_,hx⟩;exact hni o;exact h.mem.nim x c o hx
 ·intro x y c hx hy
  rcases hcase hx with⟨e1,e2⟩ | ⟨_,hx⟩ <;> rcases hcase hy with⟨e3,e4⟩ | ⟨_,hy⟩
  ·rw[e1,e3]
  ·exact absurd (e2 ▸ hy) (hnb y)
  ·exact absurd (e4 ▸ hx) (hnb x)
  ·exact h.mem.inj x y c hx hy
 ·intro g R c x hg ho hx
  rcases hcase hx with⟨_,rfl⟩ | ⟨_,hx⟩
  ·exact hnr g R hg ho
  ·exact h.mem.rblk g R c x hg ho hx
 ·intro x hx;refine⟨?_,(h.mem.fr x hx.1).2⟩;simp[Mp.setB,hx.2,(h.mem.fr x hx.1).1]
 ·intro x c hx;exact hle.blk x c (h.mem.m0 x c hx)
 ·intro x y c hx hy
  rcases hcase hy with⟨_,rfl⟩ | ⟨_,hy⟩
  ·exact hno x hx
  ·exact h.mem.oblk x y c hx hy
 ·intro x c hx
  rcases hcase hx with⟨rfl,_⟩ | ⟨_,hx⟩
  ·exact(h.mem.fr x hk).2.2
  ·exact h.mem.dis x c hx
 ·obtain⟨c,v,h1,h2,h3⟩:=h.ce x off d hx
  exact⟨c,v,hle.blk x c h1,h2,h3.mono hle (Z6.refl _ _) (fun _ _ h=>h)⟩
 ·obtain⟨X,J,rfl,h1⟩:=h.jk d hd
  refine⟨X,J,rfl,{ h1 with blk:=fun c x hc hx=>?_ }⟩
  rcases hcase hx with⟨_,rfl⟩ | ⟨_,hx⟩
  ·exact hnx X J hd hc
  ·exact h1.blk c x hc hx
 ·obtain⟨c,h1,h2⟩:=h.ok x d hd
  exact⟨c,h1,h2.mono rfl hle (Z6.refl _ _) fun _ _ h=>h⟩
theorem St.alloc (h:St cx Fr m Im w a σ){k:Nat}(hk:Fr k)(vs:List Value)(ds:List D)(T:TypeId)(hr:Yc m Im w vs ds):
  St cx (XA Fr k) (m.setB k w.heap.size) Im (w.alloc (.cells vs.toArray T)) a (Y9 σ (cellsOf k 0 ds)):=by
 have hb:Below w.heap.size w (w.alloc (.cells vs.toArray T)):=(Below.refl _ _).alloc (Nat.le_refl _) _
 have hB:=Blk.new w vs.toArray T rfl
 have hle:m.le (m.setB k w.heap.size):=Mp.setB_le (h.mem.fr k hk).1
 have h1:=(h.below0 hb).name (k:=k) (b:=w.heap.size) hk h.mem.off.size (by simp) (fun o=>hB.free o) (fun o ho=>by
   obtain⟨v,hv⟩:=h.mem.im _ _ ho
   have:=Ya hv;omega) (fun x hx=>by have:=h.mem.lt x _ hx;omega) (fun g R hg e=>by
   obtain⟨xs,hx⟩:=h.mem.row g R hg
   have:=(Wo hx e).2;omega) (fun X J hj hx=>by
   obtain⟨X',J',e,h2⟩:=h.jk _ hj
   cases e
   have:=h2.lt _ hx;omega) (fun x hx=>by have:=h.mem.olt x _ hx;omega)
 exact h1.putcs (k:=k) (b:=w.heap.size) (by simp[Mp.setB]) ds vs 0 (hr.mono hle (Z6.below hb) fun _ _ h=>h) fun i v hv=>hB.cell (by simpa using hv)
theorem St.setObj (h:St cx Fr m Im w a σ){k b:Nat}{o:Obj}{d:D}(hb:m.obj k=some b)(hd:∀ w':World,w'.heap[b]?=some o→Z6 Im w w'→XB m Im w' b d):
  St cx Fr m Im { w with heap:=w.heap.setIfInBounds b o } a (Xt (.o k) d σ):=by
 obtain⟨w',hw'⟩:∃ w',({ w with heap:=w.heap.setIfInBounds b o }:World)=w':=⟨_,rfl⟩
 have hsz:w'.heap.size=w.heap.size:=by rw[←hw'];simp
 have hblk:∀ c,c≠b→w'.heap[c]?=w.heap[c]?:=fun c hc=>by rw[←hw'];exact Array.getElem?_setIfInBounds_ne (Ne.symm hc)
 have hbb:w'.heap[b]?=some o:=by rw[←hw'];have:=h.mem.olt k b hb;simp[this]
 have hos:w'.os=w.os∧w'.tape=w.tape∧w'.output=w.output:=by rw[←hw'];exact⟨rfl,rfl,rfl⟩
 rw[hw']
 clear hw'
 have hki:Z6 Im w w':=fun c x v hi hv=>(World.cell?_of_block (a:=⟨c,x,none⟩) (hblk c (by rintro rfl;exact h.mem.onim k _ x hb hi))).trans hv
 have hmono:∀ {x d},ZD m Im w x d→ZD m Im w' x d:=fun hx=>hx.mono (Mp.le.refl m) hki fun _ _ h=>h
 refine⟨{ h.mem with off:=?_,im:=?_,lt:=?_,free:=?_,row:=?_,olt:=?_,k0:=h.mem.k0.trans (hki.weaken h.mem.im0) },h.df,h.nt,fun x d hx=>hmono (h.tm x d (by rw[Zo,if_neg (by simp[Key.eq])] at hx;exact hx)),fun k' off' d' hx=>?_,fun g d' hx=>?_,fun d' hx=>?_,fun k' d' hx=>?_⟩
 ·refine⟨hos.1.trans h.mem.off.os,hos.2.1.trans h.mem.off.tape,hos.2.2.trans h.mem.off.output,by rw[hsz];exact h.mem.off.size,fun c hc hC=>(hblk c ?_).trans (h.mem.off.block c hc hC)⟩
  rintro rfl
  rcases h.mem.oown k _ hb with h1 | h1
  ·exact hC h1
  ·omega
 ·intro c x hi
  obtain⟨v,hv⟩:=h.mem.im c x hi
  exact⟨v,hki c x v hi hv⟩
 ·intro k' c hk;rw[hsz];exact h.mem.lt k' c hk
 ·intro k' c x hk;exact(World.frozen?_of_block (a:=⟨c,x,none⟩) (hblk c (by rintro rfl;exact h.mem.oblk k k' _ hb hk))).trans (h.mem.free k' c x hk)
 ·intro g R hg
  obtain⟨xs,hx⟩:=h.mem.row g R hg
  refine⟨xs,hx.1,?_⟩
  rcases hx.2 with h0 | ⟨g',cap,cur,e,h1,h2,h3⟩
  ·exact .inl h0
  ·refine .inr ⟨g',cap,cur,e,h1,?_,h3⟩
   rw[hblk g' (by rintro rfl;exact h.mem.orow k g R g' hb hg (by rw[e];rfl))];exact h2
 ·intro k' c hk;rw[hsz];exact h.mem.olt k' c hk
 ·rw[Zo,if_neg (by simp[Key.eq])] at hx
  obtain⟨c,v,h1,h2,h3⟩:=h.ce k' off' d' hx
  exact⟨c,v,h1,(World.cell?_of_block (a:=⟨c,off',none⟩) (hblk c (by rintro rfl;exact h.mem.oblk k k' _ hb h1))).trans h2,hmono h3⟩
 ·rw[Zo,if_neg (by simp[Key.eq])] at hx
  obtain⟨R,h1,h2⟩:=h.ro g d' hx
  exact⟨R,h1,h2.mono (fun c ho=>hblk c (by rintro rfl;exact h.mem.orow k g R _ hb h1 ho)) (Mp.le.refl m) hki (fun _ _ h=>h) fun _ _ _ h=>h⟩
 ·rw[Zo,if_neg (by simp[Key.eq])] at hx
  obtain⟨X,J,e,hX⟩:=h.jk d' hx
  have hsame:∀ c,X c→w'.heap[c]?=w.heap[c]?:=fun c hc=>hblk c (by rintro rfl;exact hX.obj _ k hc hb)
  exact⟨X,J,e,{ hX with holds:=hX.stable _ (by rw[hsz];exact Nat.le_refl _) hsame,stable:=fun w2 hs hx2=>hX.stable w2 (by rw[hsz] at hs;exact hs) fun c hc=>(hx2 c hc).trans (hsame c hc),lt:=fun c hc=>by rw[hsz];exact hX.lt c hc }⟩
 ·rw[Zo] at hx
  by_cases he:Key.eq (.o k) (.o k')=true
  ·rw[if_pos he] at hx
   cases hx
   have:=Key.eq_iff.1 he
   cases this
   exact⟨b,hb,hd w' hbb hki⟩
  ·rw[if_neg he] at hx
   obtain⟨c,h1,h2⟩:=h.ok k' d' hx
   refine⟨c,h1,h2.mono (hblk c ?_) (Mp.le.refl m) hki fun _ _ h=>h⟩
   rintro rfl
   have:=h.mem.oinj k k' _ hb h1
   subst this
   exact he (Key.eq_refl _)
theorem St.newObjB (h:St cx Fr m Im w a σ){k:Nat}(hk:Fr k){b:Nat}(hb:Below w.heap.size w w')(hbs:w.heap.size≤b)(hbl:b<w'.heap.size){d:D}(hd:∀ (m':Mp),XB m' Im w' b d):
  St cx (XA Fr k) (m.setO k b) Im w' a (Xt (.o k) d σ)∧m.le (m.setO k b):=by
 have h1:=h.below0 hb
 have hle:m.le (m.setO k b):=Mp.setO_le (h.mem.fr k hk).2.2
 have hcase:∀ {x c},(m.setO k b).obj x=some c→(x=k∧c=b)∨(x≠k∧m.obj x=some c):=fun {x c} hx=>by
  by_cases e:x=k
  ·left;simp[Mp.setO,e] at hx;exact⟨e,hx.symm⟩
  ·right;simp[Mp.setO,e] at hx;exact⟨e,hx⟩
 refine⟨⟨{ h1.mem with fr:=?_,m0o:=?_,oown:=?_,olt:=?_,onim:=?_,oinj:=?_,oblk:=?_,orow:=?_,dis:=?_ },h1.df,h1.nt,fun x d hx=>(h1.tm x d (by rw[Zo,if_neg (by simp[Key.eq])] at hx;exact hx)).mono hle (Z6.refl _ _) (fun _ _ h=>h),fun x off d hx=>?_,fun g d hx=>?_,fun d hx=>?_,fun x d hx=>?_⟩,hle⟩
 ·intro x hx;refine⟨(h.mem.fr x hx.1).1,(h.mem.fr x hx.1).2.1,?_⟩;simp[Mp.setO,hx.2,(h.mem.fr x hx.1).2.2]
 ·intro x c hx;exact hle.obj x c (h.mem.m0o x c hx)
 ·intro x c hx;rcases hcase hx with⟨_,rfl⟩ | ⟨_,hx⟩;exact .inr (Nat.le_trans h.mem.off.size hbs);exact h.mem.oown x c hx
 ·intro x c hx;rcases hcase hx with⟨_,rfl⟩ | ⟨_,hx⟩;exact hbl;exact h1.mem.olt x c hx
 ·intro x c o hx hi
  rcases hcase hx with⟨_,rfl⟩ | ⟨_,hx⟩
  ·obtain⟨v,hv⟩:=h.mem.im _ _ hi
   exact absurd (Ya hv) (Nat.not_lt.2 hbs)
  ·exact h.mem.onim x c o hx hi
 ·intro x y c hx hy
  rcases hcase hx with⟨e1,e2⟩ | ⟨_,hx⟩ <;> rcases hcase hy with⟨e3,e4⟩ | ⟨_,hy⟩
  ·rw[e1,e3]
  ·have:=h.mem.olt y _ hy;omega
  ·have:=h.mem.olt x _ hx;omega
  ·exact h.mem.oinj x y c hx hy
 ·intro x y c hx hy
  rcases hcase hx with⟨_,rfl⟩ | ⟨_,hx⟩
  ·exact absurd (h.mem.lt y _ hy) (Nat.not_lt.2 hbs)
  ·exact h.mem.oblk x y c hx hy
 ·intro x g R c hx hg hc
  rcases hcase hx with⟨_,rfl⟩ | ⟨_,hx⟩
  ·obtain⟨xs,hxs⟩:=h.mem.row g R hg
   exact absurd (Wo hxs hc).2 (Nat.not_lt.2 hbs)
  ·exact h.mem.orow x g R c hx hg hc
 ·intro x c hx
  have hx':m.blk x=some c:=hx
  by_cases e:x=k
  ·subst e;rw[(h.mem.fr x hk).1] at hx';cases hx'
  ·have:=h.mem.dis x c hx'
   simp[Mp.setO,e,this]
 ·rw[Zo,if_neg (by simp[Key.eq])] at hx
  obtain⟨c,v,q1,q2,q3⟩:=h1.ce x off d hx
  exact⟨c,v,q1,q2,q3.mono hle (Z6.refl _ _) fun _ _ h=>h⟩
 ·rw[Zo,if_neg (by simp[Key.eq])] at hx
  obtain⟨R,q1,q2⟩:=h1.ro g d hx
  exact⟨R,q1,q2.mono (fun _ _=>rfl) hle (Z6.refl _ _) (fun _ _ h=>h) fun _ _ _ h=>h⟩
 ·rw[Zo,if_neg (by simp[Key.eq])] at hx
  obtain⟨X,J,rfl,hX0⟩:=h.jk d hx
  obtain⟨X',J',e,hX⟩:=h1.jk _ hx
  cases e
  refine⟨X,J,rfl,{ hX with obj:=fun c x hc hx=>?_ }⟩
  rcases hcase hx with⟨_,rfl⟩ | ⟨_,hx⟩
  ·exact absurd (hX0.lt _ hc) (Nat.not_lt.2 hbs)
  ·exact hX0.obj c x hc hx
 ·rw[Zo] at hx
  by_cases he:Key.eq (.o k) (.o x)=true
  ·rw[if_pos he] at hx
   cases hx
   have:=Key.eq_iff.1 he
   cases this
   exact⟨b,by simp[Mp.setO],hd _⟩
  ·rw[if_neg he] at hx
   obtain⟨c,q1,q2⟩:=h1.ok x d hx
   exact⟨c,hle.obj x c q1,q2.mono rfl hle (Z6.refl _ _) fun _ _ h=>h⟩
theorem St.newObj (h:St cx Fr m Im w a σ){k:Nat}(hk:Fr k){o:Obj}{d:D}(hd:∀ (m':Mp) (w':World),w'.heap[w.heap.size]?=some o→XB m' Im w' w.heap.size d):
  St cx (XA Fr k) (m.setO k w.heap.size) Im (w.alloc o) a (Xt (.o k) d σ)∧m.le (m.setO k w.heap.size):=
 h.newObjB hk ((Below.refl _ _).alloc (Nat.le_refl _) _) (Nat.le_refl _) (by simp) fun m'=>hd m' _ (heap_alloc_new w o)
end
end Go.Proofs.YtclihnccilkohaaGreat
