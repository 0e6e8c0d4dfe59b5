/-
  Parts of the proof.
-/
import Derived.Test.YtclihnccilkohaaGreatRowAuditChecksp2
import Derived.Laws.MakeOwn
import Derived.OrdersHeld
import Derived.RegionTactic
import Derived.LoopN
import Derived.Scope
set_option maxRecDepth 100000
set_option maxHeartbeats 1000000
set_option linter.unusedVariables false
set_option linter.unusedSimpArgs false
namespace Go.Proofs.YtclihnccilkohaaGreat
open Go.RowKit
def UD:List D→Nat→List D→List D
 | r,_,[]=>r
 | r,j,d :: ds=>UD (r.set j d) (j+1) ds
def T0 (r:List D)(j n:Nat)(c:List D):List D:=if j=0∧c.length=n then c else UD r j c
def Sq (n:Nat):D→Option (List (List D))
 | .sl n' l _=>if n'==n then some l else none
 | .v (.slice _ 0 _)=>some []
 | _=>none
def M1 (T:List (Nat×TI))(σ:List (Key×D))(nm:Nat)(t:Nat)(x y:D):Option (D×List (Key×D)×List Key):=match Xn T t with
 | none=>none
 | some ti=>match ti.el with
  | none=>none
  | some E=>match Xn T E with
   | none=>none
   | some te=>match Sq te.sz y with
    | none=>none
    | some l2=>if 0<te.sz∧te.bys≤1000 then (match x with
     | .v (.slice none 0 0)=>if l2.length≤1000000 then some (.sl te.sz l2 (some nm),[(.r nm,.rw E te.sz l2.length)],[]) else none
     | .sl n l (some g)=>match get σ (.r g) with
      | some (.rw E' n' len)=>if E'=E∧n'=te.sz∧n=te.sz∧len=l.length∧l.length+l2.length≤1000000 then some (.sl n (l++l2) (some g),[(.r g,.rw E n (l++l2).length)],[.r g]) else none
      | _=>none
     | .ps g len=>match get σ (.r g) with
      | some (.rp E' n' l)=>if E'=E∧n'=te.sz∧len=l.length∧l.length+l2.length≤1000000 then some (.ps g (len+l2.length),[(.r g,.rp E' n' (l++l2))],[.r g]) else none
      | some (.rw E' n' 0)=>if E'=E∧n'=te.sz∧len=0∧l2.length≤1000000 then some (.ps g l2.length,[(.r g,.rp E' n' l2)],[.r g]) else none
      | _=>none
     | .cl n l=>if n=te.sz∧0<l2.length∧l.length+l2.length≤1000000 then some (.sl n (l++l2) (some nm),[(.r nm,.rw E n (l++l2).length)],[]) else none
     | _=>none) else none
def Tl:Nat→List Nat→Bool
 | _,[]=>true
 | k,i :: l=>i==k&&Tl (k+1) l
def Uu (te:TI):List D→Option (List (List D))
 | []=>some []
 | d :: l=>match WP te d with
  | some c=>(Uu te l).map (c :: ·)
  | none=>none
def Kl (T:List (Nat×TI))(σ:List (Key×D))(nm:Nat)(t len:Nat)(parts:List (Nat×Operand)):Option (D×List (Key×D)×List Key):=match Xn T t with
 | none=>none
 | some ti=>match ti.el with
  | none=>none
  | some E=>match Xn T E with
   | none=>none
   | some te=>if parts.length==len&&Tl 0 (parts.map (·.1))&&decide (0<te.sz)&&decide (len * te.sz≤16777216) then (match evs σ (parts.map (·.2)) with
    | none=>none
    | some ds=>(Uu te ds).map fun rows=>(.sl te.sz rows (some nm),[(.r nm,.rw E te.sz len)],[])) else none
def OC (T:List (Nat×TI))(nm:Nat)(t:Nat)(l c:Option D):Option (D×List (Key×D)×List Key):=match Xn T t with
 | none=>none
 | some ti=>match ti.el with
  | none=>none
  | some E=>match Xn T E with
   | none=>none
   | some te=>match l,c with
    | some (.v (.int .i64 0)),some (.v (.int .i64 n))=>if 0<te.sz∧te.bys≤1000∧0≤n∧n≤1000000 then some (.sl te.sz [] (some nm),[(.r nm,.rw E te.sz 0)],[]) else none
    | _,_=>none
def JJ (te:TI)(l:List (Int×D))(n:Int):Bool→D
 | true=>.tu [(VD l n).getD (zD te),.v (.bool (VD l n).isSome)]
 | false=>(VD l n).getD (zD te)
def HA (T:List (Nat×TI))(σ:List (Key×D))(t:Nat)(x y:Option D)(ok:Bool):Option (D×List (Key×D)×List Key):=match Xn T t,x,y with
 | some ti,some (.mo k),some (.v (.int .i64 n))=>(match ti.mv with
  | none=>none
  | some e=>(match Xn T e,get σ (.o k) with
   | some te,some (.mp l)=>some (JJ te l n ok,[],[.o k])
   | _,_=>none))
 | _,_,_=>none
def Q5 (T:List (Nat×TI))(σ:List (Key×D))(t:Nat)(x y z:Option D):Option (D×List (Key×D)×List Key):=match Xn T t,x,y,z with
 | some ti,some (.mo k),some (.v (.int .i64 n)),some d=>(match ti.mv with
  | none=>none
  | some _=>(match get σ (.o k) with
   | some (.mp l)=>some (.v undef,[(.o k,.mp (Qu l n d))],[.o k])
   | _=>none))
 | _,_,_,_=>none
def Mf (T:List (Nat×TI))(σ:List (Key×D))(t:Nat)(d:D):Option (D×List (Key×D)×List Key):=match Xn T t,d with
 | some ti,.pt g len n lo=>(match ti.el with
  | some E=>(match Xn T E,get σ (.r g) with
   | some te,some (.rp E' n' l)=>if E'=E∧n'=n∧te.sz=n∧0<n∧l.length=len∧lo≤len then some (.tu [],[(.r g,.rp E' n' (l.take lo++List.replicate (len-lo) (te.z.map .v)))],[.r g]) else none
   | _,_=>none)
  | none=>none)
 | _,_=>none
def OD (T:List (Nat×TI))(σ:List (Key×D))(nm:Nat)(o:Oper):Option (D×List (Key×D)×List Key):=match o.op with
 | .alloc t=>(Xn T t).map fun ti=>(.p nm 0,cellsOf nm 0 (ti.z.map .v),[])
 | .box t x=>(Xn T t).bind fun ti=>(ev σ x).bind fun d=>(WP ti d).map fun l=>(.p nm 0,cellsOf nm 0 l,[])
 | .store t x y=>(Xn T t).bind fun ti=>match ev σ x with
  | some (.p k off)=>(ev σ y).bind fun d=>(WP ti d).bind fun l=>(cellsAt σ k off ti.sz).map fun _=>(.v undef,cellsOf k off l,(List.range ti.sz).map fun i=>.c k (off+i))
  | some (.pr g len n i j)=>match get σ (.r g) with
   | some (.rp E n' l)=>if n'=n∧l.length=len∧i<len∧j+ti.sz≤n then (ev σ y).bind fun d=>(WP ti d).map fun c=>(.v undef,[(.r g,.rp E n (l.set i (T0 (l.getD i []) j n c)))],[.r g]) else none
   | _=>none
  | _=>none
 | .buildSlice t len parts=>Kl T σ nm t len parts.toList
 | .makeSlice t l c=>OC T nm t (ev σ l) (ev σ c)
 | .lookup t x y ok=>HA T σ t (ev σ x) (ev σ y) ok
 | .mapUpdate t x y z=>Q5 T σ t (ev σ x) (ev σ y) (ev σ z)
 | .insert t x y z=>Q5 T σ t (ev σ x) (ev σ y) (ev σ z)
 | .makeMap _ r=>(match r with | none=>some (.mo nm,[(.o nm,.mp [])],[]) | some _=>none)
 | .call c=>match c.callee,c.args.toList,c.argTypes.toList with
  | .builtin .append,[x,y],[t,t']=>if t=t' then (ev σ x).bind fun d=>(ev σ y).bind fun e=>M1 T σ nm t d e else none
  | .builtin .clear,[x],[t]=>(ev σ x).bind fun d=>Mf T σ t d
  | _,_,_=>none
 | _=>none
section
variable {P:Program} {T:List (Nat×TI)} {cx:Cx} {Fr Fr':Nat→Prop} {m m':Mp} {Im Im':Nat→Nat→Prop} {w w':World} {a:Act} {σ σ':List (Key×D)}
theorem St.putro (h:St cx Fr m Im w a σ){g:Nat}{R:Vi}{d:D}(hg:m.row g=some R)(hd:WW m Im w R d):St cx Fr m Im w a (XW (.r g) d σ) where
 mem:=h.mem
 df:=h.df
 nt:=h.nt
 tm x d' hx:=by rw[Zo,if_neg (by simp[Key.eq])] at hx;exact h.tm x d' hx
 ce k off d' hx:=by rw[Zo,if_neg (by simp[Key.eq])] at hx;exact h.ce k off d' hx
 ro x d' hx:=by
  rw[Zo] at hx
  by_cases he:Key.eq (.r g) (.r x)=true
  ·rw[if_pos he] at hx
   cases hx
   have:=Key.eq_iff.1 he
   cases this
   exact⟨R,hg,hd⟩
  rw[if_neg he] at hx;exact h.ro x d' hx
 jk d' hx:=by rw[Zo,if_neg (by simp[Key.eq])] at hx;exact h.jk d' hx
 ok k d' hx:=by rw[Zo,if_neg (by simp[Key.eq])] at hx;exact h.ok k d' hx
theorem St.putr (h:St cx Fr m Im w a σ){g:Nat}{R:Vi}(hg:m.row g=some R):St cx Fr m Im w a (XW (.r g) (.rw R.E R.n R.len) σ):=h.putro hg .rw
theorem St.turnP (h:St cx Fr m Im w a σ){g:Nat}{R R':Vi}(hg:m.row g=some R)(hos:w'.os=w.os∧w'.tape=w.tape∧w'.output=w.output)(hsz:w.heap.size≤w'.heap.size) 
  (hsame:∀ c,c<w.heap.size→R.hv.ownBlock≠some c→w'.heap[c]?=w.heap[c]?) (hni:∀ b o,R.hv.ownBlock=some b→¬ Im b o) (hcase:∀ b,R'.hv.ownBlock=some b→R.hv.ownBlock=some b∨w.heap.size≤b)
  (hlen:R.len≤R'.len∧(R'.len=R.len→R'.hv=R.hv)) (hown:∃ xs,w'.ownsRow 0 R'.E R'.n R'.hv R'.len xs) {d:D} (hd:m.le (m.setR g R')→Z8 Im w w'→WW (m.setR g R') Im w' R' d) :
  St cx Fr (m.setR g R') Im w' a (XW (.r g) d σ)∧m.le (m.setR g R')∧Z8 Im w w':=by
 have hki:Z8 Im w w':=fun c o x hi hx=>(World.cell?_of_block (a:=⟨c,o,none⟩) (hsame c (YR hx) fun e=>hni c o e hi)).trans hx
 have hle:m.le (m.setR g R'):=Mp.setR_le fun R0 h0=>by rw[hg] at h0;cases h0;exact hlen
 have hd:=hd hle hki
 refine⟨?_,hle,hki⟩
 have hrc:∀ {x R0},(m.setR g R').row x=some R0→(x=g∧R0=R')∨(x≠g∧m.row x=some R0):=fun {x R0} hx=>by
  by_cases e:x=g
  ·left;simp[Mp.setR,e] at hx;exact⟨e,hx.symm⟩
  right;simp[Mp.setR,e] at hx;exact⟨e,hx⟩
 have hmono:∀ {x d},Yz m Im w x d→Yz (m.setR g R') Im w' x d:=fun hx=>hx.mono hle hki fun _ _ h=>h
 have hnb:∀ b,R'.hv.ownBlock=some b→∀ c,c<w.heap.size→R.hv.ownBlock≠some c→c≠b:=fun b hb c hc hne e=>by
  subst e
  rcases hcase c hb with h1 | h1
  ·exact hne h1
  omega
 have hnamed:∀ x c,m.blk x=some c→c<w.heap.size∧R.hv.ownBlock≠some c:=fun x c hx=>⟨h.mem.lt x c hx,fun e=>h.mem.rblk g R c x hg e hx⟩
 have hother:∀ x R0 c,x≠g→m.row x=some R0→R0.hv.ownBlock=some c→c<w.heap.size∧R.hv.ownBlock≠some c:=fun x R0 c hne hx hc=>⟨h.mem.rlt hx hc,fun e=>hne (h.mem.rinj x g R0 R c hx hg hc e)⟩
 refine⟨{ h.mem with off:=?off,im:=?im,lt:=?lt,free:=?free,row:=?row,rIm:=?rIm,rblk:=?rblk,rinj:=?rinj,fr:=?fr,olt:=?olt,orow:=?orow,k0:=h.mem.k0.trans (hki.weaken h.mem.im0),rown:=?rown,m0r:=h.mem.m0r_le hle },h.df,h.nt,fun x d hx=>hmono (h.tm x d (by rw[Zo,if_neg (by simp[Key.eq])] at hx;exact hx)),fun x off d hx=>?ce,fun x d hx=>?ro,fun d hd=>?jk,fun x d hd=>?okk⟩
 case off=>
  refine⟨hos.1.trans h.mem.off.os,hos.2.1.trans h.mem.off.tape,hos.2.2.trans h.mem.off.output,Nat.le_trans h.mem.off.size hsz,fun c hc hC=>?_⟩
  refine(hsame c (Nat.lt_of_lt_of_le hc h.mem.off.size) fun e=>?_).trans (h.mem.off.block c hc hC)
  rcases h.mem.rown g R c hg e with h1 | h1
  ·omega
  exact hC (cx.hCR c h1)
 case im=>
  intro c o hi
  obtain⟨x,hx⟩:=h.mem.im c o hi
  exact⟨x,hki c o x hi hx⟩
 case lt=>intro x c hx;exact Nat.lt_of_lt_of_le (h.mem.lt x c hx) hsz
 case free=>intro x c o hx;exact(World.frozen?_of_block (a:=⟨c,o,none⟩) (hsame c (hnamed x c hx).1 (hnamed x c hx).2)).trans (h.mem.free x c o hx)
 case row=>
  intro x R0 hx
  rcases hrc hx with⟨rfl,rfl⟩ | ⟨hne,hx⟩
  ·exact hown
  obtain⟨zs,hz⟩:=h.mem.row x R0 hx
  exact⟨zs,Tv hz fun c hc=>hsame c (hother x R0 c hne hx hc).1 (hother x R0 c hne hx hc).2⟩
 case rIm=>
  intro x R0 c o hx hc hi
  rcases hrc hx with⟨rfl,rfl⟩ | ⟨hne,hx⟩
  ·exfalso
   rcases hcase c hc with h1 | h1
   ·exact hni c o h1 hi
   obtain⟨u,hu⟩:=h.mem.im c o hi
   have:=YR hu;omega
  exact h.mem.rIm x R0 c o hx hc hi
 case rblk=>
  intro x R0 c y hx hc hy
  rcases hrc hx with⟨rfl,rfl⟩ | ⟨hne,hx⟩
  ·exact hnb c hc c (hnamed y c hy).1 (hnamed y c hy).2 rfl
  exact h.mem.rblk x R0 c y hx hc hy
 case rinj=>
  intro x y R0 R1 c hx hy hc hc'
  rcases hrc hx with⟨e1,e2⟩ | ⟨n1,hx⟩ <;> rcases hrc hy with⟨e3,e4⟩ | ⟨n2,hy⟩
  ·rw[e1,e3]
  ·rw[e2] at hc;exact absurd rfl (hnb c hc c (hother y R1 c n2 hy hc').1 (hother y R1 c n2 hy hc').2)
  ·rw[e4] at hc';exact absurd rfl (hnb c hc' c (hother x R0 c n1 hx hc).1 (hother x R0 c n1 hx hc).2)
  exact h.mem.rinj x y R0 R1 c hx hy hc hc'
 case fr=>
  intro x hx
  have:=h.mem.fr x hx
  refine⟨this.1,?_,this.2.2⟩
  have hne:x≠g:=by rintro rfl;rw[this.2.1] at hg;cases hg
  simp[Mp.setR,hne,this.2.1]
 case olt=>intro x c hx;exact Nat.lt_of_lt_of_le (h.mem.olt x c hx) hsz
 case orow=>
  intro x y R0 c hx hy hc
  rcases hrc hy with⟨rfl,rfl⟩ | ⟨hne,hy⟩
  ·exact hnb c hc c (h.mem.olt x c hx) (fun e=>h.mem.orow x y R c hx hg e) rfl
  exact h.mem.orow x y R0 c hx hy hc
 case rown=>
  intro x R0 c hx hc
  rcases hrc hx with⟨rfl,rfl⟩ | ⟨hne,hx⟩
  ·rcases hcase c hc with h1 | h1
   ·exact h.mem.rown x R c hg h1
   exact .inl (Nat.le_trans h.mem.off.size h1)
  exact h.mem.rown x R0 c hx hc
 case okk=>
  rw[Zo,if_neg (by simp[Key.eq])] at hd
  obtain⟨c,h1,h2⟩:=h.ok x d hd
  exact⟨c,h1,h2.mono (hsame c (h.mem.olt x c h1) fun e=>h.mem.orow x g R c h1 hg e) hle hki fun _ _ h=>h⟩
 case ce=>
  rw[Zo,if_neg (by simp[Key.eq])] at hx
  obtain⟨c,v,h1,h2,h3⟩:=h.ce x off d hx
  exact⟨c,v,h1,(World.cell?_of_block (a:=⟨c,off,none⟩) (hsame c (hnamed x c h1).1 (hnamed x c h1).2)).trans h2,hmono h3⟩
 case ro=>
  rw[Zo] at hx
  by_cases he:Key.eq (.r g) (.r x)=true
  ·rw[if_pos he] at hx
   cases hx
   have:=Key.eq_iff.1 he
   cases this
   exact⟨R',by simp[Mp.setR],hd⟩
  rw[if_neg he] at hx
  obtain⟨R0,h1,h2⟩:=h.ro x d hx
  have hne:x≠g:=fun e=>he (by rw[e];exact Key.eq_refl _)
  exact⟨R0,by simp[Mp.setR,hne,h1],h2.mono (fun c hc=>hsame c (hother x R0 c hne h1 hc).1 (hother x R0 c hne h1 hc).2) hle hki (fun _ _ h=>h) fun _ _ _ h=>h⟩
 case jk=>
  rw[Zo,if_neg (by simp[Key.eq])] at hd
  obtain⟨X,J,e,hX⟩:=h.jk d hd
  have hxs:∀ c,X c→w'.heap[c]?=w.heap[c]?:=fun c hc=>hsame c (hX.lt c hc) (hX.row c g R hc hg)
  refine⟨X,J,e,hX.stable _ hsz hxs,fun w2 hs hx2=>hX.stable w2 (Nat.le_trans hsz hs) fun c hc=>(hx2 c hc).trans (hxs c hc),fun c hc=>Nat.lt_of_lt_of_le (hX.lt c hc) hsz,hX.own,hX.nim,hX.blk,?_,hX.obj⟩
  intro c x R0 hc hx e2
  rcases hrc hx with⟨rfl,rfl⟩ | ⟨hne,hx⟩
  ·exact hnb c e2 c (hX.lt c hc) (hX.row c x R hc hg) rfl
  exact hX.row c x R0 hc hx e2
theorem Tc:∀ (ds pre r:List D),r.length=ds.length→UD (pre++r) pre.length ds=pre++ds
 | [],pre,r,h=>by
  have:r=[]:=List.length_eq_zero_iff.1 h
  subst this;rfl
 | d :: ds,pre,[],h=>by simp at h
 | d :: ds,pre,x :: r,h=>by
  rw[UD]
  have e:(pre++x :: r).set pre.length d=(pre++[d])++r:=by simp
  rw[e]
  have:=Tc ds (pre++[d]) r (by simpa using h)
  simpa using this
theorem St.rowSet (h:St cx Fr m Im w a σ){g b:Nat}{R:Vi}(hg:m.row g=some R)(hb:R.hv.ownBlock=some b){l:List (List D)}(hro:WW m Im w R (.rp R.E R.n l)){i j:Nat}(hi:i<l.length)(hj:j<R.n){v:Value}{d:D}(hr:Yz m Im w v d)(h1:v.oneCell'=true):
  St cx Fr (m.setR g R) Im (w.setCell ⟨b,i * R.n+j,none⟩ v) a (XW (.r g) (.rp R.E R.n (l.set i ((l[i]).set j d))) σ)∧m.le (m.setR g R)∧Z8 Im w (w.setCell ⟨b,i * R.n+j,none⟩ v)∧WW (m.setR g R) Im (w.setCell ⟨b,i * R.n+j,none⟩ v) R (.rp R.E R.n (l.set i ((l[i]).set j d))):=by
 cases hro with
 | rp _ xs hl hn hown hx1 hrr hni=>
 obtain⟨cap,hv⟩:∃ cap,R.hv=.slice (some ⟨b,0,none⟩) R.len cap:=by
  rcases hown.2 with⟨e,_⟩ | ⟨g',cap,cur,e,_⟩
  ·rw[e] at hb;cases hb
  rw[e] at hb;cases hb;exact⟨cap,e⟩
 have hst:(w.setCell ⟨b,i * R.n+j,none⟩ v).ownsRow 0 R.E R.n R.hv R.len (xs.set (i * R.n+j) v):=by
  have h2:=hown
  rw[hv] at h2 ⊢
  exact(World.ownsRow.stored h2 _ v).1
 have hij:i * R.n+j<xs.length:=by
  rw[hown.1]
  have:(i+1) * R.n≤R.len * R.n:=Nat.mul_le_mul_right _ (by omega)
  rw[Nat.succ_mul] at this;omega
 have key:∀ hle:m.le (m.setR g R),∀ hki:Z8 Im w (w.setCell ⟨b,i * R.n+j,none⟩ v),WW (m.setR g R) Im (w.setCell ⟨b,i * R.n+j,none⟩ v) R (.rp R.E R.n (l.set i ((l[i]).set j d))):=fun hle hki=>by
  refine .rp _ (xs.set (i * R.n+j) v) (by simpa using hl) (fun i2 h2=>?_) hst (fun u hu=>?_) (fun i2 h2 j2 hj2=>?_) hni
  ·rw[List.getElem_set]
   split
   ·rw[List.length_set];exact hn i hi
   exact hn i2 (by simpa using h2)
  ·rcases List.mem_or_eq_of_mem_set hu with hu | rfl
   ·exact hx1 u hu
   exact h1
  have h2':i2<l.length:=by simpa using h2
  have hn2:=hn i2 h2'
  have hni':=hn i hi
  by_cases e:i=i2
  ·subst e
   have e1:(l.set i ((l[i]).set j d))[i]=(l[i]).set j d:=by simp
   have hj2':j2<l[i].length:=by rw[e1,List.length_set] at hj2;exact hj2
   simp only[e1,List.getElem_set]
   split
   ·rename_i e3;subst e3
    rw[List.getD_eq_getElem?_getD,List.getElem?_set_self hij]
    exact hr.mono hle hki fun _ _ h=>h
   rename_i e3
   rw[List.getD_eq_getElem?_getD,List.getElem?_set_ne (by omega),←List.getD_eq_getElem?_getD]
   exact(hrr i hi j2 hj2').mono hle hki fun _ _ h=>h
  have e1:(l.set i ((l[i]).set j d))[i2]=l[i2]:=by rw[List.getElem_set];exact if_neg e
  have hj2':j2<l[i2].length:=by rw[e1] at hj2;exact hj2
  simp only[e1]
  have hne:i * R.n+j≠i2 * R.n+j2:=fun e3=>e (by
   have a1:(i * R.n+j) / R.n=i:=by rw[Nat.mul_comm,Nat.mul_add_div (by omega),Nat.div_eq_of_lt hj];rfl
   have a2:(i2 * R.n+j2) / R.n=i2:=by rw[Nat.mul_comm,Nat.mul_add_div (by omega),Nat.div_eq_of_lt (by omega)];rfl
   rw[←a1,e3,a2])
  rw[List.getD_eq_getElem?_getD,List.getElem?_set_ne hne,←List.getD_eq_getElem?_getD]
  exact(hrr i2 h2' j2 hj2').mono hle hki fun _ _ h=>h
 obtain⟨q1,q2,q3⟩:=h.turnP (R':=R) (w':=w.setCell ⟨b,i * R.n+j,none⟩ v) hg ⟨rfl,rfl,rfl⟩ (by simp) (fun c _ hne=>Below.heap_setCell _ _ _ _ (fun e=>hne (by rw[hb,e]))) hni (fun c hc=>.inl hc) ⟨Nat.le_refl _,fun _=>rfl⟩ ⟨_,hst⟩ key
 exact⟨q1,q2,q3,key q2 q3⟩
theorem St.rowSets:∀ (ds:List D) (vs:List Value) (j:Nat) {m:Mp} {w:World} {σ:List (Key×D)} (h:St cx Fr m Im w a σ) {g b:Nat} {R:Vi} (hg:m.row g=some R) (hb:R.hv.ownBlock=some b) {l:List (List D)} (hro:WW m Im w R (.rp R.E R.n l)) {i:Nat} (hi:i<l.length) (hj:j+ds.length≤R.n)
  (hr:YU m Im w vs ds) (h1:∀ v∈vs,v.oneCell'=true),∃ m' w',w.setCells b (i * R.n+j) vs=w'∧St cx Fr m' Im w' a (XW (.r g) (.rp R.E R.n (l.set i (UD l[i] j ds))) σ)∧m.le m'∧Z8 Im w w'
 | [],[],j,m,w,σ,h,g,b,R,hg,hb,l,hro,i,hi,hj,hr,h1=>⟨m,w,rfl,by
   have e:l.set i (UD l[i] j [])=l:=by simp[UD]
   rw[e];exact h.putro hg hro,Mp.le.refl m,Z8.refl _ _⟩
 | [],_ :: _,_,_,_,_,_,_,_,_,_,_,_,_,_,_,_,hr,_=>hr.elim
 | _ :: _,[],_,_,_,_,_,_,_,_,_,_,_,_,_,_,_,hr,_=>hr.elim
 | d :: ds,v :: vs,j,m,w,σ,h,g,b,R,hg,hb,l,hro,i,hi,hj,hr,h1=>by
  simp only[List.length_cons] at hj
  obtain⟨s1,s2,s3,s4⟩:=h.rowSet hg hb hro hi (show j<R.n by omega) hr.1 (h1 v (by simp))
  obtain⟨m',w',e1,q1,q2,q3⟩:=St.rowSets ds vs (j+1) s1 (g:=g) (R:=R) (by simp[Mp.setR]) hb s4 (i:=i) (by simpa using hi) (by omega) (hr.2.mono s2 s3 fun _ _ h=>h) (fun u hu=>h1 u (by simp[hu]))
  have e2:(l.set i ((l[i]).set j d))[i]'(by simpa using hi)=(l[i]).set j d:=by simp
  rw[e2,List.set_set] at q1
  refine⟨m',w',by rw[←e1];rfl,?_,s2.trans q2,s3.trans q3⟩
  refine q1.sub fun k x hk=>?_
  simp only[Zo] at hk ⊢
  split
  ·rename_i hc;rw[if_pos hc] at hk;exact hk
  rename_i hc;rw[if_neg hc] at hk;exact hk
theorem Qe (hT : Zd P T) (h : St cx Fr m Im w a σ) {t E : Nat} {ti te : TI} (hti : Xn T t = some ti) (hE : ti.el = some E) (hte : Xn T E = some te) (hsz : 0 < te.sz) (hby : te.bys ≤ 1000)
    {g : Nat} {R : Vi} (hg : m.row g = some R) (hRE : R.E = E) (hRn : R.n = te.sz) {l l2 : List (List D)} (hl : R.len = l.length) (hx : Yz m Im w R.hv (.sl te.sz l (some g))) {y : Value} {e : D} (hy : Yz m Im w y e) (hs : Sq te.sz e = some l2) (hle : l.length + l2.length ≤ 1000000) (ty : TypeId) :
    ∃ v w' m' Im', (Builtin.append_ #[t, t] ty #[R.hv, y]).run P w = .ok v w' ∧ m.le m' ∧ Z8 Im w w' ∧ (∀ b o, Im b o → Im' b o) ∧ Yz m' Im' w' v (.sl te.sz (l ++ l2) (some g)) ∧ St cx Fr m' Im' w' a (XW (.r g) (.rw E te.sz (l ++ l2).length) σ) := by
  obtain ⟨ei, ed, e1, e2, e3, e4, e5, e6, e7, e8⟩ := (hT _ _ hte).parts
  have hsl := (hT _ _ hti).slice hE
  obtain ⟨xs, hown⟩ := h.mem.row g R hg
  obtain ⟨R2, hlen2, E2, n2⟩ := R
  dsimp only at *
  subst hRE hRn hl
  have hzs := (hT _ _ hte).zsize
  cases hl2 : l2 with
  | nil =>
    subst hl2
    have hrun : (Builtin.append_ #[t, t] ty #[R2, y]).run P w = .ok R2 w := by
      have hsrc : Src P ei.size t y 0 [] w := by
        unfold Sq at hs
        split at hs
        · split at hs
          · cases hs
            obtain ⟨a', c, bl, off, X, rfl, _⟩ := Wk hy
            cases a' with
            | none => exact Src.ofNil w hsl c
            | some ad => exact Src.ofSlice w hsl ad 0 c [] (by simp) (by simp) (by simp)
          cases hs
        · cases hs
          rename_i ad c
          have := Yr.1 hy; subst this
          cases ad with
          | none => exact Src.ofNil w hsl _
          | some ad => exact Src.ofSlice w hsl ad 0 c [] (by simp) (by simp) (by simp)
        cases hs
      rcases hown.2 with ⟨rfl, h0⟩ | ⟨g', cap, cur, rfl, _, _, hnc, _⟩
      · exact run_append_nothing w t t ty _ ei hsl e1 none 0 0 (Nat.le_refl _) y hsrc
      exact run_append_nothing w t t ty _ ei hsl e1 (some ⟨g', 0, none⟩) _ cap hnc y hsrc
    refine ⟨R2, w, m, Im, hrun, Mp.le.refl m, Z8.refl _ _, fun _ _ h => h, by simpa using hx, ?_⟩
    have := h.putr hg
    simpa using this
  | cons r0 rs =>
    have hk : 0 < l2.length := by rw [hl2]; simp
    rw [← hl2]
    clear hl2
    have hy' : ∃ g2, Yz m Im w y (.sl te.sz l2 g2) := by
      unfold Sq at hs
      split at hs
      · split at hs
        · rename_i n' l' g' hn
          have hn : n' = te.sz := by simpa using hn
          cases hs
          exact ⟨g', hn ▸ hy⟩
        cases hs
      · cases hs; simp at hk
      cases hs
    obtain ⟨g2, hy2⟩ := hy'
    obtain ⟨a', c, bl, off, Y, rfl, y1, y2, y3, y4, y5, y6, y7⟩ := Wk hy2
    obtain rfl := y2 hk
    have hdm : ∀ o, o < l2.length * te.sz → o / te.sz < l2.length ∧ o % te.sz < te.sz ∧ o / te.sz * te.sz + o % te.sz = o := fun o ho =>
      ⟨Nat.div_lt_of_lt_mul (by rw [Nat.mul_comm]; exact ho), Nat.mod_lt _ hsz, Nat.div_add_mod' o te.sz⟩
    let news : List Value := (List.range (l2.length * te.sz)).map fun o => Y (o / te.sz) (o % te.sz)
    have hnl : news.length = l2.length * te.sz := by simp [news]
    have hng : ∀ j u, news[j]? = some u → j < l2.length * te.sz ∧ u = Y (j / te.sz) (j % te.sz) := fun j u hu => by
      simp only [news, List.getElem?_map] at hu
      by_cases hj : j < l2.length * te.sz
      · rw [List.getElem?_range hj] at hu; cases hu; exact ⟨hj, rfl⟩
      rw [List.getElem?_eq_none (by simpa using hj)] at hu; cases hu
    obtain ⟨v', w', hrun, hown', hgr⟩ := VE (w := w) (P := P) 0 t ty E2 ei (Xp te) te.sz te.bys hsl e1 e5 e3 e4 hzs hsz R2 l.length xs hown ⟨bl, off, none⟩ l2.length c news hnl
      (fun j u hu => by
        obtain ⟨hj, rfl⟩ := hng j u hu
        obtain ⟨q1, q2, q3⟩ := hdm j hj
        have := (y3 _ _ q1 q2).1
        rw [YA, ← this]
        congr 2
        omega)
      (fun u hu => by
        obtain ⟨j, hj, rfl⟩ := List.getElem_of_mem hu
        obtain ⟨hj2, e⟩ := hng j _ (List.getElem?_eq_getElem hj)
        obtain ⟨q1, q2, q3⟩ := hdm j hj2
        rw [e]; exact y5 _ _ q1 q2)
      (by unfold maxLen; omega)
      (by have : (l.length + l2.length) * te.bys ≤ 1000000 * 1000 := Nat.mul_le_mul hle hby
          omega)
      (Nat.zero_le _)
    obtain ⟨Im', b, hb, i1, i2, i3, i4, i5⟩ := h.grow (g := g) (R := ⟨R2, l.length, E2, te.sz⟩) hg (v' := v') (k := l2.length) (xs := xs) (ys := news) hsz hk hown hown' hgr
    refine ⟨v', w', _, Im', hrun, i4, i3, i1, ?_, by simpa using i5⟩
    obtain ⟨gb, cap, hv', _, hbl⟩ := hown'.form (by omega)
    subst hv'
    have hgb : gb = b := by simpa [Value.ownBlock] using hb
    subst hgb
    have hcap : l.length + l2.length ≤ cap := by
      rcases hown'.2 with ⟨h0, _⟩ | ⟨g', cap', cur, h0, _, _, hnc, _⟩
      · cases h0
      injection h0 with _ _ q; rw [q]; exact hnc
    have hcells : ∀ o u, (xs ++ news)[o]? = some u → w'.cell? ⟨gb, o, none⟩ = some u := fun o u hu => by
      have := hown'.cells (g := gb) rfl o u hu
      rw [XB] at this; exact this
    have hall : (xs ++ news).length = (l.length + l2.length) * te.sz := hown'.1
    have hlt : ∀ i j, i < l.length + l2.length → j < te.sz → i * te.sz + j < (l.length + l2.length) * te.sz := fun i j hi hj => by
      have : (i + 1) * te.sz ≤ (l.length + l2.length) * te.sz := Nat.mul_le_mul_right _ hi
      rw [Nat.succ_mul] at this; omega
    have hxl : xs.length = l.length * te.sz := hown.1
    obtain ⟨a0, c0, b0, o0, X0, x0, x1, x2, x3, x4, x5, x6, x7⟩ := Wk hx
    have hX : ∀ i j, i < l.length → j < te.sz → (xs ++ news)[i * te.sz + j]? = some (X0 i j) := fun i j hi hj => by
      have hij : i * te.sz + j < xs.length := by
        rw [hxl]
        have : (i + 1) * te.sz ≤ l.length * te.sz := Nat.mul_le_mul_right _ hi
        rw [Nat.succ_mul] at this; omega
      rw [List.getElem?_append_left hij, List.getElem?_eq_getElem hij]
      have hc := (x3 i j hi hj).1
      have hR : R2.ownBlock = some b0 := by rw [x0, x2 (by omega)]; rfl
      have hc2 := hown.cells (g := b0) hR _ _ (List.getElem?_eq_getElem hij)
      rw [XB] at hc2
      have ho0 : o0 = 0 := by
        rcases hown.2 with ⟨h0, _⟩ | ⟨g', cap', cur, h0, _⟩
        · rw [h0] at x0; rw [x2 (by omega)] at x0; cases x0
        rw [h0] at x0; rw [x2 (by omega)] at x0; injection x0 with q1 _ _; injection q1 with q1; injection q1 with _ q2 _; exact q2.symm
      rw [ho0, Nat.zero_add, hc2] at hc
      exact hc
    have hY : ∀ i j, i < l2.length → j < te.sz → (xs ++ news)[(l.length + i) * te.sz + j]? = some (Y i j) := fun i j hi hj => by
      rw [List.getElem?_append_right (by rw [hxl, Nat.add_mul]; omega), hxl, show (l.length + i) * te.sz + j - l.length * te.sz = i * te.sz + j by rw [Nat.add_mul]; omega]
      have hij : i * te.sz + j < l2.length * te.sz := by
        have : (i + 1) * te.sz ≤ l2.length * te.sz := Nat.mul_le_mul_right _ hi
        rw [Nat.succ_mul] at this; omega
      simp only [news, List.getElem?_map, List.getElem?_range hij, Option.map_some]
      rw [show i * te.sz + j = j + te.sz * i by rw [Nat.mul_comm]; omega, Nat.add_mul_div_left _ _ hsz, Nat.div_eq_of_lt hj, Nat.zero_add, Nat.add_mul_mod_self_left, Nat.mod_eq_of_lt hj]
    have hmono : ∀ {x d}, Yz m Im w x d → Yz (m.setR g ⟨.slice (some ⟨gb, 0, none⟩) (l.length + l2.length) cap, l.length + l2.length, E2, te.sz⟩) Im' w' x d := fun hx => hx.mono i4 i3 i1
    have key : Yz (m.setR g ⟨.slice (some ⟨gb, 0, none⟩) (l.length + l2.length) cap, l.length + l2.length, E2, te.sz⟩) Im' w' (.slice (some ⟨gb, 0, none⟩) (l ++ l2).length cap) (.sl te.sz (l ++ l2) (some g)) := by
      refine .sl _ cap gb 0 te.sz (fun i j => (xs ++ news).getD (i * te.sz + j) undef) (l ++ l2) (some g) (by rw [List.length_append]; unfold maxLen; omega) (fun _ => rfl) (fun i j hi hj => ?_) (fun i hi => ?_) (fun i j hi hj => ?_) (fun i hi j hj => ?_) (fun r e => ?_)
      · rw [List.length_append] at hi
        have hij := hlt i j hi hj
        rw [Nat.zero_add]
        refine ⟨?_, i2 _ hij⟩
        have hij2 : i * te.sz + j < (xs ++ news).length := by omega
        rw [List.getD_eq_getElem?_getD, List.getElem?_eq_getElem hij2]
        exact hcells _ _ (List.getElem?_eq_getElem hij2)
      · by_cases hi2 : i < l.length
        · rw [List.getElem_append_left hi2]; exact x4 i hi2
        rw [List.getElem_append_right (by omega)]; exact y4 _ _
      · rw [List.length_append] at hi
        rw [List.getD_eq_getElem?_getD]
        by_cases hi2 : i < l.length
        · rw [hX i j hi2 hj]; exact x5 i j hi2 hj
        have := hY (i - l.length) j (by omega) hj
        rw [show l.length + (i - l.length) = i by omega] at this
        rw [this]; exact y5 _ _ (by omega) hj
      · rw [List.length_append] at hi
        rw [List.getD_eq_getElem?_getD]
        by_cases hi2 : i < l.length
        · have hj2 : j < l[i].length := by rw [List.getElem_append_left hi2] at hj; exact hj
          rw [hX i j hi2 (by rw [x4 i hi2] at hj2; exact hj2)]
          simp only [Option.getD_some]
          have := x6 i hi2 j hj2
          simpa [List.getElem_append_left hi2] using hmono this
        have hj2 : j < l2[i - l.length].length := by rw [List.getElem_append_right (by omega)] at hj; exact hj
        have := hY (i - l.length) j (by omega) (by rw [y4 _ (by omega)] at hj2; exact hj2)
        rw [show l.length + (i - l.length) = i by omega] at this
        rw [this]
        simp only [Option.getD_some]
        have := y6 (i - l.length) (by omega) j hj2
        simpa [List.getElem_append_right (show l.length ≤ i by omega)] using hmono this
      cases e
      exact ⟨⟨.slice (some ⟨gb, 0, none⟩) (l.length + l2.length) cap, l.length + l2.length, E2, te.sz⟩, by simp [Mp.setR], by simp, fun _ => by simp⟩
    simpa using key
theorem NR {r c:List D}{j n:Nat}(h:r.length=n):T0 r j n c=UD r j c:=by
 unfold T0
 split
 ·rename_i hc
  obtain⟨rfl,h2⟩:=hc
  have:=Tc c [] r (by omega)
  simpa using this.symm
 rfl
theorem WW.rpi {R:Vi}{E n:Nat}{l:List (List D)}(h:WW m Im w R (.rp E n l)):E=R.E∧n=R.n∧l.length=R.len:=by
 cases h with
 | rp _ _ hl=>exact⟨rfl,rfl,hl⟩
theorem OG:∀ l:List Value,YU m Im w l (l.map .v)
 | []=>trivial
 | x :: l=>⟨.v x,OG l⟩
theorem UE (b:Nat):∀ (xs ys:List Value) (o:Nat) (w:World),w.setCells b o (xs++ys)=(w.setCells b o xs).setCells b (o+xs.length) ys
 | [],ys,o,w=>rfl
 | x :: xs,ys,o,w=>by
  show (w.setCell ⟨b,o,none⟩ x).setCells b (o+1) (xs++ys)=_
  rw[UE b xs ys (o+1)]
  show _=((w.setCell ⟨b,o,none⟩ x).setCells b (o+1) xs).setCells b (o+(xs.length+1)) ys
  rw[show o+1+xs.length=o+(xs.length+1) by omega]
theorem St.rowFill (z:List Value)(hz1:∀ v∈z,v.oneCell'=true):∀ (k lo:Nat) {m:Mp} {w:World} {σ:List (Key×D)} (h:St cx Fr m Im w a σ) {g b:Nat} {R:Vi} (hg:m.row g=some R) (hb:R.hv.ownBlock=some b) {l:List (List D)} (hro:WW m Im w R (.rp R.E R.n l)) (hz:z.length=R.n) (hl:lo+k=l.length),
  ∃ m',St cx Fr m' Im (w.setCells b (lo * R.n) (List.replicate k z).flatten) a (XW (.r g) (.rp R.E R.n (l.take lo++List.replicate k (z.map .v))) σ)∧m.le m'∧Z8 Im w (w.setCells b (lo * R.n) (List.replicate k z).flatten)
 | 0,lo,m,w,σ,h,g,b,R,hg,hb,l,hro,hz,hl=>by
  refine⟨m,?_,Mp.le.refl m,Z8.refl _ _⟩
  rw[List.take_of_length_le (by omega)]
  simp only[List.replicate_zero,List.append_nil]
  exact h.putro hg hro
 | k+1,lo,m,w,σ,h,g,b,R,hg,hb,l,hro,hz,hl=>by
  have hlt:lo<l.length:=by omega
  obtain⟨m1,w1,e1,s1,s2,s3⟩:=St.rowSets (z.map .v) z 0 h hg hb hro hlt (by rw[List.length_map,hz];omega) (OG z) hz1
  have hrow:l[lo].length=R.n:=by
   cases hro with
   | rp _ _ _ hn _ _ _ _=>exact hn lo hlt
  have e2:UD l[lo] 0 (z.map .v)=z.map .v:=by
   have:=Tc (z.map .v) [] l[lo] (by rw[List.length_map,hz,hrow])
   simpa using this
  rw[e2] at s1
  obtain⟨R1,hR1,hro1⟩:=s1.ro g _ (by rw[Zo,if_pos (Key.eq_refl _)])
  have hR1e:R1.E=R.E∧R1.n=R.n∧R1.hv=R.hv:=by
   obtain⟨R',q1,q2,q3⟩:=s2.row g R hg
   rw[hR1] at q1;cases q1
   have i1:=hro1.rpi
   have i2:=hro.rpi
   exact⟨i1.1.symm,i1.2.1.symm,q3 (by rw[←i1.2.2,List.length_set,i2.2.2])⟩
  obtain⟨q1,q2,q3⟩:=hR1e
  obtain⟨m2,t1,t2,t3⟩:=St.rowFill z hz1 k (lo+1) s1 hR1 (by rw[q3];exact hb) (l:=l.set lo (z.map .v)) (by rw[q1,q2];exact hro1) (by rw[q2];exact hz) (by rw[List.length_set];omega)
  have e3:w.setCells b (lo * R.n) (List.replicate (k+1) z).flatten=w1.setCells b ((lo+1) * R.n) (List.replicate k z).flatten:=by
   rw[List.replicate_succ,List.flatten_cons,UE,←e1,hz,Nat.succ_mul,Nat.add_zero]
  rw[e3]
  rw[q2] at t3
  refine⟨m2,?_,s2.trans t2,s3.trans t3⟩
  have e4:(l.set lo (z.map .v)).take (lo+1)++List.replicate k (z.map .v)=l.take lo++List.replicate (k+1) (z.map D.v):=by
   rw[List.take_add_one,List.getElem?_set_self hlt,List.take_set_of_le (Nat.le_refl _),List.replicate_succ]
   simp
  rw[q1,q2,e4] at t1
  refine t1.sub fun key x hk=>?_
  simp only[Zo] at hk ⊢
  split
  ·rename_i hc;rw[if_pos hc] at hk;exact hk
  rename_i hc;rw[if_neg hc] at hk;exact hk
theorem Uy (z:List Value)(hz:0<z.length):∀ k,(Builtin.zeroCells z.toArray k).toList=(List.replicate k z).flatten
 | 0=>by simp[Builtin.zeroCells]
 | k+1=>by
  rw[List.replicate_succ,List.flatten_cons,←Uy z hz k]
  simp only[Builtin.zeroCells,Array.toList_map,Array.toList_range,List.size_toArray]
  rw[Nat.succ_mul,Nat.add_comm (k * z.length),List.range_add,List.map_append,List.map_map]
  congr 1
  ·refine List.ext_getElem (by simp) fun i h1 h2=>?_
   simp at h1
   simp[Nat.mod_eq_of_lt h1,h1]
  refine List.map_congr_left fun i _=>?_
  simp
theorem J1 (hT:Zd P T)(h:St cx Fr m Im w a σ){t ty:Nat}{x:Value}{d V:D}{W:List (Key×D)}{Rd:List Key}(hx:Yz m Im w x d)(hd:Mf T σ t d=some (V,W,Rd)):
  ∃ v w' m',(Builtin.clear_ #[t] ty #[x]).run P w=.ok v w'∧m.le m'∧Z8 Im w w'∧Yz m' Im w' v V∧St cx Fr m' Im w' a (YC σ W):=by
 unfold Mf at hd
 split at hd
 ·rename_i ti g len n lo hti
  split at hd
  ·rename_i E hel
   split at hd
   ·rename_i te E' n' l hte hg
    split at hd
    ·rename_i hc
     obtain⟨rfl,rfl,hsz,hn0,hl,hlo⟩:=hc
     cases hd
     obtain⟨R,hR,hro⟩:=h.ro g _ hg
     have hE:E'=R.E∧n'=R.n∧l.length=R.len:=by
      cases hro with
      | rp _ _ hl=>exact⟨rfl,rfl,hl⟩
     obtain⟨rfl,rfl,o3⟩:=hE
     obtain⟨ei,ed,e1,e2,e3,e4,e5,e6,e7,e8⟩:=(hT _ _ hte).parts
     have hs:=(hT _ _ hti).slice hel
     have hzv:∀ w:World,(zeroValue R.E).run P w=.ok (Xp te) w:=fun w=>by simp[zeroValue,typeInfo,e1,e5]
     have hone:=(hT _ _ hte).one
     simp only[Bool.and_eq_true,Bool.or_eq_true,beq_iff_eq] at hone
     have hcz:(Xp te).cells=te.z.toArray:=by
      unfold Xp
      cases hag:te.ag with
      | true=>simp[Value.cells]
      | false=>
       have hs1:te.sz=1:=by rcases hone.1 with h | h;rw[hag] at h;cases h;exact h
       rw[hs1] at e7
       match hz:te.z,e7 with
       | [x],_=>
        have:=hone.2
        rw[hz] at this
        simp only[List.all_cons,List.all_nil,Bool.and_true] at this
        cases x <;> first | rfl | (simp[Value.oneCell'] at this)
     cases hx with
     | pt a0 c0 _ _ _ _ hh=>
     obtain⟨R',p1,p2,p3⟩:=hh
     rw[hR] at p1;cases p1
     by_cases hlt:lo<len
     ·obtain⟨b,hb,rfl⟩:=p3 (by omega) hlt
      obtain⟨m',s1,s2,s3⟩:=St.rowFill te.z (fun v hv=>List.all_eq_true.1 hone.2 v hv) (len-lo) lo h hR hb hro (by rw[e7,hsz]) (by omega)
      have hown:∃ xs,w.ownsRow 0 R.E R.n R.hv R.len xs:=h.mem.row g R hR
      obtain⟨xs,hown⟩:=hown
      have hfl:(List.replicate (len-lo) te.z).flatten.length=(len-lo) * R.n:=by simp[e7,hsz]
      have hrun:=run_storeCells_cells (P:=P) b (lo * R.n) (List.replicate (len-lo) te.z).flatten 0 w (fun k hk=>by
        rw[hfl] at hk
        have hk2:lo * R.n+k<xs.length:=by
         rw[hown.1,←o3,hl]
         have:lo * R.n+(len-lo) * R.n=len * R.n:=by rw[←Nat.add_mul];congr 1;omega
         omega
        have:=hown.cells hb _ _ (List.getElem?_eq_getElem hk2)
        rw[XB] at this
        simp[this]) (fun k _=>by
        rcases hown.2 with⟨q1,_⟩ | ⟨g',cap,cur,q1,_,q2,_⟩
        ·rw[q1] at hb;cases hb
        ·rw[q1] at hb
         have:g'=b:=by simpa[Value.ownBlock] using hb
         subst this
         exact frozen_of_row w g' _ cur _ q2) (fun v hv=>by
        obtain⟨y,hy,hv⟩:=List.mem_flatten.1 hv
        have:=List.eq_of_mem_replicate hy
        subst this
        exact List.all_eq_true.1 hone.2 v hv)
      simp only[Nat.add_zero] at hrun
      refine⟨.tuple #[],_,m',?_,s2,s3,.tu [] [] rfl (fun i h=>absurd h (by simp)),s1⟩
      obtain⟨k,hk⟩:∃ k,len-lo=k+1:=⟨len-lo-1,by omega⟩
      have hzf:=Uy te.z (by rw[e7,hsz];exact hn0) (len-lo)
      rw[hk] at hrun hzf ⊢
      simp[Builtin.clear_,run_underlying hs,hzv,hcz,hzf,hrun]
     have h0:len-lo=0:=by omega
     refine⟨.tuple #[],w,m,?_,Mp.le.refl m,Z8.refl _ _,.tu [] [] rfl (fun i h=>absurd h (by simp)),?_⟩
     ·rw[h0]
      cases a0 <;> simp[Builtin.clear_,run_underlying hs]
     rw[h0,List.take_of_length_le (by omega)]
     simp only[List.replicate_zero,List.append_nil]
     exact h.sub fun key x hk=>by
      simp only[YC,Zo] at hk
      split at hk
      ·rename_i e;rw[←Key.eq_iff.1 e,hg];exact hk
      exact hk
    cases hd
   cases hd
  cases hd
 cases hd
theorem St.thawRo (h:St cx Fr m Im w a σ){g:Nat}{R:Vi}(hR:m.row g=some R)(h0:R.len=0):WW m Im w R (.rp R.E R.n []):=by
 obtain⟨xs,hx⟩:=h.mem.row g R hR
 have hxs:xs=[]:=by
  have:=hx.1
  rw[h0,Nat.zero_mul] at this
  exact List.length_eq_zero_iff.1 this
 subst hxs
 refine .rp (R:=R) [] [] (by rw[h0];rfl) (fun i h=>absurd h (by simp)) hx (fun u h=>absurd h (by simp)) (fun i h=>absurd h (by simp)) fun b o hb hi=>?_
 have:=h.mem.rIm g R b o hR hb hi
 rw[h0,Nat.zero_mul] at this
 omega
theorem PW (hT : Zd P T) (h : St cx Fr m Im w a σ) {t E : Nat} {ti te : TI} (hti : Xn T t = some ti) (hE : ti.el = some E) (hte : Xn T E = some te) (hsz : 0 < te.sz) (hby : te.bys ≤ 1000)
    {g : Nat} {R : Vi} (hg : m.row g = some R) (hRE : R.E = E) (hRn : R.n = te.sz) {l l2 : List (List D)} (hro : WW m Im w R (.rp R.E R.n l)) {y : Value} {e : D} (hy : Yz m Im w y e) (hs : Sq te.sz e = some l2) (hle : l.length + l2.length ≤ 1000000) (ty : TypeId) :
    ∃ v w' m', (Builtin.append_ #[t, t] ty #[R.hv, y]).run P w = .ok v w' ∧ m.le m' ∧ Z8 Im w w' ∧ Yz m' Im w' v (.ps g (l.length + l2.length)) ∧ St cx Fr m' Im w' a (XW (.r g) (.rp E te.sz (l ++ l2)) σ) := by
  obtain ⟨ei, ed, e1, e2, e3, e4, e5, e6, e7, e8⟩ := (hT _ _ hte).parts
  have hsl := (hT _ _ hti).slice hE
  obtain ⟨R2, rlen, E2, n2⟩ := R
  dsimp only at *
  subst hRE hRn
  cases hro with
  | rp _ xs hl hn hown h1 hrr hni =>
  dsimp only at *
  subst hl
  have hzs := (hT _ _ hte).zsize
  have hps : ∀ {m' : Mp} {w' : World} {v' : Value} {k : Nat} {zs : List Value}, m'.row g = some ⟨v', k, E2, te.sz⟩ → w'.ownsRow 0 E2 te.sz v' k zs → Yz m' Im w' v' (.ps g k) := fun {m' w' v' k zs} hg' hw' => by
    rcases hw'.2 with ⟨rfl, rfl⟩ | ⟨g', cap, cur, rfl, _, _, hnc, _⟩
    · exact .ps none 0 g 0 (fun h => absurd h (by omega)) (Nat.le_refl _) ⟨_, hg', Nat.le_refl _, fun _ => rfl⟩
    exact .ps (some ⟨g', 0, none⟩) cap g k (fun _ => ⟨g', rfl⟩) hnc ⟨_, hg', Nat.le_refl _, fun _ => rfl⟩
  cases hl2 : l2 with
  | nil =>
    subst hl2
    have hrun : (Builtin.append_ #[t, t] ty #[R2, y]).run P w = .ok R2 w := by
      have hsrc : Src P ei.size t y 0 [] w := by
        unfold Sq at hs
        split at hs
        · split at hs
          · cases hs
            obtain ⟨a', c, bl, off, X, rfl, _⟩ := Wk hy
            cases a' with
            | none => exact Src.ofNil w hsl c
            | some ad => exact Src.ofSlice w hsl ad 0 c [] (by simp) (by simp) (by simp)
          cases hs
        · cases hs
          rename_i ad c
          have := Yr.1 hy; subst this
          cases ad with
          | none => exact Src.ofNil w hsl _
          | some ad => exact Src.ofSlice w hsl ad 0 c [] (by simp) (by simp) (by simp)
        cases hs
      rcases hown.2 with ⟨rfl, h0⟩ | ⟨g', cap, cur, rfl, _, _, hnc, _⟩
      · exact run_append_nothing w t t ty _ ei hsl e1 none 0 0 (Nat.le_refl _) y hsrc
      exact run_append_nothing w t t ty _ ei hsl e1 (some ⟨g', 0, none⟩) _ cap hnc y hsrc
    refine ⟨R2, w, m, hrun, Mp.le.refl m, Z8.refl _ _, hps hg hown, ?_⟩
    rw [List.append_nil]
    exact h.putro hg (.rp (R := ⟨R2, l.length, E2, te.sz⟩) l xs rfl hn hown h1 hrr hni)
  | cons r0 rs =>
    have hk : 0 < l2.length := by rw [hl2]; simp
    rw [← hl2]
    clear hl2
    have hy' : ∃ g2, Yz m Im w y (.sl te.sz l2 g2) := by
      unfold Sq at hs
      split at hs
      · split at hs
        · rename_i n' l' g' hn
          have hn : n' = te.sz := by simpa using hn
          cases hs
          exact ⟨g', hn ▸ hy⟩
        cases hs
      · cases hs; simp at hk
      cases hs
    obtain ⟨g2, hy2⟩ := hy'
    obtain ⟨a', c, bl, off, Y, rfl, y1, y2, y3, y4, y5, y6, y7⟩ := Wk hy2
    obtain rfl := y2 hk
    have hdm : ∀ o, o < l2.length * te.sz → o / te.sz < l2.length ∧ o % te.sz < te.sz ∧ o / te.sz * te.sz + o % te.sz = o := fun o ho =>
      ⟨Nat.div_lt_of_lt_mul (by rw [Nat.mul_comm]; exact ho), Nat.mod_lt _ hsz, Nat.div_add_mod' o te.sz⟩
    let news : List Value := (List.range (l2.length * te.sz)).map fun o => Y (o / te.sz) (o % te.sz)
    have hnl : news.length = l2.length * te.sz := by simp [news]
    have hng : ∀ j u, news[j]? = some u → j < l2.length * te.sz ∧ u = Y (j / te.sz) (j % te.sz) := fun j u hu => by
      simp only [news, List.getElem?_map] at hu
      by_cases hj : j < l2.length * te.sz
      · rw [List.getElem?_range hj] at hu; cases hu; exact ⟨hj, rfl⟩
      rw [List.getElem?_eq_none (by simpa using hj)] at hu; cases hu
    have hn1 : ∀ u ∈ news, u.oneCell' = true := fun u hu => by
      obtain ⟨j, hj, rfl⟩ := List.getElem_of_mem hu
      obtain ⟨hj2, e⟩ := hng j _ (List.getElem?_eq_getElem hj)
      obtain ⟨q1, q2, q3⟩ := hdm j hj2
      rw [e]; exact y5 _ _ q1 q2
    obtain ⟨v', w', hrun, hown', hgr⟩ := VE (w := w) (P := P) 0 t ty E2 ei (Xp te) te.sz te.bys hsl e1 e5 e3 e4 hzs hsz R2 l.length xs hown ⟨bl, off, none⟩ l2.length c news hnl
      (fun j u hu => by
        obtain ⟨hj, rfl⟩ := hng j u hu
        obtain ⟨q1, q2, q3⟩ := hdm j hj
        have := (y3 _ _ q1 q2).1
        rw [YA, ← this]
        congr 2
        omega)
      hn1
      (by unfold maxLen; omega)
      (by have : (l.length + l2.length) * te.bys ≤ 1000000 * 1000 := Nat.mul_le_mul hle hby
          omega)
      (Nat.zero_le _)
    have hg2 : w'.os = w.os ∧ w'.tape = w.tape ∧ w'.output = w.output := by rcases hgr with ⟨_, h2⟩ | ⟨_, h2⟩ <;> exact ⟨h2.os, h2.tape, h2.output⟩
    have hsz2 : w.heap.size ≤ w'.heap.size := by rcases hgr with ⟨_, h2⟩ | ⟨_, h2⟩ <;> exact h2.size
    have hcase : ∀ b, v'.ownBlock = some b → R2.ownBlock = some b ∨ w.heap.size ≤ b := fun b hb => by
      rcases hgr with ⟨h2, _⟩ | ⟨h2, _⟩
      · left; rw [← h2]; exact hb
      right; rw [h2] at hb; cases hb; exact Nat.le_refl _
    have hsame : ∀ c, c < w.heap.size → R2.ownBlock ≠ some c → w'.heap[c]? = w.heap[c]? := fun c hc hne => by
      rcases hgr with ⟨_, h2⟩ | ⟨_, h2⟩
      · exact h2.block c hc fun e => hne e.symm
      exact h2.block c hc
    have hxl : xs.length = l.length * te.sz := hown.1
    have key : ∀ hle2 : m.le (m.setR g ⟨v', l.length + l2.length, E2, te.sz⟩), ∀ hki : Z8 Im w w', WW (m.setR g ⟨v', l.length + l2.length, E2, te.sz⟩) Im w' ⟨v', l.length + l2.length, E2, te.sz⟩ (.rp E2 te.sz (l ++ l2)) := fun hle2 hki => by
      refine .rp (R := ⟨v', l.length + l2.length, E2, te.sz⟩) (l ++ l2) (xs ++ news) (by simp) (fun i hi => ?_) hown' (fun u hu => ?_) (fun i hi j hj => ?_) (fun b o hb hi => ?_)
      · by_cases hi2 : i < l.length
        · rw [List.getElem_append_left hi2]; exact hn i hi2
        rw [List.getElem_append_right (by omega)]; exact y4 _ _
      · rcases List.mem_append.1 hu with hu | hu
        · exact h1 u hu
        exact hn1 u hu
      · rw [List.length_append] at hi
        by_cases hi2 : i < l.length
        · have e0 : (l ++ l2)[i] = l[i] := List.getElem_append_left hi2
          have hj2 : j < l[i].length := by rw [e0] at hj; exact hj
          have hjn : j < te.sz := by rw [hn i hi2] at hj2; exact hj2
          have hij : i * te.sz + j < xs.length := by
            rw [hxl]
            have : (i + 1) * te.sz ≤ l.length * te.sz := Nat.mul_le_mul_right _ hi2
            rw [Nat.succ_mul] at this; omega
          simp only [e0]
          show Yz _ _ _ ((xs ++ news).getD (i * te.sz + j) undef) _
          rw [List.getD_eq_getElem?_getD, List.getElem?_append_left hij, ← List.getD_eq_getElem?_getD]
          exact (hrr i hi2 j hj2).mono hle2 hki fun _ _ h => h
        have e0 : (l ++ l2)[i] = l2[i - l.length] := List.getElem_append_right (by omega)
        have hil : i - l.length < l2.length := by omega
        have hj2 : j < l2[i - l.length].length := by rw [e0] at hj; exact hj
        have hjn : j < te.sz := by rw [y4 _ hil] at hj2; exact hj2
        simp only [e0]
        show Yz _ _ _ ((xs ++ news).getD (i * te.sz + j) undef) _
        have hsp : i * te.sz + j = xs.length + ((i - l.length) * te.sz + j) := by
          rw [hxl, ← Nat.add_assoc, ← Nat.add_mul]; congr 2; omega
        have hlt : (i - l.length) * te.sz + j < l2.length * te.sz := by
          have : (i - l.length + 1) * te.sz ≤ l2.length * te.sz := Nat.mul_le_mul_right _ hil
          rw [Nat.succ_mul] at this; omega
        rw [hsp, List.getD_eq_getElem?_getD, List.getElem?_append_right (by omega), Nat.add_sub_cancel_left]
        simp only [news, List.getElem?_map, List.getElem?_range hlt, Option.map_some, Option.getD_some]
        rw [show (i - l.length) * te.sz + j = j + te.sz * (i - l.length) by rw [Nat.mul_comm]; omega, Nat.add_mul_div_left _ _ hsz, Nat.div_eq_of_lt hjn, Nat.zero_add, Nat.add_mul_mod_self_left, Nat.mod_eq_of_lt hjn]
        exact (y6 _ hil j hj2).mono hle2 hki fun _ _ h => h
      rcases hcase b hb with h2 | h2
      · exact hni b o h2 hi
      obtain ⟨u, hu⟩ := h.mem.im b o hi
      have := YR hu; omega
    obtain ⟨q1, q2, q3⟩ := h.turnP (R' := ⟨v', l.length + l2.length, E2, te.sz⟩) (w' := w') hg hg2 hsz2 hsame hni hcase ⟨by simp, fun e => by simp only at e; omega⟩ ⟨_, hown'⟩ key
    exact ⟨v', w', _, hrun, q2, q3, hps (by simp [Mp.setR]) hown', q1⟩
theorem K1 (hT : Zd P T) (h : St cx Fr m Im w a σ) {nm : Nat} (hn : Fr nm) {t E : Nat} {ti te : TI} (hti : Xn T t = some ti) (hE : ti.el = some E) (hte : Xn T E = some te) (hsz : 0 < te.sz) (hby : te.bys ≤ 1000)
    {l l2 : List (List D)} {x y : Value} {e : D} (hx : Yz m Im w x (.cl te.sz l)) (hy : Yz m Im w y e) (hs : Sq te.sz e = some l2) (hk : 0 < l2.length) (hle : l.length + l2.length ≤ 1000000) (ty : TypeId) :
    ∃ v w' m' Im', (Builtin.append_ #[t, t] ty #[x, y]).run P w = .ok v w' ∧ m.le m' ∧ Z8 Im w w' ∧ (∀ b o, Im b o → Im' b o) ∧ Yz m' Im' w' v (.sl te.sz (l ++ l2) (some nm)) ∧ St cx (WM Fr nm) m' Im' w' a (XW (.r nm) (.rw E te.sz (l ++ l2).length) σ) := by
  have h1 := h.newRow hn E te.sz
  have hle1 : m.le (m.setR nm ⟨.slice none 0 0, 0, E, te.sz⟩) := Mp.setR_le fun R0 h0 => by rw [(h.mem.fr nm hn).2.1] at h0; cases h0
  have hg : (m.setR nm ⟨.slice none 0 0, 0, E, te.sz⟩).row nm = some ⟨.slice none 0 0, 0, E, te.sz⟩ := by simp [Mp.setR]
  cases hx with
  | cl a0 _ _ hcl =>
  obtain ⟨a0', c0, b0, o0, X0, x0, x1, x2, x3, x4, x5, x6, x7⟩ := Wk hcl
  injection x0 with e1 e2 e3
  subst e1
  cases a0 with
  | none =>
    have hl0 : l.length = 0 := by
      rcases Nat.eq_zero_or_pos l.length with h0 | h0
      · exact h0
      cases x2 h0
    have hl : l = [] := List.length_eq_zero_iff.1 hl0
    subst hl
    obtain ⟨v, w', m', Im', q1, q2, q3, q4, q5, q6⟩ := Qe (P := P) (t := t) hT h1 hti hE hte hsz hby hg rfl rfl (l := []) (l2 := l2) rfl (Tz hg) (hy.mono hle1 (Z8.refl _ _) fun _ _ h => h) hs (by simpa using hle) ty
    refine ⟨v, w', m', Im', q1, hle1.trans q2, q3, q4, by simpa using q5, q6.sub fun k d hk => ?_⟩
    simp only [Zo] at hk ⊢
    split
    · rename_i hc; rw [if_pos hc] at hk; exact hk
    rename_i hc; rw [if_neg hc] at hk; exact hk
  | some ad =>
    have hy' : ∃ g2, Yz m Im w y (.sl te.sz l2 g2) := by
      unfold Sq at hs
      split at hs
      · split at hs
        · rename_i n' l' g' hn
          have hn : n' = te.sz := by simpa using hn
          cases hs
          exact ⟨g', hn ▸ hy⟩
        cases hs
      · cases hs; simp at hk
      cases hs
    obtain ⟨g2, hy2⟩ := hy'
    obtain ⟨a', c, bl, off, Y, rfl, y1, y2, y3, y4, y5, y6, y7⟩ := Wk hy2
    obtain rfl := y2 hk
    obtain ⟨ei, ed, e1, e2, e3, e4, e5, e6, e7, e8⟩ := (hT _ _ hte).parts
    have hsl := (hT _ _ hti).slice hE
    have hzs := (hT _ _ hte).zsize
    have hdm : ∀ (n o : Nat), o < n * te.sz → o / te.sz < n ∧ o % te.sz < te.sz ∧ o / te.sz * te.sz + o % te.sz = o := fun n o ho =>
      ⟨Nat.div_lt_of_lt_mul (by rw [Nat.mul_comm]; exact ho), Nat.mod_lt _ hsz, Nat.div_add_mod' o te.sz⟩
    let news : List Value := (List.range (l2.length * te.sz)).map fun o => Y (o / te.sz) (o % te.sz)
    let olds : List Value := (List.range (l.length * te.sz)).map fun o => X0 (o / te.sz) (o % te.sz)
    have hnl : news.length = l2.length * te.sz := by simp [news]
    have hol : olds.length = l.length * te.sz := by simp [olds]
    have hng : ∀ j u, news[j]? = some u → j < l2.length * te.sz ∧ u = Y (j / te.sz) (j % te.sz) := fun j u hu => by
      simp only [news, List.getElem?_map] at hu
      by_cases hj : j < l2.length * te.sz
      · rw [List.getElem?_range hj] at hu; cases hu; exact ⟨hj, rfl⟩
      rw [List.getElem?_eq_none (by simpa using hj)] at hu; cases hu
    have hog : ∀ j u, olds[j]? = some u → j < l.length * te.sz ∧ u = X0 (j / te.sz) (j % te.sz) := fun j u hu => by
      simp only [olds, List.getElem?_map] at hu
      by_cases hj : j < l.length * te.sz
      · rw [List.getElem?_range hj] at hu; cases hu; exact ⟨hj, rfl⟩
      rw [List.getElem?_eq_none (by simpa using hj)] at hu; cases hu
    have holds : ∀ j u, olds[j]? = some u → w.cell? (ad.add j) = some u := fun j u hu => by
      obtain ⟨hj, rfl⟩ := hog j u hu
      obtain ⟨q1, q2, q3⟩ := hdm _ j hj
      have hpos : 0 < l.length := Nat.lt_of_le_of_lt (Nat.zero_le _) q1
      have had := x2 hpos
      injection had with had
      subst had
      have := (x3 _ _ q1 q2).1
      rw [YA, ← this]
      congr 2
      omega
    have hnews : ∀ j u, news[j]? = some u → w.cell? ((⟨bl, off, none⟩ : Addr).add j) = some u := fun j u hu => by
      obtain ⟨hj, rfl⟩ := hng j u hu
      obtain ⟨q1, q2, q3⟩ := hdm _ j hj
      have := (y3 _ _ q1 q2).1
      rw [YA, ← this]
      congr 2
      omega
    obtain ⟨v', w', hrun, hown', hgb⟩ := run_append_arg_grows (P := P) w t ty E ei (Xp te) te.sz te.bys hsl e1 e5 e3 e4 hzs hsz ad l.length l.length olds hol holds
      ⟨bl, off, none⟩ l2.length c news hnl hnews
      (by omega) (by unfold maxLen; omega)
      (by have : (l.length + l2.length) * te.bys ≤ 1000000 * 1000 := Nat.mul_le_mul hle hby
          omega)
    have hown2 : w'.ownsRow 0 E te.sz v' (0 + (l.length + l2.length)) ([] ++ (olds ++ news)) := by
      rw [Nat.zero_add, List.nil_append]
      refine ⟨hown'.1, hown'.2.imp id ?_⟩
      rintro ⟨g', cap, cur, q1, q2, q3⟩
      exact ⟨g', cap, cur, q1, Nat.zero_le _, q3⟩
    have hblow : Below w.heap.size w w' := ⟨hgb.os, hgb.tape, hgb.output, hgb.size, fun b hb => hgb.block b hb (by simp)⟩
    have hg63 : l.length < l.length + l2.length := by omega
    have hbytes : (l.length + l2.length) * ei.bytes ≤ 140737488355328 := by
      have : (l.length + l2.length) * te.bys ≤ 1000000 * 1000 := Nat.mul_le_mul hle hby
      rw [e4]; omega
    have hv' : v'.ownBlock = some w.heap.size := by
      have hr := run_append_grow (P := P) w t ty E ei (Xp te) hsl e1 e5 ad l.length l.length olds (by rw [e3]; exact hol) holds ⟨bl, off, none⟩ l2.length c news (by rw [e3]; exact hnl) hnews hg63 (by omega) (growslice_fits hg63 hbytes)
      rw [hrun] at hr
      injection hr with hv _
      rw [hv]; rfl
    obtain ⟨xs, hown⟩ := h1.mem.row nm _ hg
    have hxs : xs = [] := by
      have := hown.1
      simpa using this
    subst hxs
    obtain ⟨Im', b, hb, i1, i2, i3, i4, i5⟩ := h1.grow (g := nm) (R := ⟨.slice none 0 0, 0, E, te.sz⟩) hg (v' := v') (k := l.length + l2.length) (xs := []) (ys := olds ++ news) hsz (by omega) hown hown2 (.inr ⟨hv', hblow⟩)
    obtain ⟨gb, cap, rfl, _, hbl⟩ := hown'.form (by omega)
    have hgb : gb = b := by simpa [Value.ownBlock] using hb
    subst hgb
    have hcap : l.length + l2.length ≤ cap := by
      rcases hown'.2 with ⟨h0, _⟩ | ⟨g', cap', cur, h0, _, _, hnc, _⟩
      · cases h0
      injection h0 with _ _ q; rw [q]; exact hnc
    have hcells : ∀ o u, (olds ++ news)[o]? = some u → w'.cell? ⟨gb, o, none⟩ = some u := fun o u hu => by
      have := hown'.cells (g := gb) rfl o u hu
      rw [XB] at this; exact this
    have hall : (olds ++ news).length = (l.length + l2.length) * te.sz := hown'.1
    have hlt : ∀ n i j, i < n → j < te.sz → i * te.sz + j < n * te.sz := fun n i j hi hj => by
      have : (i + 1) * te.sz ≤ n * te.sz := Nat.mul_le_mul_right _ hi
      rw [Nat.succ_mul] at this; omega
    have hdv : ∀ i j, j < te.sz → (i * te.sz + j) / te.sz = i ∧ (i * te.sz + j) % te.sz = j := fun i j hj => by
      rw [show i * te.sz + j = j + te.sz * i by rw [Nat.mul_comm]; omega, Nat.add_mul_div_left _ _ hsz, Nat.div_eq_of_lt hj, Nat.zero_add, Nat.add_mul_mod_self_left, Nat.mod_eq_of_lt hj]
      exact ⟨rfl, rfl⟩
    have hX : ∀ i j, i < l.length → j < te.sz → (olds ++ news)[i * te.sz + j]? = some (X0 i j) := fun i j hi hj => by
      have hij := hlt _ i j hi hj
      rw [List.getElem?_append_left (by rw [hol]; exact hij)]
      simp only [olds, List.getElem?_map, List.getElem?_range hij, Option.map_some]
      rw [(hdv i j hj).1, (hdv i j hj).2]
    have hY : ∀ i j, i < l2.length → j < te.sz → (olds ++ news)[(l.length + i) * te.sz + j]? = some (Y i j) := fun i j hi hj => by
      have hij := hlt _ i j hi hj
      rw [List.getElem?_append_right (by rw [hol, Nat.add_mul]; omega), hol, show (l.length + i) * te.sz + j - l.length * te.sz = i * te.sz + j by rw [Nat.add_mul]; omega]
      simp only [news, List.getElem?_map, List.getElem?_range hij, Option.map_some]
      rw [(hdv i j hj).1, (hdv i j hj).2]
    have hle3 : m.le ((m.setR nm ⟨.slice none 0 0, 0, E, te.sz⟩).setR nm ⟨.slice (some ⟨gb, 0, none⟩) (l.length + l2.length) cap, 0 + (l.length + l2.length), E, te.sz⟩) := hle1.trans i4
    have hmono : ∀ {x d}, Yz m Im w x d → Yz ((m.setR nm ⟨.slice none 0 0, 0, E, te.sz⟩).setR nm ⟨.slice (some ⟨gb, 0, none⟩) (l.length + l2.length) cap, 0 + (l.length + l2.length), E, te.sz⟩) Im' w' x d := fun hx => hx.mono hle3 i3 i1
    have key : Yz ((m.setR nm ⟨.slice none 0 0, 0, E, te.sz⟩).setR nm ⟨.slice (some ⟨gb, 0, none⟩) (l.length + l2.length) cap, 0 + (l.length + l2.length), E, te.sz⟩) Im' w' (.slice (some ⟨gb, 0, none⟩) (l ++ l2).length cap) (.sl te.sz (l ++ l2) (some nm)) := by
      refine .sl _ cap gb 0 te.sz (fun i j => (olds ++ news).getD (i * te.sz + j) undef) (l ++ l2) (some nm) (by rw [List.length_append]; unfold maxLen; omega) (fun _ => rfl) (fun i j hi hj => ?_) (fun i hi => ?_) (fun i j hi hj => ?_) (fun i hi j hj => ?_) (fun r e => ?_)
      · rw [List.length_append] at hi
        have hij := hlt _ i j hi hj
        rw [Nat.zero_add]
        refine ⟨?_, i2 _ (by show _ < (0 + (l.length + l2.length)) * te.sz; rw [Nat.zero_add]; exact hij)⟩
        have hij2 : i * te.sz + j < (olds ++ news).length := by omega
        rw [List.getD_eq_getElem?_getD, List.getElem?_eq_getElem hij2]
        exact hcells _ _ (List.getElem?_eq_getElem hij2)
      · by_cases hi2 : i < l.length
        · rw [List.getElem_append_left hi2]; exact x4 i hi2
        rw [List.getElem_append_right (by omega)]; exact y4 _ _
      · rw [List.length_append] at hi
        rw [List.getD_eq_getElem?_getD]
        by_cases hi2 : i < l.length
        · rw [hX i j hi2 hj]; exact x5 i j hi2 hj
        have := hY (i - l.length) j (by omega) hj
        rw [show l.length + (i - l.length) = i by omega] at this
        rw [this]; exact y5 _ _ (by omega) hj
      · rw [List.length_append] at hi
        rw [List.getD_eq_getElem?_getD]
        by_cases hi2 : i < l.length
        · have hj2 : j < l[i].length := by rw [List.getElem_append_left hi2] at hj; exact hj
          rw [hX i j hi2 (by rw [x4 i hi2] at hj2; exact hj2)]
          simp only [Option.getD_some]
          have := x6 i hi2 j hj2
          simpa [List.getElem_append_left hi2] using hmono this
        have hj2 : j < l2[i - l.length].length := by rw [List.getElem_append_right (by omega)] at hj; exact hj
        have := hY (i - l.length) j (by omega) (by rw [y4 _ (by omega)] at hj2; exact hj2)
        rw [show l.length + (i - l.length) = i by omega] at this
        rw [this]
        simp only [Option.getD_some]
        have := y6 (i - l.length) (by omega) j hj2
        simpa [List.getElem_append_right (show l.length ≤ i by omega)] using hmono this
      cases e
      exact ⟨⟨.slice (some ⟨gb, 0, none⟩) (l.length + l2.length) cap, 0 + (l.length + l2.length), E, te.sz⟩, by simp [Mp.setR], by simp, fun _ => by simp⟩
    refine ⟨_, w', _, Im', hrun, hle3, i3, i1, by simpa using key, ?_⟩
    have i6 : St cx (WM Fr nm) _ Im' w' a _ := i5
    rw [show (0 + (l.length + l2.length)) = (l ++ l2).length by simp] at i6 ⊢
    refine i6.sub fun k d hk => ?_
    simp only [Zo] at hk ⊢
    split
    · rename_i hc; rw [if_pos hc] at hk; exact hk
    rename_i hc; rw [if_neg hc] at hk; exact hk
end
section
variable {P:Program} {T:List (Nat×TI)} {cx:Cx} {Fr Fr':Nat→Prop} {m m':Mp} {Im Im':Nat→Nat→Prop} {w w':World} {a:Act} {σ σ':List (Key×D)}
theorem Yz.mono1 {x:Value}{d:D}(h:Yz m Im w x d)(hm:m.le m'):Yz m' Im w x d:=h.mono hm (Z8.refl _ _) fun _ _ h=>h
theorem JY (hT:Zd P T)(h:St cx Fr m Im w a σ){nm:Nat}(hn:Fr nm){t ty:Nat}{x y:Value}{d e V:D}{W:List (Key×D)}{R:List Key}(hx:Yz m Im w x d)(hy:Yz m Im w y e)(hd:M1 T σ nm t d e=some (V,W,R)):
  ∃ v w' m' Im',(Builtin.append_ #[t,t] ty #[x,y]).run P w=.ok v w'∧m.le m'∧Z8 Im w w'∧(∀ b o,Im b o→Im' b o)∧Yz m' Im' w' v V∧St cx (WM Fr nm) m' Im' w' a (YC σ W):=by
 unfold M1 at hd
 split at hd
 ·cases hd
 rename_i ti hti
 split at hd
 ·cases hd
 rename_i E hE
 split at hd
 ·cases hd
 rename_i te hte
 split at hd
 ·cases hd
 rename_i l2 hl2
 split at hd
 ·rename_i hsz
  split at hd
  ·split at hd
   ·rename_i hle
    cases hd
    have:=Yr.1 hx;subst this
    have h1:=h.newRow hn E te.sz
    have hle1:m.le (m.setR nm ⟨.slice none 0 0,0,E,te.sz⟩):=Mp.setR_le fun R0 h0=>by rw[(h.mem.fr nm hn).2.1] at h0;cases h0
    have hg:(m.setR nm ⟨.slice none 0 0,0,E,te.sz⟩).row nm=some ⟨.slice none 0 0,0,E,te.sz⟩:=by simp[Mp.setR]
    obtain⟨v,w',m',Im',q1,q2,q3,q4,q5,q6⟩:=Qe (P:=P) (t:=t) hT h1 hti hE hte hsz.1 hsz.2 hg rfl rfl (l:=[]) (l2:=l2) rfl (Tz hg) (hy.mono1 hle1) hl2 (by simpa using hle) ty
    refine⟨v,w',m',Im',q1,hle1.trans q2,q3,q4,by simpa using q5,q6.sub fun k d hk=>?_⟩
    simp only[YC,Zo] at hk ⊢
    simp only[List.nil_append]
    split
    ·rename_i hc;rw[if_pos hc] at hk;exact hk
    rename_i hc;rw[if_neg hc] at hk;exact hk
   cases hd
  ·rename_i n l g
   split at hd
   ·rename_i E' n' len hg
    split at hd
    ·rename_i hc
     obtain⟨rfl,rfl,rfl,rfl,hle⟩:=hc
     cases hd
     obtain⟨R,hR,e⟩:=h.ro g _ hg
     have e:=e.rwi
     injection e with e1 e2 e3
     obtain⟨_,_,_,_,_,x0,_,_,_,_,_,_,x7⟩:=Wk hx
     obtain⟨R',hR',_,hv⟩:=x7 g rfl
     rw[hR] at hR';cases hR'
     have hv:=hv e3
     rw[←hv] at hx ⊢
     obtain⟨v,w',m',Im',q1,q2,q3,q4,q5,q6⟩:=Qe (P:=P) (t:=t) hT h hti hE hte hsz.1 hsz.2 hR e1.symm e2.symm e3.symm hx hy hl2 hle ty
     exact⟨v,w',m',Im',q1,q2,q3,q4,q5,q6.less fun k hk=>hk.1⟩
    cases hd
   cases hd
  ·rename_i g len
   split at hd
   ·rename_i E' n' l hg
    split at hd
    ·rename_i hc
     obtain⟨rfl,rfl,rfl,hle⟩:=hc
     cases hd
     obtain⟨R,hR,hro⟩:=h.ro g _ hg
     have ho:=hro.rpi
     obtain⟨o1,o2,o3⟩:=ho
     cases hx with
     | ps a0 c0 _ _ ha _ hh=>
     obtain⟨R',p1,p2,p3⟩:=hh
     rw[hR] at p1;cases p1
     have hv:=p3 o3
     rw[←hv]
     obtain⟨v,w',m',q1,q2,q3,q5,q6⟩:=PW (P:=P) (t:=t) hT h hti hE hte hsz.1 hsz.2 hR o1.symm o2.symm (by rw[←o1,←o2];exact hro) hy hl2 hle ty
     exact⟨v,w',m',Im,q1,q2,q3,fun _ _ h=>h,q5,q6.less fun k hk=>hk.1⟩
    cases hd
   ·rename_i E' n' hg
    split at hd
    ·rename_i hc
     obtain⟨rfl,rfl,rfl,hle⟩:=hc
     cases hd
     obtain⟨R,hR,hro⟩:=h.ro g _ hg
     have e:=hro.rwi
     injection e with e1 e2 e3
     have hro:=h.thawRo hR e3.symm
     cases hx with
     | ps a0 c0 _ _ ha _ hh=>
     obtain⟨R',p1,p2,p3⟩:=hh
     rw[hR] at p1;cases p1
     have hv:=p3 e3
     rw[←hv]
     obtain⟨v,w',m',q1,q2,q3,q5,q6⟩:=PW (P:=P) (t:=t) hT h hti hE hte hsz.1 hsz.2 hR e1.symm e2.symm (l:=[]) (by rw[e1,e2] at *;exact hro) hy hl2 (by simpa using hle) ty
     exact⟨v,w',m',Im,q1,q2,q3,fun _ _ h=>h,by simpa using q5,q6.less fun k hk=>hk.1⟩
    cases hd
   cases hd
  ·split at hd
   ·rename_i n l hcc
    obtain⟨rfl,hk,hle⟩:=hcc
    cases hd
    exact K1 (P:=P) (t:=t) hT h hn hti hE hte hsz.1 hsz.2 hx hy hl2 hk hle ty
   cases hd
  cases hd
 cases hd
theorem Rg {te:TI}:∀ {ds:List D} {rows:List (List D)},Uu te ds=some rows→rows.length=ds.length
 | [],rows,h=>by cases h;rfl
 | d :: ds,rows,h=>by
  simp only[Uu] at h
  split at h
  ·cases hr:Uu te ds with
   | none=>rw[hr] at h;cases h
   | some rs=>rw[hr] at h;cases h;simp[Rg hr]
  ·cases h
theorem RT {te:TI}(hsz:0<te.sz):∀ (ps:List (Nat×Value)) (ds:List D) (rows:List (List D)) (k:Nat) (cs:List Value),Tl k (ps.map (·.1))=true→YU m Im w (ps.map (·.2)) ds→Uu te ds=some rows→(k+ps.length) * te.sz≤cs.length →
  ∃ cs':List Value,Instr.fill (fun i=>some (i * te.sz,te.sz)) cs.toArray ps=some cs'.toArray∧cs'.length=cs.length∧(∀ o,o<k * te.sz→cs'[o]?=cs[o]?)∧(∀ i (hi:i<rows.length),rows[i].length=te.sz∧rows[i].all D.one=true∧∀ j (hj:j<rows[i].length),∃ v,cs'[(k+i) * te.sz+j]?=some v∧Yz m Im w v rows[i][j])
 | [],ds,rows,k,cs,_,hr,hrow,_=>by
  cases ds with
  | nil=>cases hrow;exact⟨cs,rfl,rfl,fun _ _=>rfl,fun i hi=>absurd hi (by simp)⟩
  | cons d ds=>exact hr.elim
 | (i0,v) :: ps,ds,rows,k,cs,ho,hr,hrow,hle=>by
  cases ds with
  | nil=>exact hr.elim
  | cons d ds=>
   simp only[List.map_cons,Tl,Bool.and_eq_true,beq_iff_eq] at ho
   obtain⟨rfl,ho⟩:=ho
   obtain⟨hv,hr⟩:=hr
   simp only[Uu] at hrow
   split at hrow
   ·rename_i c hc
    cases hrr:Uu te ds with
    | none=>rw[hrr] at hrow;cases hrow
    | some rs=>
     rw[hrr] at hrow
     cases hrow
     obtain⟨vs,v1,v2,v3,v4,_,_⟩:=VY hv hc
     have hb:(i0+1) * te.sz≤cs.length:=Nat.le_trans (Nat.mul_le_mul_right _ (by simp)) hle
     rw[Nat.succ_mul] at hb
     have hcl:c.length=te.sz:=by rw[←(ZS.1 v2).1];exact v3
     obtain⟨cs',r1,r2,r3,r4⟩:=RT hsz ps ds rs (i0+1) (cs.take (i0 * te.sz)++vs++cs.drop (i0 * te.sz+te.sz)) ho hr hrr (by
      simp only[List.length_append,List.length_take,List.length_drop,v3]
      simp only[List.length_cons] at hle
      rw[show i0+1+ps.length=i0+(ps.length+1) by omega];omega)
     refine⟨cs',by rw[Pe (sz:=te.sz) rfl v1 v3 hb];exact r1,by rw[r2];simp[v3];omega,fun o ho=>?_,fun i hi=>?_⟩
     ·rw[r3 o (by rw[Nat.succ_mul];omega),List.append_assoc,List.getElem?_append_left (by simp;omega),List.getElem?_take,if_pos ho]
     cases i with
     | zero=>
      refine⟨hcl,v4,fun j hj=>?_⟩
      have hj':j<te.sz:=by rw[←hcl];exact hj
      have hj2:j<vs.length:=by omega
      refine⟨vs[j],?_,?_⟩
      ·rw[Nat.add_zero,r3 _ (by rw[Nat.succ_mul];omega),List.append_assoc,List.getElem?_append_right (by simp;omega)]
       have:i0 * te.sz+j-(cs.take (i0 * te.sz)).length=j:=by simp;omega
       rw[this,List.getElem?_append_left hj2,List.getElem?_eq_getElem hj2]
      have:=(ZS.1 v2).2 j hj
      simpa[List.getD_eq_getElem?_getD,List.getElem?_eq_getElem hj2] using this
     | succ i=>
      obtain⟨s1,s2,s3⟩:=r4 i (by simpa using hi)
      refine⟨s1,s2,fun j hj=>?_⟩
      have:=s3 j hj
      rw[show i0+1+i=i0+(i+1) by omega] at this
      exact this
   cases hrow
theorem J7 (hT:Zd P T)(h:St cx Fr m Im w a σ){nm:Nat}(hn:Fr nm){t len:Nat}{parts:Array (Nat×Operand)}{V:D}{W:List (Key×D)}{R:List Key}(hd:Kl T σ nm t len parts.toList=some (V,W,R)):
  ∃ v w' m' Im',(Instr.buildSlice t len (parts.map fun(i,x)=>(i,a.eval x))).run P w=.ok v w'∧m.le m'∧Z8 Im w w'∧(∀ b o,Im b o→Im' b o)∧Yz m' Im' w' v V∧St cx (WM Fr nm) m' Im' w' a (YC σ W):=by
 unfold Kl at hd
 split at hd
 ·cases hd
 rename_i ti hti
 split at hd
 ·cases hd
 rename_i E hE
 split at hd
 ·cases hd
 rename_i te hte
 split at hd
 ·rename_i hc
  simp only[Bool.and_eq_true,beq_iff_eq,decide_eq_true_eq] at hc
  obtain⟨⟨⟨hlen,hord⟩,hsz⟩,hbig⟩:=hc
  split at hd
  ·cases hd
  rename_i ds hds
  cases hr:Uu te ds with
  | none=>rw[hr] at hd;cases hd
  | some rows=>
   rw[hr] at hd
   cases hd
   have hev:=h.evs hds
   obtain⟨ei,ed,e1,e2,e3,e4,e5,e6,e7,e8⟩:=(hT _ _ hte).parts
   have hsl:=(hT _ _ hti).slice hE
   have hdl:ds.length=len:=by have:=(ZS.1 hev).1;simp at this;rw[←this,←hlen];simp
   have hrl:rows.length=len:=by rw[Rg hr,hdl]
   let zs:List Value:=if len * te.sz=0 then [] else ((Array.range (len * te.sz)).map ((Xp te).cells[· % (Xp te).cells.size]!)).toList
   have hzl:zs.length=len * te.sz:=by
    simp only[zs];split
    ·rename_i h0;simp[h0]
    simp
   obtain⟨cs',f1,f2,_,f4⟩:=RT (m:=m) (Im:=Im) (w:=w) hsz (parts.toList.map fun p=>(p.1,a.eval p.2)) ds rows 0 zs (by rw[List.map_map];exact hord) (by rw[List.map_map] at hev ⊢;exact hev) hr (by rw[hzl];simp[←hlen])
   have hrun:(Instr.buildSlice t len (parts.map fun(i,x)=>(i,a.eval x))).run P w=.ok (.slice (some ⟨w.heap.size,0,none⟩) len len) (w.alloc (.cells cs'.toArray E)):=by
    by_cases h0:len=0
    ·subst h0
     have hp0:parts.toList=[]:=List.eq_nil_of_length_eq_zero hlen
     have hpa:parts=#[]:=by apply Array.ext';simpa using hp0
     have hcs:cs'=[]:=List.eq_nil_of_length_eq_zero (by rw[f2,hzl];simp)
     subst hpa hcs
     simp[Instr.buildSlice,run_underlying hsl,sizeOf,typeInfo,e1,newRow,Instr.fill]
     rw[show Array.range 0=#[] from by apply Array.ext';simp]
     simp
    have hpos:¬ len * ei.size=0:=by rw[e3];exact Nat.mul_ne_zero h0 (by omega)
    refine run_buildSlice w t E len _ cs'.toArray ei (Xp te) hsl e1 e5 (by rw[e3];omega) hpos ?_
    rw[e3]
    rw[e3] at hpos
    rw[←f1]
    congr 1
    ·simp only[zs,if_neg hpos]
    simp
   obtain⟨Im',g1,g2,g3,g4⟩:=h.rowOf hn cs' len te.sz E (by rw[f2,hzl]) (by unfold maxLen;have:len * 1≤len * te.sz:=Nat.mul_le_mul_left _ hsz;omega)
   have hB:=Blk.new w cs'.toArray E rfl
   have hb:Below w.heap.size w (w.alloc (.cells cs'.toArray E)):=(Below.refl _ _).alloc (Nat.le_refl _) _
   refine⟨_,_,_,Im',hrun,g4,Z8.below hb,g1,?_,g3⟩
   have hlt:∀ i j,i<len→j<te.sz→i * te.sz+j<len * te.sz:=fun i j hi hj=>by
    have:(i+1) * te.sz≤len * te.sz:=Nat.mul_le_mul_right _ hi
    rw[Nat.succ_mul] at this;omega
   have key:Yz (m.setR nm ⟨.slice (some ⟨w.heap.size,0,none⟩) len len,len,E,te.sz⟩) Im' (w.alloc (.cells cs'.toArray E)) (.slice (some ⟨w.heap.size,0,none⟩) rows.length len) (.sl te.sz rows (some nm)):=by
    refine .sl _ len w.heap.size 0 te.sz (fun i j=>cs'.getD (i * te.sz+j) undef) rows (some nm) (by rw[hrl];unfold maxLen;have:len * 1≤len * te.sz:=Nat.mul_le_mul_left _ hsz;omega) (fun _=>rfl) (fun i j hi hj=>?_) (fun i hi=>(f4 i hi).1) (fun i j hi hj=>?_) (fun i hi j hj=>?_) (fun r e=>?_)
    ·rw[hrl] at hi
     have hij:=hlt i j hi hj
     have hij2:i * te.sz+j<cs'.length:=by rw[f2,hzl];exact hij
     rw[Nat.zero_add,List.getD_eq_getElem?_getD,List.getElem?_eq_getElem hij2]
     exact⟨hB.cell (by simp[hij2]),g2 _ hij⟩
    ·obtain⟨s1,s2,s3⟩:=f4 i hi
     obtain⟨v,v1,v2⟩:=s3 j (by rw[s1];exact hj)
     rw[Nat.zero_add] at v1
     rw[List.getD_eq_getElem?_getD,v1]
     exact v2.one (List.all_eq_true.1 s2 _ (List.getElem_mem _))
    ·obtain⟨s1,s2,s3⟩:=f4 i hi
     obtain⟨v,v1,v2⟩:=s3 j hj
     rw[Nat.zero_add] at v1
     rw[List.getD_eq_getElem?_getD,v1]
     exact v2.mono g4 (Z8.below hb) g1
    cases e
    exact⟨⟨.slice (some ⟨w.heap.size,0,none⟩) len len,len,E,te.sz⟩,by simp[Mp.setR],by simp[hrl],fun _=>by rw[hrl]⟩
   rw[hrl] at key
   exact key
 cases hd
end
section
variable {P:Program} {T:List (Nat×TI)} {cx:Cx} {Fr Fr':Nat→Prop} {m m':Mp} {Im Im':Nat→Nat→Prop} {w w':World} {a:Act} {σ σ':List (Key×D)}
theorem KA (hT : Zd P T) (h : St cx Fr m Im w a σ) {nm : Nat} (hn : Fr nm) {o : Oper} {V : D} {W : List (Key × D)} {R : List Key} (hd : OD T σ nm o = some (V, W, R)) :
    ∃ nx v w' m' Im', (execOp a.eval o).run P w = .ok nx w' ∧ (nx = .value v ∨ (nx = .skip ∧ v = undef)) ∧ m.le m' ∧ Z8 Im w w' ∧ (∀ b o, Im b o → Im' b o) ∧ Yz m' Im' w' v V ∧ St cx (WM Fr nm) m' Im' w' a (YC σ W) := by
  unfold OD at hd
  unfold execOp
  split at hd
  · -- alloc
    rename_i t ho
    simp only [ho]
    cases hti : Xn T t with
    | none => rw [hti] at hd; cases hd
    | some ti =>
      rw [hti] at hd
      cases hd
      obtain ⟨ei, ed, e1, e2, e3, e4, e5, e6, e7, e8⟩ := (hT _ _ hti).parts
      have hcz : (Xp ti).cells = ti.z.toArray := by
        have h1 := (hT _ _ hti).one
        simp only [Bool.and_eq_true, Bool.or_eq_true, beq_iff_eq] at h1
        unfold Xp
        cases hag : ti.ag with
        | true => simp [Value.cells]
        | false =>
          have hs : ti.sz = 1 := by rcases h1.1 with h | h; rw [hag] at h; cases h; exact h
          rw [hs] at e7
          match hz : ti.z, e7 with
          | [x], _ =>
            have := h1.2
            rw [hz] at this
            simp only [List.all_cons, List.all_nil, Bool.and_true] at this
            cases x <;> first | rfl | (simp [Value.oneCell'] at this)
      have hb : Below w.heap.size w (w.alloc (.cells ti.z.toArray t)) := (Below.refl _ _).alloc (Nat.le_refl _) _
      have hle : m.le (m.setB nm w.heap.size) := Mp.setB_le (h.mem.fr nm hn).1
      refine ⟨_, .pointer (some ⟨w.heap.size, 0, none⟩), w.alloc (.cells ti.z.toArray t), _, Im, ?_, .inl rfl, hle, Z8.below hb, fun _ _ h => h, .p nm 0 _ (by simp [Mp.setB]), h.alloc hn ti.z _ t (PD _)⟩
      simp [Instr.alloc, zeroValue, typeInfo, e1, e5, newVar, newRow, hcz]
  · -- box
    rename_i t x ho
    simp only [ho]
    obtain ⟨ti, hti, hd⟩ := bind_some hd
    obtain ⟨d, hx, hd⟩ := bind_some hd
    cases hl : WP ti d with
    | none => rw [hl] at hd; cases hd
    | some l =>
      rw [hl] at hd
      cases hd
      obtain ⟨cs, c1, c2, _, _, _, _⟩ := VY (h.ev hx) hl
      have hb : Below w.heap.size w (w.alloc (.cells cs.toArray t)) := (Below.refl _ _).alloc (Nat.le_refl _) _
      have hle : m.le (m.setB nm w.heap.size) := Mp.setB_le (h.mem.fr nm hn).1
      refine ⟨_, .pointer (some ⟨w.heap.size, 0, none⟩), w.alloc (.cells cs.toArray t), _, Im, ?_, .inl rfl, hle, Z8.below hb, fun _ _ h => h, .p nm 0 _ (by simp [Mp.setB]), h.alloc hn cs _ t c2⟩
      simp [Instr.box, newVar, newRow, c1]
  · -- store
    rename_i t x y ho
    simp only [ho]
    obtain ⟨ti, hti, hd⟩ := bind_some hd
    split at hd
    · rename_i k off hx
      obtain ⟨d, hy, hd⟩ := bind_some hd
      obtain ⟨l, hl, hd⟩ := bind_some hd
      cases hc : cellsAt σ k off ti.sz with
      | none => rw [hc] at hd; cases hd
      | some l0 =>
        rw [hc] at hd
        cases hd
        obtain ⟨ei, ed, e1, e2, e3, e4, e5, e6, e7, e8⟩ := (hT _ _ hti).parts
        obtain ⟨b, hb, ex⟩ := Re (h.ev hx)
        obtain ⟨cs, c1, c2, c3, c4, _, _⟩ := VY (h.ev hy) hl
        obtain ⟨g1, _, g2⟩ := h.cellsAt hc
        obtain ⟨cs0, q1, q2⟩ := g2 b hb
        have hcs0 : cs0.length = cs.length := by rw [(ZS.1 q1).1, g1, c3]
        obtain ⟨w', hw', hst⟩ := St.setCells hb l cs off h c2 fun i hi => ⟨cs0[i]'(by omega), q2 i _ (List.getElem?_eq_getElem _)⟩
        have hrun := run_storeCells_cells (P := P) b off cs 0 w (fun j hj => by
            have := q2 j _ (List.getElem?_eq_getElem (show j < cs0.length by omega))
            simp [this]) (fun j _ => h.mem.free k b _ hb) (c2.one c4)
        simp only [Nat.add_zero, hw'] at hrun
        have hki : Z8 Im w w' := fun b' o' v hi hv => by
          rw [← hw', World.cell?_setCells_out]
          · exact hv
          intro e; exact absurd hi (by rw [show b' = b from e]; exact h.mem.nim k b o' hb)
        refine ⟨_, undef, w', m, Im, ?_, .inr ⟨rfl, rfl⟩, Mp.le.refl m, hki, fun _ _ h => h, .v _, hst.less fun k hk => hk.1⟩
        simp [Instr.storeAt, ex, Instr.sureAddr, storeVar, sizeOf, typeInfo, e1, e3, c1, c3, hrun]
    · rename_i g len n i j hx
      split at hd
      · rename_i E n' l hg
        split at hd
        · rename_i hc
          obtain ⟨rfl, hlen, hi, hj⟩ := hc
          obtain ⟨d, hy, hd⟩ := bind_some hd
          cases hl : WP ti d with
          | none => rw [hl] at hd; cases hd
          | some c =>
            rw [hl] at hd
            cases hd
            obtain ⟨ei, ed, e1, e2, e3, e4, e5, e6, e7, e8⟩ := (hT _ _ hti).parts
            obtain ⟨R, hR, hro⟩ := h.ro g _ hg
            obtain ⟨rfl, rfl, o3⟩ := hro.rpi
            have hX := h.ev hx
            generalize hxa : a.eval x = xv at hX ⊢
            cases hX with
            | pr _ _ _ _ _ b hh =>
            obtain ⟨R', p1, p2, p3⟩ := hh
            rw [hR] at p1; cases p1
            have hob := p3 (by omega)
            obtain ⟨cs, c1, c2, c3, c4, _, _⟩ := VY (h.ev hy) hl
            have hcl : c.length = ti.sz := by rw [← (ZS.1 c2).1]; exact c3
            have hil : i < l.length := by omega
            obtain ⟨m', w', hw', hst, s2, s3⟩ := St.rowSets c cs j h hR hob hro hil (by omega) c2 (c2.one c4)
            have hown : ∃ xs, w.ownsRow 0 R.E R.n R.hv R.len xs := by
              cases hro with
              | rp _ xs _ _ hown _ _ _ => exact ⟨xs, hown⟩
            obtain ⟨xs, hown⟩ := hown
            have hle : i * R.n + R.n ≤ xs.length := by
              rw [hown.1]
              have : (i + 1) * R.n ≤ R.len * R.n := Nat.mul_le_mul_right _ (by omega)
              rw [Nat.succ_mul] at this; omega
            have hrun := run_storeCells_cells (P := P) b (i * R.n + j) cs 0 w (fun k hk => by
                have hk2 : i * R.n + j + k < xs.length := by omega
                have := hown.cells hob _ _ (List.getElem?_eq_getElem hk2)
                rw [XB] at this
                simp [this]) (fun k _ => by
                rcases hown.2 with ⟨q1, _⟩ | ⟨g', cap, cur, q1, _, q2, _⟩
                · rw [q1] at hob; cases hob
                rw [q1] at hob
                have : g' = b := by simpa [Value.ownBlock] using hob
                subst this
                exact frozen_of_row w g' _ cur _ q2) (c2.one c4)
            simp only [Nat.add_zero, hw'] at hrun
            refine ⟨_, undef, w', m', Im, ?_, .inr ⟨rfl, rfl⟩, s2, s3, fun _ _ h => h, .v _, ?_⟩
            · simp [hxa, Instr.storeAt, Instr.sureAddr, storeVar, sizeOf, typeInfo, e1, e3, c1, c3, hrun]
            have hgd : l.getD i [] = l[i] := by rw [List.getD_eq_getElem?_getD, List.getElem?_eq_getElem hil]; rfl
            have hrow : l[i].length = R.n := by
              cases hro with
              | rp _ _ _ hn _ _ _ _ => exact hn i hil
            rw [hgd, NR hrow]
            exact hst.less fun k hk => hk.1
        cases hd
      cases hd
    cases hd
  · -- buildSlice
    rename_i t len parts ho
    simp only [ho]
    obtain ⟨v, w', m', Im', q1, q2, q3, q4, q5, q6⟩ := J7 (P := P) hT h hn hd
    exact ⟨_, v, w', m', Im', by simp [q1], .inl rfl, q2, q3, q4, q5, q6⟩
  · -- makeSlice
    rename_i t l c ho
    simp only [ho]
    unfold OC at hd
    split at hd
    · cases hd
    rename_i ti hti
    split at hd
    · cases hd
    rename_i E hE
    split at hd
    · cases hd
    rename_i te hte
    split at hd
    · rename_i n hl hc
      split at hd
      · rename_i hb
        cases hd
        obtain ⟨ei, ed, e1, e2, e3, e4, e5, e6, e7, e8⟩ := (hT _ _ hte).parts
        have hsl := (hT _ _ hti).slice hE
        have hl' := Yr.1 (h.ev hl)
        have hc' := Yr.1 (h.ev hc)
        obtain ⟨k, rfl⟩ : ∃ k : Nat, n = (k : Int) := ⟨n.toNat, by omega⟩
        obtain ⟨w', r1, r2, r3⟩ := run_make_own (P := P) w 0 t E ei (Xp te) te.sz hsl e1 e5 e3 .i64 .i64 k (by
          rw [e4]
          have : te.bys * k ≤ 1000 * 1000000 := Nat.mul_le_mul hb.2.1 (by omega)
          omega) (by unfold maxLen; omega) (Nat.zero_le _)
        have hbl : Below w.heap.size w w' := ⟨r3.os, r3.tape, r3.output, r3.size, fun b hb => r3.block b hb (by simp)⟩
        obtain ⟨s1, s2⟩ := h.rowMade hn (.slice (some ⟨w.heap.size, 0, none⟩) 0 k) E te.sz hbl r2 rfl
        refine ⟨_, .slice (some ⟨w.heap.size, 0, none⟩) 0 k, w', _, Im, by simp [hl', hc', r1], .inl rfl, s2, Z8.below hbl, fun _ _ h => h, ?_, s1⟩
        exact .sl _ k 0 0 te.sz (fun _ _ => undef) [] (some nm) ⟨Nat.zero_le _, Nat.zero_le _⟩ (fun h => absurd h (by simp)) (fun i _ h => absurd h (by simp)) (fun i h => absurd h (by simp)) (fun i _ h => absurd h (by simp)) (fun i h => absurd h (by simp)) fun r e => by
          cases e; exact ⟨⟨_, 0, E, te.sz⟩, by simp [Mp.setR], Nat.le_refl _, fun _ => rfl⟩
      cases hd
    cases hd
  · -- lookup
    rename_i t x y ok ho
    simp only [ho]
    unfold HA at hd
    split at hd
    · rename_i ti k n hti hx hy
      split at hd
      · cases hd
      rename_i e he
      split at hd
      · rename_i te l hte hl
        cases hd
        have hy' := Yr.1 (h.ev hy)
        obtain ⟨v, r1, r2⟩ := Lf (P := P) h (hT _ _ hti) he (hT _ _ hte) hl (h.ev hx) n ok
        refine ⟨_, v, w, m, Im, by simp [hy', r1], .inl rfl, Mp.le.refl m, Z8.refl _ _, fun _ _ h => h, ?_, h.less fun k hk => hk.1⟩
        cases ok <;> exact r2
      cases hd
    cases hd
  · -- mapUpdate
    rename_i t x y z ho
    simp only [ho]
    unfold Q5 at hd
    split at hd
    · rename_i ti k n d hti hx hy hz
      split at hd
      · cases hd
      rename_i e he
      split at hd
      · rename_i l hl
        cases hd
        have hy' := Yr.1 (h.ev hy)
        obtain ⟨w', r1, r2, r3⟩ := OQ (P := P) h (hT _ _ hti) he hl (h.ev hx) n (h.ev hz)
        exact ⟨_, undef, w', m, Im, by simp [hy', r1], .inr ⟨rfl, rfl⟩, Mp.le.refl m, r2, fun _ _ h => h, .v _, r3.less fun k hk => hk.1⟩
      cases hd
    cases hd
  · -- insert
    rename_i t x y z ho
    simp only [ho]
    unfold Q5 at hd
    split at hd
    · rename_i ti k n d hti hx hy hz
      split at hd
      · cases hd
      rename_i e he
      split at hd
      · rename_i l hl
        cases hd
        have hy' := Yr.1 (h.ev hy)
        obtain ⟨w', r1, r2, r3⟩ := OQ (P := P) h (hT _ _ hti) he hl (h.ev hx) n (h.ev hz)
        exact ⟨_, undef, w', m, Im, by simp [hy', r1], .inr ⟨rfl, rfl⟩, Mp.le.refl m, r2, fun _ _ h => h, .v _, r3.less fun k hk => hk.1⟩
      cases hd
    cases hd
  · -- makeMap
    rename_i t r ho
    simp only [ho]
    split at hd
    · cases hd
      obtain ⟨s1, s2⟩ := h.newObj hn (o := .map #[] 0) (d := .mp []) fun m' w' hb => Tu.2 ⟨#[], 0, hb, trivial, List.nodup_nil, fun _ h => (by cases h)⟩
      have hbl : Below w.heap.size w (w.alloc (.map #[] 0)) := (Below.refl _ _).alloc (Nat.le_refl _) _
      refine ⟨_, .map (some w.heap.size), w.alloc (.map #[] 0), _, Im, ?_, .inl rfl, s2, Z8.below hbl, fun _ _ h => h, .mo nm _ (by simp [Mp.setO]), s1⟩
      simp [Instr.makeMap, newObj]
      rfl
    cases hd
  · -- append
    rename_i c ho
    simp only [ho]
    split at hd
    · rename_i x y t t' h1 h2 h3
      split at hd
      · rename_i ht
        subst ht
        obtain ⟨d, hx, hd⟩ := bind_some hd
        obtain ⟨e, hy, hd⟩ := bind_some hd
        obtain ⟨v, w', m', Im', q1, q2, q3, q4, q5, q6⟩ := JY (P := P) (ty := o.type) hT h hn (h.ev hx) (h.ev hy) hd
        have e2 : c.args = #[x, y] := by apply Array.ext'; simpa using h2
        have e3 : c.argTypes = #[t, t] := by apply Array.ext'; simpa using h3
        exact ⟨_, v, w', m', Im', by simp [resolve, h1, e2, e3, invoke, builtin, q1], .inl rfl, q2, q3, q4, q5, q6⟩
      cases hd
    · rename_i x t h1 h2 h3
      obtain ⟨d, hx, hd⟩ := bind_some hd
      obtain ⟨v, w', m', q1, q2, q3, q5, q6⟩ := J1 (P := P) (ty := o.type) hT h (h.ev hx) hd
      have e2 : c.args = #[x] := by apply Array.ext'; simpa using h2
      have e3 : c.argTypes = #[t] := by apply Array.ext'; simpa using h3
      exact ⟨_, v, w', m', Im, by simp [resolve, h1, e2, e3, invoke, builtin, q1], .inl rfl, q2, q3, fun _ _ h => h, q5, q6.less fun k hk => hk.1⟩
    cases hd
  cases hd
/-! what is told hangs on what is read -/
def V7 (σ σ':List (Key×D))(k:Key):Prop:=∀ d,get σ k=some d→get σ' k=some d
theorem ZL {x:Operand}(h:∀ t,x=.tmp t→V7 σ σ' (.t t)){d:D}(hx:ev σ x=some d):ev σ' x=some d:=by
 cases x with
 | tmp t=>exact h t rfl d hx
 | _=>exact hx
theorem Un:∀ {xs:List Operand} (_:∀ x∈xs,∀ t,x=.tmp t→V7 σ σ' (.t t)) {ds:List D},evs σ xs=some ds→evs σ' xs=some ds
 | [],_,ds,hx=>hx
 | x :: xs,h,ds,hx=>by
  simp only[evs] at hx ⊢
  cases hd:ev σ x with
  | none=>rw[hd] at hx;cases hx
  | some d=>
   rw[hd] at hx
   cases hr:evs σ xs with
   | none=>rw[hr] at hx;cases hx
   | some ds'=>
    rw[hr] at hx
    rw[ZL (h x (by simp)) hd,Un (fun y hy=>h y (by simp[hy])) hr]
    exact hx
theorem VM {k:Nat}:∀ {n o:Nat} (_:∀ i,i<n→V7 σ σ' (.c k (o+i))) {l:List D},cellsAt σ k o n=some l→cellsAt σ' k o n=some l
 | 0,o,_,l,hl=>hl
 | n+1,o,h,l,hl=>by
  simp only[cellsAt] at hl ⊢
  cases hg:get σ (.c k o) with
  | none=>rw[hg] at hl;cases hl
  | some d=>
   rw[hg] at hl
   cases hr:cellsAt σ k (o+1) n with
   | none=>rw[hr] at hl;cases hl
   | some l'=>
    rw[hr] at hl
    have h0:get σ' (.c k o)=some d:=h 0 (by omega) d hg
    rw[h0,VM (fun i hi=>by rw[show o+1+i=o+(i+1) by omega];exact h (i+1) (by omega)) hr]
    exact hl
theorem Qt {o:Oper}{t:Nat}(h:(.tmp t:Operand)∈o.op.operands.toList):(.t t:Key)∈Rl o:=by
 unfold Rl
 exact List.mem_filterMap.2 ⟨.tmp t,h,rfl⟩
theorem Lb {t:Nat}{x e:D}(h:∀ k off ti,x=.p k off→Xn T t=some ti→∀ i,i<ti.sz→V7 σ σ' (.c k (off+i)))(h':∀ g len n i j ti,x=.pr g len n i j→Xn T t=some ti→V7 σ σ' (.r g))(hd:K8 T σ t x=some e):K8 T σ' t x=some e:=by
 unfold K8 at hd ⊢
 split at hd
 ·cases hd
 rename_i ti hti
 split at hd
 ·rename_i k off
  obtain⟨l,h1,h2⟩:=bind_some hd
  simp only[VM (h k off ti rfl hti) h1]
  exact h2
 ·exact hd
 ·rename_i g len n i j
  split at hd
  ·rename_i E n' l hg
   rw[h' g len n i j ti rfl hti _ hg]
   exact hd
  cases hd
 cases hd
theorem NK {o:Oper}(h:∀ k∈Rl o++JL T σ o,V7 σ σ' k){e:D}(hd:U7 T σ o=some e):U7 T σ' o=some e:=by
 have hx:∀ x∈o.op.operands.toList,∀ t,x=.tmp t→V7 σ σ' (.t t):=fun x hx t e=>h _ (List.mem_append_left _ (Qt (e ▸ hx)))
 unfold U7 at hd ⊢
 split at hd
 ·rename_i x ho;exact ZL (hx x (by simp[ho,Op.operands])) hd
 ·rename_i x ho;exact ZL (hx x (by simp[ho,Op.operands])) hd
 ·rename_i c x y ho
  unfold QI at hd ⊢
  split at hd
  ·rename_i t hc
   rw[ZL (hx c (by simp[ho,Op.operands])) hc]
   cases t with
   | true=>exact ZL (hx x (by simp[ho,Op.operands])) hd
   | false=>exact ZL (hx y (by simp[ho,Op.operands])) hd
  cases hd
 ·rename_i t x ho
  obtain⟨d,q1,q2⟩:=bind_some hd
  rw[ZL (hx x (by simp[ho,Op.operands])) q1]
  refine Lb (fun k off ti e hti i hi=>h _ (List.mem_append_right _ ?_)) (fun g len n i j ti e hti=>h _ (List.mem_append_right _ (by simp only[JL,ho,q1,e,hti];simp))) q2
  simp only[JL,ho,q1,e,hti]
  exact List.mem_map.2 ⟨i,List.mem_range.2 hi,rfl⟩
 ·rename_i x ho
  obtain⟨d,q1,q2⟩:=bind_some hd
  rw[ZL (hx x (by simp[ho,Op.operands])) q1];exact q2
 ·rename_i op t x y _ ho
  unfold Kg at hd ⊢
  split at hd
  ·rename_i ti d f h1 h2 h3
   rw[h1,ZL (hx x (by simp[ho,Op.operands])) h2,ZL (hx y (by simp[ho,Op.operands])) h3];exact hd
  cases hd
 ·rename_i op t x ho
  obtain⟨d,q1,q2⟩:=bind_some hd
  rw[ZL (hx x (by simp[ho,Op.operands])) q1];exact q2
 ·rename_i t t2 x ho
  obtain⟨d,q1,q2⟩:=bind_some hd
  rw[ZL (hx x (by simp[ho,Op.operands])) q1];exact q2
 ·rename_i t x f ho
  obtain⟨d,q1,q2⟩:=bind_some hd
  rw[ZL (hx x (by simp[ho,Op.operands])) q1];exact q2
 ·rename_i t x f ho
  obtain⟨d,q1,q2⟩:=bind_some hd
  rw[ZL (hx x (by simp[ho,Op.operands])) q1];exact q2
 ·rename_i t x y ho
  obtain⟨d,q1,q2⟩:=bind_some hd
  obtain⟨f,q3,q4⟩:=bind_some q2
  rw[ZL (hx x (by simp[ho,Op.operands])) q1,ZL (hx y (by simp[ho,Op.operands])) q3]
  exact q4
 ·rename_i x i ho
  obtain⟨d,q1,q2⟩:=bind_some hd
  rw[ZL (hx x (by simp[ho,Op.operands])) q1];exact q2
 ·rename_i f first caps ho
  unfold TE at hd ⊢
  split at hd
  ·cases hc:evs σ caps.toList with
   | none=>rw[hc] at hd;cases hd
   | some ds=>rw[hc] at hd;rw[Un (fun x hm=>hx x (by simp only[ho,Op.operands,Array.toList_append,List.mem_append];exact .inr hm)) hc];exact hd
  ·cases hd
 ·rename_i t parts ho
  unfold TZ at hd ⊢
  split at hd
  ·cases hd
  rename_i ti hti
  split at hd
  ·rename_i hk
   split at hd
   ·cases hd
   rename_i ds hds
   rw[if_pos hk,Un (fun x hm=>hx x (by simp only[ho,Op.operands];exact hm)) hds];exact hd
  cases hd
 ·rename_i t x lo hi mx ho
  have hI:∀ {y:Option Operand} {i:Option Int},(∀ z,y=some z→z∈o.op.operands.toList)→evI σ y=some i→evI σ' y=some i:=fun {y i} hy he=>by
   cases y with
   | none=>exact he
   | some z=>
    simp only[evI] at he ⊢
    cases hz:ev σ z with
    | none=>rw[hz] at he;cases he
    | some d=>rw[hz] at he;rw[ZL (hx z (hy z rfl)) hz];exact he
  unfold G6 at hd ⊢
  split at hd
  ·rename_i d i j k h1 h2 h3 h4
   rw[ZL (hx x (by simp[ho,Op.operands])) h1,hI (fun z e=>by subst e;simp[ho,Op.operands]) h2,hI (fun z e=>by subst e;simp[ho,Op.operands]) h3,hI (fun z e=>by subst e;simp[ho,Op.operands]) h4]
   exact hd
  cases hd
 ·rename_i c ho
  split at hd
  ·rename_i x t h1 h2 h3
   obtain⟨d,q1,q2⟩:=bind_some hd
   rw[ZL (hx x (by
    have e2:c.args=#[x]:=by apply Array.ext';simpa using h2
    simp[ho,Op.operands,Call.operands,h1,e2])) q1];exact q2
  ·rename_i x y t t' h1 h2 h3
   obtain⟨d,q1,hd⟩:=bind_some hd
   obtain⟨e',q2,hd⟩:=bind_some hd
   have e2:c.args=#[x,y]:=by apply Array.ext';simpa using h2
   rw[ZL (hx x (by simp[ho,Op.operands,Call.operands,h1,e2])) q1,ZL (hx y (by simp[ho,Op.operands,Call.operands,h1,e2])) q2];exact hd
  ·rename_i x y t t' h1 h2 h3
   obtain⟨d,q1,hd⟩:=bind_some hd
   obtain⟨e',q2,hd⟩:=bind_some hd
   have e2:c.args=#[x,y]:=by apply Array.ext';simpa using h2
   rw[ZL (hx x (by simp[ho,Op.operands,Call.operands,h1,e2])) q1,ZL (hx y (by simp[ho,Op.operands,Call.operands,h1,e2])) q2];exact hd
  cases hd
 cases hd
theorem Lo {o:Oper}{nm:Nat}{V:D}{W:List (Key×D)}{R:List Key}(hd:OD T σ nm o=some (V,W,R))(h:∀ k∈Rl o++R,V7 σ σ' k):OD T σ' nm o=some (V,W,R):=by
 have hx:∀ x∈o.op.operands.toList,∀ t,x=.tmp t→V7 σ σ' (.t t):=fun x hx t e=>h _ (List.mem_append_left _ (Qt (e ▸ hx)))
 unfold OD at hd ⊢
 split at hd
 ·exact hd
 ·rename_i t x ho
  obtain⟨ti,hti,hd⟩:=bind_some hd
  obtain⟨d,q1,q2⟩:=bind_some hd
  rw[hti,ZL (hx x (by simp[ho,Op.operands])) q1];exact q2
 ·rename_i t x y ho
  obtain⟨ti,hti,hd⟩:=bind_some hd
  split at hd
  ·rename_i k off q1
   obtain⟨d,q2,hd⟩:=bind_some hd
   obtain⟨l,hl,hd⟩:=bind_some hd
   cases hc:cellsAt σ k off ti.sz with
   | none=>rw[hc] at hd;cases hd
   | some l0=>
    rw[hc] at hd
    simp only[Option.map_some,Option.some.injEq,Prod.mk.injEq] at hd
    obtain⟨e1,e2,e3⟩:=hd
    rw[hti,ZL (hx x (by simp[ho,Op.operands])) q1,ZL (hx y (by simp[ho,Op.operands])) q2]
    have hc':=VM (σ':=σ') (fun i hi=>h (.c k (off+i)) (List.mem_append_right _ (by rw[←e3];exact List.mem_map.2 ⟨i,List.mem_range.2 hi,rfl⟩))) hc
    simp only[Option.bind_some,hl,hc',Option.map_some,e1,e2,e3]
  ·rename_i g len n i j q1
   split at hd
   ·rename_i E n' l hg
    split at hd
    ·rename_i hcc
     obtain⟨d,q2,hd⟩:=bind_some hd
     cases hc:WP ti d with
     | none=>rw[hc] at hd;cases hd
     | some c=>
      rw[hc] at hd
      simp only[Option.map_some,Option.some.injEq,Prod.mk.injEq] at hd
      obtain⟨e1,e2,e3⟩:=hd
      have:=h (.r g) (List.mem_append_right _ (by rw[←e3];simp)) _ hg
      rw[hti,ZL (hx x (by simp[ho,Op.operands])) q1,ZL (hx y (by simp[ho,Op.operands])) q2]
      simp only[Option.bind_some,this,if_pos hcc,hc,Option.map_some,e1,e2,e3]
    cases hd
   cases hd
  cases hd
 ·rename_i t len parts ho
  unfold Kl at hd ⊢
  split at hd
  ·cases hd
  split at hd
  ·cases hd
  split at hd
  ·cases hd
  split at hd
  ·rename_i hc
   split at hd
   ·cases hd
   rename_i ds hds
   rw[if_pos hc,Un (fun x hm=>hx x (by simp only[ho,Op.operands];exact hm)) hds];exact hd
  cases hd
 ·rename_i t l c ho
  unfold OC at hd ⊢
  split at hd
  ·cases hd
  split at hd
  ·cases hd
  split at hd
  ·cases hd
  split at hd
  ·rename_i n hl hc
   rw[ZL (hx l (by simp[ho,Op.operands])) hl,ZL (hx c (by simp[ho,Op.operands])) hc];exact hd
  cases hd
 ·rename_i t x y ok ho
  unfold HA at hd ⊢
  split at hd
  ·rename_i ti k n hti q1 q2
   rw[hti,ZL (hx x (by simp[ho,Op.operands])) q1,ZL (hx y (by simp[ho,Op.operands])) q2]
   split at hd
   ·cases hd
   rename_i e he
   simp only[he]
   split at hd
   ·rename_i te l hte hl
    simp only[Option.some.injEq,Prod.mk.injEq] at hd
    obtain⟨a1,a2,a3⟩:=hd
    have:=h (.o k) (List.mem_append_right _ (by rw[←a3];simp)) _ hl
    simp only[hte,this,a1,a2,a3]
   cases hd
  cases hd
 ·rename_i t x y z ho
  unfold Q5 at hd ⊢
  split at hd
  ·rename_i ti k n d hti q1 q2 q3
   rw[hti,ZL (hx x (by simp[ho,Op.operands])) q1,ZL (hx y (by simp[ho,Op.operands])) q2,ZL (hx z (by simp[ho,Op.operands])) q3]
   split at hd
   ·cases hd
   rename_i e he
   simp only[he]
   split at hd
   ·rename_i l hl
    simp only[Option.some.injEq,Prod.mk.injEq] at hd
    obtain⟨a1,a2,a3⟩:=hd
    have:=h (.o k) (List.mem_append_right _ (by rw[←a3];simp)) _ hl
    simp only[this,a1,a2,a3]
   cases hd
  cases hd
 ·rename_i t x y z ho
  unfold Q5 at hd ⊢
  split at hd
  ·rename_i ti k n d hti q1 q2 q3
   rw[hti,ZL (hx x (by simp[ho,Op.operands])) q1,ZL (hx y (by simp[ho,Op.operands])) q2,ZL (hx z (by simp[ho,Op.operands])) q3]
   split at hd
   ·cases hd
   rename_i e he
   simp only[he]
   split at hd
   ·rename_i l hl
    simp only[Option.some.injEq,Prod.mk.injEq] at hd
    obtain⟨a1,a2,a3⟩:=hd
    have:=h (.o k) (List.mem_append_right _ (by rw[←a3];simp)) _ hl
    simp only[this,a1,a2,a3]
   cases hd
  cases hd
 ·exact hd
 ·rename_i c ho
  split at hd
  ·rename_i x y t t' h1 h2 h3
   split at hd
   ·rename_i ht
    obtain⟨d,q1,hd⟩:=bind_some hd
    obtain⟨e,q2,hd⟩:=bind_some hd
    have e2:c.args=#[x,y]:=by apply Array.ext';simpa using h2
    rw[if_pos ht,ZL (hx x (by simp[ho,Op.operands,Call.operands,h1,e2])) q1,ZL (hx y (by simp[ho,Op.operands,Call.operands,h1,e2])) q2]
    simp only[Option.bind_some]
    unfold M1 at hd ⊢
    split at hd
    ·cases hd
    split at hd
    ·cases hd
    split at hd
    ·cases hd
    split at hd
    ·cases hd
    rename_i l2 hl2
    split at hd
    ·rename_i hsz
     rw[if_pos hsz]
     split at hd
     ·exact hd
     ·rename_i n l g _
      split at hd
      ·rename_i E' n' len hg
       split at hd
       ·rename_i hcc
        simp only[Option.some.injEq,Prod.mk.injEq] at hd
        obtain⟨a1,a2,a3⟩:=hd
        have:=h (.r g) (List.mem_append_right _ (by rw[←a3];simp)) _ hg
        simp only[this,if_pos hcc,a1,a2,a3]
       cases hd
      cases hd
     ·rename_i g len _
      split at hd
      ·rename_i E' n' l hg
       split at hd
       ·rename_i hcc
        simp only[Option.some.injEq,Prod.mk.injEq] at hd
        obtain⟨a1,a2,a3⟩:=hd
        have:=h (.r g) (List.mem_append_right _ (by rw[←a3];simp)) _ hg
        simp only[this,if_pos hcc,a1,a2,a3]
       cases hd
      ·rename_i E' n' hg
       split at hd
       ·rename_i hcc
        simp only[Option.some.injEq,Prod.mk.injEq] at hd
        obtain⟨a1,a2,a3⟩:=hd
        have:=h (.r g) (List.mem_append_right _ (by rw[←a3];simp)) _ hg
        simp only[this,if_pos hcc,a1,a2,a3]
       cases hd
      cases hd
     ·exact hd
     cases hd
    cases hd
   cases hd
  ·rename_i x t h1 h2 h3
   obtain⟨d,q1,hd⟩:=bind_some hd
   have e2:c.args=#[x]:=by apply Array.ext';simpa using h2
   rw[ZL (hx x (by simp[ho,Op.operands,Call.operands,h1,e2])) q1]
   simp only[Option.bind_some]
   unfold Mf at hd ⊢
   split at hd
   ·rename_i ti g len n lo hti
    split at hd
    ·rename_i E hel
     split at hd
     ·rename_i te E' n' l hte hg
      split at hd
      ·rename_i hcc
       simp only[Option.some.injEq,Prod.mk.injEq] at hd
       obtain⟨a1,a2,a3⟩:=hd
       have hg':=h (.r g) (List.mem_append_right _ (by rw[←a3];simp)) _ hg
       simp only[hel,hte,hg',if_pos hcc,a1,a2,a3]
      cases hd
     cases hd
    cases hd
   cases hd
  cases hd
 cases hd
end
def WV (P : Program) (f : FuncId) : Bool := match P.funcs[f]? with
  | none => false
  | some fn => !(fn.name == "runtime.NumGoroutine") && !fn.body.isNone
def Holds (cx:Cx)(m:Mp)(Im:Nat→Nat→Prop)(w:World)(R:List (Key×D)):Prop:=∀ p∈R,match p with
 | (.c k off,d)=>∃ b v,m.blk k=some b∧w.cell? ⟨b,off,none⟩=some v∧Yz m Im w v d
 | (.j,d)=>∃ X J,d=.j X J∧JX cx m Im w X J
 | (.o k,d)=>∃ b,m.obj k=some b∧WN m Im w b d
 | (.r g,d)=>∃ Rw,m.row g=some Rw∧WW m Im w Rw d
 | _=>False
def Q1 (m:Mp)(R:List (Key×D))(b:Nat):Prop:=(∃ k off d,(Key.c k off,d)∈R∧m.blk k=some b)∨(∃ X J,(Key.j,D.j X J)∈R∧X b)∨∃ k d,(Key.o k,d)∈R∧m.obj k=some b
def ZB (P:Program)(f:FuncId)(args:List D)(R W:List (Key×D))(V:D):Prop:=
 WV P f=true∧∀ cx Fr m Im w vs,We cx Fr m Im w→YU m Im w vs args→Holds cx m Im w R →
  Calls P f vs.toArray w fun e w'=>∃ v Im',e=.returned v∧Off (Q1 m R) w w'∧(∀ b o,Im b o→Im' b o)∧(∀ b o,Im' b o→Im b o∨w.heap.size≤b)∧(∀ b o,Im' b o→∃ v,w'.cell? ⟨b,o,none⟩=some v) ∧
   (∀ k b o,m.blk k=some b→w'.frozen? ⟨b,o,none⟩=false)∧Yz m Im' w' v V∧Holds cx m Im' w' W
abbrev Zh (P:Program)(f:FuncId)(args:List D)(V:D):Prop:=ZB P f args [] [] V
def GK:Key→Bool
 | .j=>true
 | _=>false
def Yf (R:List (Key×D)):Key→Bool
 | .c k _=>R.any fun p=>match p.1 with | .c k' _=>k'==k | _=>false
 | .j=>R.any fun p=>GK p.1
 | .o k=>R.any fun p=>match p.1 with | .o k'=>k'==k | _=>false
 | _=>false
def Wy (R:List (Key×D))(σ:List (Key×D)):List (Key×D):=σ.filter fun p=>!Yf R p.1
def Vn (P:Program)(f:FuncId)(args:List D)(R:List (Key×D))(nm:Nat)(W:List (Key×D))(V:D):Prop:=
 WV P f=true∧∀ cx (Fr:Nat→Prop) m Im w a σ vs,Fr nm→St cx Fr m Im w a σ→YU m Im w vs args→(∀ p∈R,get σ p.1=some p.2) →
  Calls P f vs.toArray w fun e w'=>∃ v m' Im',e=.returned v∧St cx (WM Fr nm) m' Im' w' a (YC (Wy R σ) W)∧Yz m' Im' w' v V
abbrev PR (P:Program)(f:FuncId)(args:List D)(R:List (Key×D))(nm:Nat)(W:List (Key×D))(V:D):Prop:=ZB P f args R W V∨Vn P f args R nm W V
theorem W6 (f:Key→Bool):∀ (σ:List (Key×D)) (k:Key),get (σ.filter fun p=>f p.1) k=if f k then get σ k else none
 | [],k=>by simp[get]
 | (k',d) :: σ,k=>by
  rw[List.filter_cons]
  by_cases hf:f k'=true
  ·simp only[hf,if_true,get,W6 f σ k]
   by_cases he:Key.eq k' k=true
   ·have:=Key.eq_iff.1 he;subst this
    rw[if_pos he,if_pos he,if_pos hf]
   rw[if_neg he,if_neg he]
  have hf':f k'=false:=by simpa using hf
  simp only[hf',get]
  rw[if_neg (by simp),W6 f σ k]
  by_cases he:Key.eq k' k=true
  ·have:=Key.eq_iff.1 he;subst this
   rw[hf',if_neg (by simp),if_neg (by simp)]
  rw[if_neg he]
section
variable {P:Program} {T:List (Nat×TI)} {cx:Cx} {Fr Fr':Nat→Prop} {m m':Mp} {Im Im':Nat→Nat→Prop} {w w':World} {a:Act} {σ σ':List (Key×D)}
theorem St.holds (h:St cx Fr m Im w a σ){R:List (Key×D)}(hR:∀ p∈R,get σ p.1=some p.2)(hk:∀ p∈R,match p.1 with | .c _ _=>True | .j=>True | .o _=>True | .r _=>True | _=>False):Holds cx m Im w R:=fun p hp=>by
 have h1:=hR p hp
 have h2:=hk p hp
 obtain⟨k,d⟩:=p
 cases k with
 | c k off=>exact h.ce k off d h1
 | j=>exact h.jk d h1
 | o k=>exact h.ok k d h1
 | t x=>exact h2.elim
 | r g=>exact h.ro g d h1
theorem St.putj (h:St cx Fr m Im w a σ){X:Nat→Prop}{J:World→Prop}(hX:JX cx m Im w X J):St cx Fr m Im w a (XW .j (.j X J) σ) where
 mem:=h.mem
 df:=h.df
 nt:=h.nt
 tm x d' hx:=by rw[Zo,if_neg (by simp[Key.eq])] at hx;exact h.tm x d' hx
 ce k off d' hx:=by rw[Zo,if_neg (by simp[Key.eq])] at hx;exact h.ce k off d' hx
 ro g d' hx:=by rw[Zo,if_neg (by simp[Key.eq])] at hx;exact h.ro g d' hx
 jk d' hx:=by rw[Zo,if_pos (Key.eq_refl _)] at hx;cases hx;exact⟨X,J,rfl,hX⟩
 ok k d' hx:=by rw[Zo,if_neg (by simp[Key.eq])] at hx;exact h.ok k d' hx
theorem St.puto (h:St cx Fr m Im w a σ){k b:Nat}{d:D}(hb:m.obj k=some b)(hd:WN m Im w b d):St cx Fr m Im w a (XW (.o k) d σ) where
 mem:=h.mem
 df:=h.df
 nt:=h.nt
 tm x d' hx:=by rw[Zo,if_neg (by simp[Key.eq])] at hx;exact h.tm x d' hx
 ce k off d' hx:=by rw[Zo,if_neg (by simp[Key.eq])] at hx;exact h.ce k off d' hx
 ro g d' hx:=by rw[Zo,if_neg (by simp[Key.eq])] at hx;exact h.ro g d' hx
 jk d' hx:=by rw[Zo,if_neg (by simp[Key.eq])] at hx;exact h.jk d' hx
 ok k' d' hx:=by
  rw[Zo] at hx
  by_cases he:Key.eq (.o k) (.o k')=true
  ·rw[if_pos he] at hx
   cases hx
   have:=Key.eq_iff.1 he
   cases this
   exact⟨b,hb,hd⟩
  rw[if_neg he] at hx;exact h.ok k' d' hx
theorem St.putHolds:∀ {W:List (Key×D)} {σ:List (Key×D)},St cx Fr m Im w a σ→Holds cx m Im w W→St cx Fr m Im w a (YC σ W)
 | [],σ,h,_=>h
 | (k,d) :: W,σ,h,hW=>by
  rw[YC]
  have h1:=hW (k,d) (by simp)
  refine St.putHolds ?_ fun p hp=>hW p (by simp[hp])
  cases k with
  | c k off=>
   obtain⟨b,v,q1,q2,q3⟩:=h1
   exact h.putc q1 q2 q3
  | j=>
   obtain⟨X,J,rfl,q⟩:=h1
   exact h.putj q
  | o k=>
   obtain⟨b,q1,q2⟩:=h1
   exact h.puto q1 q2
  | t x=>exact h1.elim
  | r g=>
   obtain⟨Rw,q1,q2⟩:=h1
   exact h.putro q1 q2
theorem St.called (h:St cx Fr m Im w a σ){R W:List (Key×D)}(hR:Holds cx m Im w R)(ho:Off (Q1 m R) w w')(hi:∀ b o,Im b o→Im' b o)(hib:∀ b o,Im' b o→Im b o∨w.heap.size≤b)(hex:∀ b o,Im' b o→∃ v,w'.cell? ⟨b,o,none⟩=some v) 
  (hfz:∀ k b o,m.blk k=some b→w'.frozen? ⟨b,o,none⟩=false) (hW:Holds cx m Im' w' W):St cx Fr m Im' w' a (YC (Wy R σ) W)∧Z8 Im w w':=by
 have hxown:∀ X J,(Key.j,D.j X J)∈R→JX cx m Im w X J:=fun X J hm=>by
  obtain⟨X',J',e,hX⟩:=hR _ hm
  cases e;exact hX
 have hTown:∀ b,Q1 m R b→cx.C b∨cx.w0.heap.size≤b:=fun b hb=>by
  rcases hb with⟨k,off,d,_,hb⟩ | ⟨X,J,hm,hb⟩ | ⟨k,d,_,hb⟩
  ·exact h.mem.own k b hb
  ·exact(hxown X J hm).own b hb
  exact h.mem.oown k b hb
 have hTim:∀ b o,Q1 m R b→¬ Im b o:=fun b o hb=>by
  rcases hb with⟨k,off,d,_,hb⟩ | ⟨X,J,hm,hb⟩ | ⟨k,d,_,hb⟩
  ·exact h.mem.nim k b o hb
  ·exact(hxown X J hm).nim b o hb
  exact h.mem.onim k b o hb
 have hTrow:∀ b g Rw,Q1 m R b→m.row g=some Rw→Rw.hv.ownBlock≠some b:=fun b g Rw hb hg e=>by
  rcases hb with⟨k,off,d,_,hb⟩ | ⟨X,J,hm,hb⟩ | ⟨k,d,_,hb⟩
  ·exact h.mem.rblk g Rw b k hg e hb
  ·exact(hxown X J hm).row b g Rw hb hg e
  exact h.mem.orow k g Rw b hb hg e
 have hki:Z8 Im w w':=fun b o v hi hv=>(World.cell?_of_block (a:=⟨b,o,none⟩) (ho.block b (YR hv) fun ht=>hTim b o ht hi)).trans hv
 refine⟨?_,hki⟩
 refine St.putHolds ?_ hW
 have hmono:∀ {x d},Yz m Im w x d→Yz m Im' w' x d:=fun hx=>hx.mono (Mp.le.refl m) hki hi
 have hg:∀ k,get (Wy R σ) k=if Yf R k then none else get σ k:=fun k=>by
  unfold Wy
  rw[W6 (fun k=>!Yf R k)]
  cases Yf R k <;> rfl
 refine⟨⟨?off,hex,?imb,fun b o hh=>hi b o (h.mem.im0 b o hh),h.mem.own,fun k b hk=>Nat.lt_of_lt_of_le (h.mem.lt k b hk) ho.size,hfz,?nim,h.mem.inj,?row,?rIm,h.mem.rblk,h.mem.rinj,h.mem.fr,h.mem.m0,h.mem.m0o,h.mem.oown,fun k b hk=>Nat.lt_of_lt_of_le (h.mem.olt k b hk) ho.size,?onim,h.mem.oinj,h.mem.oblk,h.mem.orow,h.mem.dis,h.mem.k0.trans (hki.weaken h.mem.im0),h.mem.rown,h.mem.m0r⟩,h.df,h.nt,fun x d hx=>?tm,fun k off d hx=>?ce,fun g d hx=>?ro,fun d hx=>?jk,fun k d hx=>?okk⟩
 case off=>
  refine⟨ho.os.trans h.mem.off.os,ho.tape.trans h.mem.off.tape,ho.output.trans h.mem.off.output,Nat.le_trans h.mem.off.size ho.size,fun b hb hC=>?_⟩
  refine(ho.block b (Nat.lt_of_lt_of_le hb h.mem.off.size) fun ht=>?_).trans (h.mem.off.block b hb hC)
  rcases hTown b ht with hc | hc
  ·exact hC hc
  omega
 case imb=>
  intro b o hh
  rcases hib b o hh with h1 | h1
  ·exact h.mem.imb b o h1
  exact .inr (.inl (Nat.le_trans h.mem.off.size h1))
 case nim=>
  intro k b o hk hh
  rcases hib b o hh with h1 | h1
  ·exact h.mem.nim k b o hk h1
  have:=h.mem.lt k b hk;omega
 case onim=>
  intro k b o hk hh
  rcases hib b o hh with h1 | h1
  ·exact h.mem.onim k b o hk h1
  have:=h.mem.olt k b hk;omega
 case row=>
  intro g Rw hg
  obtain⟨xs,hx⟩:=h.mem.row g Rw hg
  refine⟨xs,hx.1,?_⟩
  rcases hx.2 with h0 | ⟨g',cap,cur,e,h1,h2,h3⟩
  ·exact .inl h0
  refine .inr ⟨g',cap,cur,e,h1,?_,h3⟩
  rw[ho.block g' (lt_of_block h2) fun ht=>hTrow g' g Rw ht hg (by rw[e];rfl)];exact h2
 case rIm=>
  intro g Rw b o hg hob hh
  rcases hib b o hh with h1 | h1
  ·exact h.mem.rIm g Rw b o hg hob h1
  obtain⟨xs,hx⟩:=h.mem.row g Rw hg
  have:=(Vz hx hob).2;omega
 case tm=>rw[hg] at hx;simp only[Yf] at hx;exact hmono (h.tm x d hx)
 case ce=>
  rw[hg] at hx
  by_cases ht:Yf R (.c k off)=true
  ·rw[if_pos ht] at hx;cases hx
  rw[if_neg ht] at hx
  obtain⟨b,v,q1,q2,q3⟩:=h.ce k off d hx
  refine⟨b,v,q1,?_,hmono q3⟩
  refine(World.cell?_of_block (a:=⟨b,off,none⟩) (ho.block b (YR q2) fun hb=>?_)).trans q2
  rcases hb with⟨k',off',d',hm,hb⟩ | ⟨X,J,hm,hb⟩ | ⟨k',d',hm,hb⟩
  ·have:=h.mem.inj k k' b q1 hb
   subst this
   exact ht (by simp only[Yf,List.any_eq_true];exact⟨_,hm,by simp⟩)
  ·exact(hxown X J hm).blk b k hb q1
  exact h.mem.oblk k' k b hb q1
 case ro=>
  rw[hg] at hx;simp only[Yf] at hx
  obtain⟨Rw,q1,q2⟩:=h.ro g d hx
  exact⟨Rw,q1,q2.mono (fun b hb=>ho.block b (h.mem.rlt q1 hb) fun ht=>hTrow b g Rw ht q1 hb) (Mp.le.refl m) hki hi fun b o hb hh=>(hib b o hh).elim id fun h2=>absurd (h.mem.rlt q1 hb) (Nat.not_lt.2 h2)⟩
 case jk=>
  rw[hg] at hx
  by_cases ht:Yf R .j=true
  ·rw[if_pos ht] at hx;cases hx
  rw[if_neg ht] at hx
  obtain⟨X,J,e,hX⟩:=h.jk d hx
  have hsame:∀ b,X b→w'.heap[b]?=w.heap[b]?:=fun b hb=>ho.block b (hX.lt b hb) fun hT=>by
   rcases hT with⟨k',off',d',hm,hb'⟩ | ⟨X',J',hm,hb'⟩ | ⟨k',d',hm,hb'⟩
   ·exact hX.blk b k' hb hb'
   ·exact ht (by simp only[Yf,List.any_eq_true];exact⟨_,hm,rfl⟩)
   exact hX.obj b k' hb hb'
  exact⟨X,J,e,hX.stable _ ho.size hsame,fun w2 hs hx2=>hX.stable w2 (Nat.le_trans ho.size hs) fun b hb=>(hx2 b hb).trans (hsame b hb),fun b hb=>Nat.lt_of_lt_of_le (hX.lt b hb) ho.size,hX.own,fun b o hb hh=>by
   rcases hib b o hh with h1 | h1
   ·exact hX.nim b o hb h1
   have:=hX.lt b hb;omega,hX.blk,hX.row,hX.obj⟩
 case okk=>
  rw[hg] at hx
  by_cases ht:Yf R (.o k)=true
  ·rw[if_pos ht] at hx;cases hx
  rw[if_neg ht] at hx
  obtain⟨b,q1,q2⟩:=h.ok k d hx
  refine⟨b,q1,q2.mono (ho.block b (h.mem.olt k b q1) fun hT=>?_) (Mp.le.refl m) hki hi⟩
  rcases hT with⟨k',off',d',hm,hb'⟩ | ⟨X',J',hm,hb'⟩ | ⟨k',d',hm,hb'⟩
  ·exact h.mem.oblk k k' b q1 hb'
  ·exact(hxown X' J' hm).obj b k hb' q1
  have:=h.mem.oinj k k' b q1 hb'
  subst this
  exact ht (by simp only[Yf,List.any_eq_true];exact⟨_,hm,by simp⟩)
def VB (σ:List (Key×D))(o:Oper):Option (FuncId×List D):=match o.op with
 | .call c=>match c.callee with
  | .value x=>match ev σ x with
   | some (.fn f caps)=>(evs σ c.args.toList).map fun ars=>(f,ars++caps)
   | _=>none
  | _=>none
 | _=>none
theorem O6 {o:Oper}(h:∀ k∈Rl o,V7 σ σ' k){e:FuncId×List D}(hd:VB σ o=some e):VB σ' o=some e:=by
 have hx:∀ x∈o.op.operands.toList,∀ t,x=.tmp t→V7 σ σ' (.t t):=fun x hx t e=>h _ (Qt (e ▸ hx))
 unfold VB at hd ⊢
 split at hd
 ·rename_i c ho
  split at hd
  ·rename_i x hc
   split at hd
   ·rename_i f caps hf
    have hxm:x∈o.op.operands.toList:=by simp[ho,Op.operands,Call.operands,hc]
    rw[ZL (hx x hxm) hf]
    cases he:evs σ c.args.toList with
    | none=>rw[he] at hd;cases hd
    | some ars=>
     rw[he] at hd
     simp only[Un (fun y hy=>hx y (by simp only[ho,Op.operands,Call.operands,hc,Array.toList_append,List.mem_append];exact .inr hy)) he]
     exact hd
   cases hd
  cases hd
 cases hd
theorem Mc {o : Oper} (h : St cx Fr m Im w a σ) {f : FuncId} {ars : List D} (hd : VB σ o = some (f, ars)) (hf : WV P f = true) : ∃ vs : List Value, (execOp a.eval o).run P w = .ok (.enter f vs.toArray) w ∧ YU m Im w vs ars := by
  unfold VB at hd
  split at hd
  · rename_i c ho
    split at hd
    · rename_i x hc
      split at hd
      · rename_i f' caps hx
        cases he : evs σ c.args.toList with
        | none => rw [he] at hd; cases hd
        | some ds =>
          rw [he] at hd
          cases hd
          obtain ⟨cs, ec, hcs⟩ := PE.1 (h.ev hx)
          have hargs := h.evs he
          refine ⟨c.args.toList.map a.eval ++ cs, ?_, hargs.append hcs⟩
          unfold WV at hf
          cases hfn : P.funcs[f]? with
          | none => rw [hfn] at hf; cases hf
          | some fn =>
            rw [hfn] at hf
            simp only [Bool.and_eq_true, Bool.not_eq_true'] at hf
            have hargs2 : (c.args.map a.eval ++ cs.toArray) = (c.args.toList.map a.eval ++ cs).toArray := by apply Array.ext'; simp
            have hn : ¬ fn.name = "runtime.NumGoroutine" := by simpa using hf.1
            obtain ⟨body, hb⟩ : ∃ body, fn.body = some body := by
              cases hb : fn.body with
              | none => rw [hb] at hf; cases hf.2
              | some body => exact ⟨body, rfl⟩
            simp only [execOp, ho, resolve, hc, ec, Deferred.ofValue, invoke, callFunc]
            simp [hfn, hn, hb, hargs2]
      · cases hd
    · cases hd
  · cases hd
end
structure RStep where
 Rv:List (Key×D)
 R:List (Key×D)
 W:List (Key×D)
def RStep.wk (s:RStep)(k:Key):Bool:=Yf s.R k||s.W.any fun p=>Key.eq p.1 k
def RStep.ap (s:RStep)(σ:List (Key×D)):List (Key×D):=YC (Wy s.R σ) s.W
theorem Vb (R σ:List (Key×D))(k:Key):get (Wy R σ) k=if Yf R k then none else get σ k:=by
 unfold Wy
 rw[W6 (fun k=>!Yf R k)]
 cases Yf R k <;> rfl
theorem XY (σ:List (Key×D)):Wy [] σ=σ:=by
 unfold Wy
 rw[List.filter_eq_self]
 intro p _
 cases p.1 <;> rfl
namespace RStep
variable {s:RStep} {σ σ':List (Key×D)} {k:Key}
theorem notW (h:s.wk k=false):Yf s.R k=false∧∀ p∈s.W,p.1≠k:=by
 simp only[wk,Bool.or_eq_false_iff,List.any_eq_false] at h
 exact⟨h.1,fun p hp e=>h.2 p hp (by rw[e];exact Key.eq_refl _)⟩
theorem ap_out (h:s.wk k=false):get (s.ap σ) k=get σ k:=by
 obtain⟨h1,h2⟩:=notW h
 rw[ap,Xx _ _ _ h2,Vb,h1,if_neg (by simp)]
theorem ap_congr (h:get σ k=get σ' k):get (s.ap σ) k=get (s.ap σ') k:=by
 rw[ap,ap]
 exact SZ _ _ _ _ (by rw[Vb,Vb,h])
theorem ap_in (h:s.wk k=true):get (s.ap σ) k=get (s.ap σ') k:=by
 rw[ap,ap]
 by_cases hw:∃ p∈s.W,p.1=k
 ·exact Uo _ _ _ _ hw
 have hn:∀ p∈s.W,p.1≠k:=fun p hp e=>hw ⟨p,hp,e⟩
 have ht:Yf s.R k=true:=by
  simp only[wk,Bool.or_eq_true,List.any_eq_true] at h
  rcases h with h | ⟨p,hp,he⟩
  ·exact h
  exact absurd (Key.eq_iff.1 he) (hn p hp)
 rw[Xx _ _ _ hn,Xx _ _ _ hn,Vb,Vb,ht,if_pos rfl,if_pos rfl]
end RStep
section perm
variable (S:Nat→RStep) (σ0:List (Key×D))
def Wt (L:Nat→Bool):Nat→List (Key×D)
 | 0=>σ0
 | i+1=>if L i then (S i).ap (Wt L i) else Wt L i
variable {S σ0}
theorem W8 {L L':Nat→Bool}{k:Key}:∀ {n:Nat},(∀ j,j<n→(S j).wk k=true→L j=L' j)→get (Wt S σ0 L n) k=get (Wt S σ0 L' n) k
 | 0,_=>rfl
 | n+1,h=>by
  have ih:=W8 (n:=n) fun j hj hw=>h j (by omega) hw
  simp only[Wt]
  cases hw:(S n).wk k with
  | true=>
   rw[h n (by omega) hw]
   split
   ·exact RStep.ap_congr ih
   exact ih
  | false=>
   have h1:∀ σ,get ((S n).ap σ) k=get σ k:=fun σ=>RStep.ap_out hw
   split <;> split <;> simp only[h1,ih]
theorem Tg {L : Nat → Bool} {i : Nat} : ∀ {n : Nat}, i ≤ n → (∀ j, i ≤ j → j < n → L j = false) → Wt S σ0 L n = Wt S σ0 L i
  | 0, h, _ => by have : i = 0 := by omega
                  rw [this]
  | n + 1, h, hl => by
    by_cases hi : i = n + 1
    · rw [hi]
    rw [Wt, hl n (by omega) (by omega), if_neg (by simp), Tg (n := n) (by omega) fun j h1 h2 => hl j h1 (by omega)]
def UN:Nat→Bool:=fun _=>true
theorem J6 {k:Key}{i n:Nat}(h:i≤n):get (Wt S σ0 (fun j=>decide (j<i)) n) k=get (Wt S σ0 UN i) k:=by
 rw[Tg h fun j h1 _=>by simp;omega]
 exact W8 fun j hj _=>by simp[UN,hj]
def Cf (s t:RStep):Prop:=(∀ p∈t.Rv,s.wk p.1=false)∧(∀ p∈s.Rv,t.wk p.1=false)∧∀ k,s.wk k=true→t.wk k=false
variable {anc:Nat→Nat→Prop} {n:Nat} (hc:∀ i j,i<j→j<n→anc j i∨Cf (S i) (S j))
include hc
theorem NH {L:Nat→Bool}(hcl:∀ j i,j<n→L j=true→anc j i→L i=true){i:Nat}(hi:i<n)(hL:L i=false)(hr:∀ x,anc i x→L x=true){p:Key×D}(hp:p∈(S i).Rv):get (Wt S σ0 L n) p.1=get (Wt S σ0 UN i) p.1:=by
 rw[←J6 (Nat.le_of_lt hi)]
 refine W8 fun j hj hw=>?_
 rcases Nat.lt_trichotomy j i with h | h | h
 ·rcases hc j i h hi with h1 | h1
  ·simp[hr j h1,h]
  have:=h1.1 p hp;rw[hw] at this;cases this
 ·subst h;simp[hL]
 have hn:L j=false:=by
  cases hLj:L j with
  | false=>rfl
  | true=>
   rcases hc i j h hj with h1 | h1
   ·have:=hcl j i hj hLj h1;rw[hL] at this;cases this
   have:=h1.2.1 p hp;rw[hw] at this;cases this
 simp[hn];omega
theorem NI {L:Nat→Bool}(hcl:∀ j i,j<n→L j=true→anc j i→L i=true){i:Nat}(hi:i<n)(hL:L i=false)(k:Key):get ((S i).ap (Wt S σ0 L n)) k=get (Wt S σ0 (fun j=>L j||j==i) n) k:=by
 cases hw:(S i).wk k with
 | false=>
  rw[RStep.ap_out hw]
  refine W8 fun j hj hwj=>?_
  have:j≠i:=fun e=>by subst e;rw[hw] at hwj;cases hwj
  simp[this]
 | true=>
  have h1:get (Wt S σ0 (fun j=>L j||j==i) n) k=get (Wt S σ0 (fun j=>(L j||j==i)&&decide (j<i+1)) n) k:=W8 fun j hj hwj=>by
   by_cases h:j<i+1
   ·simp[h]
   have hji:j≠i:=by omega
   have hn:L j=false:=by
    cases hLj:L j with
    | false=>rfl
    | true=>
     rcases hc i j (by omega) hj with h1 | h1
     ·have:=hcl j i hj hLj h1;rw[hL] at this;cases this
     have:=h1.2.2 k hw;rw[hwj] at this;cases this
   simp[hn,hji]
  rw[h1,Tg (L:=fun j=>(L j||j==i)&&decide (j<i+1)) (i:=i+1) (by omega) fun j h1 _=>by simp;intro _;omega]
  simp only[Wt]
  rw[if_pos (by simp)]
  exact RStep.ap_in hw
end perm
def K9 (P:Program)(cx:Cx)(ops:Array Oper)(Q:Exit→Act→World→Prop)(o:Oper)(nm:Nat)(s:RStep):Prop:=
 ∀ (Fr:Nat→Prop) m Im w a σ,Fr nm→St cx Fr m Im w a σ→(∀ p∈s.Rv,get σ p.1=some p.2)→∀ K:Act→World→Prop,(∀ m' Im' w' a',St cx (WM Fr nm) m' Im' w' a' (s.ap σ)→K a' w') →
  if Region.wanted o (yielded ops a.tmps)=true then o.wp P a w K Q else K (a.put o.dst undef) w
def KZ (ops:Array Oper)(j i:Nat):Prop:=∃ o e,ops[j]?=some o∧e∈o.after∧Region.binds .any e=true∧e.on=i
inductive KY (ops:Array Oper):Nat→Nat→Prop where
 | one {j i:Nat}:KZ ops j i→KY ops j i
 | more {j x i:Nat}:KZ ops j x→KY ops x i→KY ops j i
theorem KY.closed {ops:Array Oper}{L:Nat→Bool}(h:∀ j i,L j=true→KZ ops j i→L i=true){j i:Nat}(ha:KY ops j i):L j=true→L i=true:=by
 induction ha with
 | one he=>exact fun hj=>h _ _ hj he
 | more he _ ih=>exact fun hj=>ih (h _ _ hj he)
section
variable {P:Program} {cx:Cx} {ops:Array Oper} {Q:Exit→Act→World→Prop} {S:Nat→RStep} {σ0:List (Key×D)} {nm:Nat} {Fr0:Nat→Prop}
def lf (listed:Array Bool)(i:Nat):Bool:=listed.getD i true
theorem I8 {listed:Array Bool}{i:Nat}(hi:i<listed.size):lf (listed.setIfInBounds i true)=fun j=>lf listed j||j==i:=by
 funext j
 unfold lf
 by_cases h:j=i
 ·subst h;simp[hi]
 rw[Array.getD_eq_getD_getElem?,Array.getElem?_setIfInBounds_ne (Ne.symm h),←Array.getD_eq_getD_getElem?];simp[h]
theorem NM (hop:∀ i (h:i<ops.size),K9 P cx ops Q ops[i] (nm+i) (S i))(hR:∀ i,i<ops.size→∀ p∈(S i).Rv,get (Wt S σ0 UN i) p.1=some p.2) 
  (hc:∀ i j,i<j→j<ops.size→KY ops j i∨Cf (S i) (S j)) (hidx:∀ j i,KZ ops j i→i<j) (hFr:∀ k,nm≤k→Fr0 k)
  (hfin:∀ m Im w a,St cx (fun k=>Fr0 k∧nm+ops.size≤k) m Im w a (Wt S σ0 UN ops.size)→Q .normal a w) :
  ∀ (fuel:Nat) (listed:Array Bool) (m:Mp) (Im:Nat→Nat→Prop) (w:World) (a:Act),listed.size=ops.size→(∀ j i,j<ops.size→lf listed j=true→KZ ops j i→lf listed i=true) →
   (∃ U:List Nat,U.length≤fuel∧∀ i,i<ops.size→lf listed i=false→i∈U)→St cx (fun k=>Fr0 k∧∀ i,i<ops.size→k=nm+i→lf listed i=false) m Im w a (Wt S σ0 (lf listed) ops.size) →
   wpAny P .any ops Q fuel listed a w:=by
 have hdone:∀ (listed:Array Bool) (m:Mp) (Im:Nat→Nat→Prop) (w:World) (a:Act),(∀ i,i<ops.size→lf listed i=true)→St cx (fun k=>Fr0 k∧∀ i,i<ops.size→k=nm+i→lf listed i=false) m Im w a (Wt S σ0 (lf listed) ops.size)→Q .normal a w:=fun listed m Im w a hall h=>by
  refine hfin m Im w a ((h.sub fun k d hk=>?_).less fun k hk=>⟨hk.1,fun i hi e=>by omega⟩)
  rw[←hk]
  exact W8 fun j hj _=>by rw[hall j hj];rfl
 have hnone:∀ (listed:Array Bool),listed.size=ops.size→Region.ready .any ops listed=[]→∀ i,i<ops.size→lf listed i=true:=fun listed hs hr i=>by
  induction i using Nat.strongRecOn with
  | _ i ih=>
   intro hi
   cases hL:lf listed i with
   | true=>rfl
   | false=>
    exfalso
    have:i∈Region.ready .any ops listed:=mem_ready.2 ⟨hL,ops[i],by simp[hi],fun e he hb=>by
     have hlt:=hidx i e.on ⟨ops[i],e,by simp[hi],he,hb,rfl⟩
     have:=ih e.on hlt (by omega)
     have hlt2:e.on<listed.size:=by omega
     unfold lf at this
     simpa[hlt2] using this⟩
    rw[hr] at this
    cases this
 intro fuel
 induction fuel with
 | zero=>
  rintro listed m Im w a hs hcl ⟨U,hU,hUm⟩ h
  have hall:∀ i,i<ops.size→lf listed i=true:=fun i hi=>by
   cases hL:lf listed i with
   | true=>rfl
   | false=>
    have:=hUm i hi hL
    have hU0:U=[]:=List.eq_nil_of_length_eq_zero (by omega)
    rw[hU0] at this;cases this
  refine⟨?_,hdone listed m Im w a hall h⟩
  refine List.eq_nil_iff_forall_not_mem.2 fun i hi=>?_
  obtain⟨h1,o,h2,_⟩:=mem_ready.1 hi
  have:=hall i (Array.getElem?_eq_some_iff.1 h2).1
  unfold lf at this
  rw[h1] at this;cases this
 | succ fuel ih=>
  rintro listed m Im w a hs hcl ⟨U,hU,hUm⟩ h
  refine⟨fun hr=>hdone listed m Im w a (hnone listed hs hr) h,fun i hi=>?_⟩
  obtain⟨h1,o,h2,h3⟩:=mem_ready.1 hi
  obtain⟨hlt,ho⟩:=Array.getElem?_eq_some_iff.1 h2
  have hL:lf listed i=false:=h1
  have hdir:∀ x,KZ ops i x→lf listed x=true:=fun x ⟨o',e,q1,q2,q3,q4⟩=>by
   rw[h2] at q1;cases q1
   have:=h3 e q2 q3
   have hx:x<i:=hidx i x ⟨o,e,h2,q2,q3,q4⟩
   subst q4
   have hlt2:e.on<listed.size:=by omega
   unfold lf
   simpa[hlt2] using this
  have hcl':∀ j i,lf listed j=true→KZ ops j i→lf listed i=true:=fun j i hj he=>by
   have he':=he
   obtain⟨o',e,q1,_⟩:=he'
   exact hcl j i (Array.getElem?_eq_some_iff.1 q1).1 hj he
  have hanc:∀ x,KY ops i x→lf listed x=true:=fun x hx=>by
   cases hx with
   | one he=>exact hdir _ he
   | more he ha=>exact ha.closed hcl' (hdir _ he)
  refine wpOp_step h2 fun K hK=>?_
  have hOp:=hop i hlt
  rw[ho] at hOp
  have hxi:∀ x,x<ops.size→nm+i=nm+x→lf listed x=false:=fun x _ e=>by
   have:x=i:=by omega
   rw[this];exact hL
  refine hOp _ m Im w a _ ⟨hFr _ (by omega),hxi⟩ h (fun p hp=>?_) K fun m' Im' w' a' h'=>hK _ _ ?_
  ·rw[NH hc (L:=lf listed) (fun j x hj hLj hx=>hx.closed hcl' hLj) hlt hL hanc hp]
   exact hR i hlt p hp
  have hset:=I8 (listed:=listed) (i:=i) (by omega)
  refine ih (listed.setIfInBounds i true) m' Im' w' a' (by simpa using hs) ?_ ⟨U.erase i,?_,?_⟩ ?_
  ·intro j x hj hLj he
   rw[hset] at hLj ⊢
   simp only[Bool.or_eq_true,beq_iff_eq] at hLj ⊢
   rcases hLj with hLj | rfl
   ·exact .inl (hcl j x hj hLj he)
   exact .inl (hdir x he)
  ·rw[List.length_erase_of_mem (hUm i hlt hL)]
   have:=List.length_pos_of_mem (hUm i hlt hL)
   omega
  ·intro j hj hLj
   rw[hset] at hLj
   simp only[Bool.or_eq_false_iff,beq_eq_false_iff_ne] at hLj
   exact(List.mem_erase_of_ne hLj.2).2 (hUm j hj hLj.1)
  rw[hset]
  refine(h'.sub fun k d hk=>?_).less fun k hk=>⟨⟨hk.1,fun x hx e=>?_⟩,fun e=>?_⟩
  ·rw[NI hc (L:=lf listed) (fun j x hj hLj hx=>hx.closed hcl' hLj) hlt hL k];exact hk
  ·have:=hk.2 x hx e
   simp only[Bool.or_eq_false_iff] at this
   exact this.1
  have:=hk.2 i hlt e
  simp at this
theorem PB (hop:∀ i (h:i<ops.size),K9 P cx ops Q ops[i] (nm+i) (S i))(hR:∀ i,i<ops.size→∀ p∈(S i).Rv,get (Wt S σ0 UN i) p.1=some p.2) 
  (hc:∀ i j,i<j→j<ops.size→KY ops j i∨Cf (S i) (S j)) (hidx:∀ j i,KZ ops j i→i<j) (hFr:∀ k,nm≤k→Fr0 k)
  (hfin:∀ m Im w a,St cx (fun k=>Fr0 k∧nm+ops.size≤k) m Im w a (Wt S σ0 UN ops.size)→Q .normal a w) {m:Mp} {Im:Nat→Nat→Prop} {w:World} {a:Act} (h:St cx Fr0 m Im w a σ0) :
  wpAny P .any ops Q ops.size (Array.replicate ops.size false) a w:=by
 have hlf:∀ i,i<ops.size→lf (Array.replicate ops.size false) i=false:=fun i hi=>by unfold lf;simp[hi]
 refine NM hop hR hc hidx hFr hfin ops.size _ m Im w a (by simp) (fun j i hj hL=>?_) ⟨List.range ops.size,by simp,fun i hi _=>List.mem_range.2 hi⟩ ?_
 ·rw[hlf j hj] at hL;cases hL
 rw[Tg (i:=0) (Nat.zero_le _) fun j _ hj=>hlf j hj]
 exact h.less fun k hk=>hk.1
theorem Sf (hop:∀ i (h:i<ops.size),K9 P cx ops Q ops[i] (nm+i) (S i))(hR:∀ i,i<ops.size→∀ p∈(S i).Rv,get (Wt S σ0 UN i) p.1=some p.2)(hFr:∀ k,nm≤k→Fr0 k) 
  (hfin:∀ m Im w a,St cx (fun k=>Fr0 k∧nm+ops.size≤k) m Im w a (Wt S σ0 UN ops.size)→Q .normal a w) :
  ∀ (k i:Nat) {m:Mp} {Im:Nat→Nat→Prop} {w:World} {a:Act},i+k=ops.size→St cx (fun x=>Fr0 x∧∀ y,y<i→x≠nm+y) m Im w a (Wt S σ0 UN i)→wpOps P ops Q (List.range' i k) a w
 | 0,i,m,Im,w,a,hk,h=>by
  have:i=ops.size:=by omega
  subst this
  exact hfin m Im w a (h.less fun x hx=>⟨hx.1,fun y hy=>by omega⟩)
 | k+1,i,m,Im,w,a,hk,h=>by
  have hlt:i<ops.size:=by omega
  rw[List.range'_succ,wpOps_cons]
  refine wpOp_step (o:=ops[i]) (by simp[hlt]) fun K hK=>?_
  refine hop i hlt _ m Im w a _ ⟨hFr _ (by omega),fun y hy=>by omega⟩ h (hR i hlt) K fun m' Im' w' a' h'=>hK _ _ ?_
  refine Sf hop hR hFr hfin k (i+1) (m:=m') (Im:=Im') (by omega) ?_
  simp only[Wt,UN,if_true]
  exact h'.less fun x hx=>⟨⟨hx.1,fun y hy=>hx.2 y (by omega)⟩,hx.2 i (by omega)⟩
end
def gd (ops:Array Oper)(σ:List (Key×D))(g:Option (Nat×Bool)):Option Bool:=match g with
 | none=>some true
 | some (j,want)=>match (ops[j]?).bind (·.dst) with
  | none=>none
  | some d=>match get σ (.t d) with
   | some (.v (.bool b))=>some (b==want)
   | some (.v (.tuple _))=>some false
   | _=>none
def gr (ops:Array Oper)(g:Option (Nat×Bool)):List Key:=match g with
 | none=>[]
 | some (j,_)=>match (ops[j]?).bind (·.dst) with
  | none=>[]
  | some d=>[.t d]
def dW (d:Option Tmp)(V:D):List (Key×D):=match d with
 | none=>[]
 | some d=>[(.t d,V)]
def dk (d:Option Tmp):List Key:=match d with
 | none=>[]
 | some d=>[.t d]
def WO:Key→Bool
 | .c _ _=>true
 | .j=>true
 | .o _=>true
 | _=>false
def Nd:Key→Bool
 | .c _ _=>true
 | .j=>true
 | .o _=>true
 | .r _=>true
 | _=>false
abbrev TW:=List Key×List (Key×D)×List Key
mutual
def OS (P:Program)(T:List (Nat×TI))(ops:Array Oper)(nm:Nat):List Oper→Nat→List (Key×D)→List TW→(List (Key×D)→List TW→Prop)→Prop
 | [],_,σ,lg,K=>K σ lg
 | o :: r,i,σ,lg,K=>
  match gd ops σ o.guard with
  | none=>False
  | some false=>OS P T ops nm r (i+1) (YC σ (dW o.dst (.v undef))) ((gr ops o.guard,[],dk o.dst) :: lg) K
  | some true=>
   match U7 T σ o with
   | some V=>∃ V',Zm V V'∧OS P T ops nm r (i+1) (YC σ (dW o.dst V')) ((gr ops o.guard++Rl o++JL T σ o,[],dk o.dst) :: lg) K
   | none=>
    match OD T σ (nm+i) o with
    | some (V,W,R)=>∃ V',Zm V V'∧OS P T ops nm r (i+1) (YC σ (W++dW o.dst V')) ((gr ops o.guard++Rl o++R,[],W.map (·.1)++dk o.dst) :: lg) K
    | none=>
     match VB σ o with
     | some (f,ars)=>∃ R W V,PR P f ars R (nm+i) W V∧(∀ p∈R,get σ p.1=some p.2∧Nd p.1=true)∧∃ V',Zm V V'∧OS P T ops nm r (i+1) (YC (Wy R σ) (W++dW o.dst V')) ((gr ops o.guard++Rl o++R.map (·.1),R,W.map (·.1)++dk o.dst) :: lg) K
     | none=>False
end
section
variable {P:Program} {T:List (Nat×TI)} {cx:Cx} {Fr Fr':Nat→Prop} {m m':Mp} {Im Im':Nat→Nat→Prop} {w w':World} {a:Act} {σ σ':List (Key×D)} {ops:Array Oper} {Q:Exit→Act→World→Prop}
theorem Wq:∀ (W W' σ:List (Key×D)),YC σ (W++W')=YC (YC σ W) W'
 | [],_,_=>rfl
 | (k,d) :: W,W',σ=>by rw[List.cons_append,YC,YC,Wq]
theorem St.putO (h:St cx Fr m Im w a σ){dst:Option Tmp}(hd:∀ d,dst=some d→d<cx.nt){v:Value}{V:D}(hr:Yz m Im w v V):St cx Fr m Im w (a.put dst v) (YC σ (dW dst V)):=by
 cases dst with
 | none=>exact h
 | some d=>exact h.put (hd d rfl) hr
theorem Qm (h:St cx Fr m Im w a σ){o:Oper}{b:Bool}(hg:gd ops σ o.guard=some b):Region.wanted o (yielded ops a.tmps)=b:=by
 unfold gd at hg
 unfold Region.wanted
 split at hg
 ·rename_i hn;rw[hn];cases hg;rfl
 rename_i j want hn
 rw[hn]
 simp only
 split at hg
 ·cases hg
 rename_i d hd
 unfold yielded
 rw[hd]
 simp only[Option.bind_some]
 split at hg
 ·rename_i b' hb
  cases hg
  have e:=Yr.1 (h.tm d _ hb)
  have hlt:d<a.tmps.size:=by
   rcases Nat.lt_or_ge d a.tmps.size with h' | h'
   ·exact h'
   rw[Array.getD_eq_getD_getElem?,Array.getElem?_eq_none h'] at e;cases e
  rw[Array.getD_eq_getD_getElem?,Array.getElem?_eq_getElem hlt] at e
  rw[Array.getElem?_eq_getElem hlt]
  simp only[Option.getD_some] at e
  rw[e]
  cases b' <;> cases want <;> rfl
 ·rename_i x hb
  cases hg
  have e:=Yr.1 (h.tm d _ hb)
  rcases Nat.lt_or_ge d a.tmps.size with hlt | h'
  ·rw[Array.getD_eq_getD_getElem?,Array.getElem?_eq_getElem hlt] at e
   rw[Array.getElem?_eq_getElem hlt]
   simp only[Option.getD_some] at e
   rw[e];rfl
  rw[Array.getElem?_eq_none h'];rfl
 cases hg
def Sx (σ:List (Key×D))(ks:List Key):List (Key×D):=ks.filterMap fun k=>(get σ k).map fun d=>(k,d)
theorem V9 {ks:List Key}(h:∀ p∈Sx σ ks,get σ' p.1=some p.2):∀ k∈ks,V7 σ σ' k:=fun k hk d hd=>
 h (k,d) (List.mem_filterMap.2 ⟨k,hk,by rw[hd];rfl⟩)
theorem UH {ks:List Key}:∀ p∈Sx σ ks,get σ p.1=some p.2:=fun p hp=>by
 obtain⟨k,_,e⟩:=List.mem_filterMap.1 hp
 cases hg:get σ k with
 | none=>rw[hg] at e;cases e
 | some d=>rw[hg] at e;cases e;exact hg
theorem UI {ks:List Key}:∀ p∈Sx σ ks,p.1∈ks:=fun p hp=>by
 obtain⟨k,hk,e⟩:=List.mem_filterMap.1 hp
 cases hg:get σ k with
 | none=>rw[hg] at e;cases e
 | some d=>rw[hg] at e;cases e;exact hk
theorem TC {g:Option (Nat×Bool)}(h:∀ k∈gr ops g,V7 σ σ' k){b:Bool}(hg:gd ops σ g=some b):gd ops σ' g=some b:=by
 unfold gd at hg ⊢
 unfold gr at h
 split at hg
 ·exact hg
 rename_i j want
 cases hd:(ops[j]?).bind (·.dst) with
 | none=>rw[hd] at hg;cases hg
 | some d=>
  rw[hd] at hg
  simp only[hd] at h hg ⊢
  cases hx:get σ (.t d) with
  | none=>rw[hx] at hg;cases hg
  | some x=>
   have:=h (.t d) (by simp) x hx
   rw[hx] at hg
   rw[this];exact hg
theorem Ls {o:Oper}{nm:Nat}(hd:∀ d,o.dst=some d→d<cx.nt)(hg:gd ops σ o.guard=some false):K9 P cx ops Q o nm ⟨Sx σ (gr ops o.guard),[],dW o.dst (.v undef)⟩:=by
 intro Fr m Im w a σ' hn h hv K hK
 have hg':=TC (V9 hv) hg
 rw[Qm h hg',if_neg (by simp)]
 refine hK m Im w _ ?_
 show St _ _ _ _ _ _ (YC (Wy [] σ') _)
 rw[XY]
 exact(h.less fun k hk=>hk.1).putO hd (.v undef)
theorem Lr (hT:Zd P T){o:Oper}{nm:Nat}(hd:∀ d,o.dst=some d→d<cx.nt)(hg:gd ops σ o.guard=some true){V V':D}(hV:U7 T σ o=some V)(hle:Zm V V'):K9 P cx ops Q o nm ⟨Sx σ (gr ops o.guard++Rl o++JL T σ o),[],dW o.dst V'⟩:=by
 intro Fr m Im w a σ' hn h hv K hK
 have hag:=V9 hv
 have hg':=TC (fun k hk=>hag k (by simp[hk])) hg
 have hV'':=NK (fun k hk=>hag k (by rw[List.append_assoc];exact List.mem_append_right _ hk)) hV
 rw[Qm h hg',if_pos rfl]
 obtain⟨v,r1,r2⟩:=Lz (P:=P) hT h hV''
 unfold Oper.wp
 rw[r1]
 refine hK m Im w _ ?_
 show St _ _ _ _ _ _ (YC (Wy [] σ') _)
 rw[XY]
 exact(h.less fun k hk=>hk.1).putO hd (hle _ _ _ _ r2)
theorem KC (hT:Zd P T){o:Oper}{nm:Nat}(hd:∀ d,o.dst=some d→d<cx.nt)(hg:gd ops σ o.guard=some true){V V':D}{W:List (Key×D)}{R:List Key}(hV:OD T σ nm o=some (V,W,R))(hle:Zm V V'):K9 P cx ops Q o nm ⟨Sx σ (gr ops o.guard++Rl o++R),[],W++dW o.dst V'⟩:=by
 intro Fr m Im w a σ' hn h hv K hK
 have hag:=V9 hv
 have hg':=TC (fun k hk=>hag k (by simp[hk])) hg
 have hV'':=Lo hV (fun k hk=>hag k (by rw[List.append_assoc];exact List.mem_append_right _ hk))
 rw[Qm h hg',if_pos rfl]
 obtain⟨nx,v,w',m',Im',r1,r2,r3,r4,r5,r6,r7⟩:=KA (P:=P) hT h hn hV''
 unfold Oper.wp
 rw[r1]
 have key:K (a.put o.dst v) w':=by
  refine hK m' Im' w' _ ?_
  show St _ _ _ _ _ _ (YC (Wy [] σ') _)
  rw[XY,Wq]
  exact r7.putO hd (hle _ _ _ _ r6)
 rcases r2 with rfl | ⟨rfl,rfl⟩
 ·exact key
 exact key
theorem Lq {o:Oper}{nm:Nat}(hd:∀ d,o.dst=some d→d<cx.nt)(hg:gd ops σ o.guard=some true){f:FuncId}{ars:List D}(hc:VB σ o=some (f,ars)){R W:List (Key×D)}{V V':D}(hC:PR P f ars R nm W V)(hle:Zm V V')(hR:∀ p∈R,get σ p.1=some p.2∧Nd p.1=true):
  K9 P cx ops Q o nm ⟨Sx σ (gr ops o.guard++Rl o++R.map (·.1)),R,W++dW o.dst V'⟩:=by
 intro Fr m Im w a σ' hn h hv K hK
 have hag:=V9 hv
 have hg':=TC (fun k hk=>hag k (by simp[hk])) hg
 have hc':=O6 (fun k hk=>hag k (by simp[hk])) hc
 have hR':∀ p∈R,get σ' p.1=some p.2:=fun p hp=>hag p.1 (List.mem_append_right _ (List.mem_map.2 ⟨p,hp,rfl⟩)) _ (hR p hp).1
 have hH:Holds cx m Im w R:=h.holds hR' fun p hp=>by
  have:=(hR p hp).2
  obtain⟨k,d⟩:=p
  cases k <;> first | trivial | cases this
 rw[Qm h hg',if_pos rfl]
 obtain⟨vs,r1,r2⟩:=Mc (P:=P) h hc' (hC.elim (fun h=>h.1) fun h=>h.1)
 unfold Oper.wp
 rw[r1,Oper.upon_enter]
 rcases hC.symm with hC | hC
 ·refine(hC.2 cx _ m Im w a σ' vs hn h r2 hR').mono ?_
  rintro e w' ⟨v,m',Im',rfl,q1,q2⟩
  refine hK m' Im' w' _ ?_
  show St _ _ _ _ _ _ (YC (Wy R σ') _)
  rw[Wq]
  exact q1.putO hd (hle _ _ _ _ q2)
 refine(hC.2 cx _ m Im w vs h.mem r2 hH).mono ?_
 rintro e w' ⟨v,Im',rfl,q1,q2,q3,q4,q5,q6,q7⟩
 obtain⟨s1,s2⟩:=h.called hH q1 q2 q3 q4 q5 q7
 refine hK m Im' w' _ ?_
 show St _ _ _ _ _ _ (YC (Wy R σ') _)
 rw[Wq]
 exact(s1.less fun k hk=>hk.1).putO hd (hle _ _ _ _ q6)
def RE (e:TW)(s:RStep):Prop:=(∀ p∈s.Rv,p.1∈e.1)∧e.2.1=s.R∧e.2.2=s.W.map (·.1)
theorem Qg (d:Option Tmp)(V:D):(dW d V).map (·.1)=dk d:=by cases d <;> rfl
def Fx (P:Program)(cx:Cx)(ops:Array Oper)(Q:Exit→Act→World→Prop)(nm:Nat)(os:List Oper)(i:Nat)(σ:List (Key×D))(lg:List TW)(K:List (Key×D)→List TW→Prop):Prop:=
 ∃ (ss:List RStep) (es:List TW),ss.length=os.length∧es.length=os.length∧(∀ j (h:j<os.length) (h':j<ss.length),K9 P cx ops Q os[j] (nm+(i+j)) ss[j])∧(∀ j (h:j<ss.length) (h':j<es.length),RE es[j] ss[j]) ∧
   (∀ j (h:j<ss.length),∀ p∈ss[j].Rv,get ((ss.take j).foldl (fun σ s=>s.ap σ) σ) p.1=some p.2)∧K (ss.foldl (fun σ s=>s.ap σ) σ) (es.reverse++lg)
theorem RL (hT:Zd P T){nm:Nat}{K:List (Key×D)→List TW→Prop}:∀ (os:List Oper) (i:Nat) (σ:List (Key×D)) (lg:List TW),(∀ o∈os,∀ d,o.dst=some d→d<cx.nt)→OS P T ops nm os i σ lg K→Fx P cx ops Q nm os i σ lg K
 | [],i,σ,lg,_,h=>⟨[],[],rfl,rfl,fun j h=>absurd h (by simp),fun j h=>absurd h (by simp),fun j h=>absurd h (by simp),h⟩
 | o :: os,i,σ,lg,hdst,h=>by
  have one:∀ (s:RStep) (e:TW),K9 P cx ops Q o (nm+i) s→RE e s→(∀ p∈s.Rv,get σ p.1=some p.2)→OS P T ops nm os (i+1) (s.ap σ) (e :: lg) K→Fx P cx ops Q nm (o :: os) i σ lg K:=fun s e h1 h2 h3 h4=>by
   obtain⟨ss,es,l1,l2,g1,g2,g3,g4⟩:=RL hT os (i+1) (s.ap σ) (e :: lg) (fun o ho=>hdst o (by simp[ho])) h4
   refine⟨s :: ss,e :: es,by simp[l1],by simp[l2],fun j h h'=>?_,fun j h h'=>?_,fun j h=>?_,by simpa using g4⟩
   ·cases j with
    | zero=>exact h1
    | succ j=>
     have:=g1 j (by simpa using h) (by simpa using h')
     rw[show i+1+j=i+(j+1) by omega] at this
     exact this
   ·cases j with
    | zero=>exact h2
    | succ j=>exact g2 j (by simpa using h) (by simpa using h')
   ·cases j with
    | zero=>exact h3
    | succ j=>exact g3 j (by simpa using h)
  have hdo:=hdst o (by simp)
  rw[OS] at h
  cases hg:gd ops σ o.guard with
  | none=>rw[hg] at h;exact h.elim
  | some b=>
   rw[hg] at h
   cases b with
   | false=>
    refine one ⟨Sx σ (gr ops o.guard),[],dW o.dst (.v undef)⟩ (gr ops o.guard,[],dk o.dst) (Ls hdo hg) ⟨UI,rfl,(Qg _ _).symm⟩ UH ?_
    show OS _ _ _ _ _ _ (YC (Wy [] σ) _) _ _
    rw[XY];exact h
   | true=>
    simp only at h
    cases hp:U7 T σ o with
    | some V=>
     rw[hp] at h
     obtain⟨V',hle,h⟩:=h
     refine one ⟨Sx σ (gr ops o.guard++Rl o++JL T σ o),[],dW o.dst V'⟩ (gr ops o.guard++Rl o++JL T σ o,[],dk o.dst) (Lr hT hdo hg hp hle) ⟨UI,rfl,(Qg _ _).symm⟩ UH ?_
     show OS _ _ _ _ _ _ (YC (Wy [] σ) _) _ _
     rw[XY];exact h
    | none=>
     rw[hp] at h
     simp only at h
     cases hm:OD T σ (nm+i) o with
     | some r=>
      obtain⟨V,W,R⟩:=r
      rw[hm] at h
      obtain⟨V',hle,h⟩:=h
      refine one ⟨Sx σ (gr ops o.guard++Rl o++R),[],W++dW o.dst V'⟩ (gr ops o.guard++Rl o++R,[],W.map (·.1)++dk o.dst) (KC hT hdo hg hm hle) ⟨UI,rfl,by simp[Qg]⟩ UH ?_
      show OS _ _ _ _ _ _ (YC (Wy [] σ) _) _ _
      rw[XY];exact h
     | none=>
      rw[hm] at h
      simp only at h
      cases hc:VB σ o with
      | none=>rw[hc] at h;exact h.elim
      | some r=>
       obtain⟨f,ars⟩:=r
       rw[hc] at h
       obtain⟨R,W,V,hC,hR,V',hle,h⟩:=h
       exact one ⟨Sx σ (gr ops o.guard++Rl o++R.map (·.1)),R,W++dW o.dst V'⟩ (gr ops o.guard++Rl o++R.map (·.1),R,W.map (·.1)++dk o.dst) (Lq hdo hg hc hC hle hR) ⟨UI,rfl,by simp[Qg]⟩ UH h
end
def T3 (es:List Edge)(acc:List Nat):Nat:=match es with
 | []=>0
 | e :: r=>if Region.binds .any e then T3 r acc ||| (2 ^ e.on ||| acc.getD e.on 0) else T3 r acc
def OB:List Oper→List Nat→List Nat
 | [],acc=>acc
 | o :: r,acc=>OB r (acc++[T3 o.after.toList acc])
def Nr:List Oper→Nat→Bool
 | [],_=>true
 | o :: r,i=>o.after.toList.all (fun e=>!Region.binds .any e||decide (e.on<i))&&Nr r (i+1)
def JF (e:TW)(k:Key):Bool:=Yf e.2.1 k||e.2.2.any fun k'=>Key.eq k' k
def GD (s t:TW):Bool:=t.1.all (fun k=>!JF s k)&&s.1.all (fun k=>!JF t k)&&s.2.2.all (fun k=>!JF t k)&&t.2.2.all (fun k=>!Yf s.2.1 k)&&s.2.1.all (fun p=>!Yf t.2.1 p.1)
def Lx (ms:List Nat)(es:List TW):Bool:=(List.range es.length).all fun j=>(List.range j).all fun i=>(ms.getD j 0).testBit i||(match es[i]?,es[j]? with | some s,some t=>GD s t | _,_=>false)
def Me (ops:Array Oper)(lg:List TW):Bool:=Nr ops.toList 0&&Lx (OB ops.toList []) lg.reverse
section
variable {P:Program} {T:List (Nat×TI)} {cx:Cx} {m m':Mp} {Im Im':Nat→Nat→Prop} {w w':World} {a:Act} {σ σ':List (Key×D)} {ops:Array Oper} {Q:Exit→Act→World→Prop}
theorem UV {acc:List Nat}{i:Nat}:∀ {es:List Edge},(T3 es acc).testBit i=true→∃ e∈es,Region.binds .any e=true∧(e.on=i∨(acc.getD e.on 0).testBit i=true)
 | [],h=>by simp[T3] at h
 | e :: es,h=>by
  rw[T3] at h
  split at h
  ·rename_i hb
   rw[Nat.testBit_or,Bool.or_eq_true,Nat.testBit_or,Bool.or_eq_true] at h
   rcases h with h | h | h
   ·obtain⟨e',h1,h2⟩:=UV h
    exact⟨e',by simp[h1],h2⟩
   ·rw[Nat.testBit_two_pow] at h
    exact⟨e,by simp,hb,.inl (by simpa using h)⟩
   exact⟨e,by simp,hb,.inr h⟩
  obtain⟨e',h1,h2⟩:=UV h
  exact⟨e',by simp[h1],h2⟩
theorem R5:∀ (r:List Oper) (acc:List Nat),(∀ j,acc.length≤j→ops[j]?=r[j-acc.length]?)→(∀ j i,(acc.getD j 0).testBit i=true→KY ops j i)→∀ j i,((OB r acc).getD j 0).testBit i=true→KY ops j i
 | [],acc,_,h=>h
 | o :: r,acc,hr,h=>by
  rw[OB]
  refine R5 r _ (fun j hj=>?_) fun j i hb=>?_
  ·simp only[List.length_append,List.length_cons,List.length_nil] at hj ⊢
   rw[hr j (by omega)]
   rw[show j-acc.length=(j-(acc.length+(0+1)))+1 by omega,List.getElem?_cons_succ]
  rw[List.getD_eq_getElem?_getD] at hb
  by_cases hj:j<acc.length
  ·rw[List.getElem?_append_left hj,←List.getD_eq_getElem?_getD] at hb;exact h j i hb
  rw[List.getElem?_append_right (by omega)] at hb
  by_cases hj0:j=acc.length
  ·subst hj0
   simp only[Nat.sub_self,List.getElem?_cons_zero,Option.getD_some] at hb
   obtain⟨e,h1,h2,h3⟩:=UV hb
   have hop:ops[acc.length]?=some o:=by rw[hr _ (Nat.le_refl _)];simp
   have he:KZ ops acc.length e.on:=⟨o,e,hop,by simpa using h1,h2,rfl⟩
   rcases h3 with h3 | h3
   ·exact .one (h3 ▸ he)
   exact .more he (h _ _ h3)
  rw[List.getElem?_eq_none (by simp;omega)] at hb;simp at hb
theorem RV:∀ (r:List Oper) (n:Nat),(∀ j,n≤j→ops[j]?=r[j-n]?)→Nr r n=true→∀ j i,n≤j→KZ ops j i→i<j
 | [],n,hr,_,j,i,hj,he=>by obtain⟨o,e,h1,_⟩:=he;rw[hr j hj] at h1;cases h1
 | o :: r,n,hr,h,j,i,hj,he=>by
  simp only[Nr,Bool.and_eq_true] at h
  by_cases hjn:j=n
  ·subst hjn
   obtain⟨o',e,h1,h2,h3,rfl⟩:=he
   rw[hr j (Nat.le_refl _)] at h1
   simp only[Nat.sub_self,List.getElem?_cons_zero,Option.some.injEq] at h1
   subst h1
   have:=List.all_eq_true.1 h.1 e (by simpa using h2)
   simpa[h3] using this
  refine RV r (n+1) (fun j hj=>?_) h.2 j i (by omega) he
  rw[hr j (by omega),show j-n=(j-(n+1))+1 by omega,List.getElem?_cons_succ]
theorem RE.wk {e:TW}{s:RStep}(h:RE e s)(k:Key):s.wk k=JF e k:=by
 obtain⟨_,h2,h3⟩:=h
 unfold RStep.wk JF
 rw[h2,h3,List.any_map]
 rfl
theorem RB {R:List (Key×D)}{k:Key}(h:Yf R k=true):∃ p∈R,∀ R':List (Key×D),Yf R' k=Yf R' p.1:=by
 cases k with
 | c n o=>
  simp only[Yf,List.any_eq_true] at h
  obtain⟨p,hp,h⟩:=h
  refine⟨p,hp,fun R'=>?_⟩
  obtain⟨k,d⟩:=p
  cases k with
  | c k' o'=>simp only[beq_iff_eq] at h;subst h;rfl
  | _=>cases h
 | j=>
  simp only[Yf,List.any_eq_true] at h
  obtain⟨p,hp,h⟩:=h
  refine⟨p,hp,fun R'=>?_⟩
  obtain⟨k,d⟩:=p
  cases k with
  | j=>rfl
  | _=>cases h
 | o n=>
  simp only[Yf,List.any_eq_true] at h
  obtain⟨p,hp,h⟩:=h
  refine⟨p,hp,fun R'=>?_⟩
  obtain⟨k,d⟩:=p
  cases k with
  | o k'=>simp only[beq_iff_eq] at h;subst h;rfl
  | _=>cases h
 | t x=>cases h
 | r g=>cases h
theorem Gb {s t:RStep}{e f:TW}(hs:RE e s)(ht:RE f t)(h:GD e f=true):Cf s t:=by
 unfold GD at h
 simp only[Bool.and_eq_true,List.all_eq_true,Bool.not_eq_true'] at h
 obtain⟨⟨⟨⟨h1,h2⟩,h3⟩,h4⟩,h5⟩:=h
 refine⟨fun p hp=>?_,fun p hp=>?_,fun k hk=>?_⟩
 ·rw[hs.wk];exact h1 _ (ht.1 p hp)
 ·rw[ht.wk];exact h2 _ (hs.1 p hp)
 rw[hs.wk] at hk
 rw[ht.wk]
 unfold JF at hk
 rw[Bool.or_eq_true] at hk
 rcases hk with hk | hk
 ·obtain⟨p,hp,he⟩:=RB hk
  unfold JF
  rw[Bool.or_eq_false_iff]
  refine⟨by rw[he];exact h5 p hp,?_⟩
  rw[List.any_eq_false]
  intro k' hk' e
  have:=Key.eq_iff.1 e
  subst this
  rw[h4 _ hk'] at hk;cases hk
 rw[List.any_eq_true] at hk
 obtain⟨k',hk',e⟩:=hk
 have:=Key.eq_iff.1 e
 subst this
 exact h3 _ hk'
instance:Inhabited RStep:=⟨⟨[],[],[]⟩⟩
theorem T9 (ss:List RStep)(σ0:List (Key×D)):∀ j,j≤ss.length→Wt (fun i=>ss.getD i default) σ0 UN j=(ss.take j).foldl (fun σ s=>s.ap σ) σ0
 | 0,_=>rfl
 | j+1,h=>by
  rw[Wt,if_pos (show UN j=true from rfl),T9 ss σ0 j (by omega),List.take_succ_eq_append_getElem (by omega),List.foldl_append,List.getD_eq_getElem?_getD,List.getElem?_eq_getElem (by omega)]
  rfl
theorem PP (hT:Zd P T)(hm:P.follows .mixedOrders=true){id:Nat}{draw:Bool}{N:Nat}(hd:ops.all (fun o=>match o.dst with | none=>true | some d=>decide (d<cx.nt))=true) 
  {K:List (Key×D)→Prop} (hK:∀ m Im w a σ',K σ'→St cx (fun k=>N+ops.size≤k) m Im w a σ'→Q .normal a w)
  (h:OS P T ops N ops.toList 0 σ [] (fun σ' lg=>(draw=true→Me ops lg=true)∧K σ')) (hst:St cx (fun k=>N≤k) m Im w a σ):(Code.region id ops draw).wp P Q a w:=by
 have hdst:∀ o∈ops.toList,∀ d,o.dst=some d→d<cx.nt:=fun o ho d e=>by
  have:=(Array.all_eq_true'.1 hd) o (by simpa using ho)
  rw[e] at this;simpa using this
 obtain⟨ss,es,l1,l2,g1,g2,g3,g4,g5⟩:=RL (cx:=cx) (Q:=Q) hT ops.toList 0 σ [] hdst h
 have hl1:ss.length=ops.size:=by simpa using l1
 have hl2:es.length=ops.size:=by simpa using l2
 have hop:∀ i (h:i<ops.size),K9 P cx ops Q ops[i] (N+i) (ss.getD i default):=fun i hi=>by
  have:=g1 i (by simpa using hi) (by omega)
  rw[Nat.zero_add] at this
  rw[List.getD_eq_getElem?_getD,List.getElem?_eq_getElem (by omega)]
  simpa using this
 have hR:∀ i,i<ops.size→∀ p∈(ss.getD i default).Rv,get (Wt (fun i=>ss.getD i default) σ UN i) p.1=some p.2:=fun i hi p hp=>by
  rw[T9 ss σ i (by omega)]
  rw[List.getD_eq_getElem?_getD,List.getElem?_eq_getElem (by omega)] at hp
  exact g3 i (by omega) p hp
 have hfin:∀ m Im w a,St cx (fun k=>N≤k∧N+ops.size≤k) m Im w a (Wt (fun i=>ss.getD i default) σ UN ops.size)→Q .normal a w:=fun m Im w a h=>by
  rw[T9 ss σ _ (by omega),List.take_of_length_le (by omega)] at h
  exact hK m Im w a _ g5 (h.less fun k hk=>⟨by omega,hk⟩)
 cases draw with
 | false=>
  refine wp_region ?_
  rw[List.range_eq_range']
  refine Sf hop hR (fun k hk=>hk) hfin ops.size 0 (m:=m) (Im:=Im) (by omega) ?_
  exact hst.less fun k hk=>hk.1
 | true=>
  have hchk:=g4 rfl
  simp only[Me,List.append_nil,List.reverse_reverse,Bool.and_eq_true] at hchk
  obtain⟨hidx,hpairs⟩:=hchk
  refine wp_region_any hm ?_
  have hst':St cx (fun k=>N≤k) m Im w.drew a σ:=hst.below0 (Below.refl _ _).drew
  refine PB hop hR (fun i j hij hj=>?_) (fun j i he=>RV ops.toList 0 (fun j _=>by simp) hidx j i (Nat.zero_le _) he) (fun k hk=>hk) hfin hst'
  simp only[Lx,List.all_eq_true,List.mem_range] at hpairs
  have:=hpairs j (by omega) i hij
  rw[Bool.or_eq_true] at this
  rcases this with h1 | h1
  ·exact .inl (R5 ops.toList [] (fun j _=>by simp) (fun j i hb=>by simp at hb) j i h1)
  right
  have hi:i<es.length:=by omega
  have hj':j<es.length:=by omega
  rw[List.getElem?_eq_getElem hi,List.getElem?_eq_getElem hj'] at h1
  rw[List.getD_eq_getElem?_getD,List.getElem?_eq_getElem (by omega),List.getD_eq_getElem?_getD,List.getElem?_eq_getElem (by omega)]
  exact Gb (g2 i (by omega) hi) (g2 j (by omega) hj') h1
end
def DW (P:Program)(cx:Cx)(c:Code)(σ:List (Key×D))(N:Nat)(Q:Exit→List (Key×D)→Nat→Prop):Prop:=
 ∀ m Im w a,St cx (fun k=>N≤k) m Im w a σ→c.wp P (fun e a' w'=>∃ σ' N' m' Im',Q e σ' N'∧St cx (fun k=>N'≤k) m' Im' w' a' σ') a w
def VS (cx:Cx)(σ:List (Key×D))(N:Nat)(τ:List (Key×D))(N':Nat):Prop:=
 ∀ m Im w a,St cx (fun k=>N≤k) m Im w a σ→∃ m',St cx (fun k=>N'≤k) m' Im w a τ
def Xi (N:Nat):Nat→Bool:=fun k=>decide (k<N)
def X7 (N:Nat):Key→Bool
 | .c k _=>Xi N k
 | .r g=>Xi N g
 | .o k=>Xi N k
 | _=>true
section
variable {P:Program} {T:List (Nat×TI)} {cx:Cx} {Fr Fr':Nat→Prop} {m m':Mp} {Im Im':Nat→Nat→Prop} {w w':World} {a:Act} {σ σ' τ:List (Key×D)} {N N':Nat} {Q:Exit→List (Key×D)→Nat→Prop}
theorem VS.trans {σ1 σ2 σ3:List (Key×D)}{N1 N2 N3:Nat}(h:VS cx σ1 N1 σ2 N2)(h':VS cx σ2 N2 σ3 N3):VS cx σ1 N1 σ3 N3:=fun m Im w a hs=>by
 obtain⟨m1,h1⟩:=h m Im w a hs
 exact h' m1 Im w a h1
theorem Mp.cut_blk {f g:Nat→Bool}{k b:Nat}(h:(m.cut f g).blk k=some b):f k=true∧m.blk k=some b:=by
 by_cases hk:f k=true
 ·exact⟨hk,by simpa[Mp.cut,hk] using h⟩
 simp[Mp.cut,hk] at h
theorem Mp.cut_row {f g:Nat→Bool}{r:Nat}{R:Vi}(h:(m.cut f g).row r=some R):g r=true∧m.row r=some R:=by
 by_cases hk:g r=true
 ·exact⟨hk,by simpa[Mp.cut,hk] using h⟩
 simp[Mp.cut,hk] at h
theorem Mp.cut_obj {f g:Nat→Bool}{k b:Nat}(h:(m.cut f g).obj k=some b):f k=true∧m.obj k=some b:=by
 by_cases hk:f k=true
 ·exact⟨hk,by simpa[Mp.cut,hk] using h⟩
 simp[Mp.cut,hk] at h
theorem WN.cut {b:Nat}{d:D}{f g:Nat→Bool}(h:WN m Im w b d)(hd:d.ok f g=true):WN (m.cut f g) Im w b d:=by
 cases h with
 | mp es clock l h1 h2 h3 h4 h5=>exact .mp es clock l h1 h2 h3 (fun i hi v hv=>(h4 i hi v hv).cut (D.okm_get (by simpa only[D.ok] using hd) i hi)) h5
 | mq es clock l h1 h2 h3 h4 h5=>exact .mq es clock l h1 h2 h3 (fun i hi v hv=>(h4 i hi v hv).cut (D.okm_get (by simpa only[D.ok] using hd) i hi)) h5
 | it k bm es clock rem last seen h1 h2 h3 h4 h5 h6=>exact .it k bm es clock rem last seen (by simp only[D.ok] at hd;simp only[Mp.cut,hd,if_true];exact h1) h2 h3 h4 h5 h6
 | ob J h hs=>exact .ob J h hs
theorem We.cutN (h:We cx Fr m Im w)(hN:cx.n0≤N):We cx (fun k=>N≤k) (m.cut (Xi N) (Xi N)) Im w where
 off:=h.off
 im:=h.im
 imb:=h.imb
 im0:=h.im0
 own k b hk:=h.own k b (Mp.cut_blk hk).2
 lt k b hk:=h.lt k b (Mp.cut_blk hk).2
 free k b o hk:=h.free k b o (Mp.cut_blk hk).2
 nim k b o hk:=h.nim k b o (Mp.cut_blk hk).2
 inj k k' b hk hk':=h.inj k k' b (Mp.cut_blk hk).2 (Mp.cut_blk hk').2
 row g R hg:=h.row g R (Mp.cut_row hg).2
 k0:=h.k0
 rown g R b hg:=h.rown g R b (Mp.cut_row hg).2
 m0r g R hg:=by
  obtain⟨R',q1,q2⟩:=h.m0r g R hg
  have:=cx.h0r g R hg
  have hlt:g<N:=by omega
  exact⟨R',by simp[Mp.cut,Xi,hlt,q1],q2⟩
 rIm g R b o hg:=h.rIm g R b o (Mp.cut_row hg).2
 rblk g R b k hg hb hk:=h.rblk g R b k (Mp.cut_row hg).2 hb (Mp.cut_blk hk).2
 rinj g g' R R' b hg hg':=h.rinj g g' R R' b (Mp.cut_row hg).2 (Mp.cut_row hg').2
 fr k hk:=by
  have:¬ k<N:=by omega
  simp[Mp.cut,Xi,this]
 m0o k b hk:=by
  have:=cx.h0o k b hk
  have h2:=h.m0o k b hk
  have:k<N:=by omega
  simp[Mp.cut,Xi,this,h2]
 oown k b hk:=h.oown k b (Mp.cut_obj hk).2
 olt k b hk:=h.olt k b (Mp.cut_obj hk).2
 onim k b o hk:=h.onim k b o (Mp.cut_obj hk).2
 oinj k k' b hk hk':=h.oinj k k' b (Mp.cut_obj hk).2 (Mp.cut_obj hk').2
 oblk k k' b hk hk':=h.oblk k k' b (Mp.cut_obj hk).2 (Mp.cut_blk hk').2
 orow k g R b hk hg:=h.orow k g R b (Mp.cut_obj hk).2 (Mp.cut_row hg).2
 dis k b hk:=by
  have:=h.dis k b (Mp.cut_blk hk).2
  show (if _ then m.obj k else none)=none
  rw[this];simp
 m0 k b hk:=by
  have:=cx.h0 k b hk
  have h2:=h.m0 k b hk
  have:k<N:=by omega
  simp[Mp.cut,Xi,this,h2]
theorem Xm:∀ {σ:List (Key×D)} {k:Key} {d:D},get σ k=some d→(k,d)∈σ
 | [],_,_,h=>by cases h
 | (k',d') :: σ,k,d,h=>by
  simp only[get] at h
  split at h
  ·rename_i he;rw[Key.eq_iff] at he;subst he;cases h;simp
  exact List.mem_cons_of_mem _ (Xm h)
theorem VS.to (hN:cx.n0≤N')(h1:τ.all (fun p=>p.2.ok (Xi N') (Xi N')&&X7 N' p.1)=true)(h2:∀ p∈τ,get σ p.1=some p.2∨∃ d,get σ p.1=some d∧Zm d p.2∧(match p.1 with | .r _=>False | .j=>False | .o _=>False | _=>True)):VS cx σ N τ N':=by
 intro m Im w a h
 refine⟨m.cut (Xi N') (Xi N'),h.mem.cutN hN,h.df,h.nt,fun x d hx=>?_,fun k off d hx=>?_,fun g d hx=>?_,fun d hx=>?_,fun k d hx=>?_⟩
 all_goals
  have hm:=Xm hx
  have ho:=List.all_eq_true.1 h1 _ hm
  simp only[Bool.and_eq_true] at ho
  have hg:=h2 _ hm
  simp only at hg
 ·refine Yz.cut ?_ ho.1
  rcases hg with hg | ⟨d',hg,e,_⟩
  ·exact h.tm x d hg
  exact e _ _ _ _ (h.tm x d' hg)
 ·have hk:Xi N' k=true:=ho.2
  rcases hg with hg | ⟨d',hg,e,_⟩
  ·obtain⟨b,v,q1,q2,q3⟩:=h.ce k off d hg
   exact⟨b,v,by simp only[Mp.cut,hk,if_true];exact q1,q2,q3.cut ho.1⟩
  obtain⟨b,v,q1,q2,q3⟩:=h.ce k off d' hg
  refine⟨b,v,by simp only[Mp.cut,hk,if_true];exact q1,q2,Yz.cut ?_ ho.1⟩
  exact e _ _ _ _ q3
 ·have hk:Xi N' g=true:=ho.2
  rcases hg with hg | ⟨d',hg,e,hf⟩
  ·obtain⟨R,q1,q2⟩:=h.ro g d hg
   exact⟨R,by simp only[Mp.cut,hk,if_true];exact q1,q2.cut ho.1⟩
  exact hf.elim
 ·rcases hg with hg | ⟨d',hg,e,hf⟩
  ·obtain⟨X,J,q1,q2⟩:=h.jk d hg
   exact⟨X,J,q1,{ q2 with blk:=fun b k hb hk=>q2.blk b k hb (Mp.cut_blk hk).2,row:=fun b g R hb hk=>q2.row b g R hb (Mp.cut_row hk).2,obj:=fun b k hb hk=>q2.obj b k hb (Mp.cut_obj hk).2 }⟩
  exact hf.elim
 have hk:Xi N' k=true:=ho.2
 rcases hg with hg | ⟨d',hg,e,hf⟩
 ·obtain⟨b,q1,q2⟩:=h.ok k d hg
  exact⟨b,by simp only[Mp.cut,hk,if_true];exact q1,q2.cut ho.1⟩
 exact hf.elim
theorem VS.row {k off:Nat}(E n:Nat)(h:get σ (.c k off)=some (.v (.slice none 0 0))):VS cx σ N (XW (.r N) (.rw E n 0) (XW (.c k off) (.sl n [] (some N)) σ)) (N+1):=by
 intro m Im w a hs
 have h1:=hs.newRow (g:=N) (Nat.le_refl _) E n
 obtain⟨b,v,q1,q2,q3⟩:=hs.ce k off _ h
 have hv:=Yr.1 q3;subst hv
 have hg:(m.setR N ⟨.slice none 0 0,0,E,n⟩).row N=some ⟨.slice none 0 0,0,E,n⟩:=by simp[Mp.setR]
 have h2:=h1.putc (k:=k) (off:=off) (b:=b) q1 q2 (Tz hg)
 refine⟨_,(h2.sub fun k' d hd=>?_).less fun k hk=>⟨by omega,by omega⟩⟩
 simp only[Zo] at hd ⊢
 by_cases e1:Key.eq (.c k off) k'=true
 ·rw[if_pos e1]
  rw[if_neg (by rw[Key.eq_iff] at e1;subst e1;simp[Key.eq]),if_pos e1] at hd;exact hd
 rw[if_neg e1];rw[if_neg e1] at hd;exact hd
theorem VS.rowT {x:Nat}(hx:x<cx.nt)(E n:Nat)(h:get σ (.t x)=some (.v (.slice none 0 0))):VS cx σ N (XW (.r N) (.rw E n 0) (XW (.t x) (.sl n [] (some N)) σ)) (N+1):=by
 intro m Im w a hs
 have h1:=hs.newRow (g:=N) (Nat.le_refl _) E n
 have hv:=Yr.1 (hs.tm x _ h)
 have hg:(m.setR N ⟨.slice none 0 0,0,E,n⟩).row N=some ⟨.slice none 0 0,0,E,n⟩:=by simp[Mp.setR]
 have hr:Yz (m.setR N ⟨.slice none 0 0,0,E,n⟩) Im w (a.tmps.getD x undef) (.sl n [] (some N)):=by rw[hv];exact Tz hg
 refine⟨_,{ h1 with tm:=?_,ce:=?_,ro:=?_,jk:=?_,ok:=?_,mem:={ h1.mem with fr:=fun k hk=>h1.mem.fr k ⟨by omega,by omega⟩ } }⟩
 all_goals intros
 ·rename_i y d hy
  rw[Zo,if_neg (by simp[Key.eq]),Zo] at hy
  by_cases e:Key.eq (.t x) (.t y)=true
  ·rw[if_pos e] at hy
   have:=Key.eq_iff.1 e;cases this
   cases hy;exact hr
  rw[if_neg e] at hy
  exact h1.tm y d (by rw[Zo,if_neg (by simp[Key.eq])];exact hy)
 ·rename_i k off d hy
  rw[Zo,if_neg (by simp[Key.eq]),Zo,if_neg (by simp[Key.eq])] at hy
  exact h1.ce k off d (by rw[Zo,if_neg (by simp[Key.eq])];exact hy)
 ·rename_i g d hy
  refine h1.ro g d ?_
  rw[Zo] at hy ⊢
  split
  ·rename_i e;rw[if_pos e] at hy;exact hy
  rename_i e;rw[if_neg e,Zo,if_neg (by simp[Key.eq])] at hy;exact hy
 ·rename_i d hy
  rw[Zo,if_neg (by simp[Key.eq]),Zo,if_neg (by simp[Key.eq])] at hy
  exact h1.jk d (by rw[Zo,if_neg (by simp[Key.eq])];exact hy)
 rename_i k d hy
 rw[Zo,if_neg (by simp[Key.eq]),Zo,if_neg (by simp[Key.eq])] at hy
 exact h1.ok k d (by rw[Zo,if_neg (by simp[Key.eq])];exact hy)
theorem DW.mono {c:Code}{Q':Exit→List (Key×D)→Nat→Prop}(h:DW P cx c σ N Q)(hq:∀ e σ' N',Q e σ' N'→Q' e σ' N'):DW P cx c σ N Q':=fun m Im w a hs=>
 Code.wp_mono (fun e a w ⟨σ',N',m',Im',h1,h2⟩=>⟨σ',N',m',Im',hq _ _ _ h1,h2⟩) (h m Im w a hs)
theorem DW.vs {c:Code}(hv:VS cx σ N τ N')(h:DW P cx c τ N' Q):DW P cx c σ N Q:=fun m Im w a hs=>by
 obtain⟨m',h'⟩:=hv m Im w a hs
 exact h m' Im w a h'
def JR (K:List (Key×D)→Nat→Prop)(Q:Exit→List (Key×D)→Nat→Prop):Exit→List (Key×D)→Nat→Prop
 | .normal,σ,N=>K σ N
 | e,σ,N=>Q e σ N
theorem Zz {x y:Code}(h:DW P cx x σ N (JR (fun σ' N'=>DW P cx y σ' N' Q) Q)):DW P cx (.seq x y) σ N Q:=fun m Im w a hs=>
 wp_seq (Code.wp_mono (fun e a' w' ⟨σ',N',m',Im',h1,h2⟩=>by
  cases e with
  | normal=>exact h1 m' Im' w' a' h2
  | _=>exact⟨σ',N',m',Im',h1,h2⟩) (h m Im w a hs))
theorem Zy {c:Operand}{x y:Code}{t:Bool}(hc:ev σ c=some (.v (.bool t)))(h:DW P cx (if t then x else y) σ N Q):DW P cx (.cond c x y) σ N Q:=fun m Im w a hs=>
 wp_cond (Yr.1 (hs.ev hc)) (h m Im w a hs)
def Kj (id:Nat)(Q:Exit→List (Key×D)→Nat→Prop):Exit→List (Key×D)→Nat→Prop
 | .exit id',σ,N=>if id'=id then Q .normal σ N else Q (.exit id') σ N
 | e,σ,N=>Q e σ N
theorem Zt {id:Nat}{c:Code}(h:DW P cx c σ N (Kj id Q)):DW P cx (.block id c) σ N Q:=fun m Im w a hs=>
 wp_block (Code.wp_mono (fun e a' w' ⟨σ',N',m',Im',h1,h2⟩=>by
  cases e with
  | exit id'=>
   simp only[Kj] at h1
   show if id'=id then _ else _
   split
   ·rename_i e;rw[if_pos e] at h1;exact⟨σ',N',m',Im',h1,h2⟩
   rename_i e;rw[if_neg e] at h1;exact⟨σ',N',m',Im',h1,h2⟩
  | _=>exact⟨σ',N',m',Im',h1,h2⟩) (h m Im w a hs))
theorem Zw (h:Q .normal σ N):DW P cx .skip σ N Q:=fun m Im _ _ hs=>wp_skip ⟨σ,N,m,Im,h,hs⟩
theorem Zg {id:Nat}(h:Q (.exit id) σ N):DW P cx (.exit id) σ N Q:=fun m Im _ _ hs=>wp_exit ⟨σ,N,m,Im,h,hs⟩
theorem Zv (h:Q .ret σ N):DW P cx .ret σ N Q:=fun m Im _ _ hs=>wp_ret ⟨σ,N,m,Im,h,hs⟩
theorem RN (hT:Zd P T)(hm:P.follows .mixedOrders=true){id:Nat}{ops:Array Oper}{draw:Bool}(hd:ops.all (fun o=>match o.dst with | none=>true | some d=>decide (d<cx.nt))=true) 
  (h:OS P T ops N ops.toList 0 σ [] (fun σ' lg=>(draw=true→Me ops lg=true)∧Q .normal σ' (N+ops.size))):DW P cx (.region id ops draw) σ N Q:=fun m Im w a hs=>
 PP hT hm hd (K:=fun σ'=>Q .normal σ' (N+ops.size)) (fun m' Im' w' a' σ' hq hs'=>⟨σ',N+ops.size,m',Im',hq,hs'⟩) h hs
theorem Z6 {ι:Type}{c:Code}(I:ι→List (Key×D))(N0:Nat)(μ:ι→Nat)(i0:ι)(h0:VS cx σ N (I i0) N0) 
  (h:∀ i,DW P cx c (I i) N0 (JR (fun σ' N'=>∃ i',μ i'<μ i∧VS cx σ' N' (I i') N0) Q)):DW P cx (.loop c) σ N Q:=fun m Im w a hs=>by
 obtain⟨m1,h1⟩:=h0 m Im w a hs
 have key:∀ n i m Im w a,μ i<n→St cx (fun k=>N0≤k) m Im w a (I i)→Code.rounds P c (fun e a' w'=>∃ σ' N' m' Im',Q e σ' N'∧St cx (fun k=>N'≤k) m' Im' w' a' σ') n a w:=by
  intro n
  induction n with
  | zero=>intro i m Im w a hn _;omega
  | succ n ih=>
   intro i m Im w a hn hs
   rw[rounds_succ]
   refine Code.wp_mono (fun e a' w' ⟨σ',N',m',Im',h1,h2⟩=>?_) (h i m Im w a hs)
   cases e with
   | normal=>
    obtain⟨i',hlt,hv⟩:=h1
    obtain⟨m2,h3⟩:=hv m' Im' w' a' h2
    exact ih i' m2 Im' w' a' (by omega) h3
   | _=>exact⟨σ',N',m',Im',h1,h2⟩
 exact wp_loop_rounds (μ i0+1) (key _ i0 m1 Im w a (by omega) h1)
end
end Go.Proofs.YtclihnccilkohaaGreat
