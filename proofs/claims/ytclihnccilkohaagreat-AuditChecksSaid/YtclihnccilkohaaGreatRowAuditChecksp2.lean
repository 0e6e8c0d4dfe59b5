/-
  Parts of the proof.
-/
import Derived.Test.YtclihnccilkohaaGreatRowAuditChecksp1
import Derived.ArgAppend
import Derived.Laws.Tables
import Derived.Great.BuildSlice
import Derived.Laws.OwnMore
import Derived.Deep.Upon
set_option maxRecDepth 100000
set_option maxHeartbeats 1000000
set_option linter.unusedVariables false
set_option linter.unusedSimpArgs false
namespace Go.Proofs.YtclihnccilkohaaGreat
open Go.RowKit
structure Cx where
 w0:World
 C:Nat→Prop
 Im0:Nat→Nat→Prop
 m0:Mp
 nt:Nat
 n0:Nat
 h0:∀ k b,m0.blk k=some b→k<n0
 h0o:∀ k b,m0.obj k=some b→k<n0
 CR:Nat→Prop:=fun _=>False
 hCR:∀ b,CR b→C b:=by exact fun _ h=>h.elim
 h0r:∀ g R,m0.row g=some R→g<n0:=by exact fun g R h=>by cases h
structure We (cx:Cx) (Fr:Nat→Prop) (m:Mp) (Im:Nat→Nat→Prop) (w:World):Prop where
 off:Off cx.C cx.w0 w
 im:∀ b o,Im b o→∃ v,w.cell? ⟨b,o,none⟩=some v
 imb:∀ b o,Im b o→cx.Im0 b o∨cx.w0.heap.size≤b∨cx.CR b
 im0:∀ b o,cx.Im0 b o→Im b o
 own:∀ k b,m.blk k=some b→cx.C b∨cx.w0.heap.size≤b
 lt:∀ k b,m.blk k=some b→b<w.heap.size
 free:∀ k b o,m.blk k=some b→w.frozen? ⟨b,o,none⟩=false
 nim:∀ k b o,m.blk k=some b→¬ Im b o
 inj:∀ k k' b,m.blk k=some b→m.blk k'=some b→k=k'
 row:∀ g R,m.row g=some R→∃ xs,w.ownsRow 0 R.E R.n R.hv R.len xs
 rIm:∀ g R b o,m.row g=some R→R.hv.ownBlock=some b→Im b o→o<R.len * R.n
 rblk:∀ g R b k,m.row g=some R→R.hv.ownBlock=some b→m.blk k≠some b
 rinj:∀ g g' R R' b,m.row g=some R→m.row g'=some R'→R.hv.ownBlock=some b→R'.hv.ownBlock=some b→g=g'
 fr:∀ k,Fr k→m.blk k=none∧m.row k=none∧m.obj k=none
 m0:∀ k b,cx.m0.blk k=some b→m.blk k=some b
 m0o:∀ k b,cx.m0.obj k=some b→m.obj k=some b
 oown:∀ k b,m.obj k=some b→cx.C b∨cx.w0.heap.size≤b
 olt:∀ k b,m.obj k=some b→b<w.heap.size
 onim:∀ k b o,m.obj k=some b→¬ Im b o
 oinj:∀ k k' b,m.obj k=some b→m.obj k'=some b→k=k'
 oblk:∀ k k' b,m.obj k=some b→m.blk k'≠some b
 orow:∀ k g R b,m.obj k=some b→m.row g=some R→R.hv.ownBlock≠some b
 dis:∀ k b,m.blk k=some b→m.obj k=none
 k0:Z8 cx.Im0 cx.w0 w
 rown:∀ g R b,m.row g=some R→R.hv.ownBlock=some b→cx.w0.heap.size≤b∨cx.CR b
 m0r:∀ g R,cx.m0.row g=some R→∃ R',m.row g=some R'∧R.len≤R'.len∧(R'.len=R.len→R'.hv=R.hv)
structure JX (cx:Cx) (m:Mp) (Im:Nat→Nat→Prop) (w:World) (X:Nat→Prop) (J:World→Prop):Prop where
 holds:J w
 stable:∀ w',w.heap.size≤w'.heap.size→(∀ b,X b→w'.heap[b]?=w.heap[b]?)→J w'
 lt:∀ b,X b→b<w.heap.size
 own:∀ b,X b→cx.C b∨cx.w0.heap.size≤b
 nim:∀ b o,X b→¬ Im b o
 blk:∀ b k,X b→m.blk k≠some b
 row:∀ b g R,X b→m.row g=some R→R.hv.ownBlock≠some b
 obj:∀ b k,X b→m.obj k≠some b
def VF (es:Array MapEntry)(clock:Nat):Prop:=(es.toList.map (·.born)).Nodup∧∀ e∈es.toList,e.born<clock
inductive WN (m:Mp) (Im:Nat→Nat→Prop) (w:World) (b:Nat):D→Prop where
 | mp (es:Array MapEntry) (clock:Nat) (l:List (Int×D)) (hb:w.heap[b]?=some (.map es clock)) (hl:es.size=l.length) (hk:∀ i (h:i<l.length),(es[i]?).map (·.key)=some (.int .i64 l[i].1))
   (hv:∀ i (h:i<l.length) v,(es[i]?).map (·.val)=some v→Yz m Im w v l[i].2) (hbn:VF es clock):WN m Im w b (.mp l)
 | mq (es:Array MapEntry) (clock:Nat) (l:List (Int×D)) (hb:w.heap[b]?=some (.map es clock)) (hl:es.size=l.length) (hk:∀ i (h:i<l.length),(es[i]?).map (·.key)=some (.int .i64 l[i].1))
   (hv:∀ i (h:i<l.length) v,(es[i]?).map (·.val)=some v→Yz m Im w v l[i].2) (hbn:VF es clock):WN m Im w b (.mq b es clock l)
 | it (k bm:Nat) (es:Array MapEntry) (clock:Nat) (rem:List Nat) (last:Option Nat) (seen:Array Nat) (hm:m.obj k=some bm) (hb:w.heap[b]?=some (.mapIter (some bm) clock seen clock)) (hn:rem.Nodup) (hr:∀ i e,es[i]?=some e→(i∈rem↔seen.contains e.born=false))
   (hi:∀ i∈rem,i<es.size) (hl:∀ i,last=some i→∃ (e:MapEntry) (s0:Array Nat),es[i]?=some e∧seen=s0.push e.born):WN m Im w b (.it k bm es clock rem last)
 | ob (J:Nat→World→Prop) (h:J b w) (hs:∀ w',w'.heap[b]?=w.heap[b]?→J b w'):WN m Im w b (.ob J)
theorem WN.mono {m m':Mp}{Im Im':Nat→Nat→Prop}{w w':World}{b:Nat}{d:D}(h:WN m Im w b d)(hb:w'.heap[b]?=w.heap[b]?)(hm:m.le m')(hk:Z8 Im w w')(hi:∀ b o,Im b o→Im' b o):WN m' Im' w' b d:=by
 cases h with
 | mp es clock l h1 h2 h3 h4 h5=>exact .mp es clock l (hb.trans h1) h2 h3 (fun i h v hv=>(h4 i h v hv).mono hm hk hi) h5
 | mq es clock l h1 h2 h3 h4 h5=>exact .mq es clock l (hb.trans h1) h2 h3 (fun i h v hv=>(h4 i h v hv).mono hm hk hi) h5
 | it k bm es clock rem last seen h1 h2 h3 h4 h5 h6=>exact .it k bm es clock rem last seen (hm.obj k bm h1) (hb.trans h2) h3 h4 h5 h6
 | ob J h hs=>exact .ob J (hs w' hb) fun w2 h2=>hs w2 (h2.trans hb)
section
variable {w w':World}
theorem Tv {base E n len:Nat}{v:Value}{xs:List Value}(h:w.ownsRow base E n v len xs)(hs:∀ b,v.ownBlock=some b→w'.heap[b]?=w.heap[b]?):w'.ownsRow base E n v len xs:=by
 refine⟨h.1,?_⟩
 rcases h.2 with h0 | ⟨g',cap,cur,e,h1,h2,h3⟩
 ·exact .inl h0
 refine .inr ⟨g',cap,cur,e,h1,?_,h3⟩
 rw[hs g' (by rw[e];rfl)];exact h2
inductive WW (m:Mp) (Im:Nat→Nat→Prop) (w:World) (R:Vi):D→Prop where
 | rw:WW m Im w R (.rw R.E R.n R.len)
 | rp (l:List (List D)) (xs:List Value) (hl:l.length=R.len) (hn:∀ i (h:i<l.length),l[i].length=R.n) (hx:w.ownsRow 0 R.E R.n R.hv R.len xs) (h1:∀ u∈xs,u.oneCell'=true)
   (hr:∀ i (h:i<l.length) j (h':j<l[i].length),Yz m Im w (xs.getD (i * R.n+j) undef) l[i][j]) (hni:∀ b o,R.hv.ownBlock=some b→¬ Im b o):WW m Im w R (.rp R.E R.n l)
theorem WW.mono {m m':Mp}{Im Im':Nat→Nat→Prop}{R:Vi}{d:D}(h:WW m Im w R d)(hw:∀ b,R.hv.ownBlock=some b→w'.heap[b]?=w.heap[b]?)(hm:m.le m')(hk:Z8 Im w w')(hi:∀ b o,Im b o→Im' b o)(hni:∀ b o,R.hv.ownBlock=some b→Im' b o→Im b o):WW m' Im' w' R d:=by
 cases h with
 | rw=>exact .rw
 | rp l xs hl hn hx h1 hr h2=>exact .rp l xs hl hn (Tv hx hw) h1 (fun i h j h'=>(hr i h j h').mono hm hk hi) fun b o ho hh=>h2 b o ho (hni b o ho hh)
theorem WW.rwi {m:Mp}{Im:Nat→Nat→Prop}{R:Vi}{E n len:Nat}(h:WW m Im w R (.rw E n len)):D.rw E n len=.rw R.E R.n R.len:=by
 cases h;rfl
theorem WW.cut {m:Mp}{Im:Nat→Nat→Prop}{R:Vi}{d:D}{f g:Nat→Bool}(h:WW m Im w R d)(hd:d.ok f g=true):WW (m.cut f g) Im w R d:=by
 cases h with
 | rw=>exact .rw
 | rp l xs hl hn hx h1 hr h2=>
  simp only[D.ok] at hd
  exact .rp l xs hl hn hx h1 (fun i h j h'=>(hr i h j h').cut (D.oks_get (D.okss_get hd i h) j h')) h2
end
structure St (cx:Cx) (Fr:Nat→Prop) (m:Mp) (Im:Nat→Nat→Prop) (w:World) (a:Act) (σ:List (Key×D)):Prop where
 mem:We cx Fr m Im w
 df:a.defers=[]
 nt:a.tmps.size=cx.nt
 tm:∀ x d,get σ (.t x)=some d→Yz m Im w (a.tmps.getD x undef) d
 ce:∀ k off d,get σ (.c k off)=some d→∃ b v,m.blk k=some b∧w.cell? ⟨b,off,none⟩=some v∧Yz m Im w v d
 ro:∀ g d,get σ (.r g)=some d→∃ R,m.row g=some R∧WW m Im w R d
 jk:∀ d,get σ .j=some d→∃ X J,d=.j X J∧JX cx m Im w X J
 ok:∀ k d,get σ (.o k)=some d→∃ b,m.obj k=some b∧WN m Im w b d
section
variable {cx:Cx} {Fr Fr':Nat→Prop} {m m':Mp} {Im Im':Nat→Nat→Prop} {w w':World} {a:Act} {σ σ':List (Key×D)}
theorem YR {b o:Nat}{v:Value}(h:w.cell? ⟨b,o,none⟩=some v):b<w.heap.size:=Keep.lt h
theorem Z8.below (hb:Below w.heap.size w w'):Z8 Im w w':=fun b o v _ hv=>(hb.cell (p:=⟨b,o,none⟩) (YR hv)).trans hv
theorem Vz {base e size n:Nat}{v:Value}{xs:List Value}(h:w.ownsRow base e size v n xs){b:Nat}(hb:v.ownBlock=some b):base≤b∧b<w.heap.size:=h.lt b hb
theorem We.rlt (h:We cx Fr m Im w){g:Nat}{R:Vi}{b:Nat}(hg:m.row g=some R)(ho:R.hv.ownBlock=some b):b<w.heap.size:=by
 obtain⟨xs,hx⟩:=h.row g R hg
 exact(Vz hx ho).2
theorem We.m0r_le (h:We cx Fr m Im w)(hle:m.le m'):∀ g R,cx.m0.row g=some R→∃ R',m'.row g=some R'∧R.len≤R'.len∧(R'.len=R.len→R'.hv=R.hv):=fun g R hg=>by
 obtain⟨R1,h1,h2,h3⟩:=h.m0r g R hg
 obtain⟨R2,g1,g2,g3⟩:=hle.row g R1 h1
 refine⟨R2,g1,by omega,fun e=>?_⟩
 have e1:R1.len=R.len:=by omega
 rw[g3 (by omega),h3 e1]
theorem We.below (h:We cx Fr m Im w)(hb:Below w.heap.size w w')(hi:∀ b o,Im b o→Im' b o)(hib:∀ b o,Im' b o→Im b o∨w.heap.size≤b)(hex:∀ b o,Im' b o→∃ v,w'.cell? ⟨b,o,none⟩=some v):We cx Fr m Im' w' where
 off:=h.off.below hb
 im:=hex
 imb b o hh:=by
  rcases hib b o hh with h1 | h1
  ·exact h.imb b o h1
  exact .inr (.inl (Nat.le_trans h.off.size h1))
 im0 b o hh:=hi b o (h.im0 b o hh)
 own:=h.own
 lt k b hk:=Nat.lt_of_lt_of_le (h.lt k b hk) hb.size
 free k b o hk:=(World.frozen?_of_block (a:=⟨b,o,none⟩) (hb.block b (h.lt k b hk))).trans (h.free k b o hk)
 nim k b o hk hh:=by
  rcases hib b o hh with h1 | h1
  ·exact h.nim k b o hk h1
  have:=h.lt k b hk;omega
 inj:=h.inj
 row g R hg:=by
  obtain⟨xs,hx⟩:=h.row g R hg
  exact⟨xs,UZ hx hb⟩
 rIm g R b o hg hob hh:=by
  rcases hib b o hh with h1 | h1
  ·exact h.rIm g R b o hg hob h1
  obtain⟨xs,hx⟩:=h.row g R hg
  have:=(Vz hx hob).2;omega
 rblk:=h.rblk
 rinj:=h.rinj
 fr:=h.fr
 m0:=h.m0
 m0o:=h.m0o
 oown:=h.oown
 olt k b hk:=Nat.lt_of_lt_of_le (h.olt k b hk) hb.size
 onim k b o hk hh:=by
  rcases hib b o hh with h1 | h1
  ·exact h.onim k b o hk h1
  have:=h.olt k b hk;omega
 oinj:=h.oinj
 oblk:=h.oblk
 orow:=h.orow
 dis:=h.dis
 k0:=h.k0.trans (Z8.below hb)
 rown:=h.rown
 m0r:=h.m0r
theorem JX.below {X:Nat→Prop}{J:World→Prop}(h:JX cx m Im w X J)(hb:Below w.heap.size w w')(hib:∀ b o,Im' b o→Im b o∨w.heap.size≤b):JX cx m Im' w' X J where
 holds:=h.stable w' hb.size fun b hx=>hb.block b (h.lt b hx)
 stable w2 hs hx:=h.stable w2 (Nat.le_trans hb.size hs) fun b hb2=>(hx b hb2).trans (hb.block b (h.lt b hb2))
 lt b hx:=Nat.lt_of_lt_of_le (h.lt b hx) hb.size
 own:=h.own
 nim b o hx hh:=by
  rcases hib b o hh with h1 | h1
  ·exact h.nim b o hx h1
  have:=h.lt b hx;omega
 blk:=h.blk
 row:=h.row
 obj:=h.obj
theorem St.below (h:St cx Fr m Im w a σ)(hb:Below w.heap.size w w')(hi:∀ b o,Im b o→Im' b o)(hib:∀ b o,Im' b o→Im b o∨w.heap.size≤b)(hex:∀ b o,Im' b o→∃ v,w'.cell? ⟨b,o,none⟩=some v):St cx Fr m Im' w' a σ where
 mem:=h.mem.below hb hi hib hex
 df:=h.df
 nt:=h.nt
 tm x d hx:=(h.tm x d hx).mono (Mp.le.refl m) (Z8.below hb) hi
 ce k off d hx:=by
  obtain⟨b,v,h1,h2,h3⟩:=h.ce k off d hx
  exact⟨b,v,h1,(hb.cell (p:=⟨b,off,none⟩) (YR h2)).trans h2,h3.mono (Mp.le.refl m) (Z8.below hb) hi⟩
 ro g d hx:=by
  obtain⟨R,h1,h2⟩:=h.ro g d hx
  exact⟨R,h1,h2.mono (fun b ho=>hb.block b (h.mem.rlt h1 ho)) (Mp.le.refl m) (Z8.below hb) hi fun b o ho hh=>(hib b o hh).elim id fun h2=>absurd (h.mem.rlt h1 ho) (Nat.not_lt.2 h2)⟩
 jk d hd:=by
  obtain⟨X,J,e,h1⟩:=h.jk d hd
  exact⟨X,J,e,h1.below hb hib⟩
 ok k d hd:=by
  obtain⟨b,h1,h2⟩:=h.ok k d hd
  exact⟨b,h1,h2.mono (hb.block b (h.mem.olt k b h1)) (Mp.le.refl m) (Z8.below hb) hi⟩
theorem St.below0 (h:St cx Fr m Im w a σ)(hb:Below w.heap.size w w'):St cx Fr m Im w' a σ:=
 h.below hb (fun _ _ h=>h) (fun _ _ h=>.inl h) (fun b o hh=>by
  obtain⟨v,hv⟩:=h.mem.im b o hh
  exact⟨v,(hb.cell (p:=⟨b,o,none⟩) (YR hv)).trans hv⟩)
theorem St.put (h:St cx Fr m Im w a σ){dst:Tmp}{v:Value}{d:D}(hl:dst<cx.nt)(hr:Yz m Im w v d):St cx Fr m Im w (a.put (some dst) v) (XW (.t dst) d σ) where
 mem:=h.mem
 df:=h.df
 nt:=by show (a.tmps.setIfInBounds dst v).size=_;simpa using h.nt
 tm x d' hx:=by
  rw[Zo] at hx
  show Yz m Im w ((a.tmps.setIfInBounds dst v).getD x undef) d'
  by_cases he:Key.eq (.t dst) (.t x)=true
  ·rw[if_pos he] at hx
   cases hx
   have:=Key.eq_iff.1 he
   cases this
   have hl':dst<a.tmps.size:=by rw[h.nt];exact hl
   simpa[hl'] using hr
  rw[if_neg he] at hx
  have hne:dst≠x:=fun e=>he (by subst e;exact Key.eq_refl _)
  have:=h.tm x d' hx
  rw[Array.getD_eq_getD_getElem?] at this ⊢
  rw[Array.getElem?_setIfInBounds_ne hne]
  exact this
 ce k off d' hx:=by rw[Zo,if_neg (by simp[Key.eq])] at hx;exact h.ce k off d' hx
 ro g d' hx:=by rw[Zo,if_neg (by simp[Key.eq])] at hx;exact h.ro g d' hx
 jk d' hx:=by rw[Zo,if_neg (by simp[Key.eq])] at hx;exact h.jk d' hx
 ok k d' hx:=by rw[Zo,if_neg (by simp[Key.eq])] at hx;exact h.ok k d' hx
theorem St.sub (h:St cx Fr m Im w a σ)(hs:∀ k d,get σ' k=some d→get σ k=some d):St cx Fr m Im w a σ' where
 mem:=h.mem
 df:=h.df
 nt:=h.nt
 tm x d hx:=h.tm x d (hs _ _ hx)
 ce k off d hx:=h.ce k off d (hs _ _ hx)
 ro g d hx:=h.ro g d (hs _ _ hx)
 jk d hx:=h.jk d (hs _ _ hx)
 ok k d hx:=h.ok k d (hs _ _ hx)
theorem St.putc (h:St cx Fr m Im w a σ){k off b:Nat}{v:Value}{d:D}(hb:m.blk k=some b)(hv:w.cell? ⟨b,off,none⟩=some v)(hr:Yz m Im w v d):St cx Fr m Im w a (XW (.c k off) d σ) where
 mem:=h.mem
 df:=h.df
 nt:=h.nt
 tm x d' hx:=by rw[Zo,if_neg (by simp[Key.eq])] at hx;exact h.tm x d' hx
 ce k' off' d' hx:=by
  rw[Zo] at hx
  by_cases he:Key.eq (.c k off) (.c k' off')=true
  ·rw[if_pos he] at hx
   cases hx
   have:=Key.eq_iff.1 he
   cases this
   exact⟨b,v,hb,hv,hr⟩
  rw[if_neg he] at hx
  exact h.ce k' off' d' hx
 ro g d' hx:=by rw[Zo,if_neg (by simp[Key.eq])] at hx;exact h.ro g d' hx
 jk d' hx:=by rw[Zo,if_neg (by simp[Key.eq])] at hx;exact h.jk d' hx
 ok k d' hx:=by rw[Zo,if_neg (by simp[Key.eq])] at hx;exact h.ok k d' hx
def cellsOf (k:Nat):Nat→List D→List (Key×D)
 | _,[]=>[]
 | o,d :: l=>(.c k o,d) :: cellsOf k (o+1) l
theorem St.putcs {k b:Nat}(hb:m.blk k=some b):∀ (ds:List D) (vs:List Value) (o:Nat) {σ:List (Key×D)},St cx Fr m Im w a σ→YU m Im w vs ds→(∀ i v,vs[i]?=some v→w.cell? ⟨b,o+i,none⟩=some v)→St cx Fr m Im w a (YC σ (cellsOf k o ds))
 | [],_,_,_,h,_,_=>h
 | d :: ds,[],_,_,_,hr,_=>hr.elim
 | d :: ds,v :: vs,o,σ,h,hr,hc=>by
  simp only[cellsOf,YC]
  refine St.putcs hb ds vs (o+1) (h.putc hb (hc 0 v rfl) hr.1) hr.2 fun i u hu=>?_
  have:=hc (i+1) u (by simpa using hu)
  rw[show o+1+i=o+(i+1) by omega];exact this
def Mp.setB (m:Mp)(k b:Nat):Mp:=⟨fun x=>if x=k then some b else m.blk x,m.row,m.obj⟩
def Mp.setR (m:Mp)(g:Nat)(R:Vi):Mp:=⟨m.blk,fun x=>if x=g then some R else m.row x,m.obj⟩
def Mp.setO (m:Mp)(k b:Nat):Mp:=⟨m.blk,m.row,fun x=>if x=k then some b else m.obj x⟩
theorem Mp.setB_le {k b:Nat}(h:m.blk k=none):m.le (m.setB k b):=
 ⟨fun x c hx=>by
  by_cases e:x=k
  ·subst e;rw[h] at hx;cases hx
  simp[Mp.setB,e,hx],fun g R hg=>⟨R,hg,Nat.le_refl _,fun _=>rfl⟩,fun _ _ h=>h⟩
theorem Mp.setR_le {g:Nat}{R:Vi}(h:∀ R0,m.row g=some R0→R0.len≤R.len∧(R.len=R0.len→R.hv=R0.hv)):m.le (m.setR g R):=
 ⟨fun _ _ h=>h,fun x R0 hx=>by
  by_cases e:x=g
  ·subst e;exact⟨R,by simp[Mp.setR],h R0 hx⟩
  exact⟨R0,by simp[Mp.setR,e,hx],Nat.le_refl _,fun _=>rfl⟩,fun _ _ h=>h⟩
theorem Mp.setO_le {k b:Nat}(h:m.obj k=none):m.le (m.setO k b):=
 ⟨fun _ _ h=>h,fun g R hg=>⟨R,hg,Nat.le_refl _,fun _=>rfl⟩,fun x c hx=>by
  by_cases e:x=k
  ·subst e;rw[h] at hx;cases hx
  simp[Mp.setO,e,hx]⟩
def WM (Fr:Nat→Prop)(k:Nat):Nat→Prop:=fun x=>Fr x∧x≠k
theorem St.name (h:St cx Fr m Im w a σ){k b:Nat}(hk:Fr k)(hB:cx.w0.heap.size≤b)(hlt:b<w.heap.size)(hfr:∀ o,w.frozen? ⟨b,o,none⟩=false)(hni:∀ o,¬ Im b o) 
  (hnb:∀ k,m.blk k≠some b) (hnr:∀ g R,m.row g=some R→R.hv.ownBlock≠some b) (hnx:∀ X J,get σ .j=some (.j X J)→¬ X b) (hno:∀ k,m.obj k≠some b):St cx (WM Fr k) (m.setB k b) Im w a σ:=by
 have hle:m.le (m.setB k b):=Mp.setB_le (h.mem.fr k hk).1
 have hcase:∀ {x c},(m.setB k b).blk x=some c→(x=k∧c=b)∨(x≠k∧m.blk x=some c):=fun {x c} hx=>by
  by_cases e:x=k
  ·left;simp[Mp.setB,e] at hx;exact⟨e,hx.symm⟩
  right;simp[Mp.setB,e] at hx;exact⟨e,hx⟩
 refine⟨{ h.mem with own:=?_,lt:=?_,free:=?_,nim:=?_,inj:=?_,rblk:=?_,fr:=?_,m0:=?_,oblk:=?_,dis:=?_ },h.df,h.nt,fun x d hx=>(h.tm x d hx).mono hle (Z8.refl _ _) (fun _ _ h=>h),fun x off d hx=>?_,fun g d hx=>(h.ro g d hx).imp fun R hR=>⟨hR.1,hR.2.mono (fun _ _=>rfl) hle (Z8.refl _ _) (fun _ _ h=>h) fun _ _ _ h=>h⟩,fun d hd=>?_,fun x d hd=>?_⟩
 ·intro x c hx;rcases hcase hx with⟨_,rfl⟩ | ⟨_,hx⟩;exact .inr hB;exact h.mem.own x c hx
 ·intro x c hx;rcases hcase hx with⟨_,rfl⟩ | ⟨_,hx⟩;exact hlt;exact h.mem.lt x c hx
 ·intro x c o hx;rcases hcase hx with⟨_,rfl⟩ | ⟨_,hx⟩;exact hfr o;exact h.mem.free x c o hx
 ·intro x c o hx;rcases hcase hx with⟨_,rfl⟩ | ⟨_,hx⟩;exact hni o;exact h.mem.nim x c o hx
 ·intro x y c hx hy
  rcases hcase hx with⟨e1,e2⟩ | ⟨_,hx⟩ <;> rcases hcase hy with⟨e3,e4⟩ | ⟨_,hy⟩
  ·rw[e1,e3]
  ·exact absurd (e2 ▸ hy) (hnb y)
  ·exact absurd (e4 ▸ hx) (hnb x)
  exact h.mem.inj x y c hx hy
 ·intro g R c x hg ho hx
  rcases hcase hx with⟨_,rfl⟩ | ⟨_,hx⟩
  ·exact hnr g R hg ho
  exact h.mem.rblk g R c x hg ho hx
 ·intro x hx;refine⟨?_,(h.mem.fr x hx.1).2⟩;simp[Mp.setB,hx.2,(h.mem.fr x hx.1).1]
 ·intro x c hx;exact hle.blk x c (h.mem.m0 x c hx)
 ·intro x y c hx hy
  rcases hcase hy with⟨_,rfl⟩ | ⟨_,hy⟩
  ·exact hno x hx
  exact h.mem.oblk x y c hx hy
 ·intro x c hx
  rcases hcase hx with⟨rfl,_⟩ | ⟨_,hx⟩
  ·exact(h.mem.fr x hk).2.2
  exact h.mem.dis x c hx
 ·obtain⟨c,v,h1,h2,h3⟩:=h.ce x off d hx
  exact⟨c,v,hle.blk x c h1,h2,h3.mono hle (Z8.refl _ _) (fun _ _ h=>h)⟩
 ·obtain⟨X,J,rfl,h1⟩:=h.jk d hd
  refine⟨X,J,rfl,{ h1 with blk:=fun c x hc hx=>?_ }⟩
  rcases hcase hx with⟨_,rfl⟩ | ⟨_,hx⟩
  ·exact hnx X J hd hc
  exact h1.blk c x hc hx
 obtain⟨c,h1,h2⟩:=h.ok x d hd
 exact⟨c,h1,h2.mono rfl hle (Z8.refl _ _) fun _ _ h=>h⟩
theorem St.alloc (h:St cx Fr m Im w a σ){k:Nat}(hk:Fr k)(vs:List Value)(ds:List D)(T:TypeId)(hr:YU m Im w vs ds):
  St cx (WM Fr k) (m.setB k w.heap.size) Im (w.alloc (.cells vs.toArray T)) a (YC σ (cellsOf k 0 ds)):=by
 have hb:Below w.heap.size w (w.alloc (.cells vs.toArray T)):=(Below.refl _ _).alloc (Nat.le_refl _) _
 have hB:=Blk.new w vs.toArray T rfl
 have hle:m.le (m.setB k w.heap.size):=Mp.setB_le (h.mem.fr k hk).1
 have h1:=(h.below0 hb).name (k:=k) (b:=w.heap.size) hk h.mem.off.size (by simp) (fun o=>hB.free o) (fun o ho=>by
   obtain⟨v,hv⟩:=h.mem.im _ _ ho
   have:=YR hv;omega) (fun x hx=>by have:=h.mem.lt x _ hx;omega) (fun g R hg e=>by
   obtain⟨xs,hx⟩:=h.mem.row g R hg
   have:=(Vz hx e).2;omega) (fun X J hj hx=>by
   obtain⟨X',J',e,h2⟩:=h.jk _ hj
   cases e
   have:=h2.lt _ hx;omega) (fun x hx=>by have:=h.mem.olt x _ hx;omega)
 exact h1.putcs (k:=k) (b:=w.heap.size) (by simp[Mp.setB]) ds vs 0 (hr.mono hle (Z8.below hb) fun _ _ h=>h) fun i v hv=>hB.cell (by simpa using hv)
theorem St.setObj (h:St cx Fr m Im w a σ){k b:Nat}{o:Obj}{d:D}(hb:m.obj k=some b)(hd:∀ w':World,w'.heap[b]?=some o→Z8 Im w w'→WN m Im w' b d):
  St cx Fr m Im { w with heap:=w.heap.setIfInBounds b o } a (XW (.o k) d σ):=by
 obtain⟨w',hw'⟩:∃ w',({ w with heap:=w.heap.setIfInBounds b o }:World)=w':=⟨_,rfl⟩
 have hsz:w'.heap.size=w.heap.size:=by rw[←hw'];simp
 have hblk:∀ c,c≠b→w'.heap[c]?=w.heap[c]?:=fun c hc=>by rw[←hw'];exact Array.getElem?_setIfInBounds_ne (Ne.symm hc)
 have hbb:w'.heap[b]?=some o:=by rw[←hw'];have:=h.mem.olt k b hb;simp[this]
 have hos:w'.os=w.os∧w'.tape=w.tape∧w'.output=w.output:=by rw[←hw'];exact⟨rfl,rfl,rfl⟩
 rw[hw']
 clear hw'
 have hki:Z8 Im w w':=fun c x v hi hv=>(World.cell?_of_block (a:=⟨c,x,none⟩) (hblk c (by rintro rfl;exact h.mem.onim k _ x hb hi))).trans hv
 have hmono:∀ {x d},Yz m Im w x d→Yz m Im w' x d:=fun hx=>hx.mono (Mp.le.refl m) hki fun _ _ h=>h
 refine⟨{ h.mem with off:=?_,im:=?_,lt:=?_,free:=?_,row:=?_,olt:=?_,k0:=h.mem.k0.trans (hki.weaken h.mem.im0) },h.df,h.nt,fun x d hx=>hmono (h.tm x d (by rw[Zo,if_neg (by simp[Key.eq])] at hx;exact hx)),fun k' off' d' hx=>?_,fun g d' hx=>?_,fun d' hx=>?_,fun k' d' hx=>?_⟩
 ·refine⟨hos.1.trans h.mem.off.os,hos.2.1.trans h.mem.off.tape,hos.2.2.trans h.mem.off.output,by rw[hsz];exact h.mem.off.size,fun c hc hC=>(hblk c ?_).trans (h.mem.off.block c hc hC)⟩
  rintro rfl
  rcases h.mem.oown k _ hb with h1 | h1
  ·exact hC h1
  omega
 ·intro c x hi
  obtain⟨v,hv⟩:=h.mem.im c x hi
  exact⟨v,hki c x v hi hv⟩
 ·intro k' c hk;rw[hsz];exact h.mem.lt k' c hk
 ·intro k' c x hk;exact(World.frozen?_of_block (a:=⟨c,x,none⟩) (hblk c (by rintro rfl;exact h.mem.oblk k k' _ hb hk))).trans (h.mem.free k' c x hk)
 ·intro g R hg
  obtain⟨xs,hx⟩:=h.mem.row g R hg
  refine⟨xs,hx.1,?_⟩
  rcases hx.2 with h0 | ⟨g',cap,cur,e,h1,h2,h3⟩
  ·exact .inl h0
  refine .inr ⟨g',cap,cur,e,h1,?_,h3⟩
  rw[hblk g' (by rintro rfl;exact h.mem.orow k g R g' hb hg (by rw[e];rfl))];exact h2
 ·intro k' c hk;rw[hsz];exact h.mem.olt k' c hk
 ·rw[Zo,if_neg (by simp[Key.eq])] at hx
  obtain⟨c,v,h1,h2,h3⟩:=h.ce k' off' d' hx
  exact⟨c,v,h1,(World.cell?_of_block (a:=⟨c,off',none⟩) (hblk c (by rintro rfl;exact h.mem.oblk k k' _ hb h1))).trans h2,hmono h3⟩
 ·rw[Zo,if_neg (by simp[Key.eq])] at hx
  obtain⟨R,h1,h2⟩:=h.ro g d' hx
  exact⟨R,h1,h2.mono (fun c ho=>hblk c (by rintro rfl;exact h.mem.orow k g R _ hb h1 ho)) (Mp.le.refl m) hki (fun _ _ h=>h) fun _ _ _ h=>h⟩
 ·rw[Zo,if_neg (by simp[Key.eq])] at hx
  obtain⟨X,J,e,hX⟩:=h.jk d' hx
  have hsame:∀ c,X c→w'.heap[c]?=w.heap[c]?:=fun c hc=>hblk c (by rintro rfl;exact hX.obj _ k hc hb)
  exact⟨X,J,e,{ hX with holds:=hX.stable _ (by rw[hsz];exact Nat.le_refl _) hsame,stable:=fun w2 hs hx2=>hX.stable w2 (by rw[hsz] at hs;exact hs) fun c hc=>(hx2 c hc).trans (hsame c hc),lt:=fun c hc=>by rw[hsz];exact hX.lt c hc }⟩
 rw[Zo] at hx
 by_cases he:Key.eq (.o k) (.o k')=true
 ·rw[if_pos he] at hx
  cases hx
  have:=Key.eq_iff.1 he
  cases this
  exact⟨b,hb,hd w' hbb hki⟩
 rw[if_neg he] at hx
 obtain⟨c,h1,h2⟩:=h.ok k' d' hx
 refine⟨c,h1,h2.mono (hblk c ?_) (Mp.le.refl m) hki fun _ _ h=>h⟩
 rintro rfl
 have:=h.mem.oinj k k' _ hb h1
 subst this
 exact he (Key.eq_refl _)
theorem St.newObjB (h:St cx Fr m Im w a σ){k:Nat}(hk:Fr k){b:Nat}(hb:Below w.heap.size w w')(hbs:w.heap.size≤b)(hbl:b<w'.heap.size){d:D}(hd:∀ (m':Mp),WN m' Im w' b d):
  St cx (WM Fr k) (m.setO k b) Im w' a (XW (.o k) d σ)∧m.le (m.setO k b):=by
 have h1:=h.below0 hb
 have hle:m.le (m.setO k b):=Mp.setO_le (h.mem.fr k hk).2.2
 have hcase:∀ {x c},(m.setO k b).obj x=some c→(x=k∧c=b)∨(x≠k∧m.obj x=some c):=fun {x c} hx=>by
  by_cases e:x=k
  ·left;simp[Mp.setO,e] at hx;exact⟨e,hx.symm⟩
  right;simp[Mp.setO,e] at hx;exact⟨e,hx⟩
 refine⟨⟨{ h1.mem with fr:=?_,m0o:=?_,oown:=?_,olt:=?_,onim:=?_,oinj:=?_,oblk:=?_,orow:=?_,dis:=?_ },h1.df,h1.nt,fun x d hx=>(h1.tm x d (by rw[Zo,if_neg (by simp[Key.eq])] at hx;exact hx)).mono hle (Z8.refl _ _) (fun _ _ h=>h),fun x off d hx=>?_,fun g d hx=>?_,fun d hx=>?_,fun x d hx=>?_⟩,hle⟩
 ·intro x hx;refine⟨(h.mem.fr x hx.1).1,(h.mem.fr x hx.1).2.1,?_⟩;simp[Mp.setO,hx.2,(h.mem.fr x hx.1).2.2]
 ·intro x c hx;exact hle.obj x c (h.mem.m0o x c hx)
 ·intro x c hx;rcases hcase hx with⟨_,rfl⟩ | ⟨_,hx⟩;exact .inr (Nat.le_trans h.mem.off.size hbs);exact h.mem.oown x c hx
 ·intro x c hx;rcases hcase hx with⟨_,rfl⟩ | ⟨_,hx⟩;exact hbl;exact h1.mem.olt x c hx
 ·intro x c o hx hi
  rcases hcase hx with⟨_,rfl⟩ | ⟨_,hx⟩
  ·obtain⟨v,hv⟩:=h.mem.im _ _ hi
   exact absurd (YR hv) (Nat.not_lt.2 hbs)
  exact h.mem.onim x c o hx hi
 ·intro x y c hx hy
  rcases hcase hx with⟨e1,e2⟩ | ⟨_,hx⟩ <;> rcases hcase hy with⟨e3,e4⟩ | ⟨_,hy⟩
  ·rw[e1,e3]
  ·have:=h.mem.olt y _ hy;omega
  ·have:=h.mem.olt x _ hx;omega
  exact h.mem.oinj x y c hx hy
 ·intro x y c hx hy
  rcases hcase hx with⟨_,rfl⟩ | ⟨_,hx⟩
  ·exact absurd (h.mem.lt y _ hy) (Nat.not_lt.2 hbs)
  exact h.mem.oblk x y c hx hy
 ·intro x g R c hx hg hc
  rcases hcase hx with⟨_,rfl⟩ | ⟨_,hx⟩
  ·obtain⟨xs,hxs⟩:=h.mem.row g R hg
   exact absurd (Vz hxs hc).2 (Nat.not_lt.2 hbs)
  exact h.mem.orow x g R c hx hg hc
 ·intro x c hx
  have hx':m.blk x=some c:=hx
  by_cases e:x=k
  ·subst e;rw[(h.mem.fr x hk).1] at hx';cases hx'
  have:=h.mem.dis x c hx'
  simp[Mp.setO,e,this]
 ·rw[Zo,if_neg (by simp[Key.eq])] at hx
  obtain⟨c,v,q1,q2,q3⟩:=h1.ce x off d hx
  exact⟨c,v,q1,q2,q3.mono hle (Z8.refl _ _) fun _ _ h=>h⟩
 ·rw[Zo,if_neg (by simp[Key.eq])] at hx
  obtain⟨R,q1,q2⟩:=h1.ro g d hx
  exact⟨R,q1,q2.mono (fun _ _=>rfl) hle (Z8.refl _ _) (fun _ _ h=>h) fun _ _ _ h=>h⟩
 ·rw[Zo,if_neg (by simp[Key.eq])] at hx
  obtain⟨X,J,rfl,hX0⟩:=h.jk d hx
  obtain⟨X',J',e,hX⟩:=h1.jk _ hx
  cases e
  refine⟨X,J,rfl,{ hX with obj:=fun c x hc hx=>?_ }⟩
  rcases hcase hx with⟨_,rfl⟩ | ⟨_,hx⟩
  ·exact absurd (hX0.lt _ hc) (Nat.not_lt.2 hbs)
  exact hX0.obj c x hc hx
 rw[Zo] at hx
 by_cases he:Key.eq (.o k) (.o x)=true
 ·rw[if_pos he] at hx
  cases hx
  have:=Key.eq_iff.1 he
  cases this
  exact⟨b,by simp[Mp.setO],hd _⟩
 rw[if_neg he] at hx
 obtain⟨c,q1,q2⟩:=h1.ok x d hx
 exact⟨c,hle.obj x c q1,q2.mono rfl hle (Z8.refl _ _) fun _ _ h=>h⟩
theorem St.newObj (h:St cx Fr m Im w a σ){k:Nat}(hk:Fr k){o:Obj}{d:D}(hd:∀ (m':Mp) (w':World),w'.heap[w.heap.size]?=some o→WN m' Im w' w.heap.size d):
  St cx (WM Fr k) (m.setO k w.heap.size) Im (w.alloc o) a (XW (.o k) d σ)∧m.le (m.setO k w.heap.size):=
 h.newObjB hk ((Below.refl _ _).alloc (Nat.le_refl _) _) (Nat.le_refl _) (by simp) fun m'=>hd m' _ (heap_alloc_new w o)
end
section
variable {cx:Cx} {Fr Fr':Nat→Prop} {m m':Mp} {Im Im':Nat→Nat→Prop} {w w':World} {a:Act} {σ σ':List (Key×D)}
theorem Vo {b off b' off':Nat}{v:Value}(h:b'≠b∨off'≠off):(w.setCell ⟨b,off,none⟩ v).cell? ⟨b',off',none⟩=w.cell? ⟨b',off',none⟩:=by
 by_cases hb:b'=b
 ·subst hb
  have ho:off'≠off:=h.resolve_left (fun e=>e rfl)
  show (match (w.heap.modify b' _)[b']? with | some (.cells c _ _)=>_ | _=>none)=match w.heap[b']? with | some (.cells c _ _)=>_ | _=>none
  rw[Array.getElem?_modify,if_pos rfl]
  cases hw:w.heap[b']? with
  | none=>rfl
  | some o=>
   cases o with
   | cells c e f=>simp[Array.getElem?_setIfInBounds_ne (Ne.symm ho)]
   | _=>rfl
 exact World.cell?_of_block (w:=w) (a:=⟨b',off',none⟩) (Below.heap_setCell _ _ _ _ hb)
theorem PY {b off:Nat}{v u:Value}(h:w.cell? ⟨b,off,none⟩=some u):(w.setCell ⟨b,off,none⟩ v).cell? ⟨b,off,none⟩=some v:=by
 simp only[World.cell?] at h ⊢
 show (match (w.heap.modify b _)[b]? with | some (.cells c _ _)=>_ | _=>none)=some v
 rw[Array.getElem?_modify,if_pos rfl]
 cases hw:w.heap[b]? with
 | none=>rw[hw] at h;cases h
 | some o=>
  rw[hw] at h
  cases o with
  | cells c e f=>
   simp at h ⊢
   have:off<c.size:=by
    rcases Nat.lt_or_ge off c.size with h' | h'
    ·exact h'
    rw[Array.getElem?_eq_none h'] at h;cases h
   simp[this]
  | _=>cases h
theorem Oi {b off:Nat}{v:Value}(p:Addr):(w.setCell ⟨b,off,none⟩ v).frozen? p=w.frozen? p:=by
 by_cases hb:p.block=b
 ·subst hb
  simp only[World.frozen?]
  show (match (w.heap.modify p.block _)[p.block]? with | some (.cells _ _ (lo,hi))=>_ | _=>false)=_
  rw[Array.getElem?_modify,if_pos rfl]
  cases hw:w.heap[p.block]? with
  | none=>rfl
  | some o=>cases o <;> rfl
 exact World.frozen?_of_block (w:=w) (a:=p) (Below.heap_setCell _ _ _ _ hb)
theorem St.setCell (h:St cx Fr m Im w a σ){k b off:Nat}{u v:Value}{d:D}(hb:m.blk k=some b)(hu:w.cell? ⟨b,off,none⟩=some u)(hr:Yz m Im w v d):
  St cx Fr m Im (w.setCell ⟨b,off,none⟩ v) a (XW (.c k off) d σ):=by
 have hki:Z8 Im w (w.setCell ⟨b,off,none⟩ v):=fun b' o x hi hx=>by
  rw[Vo];exact hx;left;rintro rfl;exact h.mem.nim k _ o hb hi
 have hmono:∀ {x d},Yz m Im w x d→Yz m Im (w.setCell ⟨b,off,none⟩ v) x d:=fun hx=>hx.mono (Mp.le.refl m) hki fun _ _ h=>h
 have hblk:∀ b',b'≠b→(w.setCell ⟨b,off,none⟩ v).heap[b']?=w.heap[b']?:=fun b' hne=>Below.heap_setCell _ _ _ _ hne
 have hsz:(w.setCell ⟨b,off,none⟩ v).heap.size=w.heap.size:=by simp
 refine⟨{ h.mem with off:=?_,im:=?_,lt:=?_,free:=?_,row:=?_,olt:=?_,k0:=h.mem.k0.trans (hki.weaken h.mem.im0) },h.df,h.nt,fun x d hx=>hmono (h.tm x d (by rw[Zo,if_neg (by simp[Key.eq])] at hx;exact hx)),fun k' off' d' hx=>?_,fun g d' hx=>?_,fun d' hx=>?_,fun k' d' hx=>?_⟩
 ·exact h.mem.off.set ⟨b,off,none⟩ v (h.mem.own k b hb)
 ·intro b' o hi
  obtain⟨x,hx⟩:=h.mem.im b' o hi
  exact⟨x,hki b' o x hi hx⟩
 ·intro k' b' hk;rw[hsz];exact h.mem.lt k' b' hk
 ·intro k' b' o hk;rw[Oi];exact h.mem.free k' b' o hk
 ·intro g R hg
  obtain⟨xs,hx⟩:=h.mem.row g R hg
  refine⟨xs,?_⟩
  refine⟨hx.1,?_⟩
  rcases hx.2 with h0 | ⟨g',cap,cur,e,h1,h2,h3⟩
  ·exact .inl h0
  refine .inr ⟨g',cap,cur,e,h1,?_,h3⟩
  rw[hblk g' (by rintro rfl;exact h.mem.rblk g R g' k hg (by rw[e];rfl) hb)];exact h2
 ·intro k' b' hk;rw[hsz];exact h.mem.olt k' b' hk
 ·rw[Zo] at hx
  by_cases he:Key.eq (.c k off) (.c k' off')=true
  ·rw[if_pos he] at hx
   cases hx
   have:=Key.eq_iff.1 he
   cases this
   exact⟨b,v,hb,PY hu,hmono hr⟩
  rw[if_neg he] at hx
  obtain⟨b',x,h1,h2,h3⟩:=h.ce k' off' d' hx
  refine⟨b',x,h1,?_,hmono h3⟩
  rw[Vo];exact h2
  by_cases hbb:b'=b
  ·right;rintro rfl
   subst hbb
   have:=h.mem.inj k' k b' h1 hb
   subst this
   exact he (Key.eq_refl _)
  exact .inl hbb
 ·rw[Zo,if_neg (by simp[Key.eq])] at hx
  obtain⟨R,h1,h2⟩:=h.ro g d' hx
  exact⟨R,h1,h2.mono (fun c ho=>hblk c (by rintro rfl;exact h.mem.rblk g R _ k h1 ho hb)) (Mp.le.refl m) hki (fun _ _ h=>h) fun _ _ _ h=>h⟩
 ·rw[Zo,if_neg (by simp[Key.eq])] at hx
  obtain⟨X,J,e,hX⟩:=h.jk d' hx
  have hnb:¬ X b:=fun hxb=>hX.blk b k hxb hb
  refine⟨X,J,e,{ hX with holds:=hX.stable _ (by rw[hsz];exact Nat.le_refl _) (fun b' hb'=>hblk b' (fun e=>hnb (e ▸ hb'))),stable:=fun w2 hs hx2=>hX.stable w2 (by rw[hsz] at hs;exact hs) fun b' hb'=>(hx2 b' hb').trans (hblk b' (fun e=>hnb (e ▸ hb'))),lt:=fun b' hb'=>by rw[hsz];exact hX.lt b' hb' }⟩
 rw[Zo,if_neg (by simp[Key.eq])] at hx
 obtain⟨b',h1,h2⟩:=h.ok k' d' hx
 exact⟨b',h1,h2.mono (hblk b' (by rintro rfl;exact h.mem.oblk k' k _ h1 hb)) (Mp.le.refl m) hki fun _ _ h=>h⟩
theorem St.setCells {k b:Nat}(hb:m.blk k=some b):∀ (ds:List D) (vs:List Value) (o:Nat) {w:World} {σ:List (Key×D)},St cx Fr m Im w a σ→YU m Im w vs ds→(∀ i,i<vs.length→∃ u,w.cell? ⟨b,o+i,none⟩=some u) →
  ∃ w',(w.setCells b o vs=w')∧St cx Fr m Im w' a (YC σ (cellsOf k o ds))
 | [],[],o,w,σ,h,_,_=>⟨_,rfl,h⟩
 | [],_ :: _,_,_,_,_,hr,_=>hr.elim
 | _ :: _,[],_,_,_,_,hr,_=>hr.elim
 | d :: ds,v :: vs,o,w,σ,h,hr,hc=>by
  obtain⟨u,hu⟩:=hc 0 (by simp)
  have h1:=h.setCell hb hu hr.1
  have hki:Z8 Im w (w.setCell ⟨b,o,none⟩ v):=fun b' o' x hi hx=>by
   rw[Vo];exact hx;left;rintro rfl;exact h.mem.nim k _ o' hb hi
  obtain⟨w',hw',h2⟩:=St.setCells hb ds vs (o+1) h1 (hr.2.mono (Mp.le.refl m) hki fun _ _ h=>h) (fun i hi=>by
   obtain⟨x,hx⟩:=hc (i+1) (by simpa using hi)
   refine⟨x,?_⟩
   rw[Vo (.inr (by omega))]
   rw[show o+1+i=o+(i+1) by omega];exact hx)
  exact⟨w',by rw[←hw'];rfl,h2⟩
/-! rows -/
theorem Tz {n g E:Nat}(hg:m.row g=some ⟨.slice none 0 0,0,E,n⟩):Yz m Im w (.slice none 0 0) (.sl n [] (some g)):=
 .sl none 0 0 0 n (fun _ _=>undef) [] (some g) ⟨Nat.zero_le _,Nat.zero_le _⟩ (fun h=>absurd h (by simp)) (fun i _ h=>absurd h (by simp)) (fun i h=>absurd h (by simp)) (fun i _ h=>absurd h (by simp)) (fun i h=>absurd h (by simp)) fun r e=>by
  cases e;exact⟨_,hg,Nat.le_refl _,fun _=>rfl⟩
theorem St.newRow (h:St cx Fr m Im w a σ){g:Nat}(hg:Fr g)(E n:Nat):St cx (WM Fr g) (m.setR g ⟨.slice none 0 0,0,E,n⟩) Im w a (XW (.r g) (.rw E n 0) σ):=by
 have hle:m.le (m.setR g ⟨.slice none 0 0,0,E,n⟩):=Mp.setR_le fun R0 h0=>by rw[(h.mem.fr g hg).2.1] at h0;cases h0
 have hcase:∀ {x R},(m.setR g ⟨.slice none 0 0,0,E,n⟩).row x=some R→(x=g∧R=⟨.slice none 0 0,0,E,n⟩)∨(x≠g∧m.row x=some R):=fun {x R} hx=>by
  by_cases e:x=g
  ·left;simp[Mp.setR,e] at hx;exact⟨e,hx.symm⟩
  right;simp[Mp.setR,e] at hx;exact⟨e,hx⟩
 refine⟨{ h.mem with row:=?_,rIm:=?_,rblk:=?_,rinj:=?_,fr:=?_,orow:=?_,rown:=?_,m0r:=h.mem.m0r_le hle },h.df,h.nt,fun x d hx=>(h.tm x d (by rw[Zo,if_neg (by simp[Key.eq])] at hx;exact hx)).mono hle (Z8.refl _ _) (fun _ _ h=>h),fun x off d hx=>?_,fun x d hx=>?_,fun d hd=>?_,fun x d hd=>?_⟩
 ·intro x R hx;rcases hcase hx with⟨_,rfl⟩ | ⟨_,hx⟩;exact⟨[],World.ownsRow_nil _ _ _ _⟩;exact h.mem.row x R hx
 ·intro x R b o hx;rcases hcase hx with⟨_,rfl⟩ | ⟨_,hx⟩;(intro e;cases e);exact h.mem.rIm x R b o hx
 ·intro x R b k hx;rcases hcase hx with⟨_,rfl⟩ | ⟨_,hx⟩;(intro e;cases e);exact h.mem.rblk x R b k hx
 ·intro x y R R' b hx hy ho ho'
  rcases hcase hx with⟨_,rfl⟩ | ⟨_,hx⟩
  ·cases ho
  rcases hcase hy with⟨_,rfl⟩ | ⟨_,hy⟩
  ·cases ho'
  exact h.mem.rinj x y R R' b hx hy ho ho'
 ·intro x hx;refine⟨(h.mem.fr x hx.1).1,?_,(h.mem.fr x hx.1).2.2⟩;simp[Mp.setR,hx.2,(h.mem.fr x hx.1).2.1]
 ·intro x y R b hx hy
  rcases hcase hy with⟨_,rfl⟩ | ⟨_,hy⟩
  ·intro e;cases e
  exact h.mem.orow x y R b hx hy
 ·intro x R b hx;rcases hcase hx with⟨_,rfl⟩ | ⟨_,hx⟩;(intro e;cases e);exact h.mem.rown x R b hx
 ·rw[Zo,if_neg (by simp[Key.eq])] at hx
  obtain⟨c,v,h1,h2,h3⟩:=h.ce x off d hx
  exact⟨c,v,h1,h2,h3.mono hle (Z8.refl _ _) (fun _ _ h=>h)⟩
 ·rw[Zo] at hx
  by_cases he:Key.eq (.r g) (.r x)=true
  ·rw[if_pos he] at hx
   cases hx
   have:=Key.eq_iff.1 he
   cases this
   exact⟨⟨.slice none 0 0,0,E,n⟩,by simp[Mp.setR],.rw⟩
  rw[if_neg he] at hx
  obtain⟨R,h1,h2⟩:=h.ro x d hx
  have hne:x≠g:=fun e=>he (by rw[e];exact Key.eq_refl _)
  exact⟨R,by simp[Mp.setR,hne,h1],h2.mono (fun _ _=>rfl) hle (Z8.refl _ _) (fun _ _ h=>h) fun _ _ _ h=>h⟩
 ·rw[Zo,if_neg (by simp[Key.eq])] at hd
  obtain⟨X,J,rfl,h1⟩:=h.jk d hd
  refine⟨X,J,rfl,{ h1 with row:=fun c x R hc hx=>?_ }⟩
  rcases hcase hx with⟨_,rfl⟩ | ⟨_,hx⟩
  ·intro e;cases e
  exact h1.row c x R hc hx
 rw[Zo,if_neg (by simp[Key.eq])] at hd
 obtain⟨c,h1,h2⟩:=h.ok x d hd
 exact⟨c,h1,h2.mono rfl hle (Z8.refl _ _) fun _ _ h=>h⟩
theorem XB (b n:Nat):(⟨b,0,none⟩:Addr).add n=⟨b,n,none⟩:=by
 unfold Addr.add;split
 ·subst_vars;rfl
 simp
theorem VE {P:Program}(base:Nat)(t ty e:TypeId)(i:TypeInfo)(z:Value)(size bytes:Nat)(ht:P.underlying t=some (.slice e))(hi:P.info? e=some i)(hz:i.zero=some z) 
  (hsize:i.size=size) (hby:i.bytes=bytes) (hzs:z.cells.size=size) (hsz:0<size)
  (v:Value) (n:Nat) (xs:List Value) (hown:w.ownsRow base e size v n xs)
  (ad:Addr) (k c:Nat) (news:List Value) (hl:news.length=k * size) (hnews:∀ j u,news[j]?=some u→w.cell? (ad.add j)=some u) (h1:∀ u∈news,u.oneCell'=true)
  (h63:n+k≤maxLen) (hbytes:(n+k) * bytes≤140737488355328) (hbase:base≤w.heap.size) :
  ∃ v' w',(Builtin.append_ #[t,t] ty #[v,.slice (some ad) k c]).run P w=.ok v' w'∧w'.ownsRow base e size v' (n+k) (xs++news) ∧
   ((v'.ownBlock=v.ownBlock∧w.grownBy w' v.ownBlock)∨(v'.ownBlock=some w.heap.size∧Below w.heap.size w w')):=by
 obtain⟨v',w',hr,h2,h3,h4,h5⟩:=run_append_own_at (P:=P) w base t ty e i z size bytes ht hi hz hsize hby hzs hsz v n xs hown ad k c news hl hnews h1 h63 hbytes hbase
 rcases h5 with h5 | h5
 ·exact⟨v',w',hr,h2,.inl ⟨h5,h3⟩⟩
 refine⟨v',w',hr,h2,.inr ⟨h5,?_⟩⟩
 rcases hown.2 with⟨rfl,rfl⟩ | ⟨g,cap,cur,rfl,hbg,hg,hnc,hcm,hcs,htake⟩
 ·exact⟨h3.os,h3.tape,h3.output,h3.size,fun b hb=>h3.block b hb (by simp[Value.ownBlock])⟩
 have hlt:=lt_of_block hg
 by_cases hroom:n+k≤cap
 ·exfalso
  subst hsize
  have hfit:n * i.size+news.length≤cur.size:=by rw[hl,hcs,←Nat.add_mul];exact Nat.mul_le_mul_right _ hroom
  have hr2:=run_append_room (P:=P) w t ty e i ht hi g n cap cur hg ad k c news hl hnews h1 hroom hfit
  have hv':v'=.slice (some ⟨g,0,none⟩) (n+k) cap:=by
   have:=hr.symm.trans hr2
   injection this with e1 _
  rw[hv'] at h5
  simp[Value.ownBlock] at h5
  omega
 have holds:∀ j u,xs[j]?=some u→w.cell? ((⟨g,0,none⟩:Addr).add j)=some u:=hown.cells (g:=g) rfl
 obtain⟨v2,w2,hr2,_,hg2⟩:=run_append_arg_grows (P:=P) w t ty e i z size bytes ht hi hz hsize hby hzs hsz ⟨g,0,none⟩ n cap xs hown.1 holds ad k c news hl hnews (by omega) h63 hbytes
 have hw:w'=w2:=by
  have:=hr.symm.trans hr2
  injection this
 rw[hw]
 exact⟨hg2.os,hg2.tape,hg2.output,hg2.size,fun b hb=>hg2.block b hb (by simp)⟩
theorem St.grow (h:St cx Fr m Im w a σ){g:Nat}{R:Vi}(hg:m.row g=some R){v':Value}{k:Nat}{xs ys:List Value}(hn:0<R.n)(hk:0<k) 
  (hold:w.ownsRow 0 R.E R.n R.hv R.len xs) (hown:w'.ownsRow 0 R.E R.n v' (R.len+k) (xs++ys))
  (hgr:(v'.ownBlock=R.hv.ownBlock∧w.grownBy w' R.hv.ownBlock)∨(v'.ownBlock=some w.heap.size∧Below w.heap.size w w')) :
  ∃ Im' b,v'.ownBlock=some b∧(∀ c o,Im c o→Im' c o)∧(∀ o,o<(R.len+k) * R.n→Im' b o)∧Z8 Im w w'∧m.le (m.setR g ⟨v',R.len+k,R.E,R.n⟩) ∧
   St cx Fr (m.setR g ⟨v',R.len+k,R.E,R.n⟩) Im' w' a (XW (.r g) (.rw R.E R.n (R.len+k)) σ):=by
 obtain⟨b,cap,hv',hbB,hbl⟩:=hown.form (by omega)
 have hob:v'.ownBlock=some b:=by rw[hv'];rfl
 have hsame:∀ c,c<w.heap.size→R.hv.ownBlock≠some c→w'.heap[c]?=w.heap[c]?:=fun c hc hne=>by
  rcases hgr with⟨_,h2⟩ | ⟨_,h2⟩
  ·exact h2.block c hc (Ne.symm hne)
  exact h2.block c hc
 have hsz:w.heap.size≤w'.heap.size:=by rcases hgr with⟨_,h2⟩ | ⟨_,h2⟩ <;> exact h2.size
 have hcase:R.hv.ownBlock=some b∨(b=w.heap.size∧Below w.heap.size w w'):=by
  rcases hgr with⟨h1,_⟩ | ⟨h1,h2⟩
  ·left;rw[←h1,hob]
  right;rw[hob] at h1;cases h1;exact⟨rfl,h2⟩
 have hcells:∀ o,o<(R.len+k) * R.n→∃ u,(xs++ys)[o]?=some u∧w'.cell? ⟨b,o,none⟩=some u:=fun o ho=>by
  have hl:o<(xs++ys).length:=by rw[hown.1];exact ho
  refine⟨(xs++ys)[o],List.getElem?_eq_getElem hl,?_⟩
  have:=hown.cells (g:=b) hob o _ (List.getElem?_eq_getElem hl)
  rw[XB] at this;exact this
 have hki:Z8 Im w w':=fun c o x hi hx=>by
  have hcl:=YR hx
  by_cases hc:R.hv.ownBlock=some c
  ·rcases hcase with hb | ⟨_,hb⟩
   ·have e:c=b:=by rw[hc] at hb;exact Option.some.inj hb
    subst e
    have ho:=h.mem.rIm g R c o hg hc hi
    obtain⟨u,hu,hcu⟩:=hcells o (Nat.lt_of_lt_of_le ho (Nat.mul_le_mul_right _ (by omega)))
    have hol:o<xs.length:=by rw[hold.1];exact ho
    have hxo:=hold.cells (g:=c) hc o _ (List.getElem?_eq_getElem hol)
    rw[XB,hx] at hxo
    rw[List.getElem?_append_left hol,List.getElem?_eq_getElem hol] at hu
    rw[hcu,←hu,hxo]
   exact(hb.cell (p:=⟨c,o,none⟩) hcl).trans hx
  exact(World.cell?_of_block (a:=⟨c,o,none⟩) (hsame c hcl hc)).trans hx
 have hle:m.le (m.setR g ⟨v',R.len+k,R.E,R.n⟩):=Mp.setR_le fun R0 h0=>by rw[hg] at h0;cases h0;exact⟨by simp,fun e=>by simp at e;omega⟩
 have hrc:∀ {x R0},(m.setR g ⟨v',R.len+k,R.E,R.n⟩).row x=some R0→(x=g∧R0=⟨v',R.len+k,R.E,R.n⟩)∨(x≠g∧m.row x=some R0):=fun {x R0} hx=>by
  by_cases e:x=g
  ·left;simp[Mp.setR,e] at hx;exact⟨e,hx.symm⟩
  right;simp[Mp.setR,e] at hx;exact⟨e,hx⟩
 have hbnew:∀ c,c<w.heap.size→R.hv.ownBlock≠some c→c≠b:=fun c hc hne e=>by
  subst e
  rcases hcase with hb | ⟨hb,_⟩
  ·exact hne hb
  omega
 have hmono:∀ {x d},Yz m Im w x d→Yz (m.setR g ⟨v',R.len+k,R.E,R.n⟩) (fun c o=>Im c o∨(c=b∧o<(R.len+k) * R.n)) w' x d:=fun hx=>hx.mono hle hki fun _ _ h=>.inl h
 refine⟨fun c o=>Im c o∨(c=b∧o<(R.len+k) * R.n),b,hob,fun _ _ h=>.inl h,fun o ho=>.inr ⟨rfl,ho⟩,hki,hle,?_⟩
 have hnamed:∀ x c,m.blk x=some c→c<w.heap.size∧R.hv.ownBlock≠some c:=fun x c hx=>⟨h.mem.lt x c hx,fun e=>h.mem.rblk g R c x hg e hx⟩
 refine⟨⟨?off,?im,?imb,?im0,h.mem.own,?lt,?free,?nim,h.mem.inj,?row,?rIm,?rblk,?rinj,?fr,h.mem.m0,h.mem.m0o,h.mem.oown,?olt,?onim,h.mem.oinj,h.mem.oblk,?orow,h.mem.dis,h.mem.k0.trans (hki.weaken h.mem.im0),?rown,h.mem.m0r_le hle⟩,h.df,h.nt,fun x d hx=>hmono (h.tm x d (by rw[Zo,if_neg (by simp[Key.eq])] at hx;exact hx)),fun x off d hx=>?ce,fun x d hx=>?ro,fun d hd=>?jk,fun x d hd=>?okk⟩
 case off=>
  obtain⟨ho1,ho2,ho3⟩:w'.os=w.os∧w'.tape=w.tape∧w'.output=w.output:=by rcases hgr with⟨_,h2⟩ | ⟨_,h2⟩ <;> exact⟨h2.os,h2.tape,h2.output⟩
  refine⟨ho1.trans h.mem.off.os,ho2.trans h.mem.off.tape,ho3.trans h.mem.off.output,Nat.le_trans h.mem.off.size hsz,fun c hc hC=>?_⟩
  refine(hsame c (Nat.lt_of_lt_of_le hc h.mem.off.size) fun e=>?_).trans (h.mem.off.block c hc hC)
  rcases h.mem.rown g R c hg e with h1 | h1
  ·omega
  exact hC (cx.hCR c h1)
 case im=>
  intro c o hio;rcases hio with hi | ⟨rfl,ho⟩
  ·obtain⟨x,hx⟩:=h.mem.im c o hi
   exact⟨x,hki c o x hi hx⟩
  obtain⟨u,_,hu⟩:=hcells o ho;exact⟨u,hu⟩
 case imb=>
  intro c o hio;rcases hio with hi | ⟨rfl,ho⟩
  ·exact h.mem.imb c o hi
  rcases hcase with hb | ⟨rfl,_⟩
  ·exact .inr (h.mem.rown g R _ hg hb)
  exact .inr (.inl h.mem.off.size)
 case im0=>intro c o hi;exact .inl (h.mem.im0 c o hi)
 case lt=>intro x c hx;exact Nat.lt_of_lt_of_le (h.mem.lt x c hx) hsz
 case free=>intro x c o hx;exact(World.frozen?_of_block (a:=⟨c,o,none⟩) (hsame c (hnamed x c hx).1 (hnamed x c hx).2)).trans (h.mem.free x c o hx)
 case nim=>
  intro x c o hx hio;rcases hio with hi | ⟨rfl,ho⟩
  ·exact h.mem.nim x c o hx hi
  exact hbnew _ (hnamed x _ hx).1 (hnamed x _ hx).2 rfl
 case row=>
  intro x R0 hx
  rcases hrc hx with⟨rfl,rfl⟩ | ⟨hne,hx⟩
  ·exact⟨xs++ys,hown⟩
  obtain⟨zs,hz⟩:=h.mem.row x R0 hx
  refine⟨zs,hz.1,?_⟩
  rcases hz.2 with h0 | ⟨g',cap',cur,e,h1,h2,h3⟩
  ·exact .inl h0
  refine .inr ⟨g',cap',cur,e,h1,?_,h3⟩
  rw[hsame g' (lt_of_block h2) (fun e2=>hne (h.mem.rinj x g R0 R g' hx hg (by rw[e];rfl) e2))];exact h2
 case rIm=>
  intro x R0 c o hx hc hio;rcases hio with hi | ⟨rfl,ho⟩
  ·rcases hrc hx with⟨rfl,rfl⟩ | ⟨hne,hx⟩
   ·rw[hob] at hc;cases hc
    show o<(R.len+k) * R.n
    rcases hcase with hb | ⟨hb,_⟩
    ·exact Nat.lt_of_lt_of_le (h.mem.rIm x R b o hg hb hi) (Nat.mul_le_mul_right _ (by omega))
    obtain⟨u,hu⟩:=h.mem.im b o hi
    have:=YR hu;omega
   exact h.mem.rIm x R0 c o hx hc hi
  rcases hrc hx with⟨rfl,rfl⟩ | ⟨hne,hx⟩
  ·exact ho
  exfalso
  rcases hcase with hb | ⟨hb,_⟩
  ·exact hne (h.mem.rinj x g R0 R _ hx hg hc hb)
  obtain⟨zs,hz⟩:=h.mem.row x R0 hx
  have:=(Vz hz hc).2;omega
 case rblk=>
  intro x R0 c y hx hc hy
  rcases hrc hx with⟨rfl,rfl⟩ | ⟨hne,hx⟩
  ·rw[hob] at hc;cases hc
   exact hbnew _ (hnamed y _ hy).1 (hnamed y _ hy).2 rfl
  exact h.mem.rblk x R0 c y hx hc hy
 case rinj=>
  have key:∀ x R0 c,x≠g→m.row x=some R0→R0.hv.ownBlock=some c→c≠b:=fun x R0 c hne hx hc e=>by
   subst e
   rcases hcase with hb | ⟨hb,_⟩
   ·exact hne (h.mem.rinj x g R0 R _ hx hg hc hb)
   obtain⟨zs,hz⟩:=h.mem.row x R0 hx
   have:=(Vz hz hc).2;omega
  intro x y R0 R1 c hx hy hc hc'
  rcases hrc hx with⟨e1,e2⟩ | ⟨n1,hx⟩ <;> rcases hrc hy with⟨e3,e4⟩ | ⟨n2,hy⟩
  ·rw[e1,e3]
  ·subst e2;rw[hob] at hc;cases hc;exact absurd rfl (key y R1 _ n2 hy hc')
  ·subst e4;rw[hob] at hc';cases hc';exact absurd rfl (key x R0 _ n1 hx hc)
  exact h.mem.rinj x y R0 R1 c hx hy hc hc'
 case fr=>
  intro x hx
  have:=h.mem.fr x hx
  refine⟨this.1,?_,this.2.2⟩
  have hne:x≠g:=by rintro rfl;rw[this.2.1] at hg;cases hg
  simp[Mp.setR,hne,this.2.1]
 case olt=>intro x c hx;exact Nat.lt_of_lt_of_le (h.mem.olt x c hx) hsz
 case onim=>
  intro x c o hx hio;rcases hio with hi | ⟨rfl,ho⟩
  ·exact h.mem.onim x c o hx hi
  exact hbnew _ (h.mem.olt x _ hx) (fun e=>h.mem.orow x g R _ hx hg e) rfl
 case orow=>
  intro x y R0 c hx hy hc
  rcases hrc hy with⟨rfl,rfl⟩ | ⟨hne,hy⟩
  ·rw[hob] at hc;cases hc
   exact hbnew _ (h.mem.olt x _ hx) (fun e=>h.mem.orow x y R _ hx hg e) rfl
  exact h.mem.orow x y R0 c hx hy hc
 case rown=>
  intro x R0 c hx ho
  rcases hrc hx with⟨rfl,rfl⟩ | ⟨_,hx⟩
  ·rw[hob] at ho;cases ho
   rcases hcase with hb | ⟨rfl,_⟩
   ·exact h.mem.rown x R _ hg hb
   exact .inl h.mem.off.size
  exact h.mem.rown x R0 c hx ho
 case okk=>
  rw[Zo,if_neg (by simp[Key.eq])] at hd
  obtain⟨c,h1,h2⟩:=h.ok x d hd
  exact⟨c,h1,h2.mono (hsame c (h.mem.olt x c h1) fun e=>h.mem.orow x g R c h1 hg e) hle hki fun _ _ h=>.inl h⟩
 case ce=>
  rw[Zo,if_neg (by simp[Key.eq])] at hx
  obtain⟨c,v,h1,h2,h3⟩:=h.ce x off d hx
  exact⟨c,v,h1,(World.cell?_of_block (a:=⟨c,off,none⟩) (hsame c (hnamed x c h1).1 (hnamed x c h1).2)).trans h2,hmono h3⟩
 case ro=>
  rw[Zo] at hx
  by_cases he:Key.eq (.r g) (.r x)=true
  ·rw[if_pos he] at hx
   cases hx
   have:=Key.eq_iff.1 he
   cases this
   exact⟨⟨v',R.len+k,R.E,R.n⟩,by simp[Mp.setR],.rw⟩
  rw[if_neg he] at hx
  obtain⟨R0,h1,h2⟩:=h.ro x d hx
  have hne:x≠g:=fun e=>he (by rw[e];exact Key.eq_refl _)
  have hcb:∀ c,R0.hv.ownBlock=some c→R.hv.ownBlock≠some c∧c≠b:=fun c hc=>by
   have h3:R.hv.ownBlock≠some c:=fun e=>hne (h.mem.rinj x g R0 R c h1 hg hc e)
   exact⟨h3,hbnew c (h.mem.rlt h1 hc) h3⟩
  exact⟨R0,by simp[Mp.setR,hne,h1],h2.mono (fun c hc=>hsame c (h.mem.rlt h1 hc) (hcb c hc).1) hle hki (fun _ _ h=>.inl h) fun c o hc hh=>hh.elim id fun e=>absurd e.1 (hcb c hc).2⟩
 case jk=>
  rw[Zo,if_neg (by simp[Key.eq])] at hd
  obtain⟨X,J,e,hX⟩:=h.jk d hd
  have hxs:∀ c,X c→w'.heap[c]?=w.heap[c]?:=fun c hc=>hsame c (hX.lt c hc) (hX.row c g R hc hg)
  refine⟨X,J,e,hX.stable _ hsz hxs,fun w2 hs hx2=>hX.stable w2 (Nat.le_trans hsz hs) fun c hc=>(hx2 c hc).trans (hxs c hc),fun c hc=>Nat.lt_of_lt_of_le (hX.lt c hc) hsz,hX.own,?_,hX.blk,?_,hX.obj⟩
  ·intro c o hc hio;rcases hio with hi | ⟨rfl,ho⟩
   ·exact hX.nim c o hc hi
   exact hbnew _ (hX.lt _ hc) (hX.row _ g R hc hg) rfl
  intro c x R0 hc hx
  rcases hrc hx with⟨rfl,rfl⟩ | ⟨hne,hx⟩
  ·intro e2;rw[hob] at e2;cases e2
   exact hbnew _ (hX.lt _ hc) (hX.row _ x R hc hg) rfl
  exact hX.row c x R0 hc hx
end
structure TI where
 sz:Nat
 ag:Bool
 z:List Value
 fs:List (Nat×Nat×Bool)
 el:Option Nat
 bys:Nat
 kd:Nat
 mv:Option Nat
 eqi:Bool
def Ps:TypeDesc→Bool
 | .struct _=>true
 | .array _ _=>true
 | _=>false
def U8:TypeDesc→Nat
 | .bool=>1
 | .int _=>2
 | .string=>3
 | .pointer _=>4
 | .slice _=>5
 | .struct _=>6
 | .map _ _=>7
 | .func _ _ _=>8
 | _=>0
def Jh (P:Program)(f:Field)(e:Nat×Nat×Bool):Bool:=
 f.offset==e.1&&(match P.info? f.type with | some i=>i.size==e.2.1 | none=>false)&&decide (0<e.2.1)&&(match P.underlying f.type with | some d=>Ps d==e.2.2 | none=>false)
def M7 (P:Program)(t:Nat)(ti:TI):Bool:=match P.info? t,P.underlying t with
 | some i,some d=>i.size==ti.sz&&i.bytes==ti.bys&&Ps d==ti.ag&&ti.z.length==ti.sz&&U8 d==ti.kd &&
  (match d with | .struct fs=>fs.toList.length==ti.fs.length&&(fs.toList.zip ti.fs).all (fun p=>Jh P p.1 p.2) | _=>ti.fs.isEmpty)&&(match d with | .slice e=>ti.el==some e | _=>ti.el==none)
 | _,_=>false
def I4 (P:Program)(t:Nat)(ti:TI):Bool:=match P.underlying t with
 | some (.map k e)=>(match P.underlying k with | some (.int .i64)=>ti.mv==some e | _=>ti.mv==none)
 | some (.int k)=>ti.mv==none&&(match ti.z with | [.int k' _]=>decide (k=k') | _=>false)
 | _=>ti.mv==none
def Gm (P : Program) (t : Nat) (ti : TI) : Bool := !ti.eqi || (!P.stoodInHeld t && !P.eqGuardType P.depth t && (match P.underlying t with
  | some (.struct fs) => (match fs.toList with
    | [f, g] => f.name != "_" && g.name != "_" && f.offset == 0 && g.offset == 1 && (match P.underlying f.type, P.underlying g.type with | some (.int _), some (.int _) => true | _, _ => false)
    | _ => false)
  | _ => false))
def Xp (ti:TI):Value:=if ti.ag then .agg ti.z.toArray else ti.z.headD undef
structure TypOk (P:Program) (t:Nat) (ti:TI):Prop where
 chk:M7 P t ti=true
 zero:(P.info? t).bind (·.zero)=some (Xp ti)
 one:((ti.ag||ti.sz==1)&&ti.z.all (·.oneCell'))=true
 mp:I4 P t ti=true
 eqs:Gm P t ti=true
def Xn:List (Nat×TI)→Nat→Option TI
 | [],_=>none
 | (t',ti) :: r,t=>match Nat.beq t' t with | true=>some ti | false=>Xn r t
def Zd (P:Program)(T:List (Nat×TI)):Prop:=∀ t ti,Xn T t=some ti→TypOk P t ti
theorem Zd.nil (P:Program):Zd P []:=fun _ _ h=>by cases h
theorem Zd.cons {P:Program}{T:List (Nat×TI)}{t:Nat}{ti:TI}(h:Zd P T)(h1:TypOk P t ti):Zd P ((t,ti) :: T):=fun t' ti' hg=>by
 simp only[Xn] at hg
 split at hg
 ·rename_i e;cases hg;have:t=t':=Nat.eq_of_beq_eq_true e
  subst this;exact h1
 exact h _ _ hg
namespace TypOk
variable {P:Program} {t:Nat} {ti:TI}
theorem parts (h:TypOk P t ti):∃ i d,P.info? t=some i∧P.underlying t=some d∧i.size=ti.sz∧i.bytes=ti.bys∧i.zero=some (Xp ti)∧Ps d=ti.ag∧ti.z.length=ti.sz∧U8 d=ti.kd:=by
 have h1:=h.chk
 have h2:=h.zero
 unfold M7 at h1
 cases hi:P.info? t with
 | none=>rw[hi] at h1;simp at h1
 | some i=>
  cases hd:P.underlying t with
  | none=>rw[hi,hd] at h1;simp at h1
  | some d=>
   rw[hi,hd] at h1
   rw[hi] at h2
   simp only[Bool.and_eq_true,beq_iff_eq] at h1
   obtain⟨⟨⟨⟨⟨⟨a1,a2⟩,a3⟩,a4⟩,a5⟩,a6⟩,a7⟩:=h1
   exact⟨i,d,rfl,rfl,a1,a2,h2,a3,a4,a5⟩
theorem map (h:TypOk P t ti){e:Nat}(he:ti.mv=some e):∃ k,P.underlying t=some (.map k e)∧P.underlying k=some (.int .i64):=by
 have h1:=h.mp
 unfold I4 at h1
 split at h1
 ·rename_i k e' hu
  split at h1
  ·rename_i hk
   have:ti.mv=some e':=by simpa using h1
   rw[he] at this;cases this
   exact⟨k,hu,hk⟩
  rw[he] at h1;simp at h1
 ·rw[he] at h1;simp at h1
 rw[he] at h1;simp at h1
theorem int (h:TypOk P t ti){k:IntKind}{n:Int}(hz:ti.z=[.int k n])(hk:ti.kd=2):P.underlying t=some (.int k):=by
 obtain⟨i,d,_,h2,_,_,_,_,_,h8⟩:=h.parts
 have h1:=h.mp
 rw[←h8] at hk
 cases d <;> simp[U8] at hk
 rename_i k0
 unfold I4 at h1
 rw[h2] at h1
 simp only[hz,Bool.and_eq_true,decide_eq_true_eq] at h1
 rw[h2,h1.2]
theorem zsize (h:TypOk P t ti):(Xp ti).cells.size=ti.sz:=by
 obtain⟨i,d,h1,h2,h3,h4,h5,h6,h7,h8⟩:=h.parts
 have h1:=h.one
 simp only[Bool.and_eq_true,Bool.or_eq_true,beq_iff_eq] at h1
 unfold Xp
 cases hag:ti.ag with
 | true=>simp[Value.cells,h7]
 | false=>
  have hs:ti.sz=1:=by rcases h1.1 with h | h;rw[hag] at h;cases h;exact h
  rw[hs] at h7 ⊢
  match hz:ti.z,h7 with
  | [x],_=>
   have:=h1.2
   rw[hz] at this
   simp only[List.all_cons,List.all_nil,Bool.and_true] at this
   cases x <;> first | rfl | (simp[Value.oneCell'] at this)
theorem field (h:TypOk P t ti){f off sz:Nat}{ag:Bool}(hf:ti.fs[f]?=some (off,sz,ag)):
  ∃ fs fd fi d,P.underlying t=some (.struct fs)∧fs[f]?=some fd∧fd.offset=off∧P.info? fd.type=some fi∧fi.size=sz∧0<sz∧P.underlying fd.type=some d∧Ps d=ag:=by
 have h1:=h.chk
 unfold M7 at h1
 cases hi:P.info? t with
 | none=>rw[hi] at h1;simp at h1
 | some i=>
  cases hd:P.underlying t with
  | none=>rw[hi,hd] at h1;simp at h1
  | some d=>
   rw[hi,hd] at h1
   simp only[Bool.and_eq_true,beq_iff_eq] at h1
   obtain⟨⟨⟨⟨⟨⟨a1,a2⟩,a3⟩,a4⟩,a5⟩,a6⟩,a7⟩:=h1
   cases d with
   | struct fs=>
    simp only[Bool.and_eq_true,beq_iff_eq,List.all_eq_true] at a6
    obtain⟨b1,b2⟩:=a6
    have hlt:f<ti.fs.length:=by
     rcases Nat.lt_or_ge f ti.fs.length with h' | h'
     ·exact h'
     rw[List.getElem?_eq_none h'] at hf;cases hf
    have hlt2:f<fs.toList.length:=by omega
    have hz:(fs.toList[f],ti.fs[f])∈fs.toList.zip ti.fs:=by
     have hl:f<(fs.toList.zip ti.fs).length:=by rw[List.length_zip];omega
     have:=List.getElem_mem hl
     rwa [List.getElem_zip] at this
    have hc:=b2 _ hz
    have hfe:ti.fs[f]=(off,sz,ag):=by rw[List.getElem?_eq_getElem hlt] at hf;exact Option.some.inj hf
    rw[hfe] at hc
    simp only[Jh,Bool.and_eq_true,beq_iff_eq,decide_eq_true_eq] at hc
    obtain⟨⟨⟨c1,c2⟩,c3⟩,c4⟩:=hc
    refine⟨fs,fs.toList[f],?_⟩
    cases hfi:P.info? (fs.toList[f]).type with
    | none=>rw[hfi] at c2;simp at c2
    | some fi=>
     cases hfd:P.underlying (fs.toList[f]).type with
     | none=>rw[hfd] at c4;simp at c4
     | some d=>
      rw[hfi] at c2;rw[hfd] at c4
      simp only[beq_iff_eq] at c2 c4
      exact⟨fi,d,rfl,by rw[←Array.getElem?_toList,List.getElem?_eq_getElem hlt2],c1,rfl,c2,c3,rfl,c4⟩
   | _=>simp at a6;rw[a6] at hf;simp at hf
theorem slice (h:TypOk P t ti){e:Nat}(he:ti.el=some e):P.underlying t=some (.slice e):=by
 have h1:=h.chk
 unfold M7 at h1
 cases hi:P.info? t with
 | none=>rw[hi] at h1;simp at h1
 | some i=>
  cases hd:P.underlying t with
  | none=>rw[hi,hd] at h1;simp at h1
  | some d=>
   rw[hi,hd] at h1
   simp only[Bool.and_eq_true,beq_iff_eq] at h1
   obtain⟨_,a7⟩:=h1
   cases d with
   | slice e'=>simp at a7;rw[a7] at he;cases he;rfl
   | _=>simp at a7;rw[a7] at he;cases he
end TypOk
def ev (σ:List (Key×D)):Operand→Option D
 | .tmp x=>get σ (.t x)
 | .const v=>some (.v v)
 | .func f=>some (.fn f [])
 | .global _=>none
def D.one:D→Bool
 | .v x=>x.oneCell'
 | .sl _ _ _=>true
 | .p _ _=>true
 | .q _=>true
 | .fn _ _=>true
 | .o _=>true
 | .mo _=>true
 | .cl _ _=>true
 | .ps _ _=>true
 | .pr _ _ _ _ _=>true
 | .pt _ _ _ _=>true
 | _=>false
def WP (ti:TI):D→Option (List D)
 | .ag l=>if ti.ag&&l.length==ti.sz&&l.all D.one then some l else none
 | d=>if !ti.ag&&ti.sz==1&&d.one then some [d] else none
def cellsAt (σ:List (Key×D))(k:Nat):Nat→Nat→Option (List D)
 | _,0=>some []
 | o,n+1=>match get σ (.c k o) with
  | some d=>(cellsAt σ k (o+1) n).map (d :: ·)
  | none=>none
def WI (ti:TI)(l:List D):Option D:=if ti.ag then (if l.length==ti.sz then some (.ag l) else none) else match l with | [d]=>some d | _=>none
def IS (op:BinOp)(k:IntKind)(a b:Int):Option D:=match op with
 | .add=>some (.v (.int k (k.wrap (a+b))))
 | .sub=>some (.v (.int k (k.wrap (a-b))))
 | .mul=>some (.v (.int k (k.wrap (a * b))))
 | .eql=>some (.v (.bool (a==b)))
 | .neq=>some (.v (.bool (a != b)))
 | .lss=>some (.v (.bool (a<b)))
 | .leq=>some (.v (.bool (a≤b)))
 | .gtr=>some (.v (.bool (a>b)))
 | .geq=>some (.v (.bool (a≥b)))
 | .shr=>if b=1 then some (.v (.int k (a.fdiv 2))) else none
 | _=>none
def LG (op:BinOp)(b:Bool):Option D:=match op with
 | .eql=>some (.v (.bool b))
 | .neq=>some (.v (.bool (!b)))
 | _=>none
def Kh (ti:TI)(op:BinOp)(x y:D):Option D:=match x,y with
 | .v (.int k a),.v (.int k' b)=>if k=k' then IS op k a b else none
 | .v (.bool a),.v (.bool b)=>if ti.kd==1 then LG op (a==b) else none
 | .p _ _,.v (.pointer none)=>if ti.kd==4 then LG op false else none
 | .q _,.v (.pointer none)=>if ti.kd==4 then LG op false else none
 | .o _,.v (.pointer none)=>if ti.kd==4 then LG op false else none
 | .v (.pointer (some _)),.v (.pointer none)=>if ti.kd==4 then LG op false else none
 | .v (.pointer none),.v (.pointer none)=>if ti.kd==4 then LG op true else none
 | .sl _ (_ :: _) _,.v (.slice none 0 0)=>if ti.kd==5 then LG op false else none
 | .v (.slice x _ _),.v (.slice none 0 0)=>if ti.kd==5 then LG op x.isNone else none
 | .ag [.v (.int .i64 a),.v (.int .i64 b)],.ag [.v (.int .i64 c),.v (.int .i64 d)]=>if ti.eqi then LG op (a==c&&b==d) else none
 | _,_=>none
def G4 (op:UnOp)(x:D):Option D:=match op,x with
 | .not,.v (.bool b)=>some (.v (.bool (!b)))
 | .neg,.v (.int k a)=>some (.v (.int k (k.wrap (0-a))))
 | _,_=>none
def evs (σ:List (Key×D)):List Operand→Option (List D)
 | []=>some []
 | x :: r=>match ev σ x with
  | some d=>(evs σ r).map (d :: ·)
  | none=>none
def QH (sz:Nat)(ag:Bool)(d:D):Option (List D):=if ag then (match d with | .ag ds=>if ds.length==sz then some ds else none | _=>none) else if sz==1&&d.one then some [d] else none
def TR (ti:TI)(l:List D):List (Nat×D)→Option (List D)
 | []=>some l
 | (f,d) :: r=>match ti.fs[f]? with
  | none=>none
  | some (off,sz,ag)=>match QH sz ag d with
   | none=>none
   | some ds=>if off+sz≤l.length then TR ti (l.take off++ds++l.drop (off+sz)) r else none
section
variable {P:Program} {T:List (Nat×TI)} {cx:Cx} {Fr Fr':Nat→Prop} {m m':Mp} {Im Im':Nat→Nat→Prop} {w w':World} {a:Act} {σ σ':List (Key×D)}
theorem St.ev (h:St cx Fr m Im w a σ){x:Operand}{d:D}(hx:ev σ x=some d):Yz m Im w (a.eval x) d:=by
 cases x with
 | tmp x=>exact h.tm x d hx
 | const v=>cases hx;exact .v v
 | func f=>cases hx;exact .fn f [] [] rfl fun i h=>absurd h (by simp)
 | global g=>cases hx
theorem Yz.one {x:Value}{d:D}(h:Yz m Im w x d)(hd:d.one=true):x.oneCell'=true:=by
 cases h with
 | v=>exact hd
 | ag=>cases hd
 | tu=>cases hd
 | _=>rfl
theorem YU.one {xs:List Value}{ds:List D}(h:YU m Im w xs ds)(hd:ds.all D.one=true):∀ v∈xs,v.oneCell'=true:=by
 intro v hv
 rw[ZS] at h
 obtain⟨i,hi,rfl⟩:=List.getElem_of_mem hv
 have:=h.2 i (by omega)
 rw[List.getD_eq_getElem?_getD,List.getElem?_eq_getElem hi] at this
 exact this.one (List.all_eq_true.1 hd _ (List.getElem_mem _))
theorem St.evs (h:St cx Fr m Im w a σ):∀ {xs:List Operand} {ds:List D},evs σ xs=some ds→YU m Im w (xs.map a.eval) ds
 | [],ds,hx=>by cases hx;trivial
 | x :: xs,ds,hx=>by
  simp only[Go.Proofs.YtclihnccilkohaaGreat.evs] at hx
  cases hd:Go.Proofs.YtclihnccilkohaaGreat.ev σ x with
  | none=>rw[hd] at hx;cases hx
  | some d=>
   rw[hd] at hx
   cases hr:Go.Proofs.YtclihnccilkohaaGreat.evs σ xs with
   | none=>rw[hr] at hx;cases hx
   | some ds'=>
    rw[hr] at hx
    cases hx
    exact⟨h.ev hd,h.evs hr⟩
theorem VY {ti:TI}{x:Value}{d:D}{l:List D}(h:Yz m Im w x d)(hd:WP ti d=some l):∃ cs:List Value,x.cells=cs.toArray∧YU m Im w cs l∧cs.length=ti.sz∧l.all D.one=true∧(ti.ag=true→x=.agg cs.toArray)∧(ti.ag=false→cs=[x]∧l=[d]):=by
 unfold WP at hd
 split at hd
 ·rename_i l'
  split at hd
  ·rename_i hc
   cases hd
   simp only[Bool.and_eq_true,beq_iff_eq] at hc
   obtain⟨cs,rfl,hr⟩:=Wa.1 h
   exact⟨cs,rfl,hr,by rw[(ZS.1 hr).1];exact hc.1.2,hc.2,fun _=>rfl,fun e=>by rw[hc.1.1] at e;cases e⟩
  cases hd
 split at hd
 ·rename_i hc
  cases hd
  simp only[Bool.and_eq_true,beq_iff_eq,Bool.not_eq_true'] at hc
  have h1:=h.one hc.2
  refine⟨[x],?_,⟨h,trivial⟩,by simp[hc.1.2],by simp[hc.2],(fun e=>by rw[hc.1.1] at e;cases e),fun _=>⟨rfl,rfl⟩⟩
  cases x <;> first | rfl | (simp[Value.oneCell'] at h1)
 cases hd
theorem St.cellsAt (h:St cx Fr m Im w a σ){k:Nat}:∀ {n o:Nat} {l:List D},cellsAt σ k o n=some l→l.length=n∧(0<n→∃ b,m.blk k=some b)∧∀ b,m.blk k=some b→∃ cs:List Value,YU m Im w cs l∧∀ i v,cs[i]?=some v→w.cell? ⟨b,o+i,none⟩=some v
 | 0,o,l,hl=>by cases hl;exact⟨rfl,fun h=>absurd h (by simp),fun b hb=>⟨[],trivial,fun i v hv=>by simp at hv⟩⟩
 | n+1,o,l,hl=>by
  simp only[Go.Proofs.YtclihnccilkohaaGreat.cellsAt] at hl
  cases hg:get σ (.c k o) with
  | none=>rw[hg] at hl;cases hl
  | some d=>
   rw[hg] at hl
   cases hr:Go.Proofs.YtclihnccilkohaaGreat.cellsAt σ k (o+1) n with
   | none=>rw[hr] at hl;cases hl
   | some l'=>
    rw[hr] at hl
    cases hl
    obtain⟨b,v,h1,h2,h3⟩:=h.ce k o d hg
    obtain⟨g1,g2,g3⟩:=h.cellsAt hr
    refine⟨by simp[g1],fun _=>⟨b,h1⟩,fun b' hb'=>?_⟩
    rw[h1] at hb';cases hb'
    obtain⟨cs,q1,q2⟩:=g3 b h1
    refine⟨v :: cs,⟨h3,q1⟩,fun i u hu=>?_⟩
    cases i with
    | zero=>cases hu;exact h2
    | succ i=>
     have:=q2 i u (by simpa using hu)
     rw[show o+(i+1)=o+1+i by omega];exact this
theorem YA (b o i:Nat):(⟨b,o,none⟩:Addr).add i=⟨b,o+i,none⟩:=by
 unfold Addr.add;split
 ·subst_vars;rfl
 rfl
theorem Ta {t b o:Nat}{ti:TI}(ht:TypOk P t ti){cs:List Value}(hl:cs.length=ti.sz)(hc:∀ i v,cs[i]?=some v→w.cell? ⟨b,o+i,none⟩=some v){l:List D}(hr:YU m Im w cs l){d:D}(hd:WI ti l=some d):
  ∃ v,(Instr.loadAt t (.pointer (some ⟨b,o,none⟩))).run P w=.ok v w∧Yz m Im w v d:=by
 obtain⟨i,dd,h1,h2,h3,h4,h5,h6,h7,h8⟩:=ht.parts
 unfold WI at hd
 cases hag:ti.ag with
 | true=>
  simp only[hag,if_true] at hd
  split at hd
  ·cases hd
   refine⟨.agg cs.toArray,?_,Wa.2 ⟨cs,rfl,hr⟩⟩
   have hlc:=run_loadCells_list (P:=P) (w:=w) ⟨b,o,none⟩ cs fun j v hv=>by rw[YA];exact hc j v hv
   have hag2:(isAgg t).run P w=.ok true w:=by
    unfold isAgg
    rw[hag] at h6
    cases dd <;> simp[Ps] at h6 <;> simp[run_underlying h2]
   simp[Instr.loadAt,Instr.sureAddr,loadVar,hag2,sizeOf,typeInfo,h1,h3,←hl,hlc]
  cases hd
 | false=>
  simp only[hag,if_false,Bool.false_eq_true] at hd
  split at hd
  ·rename_i d'
   cases hd
   cases cs with
   | nil=>exact hr.elim
   | cons v cs=>
    refine⟨v,?_,hr.1⟩
    have hcv:=hc 0 v rfl
    simp only[Nat.add_zero] at hcv
    have hag2:(isAgg t).run P w=.ok false w:=by
     unfold isAgg
     rw[hag] at h6
     cases dd <;> simp[Ps] at h6 <;> simp[run_underlying h2]
    simp[Instr.loadAt,Instr.sureAddr,loadVar,hag2,hcv]
  cases hd
end
def K8 (T:List (Nat×TI))(σ:List (Key×D))(t:Nat)(x:D):Option D:=match Xn T t with
 | none=>none
 | some ti=>match x with
  | .p k o=>(cellsAt σ k o ti.sz).bind (WI ti)
  | .q l=>if ti.sz≤l.length then WI ti (l.take ti.sz) else none
  | .pr g len n i j=>match get σ (.r g) with
   | some (.rp _ n' l)=>if n'=n∧l.length=len∧i<len∧j+ti.sz≤n then WI ti (((l.getD i []).drop j).take ti.sz) else none
   | _=>none
  | _=>none
def SW (T:List (Nat×TI))(t:Nat)(x:D)(f:Nat):Option D:=match Xn T t with
 | none=>none
 | some ti=>match x,ti.fs[f]? with
  | .ag l,some (off,sz,ag)=>if off+sz≤l.length then (if ag then some (.ag ((l.drop off).take sz)) else l[off]?) else none
  | _,_=>none
def SP (T:List (Nat×TI))(t:Nat)(x:D)(f:Nat):Option D:=match Xn T t with
 | none=>none
 | some ti=>match x,ti.fs[f]? with
  | .p k o,some (off,_,_)=>some (.p k (o+off))
  | .q l,some (off,_,_)=>if off≤l.length then some (.q (l.drop off)) else none
  | .pr g len n i j,some (off,_,_)=>some (.pr g len n i (j+off))
  | _,_=>none
def Sn (T:List (Nat×TI))(t:Nat)(x:D)(lo hi mx:Option Int):Option D:=match Xn T t with
 | none=>none
 | some ti=>match ti.el with
  | none=>none
  | some E=>match Xn T E with
   | none=>none
   | some te=>match x with
    | .sl n l _=>if te.sz=n∧0≤lo.getD 0∧lo.getD 0≤hi.getD l.length∧hi.getD l.length≤mx.getD l.length∧(mx.isSome→hi.isSome)∧mx.getD l.length≤l.length then (match mx with
     | none=>some (.sl n ((l.take (hi.getD l.length).toNat).drop (lo.getD 0).toNat) none)
     | some m=>if m=hi.getD l.length then some (.cl n ((l.take (hi.getD l.length).toNat).drop (lo.getD 0).toNat)) else none) else none
    | .v (.slice none 0 0)=>if lo.getD 0=0∧hi.getD 0=0∧mx.getD 0=0∧(mx.isSome→hi.isSome) then some (.v (.slice none 0 0)) else none
    | .ps g len=>match lo,hi,mx with
     | some i,none,none=>if 0<te.sz∧0≤i∧i≤(len:Int) then some (.pt g len te.sz i.toNat) else none
     | _,_,_=>none
    | _=>none
def S9 (T:List (Nat×TI))(t:Nat)(x y:D):Option D:=match Xn T t with
 | none=>none
 | some ti=>match ti.el with
  | none=>none
  | some e=>match Xn T e,x,y with
   | some te,.sl n l _,.v (.int _ i)=>if te.sz==n&&decide (0<n) then (if 0≤i∧i<(l.length:Int) then some (.q (l.getD i.toNat [])) else none) else none
   | some te,.ps g len,.v (.int _ i)=>if 0<te.sz∧0≤i∧i<(len:Int) then some (.pr g len te.sz i.toNat 0) else none
   | _,_,_=>none
def Lc (T:List (Nat×TI))(t:Nat)(x:D):Option D:=match Xn T t with
 | none=>none
 | some ti=>match x with
  | .sl _ l _=>if ti.kd==5 then some (.v (.int .i64 l.length)) else none
  | .v (.slice _ n _)=>if ti.kd==5 then some (.v (.int .i64 n)) else none
  | .v (.string s)=>if ti.kd==3 then some (.v (.int .i64 s.size)) else none
  | .ps _ len=>if ti.kd==5 then some (.v (.int .i64 len)) else none
  | _=>none
def TZ (T:List (Nat×TI))(σ:List (Key×D))(t:Nat)(parts:List (Nat×Operand)):Option D:=match Xn T t with
 | none=>none
 | some ti=>if ti.kd==6 then (match evs σ (parts.map (·.2)) with
  | none=>none
  | some ds=>(TR ti (ti.z.map .v) ((parts.map (·.1)).zip ds)).map .ag) else none
section
variable {P:Program} {T:List (Nat×TI)} {cx:Cx} {Fr Fr':Nat→Prop} {m m':Mp} {Im Im':Nat→Nat→Prop} {w w':World} {a:Act} {σ σ':List (Key×D)}
theorem YU.take {xs:List Value}{ds:List D}(h:YU m Im w xs ds)(n:Nat):YU m Im w (xs.take n) (ds.take n):=by
 rw[ZS] at h ⊢
 refine⟨by simp[h.1],fun i hi=>?_⟩
 have hi':i<n∧i<ds.length:=by simp at hi;omega
 have:=h.2 i hi'.2
 rw[List.getElem_take]
 rw[List.getD_eq_getElem?_getD] at this ⊢
 rw[List.getElem?_take,if_pos hi'.1];exact this
theorem YU.drop {xs:List Value}{ds:List D}(h:YU m Im w xs ds)(n:Nat):YU m Im w (xs.drop n) (ds.drop n):=by
 rw[ZS] at h ⊢
 refine⟨by simp[h.1],fun i hi=>?_⟩
 have hi':n+i<ds.length:=by simp at hi;omega
 have:=h.2 (n+i) hi'
 rw[List.getElem_drop]
 rw[List.getD_eq_getElem?_getD] at this ⊢
 rw[List.getElem?_drop];exact this
theorem YU.append {xs ys:List Value}{ds es:List D}(h:YU m Im w xs ds)(h':YU m Im w ys es):YU m Im w (xs++ys) (ds++es):=by
 induction xs generalizing ds with
 | nil=>cases ds with
  | nil=>exact h'
  | cons d ds=>exact h.elim
 | cons x xs ih=>cases ds with
  | nil=>exact h.elim
  | cons d ds=>exact⟨h.1,ih h.2⟩
theorem QK {bl off:Nat}{x:Value}{l:List D}(h:Yz m Im w x (.q l)):∃ b o,x=.pointer (some ⟨b,o,none⟩)∧∃ cs:List Value,YU m Im w cs l∧∀ i v,cs[i]?=some v→w.cell? ⟨b,o+i,none⟩=some v∧Im b (o+i):=by
 cases h with
 | q b o X l h hr=>
  refine⟨b,o,rfl,(List.range l.length).map X,ZS.2 ⟨by simp,fun i hi=>?_⟩,fun i v hv=>?_⟩
  ·have:=hr i hi
   simpa[hi] using this
  rw[List.getElem?_map] at hv
  by_cases hi:i<l.length
  ·rw[List.getElem?_range hi] at hv
   cases hv
   exact h i hi
  rw[List.getElem?_eq_none (by simpa using hi)] at hv;cases hv
theorem GP {b o:Nat}{cs:List Value}{l:List D}(hr:YU m Im w cs l)(hc:∀ i v,cs[i]?=some v→w.cell? ⟨b,o+i,none⟩=some v∧Im b (o+i)):Yz m Im w (.pointer (some ⟨b,o,none⟩)) (.q l):=by
 rw[ZS] at hr
 refine .q b o (fun i=>cs.getD i undef) l (fun i hi=>?_) fun i hi=>hr.2 i hi
 have hi':i<cs.length:=by omega
 have:=hc i cs[i] (List.getElem?_eq_getElem hi')
 simpa[List.getD_eq_getElem?_getD,List.getElem?_eq_getElem hi'] using this
theorem Re {x:Value}{k o:Nat}(h:Yz m Im w x (.p k o)):∃ b,m.blk k=some b∧x=.pointer (some ⟨b,o,none⟩):=by
 cases h with
 | p k o b h=>exact⟨b,h,rfl⟩
theorem Nw (hT:Zd P T)(h:St cx Fr m Im w a σ){t:Nat}{x:Value}{d e:D}(hx:Yz m Im w x d)(hd:K8 T σ t d=some e):∃ v,(Instr.loadAt t x).run P w=.ok v w∧Yz m Im w v e:=by
 unfold K8 at hd
 split at hd
 ·cases hd
 rename_i ti hti
 split at hd
 ·rename_i k o
  obtain⟨b,hb,rfl⟩:=Re hx
  cases hc:cellsAt σ k o ti.sz with
  | none=>rw[hc] at hd;cases hd
  | some l=>
   rw[hc] at hd
   obtain⟨h1,_,h2⟩:=h.cellsAt hc
   obtain⟨cs,q1,q2⟩:=h2 b hb
   exact Ta (hT _ _ hti) (by rw[(ZS.1 q1).1,h1]) q2 q1 hd
 ·rename_i l
  split at hd
  ·rename_i hle
   obtain⟨b,o,rfl,cs,q1,q2⟩:=QK (bl:=0) (off:=0) hx
   refine Ta (hT _ _ hti) (cs:=cs.take ti.sz) (by simp[(ZS.1 q1).1,hle]) (fun i v hv=>?_) (q1.take _) hd
   rw[List.getElem?_take] at hv
   split at hv
   ·exact(q2 i v hv).1
   cases hv
  cases hd
 ·rename_i g len n i0 j0
  split at hd
  ·rename_i E' n' l hg
   split at hd
   ·rename_i hc
    obtain⟨rfl,hlen,hi0,hj0⟩:=hc
    obtain⟨R,hR,hro⟩:=h.ro g _ hg
    cases hx with
    | pr _ _ _ _ _ b hh=>
    cases hro with
    | rp l xs hl hn hown h1 hr hni=>
    obtain⟨R',p1,p2,p3⟩:=hh
    rw[hR] at p1;cases p1
    have hob:=p3 (by omega)
    have hil:i0<l.length:=by omega
    have hrow:=hn i0 hil
    have hxl:=hown.1
    have hle:i0 * R.n+R.n≤xs.length:=by
     have:(i0+1) * R.n≤R.len * R.n:=Nat.mul_le_mul_right _ (by omega)
     rw[Nat.succ_mul] at this;omega
    have hgd:l.getD i0 []=l[i0]:=by rw[List.getD_eq_getElem?_getD,List.getElem?_eq_getElem hil];rfl
    rw[hgd] at hd
    refine Ta (hT _ _ hti) (cs:=(xs.drop (i0 * R.n+j0)).take ti.sz) (by simp;omega) (fun o v hv=>?_) (ZS.2 ⟨by simp;omega,fun o ho=>?_⟩) hd
    ·rw[List.getElem?_take] at hv
     split at hv
     ·rw[List.getElem?_drop] at hv
      have:=hown.cells hob _ _ hv
      rw[XB] at this;exact this
     cases hv
    have ho2:o<ti.sz∧j0+o<l[i0].length:=by simp at ho;omega
    have h5:=hr i0 hil (j0+o) ho2.2
    have e1:((l[i0].drop j0).take ti.sz)[o]=l[i0][j0+o]:=by simp
    rw[e1]
    have e2:((xs.drop (i0 * R.n+j0)).take ti.sz).getD o undef=xs.getD (i0 * R.n+(j0+o)) undef:=by
     simp only[List.getD_eq_getElem?_getD,List.getElem?_take,ho2.1,if_true,List.getElem?_drop,Nat.add_assoc]
    rw[e2];exact h5
   cases hd
  cases hd
 cases hd
theorem X3 {t:Nat}{i:TypeInfo}(h:P.info? t=some i)(w:World):(sizeOf t).run P w=.ok i.size w:=by simp[sizeOf,typeInfo,h]
theorem QS {t:Nat}{d:TypeDesc}(h:P.underlying t=some d)(w:World):(isAgg t).run P w=.ok (Ps d) w:=by
 unfold isAgg;cases d <;> simp[Ps,run_underlying h]
theorem Oh (hT:Zd P T){t:Nat}{x:Value}{d e:D}{f:Nat}(hx:Yz m Im w x d)(hd:SW T t d f=some e):∃ v,(Instr.field t x f).run P w=.ok v w∧Yz m Im w v e:=by
 unfold SW at hd
 split at hd
 ·cases hd
 rename_i ti hti
 split at hd
 ·rename_i l off sz ag hf
  split at hd
  ·rename_i hle
   obtain⟨fs,fd,fi,fdd,g1,g2,g3,g4,g5,g6,g7,g8⟩:=(hT _ _ hti).field hf
   obtain⟨cs,rfl,hr⟩:=Wa.1 hx
   have hlen:=(ZS.1 hr).1
   cases ag with
   | true=>
    simp only[if_true] at hd
    cases hd
    refine⟨.agg ((cs.drop off).take sz).toArray,?_,Wa.2 ⟨_,rfl,(hr.drop off).take sz⟩⟩
    have:(cs.toArray.extract off (off+sz))=((cs.drop off).take sz).toArray:=by
     apply Array.ext'
     simp[List.extract_eq_take_drop]
    simp[Instr.field,run_underlying g1,g2,asAgg,part,QS g7,g8,X3 g4,g5,g3,this]
   | false=>
    simp only[if_false,Bool.false_eq_true] at hd
    have hlt:off<l.length:=by omega
    rw[List.getElem?_eq_getElem hlt] at hd
    cases hd
    have hlt2:off<cs.length:=by omega
    refine⟨cs[off],?_,?_⟩
    ·simp[Instr.field,run_underlying g1,g2,asAgg,part,QS g7,g8,g3,hlt2]
    have:=(ZS.1 hr).2 off hlt
    simpa[List.getD_eq_getElem?_getD,List.getElem?_eq_getElem hlt2] using this
  cases hd
 cases hd
theorem Od (hT:Zd P T){t:Nat}{x:Value}{d e:D}{f:Nat}(hx:Yz m Im w x d)(hd:SP T t d f=some e):∃ v,(Instr.fieldAt t x f).run P w=.ok v w∧Yz m Im w v e:=by
 unfold SP at hd
 split at hd
 ·cases hd
 rename_i ti hti
 split at hd
 ·rename_i k o off sz ag hf
  cases hd
  obtain⟨fs,fd,fi,fdd,g1,g2,g3,g4,g5,g6,g7,g8⟩:=(hT _ _ hti).field hf
  obtain⟨b,hb,rfl⟩:=Re hx
  have hz:¬ sz=0:=by omega
  exact⟨.pointer (some ⟨b,o+off,none⟩),by simp[Instr.fieldAt,run_underlying g1,g2,Instr.sureAddr,fieldPlace,X3 g4,g5,hz,g3,YA],.p k _ b hb⟩
 ·rename_i l off sz ag hf
  split at hd
  ·rename_i hle
   cases hd
   obtain⟨fs,fd,fi,fdd,g1,g2,g3,g4,g5,g6,g7,g8⟩:=(hT _ _ hti).field hf
   obtain⟨b,o,rfl,cs,q1,q2⟩:=QK (bl:=0) (off:=0) hx
   have hz:¬ sz=0:=by omega
   refine⟨.pointer (some ⟨b,o+off,none⟩),by simp[Instr.fieldAt,run_underlying g1,g2,Instr.sureAddr,fieldPlace,X3 g4,g5,hz,g3,YA],GP (q1.drop off) fun i v hv=>?_⟩
   rw[List.getElem?_drop] at hv
   have:=q2 _ v hv
   rw[show o+off+i=o+(off+i) by omega];exact this
  cases hd
 ·rename_i g len n i0 j0 off sz ag hf
  cases hd
  obtain⟨fs,fd,fi,fdd,g1,g2,g3,g4,g5,g6,g7,g8⟩:=(hT _ _ hti).field hf
  cases hx with
  | pr _ _ _ _ _ b hh=>
  have hz:¬ sz=0:=by omega
  exact⟨.pointer (some ⟨b,i0 * n+(j0+off),none⟩),by simp[Instr.fieldAt,run_underlying g1,g2,Instr.sureAddr,fieldPlace,X3 g4,g5,hz,g3,YA,Nat.add_assoc],.pr g len n i0 (j0+off) b hh⟩
 cases hd
theorem Om (hT:Zd P T){t:Nat}{x y:Value}{d e f:D}(hx:Yz m Im w x d)(hy:Yz m Im w y f)(hd:S9 T t d f=some e):∃ v,(Instr.indexAt t x y).run P w=.ok v w∧Yz m Im w v e:=by
 unfold S9 at hd
 split at hd
 ·cases hd
 rename_i ti hti
 split at hd
 ·cases hd
 rename_i el hel
 split at hd
 ·rename_i te n l g k i hte
  split at hd
  ·rename_i hn
   simp only[Bool.and_eq_true,beq_iff_eq,decide_eq_true_eq] at hn
   split at hd
   ·rename_i hi
    cases hd
    obtain⟨ei,ed,e1,e2,e3,_⟩:=(hT _ _ hte).parts
    have hs:=(hT _ _ hti).slice hel
    have:=Yr.1 hy;subst this
    cases hx with
    | sl a c bl off n X l g h1 ha hc hn2 ho hr hg=>
     have hlt:i.toNat<l.length:=by omega
     obtain rfl:=ha (by omega)
     refine⟨.pointer (some ⟨bl,off+i.toNat * n,none⟩),?_,?_⟩
     ·simp[Instr.indexAt,asIntOf,run_underlying hs,hi.1,hi.2,X3 e1,e3,hn.1,YA]
     rw[List.getD_eq_getElem?_getD,List.getElem?_eq_getElem hlt]
     refine .q bl _ (X i.toNat) _ (fun j hj=>?_) fun j hj=>hr _ hlt j hj
     have:=hn2 _ hlt
     simp only[Option.getD_some] at hj
     exact hc _ j hlt (by omega)
   cases hd
  cases hd
 ·rename_i te g len k i hte
  split at hd
  ·rename_i hi
   cases hd
   obtain⟨ei,ed,e1,e2,e3,_⟩:=(hT _ _ hte).parts
   have hs:=(hT _ _ hti).slice hel
   have:=Yr.1 hy;subst this
   cases hx with
   | ps a c _ _ ha _ hh=>
   obtain⟨b,rfl⟩:=ha (by omega)
   refine⟨.pointer (some ⟨b,i.toNat * te.sz+0,none⟩),?_,.pr g len te.sz i.toNat 0 b ?_⟩
   ·simp[Instr.indexAt,asIntOf,run_underlying hs,hi.2.1,hi.2.2,X3 e1,e3,hi.1,YA]
   obtain⟨R,q1,q2,q3⟩:=hh
   exact⟨R,q1,q2,fun e=>by rw[q3 e];rfl⟩
  cases hd
 cases hd
theorem PK (hT:Zd P T){t:Nat}{x:Value}{d e:D}{lo hi mx:Option Int}{lo' hi' mx':Option Value}(hx:Yz m Im w x d)(hlo:lo'=lo.map (.int .i64))(hhi:hi'=hi.map (.int .i64))(hmx:mx'=mx.map (.int .i64))(hd:Sn T t d lo hi mx=some e):
  ∃ v,(Instr.sliceAt t x lo' hi' mx').run P w=.ok v w∧Yz m Im w v e:=by
 subst hlo hhi hmx
 unfold Sn at hd
 split at hd
 ·cases hd
 rename_i ti hti
 split at hd
 ·cases hd
 rename_i el hel
 split at hd
 ·cases hd
 rename_i te hte
 obtain⟨ei,ed,e1,e2,e3,_⟩:=(hT _ _ hte).parts
 have hs:=(hT _ _ hti).slice hel
 split at hd
 ·rename_i n l g
  split at hd
  ·rename_i hc
   obtain⟨hn,c1,c2,c3,c4⟩:=hc
   suffices key:∃ v,(Instr.sliceAt t x (lo.map (.int .i64)) (hi.map (.int .i64)) (mx.map (.int .i64))).run P w=.ok v w∧Yz m Im w v (.sl n ((l.take (hi.getD l.length).toNat).drop (lo.getD 0).toNat) none) ∧
     (∀ m',mx=some m'→m'=hi.getD l.length→∃ a,v=.slice a ((l.take (hi.getD l.length).toNat).drop (lo.getD 0).toNat).length ((l.take (hi.getD l.length).toNat).drop (lo.getD 0).toNat).length) by
    obtain⟨v,k1,k2,k3⟩:=key
    cases mx with
    | none=>cases hd;exact⟨v,k1,k2⟩
    | some m'=>
     simp only at hd
     split at hd
     ·rename_i hm
      cases hd
      obtain⟨a',rfl⟩:=k3 m' rfl hm
      exact⟨_,k1,.cl a' n _ k2⟩
     cases hd
   clear hd
   cases hx with
   | sl a c bl off n X l g h1 ha hcc hn2 ho hr hg=>
    generalize hlo0:lo.getD 0=lo0 at c1 c2 ⊢
    generalize hhi0:hi.getD (l.length:Int)=hi0 at c2 c3 ⊢
    obtain⟨m0,hm0,hm1,hm2⟩:∃ m0:Nat,(Instr.sliceBounds true l.length c (lo.map (.int .i64)) (hi.map (.int .i64)) (mx.map (.int .i64))).run P w=.ok (lo0.toNat,hi0.toNat,m0) w∧hi0.toNat≤m0∧(∀ m',mx=some m'→m0=m'.toNat):=by
     cases mx with
     | none=>
      refine⟨c,?_,by omega,nofun⟩
      cases hi with
      | none=>
       simp only[Option.getD_none] at hhi0
       cases lo with
       | none=>simp only[Option.getD_none] at hlo0;subst hlo0 hhi0;simp[Instr.sliceBounds]
       | some lo=>simp only[Option.getD_some] at hlo0;subst hlo0 hhi0;simp[Instr.sliceBounds,run_sliceBound,c1,c2]
      | some hi=>
       simp only[Option.getD_some] at hhi0
       subst hhi0
       have b1:(0:Int)≤hi:=by omega
       have b2:hi≤(c:Int):=by omega
       have b3:(hi.toNat:Int)=hi:=by omega
       cases lo with
       | none=>simp only[Option.getD_none] at hlo0;subst hlo0;simp[Instr.sliceBounds,run_sliceBound,b1,b2]
       | some lo=>simp only[Option.getD_some] at hlo0;subst hlo0;simp[Instr.sliceBounds,run_sliceBound,b1,b2,b3,c1,c2]
     | some mx=>
      simp only[Option.getD_some,Option.isSome_some,true_implies] at c3 c4
      refine⟨mx.toNat,?_,by omega,fun m' e=>by cases e;rfl⟩
      cases hi with
      | none=>cases c4.1
      | some hi=>
       simp only[Option.getD_some] at hhi0
       subst hhi0
       have b1:(0:Int)≤hi:=by omega
       have b2:hi≤(mx.toNat:Int):=by omega
       have b3:(hi.toNat:Int)=hi:=by omega
       have b6:=fun c=>run_sliceBound (P:=P) (w:=w) .i64 hi mx.toNat c b1 b2
       have b4:(0:Int)≤mx:=by omega
       have b5:mx≤(c:Int):=by omega
       cases lo with
       | none=>simp only[Option.getD_none] at hlo0;subst hlo0;simp[Instr.sliceBounds,run_sliceBound,b6,b4,b5]
       | some lo=>simp only[Option.getD_some] at hlo0;subst hlo0;simp[Instr.sliceBounds,run_sliceBound,b6,b3,b4,b5,c1,c2]
    have hlen:((l.take hi0.toNat).drop lo0.toNat).length=hi0.toNat-lo0.toNat:=by simp;omega
    have hget:∀ i (h:i<((l.take hi0.toNat).drop lo0.toNat).length),((l.take hi0.toNat).drop lo0.toNat)[i]=l[lo0.toNat+i]'(by rw[hlen] at h;omega):=fun i h=>by simp
    refine⟨.slice (if m0=lo0.toNat then a else a.map (·.add (lo0.toNat * n))) ((l.take hi0.toNat).drop lo0.toNat).length (m0-lo0.toNat),?_,?_,fun m' e1 e2=>?_⟩
    ·rw[hlen]
     simp only[Instr.sliceAt,Sem.run_bind,run_underlying hs,Result.andThen_ok,Instr.slice,hm0,X3 e1,e3,hn,Sem.run_pure]
    ·refine .sl _ _ bl (off+lo0.toNat * n) n (fun i j=>X (lo0.toNat+i) j) _ none ⟨by rw[hlen];omega,by rw[hlen];omega⟩ (fun hpos=>?_) (fun i j hi hj=>?_) (fun i hi=>?_) (fun i j hi hj=>?_) (fun i hi j hj=>?_) fun r e=>by cases e
     ·rw[hlen] at hpos
      rw[if_neg (by omega),ha (by omega)]
      simp[YA]
     ·rw[hlen] at hi
      have:=hcc (lo0.toNat+i) j (by omega) hj
      rw[Nat.add_mul,←Nat.add_assoc] at this
      exact this
     ·rw[hget i hi];exact hn2 _ _
     ·rw[hlen] at hi;exact ho _ j (by omega) hj
     have hh:=hget i hi
     have hj':j<(l[lo0.toNat+i]'(by rw[hlen] at hi;omega)).length:=by rw[←hh];exact hj
     have:=hr (lo0.toNat+i) (by rw[hlen] at hi;omega) j hj'
     simp only[hh];exact this
    have:=hm2 m' e1
    rw[hlen,this,e2]
    exact⟨_,rfl⟩
  cases hd
 ·split at hd
  ·rename_i hc
   cases hd
   have:=Yr.1 hx;subst this
   obtain⟨c1,c2,c3,c4⟩:=hc
   refine⟨.slice none 0 0,?_,.v _⟩
   cases lo <;> cases hi <;> cases mx <;> simp only[Option.getD_none,Option.getD_some] at c1 c2 c3 <;> (try subst c1) <;> (try subst c2) <;> (try subst c3) <;> first | (simp at c4;done) | simp[Instr.sliceAt,Instr.slice,run_underlying hs,Instr.sliceBounds,run_sliceBound,X3 e1]
  cases hd
 ·rename_i g len
  split at hd
  ·rename_i i
   split at hd
   ·rename_i hc
    cases hd
    obtain⟨hz,c1,c2⟩:=hc
    cases hx with
    | ps a c _ _ ha hcap hh=>
    have b1:(Instr.sliceBounds true len c (some (Value.int .i64 i)) none none).run P w=.ok (i.toNat,len,c) w:=by simp[Instr.sliceBounds,run_sliceBound,c1,c2]
    refine⟨.slice (if c=i.toNat then a else a.map (·.add (i.toNat * te.sz))) (len-i.toNat) (c-i.toNat),?_,.pt _ _ g len te.sz i.toNat ?_⟩
    ·simp only[Option.map_some,Option.map_none,Instr.sliceAt,Sem.run_bind,run_underlying hs,Result.andThen_ok,Instr.slice,b1,X3 e1,e3,Sem.run_pure]
    obtain⟨R,q1,q2,q3⟩:=hh
    refine⟨R,q1,q2,fun e hl=>?_⟩
    obtain⟨b,rfl⟩:=ha (by omega)
    refine⟨b,by rw[q3 e];rfl,?_⟩
    rw[if_neg (by omega)]
    simp[YA]
   cases hd
  cases hd
 cases hd
theorem Ld (hT:Zd P T){t ty:Nat}{x:Value}{d e:D}(hx:Yz m Im w x d)(hd:Lc T t d=some e):∃ v,(Builtin.len_ #[t] ty #[x]).run P w=.ok v w∧Yz m Im w v e:=by
 unfold Lc at hd
 split at hd
 ·cases hd
 rename_i ti hti
 obtain⟨i,dd,h1,h2,h3,h4,h5,h6,h7,h8⟩:=(hT _ _ hti).parts
 split at hd
 ·split at hd
  ·rename_i hk
   cases hd
   rw[←h8] at hk
   cases hx with
   | sl a c bl off n X l g _ _ _ _ _ _ _=>
    cases dd <;> simp[U8] at hk
    exact⟨_,by simp[Builtin.len_,run_underlying h2,goInt],.v _⟩
  cases hd
 ·split at hd
  ·rename_i hk
   cases hd
   rw[←h8] at hk
   have:=Yr.1 hx;subst this
   cases dd <;> simp[U8] at hk
   exact⟨_,by simp[Builtin.len_,run_underlying h2,goInt],.v _⟩
  cases hd
 ·split at hd
  ·rename_i hk
   cases hd
   rw[←h8] at hk
   have:=Yr.1 hx;subst this
   cases dd <;> simp[U8] at hk
   exact⟨_,by simp[Builtin.len_,run_underlying h2,goInt],.v _⟩
  cases hd
 ·split at hd
  ·rename_i hk
   cases hd
   rw[←h8] at hk
   cases hx with
   | ps a c _ _ ha _ hh=>
    cases dd <;> simp[U8] at hk
    exact⟨_,by simp[Builtin.len_,run_underlying h2,goInt],.v _⟩
  cases hd
 cases hd
end
theorem Ph (off:Nat):∀ (vs:List Value) (k:Nat) (cs:List Value),off+k+vs.length≤cs.length →
  (vs.zipIdx k).foldl (fun(cs:Array Value) (p:Value×Nat)=>cs.setIfInBounds (off+p.2) p.1) cs.toArray=(cs.take (off+k)++vs++cs.drop (off+k+vs.length)).toArray
 | [],k,cs,h=>by simp
 | v :: vs,k,cs,h=>by
  simp only[List.length_cons] at h
  rw[List.zipIdx_cons,List.foldl_cons]
  have e:cs.toArray.setIfInBounds (off+k) v=(cs.take (off+k)++v :: cs.drop (off+k+1)).toArray:=by
   rw[List.setIfInBounds_toArray,List.set_eq_take_append_cons_drop,if_pos (by omega)]
  rw[e,Ph off vs (k+1) _ (by simp;omega)]
  congr 1
  have l1:(cs.take (off+k)).length=off+k:=by simp;omega
  rw[show off+(k+1)=(cs.take (off+k)).length+1 by omega]
  rw[List.take_length_add_append,show (cs.take (off+k)).length+1+vs.length=(cs.take (off+k)).length+(1+vs.length) by omega,List.drop_length_add_append]
  simp[List.drop_drop,Nat.add_comm,Nat.add_left_comm]
theorem Pe {place:Nat→Option (Nat×Nat)}{i off sz:Nat}{v:Value}{vs cs:List Value}{rest:List (Nat×Value)}(hp:place i=some (off,sz))(hv:v.cells=vs.toArray)(hl:vs.length=sz)(hle:off+sz≤cs.length):
  Instr.fill place cs.toArray ((i,v) :: rest)=Instr.fill place (cs.take off++vs++cs.drop (off+sz)).toArray rest:=by
 rw[Instr.fill]
 simp only[hp,hv,List.size_toArray,hl]
 rw[if_neg (by simp;omega)]
 have:=Ph off vs 0 cs (by omega)
 simp only[Nat.add_zero,hl] at this
 rw[←this]
 congr 1
 simp[←Array.foldl_toList]
namespace TypOk
variable {P:Program} {t:Nat} {ti:TI}
theorem places (h:TypOk P t ti)(hk:ti.kd=6):∃ fs it,P.info? t=some it∧P.underlying t=some (.struct fs)∧it.zero=some (Xp ti)∧ti.ag=true∧fs.toList.mapM (fun f=>(P.info? f.type).map fun i=>(f.offset,i.size))=some (ti.fs.map fun e=>(e.1,e.2.1)):=by
 obtain⟨i,d,h1,h2,h3,h4,h5,h6,h7,h8⟩:=h.parts
 have hc:=h.chk
 unfold M7 at hc
 rw[h1,h2] at hc
 simp only[Bool.and_eq_true,beq_iff_eq] at hc
 obtain⟨⟨_,a6⟩,_⟩:=hc
 cases d with
 | struct fs=>
  refine⟨fs,i,h1,h2,h5,h6.symm,?_⟩
  simp only[Bool.and_eq_true,beq_iff_eq] at a6
  obtain⟨b1,b2⟩:=a6
  have key:∀ (l:List Field) (es:List (Nat×Nat×Bool)),l.length=es.length→(l.zip es).all (fun p=>Jh P p.1 p.2)=true→l.mapM (fun f=>(P.info? f.type).map fun i=>(f.offset,i.size))=some (es.map fun e=>(e.1,e.2.1)):=by
   intro l
   induction l with
   | nil=>intro es hl _;cases es;rfl;cases hl
   | cons f l ih=>
    intro es hl hall
    cases es with
    | nil=>cases hl
    | cons e es=>
     simp only[List.zip_cons_cons,List.all_cons,Bool.and_eq_true] at hall
     have h1:=ih es (by simpa using hl) hall.2
     have h2:=hall.1
     simp only[Jh,Bool.and_eq_true,beq_iff_eq,decide_eq_true_eq] at h2
     obtain⟨⟨⟨c1,c2⟩,_⟩,_⟩:=h2
     cases hfi:P.info? f.type with
     | none=>rw[hfi] at c2;simp at c2
     | some fi=>
      rw[hfi] at c2
      simp only[beq_iff_eq] at c2
      simp[List.mapM_cons,hfi,h1,c1,c2]
  exact key _ _ b1 b2
 | _=>simp[U8] at h8;omega
end TypOk
section
variable {P:Program} {T:List (Nat×TI)} {cx:Cx} {Fr Fr':Nat→Prop} {m m':Mp} {Im Im':Nat→Nat→Prop} {w w':World} {a:Act} {σ σ':List (Key×D)}
theorem RS {ti:TI}{place:Nat→Option (Nat×Nat)}(hp:∀ f off sz ag,ti.fs[f]?=some (off,sz,ag)→place f=some (off,sz)):∀ (ps:List (Nat×Value)) (ds:List (Nat×D)) (cs:List Value) (l l':List D),ps.map (·.1)=ds.map (·.1)→YU m Im w (ps.map (·.2)) (ds.map (·.2))→YU m Im w cs l→TR ti l ds=some l' →
  ∃ cs',Instr.fill place cs.toArray ps=some cs'.toArray∧YU m Im w cs' l'
 | [],[],cs,l,l',_,_,hr,hf=>by cases hf;exact⟨cs,rfl,hr⟩
 | [],_ :: _,_,_,_,h,_,_,_=>by cases h
 | _ :: _,[],_,_,_,h,_,_,_=>by cases h
 | (i,v) :: ps,(j,d) :: ds,cs,l,l',he,hv,hr,hf=>by
  simp only[List.map_cons,List.cons.injEq] at he
  obtain⟨rfl,he⟩:=he
  obtain⟨hv1,hv2⟩:=hv
  simp only[TR] at hf
  split at hf
  ·cases hf
  rename_i off sz ag hfs
  split at hf
  ·cases hf
  rename_i e hds
  split at hf
  ·rename_i hle
   have hcl:cs.length=l.length:=(ZS.1 hr).1
   have key:∃ vs:List Value,v.cells=vs.toArray∧vs.length=sz∧YU m Im w vs e:=by
    unfold QH at hds
    cases ag with
    | true=>
     simp only[if_true] at hds
     split at hds
     ·split at hds
      ·rename_i hl
       cases hds
       obtain⟨vs,rfl,hr'⟩:=Wa.1 hv1
       exact⟨vs,rfl,by rw[(ZS.1 hr').1];simpa using hl,hr'⟩
      cases hds
     cases hds
    | false=>
     simp only[if_false,Bool.false_eq_true] at hds
     split at hds
     ·rename_i hc
      cases hds
      simp only[Bool.and_eq_true,beq_iff_eq] at hc
      have h1:=hv1.one hc.2
      refine⟨[v],?_,by simp[hc.1],hv1,trivial⟩
      cases v <;> first | rfl | (simp[Value.oneCell'] at h1)
     cases hds
   obtain⟨vs,q1,q2,q3⟩:=key
   rw[Pe (hp _ _ _ _ hfs) q1 q2 (by omega)]
   exact RS hp ps ds _ _ _ he hv2 (((hr.take off).append q3).append (hr.drop (off+sz))) hf
  cases hf
theorem PD:∀ (l:List Value),YU m Im w l (l.map .v)
 | []=>trivial
 | x :: l=>⟨.v x,PD l⟩
theorem O7 (hT:Zd P T)(h:St cx Fr m Im w a σ){t:Nat}{parts:Array (Nat×Operand)}{e:D}(hd:TZ T σ t parts.toList=some e):∃ v,(Instr.build t (parts.map fun(i,x)=>(i,a.eval x))).run P w=.ok v w∧Yz m Im w v e:=by
 unfold TZ at hd
 split at hd
 ·cases hd
 rename_i ti hti
 split at hd
 ·rename_i hk
  have hk:ti.kd=6:=by simpa using hk
  split at hd
  ·cases hd
  rename_i ds hds
  obtain⟨fs,it,g1,g2,g3,g4,g5⟩:=(hT _ _ hti).places hk
  have hev:=h.evs hds
  cases hf:TR ti (ti.z.map .v) ((parts.toList.map (·.1)).zip ds) with
  | none=>rw[hf] at hd;cases hd
  | some l'=>
   rw[hf] at hd
   cases hd
   have hlen:ds.length=parts.toList.length:=by have:=(ZS.1 hev).1;simpa using this.symm
   obtain⟨cs',q1,q2⟩:=RS (m:=m) (Im:=Im) (w:=w) (ti:=ti) (place:=fun i=>(ti.fs.map fun e=>(e.1,e.2.1)).toArray[i]?) (fun f off sz ag hf=>by simp[hf]) (parts.toList.map fun p=>(p.1,a.eval p.2)) ((parts.toList.map (·.1)).zip ds) ti.z (ti.z.map .v) l'
    (by rw[List.map_map,List.map_fst_zip (by simp[hlen])];rfl) (by rw[List.map_map,List.map_snd_zip (by simp[hlen])];rw[List.map_map] at hev;exact hev) (PD _) hf
   refine⟨.agg cs'.toArray,run_build w t _ cs'.toArray ?_,Wa.2 ⟨cs',rfl,q2⟩⟩
   unfold Program.built
   rw[g1,g2]
   simp only[g3,g5,Xp,g4,if_true,Value.cells]
   rw[←q1]
   congr 1
   simp
 cases hd
end
def QI (σ:List (Key×D))(c x y:Operand):Option D:=match ev σ c with
 | some (.v (.bool t))=>if t then ev σ x else ev σ y
 | _=>none
def I2:D→Option D
 | .p k o=>some (.p k o)
 | .q l=>some (.q l)
 | .o k=>some (.o k)
 | .v (.pointer (some a))=>some (.v (.pointer (some a)))
 | .fn f c=>some (.fn f c)
 | _=>none
def SO (x:D)(i:Nat):Option D:=match x with
 | .tu l=>l[i]?
 | _=>none
def TE (σ:List (Key×D))(f:Fn)(first caps:List Operand):Option D:=match f,first with
 | .func f,[]=>(evs σ caps).map (.fn f)
 | _,_=>none
def evI (σ:List (Key×D)):Option Operand→Option (Option Int)
 | none=>some none
 | some x=>match ev σ x with
  | some (.v (.int .i64 i))=>some (some i)
  | _=>none
def G6 (T:List (Nat×TI))(σ:List (Key×D))(t:Nat)(x:Operand)(lo hi mx:Option Operand):Option D:=match ev σ x,evI σ lo,evI σ hi,evI σ mx with
 | some d,some a,some b,some c=>Sn T t d a b c
 | _,_,_,_=>none
def Kg (T:List (Nat×TI))(t:Nat)(op:BinOp)(x y:Option D):Option D:=match Xn T t,x,y with
 | some ti,some x,some y=>Kh ti op x y
 | _,_,_=>none
def I3:D→D→Option D
 | .v (.int .i64 a),.v (.int .i64 b)=>some (.v (.int .i64 (min a b)))
 | _,_=>none
def I5:D→D→Option D
 | .v (.int .i64 a),.v (.int .i64 b)=>some (.v (.int .i64 (max a b)))
 | _,_=>none
def Ng (T:List (Nat×TI))(s d:Nat)(x:D):Option D:=match Xn T s,Xn T d,x with
 | some _,some td,.v (.int _ n)=>(match td.z with
  | [.int k _]=>if td.kd==2 then some (.v (.int k (k.wrap n))) else none
  | _=>none)
 | _,_,_=>none
def U7 (T:List (Nat×TI))(σ:List (Key×D))(o:Oper):Option D:=match o.op with
 | .move x=>ev σ x
 | .assign x=>ev σ x
 | .pick c x y=>QI σ c x y
 | .load t x=>(ev σ x).bind (K8 T σ t)
 | .nilCheck x=>(ev σ x).bind I2
 | .binOp op t x y _=>Kg T t op (ev σ x) (ev σ y)
 | .unOp op _ x=>(ev σ x).bind (G4 op)
 | .convert s d x=>(ev σ x).bind (Ng T s d)
 | .field t x f=>(ev σ x).bind fun d=>SW T t d f
 | .fieldAddr t x f=>(ev σ x).bind fun d=>SP T t d f
 | .indexAddr t x y=>(ev σ x).bind fun d=>(ev σ y).bind fun e=>S9 T t d e
 | .extract x i=>(ev σ x).bind fun d=>SO d i
 | .makeFunc f first caps=>TE σ f first.toList caps.toList
 | .build t parts=>TZ T σ t parts.toList
 | .slice t x lo hi mx=>G6 T σ t x lo hi mx
 | .call c=>match c.callee,c.args.toList,c.argTypes.toList with
  | .builtin .len,[x],[t]=>(ev σ x).bind (Lc T t)
  | .builtin .min,[x,y],[_,_]=>(ev σ x).bind fun d=>(ev σ y).bind fun e=>I3 d e
  | .builtin .max,[x,y],[_,_]=>(ev σ x).bind fun d=>(ev σ y).bind fun e=>I5 d e
  | _,_,_=>none
 | _=>none
def JL (T:List (Nat×TI))(σ:List (Key×D))(o:Oper):List Key:=match o.op with
 | .load t x=>match ev σ x,Xn T t with
  | some (.p k off),some ti=>(List.range ti.sz).map fun i=>.c k (off+i)
  | some (.pr g _ _ _ _),some _=>[.r g]
  | _,_=>[]
 | _=>[]
def Rl (o:Oper):List Key:=o.op.operands.toList.filterMap fun x=>match x with | .tmp t=>some (.t t) | _=>none
section
variable {P:Program} {T:List (Nat×TI)} {cx:Cx} {Fr Fr':Nat→Prop} {m m':Mp} {Im Im':Nat→Nat→Prop} {w w':World} {a:Act} {σ σ':List (Key×D)}
theorem bind_some {α β:Type}{x:Option α}{f:α→Option β}{y:β}(h:x.bind f=some y):∃ z,x=some z∧f z=some y:=by
 cases x with
 | none=>cases h
 | some z=>exact⟨z,rfl,h⟩
theorem MT {k:IntKind}{x y:Int}{e:D}(h:(if y=1 then some (D.v (.int k (x.fdiv 2))) else none)=some e)(t:TypeId):∃ v,(binOp .shr t (.int k x) (.int k y)).run P w=.ok v w∧Yz m Im w v e:=by
 split at h
 ·rename_i hb
  subst hb
  cases h
  have h2:min 1 k.bits=1:=by cases k <;> rfl
  exact⟨_,by simp[binOp,Op.shift,h2],.v _⟩
 cases h
theorem LP {op:BinOp}{k:IntKind}{x y:Int}{e:D}(h:IS op k x y=some e)(t:TypeId):∃ v,(binOp op t (.int k x) (.int k y)).run P w=.ok v w∧Yz m Im w v e:=by
 cases op <;> simp only[IS] at h <;> first | (cases h;exact⟨_,by simp[binOp,Op.intArith,Op.intCmp];rfl,.v _⟩) | (cases h;exact⟨_,by simp[binOp,Op.intArith,Op.intCmp],.v _⟩) | (cases h;done) | exact MT h t
theorem Mh (hT:Zd P T){s t:Nat}{x:Value}{d e:D}(hx:Yz m Im w x d)(hd:Ng T s t d=some e):∃ v,(convert s t x).run P w=.ok v w∧Yz m Im w v e:=by
 unfold Ng at hd
 split at hd
 ·rename_i ts td k0 n hts htd
  split at hd
  ·rename_i k z hz
   split at hd
   ·rename_i hk
    cases hd
    have:=Yr.1 hx;subst this
    obtain⟨_,_,_,hs,_⟩:=(hT _ _ hts).parts
    have hd:=(hT _ _ htd).int hz (by simpa using hk)
    have hik:P.intKind t=k:=by simp[Program.intKind,hd]
    refine⟨_,run_convert_int (P:=P) (w:=w) (src:=s) (dst:=t) (k:=k0) (n:=n) (by rw[hs];rfl) (by rw[hik];exact hd),?_⟩
    rw[hik];exact .v _
   cases hd
  cases hd
 cases hd
theorem WH {op:BinOp}{b:Bool}{e:D}(h:LG op b=some e)(t:TypeId){x y:Value}(hq:(Op.equal t x y).run P w=.ok b w)(hb:∀ op:BinOp,(op=.eql→binOp op t x y=(do pure (.bool (←Op.equal t x y))))∧(op=.neq→binOp op t x y=(do pure (.bool (!(←Op.equal t x y)))))):
  ∃ v,(binOp op t x y).run P w=.ok v w∧Yz m Im w v e:=by
 cases op <;> simp only[LG] at h <;> cases h
 ·refine⟨.bool b,?_,.v _⟩
  rw[(hb .eql).1 rfl];simp[hq]
 refine⟨.bool (!b),?_,.v _⟩
 rw[(hb .neq).2 rfl];simp[hq]
theorem VO:Op.maxDepth=9999+1:=rfl
theorem QR {t:Nat}(h:P.underlying t=some .bool)(x y:Bool):(Op.equal t (.bool x) (.bool y)).run P w=.ok (x==y) w:=by
 unfold Op.equal;rw[VO,Op.equalIn];simp[run_underlying h]
theorem WA {t e:Nat}(h:P.underlying t=some (.pointer e))(x:Option Addr):(Op.equal t (.pointer x) (.pointer none)).run P w=.ok x.isNone w:=by
 unfold Op.equal;rw[VO,Op.equalIn]
 cases x <;> simp[run_underlying h]
theorem Ol (op:BinOp)(t:TypeId)(ox oy:Operand)(x y:Bool):(eqGuard op t ox oy (.bool x) (.bool y)).run P w=.ok () w:=by
 unfold eqGuard
 cases op <;> rfl
theorem Mk (op:BinOp)(t:TypeId)(ox oy:Operand)(k k':IntKind)(x y:Int):(eqGuard op t ox oy (.int k x) (.int k' y)).run P w=.ok () w:=by
 unfold eqGuard
 cases op <;> rfl
theorem Vc (op:BinOp)(t:TypeId)(ox oy:Operand)(x y:Option Addr):(eqGuard op t ox oy (.pointer x) (.pointer y)).run P w=.ok () w:=by
 unfold eqGuard
 cases op <;> rfl
theorem UA {t e:Nat}(h:P.underlying t=some (.slice e))(x:Option Addr)(n c:Nat):(Op.equal t (.slice x n c) (.slice none 0 0)).run P w=.ok x.isNone w:=by
 unfold Op.equal;rw[VO,Op.equalIn]
 cases x <;> simp[run_underlying h]
theorem TS (op:BinOp)(t:TypeId)(ox oy:Operand)(x y:Option Addr)(n c n' c':Nat):(eqGuard op t ox oy (.slice x n c) (.slice y n' c')).run P w=.ok () w:=by
 unfold eqGuard
 cases op <;> rfl
theorem Sk {t:Nat}{k:IntKind}(h:P.underlying t=some (.int k))(d:Nat)(x y:Int):(Op.equalIn (d+1) t (.int .i64 x) (.int .i64 y)).run P w=.ok (x==y) w:=by
 rw[Op.equalIn];simp[run_underlying h]
theorem Rh {t:Nat}{k:IntKind}(h:P.underlying t=some (.int k)){cs:Array Value}{i:Nat}{v:Value}(hv:cs[i]?=some v):(part t cs i).run P w=.ok v w:=by
 unfold part isAgg;simp[run_underlying h,hv]
theorem PJ {t:Nat}{ti:TI}(h:TypOk P t ti)(hq:ti.eqi=true)(a b c d:Int):(Op.equal t (.agg #[.int .i64 a,.int .i64 b]) (.agg #[.int .i64 c,.int .i64 d])).run P w=.ok (a==c&&b==d) w∧P.eqGuardType P.depth t=false:=by
 have h1:=h.eqs
 unfold Gm at h1
 simp only[hq,Bool.not_true,Bool.false_or,Bool.and_eq_true,Bool.not_eq_true'] at h1
 obtain⟨⟨h1,h2⟩,h3⟩:=h1
 refine⟨?_,h2⟩
 split at h3
 ·rename_i fs hfs
  split at h3
  ·rename_i f g hl
   simp only[Bool.and_eq_true,bne_iff_ne,ne_eq,beq_iff_eq] at h3
   obtain⟨⟨⟨⟨n1,n2⟩,o1⟩,o2⟩,h3⟩:=h3
   split at h3
   ·rename_i k1 k2 u1 u2
    have e:fs=#[f,g]:=by apply Array.ext';simpa using hl
    subst e
    unfold Op.equal;rw[VO,Op.equalIn]
    have p1:=fun(x y:Int)=>Rh (P:=P) (w:=w) (cs:=#[.int .i64 x,.int .i64 y]) (i:=0) (v:=.int .i64 x) u1 rfl
    have p2:=fun(x y:Int)=>Rh (P:=P) (w:=w) (cs:=#[.int .i64 x,.int .i64 y]) (i:=1) (v:=.int .i64 y) u2 rfl
    have q1:=Sk (P:=P) (w:=w) u1 9998 a c
    have q2:=Sk (P:=P) (w:=w) u2 9998 b d
    cases hac:a==c <;> cases hbd:b==d <;> rw[hac] at q1 <;> rw[hbd] at q2 <;> simp[run_underlying hfs,h1,n1,n2,o1,o2,p1,p2,q1,q2]
   cases h3
  cases h3
 cases h3
theorem Ml {t:Nat}(h:P.eqGuardType P.depth t=false)(op:BinOp)(ox oy:Operand)(x y:Array Value):(eqGuard op t ox oy (.agg x) (.agg y)).run P w=.ok () w:=by
 unfold eqGuard
 cases op <;> simp[h]
theorem MF {x:Value}{k:Nat}(h:Yz m Im w x (.o k)):∃ b,m.obj k=some b∧x=.pointer (some ⟨b,0,none⟩):=by
 cases h with | o k b h=>exact⟨b,h,rfl⟩
theorem Ki (hT:Zd P T){t:Nat}{ti:TI}(hti:Xn T t=some ti){op:BinOp}{x y:Value}{d f e:D}(hx:Yz m Im w x d)(hy:Yz m Im w y f)(hd:Kh ti op d f=some e):
  (∃ v,(binOp op t x y).run P w=.ok v w∧Yz m Im w v e)∧∀ ox oy,(eqGuard op t ox oy x y).run P w=.ok () w:=by
 obtain⟨i,dd,h1,h2,h3,h4,h5,h6,h7,h8⟩:=(hT _ _ hti).parts
 unfold Kh at hd
 split at hd
 ·have:=Yr.1 hx;subst this
  have:=Yr.1 hy;subst this
  split at hd
  ·rename_i hk;subst hk
   exact⟨LP hd t,fun ox oy=>Mk ..⟩
  cases hd
 ·have:=Yr.1 hx;subst this
  have:=Yr.1 hy;subst this
  split at hd
  ·rename_i b c hk
   rw[←h8] at hk
   cases dd <;> simp[U8] at hk
   exact⟨WH hd t (QR h2 _ _) (fun op=>⟨fun e=>by subst e;rfl,fun e=>by subst e;rfl⟩),fun ox oy=>Ol ..⟩
  cases hd
 ·have:=Yr.1 hy;subst this
  obtain⟨b,hb,rfl⟩:=Re hx
  split at hd
  ·rename_i hk
   rw[←h8] at hk
   cases dd <;> simp[U8] at hk
   exact⟨WH hd t (WA h2 _) (fun op=>⟨fun e=>by subst e;rfl,fun e=>by subst e;rfl⟩),fun ox oy=>Vc ..⟩
  cases hd
 ·have:=Yr.1 hy;subst this
  obtain⟨b,o,rfl,_⟩:=QK (bl:=0) (off:=0) hx
  split at hd
  ·rename_i hk
   rw[←h8] at hk
   cases dd <;> simp[U8] at hk
   exact⟨WH hd t (WA h2 _) (fun op=>⟨fun e=>by subst e;rfl,fun e=>by subst e;rfl⟩),fun ox oy=>Vc ..⟩
  cases hd
 ·have:=Yr.1 hy;subst this
  obtain⟨b,hb,rfl⟩:=MF hx
  split at hd
  ·rename_i hk
   rw[←h8] at hk
   cases dd <;> simp[U8] at hk
   exact⟨WH hd t (WA h2 _) (fun op=>⟨fun e=>by subst e;rfl,fun e=>by subst e;rfl⟩),fun ox oy=>Vc ..⟩
  cases hd
 ·have:=Yr.1 hx;subst this
  have:=Yr.1 hy;subst this
  split at hd
  ·rename_i hk
   rw[←h8] at hk
   cases dd <;> simp[U8] at hk
   exact⟨WH hd t (WA h2 _) (fun op=>⟨fun e=>by subst e;rfl,fun e=>by subst e;rfl⟩),fun ox oy=>Vc ..⟩
  cases hd
 ·have:=Yr.1 hx;subst this
  have:=Yr.1 hy;subst this
  split at hd
  ·rename_i hk
   rw[←h8] at hk
   cases dd <;> simp[U8] at hk
   exact⟨WH hd t (WA h2 _) (fun op=>⟨fun e=>by subst e;rfl,fun e=>by subst e;rfl⟩),fun ox oy=>Vc ..⟩
  cases hd
 ·have:=Yr.1 hy;subst this
  split at hd
  ·rename_i hk
   cases hx with
   | sl a c bl off n X l g h1 ha hc hn ho hr hg=>
   have ha:=ha (by simp)
   subst ha
   rw[←h8] at hk
   cases dd <;> simp[U8] at hk
   exact⟨WH hd t (UA h2 _ _ _) (fun op=>⟨fun e=>by subst e;rfl,fun e=>by subst e;rfl⟩),fun ox oy=>TS ..⟩
  cases hd
 ·have:=Yr.1 hx;subst this
  have:=Yr.1 hy;subst this
  split at hd
  ·rename_i hk
   rw[←h8] at hk
   cases dd <;> simp[U8] at hk
   exact⟨WH hd t (UA h2 _ _ _) (fun op=>⟨fun e=>by subst e;rfl,fun e=>by subst e;rfl⟩),fun ox oy=>TS ..⟩
  cases hd
 ·split at hd
  ·rename_i a b c d hq
   obtain⟨cs,rfl,hr⟩:=Wa.1 hx
   obtain⟨cs',rfl,hr'⟩:=Wa.1 hy
   match cs,hr with
   | [u,v],hr=>
    match cs',hr' with
    | [u',v'],hr'=>
     have:=Yr.1 hr.1;subst this
     have:=Yr.1 hr.2.1;subst this
     have:=Yr.1 hr'.1;subst this
     have:=Yr.1 hr'.2.1;subst this
     obtain⟨g1,g2⟩:=PJ (P:=P) (w:=w) (hT _ _ hti) hq a b c d
     exact⟨WH hd t g1 (fun op=>⟨fun e=>by subst e;rfl,fun e=>by subst e;rfl⟩),fun ox oy=>Ml g2 ..⟩
  cases hd
 cases hd
theorem KX {op:UnOp}{x:Value}{d e:D}(hx:Yz m Im w x d)(hd:G4 op d=some e):∃ v,(Op.unary op x).run P w=.ok v w∧Yz m Im w v e:=by
 unfold G4 at hd
 split at hd
 ·cases hd;have:=Yr.1 hx;subst this
  exact⟨_,by simp[Op.unary],.v _⟩
 ·cases hd;have:=Yr.1 hx;subst this
  exact⟨_,by simp[Op.unary,Op.intArith],.v _⟩
 cases hd
theorem St.evI (h:St cx Fr m Im w a σ){x:Option Operand}{i:Option Int}(hx:Go.Proofs.YtclihnccilkohaaGreat.evI σ x=some i):x.map a.eval=i.map (.int .i64):=by
 cases x with
 | none=>cases hx;rfl
 | some x=>
  simp only[Go.Proofs.YtclihnccilkohaaGreat.evI] at hx
  split at hx
  ·rename_i i hi
   cases hx
   have:=Yr.1 (h.ev hi)
   simp[this]
  cases hx
theorem Lz (hT:Zd P T)(h:St cx Fr m Im w a σ){o:Oper}{e:D}(hd:U7 T σ o=some e):∃ v,(execOp a.eval o).run P w=.ok (.value v) w∧Yz m Im w v e:=by
 unfold U7 at hd
 unfold execOp
 split at hd
 ·rename_i x ho;simp only[ho];exact⟨_,by simp,h.ev hd⟩
 ·rename_i x ho;simp only[ho];exact⟨_,by simp,h.ev hd⟩
 ·rename_i c x y ho
  simp only[ho]
  unfold QI at hd
  split at hd
  ·rename_i t hc
   have hc':=Yr.1 (h.ev hc)
   cases t with
   | true=>exact⟨a.eval x,by simp[hc',asBool],h.ev hd⟩
   | false=>exact⟨a.eval y,by simp[hc',asBool],h.ev hd⟩
  cases hd
 ·rename_i t x ho
  simp only[ho]
  obtain⟨d,q1,q2⟩:=bind_some hd
  obtain⟨v,r1,r2⟩:=Nw hT h (h.ev q1) q2
  exact⟨v,by simp[r1],r2⟩
 ·rename_i x ho
  simp only[ho]
  obtain⟨d,q1,q2⟩:=bind_some hd
  have hx:=h.ev q1
  unfold I2 at q2
  split at q2
  ·cases q2;obtain⟨b,hb,e⟩:=Re hx;rw[e] at hx ⊢;exact⟨_,by simp,hx⟩
  ·cases q2;obtain⟨b,o,e,_⟩:=QK (bl:=0) (off:=0) hx;rw[e] at hx ⊢;exact⟨_,by simp,hx⟩
  ·cases q2;obtain⟨b,hb,e⟩:=MF hx;rw[e] at hx ⊢;exact⟨_,by simp,hx⟩
  ·cases q2;have e:=Yr.1 hx;rw[e];exact⟨_,by simp,.v _⟩
  ·cases q2;obtain⟨cs,e,_⟩:=PE.1 hx;rw[e] at hx ⊢;exact⟨_,by simp,hx⟩
  cases q2
 ·rename_i op t x y _ ho
  simp only[ho]
  unfold Kg at hd
  split at hd
  ·rename_i ti d f h1 h2 h3
   obtain⟨⟨v,r1,r2⟩,r3⟩:=Ki hT h1 (h.ev h2) (h.ev h3) hd
   exact⟨v,by simp[r3,r1],r2⟩
  cases hd
 ·rename_i op t x ho
  simp only[ho]
  obtain⟨d,q1,q2⟩:=bind_some hd
  obtain⟨v,r1,r2⟩:=KX (P:=P) (h.ev q1) q2
  exact⟨v,by simp[r1],r2⟩
 ·rename_i t t2 x ho
  simp only[ho]
  obtain⟨d,q1,q2⟩:=bind_some hd
  obtain⟨v,r1,r2⟩:=Mh (P:=P) hT (h.ev q1) q2
  exact⟨v,by simp[r1],r2⟩
 ·rename_i t x f ho
  simp only[ho]
  obtain⟨d,q1,q2⟩:=bind_some hd
  obtain⟨v,r1,r2⟩:=Oh hT (h.ev q1) q2
  exact⟨v,by simp[r1],r2⟩
 ·rename_i t x f ho
  simp only[ho]
  obtain⟨d,q1,q2⟩:=bind_some hd
  obtain⟨v,r1,r2⟩:=Od hT (h.ev q1) q2
  exact⟨v,by simp[r1],r2⟩
 ·rename_i t x y ho
  simp only[ho]
  obtain⟨d,q1,q2⟩:=bind_some hd
  obtain⟨f,q3,q4⟩:=bind_some q2
  obtain⟨v,r1,r2⟩:=Om hT (h.ev q1) (h.ev q3) q4
  exact⟨v,by simp[r1],r2⟩
 ·rename_i x i ho
  simp only[ho]
  obtain⟨d,q1,q2⟩:=bind_some hd
  unfold SO at q2
  split at q2
  ·rename_i l
   obtain⟨cs,e,hr⟩:=Qy.1 (h.ev q1)
   have hlt:i<l.length:=by
    rcases Nat.lt_or_ge i l.length with h' | h'
    ·exact h'
    rw[List.getElem?_eq_none h'] at q2;cases q2
   rw[List.getElem?_eq_getElem hlt] at q2
   cases q2
   have hlt2:i<cs.length:=by rw[(ZS.1 hr).1];exact hlt
   refine⟨cs[i],by simp[e,Instr.extract,hlt2],?_⟩
   have:=(ZS.1 hr).2 i hlt
   simpa[List.getD_eq_getElem?_getD,List.getElem?_eq_getElem hlt2] using this
  cases q2
 ·rename_i f first caps ho
  simp only[ho]
  unfold TE at hd
  split at hd
  ·rename_i f' hfirst
   cases hc:evs σ caps.toList with
   | none=>rw[hc] at hd;cases hd
   | some ds=>
    rw[hc] at hd
    cases hd
    have hr:=h.evs hc
    have hf0:first=#[]:=by apply Array.ext';simpa using hfirst
    subst hf0
    refine⟨.func (.func f') #[] (caps.map a.eval),by simp[Instr.makeFunc],PE.2 ⟨_,?_,hr⟩⟩
    congr 1
    apply Array.ext'
    simp
  cases hd
 ·rename_i t parts ho
  simp only[ho]
  obtain⟨v,r1,r2⟩:=O7 hT h hd
  exact⟨v,by simp[r1],r2⟩
 ·rename_i t x lo hi mx ho
  simp only[ho]
  unfold G6 at hd
  split at hd
  ·rename_i d i j k h1 h2 h3 h4
   obtain⟨v,r1,r2⟩:=PK (P:=P) hT (h.ev h1) (h.evI h2) (h.evI h3) (h.evI h4) hd
   exact⟨v,by simp[r1],r2⟩
  cases hd
 ·rename_i c ho
  simp only[ho]
  split at hd
  ·rename_i x t h1 h2 h3
   obtain⟨d,q1,q2⟩:=bind_some hd
   obtain⟨v,r1,r2⟩:=Ld (P:=P) (ty:=o.type) hT (h.ev q1) q2
   have e2:c.args=#[x]:=by apply Array.ext';simpa using h2
   have e3:c.argTypes=#[t]:=by apply Array.ext';simpa using h3
   exact⟨v,by simp[resolve,h1,e2,e3,invoke,builtin,r1],r2⟩
  ·rename_i x y t t' h1 h2 h3
   obtain⟨d,q1,hd⟩:=bind_some hd
   obtain⟨e',q2,hd⟩:=bind_some hd
   have e2:c.args=#[x,y]:=by apply Array.ext';simpa using h2
   have e3:c.argTypes=#[t,t']:=by apply Array.ext';simpa using h3
   unfold I3 at hd
   split at hd
   ·rename_i a' b' _
    cases hd
    have g1:=Yr.1 (h.ev q1)
    have g2:=Yr.1 (h.ev q2)
    have e4:(if b'<a' then b' else a')=min a' b':=by omega
    exact⟨_,by simp[resolve,h1,e2,e3,invoke,builtin,g1,g2,Builtin.min_,Builtin.min2,e4],.v _⟩
   cases hd
  ·rename_i x y t t' h1 h2 h3
   obtain⟨d,q1,hd⟩:=bind_some hd
   obtain⟨e',q2,hd⟩:=bind_some hd
   have e2:c.args=#[x,y]:=by apply Array.ext';simpa using h2
   have e3:c.argTypes=#[t,t']:=by apply Array.ext';simpa using h3
   unfold I5 at hd
   split at hd
   ·rename_i a' b' _
    cases hd
    have g1:=Yr.1 (h.ev q1)
    have g2:=Yr.1 (h.ev q2)
    have e4:(if b'>a' then b' else a')=max a' b':=by omega
    exact⟨_,by simp[resolve,h1,e2,e3,invoke,builtin,g1,g2,Builtin.max_,Builtin.max2,e4],.v _⟩
   cases hd
  cases hd
 cases hd
end
section
variable {P:Program} {T:List (Nat×TI)} {cx:Cx} {Fr Fr':Nat→Prop} {m m':Mp} {Im Im':Nat→Nat→Prop} {w w':World} {a:Act} {σ σ':List (Key×D)}
theorem St.less (h:St cx Fr m Im w a σ)(hf:∀ k,Fr' k→Fr k):St cx Fr' m Im w a σ:={ h with mem:={ h.mem with fr:=fun k hk=>h.mem.fr k (hf k hk) } }
theorem Wk {x:Value}{n:Nat}{l:List (List D)}{g:Option Nat}(h:Yz m Im w x (.sl n l g)):∃ (a:Option Addr) (c bl off:Nat) (X:Nat→Nat→Value),x=.slice a l.length c∧(l.length≤maxLen∧l.length≤c)∧(0<l.length→a=some ⟨bl,off,none⟩) ∧
  (∀ i j,i<l.length→j<n→w.cell? ⟨bl,off+i * n+j,none⟩=some (X i j)∧Im bl (off+i * n+j))∧(∀ i (h:i<l.length),l[i].length=n)∧(∀ i j,i<l.length→j<n→(X i j).oneCell'=true) ∧
  (∀ i (h:i<l.length) j (h':j<l[i].length),Yz m Im w (X i j) l[i][j])∧(∀ r,g=some r→∃ R,m.row r=some R∧l.length≤R.len∧(l.length=R.len→R.hv=x)):=by
 cases h with
 | sl a c bl off n X l g h1 ha hc hn ho hr hg=>exact⟨a,c,bl,off,X,rfl,h1,ha,hc,hn,ho,hr,hg⟩
theorem St.rowOf (h:St cx Fr m Im w a σ){g:Nat}(hg:Fr g)(cs:List Value)(L n E:Nat)(hl:cs.length=L * n)(hL:L≤maxLen):
  ∃ Im',(∀ b o,Im b o→Im' b o)∧(∀ o,o<L * n→Im' w.heap.size o)∧St cx (WM Fr g) (m.setR g ⟨.slice (some ⟨w.heap.size,0,none⟩) L L,L,E,n⟩) Im' (w.alloc (.cells cs.toArray E)) a (XW (.r g) (.rw E n L) σ)∧m.le (m.setR g ⟨.slice (some ⟨w.heap.size,0,none⟩) L L,L,E,n⟩):=by
 have hb:Below w.heap.size w (w.alloc (.cells cs.toArray E)):=(Below.refl _ _).alloc (Nat.le_refl _) _
 have hB:=Blk.new w cs.toArray E rfl
 have hcell:∀ o,o<L * n→∃ v,(w.alloc (.cells cs.toArray E)).cell? ⟨w.heap.size,o,none⟩=some v:=fun o ho=>⟨cs[o]'(by omega),hB.cell (by simp[show o<cs.length by omega])⟩
 have h1:=h.below (Im':=fun b o=>Im b o∨(b=w.heap.size∧o<L * n)) hb (fun _ _ h=>.inl h) (fun b o hh=>hh.imp id fun e=>by rw[e.1];exact Nat.le_refl _) (fun b o hh=>by
  rcases hh with hh | ⟨rfl,ho⟩
  ·obtain⟨v,hv⟩:=h.mem.im b o hh
   exact⟨v,(hb.cell (p:=⟨b,o,none⟩) (YR hv)).trans hv⟩
  exact hcell o ho)
 have hle:m.le (m.setR g ⟨.slice (some ⟨w.heap.size,0,none⟩) L L,L,E,n⟩):=Mp.setR_le fun R0 h0=>by rw[(h.mem.fr g hg).2.1] at h0;cases h0
 refine⟨fun b o=>Im b o∨(b=w.heap.size∧o<L * n),fun _ _ h=>.inl h,fun o ho=>.inr ⟨rfl,ho⟩,?_,hle⟩
 have hcase:∀ {x R},(m.setR g ⟨.slice (some ⟨w.heap.size,0,none⟩) L L,L,E,n⟩).row x=some R→(x=g∧R=⟨.slice (some ⟨w.heap.size,0,none⟩) L L,L,E,n⟩)∨(x≠g∧m.row x=some R):=fun {x R} hx=>by
  by_cases e:x=g
  ·left;simp[Mp.setR,e] at hx;exact⟨e,hx.symm⟩
  right;simp[Mp.setR,e] at hx;exact⟨e,hx⟩
 have hold:∀ x R b,m.row x=some R→R.hv.ownBlock=some b→b<w.heap.size:=fun x R b hx ho=>by
  obtain⟨xs,hxs⟩:=h.mem.row x R hx
  exact(Vz hxs ho).2
 refine⟨{ h1.mem with row:=?_,rIm:=?_,rblk:=?_,rinj:=?_,fr:=?_,rown:=(fun x R b hx ho=>(hcase hx).elim (fun e=>by obtain⟨_,rfl⟩:=e;cases ho;exact .inl h.mem.off.size) fun e=>h.mem.rown x R b e.2 ho),m0r:=h.mem.m0r_le hle,orow:=?_ },h1.df,h1.nt,fun x d hx=>(h1.tm x d (by rw[Zo,if_neg (by simp[Key.eq])] at hx;exact hx)).mono hle (Z8.refl _ _) (fun _ _ h=>h),fun x off d hx=>?_,fun x d hx=>?_,fun d hd=>?_,fun x d hd=>?_⟩
 ·intro x R hx
  rcases hcase hx with⟨_,rfl⟩ | ⟨_,hx⟩
  ·exact⟨cs.toArray.toList,World.ownsRow_lit w cs.toArray L (Nat.zero_le _) hL (by simpa using hl)⟩
  exact h1.mem.row x R hx
 ·intro x R b o hx
  rcases hcase hx with⟨_,rfl⟩ | ⟨_,hx⟩
  ·intro e hh
   cases e
   rcases hh with hh | hh
   ·obtain⟨v,hv⟩:=h.mem.im _ _ hh
    exact absurd (YR hv) (Nat.lt_irrefl _)
   exact hh.2
  exact h1.mem.rIm x R b o hx
 ·intro x R b k hx
  rcases hcase hx with⟨_,rfl⟩ | ⟨_,hx⟩
  ·intro e hk;cases e;exact absurd (h.mem.lt k _ hk) (Nat.lt_irrefl _)
  exact h1.mem.rblk x R b k hx
 ·intro x y R R' b hx hy ho ho'
  rcases hcase hx with⟨e1,e2⟩ | ⟨_,hx⟩ <;> rcases hcase hy with⟨e3,e4⟩ | ⟨_,hy⟩
  ·rw[e1,e3]
  ·subst e2;cases ho;exact absurd (hold y R' _ hy ho') (Nat.lt_irrefl _)
  ·subst e4;cases ho';exact absurd (hold x R _ hx ho) (Nat.lt_irrefl _)
  exact h1.mem.rinj x y R R' b hx hy ho ho'
 ·intro x hx;refine⟨(h.mem.fr x hx.1).1,?_,(h.mem.fr x hx.1).2.2⟩;simp[Mp.setR,hx.2,(h.mem.fr x hx.1).2.1]
 ·intro x y R b hx hy
  rcases hcase hy with⟨_,rfl⟩ | ⟨_,hy⟩
  ·intro e;cases e;exact absurd (h.mem.olt x _ hx) (Nat.lt_irrefl _)
  exact h1.mem.orow x y R b hx hy
 ·rw[Zo,if_neg (by simp[Key.eq])] at hx
  obtain⟨c,v,q1,q2,q3⟩:=h1.ce x off d hx
  exact⟨c,v,q1,q2,q3.mono hle (Z8.refl _ _) (fun _ _ h=>h)⟩
 ·rw[Zo] at hx
  by_cases he:Key.eq (.r g) (.r x)=true
  ·rw[if_pos he] at hx
   cases hx
   have:=Key.eq_iff.1 he
   cases this
   exact⟨⟨.slice (some ⟨w.heap.size,0,none⟩) L L,L,E,n⟩,by simp[Mp.setR],.rw⟩
  rw[if_neg he] at hx
  obtain⟨R,q1,q2⟩:=h1.ro x d hx
  have hne:x≠g:=fun e=>he (by rw[e];exact Key.eq_refl _)
  exact⟨R,by simp[Mp.setR,hne,q1],q2.mono (fun _ _=>rfl) hle (Z8.refl _ _) (fun _ _ h=>h) fun _ _ _ h=>h⟩
 ·rw[Zo,if_neg (by simp[Key.eq])] at hd
  obtain⟨X,J,rfl,hX⟩:=h.jk d hd
  obtain⟨X',J',e,hX1⟩:=h1.jk _ hd
  cases e
  refine⟨X,J,rfl,{ hX1 with row:=fun c x R hc hx=>?_ }⟩
  rcases hcase hx with⟨_,rfl⟩ | ⟨_,hx⟩
  ·intro e;cases e;exact absurd (hX.lt _ hc) (Nat.lt_irrefl _)
  exact hX1.row c x R hc hx
 rw[Zo,if_neg (by simp[Key.eq])] at hd
 obtain⟨c,q1,q2⟩:=h1.ok x d hd
 exact⟨c,q1,q2.mono rfl hle (Z8.refl _ _) fun _ _ h=>h⟩
theorem St.rowMade (h:St cx Fr m Im w a σ){g:Nat}(hg:Fr g)(hv:Value)(E n:Nat)(hb:Below w.heap.size w w')(hown:w'.ownsRow 0 E n hv 0 [])(hob:hv.ownBlock=some w.heap.size):
  St cx (WM Fr g) (m.setR g ⟨hv,0,E,n⟩) Im w' a (XW (.r g) (.rw E n 0) σ)∧m.le (m.setR g ⟨hv,0,E,n⟩):=by
 have h1:=h.below0 hb
 have hle:m.le (m.setR g ⟨hv,0,E,n⟩):=Mp.setR_le fun R0 h0=>by rw[(h.mem.fr g hg).2.1] at h0;cases h0
 refine⟨?_,hle⟩
 have hcase:∀ {x R},(m.setR g ⟨hv,0,E,n⟩).row x=some R→(x=g∧R=⟨hv,0,E,n⟩)∨(x≠g∧m.row x=some R):=fun {x R} hx=>by
  by_cases e:x=g
  ·left;simp[Mp.setR,e] at hx;exact⟨e,hx.symm⟩
  right;simp[Mp.setR,e] at hx;exact⟨e,hx⟩
 have hold:∀ x R b,m.row x=some R→R.hv.ownBlock=some b→b<w.heap.size:=fun x R b hx ho=>by
  obtain⟨xs,hxs⟩:=h.mem.row x R hx
  exact(Vz hxs ho).2
 refine⟨{ h1.mem with row:=?_,rIm:=?_,rblk:=?_,rinj:=?_,fr:=?_,rown:=(fun x R b hx ho=>(hcase hx).elim (fun e=>by obtain⟨_,rfl⟩:=e;have ho:hv.ownBlock=some b:=ho;rw[hob] at ho;cases ho;exact .inl h.mem.off.size) fun e=>h.mem.rown x R b e.2 ho),m0r:=h.mem.m0r_le hle,orow:=?_ },h1.df,h1.nt,fun x d hx=>(h1.tm x d (by rw[Zo,if_neg (by simp[Key.eq])] at hx;exact hx)).mono hle (Z8.refl _ _) (fun _ _ h=>h),fun x off d hx=>?_,fun x d hx=>?_,fun d hd=>?_,fun x d hd=>?_⟩
 ·intro x R hx
  rcases hcase hx with⟨_,rfl⟩ | ⟨_,hx⟩
  ·exact⟨[],hown⟩
  exact h1.mem.row x R hx
 ·intro x R b o hx
  rcases hcase hx with⟨_,rfl⟩ | ⟨_,hx⟩
  ·intro e hh
   have e:hv.ownBlock=some b:=e
   rw[hob] at e;cases e
   obtain⟨v,hv⟩:=h.mem.im _ _ hh
   exact absurd (YR hv) (Nat.lt_irrefl _)
  exact h1.mem.rIm x R b o hx
 ·intro x R b k hx
  rcases hcase hx with⟨_,rfl⟩ | ⟨_,hx⟩
  ·intro e hk
   have e:hv.ownBlock=some b:=e
   rw[hob] at e;cases e;exact absurd (h.mem.lt k _ hk) (Nat.lt_irrefl _)
  exact h1.mem.rblk x R b k hx
 ·intro x y R R' b hx hy ho ho'
  rcases hcase hx with⟨e1,e2⟩ | ⟨_,hx⟩ <;> rcases hcase hy with⟨e3,e4⟩ | ⟨_,hy⟩
  ·rw[e1,e3]
  ·subst e2
   have ho:hv.ownBlock=some b:=ho
   rw[hob] at ho;cases ho;exact absurd (hold y R' _ hy ho') (Nat.lt_irrefl _)
  ·subst e4
   have ho':hv.ownBlock=some b:=ho'
   rw[hob] at ho';cases ho';exact absurd (hold x R _ hx ho) (Nat.lt_irrefl _)
  exact h1.mem.rinj x y R R' b hx hy ho ho'
 ·intro x hx;refine⟨(h.mem.fr x hx.1).1,?_,(h.mem.fr x hx.1).2.2⟩;simp[Mp.setR,hx.2,(h.mem.fr x hx.1).2.1]
 ·intro x y R b hx hy
  rcases hcase hy with⟨_,rfl⟩ | ⟨_,hy⟩
  ·intro e
   have e:hv.ownBlock=some b:=e
   rw[hob] at e;cases e;exact absurd (h.mem.olt x _ hx) (Nat.lt_irrefl _)
  exact h1.mem.orow x y R b hx hy
 ·rw[Zo,if_neg (by simp[Key.eq])] at hx
  obtain⟨c,v,q1,q2,q3⟩:=h1.ce x off d hx
  exact⟨c,v,q1,q2,q3.mono hle (Z8.refl _ _) (fun _ _ h=>h)⟩
 ·rw[Zo] at hx
  by_cases he:Key.eq (.r g) (.r x)=true
  ·rw[if_pos he] at hx
   cases hx
   have:=Key.eq_iff.1 he
   cases this
   exact⟨⟨hv,0,E,n⟩,by simp[Mp.setR],.rw⟩
  rw[if_neg he] at hx
  obtain⟨R,q1,q2⟩:=h1.ro x d hx
  have hne:x≠g:=fun e=>he (by rw[e];exact Key.eq_refl _)
  exact⟨R,by simp[Mp.setR,hne,q1],q2.mono (fun _ _=>rfl) hle (Z8.refl _ _) (fun _ _ h=>h) fun _ _ _ h=>h⟩
 ·rw[Zo,if_neg (by simp[Key.eq])] at hd
  obtain⟨X,J,rfl,hX⟩:=h.jk d hd
  obtain⟨X',J',e,hX1⟩:=h1.jk _ hd
  cases e
  refine⟨X,J,rfl,{ hX1 with row:=fun c x R hc hx=>?_ }⟩
  rcases hcase hx with⟨_,rfl⟩ | ⟨_,hx⟩
  ·intro e
   have e:hv.ownBlock=some c:=e
   rw[hob] at e;cases e;exact absurd (hX.lt _ hc) (Nat.lt_irrefl _)
  exact hX1.row c x R hc hx
 rw[Zo,if_neg (by simp[Key.eq])] at hd
 obtain⟨c,q1,q2⟩:=h1.ok x d hd
 exact⟨c,q1,q2.mono rfl hle (Z8.refl _ _) fun _ _ h=>h⟩
end
def VD:List (Int×D)→Int→Option D
 | [],_=>none
 | (k,d) :: r,n=>if n=k then some d else VD r n
def Qu:List (Int×D)→Int→D→List (Int×D)
 | [],n,d=>[(n,d)]
 | (k,e) :: r,n,d=>if n=k then (k,d) :: r else (k,e) :: Qu r n d
def zD (ti:TI):D:=if ti.ag then .ag (ti.z.map .v) else .v (ti.z.headD undef)
section
variable {P:Program} {T:List (Nat×TI)} {cx:Cx} {Fr Fr':Nat→Prop} {m m':Mp} {Im Im':Nat→Nat→Prop} {w w':World} {a:Act} {σ σ':List (Key×D)}
def U9 (m:Mp)(Im:Nat→Nat→Prop)(w:World):List MapEntry→List (Int×D)→Prop
 | [],[]=>True
 | e :: es,p :: l=>e.key=.int .i64 p.1∧Yz m Im w e.val p.2∧U9 m Im w es l
 | _,_=>False
theorem Tt:∀ {es:List MapEntry} {l:List (Int×D)},U9 m Im w es l↔es.length=l.length∧(∀ i (h:i<l.length),(es[i]?).map (·.key)=some (.int .i64 l[i].1))∧∀ i (h:i<l.length) v,(es[i]?).map (·.val)=some v→Yz m Im w v l[i].2
 | [],[]=>by simp[U9]
 | [],_ :: _=>by simp[U9]
 | _ :: _,[]=>by simp[U9]
 | e :: es,p :: l=>by
  simp only[U9,Tt (es:=es) (l:=l),List.length_cons]
  constructor
  ·rintro⟨h1,h2,h3,h4,h5⟩
   refine⟨by omega,fun i h=>?_,fun i h v hv=>?_⟩
   ·cases i with
    | zero=>simp[h1]
    | succ i=>simpa using h4 i (by omega)
   ·cases i with
    | zero=>simp at hv;rw[←hv];exact h2
    | succ i=>exact h5 i (by omega) v (by simpa using hv)
  rintro⟨h1,h2,h3⟩
  refine⟨by simpa using h2 0 (by omega),h3 0 (by omega) _ (by simp),by omega,fun i h=>?_,fun i h v hv=>h3 (i+1) (by omega) v (by simpa using hv)⟩
  have:=h2 (i+1) (by omega)
  rw[List.getElem?_cons_succ] at this
  exact this
theorem Tu {b:Nat}{l:List (Int×D)}:WN m Im w b (.mp l)↔∃ (es:Array MapEntry) (clock:Nat),w.heap[b]?=some (.map es clock)∧U9 m Im w es.toList l∧VF es clock:=by
 constructor
 ·intro h
  cases h with
  | mp es clock l h1 h2 h3 h4 h5=>exact⟨es,clock,h1,Tt.2 ⟨by simpa using h2,fun i h=>by simpa using h3 i h,fun i h v hv=>h4 i h v (by simpa using hv)⟩,h5⟩
 rintro⟨es,clock,h1,h2,h5⟩
 obtain⟨q1,q2,q3⟩:=Tt.1 h2
 exact .mp es clock l h1 (by simpa using q1) (fun i h=>by simpa using q2 i h) (fun i h v hv=>q3 i h v (by simpa using hv)) h5
theorem U9.mono {es:List MapEntry}{l:List (Int×D)}(h:U9 m Im w es l)(hm:m.le m')(hk:Z8 Im w w')(hi:∀ b o,Im b o→Im' b o):U9 m' Im' w' es l:=by
 rw[Tt] at h ⊢
 exact⟨h.1,h.2.1,fun i hl v hv=>(h.2.2 i hl v hv).mono hm hk hi⟩
theorem SX (n:Int):∀ {es:List MapEntry} {l:List (Int×D)} (i0:Nat),U9 m Im w es l →
  (VD l n=none∧Instr.findNow (.int .i64) (.int .i64 n) es i0=some none∧∀ d,Qu l n d=l++[(n,d)]) ∨
  ∃ i v d,VD l n=some d∧Instr.findNow (.int .i64) (.int .i64 n) es i0=some (some (i0+i,v))∧Yz m Im w v d∧(es[i]?).map (·.key)=some (.int .i64 n) ∧
   ∀ v' d',Yz m Im w v' d'→U9 m Im w (es.modify i fun e=>{ e with val:=v' }) (Qu l n d')
 | [],[],i0,_=>.inl ⟨rfl,rfl,fun _=>rfl⟩
 | [],_ :: _,_,h=>h.elim
 | _ :: _,[],_,h=>h.elim
 | e :: es,(k,d) :: l,i0,h=>by
  obtain⟨h1,h2,h3⟩:=h
  by_cases hn:n=k
  ·subst hn
   refine .inr ⟨0,e.val,d,by simp[VD],by simp[Instr.findNow,h1,Instr.sameNow],h2,by simp[h1],fun v' d' hr=>?_⟩
   simp only[Qu,if_true,List.modify_zero_cons]
   exact⟨h1,hr,h3⟩
  have hb:(n==k)=false:=by simpa using hn
  rcases SX n (i0+1) h3 with⟨g1,g2,g3⟩ | ⟨i,v,d',g1,g2,g3,g4,g5⟩
  ·refine .inl ⟨by simp[VD,hn,g1],by simp[Instr.findNow,h1,Instr.sameNow,hb,g2],fun d=>by simp[Qu,hn,g3]⟩
  refine .inr ⟨i+1,v,d',by simp[VD,hn,g1],by simp[Instr.findNow,h1,Instr.sameNow,hb,g2];omega,g3,by simpa using g4,fun v' d2 hr=>?_⟩
  simp only[Qu,if_neg hn,List.modify_succ_cons]
  exact⟨h1,h2,g5 v' d2 hr⟩
theorem RK {t:Nat}(h:P.underlying t=some (.int .i64))(e:Bool)(n:Int):(Instr.checkKey e 10000 t (.int .i64 n)).run P w=.ok () w:=by
 rw[show (10000:Nat)=9999+1 from rfl,Instr.checkKey]
 simp[run_underlying h]
theorem JG {t:Nat}{ti:TI}(hz:TypOk P t ti):∃ v,(zeroValue t).run P w=.ok v w∧Yz m Im w v (zD ti):=by
 obtain⟨i,d,h1,h2,h3,h4,h5,h6,h7,h8⟩:=hz.parts
 refine⟨Xp ti,by simp[zeroValue,typeInfo,h1,h5],?_⟩
 unfold Xp zD
 cases ti.ag with
 | true=>
  refine Wa.2 ⟨ti.z,rfl,?_⟩
  induction ti.z with
  | nil=>trivial
  | cons x l ih=>exact⟨.v x,ih⟩
 | false=>exact .v _
theorem Lf (h:St cx Fr m Im w a σ){t e:Nat}{ti te:TI}(ht:TypOk P t ti)(he:ti.mv=some e)(hte:TypOk P e te){k:Nat}{l:List (Int×D)}(hl:get σ (.o k)=some (.mp l)){x:Value}(hx:Yz m Im w x (.mo k))(n:Int)(ok:Bool):
  ∃ v,(Instr.lookup t x (.int .i64 n) ok).run P w=.ok v w∧Yz m Im w v (if ok then .tu [(VD l n).getD (zD te),.v (.bool (VD l n).isSome)] else (VD l n).getD (zD te)):=by
 obtain⟨b,h1,h2⟩:=h.ok k _ hl
 obtain⟨es,clock,h3,h4,hbn⟩:=Tu.1 h2
 obtain⟨kt,g1,g2⟩:=ht.map he
 have hxb:x=.map (some b):=by
  cases hx with
  | mo k b' hb=>rw[h1] at hb;cases hb;rfl
 subst hxb
 obtain⟨z,z1,z2⟩:=JG (m:=m) (Im:=Im) (w:=w) hte
 have hget:(getObj b).run P w=.ok (.map es clock) w:=by simp[getObj,Sem.run,h3]
 have hc:=RK (P:=P) (w:=w) g2 es.isEmpty n
 rcases SX n 0 h4 with⟨f1,f2,_⟩ | ⟨i,v,d,f1,f2,f3,_,_⟩
 ·have hf:(Instr.findKey kt (.int .i64 n) es.toList).run P w=.ok none w:=by simp[Instr.findKey,run_underlying g2,f2]
  cases ok with
  | true=>exact⟨.tuple #[z,.bool false],by simp[Instr.lookup,run_underlying g1,hget,hc,hf,z1],by rw[f1];exact Qy.2 ⟨[z,.bool false],rfl,z2,.v _,trivial⟩⟩
  | false=>exact⟨z,by simp[Instr.lookup,run_underlying g1,hget,hc,hf,z1],by rw[f1];exact z2⟩
 have hf:(Instr.findKey kt (.int .i64 n) es.toList).run P w=.ok (some (0+i,v)) w:=by simp[Instr.findKey,run_underlying g2,f2]
 cases ok with
 | true=>exact⟨.tuple #[v,.bool true],by simp[Instr.lookup,run_underlying g1,hget,hc,hf],by rw[f1];exact Qy.2 ⟨[v,.bool true],rfl,f3,.v _,trivial⟩⟩
 | false=>exact⟨v,by simp[Instr.lookup,run_underlying g1,hget,hc,hf],by rw[f1];exact f3⟩
theorem U9.append:∀ {es fs:List MapEntry} {l r:List (Int×D)},U9 m Im w es l→U9 m Im w fs r→U9 m Im w (es++fs) (l++r)
 | [],_,[],_,_,h=>h
 | [],_,_ :: _,_,h,_=>h.elim
 | _ :: _,_,[],_,h,_=>h.elim
 | _ :: _,_,_ :: _,_,h,h'=>⟨h.1,h.2.1,h.2.2.append h'⟩
theorem VF.push {es:Array MapEntry}{clock:Nat}(h:VF es clock)(k v:Value):VF (es.push { key:=k,val:=v,born:=clock }) (clock+1):=by
 refine⟨?_,fun e he=>?_⟩
 ·rw[Array.toList_push,List.map_append,List.map_cons,List.map_nil]
  refine List.nodup_append.2 ⟨h.1,by simp,?_⟩
  intro a ha b hb e
  obtain⟨x,hx,rfl⟩:=List.mem_map.1 ha
  have:=h.2 x hx
  rw[List.mem_singleton] at hb
  simp only at hb
  omega
 rw[Array.toList_push] at he
 rcases List.mem_append.1 he with he | he
 ·have:=h.2 e he;omega
 rw[List.mem_singleton] at he;subst he;simp
theorem VC {α β:Type}(g:α→β)(f:α→α)(hf:∀ x,g (f x)=g x):∀ (l:List α) (i:Nat),(l.modify i f).map g=l.map g
 | [],i=>by cases i <;> rfl
 | x :: l,0=>by simp[hf]
 | x :: l,i+1=>by simp[VC g f hf l i]
theorem VF.same {es es':Array MapEntry}{clock:Nat}(h:VF es clock)(he:es'.toList.map (·.born)=es.toList.map (·.born)):VF es' clock:=by
 refine⟨by rw[he];exact h.1,fun e hm=>?_⟩
 have:e.born∈es'.toList.map (·.born):=List.mem_map.2 ⟨e,hm,rfl⟩
 rw[he] at this
 obtain⟨x,hx,q⟩:=List.mem_map.1 this
 rw[←q];exact h.2 x hx
theorem OQ (h:St cx Fr m Im w a σ){t e:Nat}{ti:TI}(ht:TypOk P t ti)(he:ti.mv=some e){k:Nat}{l:List (Int×D)}(hl:get σ (.o k)=some (.mp l)){x v:Value}{d:D}(hx:Yz m Im w x (.mo k))(n:Int)(hv:Yz m Im w v d):
  ∃ w',(Instr.mapUpdate t x (.int .i64 n) v).run P w=.ok () w'∧Z8 Im w w'∧St cx Fr m Im w' a (XW (.o k) (.mp (Qu l n d)) σ):=by
 obtain⟨b,h1,h2⟩:=h.ok k _ hl
 obtain⟨es,clock,h3,h4,hbn⟩:=Tu.1 h2
 obtain⟨kt,g1,g2⟩:=ht.map he
 have hxb:x=.map (some b):=by
  cases hx with
  | mo k b' hb=>rw[h1] at hb;cases hb;rfl
 subst hxb
 have hget:(getObj b).run P w=.ok (.map es clock) w:=by simp[getObj,Sem.run,h3]
 have hset:∀ o,(setObj b o).run P w=.ok () { w with heap:=w.heap.setIfInBounds b o }:=fun o=>by simp[setObj,Sem.run,h3]
 have hc:=RK (P:=P) (w:=w) g2 false n
 have hki:∀ o,Z8 Im w { w with heap:=w.heap.setIfInBounds b o }:=fun o c y u hi hu=>by
  refine(World.cell?_of_block (w:=w) (w':={ w with heap:=w.heap.setIfInBounds b o }) (a:=⟨c,y,none⟩) ?_).trans hu
  exact Array.getElem?_setIfInBounds_ne (by rintro rfl;exact h.mem.onim k _ y h1 hi)
 rcases SX n 0 h4 with⟨f1,f2,f3⟩ | ⟨i,u,d',f1,f2,f3,f4,f5⟩
 ·have hf:(Instr.findKey kt (.int .i64 n) es.toList).run P w=.ok none w:=by simp[Instr.findKey,run_underlying g2,f2]
  refine⟨{ w with heap:=w.heap.setIfInBounds b (.map (es.push { key:=.int .i64 n,val:=v,born:=clock }) (clock+1)) },by simp[Instr.mapUpdate,run_underlying g1,hget,hc,hf,hset],hki _,?_⟩
  refine h.setObj h1 fun w' hb hk=>Tu.2 ⟨_,_,hb,?_,hbn.push _ _⟩
  rw[f3 d,Array.toList_push]
  exact(h4.mono (Mp.le.refl m) hk fun _ _ h=>h).append ⟨rfl,hv.mono (Mp.le.refl m) hk fun _ _ h=>h,trivial⟩
 have hf:(Instr.findKey kt (.int .i64 n) es.toList).run P w=.ok (some (0+i,u)) w:=by simp[Instr.findKey,run_underlying g2,f2]
 have hkey:((es[0+i]?).map (·.key)).getD (.int .i64 n)=.int .i64 n:=by
  have:(es[0+i]?).map (·.key)=some (.int .i64 n):=by rw[Nat.zero_add];simpa using f4
  rw[this];rfl
 have hstay:(Instr.keyThatStays (.int .i64 n) (.int .i64 n)).run P w=.ok (.int .i64 n) w:=by
  unfold Instr.keyThatStays
  rw[if_pos]
  ·rfl
  simp[Instr.sameBits]
 refine⟨{ w with heap:=w.heap.setIfInBounds b (.map (es.modify (0+i) fun e=>{ e with key:=.int .i64 n,val:=v }) clock) },by simp only[Instr.mapUpdate,Sem.run_bind,run_underlying g1,Result.andThen_ok,hget,hc,hf,hkey,hstay];exact hset _,hki _,?_⟩
 refine h.setObj h1 fun w' hb hk=>Tu.2 ⟨_,_,hb,?_,hbn.same ?_⟩
 rotate_left
 ·rw[show (es.modify (0+i) fun e=>{ e with key:=.int .i64 n,val:=v }).toList=es.toList.modify (0+i) fun e=>{ e with key:=.int .i64 n,val:=v } from Array.toList_modify ..]
  exact VC (fun e:MapEntry=>e.born) (fun e=>{ e with key:=.int .i64 n,val:=v }) (fun _=>rfl) _ _
 have h6:=(f5 v d hv).mono (Mp.le.refl m) hk fun _ _ h=>h
 have e1:(es.modify (0+i) fun e=>{ e with key:=.int .i64 n,val:=v }).toList=es.toList.modify i fun e=>{ e with val:=v }:=by
  rw[Nat.zero_add,Array.toList_modify]
  apply List.ext_getElem?
  intro j
  rw[List.getElem?_modify,List.getElem?_modify]
  by_cases hj:i=j
  ·subst hj
   simp only[if_true]
   cases hg:es.toList[i]? with
   | none=>rfl
   | some e=>
    rw[hg] at f4
    simp only[Option.map_some,Option.some.injEq] at f4
    simp[f4]
  simp[hj]
 rw[e1];exact h6
end
end Go.Proofs.YtclihnccilkohaaGreat
