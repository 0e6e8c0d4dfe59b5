/-
  Parts of the proof.
-/
import Derived.Test.YtclihnccilkohaaGreatRowAuditChecksp4
import Derived.Laws.EntriesVeiled
import Derived.Test.YtclihnccilkohaaGreatRowAuditChecksp1
import Derived.RangeFuncWrites
set_option maxRecDepth 100000
set_option maxHeartbeats 1000000
set_option linter.unusedVariables false
set_option linter.unusedSimpArgs false
namespace Go.Proofs.YtclihnccilkohaaGreat
namespace Nm
theorem spend_keeps (s:St):(spend s).2.count=s.count/\(spend s).2.e=s.e:=by unfold spend;split <;> exact⟨rfl,rfl⟩
theorem fail_count (s:St)(c:Int):(fail s c).count=s.count:=by unfold fail;split <;> rfl
theorem unit_count (s:St):s.count<=(unit s).2.count/\((unit s).1=true->(unit s).2.count=s.count+1/\s.e=0/\(unit s).2.e=0):=by
 unfold unit
 split
 ·exact⟨Int.le_refl _,λ h=>by cases h⟩
 rename_i he
 split
 ·exact⟨by dsimp only;omega,λ h=>by cases h⟩
 have h1:=spend_keeps s
 generalize spend s=p at h1
 obtain⟨ok,s'⟩:=p
 cases ok
 ·exact⟨by dsimp only at h1 ⊢;omega,λ h=>by cases h⟩
 dsimp only at h1 ⊢
 exact⟨by omega,λ _=>⟨by omega,by omega,by omega⟩⟩
theorem seqM_count {g:Tm->St->Tm×St}(hg:∀ t s,s.count<=(g t s).2.count)(l:List Tm)(s:St):s.count<=(seqM g l s).2.count:=by
 induction l generalizing s with
 | nil=>exact Int.le_refl _
 | cons t l ih=>exact Int.le_trans (hg t s) (ih _)
theorem putW_count {thr:Thr}(h:∀ xs n t ins s,s.count<=(thr xs n t ins s).2.count)(t:Tm)(xs:List Tm)(s:St):s.count<=(putW thr t xs s).2.count:=by
 unfold putW
 split
 ·rw[fail_count];exact Int.le_refl _
 exact h _ _ _ _ _
theorem hit_count {thr:Thr}(h:∀ xs n t ins s,s.count<=(thr xs n t ins s).2.count)(xs:List Tm)(n:Nat)(t:Tm)(ins:Int)(args:List Tm)(s:St):s.count<=(hit thr xs n t ins args s).2.count:=by
 unfold hit
 split
 ·exact Int.le_refl _
 dsimp only
 split
 ·exact Int.le_refl _
 split
 ·exact Int.le_refl _
 split
 ·rw[fail_count];exact Int.le_refl _
 exact putW_count h _ _ _
theorem through_count (f:Nat):∀ xs n t ins s,s.count<=(through f xs n t ins s).2.count:=by
 induction f with
 | zero=>intro xs n t ins s;exact Int.le_refl _
 | succ f ih=>
  intro xs n t ins s
  unfold through
  dsimp only
  split
  ·exact Int.le_trans (unit_count s).1 (Int.le_trans (seqM_count (λ t s=>ih _ _ _ _ _) _ _) (hit_count ih _ _ _ _ _ _))
  exact(unit_count s).1
theorem wide_tz:Yv tz:=.mk _ _ _ _ (by simp) (by simp) λ t h=>by cases h
theorem wide_parts {t:Tm}(h:Yv t):t.binds.length<=100000/\t.args.length<=100000/\∀ u∈t.args,Yv u:=by
 cases t with
 | mk b k i a=>exact h.inv
theorem seqM_wide {g:Tm->St->Tm×St}(hg:∀ t s,Yv t->Yv (g t s).1)(l:List Tm)(h:∀ t∈l,Yv t)(s:St):∀ t∈(seqM g l s).1,Yv t:=by
 induction l generalizing s with
 | nil=>intro t ht;cases ht
 | cons u l ih=>
  intro t ht
  rcases List.mem_cons.1 ht with rfl | ht
  ·exact hg _ _ (h u (by simp))
  exact ih (λ t ht=>h t (by simp[ht])) _ t ht
theorem grown_wide {t:Tm}(h:Yv t)(y:Int):Yv (grown t y):=by
 unfold grown;split
 ·exact h
 exact h.lift y 0
def ThrWide (thr:Thr):Prop:=∀ xs n t ins s,Yv t->(∀ a∈xs,Yv a)->Yv (thr xs n t ins s).1
theorem putW_wide {thr:Thr}(h:ThrWide thr){t:Tm}{xs:List Tm}(ht:Yv t)(ha:∀ a∈xs,Yv a)(s:St):Yv (putW thr t xs s).1:=by
 unfold putW
 split
 ·exact wide_tz
 obtain⟨h1,h2,h3⟩:=wide_parts ht
 have hr:=h xs t.binds.length (.mk [] t.kind t.index t.args) 0 s (.mk _ _ _ _ (by simp) h2 h3) ha
 obtain⟨r1,r2,r3⟩:=wide_parts hr
 exact .mk _ _ _ _ (by rw[List.length_drop];omega) r2 r3
theorem hit_wide {thr:Thr}(h:ThrWide thr){xs:List Tm}{n:Nat}{t:Tm}{ins:Int}{args:List Tm}(ht:Yv t)(ha:∀ a∈xs,Yv a)(hl:args.length<=100000)(hw:∀ a∈args,Yv a)(s:St):Yv (hit thr xs n t ins args s).1:=by
 obtain⟨h1,h2,h3⟩:=wide_parts ht
 unfold hit
 split
 ·exact .mk _ _ _ _ h1 hl hw
 dsimp only
 split
 ·exact .mk _ _ _ _ h1 hl hw
 split
 ·exact .mk _ _ _ _ h1 hl hw
 split
 ·exact wide_tz
 have hu:∀ j,Yv (xs.getD j tz):=λ j=>by
  rw[List.getD_eq_getElem?_getD]
  by_cases hj:j<xs.length
  ·rw[List.getElem?_eq_getElem hj];exact ha _ (List.getElem_mem hj)
  rw[List.getElem?_eq_none (by omega)];exact wide_tz
 have hr:=putW_wide h (grown_wide (hu ((n:Int)-1-wr (t.index-ins)).toNat) (wr (wr (ins+n)-xs.length))) hw s
 obtain⟨r1,r2,r3⟩:=wide_parts hr
 exact .mk _ _ _ _ h1 r2 r3
theorem through_wide (f:Nat):ThrWide (through f):=by
 induction f with
 | zero=>intro xs n t ins s _ _;exact wide_tz
 | succ f ih=>
  intro xs n t ins s ht ha
  obtain⟨h1,h2,h3⟩:=wide_parts ht
  unfold through
  dsimp only
  split
  ·exact hit_wide ih ht ha (by rw[seqM_length];exact h2) (seqM_wide (λ t s ht=>ih _ _ _ _ _ ht ha) _ h3 _) _
  exact wide_tz
end Nm
end Go.Proofs.YtclihnccilkohaaGreat
namespace Go.Proofs.YtclihnccilkohaaGreat
open Go.RowKit
def TN2_320:TI:=⟨3,true,[Value.pointer none,Value.slice none 0 0,Value.int IntKind.i64 0],[(0,1,false),(1,1,false),(2,1,false)],none,40,6,none,false⟩
theorem OU:TypOk Tryz.prog 320 TN2_320:=by constructor <;> kernel_rfl
def TN2:List (Nat×TI):=[(62,TG_62),(3,TG_3),(60,TG_60),(320,TN2_320),(41,TG_41),(59,TG_59),(303,TN1_303),(50,TN1_50),(305,TN1_305),(106,TG_106)]
theorem ZC:Zd Tryz.prog TN2:=(((((((((((Zd.nil _).cons Yx).cons UL).cons Y0).cons UK).cons XI).cons Ym).cons OU).cons Xs).cons ZW).cons Yu)
theorem MY {s:Nm.St}(h:X1 s):0<=(Nm.spend s).2.left/\(Nm.spend s).2.left<=1000000000:=by
 have:=h.left
 unfold Nm.spend
 split
 ·exact⟨Int.le_refl _,by show (0:Int)<=1000000000;decide⟩
 rename_i hc;dsimp only;omega
theorem Np {s:Nm.St}(h:X1 s)(c:Int)(hc:c≠0):X1 (Nm.fail s c):=by
 unfold Nm.fail
 split
 ·exact⟨h.left,h.count,λ e=>absurd e hc⟩
 exact h
theorem UG {s:Nm.St}(h:X1 s):X1 (Nm.unit s).2:=by
 have h1:=h.count
 have h3:=MY h
 have h4:=Nm.spend_keeps s
 unfold Nm.unit
 split
 ·exact h
 rename_i he
 have he:s.e=0:=by simpa using he
 have h2:=h.e0 he
 split
 ·rename_i hc
  exact⟨h.left,⟨by dsimp only;omega,by dsimp only;omega⟩,λ e=>by cases e⟩
 rename_i hc
 split <;> rename_i hs <;> rw[hs] at h3 h4 <;> simp only at h3 h4 <;> refine⟨h3,⟨by dsimp only;omega,by dsimp only;omega⟩,λ e=>by dsimp only;omega⟩
theorem UC {g:Tm->Nm.St->Tm×Nm.St}(hg:∀ t s,X1 s->X1 (g t s).2):∀ (l:List Tm) (s:Nm.St),X1 s->X1 (Nm.seqM g l s).2
 | [],_,h=>h
 | t :: l,s,h=>UC hg l _ (hg t s h)
theorem TH {thr:Nm.Thr}(ht:∀ xs n t ins s,X1 s->X1 (thr xs n t ins s).2)(t:Tm)(xs:List Tm)(s:Nm.St)(h:X1 s):X1 (Nm.putW thr t xs s).2:=by
 unfold Nm.putW
 split
 ·exact Np h 1 (by decide)
 exact ht _ _ _ _ _ h
theorem IR {thr:Nm.Thr}(ht:∀ xs n t ins s,X1 s->X1 (thr xs n t ins s).2)(xs:List Tm)(n:Nat)(t:Tm)(ins:Int)(args:List Tm)(s:Nm.St)(h:X1 s):X1 (Nm.hit thr xs n t ins args s).2:=by
 unfold Nm.hit
 dsimp only
 repeat' split
 all_goals first | exact h | exact Np h 1 (by decide) | exact TH ht _ _ _ h
theorem XN (f:Nat):∀ xs n t ins s,X1 s->X1 (Nm.through f xs n t ins s).2:=by
 induction f with
 | zero=>intro xs n t ins s h;exact h
 | succ f ih=>
  intro xs n t ins s h
  unfold Nm.through
  dsimp only
  split
  ·exact IR ih _ _ _ _ _ _ (UC (λ t s h=>ih _ _ _ _ _ h) _ _ (UG h))
  exact UG h
def Hn (f:Nat):Prop:=∀ (s:Nm.St) (xs:List Tm) (n:Nat) (t:Tm) (ins:Int),X1 s->(s.e=0->100001-s.count<=f)->Yv t->(∀ a∈xs,Yv a)->xs.length<=n->n<=100000 ->
 ZB Tryz.prog 202 [.ag [.p 0 0,.sl 4 (eTms xs) none,.v (.int .i64 n)],.ag (eTm t),.v (.int .i64 ins)] (V8 s) (V8 (Nm.through f xs n t ins s).2) (.ag (eTm (Nm.through f xs n t ins s).1))
theorem X6:eTm Nm.tz=[.sl 2 [] none,.v (.int .i64 0),.v (.int .i64 0),.sl 4 [] none]:=rfl
theorem Yd {T:List (Nat×TI)}{rs:List ResultVar}{V V':D}{W σ:List (Key×D)}{e:Exit}{N:Nat}(he:e=.normal∨e=.ret)(h1:PH T σ rs=some V')(hv:Zm V' V)(h2:kW σ W):TN T rs V W e σ N:=⟨he,⟨V',h1,hv⟩,S8 h2⟩
theorem Zi {T:List (Nat×TI)}{rs:List ResultVar}{V V':D}{W σ:List (Key×D)}{e:Exit}(h1:PH T σ rs=some V')(h2:kW σ W:=by repeat first | exact trivial | refine And.intro rfl ?_)(hv:Zm V' V:=by repeat first | exact Zm.refl _ | exact Zm.nil _ | exact Zm.untag _ _ _ | refine Zm.ag ?_ | refine Zm.tu ?_ | refine ZO.cons ?_ ?_ | exact ZO.nil)(he:e=.normal∨e=.ret:=by first | exact .inr rfl | exact .inl rfl):TN T rs V W e σ 0:=Yd he h1 hv h2
set_option maxHeartbeats 1000000 in
theorem Ly {f:Nat}(hthr:Hn f)(s:Nm.St)(hs:X1 s)(hf:s.e=0->100001-s.count<=f)(t:Tm)(xs:List Tm)(ht:Yv t)(hx:∀ a∈xs,Yv a):
  ZB Tryz.prog 193 [.p 0 0,.ag (eTm t),.sl 4 (eTms xs) none] (V8 s) (V8 (Nm.put f t xs s).2) (.ag (eTm (Nm.put f t xs s).1)):=by
 obtain⟨bs,k,i,a⟩:=t
 obtain⟨w1,w2,w3⟩:=ht.inv
 obtain⟨p,hp⟩:∃ p,Nm.put f (.mk bs k i a) xs s=p:=⟨_,rfl⟩
 rw[hp,Zu]
 refine ZX 2 45 [ResultVar.cell 6 62] ZC (by kernel_rfl) Tryz.func193 rfl Tryz.ntmps193 rfl (by simp) ?dwords ?dbody
 case dwords=>simp[ZA,V8,D.ok,D.oks,ZM,Xa,WO,YK,Y8,Yi]
 case dbody=>
  intro cx hnt hn0
  obtain⟨left,dry,count,er⟩:=s
  dsimp only[V8,Tm.binds,Tm.kind,Tm.index,Tm.args]
  refine Zz ?_;refine Zx [] ZC hnt λ _ z9=>z9 _ _ ?_;refine Zz (Zz ?_)
  by_cases hc:er≠0∨xs.length>bs.length
  ·have hp2:p=(Nm.tz,Nm.fail ⟨left,dry,count,er⟩ 1):=by
    rw[<-hp];unfold Nm.put Nm.putW;exact if_pos hc
   have hfl:=SQ ⟨left,dry,count,er⟩ 1
   by_cases he:er=0
   ·have hl:xs.length>bs.length:=hc.resolve_left (λ h=>h he)
    refine Zx [(13,.v (.bool false)),(20,.v (.bool true))] ZC hnt λ K hK=>?_;refine And.intro (Zm.of_eq (by simp[he])) ?_;refine And.intro (Z7 (by rw[Zq,Zs];omega)) ?_;refine hK _ _ ?_;clear hK K;refine Zy (t:=true) rfl ?_;rw[if_pos rfl];refine Zz ?_;refine Zx [] ZC hnt λ K hK=>?_;refine Zk (hfl) ?_;refine hK _ _ ?_;clear hK K;refine Zz ?_
    refine Zx [] ZC hnt λ _ z9=>z9 _ _ ?_;refine Zv ?_
    rw[hp2,X6]
    exact Yd (N:=0) (.inr rfl) rfl (by repeat first | exact Zm.refl _ | exact Zm.nil _ | exact Zm.untag _ _ _ | refine Zm.ag ?_ | refine Zm.tu ?_ | refine ZO.cons ?_ ?_ | exact ZO.nil) (by repeat first | exact trivial | refine And.intro rfl ?_)
   skip
   refine Zx [(13,.v (.bool true))] ZC hnt λ K hK=>?_;refine And.intro (Zm.of_eq (by simp[he])) ?_;refine hK _ _ ?_;clear hK K;refine Zy (t:=true) rfl ?_;rw[if_pos rfl];refine Zz ?_;refine Zx [] ZC hnt λ K hK=>?_;refine Zk (hfl) ?_;refine hK _ _ ?_;clear hK K;refine Zz ?_;refine Zx [] ZC hnt λ _ z9=>z9 _ _ ?_;refine Zv ?_
   rw[hp2,X6]
   exact Yd (N:=0) (.inr rfl) rfl (by repeat first | exact Zm.refl _ | exact Zm.nil _ | exact Zm.untag _ _ _ | refine Zm.ag ?_ | refine Zm.tu ?_ | refine ZO.cons ?_ ?_ | exact ZO.nil) (by repeat first | exact trivial | refine And.intro rfl ?_)
  ·have he:er=0:=Decidable.byContradiction λ h=>hc (.inl h)
   have hl:xs.length<=bs.length:=by
    rcases Nat.lt_or_ge bs.length xs.length with h | h
    ·exact absurd (.inr h) hc
    exact h
   obtain⟨r,hr⟩:∃ r,Nm.through f xs bs.length (.mk [] k i a) 0 ⟨left,dry,count,er⟩=r:=⟨_,rfl⟩
   have hp2:p=(.mk (bs.drop xs.length) r.1.kind r.1.index r.1.args,r.2):=by
    rw[<-hp,<-hr];unfold Nm.put Nm.putW;exact if_neg hc
   have hcon:=hthr ⟨left,dry,count,er⟩ xs bs.length (.mk [] k i a) 0 hs hf (.mk _ _ _ _ (by simp) w2 w3) hx hl w1
   rw[hr,Zu,Zu] at hcon
   dsimp only[V8,Tm.binds,Tm.kind,Tm.index,Tm.args,eTys] at hcon
   refine Zx [(13,.v (.bool false)),(20,.v (.bool false))] ZC hnt λ K hK=>?_;refine And.intro (Zm.of_eq (by simp[he])) ?_;refine And.intro (Ze (by rw[Zq,Zs];omega)) ?_;refine hK _ _ ?_;clear hK K;refine Zy (t:=false) rfl ?_;rw[if_neg (by simp)];refine Zw ?_;refine Zz ?_;refine Zx [(29,.v (.int .i64 bs.length))] ZC hnt λ K hK=>?_;refine And.intro (Zr (by rw[Zs])) ?_
   refine hK _ _ ?_;clear hK K;refine Zz ?_;refine Zx [(36,.ag [.sl 2 [] none,.v (.int .i64 k),.v (.int .i64 i),.sl 4 (eTms a) none])] ZC hnt λ K hK=>?_;refine And.intro (XP) ?_;refine Zk (hcon) ?_;refine hK _ _ ?_;clear hK K;refine Zz ?_;refine Zx [(42,.sl 2 (eTys (bs.drop xs.length)) none)] ZC hnt λ K hK=>?_;refine And.intro (⟨by omega,by rw[Zq,Zs];omega⟩) ?_
   refine And.intro (Zm.of_eq (by simp[Zq,X8,List.take_of_length_le])) ?_;refine hK _ _ ?_;clear hK K;refine Zz ?_;refine Zx [] ZC hnt λ _ z9=>z9 _ _ ?_;refine Zv ?_
   rw[hp2,Zu]
   exact Yd (N:=0) (.inr rfl) rfl (Zm.refl _) (by repeat first | exact trivial | refine And.intro rfl ?_)
def Ka (b f x:Int):Prop:=f<=x/\b<0/\(b=-9223372036854775808∨x-f < -b)
def Nz (b f x:Int):Prop:=f<=x/\((1000<b)∨(0<=b/\1000-b<x)∨(b<0/\1000<x+b))
instance (b f x:Int):Decidable (Ka b f x):=by unfold Ka;infer_instance
instance (b f x:Int):Decidable (Nz b f x):=by unfold Nz;infer_instance
namespace Tm
section
variable {σ:Type} (g:σ->Int->σ) (v:Int->Int)
end
end Tm
mutual
def Ty.eqb:Ty->Ty->Bool
 | .mk a b,.mk c d=>Ty.eqbs a c&&decide (b=d)
def Ty.eqbs:List Ty->List Ty->Bool
 | [],[]=>true
 | x :: l,y :: r=>Ty.eqb x y&&Ty.eqbs l r
 | _,_=>false
end
theorem Ty.eqbs_iff {l:List Ty}(h:∀ t∈l,∀ u,Ty.eqb t u=true↔t=u):∀ r,Ty.eqbs l r=true↔l=r:=by
 induction l with
 | nil=>intro r;cases r <;> simp[Ty.eqbs]
 | cons t l ih=>
  intro r
  cases r with
  | nil=>simp[Ty.eqbs]
  | cons u r=>simp[Ty.eqbs,h t (by simp) u,ih (λ t ht=>h t (by simp[ht])) r]
theorem Ty.eqb_iff (t:Ty):∀ u,Ty.eqb t u=true↔t=u:=by
 induction t using Ty.ind with
 | h a b ih=>
  intro u
  obtain⟨c,d⟩:=u
  simp[Ty.eqb,Ty.eqbs_iff ih c]
instance:DecidableEq Ty:=λ t u=>decidable_of_iff _ (Ty.eqb_iff t u)
mutual
def Tm.eqb:Tm->Tm->Bool
 | .mk b k i a,.mk c m j d=>decide (b=c)&&(decide (k=m)&&(decide (i=j)&&Tm.eqbs a d))
def Tm.eqbs:List Tm->List Tm->Bool
 | [],[]=>true
 | x :: l,y :: r=>Tm.eqb x y&&Tm.eqbs l r
 | _,_=>false
end
theorem Tm.eqbs_iff {l:List Tm}(h:∀ t∈l,∀ u,Tm.eqb t u=true↔t=u):∀ r,Tm.eqbs l r=true↔l=r:=by
 induction l with
 | nil=>intro r;cases r <;> simp[Tm.eqbs]
 | cons t l ih=>
  intro r
  cases r with
  | nil=>simp[Tm.eqbs]
  | cons u r=>simp[Tm.eqbs,h t (by simp) u,ih (λ t ht=>h t (by simp[ht])) r]
theorem Tm.eqb_iff (t:Tm):∀ u,Tm.eqb t u=true↔t=u:=by
 induction t using Tm.ind with
 | h b k i a ih=>
  intro u
  obtain⟨c,m,j,d⟩:=u
  simp[Tm.eqb,Tm.eqbs_iff ih d]
instance:DecidableEq Tm:=λ t u=>decidable_of_iff _ (Tm.eqb_iff t u)
def HC (t:Tm):Bool:=decide (t.args=Ty.etas t.binds)&&(!decide (t.kind=0)||decide ((t.binds.length:Int)<=t.index))
namespace Pn
def isVar (n:Int)(acc:List Int)(a:Tm):Bool:=HC a&&(decide (a.kind=0)&&(decide (a.headIx<n) && !acc.contains a.headIx))
def varsL (n:Int):List Tm->List Int->Option (List Int)
 | [],acc=>some acc
 | a :: l,acc=>if isVar n acc a then varsL n l (acc++[a.headIx]) else none
def vars (t:Tm)(n:Int):List Int×Int:=if t.kind≠2∨n<0 then ([],1) else match varsL n t.args [] with
 | some l=>(l,0)
 | none=>([],6)
structure Use where
 mt:Int
 vars:List Int
 binds:List Ty
 path:List Int
def ix (v:Int):List Int->Option Nat
 | []=>none
 | u :: l=>if u=v then some 0 else (ix v l).map (· + 1)
def go (n:Int)(vs:List Int)(d:Int):Int:=if n<=d then d-n+vs.length else (vs.length:Int)-1-(match ix d vs with | some k=>(k:Int) | none=>0)
mutual
def tk (n:Int)(vs:List Int):Tm->Int->Tm
 | .mk bs k i a,ins=>.mk bs k (if k=0/\ins+(bs.length:Nat)<=i then ins+(bs.length:Nat)+go n vs (i-(ins+(bs.length:Nat))) else i) (tks n vs a (ins+(bs.length:Nat)))
def tks (n:Int)(vs:List Int):List Tm->Int->List Tm
 | [],_=>[]
 | t :: l,ins=>tk n vs t ins :: tks n vs l ins
end
abbrev Bd:=List (Int×Tm)
def bfind (b:Bd)(m:Int):Option Tm:=(b.find? λ p=>p.1==m).map (·.2)
end Pn
def TTY_104:TI:=⟨2,true,[Value.slice none 0 0,Value.int IntKind.i64 0],[(0,1,false),(1,1,false)],none,32,6,none,false⟩
theorem Yy:TypOk Tryz.prog 104 TTY_104:=by constructor <;> kernel_rfl
def TTY_22:TI:=⟨1,false,[Value.slice none 0 0],[],some 104,24,5,none,false⟩
theorem Yo:TypOk Tryz.prog 22 TTY_22:=by constructor <;> kernel_rfl
def TTY_217:TI:=⟨1,false,[Value.slice none 0 0],[],some 41,24,5,none,false⟩
theorem SF:TypOk Tryz.prog 217 TTY_217:=by constructor <;> kernel_rfl
def TTY_71:TI:=⟨1,false,[Value.slice none 0 0],[],some 3,24,5,none,false⟩
theorem YV:TypOk Tryz.prog 71 TTY_71:=by constructor <;> kernel_rfl
def TTY_143:TI:=⟨1,false,[Value.nilFunc],[],none,8,8,none,false⟩
theorem Vw:TypOk Tryz.prog 143 TTY_143:=by constructor <;> kernel_rfl
def TTY:List (Nat×TI):=[(106,TG_106),(3,TG_3),(41,TG_41),(104,TTY_104),(22,TTY_22),(217,TTY_217),(71,TTY_71),(143,TTY_143)]
theorem Z3:Zd Tryz.prog TTY:=(((((((((Zd.nil _).cons Vw).cons YV).cons SF).cons Yo).cons Yy).cons Ym).cons ZW).cons Yx)
theorem ZB.vle {P:Program}{f:FuncId}{args args':List D}{R W:List (Key×D)}{V V':D}(h:ZB P f args R W V)(ha:ZO args' args)(hv:Zm V V'):ZB P f args' R W V':=by
 refine⟨h.1,λ cx Fr m Im w vs hm hr hR=>(h.2 cx Fr m Im w vs hm ?_ hR).mono ?_⟩
 ·rw[ZS] at hr ⊢
  refine⟨hr.1.trans ha.1,λ i hi=>?_⟩
  have hi':i<args'.length:=by rw[ha.1];exact hi
  exact ha.2 i hi' hi m Im w _ (hr.2 i hi')
 rintro e w' ⟨v,Im',rfl,h1,h2,h3,h4,h5,h6,h7⟩
 exact⟨v,Im',rfl,h1,h2,h3,h4,h5,hv _ _ _ _ h6,h7⟩
def UY (ls:List (List Ty)):List (List D):=ls.map λ l=>[.sl 2 (eTys l) none]
theorem U2 (l:List (List Ty)):(UY l).length=l.length:=List.length_map ..
theorem SM (l:List (List Ty))(i:Nat)(h:i<l.length):(UY l).getD i []=[.sl 2 (eTys l[i]) none]:=by
 rw[UY,List.getD_eq_getElem?_getD,List.getElem?_map,List.getElem?_eq_getElem h];rfl
@[simp] theorem Gi (f g:Nat->Bool) (l:List (List Ty)):D.okss f g (UY l)=true:=D.okss_map _ l λ l _=>by simp[D.oks,D.ok,Yi]
theorem YO {a b:Int}(h:a≠b):Zm (.v (.bool (a != b))) (.v (.bool true)):=Zm.of_eq (by simp[h])
theorem Yq {a b:Int}(h:a=b):Zm (.v (.bool (a != b))) (.v (.bool false)):=Zm.of_eq (by simp[h])
theorem YT {a b:Int}(h:a=b):Zm (.v (.bool (a==b))) (.v (.bool true)):=Zm.of_eq (by simp[h])
theorem XM {a b:Int}(h:a≠b):Zm (.v (.bool (a==b))) (.v (.bool false)):=Zm.of_eq (by simp[h])
theorem W7 {α:Type}{l r:List α}{j:Nat}(h:l.take j=r.take j)(h1:l.length<=j)(h2:r.length<=j):l=r:=by
 rwa [List.take_of_length_le h1,List.take_of_length_le h2] at h
theorem XG {α:Type}{l r:List α}{j:Nat}(h:l.take j=r.take j)(h1:j<l.length)(h2:j<r.length)(he:l[j]=r[j]):l.take (j+1)=r.take (j+1):=by
 rw[List.take_add_one,List.take_add_one,h,List.getElem?_eq_getElem h1,List.getElem?_eq_getElem h2,he]
theorem R4 {α:Type}{l r:List α}{j:Nat}(h1:j<l.length)(h2:j<r.length)(he:l[j]≠r[j]):l≠r:=λ e=>he (by subst e;rfl)
def sl1:D->Prop
 | .sl _ l _=>l.length<=9223372036854775807
 | _=>True
def slOk:D->Prop
 | .ag cs=>∀ c∈cs,sl1 c
 | d=>sl1 d
theorem Yz.sl1 {m:Mp}{Im:Nat->Nat->Prop}{w:World}{x:Value}{d:D}(h:Yz m Im w x d):sl1 d:=by
 cases h with
 | sl a c bl off n X l g h1 ha hc hn ho hr hg=>exact h1.1
 | _=>trivial
theorem Yz.slOk {m:Mp}{Im:Nat->Nat->Prop}{w:World}{x:Value}{d:D}(h:Yz m Im w x d):slOk d:=by
 cases d with
 | ag cs=>
  cases h with
  | ag vs l hn hr=>
   intro c hc
   obtain⟨i,hi,rfl⟩:=List.getElem_of_mem hc
   exact(hr i hi).sl1
 | _=>exact h.sl1
theorem ZB.lens {P:Program}{f:FuncId}{args:List D}{R W:List (Key×D)}{V:D}(h:(∀ d∈args,slOk d)->ZB P f args R W V)(hen:WV P f=true:=by kernel_rfl):ZB P f args R W V:=by
 refine⟨hen,λ cx Fr m Im w vs hm hr hR=>?_⟩
 refine(h λ d hd=>?_).2 cx Fr m Im w vs hm hr hR
 obtain⟨i,hi,rfl⟩:=List.getElem_of_mem hd
 exact((ZS.1 hr).2 i hi).slOk
theorem LI (l r:List Ty)(h:∀ t∈l,∀ u,Zh Tryz.prog 67 [.ag (eTy t),.ag (eTy u)] (.v (.bool (decide (t=u))))):Zh Tryz.prog 66 [.sl 2 (eTys l) none,.sl 2 (eTys r) none,.fn 67 []] (.v (.bool (decide (l=r)))):=ZB.lens λ hlen=>by
 have hl:l.length<=9223372036854775807:=by have:=hlen _ (List.mem_cons_self ..);simp only[slOk,sl1,Zs] at this;exact this
 by_cases hlr:l.length=r.length
 ·skip
  refine Zn 0 32 [ResultVar.tmp 6] Z3 Tryz.func66 rfl Tryz.ntmps66 rfl λ cx hnt hn0=>?_
  skip
  refine Zz ?_;refine Zx [] Z3 hnt λ _ z9=>z9 _ _ ?_;refine Zz ?_;refine Zz ?_;refine Zx [(11,.v (.int .i64 (↑l.length))),(13,.v (.int .i64 (↑r.length))),(14,.v (.bool false))] Z3 hnt λ K hK=>?_;refine And.intro (Zr (by rw[Zs])) ?_;refine And.intro (Zr (by rw[Zs])) ?_;refine And.intro (Yq (by omega)) ?_;refine hK _ _ ?_;clear hK K
  refine Zy (t:=false) rfl ?_;rw[if_neg (by simp)];refine Zw ?_;refine Zz ?_;refine Zz ?_;refine Zx [(16,.v (.int .i64 (↑l.length)))] Z3 hnt λ K hK=>?_;refine And.intro (Zr (by rw[Zs])) ?_;refine hK _ _ ?_;clear hK K;refine Zt ?_
  refine Z6 (ι:={ j:Nat // l.take j=r.take j }) (λ j=>[(.t 1,.sl 2 (eTys r) none),(.t 2,.fn 67 []),(.t 15,.sl 2 (eTys l) none),(.t 16,.v (.int .i64 ↑l.length)),(.t 17,.v (.int .i64 ↑j.1))]) 0 (λ j=>l.length-j.1) (⟨0,rfl⟩) (VS.toA) λ j=>?_
  obtain⟨j,hj⟩:=j
  dsimp only
  by_cases hlt:j<l.length
  ·have hlt2:j<r.length:=by omega
   have hq:=h l[j] (List.getElem_mem hlt) r[j]
   rw[Zc,Zc] at hq
   by_cases he:l[j]=r[j]
   ·rw[decide_eq_true he] at hq
    refine Zz ?_;refine Zx [(18,.v (.bool true))] Z3 hnt λ K hK=>?_;refine And.intro Xd ?_;refine hK _ _ ?_;clear hK K;refine Zz ?_;refine Zy (t:=true) rfl ?_;rw[if_pos rfl];refine Zw ?_;refine Zz ?_;refine Zt ?_;refine Zz ?_;refine Zx [(20,.q [.sl 2 (eTys l[j].args) none,.v (.int .i64 l[j].base)])] Z3 hnt λ K hK=>?_;refine And.intro (XQ (Zs l)) ?_
    refine And.intro (XR (ZV l j) (Zc _)) ?_;refine hK _ _ ?_;clear hK K;refine Zz ?_;refine Zx [(24,.q [.sl 2 (eTys r[j].args) none,.v (.int .i64 r[j].base)])] Z3 hnt λ K hK=>?_;refine And.intro (XQ (Zs r)) ?_;refine And.intro (XR (ZV r j) (Zc _)) ?_;refine hK _ _ ?_;clear hK K;refine Zz ?_;refine Zx [] Z3 hnt λ K hK=>?_;refine Zk (hq) ?_
    refine hK _ _ ?_;clear hK K;refine Zy (t:=false) rfl ?_;rw[if_neg (by simp)];refine Zw ?_;refine Zx [(31,.v (.int .i64 (↑(j+1))))] Z3 hnt λ K hK=>?_;refine And.intro Ww ?_;refine hK _ _ ?_;clear hK K
    refine⟨⟨j+1,XG hj hlt hlt2 he⟩,by first | omega | (dsimp only;omega),VS.toA⟩
   rw[decide_eq_false he] at hq
   rw[decide_eq_false (R4 hlt hlt2 he)]
   refine Zz ?_;refine Zx [(18,.v (.bool true))] Z3 hnt λ K hK=>?_;refine And.intro Xd ?_;refine hK _ _ ?_;clear hK K;refine Zz ?_;refine Zy (t:=true) rfl ?_;rw[if_pos rfl];refine Zw ?_;refine Zz ?_;refine Zt ?_;refine Zz ?_;refine Zx [(20,.q [.sl 2 (eTys l[j].args) none,.v (.int .i64 l[j].base)])] Z3 hnt λ K hK=>?_;refine And.intro (XQ (Zs l)) ?_
   refine And.intro (XR (ZV l j) (Zc _)) ?_;refine hK _ _ ?_;clear hK K;refine Zz ?_;refine Zx [(24,.q [.sl 2 (eTys r[j].args) none,.v (.int .i64 r[j].base)])] Z3 hnt λ K hK=>?_;refine And.intro (XQ (Zs r)) ?_;refine And.intro (XR (ZV r j) (Zc _)) ?_;refine hK _ _ ?_;clear hK K;refine Zz ?_;refine Zx [] Z3 hnt λ K hK=>?_;refine Zk (hq) ?_
   refine hK _ _ ?_;clear hK K;refine Zy (t:=true) rfl ?_;rw[if_pos rfl];refine Zz ?_;refine Zx [] Z3 hnt λ _ z9=>z9 _ _ ?_;refine Zv ?_
   exact Zi rfl
  rw[decide_eq_true (W7 hj (by omega) (by omega))]
  refine Zz ?_;refine Zx [(18,.v (.bool false))] Z3 hnt λ K hK=>?_;refine And.intro X5 ?_;refine hK _ _ ?_;clear hK K;refine Zz ?_;refine Zy (t:=false) rfl ?_;rw[if_neg (by simp)];refine Zg ?_;refine Zz ?_;refine Zx [] Z3 hnt λ _ z9=>z9 _ _ ?_;refine Zv ?_
  exact Zi rfl
 rw[decide_eq_false (λ e=>hlr (by rw[e]))]
 refine Zn 0 32 [ResultVar.tmp 6] Z3 Tryz.func66 rfl Tryz.ntmps66 rfl λ cx hnt hn0=>?_
 skip
 refine Zz ?_;refine Zx [] Z3 hnt λ _ z9=>z9 _ _ ?_;refine Zz ?_;refine Zz ?_;refine Zx [(11,.v (.int .i64 (↑l.length))),(13,.v (.int .i64 (↑r.length))),(14,.v (.bool true))] Z3 hnt λ K hK=>?_;refine And.intro (Zr (by rw[Zs])) ?_;refine And.intro (Zr (by rw[Zs])) ?_;refine And.intro (YO (by omega)) ?_;refine hK _ _ ?_;clear hK K
 refine Zy (t:=true) rfl ?_;rw[if_pos rfl];refine Zz ?_;refine Zx [] Z3 hnt λ _ z9=>z9 _ _ ?_;refine Zv ?_
 exact Zi rfl
theorem Gx:∀ t u:Ty,Zh Tryz.prog 67 [.ag (eTy t),.ag (eTy u)] (.v (.bool (decide (t=u)))):=by
 intro t
 induction t using Ty.ind with
 | h a b ih=>
 intro u
 have hq:=LI a u.args ih
 rw[Zc,Zc]
 simp only[XL,Wv]
 by_cases hb:b=u.base
 ·have e:decide (Ty.mk a b=u)=decide (a=u.args):=by
   obtain⟨c,d⟩:=u
   rw[Bool.eq_iff_iff,decide_eq_true_iff,decide_eq_true_iff,Wv] at *
   subst hb
   simp[XL]
  rw[e]
  refine Zn 0 17 [ResultVar.tmp 4] Z3 Tryz.func67 rfl Tryz.ntmps67 rfl λ cx hnt hn0=>?_
  skip
  refine Zz ?_;refine Zx [] Z3 hnt λ _ z9=>z9 _ _ ?_;refine Zz ?_;refine Zx [(9,.v (.bool true))] Z3 hnt λ K hK=>?_;refine And.intro (YT hb) ?_;refine Zk (hq) ?_;refine hK _ _ ?_;clear hK K;refine Zv ?_
  exact Zi rfl
 ·have e:decide (Ty.mk a b=u)=false:=decide_eq_false λ e=>hb (by rw[<-e];rfl)
  rw[e]
  refine Zn 0 17 [ResultVar.tmp 4] Z3 Tryz.func67 rfl Tryz.ntmps67 rfl λ cx hnt hn0=>?_
  skip
  refine Zz ?_;refine Zx [] Z3 hnt λ _ z9=>z9 _ _ ?_;refine Zz ?_;refine Zx [(9,.v (.bool false))] Z3 hnt λ K hK=>?_;refine And.intro (XM hb) ?_;refine hK _ _ ?_;clear hK K;refine Zv ?_
  exact Zi rfl
theorem Qh (l r:List Ty)(f:FuncId)(hf:f=67):Zh Tryz.prog 66 [.sl 2 (eTys l) none,.sl 2 (eTys r) none,.fn f []] (.v (.bool (decide (l=r)))):=by
 subst hf
 exact LI l r λ t _=>Gx t
theorem JD {a:List Ty}{t:Ty}(h:t∈a):t.size<=Ty.sizes a:=by
 induction a with
 | nil=>cases h
 | cons u a ih=>
  simp only[Ty.sizes]
  rcases List.mem_cons.1 h with rfl | h
  ·omega
  have:=ih h;omega
theorem UF (a:List Ty)(b:Int):(Ty.mk a b).size=Ty.sizes a+1:=by simp[Ty.size]
theorem Va (l:List Ty)(j:Nat)(h:j<l.length):eTys (l.take j)++[[.sl 2 (eTys l[j].args) none,.v (.int .i64 l[j].base)]]=eTys (l.take (j+1)):=by
 rw[List.take_add_one,List.getElem?_eq_getElem h,Option.toList_some,Wn,eTys,eTys,Zc]
theorem RX:∀ t:Ty,t.size<=1000000->Zh Tryz.prog 77 [.ag (eTy t)] (.ag (eTy t)):=by
 intro t
 induction t using Ty.ind with
 | h a b ih=>
 intro hz
 rw[UF] at hz
 have hal:=Ty.le_sizes a
 rw[Zc]
 simp only[XL,Wv]
 refine Zn 0 25 [ResultVar.cell 2 106] Z3 Tryz.func77 rfl Tryz.ntmps77 rfl λ cx hnt hn0=>?_
 skip
 refine Zz ?_;refine Zx [] Z3 hnt λ _ z9=>z9 _ _ ?_;refine Zz ?_;refine Zx [] Z3 hnt λ _ z9=>z9 _ _ ?_;refine Zz ?_;refine Zz ?_;refine Zx [(11,.v (.int .i64 (↑a.length)))] Z3 hnt λ K hK=>?_;refine And.intro (Zr (by rw[Zs])) ?_;refine hK _ _ ?_;clear hK K
 refine DW.vs (VS.row (k:=5) (off:=0) 106 2 rfl) ?_
 refine Zt ?_
 refine Z6 (ι:={ j:Nat // j<=a.length }) (λ j=>[(.t 2,.p 1 0),(.t 3,.p 5 0),(.t 10,.sl 2 (eTys a) none),(.t 11,.v (.int .i64 ↑a.length)),(.t 12,.v (.int .i64 ↑j.1)),(.c 1 0,.v (.slice none 0 0)),(.c 1 1,.v (.int .i64 0)),(.c 5 0,.sl 2 (eTys (a.take j.1)) (some 11)),(.c 5 1,.v (.int .i64 b)),(.r 11,.rw 106 2 j.1)]) 12 (λ j=>a.length-j.1) (⟨0,Nat.zero_le _⟩) (VS.toA) λ j=>?_
 obtain⟨j,hj⟩:=j
 dsimp only
 by_cases hlt:j<a.length
 ·have hmem:=JD (List.getElem_mem hlt)
  have hih:=ih a[j] (List.getElem_mem hlt) (by omega)
  have hsn:=Va a j hlt
  have hlq:(eTys (a.take j)).length=j:=by rw[Zs,List.length_take];omega
  rw[Zc] at hih
  refine Zz ?_;refine Zx [(13,.v (.bool true))] Z3 hnt λ K hK=>?_;refine And.intro Xd ?_;refine hK _ _ ?_;clear hK K;refine Zz ?_;refine Zy (t:=true) rfl ?_;rw[if_pos rfl];refine Zw ?_;refine Zz ?_;refine Zt ?_;refine Zz ?_;refine Zx [(14,.q [.sl 2 (eTys a[j].args) none,.v (.int .i64 a[j].base)])] Z3 hnt λ K hK=>?_;refine And.intro (XQ (Zs a)) ?_
  refine And.intro (XR (ZV a j) (Zc _)) ?_;refine hK _ _ ?_;clear hK K;refine ZQ [(21,.sl 2 (eTys (a.take (j+1))) (some 11))] Z3 hnt λ K hK=>?_;refine Zk (hih) ?_;refine And.intro (⟨by rw[hlq],by rw[hlq];simp;omega⟩) ?_;refine And.intro (Zm.of_eq (by rw[hsn])) ?_;refine hK _ _ (by kernel_rfl) ?_;clear hK K;refine Zx [(23,.v (.int .i64 (↑(j+1))))] Z3 hnt λ K hK=>?_
  refine And.intro Ww ?_;refine hK _ _ ?_;clear hK K
  refine⟨⟨j+1,by omega⟩,by first | omega | (dsimp only;omega),(by try simp only[List.length_append,List.length_take,List.length_cons,List.length_nil,Nat.zero_add,hlq];exact VS.toA)⟩
 rw[List.take_of_length_le (by omega)]
 refine Zz ?_;refine Zx [(13,.v (.bool false))] Z3 hnt λ K hK=>?_;refine And.intro X5 ?_;refine hK _ _ ?_;clear hK K;refine Zz ?_;refine Zy (t:=false) rfl ?_;rw[if_neg (by simp)];refine Zg ?_;refine Zz ?_;refine Zx [] Z3 hnt λ _ z9=>z9 _ _ ?_;refine Zv ?_
 exact Zi rfl
set_option maxRecDepth 100000 in
set_option maxHeartbeats 400000 in
theorem Jo (n:Nat)(m:Int)(w:World)(hnm:m=n)(hn:n<=1000000):
  Calls Tryz.prog 129 #[.slice none 0 0,.int .i64 m] w λ e w'=>∃ v,e=.returned v/\Below w.heap.size w w'/\(v=.slice none 0 0∨(v.ownBlock=some w.heap.size/\∃ g,v=.slice (some ⟨w.heap.size,0,none⟩) 0 g/\w'.ownsRow w.heap.size 106 2 v 0 [])):=by
 subst hnm
 obtain⟨i0,hi0,hz0,hz1,hz2⟩:=info_parts LO
 by_cases h0:n=0
 ·subst h0
  go_enter Tryz.func129,Tryz.ntmps129
  go_wp2_with fail
  go_ret
  exact⟨_,rfl,Below.refl _ _,.inl rfl⟩
 have hr:∀ ty,(Builtin.append_ #[41,3] ty #[.slice none 0 0,.int .i64 (n:Int)]).run Tryz.prog w=_:=λ ty=>
  Lib.run_append_grow_zeros w 41 3 ty 106 i0 (.agg #[.slice none 0 0,.int .i64 0]) .i64 .i64 Tryz.underlying41 Tryz.underlying3 hi0 hz0 none 0 0 [] (run_firstCells_none _ _ _ _ _) n (by omega) (by rw[hz1];decide) (by omega) (by omega) (by rw[hz2];omega) (by rw[hz2];exact growslice_fits (by omega) (by omega))
 have hr':∃ g,n<=g/\g<=maxLen/\∀ ty,(Builtin.append_ #[41,3] ty #[.slice none 0 0,.int .i64 (n:Int)]).run Tryz.prog w=.ok (.slice (some ⟨w.heap.size,0,none⟩) n g) (w.drew.alloc (.cells (Builtin.zeroCells (#[.slice none 0 0,.int .i64 0]) n++Builtin.zeroCells (#[.slice none 0 0,.int .i64 0]) (g-n)) 106)):=by
  refine⟨grownCap w n 0 106,grownCap_ge _ _ _ _,grownCap_le_maxLen _ _ _ _ (by unfold maxLen;omega),λ ty=>?_⟩
  have:=hr ty
  simpa[Value.cells] using this
 obtain⟨g,hg1,hg2,hg⟩:=hr'
 have hg2':=hg2
 clear hg2
 clear hr
 have hn0:0<(n:Int):=by omega
 have Hg:=Lib.hid hg;clear hg
 go_enter Tryz.func129,Tryz.ntmps129
 go_wp2_with (at_builtin;refine Vh rfl _ _ _ _ _ rfl (Hg.out _) ?_)
 go_ret
 refine⟨_,rfl,(Below.refl _ _).drew.alloc (Nat.le_refl _) _,.inr ⟨rfl,g,rfl,rfl,.inr ⟨w.heap.size,g,_,rfl,Nat.le_refl _,heap_alloc_new w.drew _,Nat.zero_le _,hg2',?_,rfl⟩⟩⟩
 first | (simp[size_zeroCells];done) | (simp[size_zeroCells];omega)
theorem IP (n:Int)(h0:0<=n)(h1:n<=1000000)(nm:Nat):Vn Tryz.prog 129 [.v (.slice none 0 0),.v (.int .i64 n)] [] nm [(.r nm,.rw 106 2 0)] (.sl 2 [] (some nm)):=by
 refine⟨by kernel_rfl,λ cx Fr m Im w a σ vs hn hs hv _=>?_⟩
 match vs,hv with
 | [x,y],hv=>
  have:=Yr.1 hv.1;subst this
  have:=Yr.1 hv.2.1;subst this
  refine(Jo n.toNat n w (by omega) (by omega)).mono ?_
  rintro e w' ⟨v,rfl,hb,hv⟩
  rw[XY]
  rcases hv with rfl | ⟨ho,g,rfl,hr⟩
  ·have hg:(m.setR nm ⟨.slice none 0 0,0,106,2⟩).row nm=some ⟨.slice none 0 0,0,106,2⟩:=by simp[Mp.setR]
   exact⟨_,_,Im,rfl,(hs.newRow hn 106 2).below0 hb,Tz hg⟩
  obtain⟨s1,s2⟩:=hs.rowMade hn (.slice (some ⟨w.heap.size,0,none⟩) 0 g) 106 2 hb ⟨hr.1,hr.2.imp id fun⟨g,cap,cur,q1,q2,q3⟩=>⟨g,cap,cur,q1,Nat.zero_le _,q3⟩⟩ ho
  refine⟨_,_,Im,rfl,s1,?_⟩
  exact .sl _ _ 0 0 2 (λ _ _=>undef) [] (some nm) ⟨Nat.zero_le _,Nat.zero_le _⟩ (λ h=>absurd h (by simp)) (λ i _ h=>absurd h (by simp)) (λ i h=>absurd h (by simp)) (λ i _ h=>absurd h (by simp)) (λ i h=>absurd h (by simp)) λ r e=>by
   cases e;exact⟨_,by simp[Mp.setR];rfl,Nat.le_refl _,λ _=>rfl⟩
def lens:List (List Ty)->Nat
 | []=>0
 | l :: r=>l.length+lens r
theorem R7 (ls:List (List Ty))(j:Nat)(h:j<ls.length):lens (ls.take (j+1))=lens (ls.take j)+ls[j].length:=by
 induction ls generalizing j with
 | nil=>simp at h
 | cons l r ih=>
  cases j with
  | zero=>simp[lens]
  | succ j=>simp only[List.take_succ_cons,lens,List.getElem_cons_succ];rw[ih j (by simpa using h)];omega
theorem NB (ls:List (List Ty)):ls.flatten.length=lens ls:=by
 induction ls with
 | nil=>rfl
 | cons l r ih=>simp[lens,ih]
theorem Nx (ls:List (List Ty))(j:Nat):lens (ls.take j)<=lens ls:=by
 induction ls generalizing j with
 | nil=>simp[lens]
 | cons l r ih=>
  cases j with
  | zero=>simp[lens]
  | succ j=>simp only[List.take_succ_cons,lens];have:=ih j;omega
theorem Mi (ls:List (List Ty))(j:Nat)(h:j<ls.length):(ls.take (j+1)).flatten=(ls.take j).flatten++ls[j]:=by
 rw[List.take_add_one,List.getElem?_eq_getElem h,List.flatten_append];simp
set_option maxHeartbeats 1000000 in
theorem P5 (ls:List (List Ty))(hl:lens ls<=900000)(hn:ls.length<=1000):Zh Tryz.prog 105 [.sl 1 (UY ls) none] (.sl 2 (eTys ls.flatten) none):=by
 refine Zn 0 36 [ResultVar.tmp 2] Z3 Tryz.func105 rfl Tryz.ntmps105 rfl λ cx hnt hn0=>?_
 skip
 refine Zz ?_;refine Zx [] Z3 hnt λ _ z9=>z9 _ _ ?_;refine Zz ?_;refine Zx [] Z3 hnt λ _ z9=>z9 _ _ ?_;refine Zz ?_;refine Zz ?_;refine Zx [(10,.v (.int .i64 (ls.length)))] Z3 hnt λ K hK=>?_;refine And.intro (Zr (by rw[U2])) ?_;refine hK _ _ ?_;clear hK K;refine Zt ?_
 refine Z6 (ι:=Nat) (λ j=>[(.t 0,.sl 1 (UY ls) none),(.t 9,.sl 1 (UY ls) none),(.t 10,.v (.int .i64 ls.length)),(.t 11,.v (.int .i64 (j:Int))),(.t 3,.v (.int .i64 (lens (ls.take j):Nat)))]) 0 (λ j=>ls.length-j) (0) ((VS.toK (by omega) (by repeat first | exact trivial | refine And.intro (And.intro (by first | rfl | simp[D.ok,D.oks,D.okss,D.okm,Xi,X7,lens]) (by first | exact Or.inl rfl | exact Or.inr ⟨_,rfl,(by repeat first | exact Zm.refl _ | exact Zm.nil _ | exact Zm.untag _ _ _ | refine Zm.ag ?_ | refine Zm.tu ?_ | refine ZO.cons ?_ ?_ | exact ZO.nil),trivial⟩ | simp[get,Key.eq,lens])) ?_))) λ j=>?_
 by_cases hlt:j<ls.length
 ·have h1:=R7 ls j hlt
  have h2:=Nx ls (j+1)
  refine Zz ?_;refine Zx [(12,.v (.bool true))] Z3 hnt λ K hK=>?_;refine And.intro Xd ?_;refine hK _ _ ?_;clear hK K;refine Zz ?_;refine Zy (t:=true) rfl ?_;rw[if_pos rfl];refine Zw ?_;refine Zz ?_;refine Zt ?_;refine Zz ?_;refine Zx [(13,.q [.sl 2 (eTys ls[j]) none])] Z3 hnt λ K hK=>?_;refine And.intro (⟨by omega,by rw[U2];omega⟩) ?_
  refine And.intro (Zm.of_eq (by rw[Int.toNat_natCast,SM ls j hlt])) ?_;refine hK _ _ ?_;clear hK K;refine Zz ?_;refine Zx [(18,.v (.int .i64 (↑(lens (ls.take (j+1))))))] Z3 hnt λ K hK=>?_;refine And.intro (Zr (by rw[Zs,IntWalk.i64_in _ (by omega)];omega)) ?_;refine hK _ _ ?_;clear hK K;refine Zz ?_;refine Zx [(20,.v (.bool false))] Z3 hnt λ K hK=>?_
  refine And.intro X5 ?_;refine hK _ _ ?_;clear hK K;refine Zy (t:=false) rfl ?_;rw[if_neg (by simp)];refine Zw ?_;refine Zx [(22,.v (.int .i64 (↑(j+1))))] Z3 hnt λ K hK=>?_;refine And.intro Ww ?_;refine hK _ _ ?_;clear hK K
  refine⟨j+1,by first | omega | (dsimp only;omega),VS.toA⟩
 have h3:ls.take j=ls:=List.take_of_length_le (by omega)
 have hg:=IP (lens (ls.take j):Nat) (by omega) (by rw[h3];omega)
 rw[h3] at hg ⊢
 refine Zz ?_;refine Zx [(12,.v (.bool false))] Z3 hnt λ K hK=>?_;refine And.intro X5 ?_;refine hK _ _ ?_;clear hK K;refine Zz ?_;refine Zy (t:=false) rfl ?_;rw[if_neg (by simp)];refine Zg ?_;refine Zz ?_;refine Zx [] Z3 hnt λ K hK=>?_;refine H6 (hg _) ?_;refine hK _ _ ?_;clear hK K;refine Zz ?_;refine Zz ?_;refine Zx [(26,.v (.int .i64 (ls.length)))] Z3 hnt λ K hK=>?_
 refine And.intro (Zr (by rw[U2])) ?_;refine hK _ _ ?_;clear hK K;refine Zt ?_
 refine Z6 (ι:=Nat) (λ j=>[(.t 25,.sl 1 (UY ls) none),(.t 26,.v (.int .i64 ls.length)),(.t 27,.v (.int .i64 (j:Int))),(.t 6,.sl 2 (eTys (ls.take j).flatten) (some 2)),(.r 2,.rw 106 2 (ls.take j).flatten.length)]) 3 (λ j=>ls.length-j) (0) (VS.toA) λ i=>?_
 by_cases hli:i<ls.length
 ·have h4:=R7 ls i hli
  have h5:=Nx ls (i+1)
  have h6:=Mi ls i hli
  have h7:=NB (ls.take i)
  refine Zz ?_;refine Zx [(28,.v (.bool true))] Z3 hnt λ K hK=>?_;refine And.intro Xd ?_;refine hK _ _ ?_;clear hK K;refine Zz ?_;refine Zy (t:=true) rfl ?_;rw[if_pos rfl];refine Zw ?_;refine Zz ?_;refine Zt ?_;refine Zz ?_;refine Zx [(29,.q [.sl 2 (eTys ls[i]) none])] Z3 hnt λ K hK=>?_;refine And.intro (⟨by omega,by rw[U2];omega⟩) ?_
  refine And.intro (Zm.of_eq (by rw[Int.toNat_natCast,SM ls i hli])) ?_;refine hK _ _ ?_;clear hK K;refine Zx [(33,.sl 2 (eTys (ls.take (i+1)).flatten) (some 2))] Z3 hnt λ K hK=>?_;refine And.intro (⟨by rw[Zs],by rw[Zs,Zs,h7];omega⟩) ?_;refine And.intro (Zm.of_eq (by rw[h6,Wn])) ?_;refine hK _ _ ?_;clear hK K;refine Zx [(34,.v (.int .i64 (↑(i+1))))] Z3 hnt λ K hK=>?_
  refine And.intro Ww ?_;refine hK _ _ ?_;clear hK K
  have h8:(eTys (ls.take i).flatten++eTys ls[i]).length=(ls.take (i+1)).flatten.length:=by rw[h6,<-Wn,Zs]
  refine⟨i+1,by first | omega | (dsimp only;omega),(by try simp only[List.length_append,List.length_take,List.length_cons,List.length_nil,Nat.zero_add,h8];exact VS.toA)⟩
 have h9:ls.take i=ls:=List.take_of_length_le (by omega)
 rw[h9]
 refine Zz ?_;refine Zx [(28,.v (.bool false))] Z3 hnt λ K hK=>?_;refine And.intro X5 ?_;refine hK _ _ ?_;clear hK K;refine Zz ?_;refine Zy (t:=false) rfl ?_;rw[if_neg (by simp)];refine Zg ?_;refine Zz ?_;refine Zx [] Z3 hnt λ _ z9=>z9 _ _ ?_;refine Zv ?_
 exact Zi rfl
theorem Sz (t:Ty)(l:List Ty)(hl:Ty.sizes l+t.size<=900000):Zh Tryz.prog 127 [.ag (eTy t),.sl 2 (eTys l) none] (.ag (eTy (.mk (l++t.args) t.base))):=by
 have h1:=Ty.le_sizes l
 have h2:t.size=Ty.sizes t.args+1:=by obtain⟨a,b⟩:=t;exact UF a b
 have h3:=Ty.le_sizes t.args
 have hcat:=P5 [l,t.args] (by simp[lens];omega) (by simp)
 simp only[List.flatten_cons,List.flatten_nil,List.append_nil] at hcat
 have hco:=RX (.mk (l++t.args) t.base) (by rw[UF,Ty.sizes_append];omega)
 rw[Zc] at hco ⊢
 rw[Zc]
 simp only[XL,Wv] at hco ⊢
 refine Zn 0 14 [ResultVar.cell 4 106] Z3 Tryz.func127 rfl Tryz.ntmps127 rfl λ cx hnt hn0=>?_
 skip
 refine Zz ?_;refine Zx [] Z3 hnt λ _ z9=>z9 _ _ ?_;refine Zz ?_;refine ZQ [(8,.sl 1 (UY [l,t.args]) none)] Z3 hnt λ K hK=>?_;refine And.intro (Zm.untag _ _ _) ?_;refine Zk (hcat) ?_;refine Zk (hco) ?_;refine hK _ _ (by kernel_rfl) ?_;clear hK K;refine Zv ?_
 exact Zi rfl
theorem LR (b:Int)(l:List Ty)(hl:Ty.sizes l<=900000):Zh Tryz.prog 41 [.v (.int .i64 b),.sl 2 (eTys l) none] (.ag (eTy (.mk l b))):=by
 have hco:=RX (.mk l b) (by rw[UF];omega)
 rw[Zc] at hco ⊢
 simp only[XL,Wv] at hco ⊢
 refine Zn 0 9 [ResultVar.cell 4 106] Z3 Tryz.func41 rfl Tryz.ntmps41 rfl λ cx hnt hn0=>?_
 skip
 refine Zz ?_;refine Zx [] Z3 hnt λ _ z9=>z9 _ _ ?_;refine Zz ?_;refine Zx [] Z3 hnt λ K hK=>?_;refine Zk (hco) ?_;refine hK _ _ ?_;clear hK K;refine Zv ?_
 exact Zi rfl
theorem QQ:∀ t u:Ty,Zh Tryz.prog 88 [.ag (eTy t),.ag (eTy u)] (.v (.bool (decide (t=u)))):=by
 intro t
 induction t using Ty.ind with
 | h a b ih=>
 intro u
 refine ZB.lens λ hlen=>?_
 have hl:a.length<=9223372036854775807:=by
  have:=hlen _ (List.mem_cons_self ..)
  rw[Zc] at this
  have:=this _ (List.mem_cons_self ..)
  simp only[sl1,Zs,XL] at this;exact this
 rw[Zc,Zc]
 simp only[XL,Wv]
 by_cases hb:b=u.base
 ·have e:decide (Ty.mk a b=u)=decide (a=u.args):=by
   obtain⟨c,d⟩:=u
   rw[Bool.eq_iff_iff,decide_eq_true_iff,decide_eq_true_iff,Wv] at *
   subst hb
   simp[XL]
  rw[e]
  by_cases hlr:a.length=u.args.length
  ·skip
   refine Zn 0 39 [ResultVar.tmp 4] Z3 Tryz.func88 rfl Tryz.ntmps88 rfl λ cx hnt hn0=>?_
   skip
   refine Zz ?_;refine Zx [] Z3 hnt λ _ z9=>z9 _ _ ?_;refine Zz ?_;refine Zz ?_;refine Zx [(10,.v (.bool false)),(14,.v (.int .i64 (↑a.length))),(17,.v (.int .i64 (↑u.args.length))),(18,.v (.bool false))] Z3 hnt λ K hK=>?_;refine And.intro (Yq hb) ?_;refine And.intro (Zr (by rw[Zs])) ?_;refine And.intro (Zr (by rw[Zs])) ?_
   refine And.intro (Yq (by omega)) ?_;refine hK _ _ ?_;clear hK K;refine Zy (t:=false) rfl ?_;rw[if_neg (by simp)];refine Zw ?_;refine Zz ?_;refine Zz ?_;refine Zx [] Z3 hnt λ _ z9=>z9 _ _ ?_;refine Zt ?_
   refine Z6 (ι:={ j:Nat // a.take j=u.args.take j }) (λ j=>[(.t 2,.p 0 0),(.t 3,.p 1 0),(.t 5,.v (.int .i64 ↑j.1)),(.c 0 0,.sl 2 (eTys a) none),(.c 1 0,.sl 2 (eTys u.args) none)]) 2 (λ j=>a.length-j.1) (⟨0,rfl⟩) (VS.toA) λ j=>?_
   obtain⟨j,hj⟩:=j
   dsimp only
   by_cases hlt:j<a.length
   ·have hlt2:j<u.args.length:=by omega
    have hq:=ih a[j] (List.getElem_mem hlt) u.args[j]
    rw[Zc,Zc] at hq
    by_cases he:a[j]=u.args[j]
    ·rw[decide_eq_true he] at hq
     refine Zz ?_;refine Zz ?_;refine Zx [(23,.v (.int .i64 (↑a.length))),(24,.v (.bool true))] Z3 hnt λ K hK=>?_;refine And.intro (Zr (by rw[Zs])) ?_;refine And.intro Xd ?_;refine hK _ _ ?_;clear hK K;refine Zy (t:=true) rfl ?_;rw[if_pos rfl];refine Zw ?_;refine Zz ?_;refine Zt ?_;refine Zz ?_;refine ZQ [(30,.q [.sl 2 (eTys a[j].args) none,.v (.int .i64 a[j].base)]),(35,.q [.sl 2 (eTys u.args[j].args) none,.v (.int .i64 u.args[j].base)])] Z3 hnt λ K hK=>?_
     refine And.intro (XQ (Zs a)) ?_;refine And.intro (XR (ZV a j) (Zc _)) ?_;refine And.intro (XQ (Zs u.args)) ?_;refine And.intro (XR (ZV u.args j) (Zc _)) ?_;refine Zk (hq) ?_;refine hK _ _ (by kernel_rfl) ?_;clear hK K;refine Zy (t:=false) rfl ?_;rw[if_neg (by simp)];refine Zw ?_;refine Zx [(26,.v (.int .i64 (↑(j+1))))] Z3 hnt λ K hK=>?_
     refine And.intro Ww ?_;refine hK _ _ ?_;clear hK K
     refine⟨⟨j+1,XG hj hlt hlt2 he⟩,by first | omega | (dsimp only;omega),VS.toA⟩
    rw[decide_eq_false he] at hq
    rw[decide_eq_false (R4 hlt hlt2 he)]
    refine Zz ?_;refine Zz ?_;refine Zx [(23,.v (.int .i64 (↑a.length))),(24,.v (.bool true))] Z3 hnt λ K hK=>?_;refine And.intro (Zr (by rw[Zs])) ?_;refine And.intro Xd ?_;refine hK _ _ ?_;clear hK K;refine Zy (t:=true) rfl ?_;rw[if_pos rfl];refine Zw ?_;refine Zz ?_;refine Zt ?_;refine Zz ?_;refine ZQ [(30,.q [.sl 2 (eTys a[j].args) none,.v (.int .i64 a[j].base)]),(35,.q [.sl 2 (eTys u.args[j].args) none,.v (.int .i64 u.args[j].base)])] Z3 hnt λ K hK=>?_
    refine And.intro (XQ (Zs a)) ?_;refine And.intro (XR (ZV a j) (Zc _)) ?_;refine And.intro (XQ (Zs u.args)) ?_;refine And.intro (XR (ZV u.args j) (Zc _)) ?_;refine Zk (hq) ?_;refine hK _ _ (by kernel_rfl) ?_;clear hK K;refine Zy (t:=true) rfl ?_;rw[if_pos rfl];refine Zz ?_;refine Zx [] Z3 hnt λ _ z9=>z9 _ _ ?_
    refine Zv ?_
    exact Zi rfl
   rw[decide_eq_true (W7 hj (by omega) (by omega))]
   refine Zz ?_;refine Zz ?_;refine Zx [(23,.v (.int .i64 (↑a.length))),(24,.v (.bool false))] Z3 hnt λ K hK=>?_;refine And.intro (Zr (by rw[Zs])) ?_;refine And.intro X5 ?_;refine hK _ _ ?_;clear hK K;refine Zy (t:=false) rfl ?_;rw[if_neg (by simp)];refine Zg ?_;refine Zz ?_;refine Zx [] Z3 hnt λ _ z9=>z9 _ _ ?_
   refine Zv ?_
   exact Zi rfl
  rw[decide_eq_false (λ e=>hlr (by rw[e]))]
  refine Zn 0 39 [ResultVar.tmp 4] Z3 Tryz.func88 rfl Tryz.ntmps88 rfl λ cx hnt hn0=>?_
  skip
  refine Zz ?_;refine Zx [] Z3 hnt λ _ z9=>z9 _ _ ?_;refine Zz ?_;refine Zz ?_;refine Zx [(10,.v (.bool false)),(14,.v (.int .i64 (↑a.length))),(17,.v (.int .i64 (↑u.args.length))),(18,.v (.bool true))] Z3 hnt λ K hK=>?_;refine And.intro (Yq hb) ?_;refine And.intro (Zr (by rw[Zs])) ?_;refine And.intro (Zr (by rw[Zs])) ?_
  refine And.intro (YO (by omega)) ?_;refine hK _ _ ?_;clear hK K;refine Zy (t:=true) rfl ?_;rw[if_pos rfl];refine Zz ?_;refine Zx [] Z3 hnt λ _ z9=>z9 _ _ ?_;refine Zv ?_
  exact Zi rfl
 ·have e:decide (Ty.mk a b=u)=false:=decide_eq_false λ e=>hb (by rw[<-e];rfl)
  rw[e]
  refine Zn 0 39 [ResultVar.tmp 4] Z3 Tryz.func88 rfl Tryz.ntmps88 rfl λ cx hnt hn0=>?_
  skip
  refine Zz ?_;refine Zx [] Z3 hnt λ _ z9=>z9 _ _ ?_;refine Zz ?_;refine Zz ?_;refine Zx [(10,.v (.bool true))] Z3 hnt λ K hK=>?_;refine And.intro (YO hb) ?_;refine hK _ _ ?_;clear hK K;refine Zy (t:=true) rfl ?_;rw[if_pos rfl];refine Zz ?_;refine Zx [] Z3 hnt λ _ z9=>z9 _ _ ?_;refine Zv ?_
  exact Zi rfl
theorem Sj (l r:List Ty):Zh Tryz.prog 63 [.sl 2 (eTys l) none,.sl 2 (eTys r) none] (.v (.bool (decide (l=r)))):=ZB.lens λ hlen=>by
 have hl:l.length<=9223372036854775807:=by have:=hlen _ (List.mem_cons_self ..);simp only[slOk,sl1,Zs] at this;exact this
 by_cases hlr:l.length=r.length
 ·skip
  refine Zn 0 27 [ResultVar.tmp 4] Z3 Tryz.func63 rfl Tryz.ntmps63 rfl λ cx hnt hn0=>?_
  skip
  refine Zz ?_;refine Zx [] Z3 hnt λ _ z9=>z9 _ _ ?_;refine Zz ?_;refine Zz ?_;refine Zx [(7,.v (.int .i64 (↑l.length))),(9,.v (.int .i64 (↑r.length))),(10,.v (.bool false))] Z3 hnt λ K hK=>?_;refine And.intro (Zr (by rw[Zs])) ?_;refine And.intro (Zr (by rw[Zs])) ?_;refine And.intro (Yq (by omega)) ?_;refine hK _ _ ?_;clear hK K
  refine Zy (t:=false) rfl ?_;rw[if_neg (by simp)];refine Zw ?_;refine Zz ?_;refine Zz ?_;refine Zx [] Z3 hnt λ _ z9=>z9 _ _ ?_;refine Zt ?_
  refine Z6 (ι:={ j:Nat // l.take j=r.take j }) (λ j=>[(.t 0,.sl 2 (eTys l) none),(.t 1,.sl 2 (eTys r) none),(.t 5,.v (.int .i64 ↑j.1))]) 0 (λ j=>l.length-j.1) (⟨0,rfl⟩) ((by unfold YQ;exact(VS.toK (by omega) (by repeat first | exact trivial | refine And.intro (And.intro (by first | rfl | simp[D.ok,D.oks,D.okss,D.okm,Xi,X7,YQ]) (by first | exact Or.inl rfl | exact Or.inr ⟨_,rfl,(by repeat first | exact Zm.refl _ | exact Zm.nil _ | exact Zm.untag _ _ _ | refine Zm.ag ?_ | refine Zm.tu ?_ | refine ZO.cons ?_ ?_ | exact ZO.nil),trivial⟩ | simp[get,Key.eq,YQ])) ?_)))) λ j=>?_
  obtain⟨j,hj⟩:=j
  dsimp only
  by_cases hlt:j<l.length
  ·have hlt2:j<r.length:=by omega
   have hq:=QQ l[j] r[j]
   rw[Zc,Zc] at hq
   by_cases he:l[j]=r[j]
   ·rw[decide_eq_true he] at hq
    refine Zz ?_;refine Zz ?_;refine Zx [(13,.v (.int .i64 (↑l.length))),(14,.v (.bool true))] Z3 hnt λ K hK=>?_;refine And.intro (Zr (by rw[Zs])) ?_;refine And.intro Xd ?_;refine hK _ _ ?_;clear hK K;refine Zy (t:=true) rfl ?_;rw[if_pos rfl];refine Zw ?_;refine Zz ?_;refine Zt ?_;refine Zz ?_;refine ZQ [(19,.q [.sl 2 (eTys l[j].args) none,.v (.int .i64 l[j].base)]),(23,.q [.sl 2 (eTys r[j].args) none,.v (.int .i64 r[j].base)])] Z3 hnt λ K hK=>?_
    refine And.intro (XQ (Zs l)) ?_;refine And.intro (XR (ZV l j) (Zc _)) ?_;refine And.intro (XQ (Zs r)) ?_;refine And.intro (XR (ZV r j) (Zc _)) ?_;refine Zk (hq) ?_;refine hK _ _ (by kernel_rfl) ?_;clear hK K;refine Zy (t:=false) rfl ?_;rw[if_neg (by simp)];refine Zw ?_;refine Zx [(16,.v (.int .i64 (↑(j+1))))] Z3 hnt λ K hK=>?_
    refine And.intro Ww ?_;refine hK _ _ ?_;clear hK K
    refine⟨⟨j+1,XG hj hlt hlt2 he⟩,by first | omega | (dsimp only;omega),VS.toA⟩
   rw[decide_eq_false he] at hq
   rw[decide_eq_false (R4 hlt hlt2 he)]
   refine Zz ?_;refine Zz ?_;refine Zx [(13,.v (.int .i64 (↑l.length))),(14,.v (.bool true))] Z3 hnt λ K hK=>?_;refine And.intro (Zr (by rw[Zs])) ?_;refine And.intro Xd ?_;refine hK _ _ ?_;clear hK K;refine Zy (t:=true) rfl ?_;rw[if_pos rfl];refine Zw ?_;refine Zz ?_;refine Zt ?_;refine Zz ?_;refine ZQ [(19,.q [.sl 2 (eTys l[j].args) none,.v (.int .i64 l[j].base)]),(23,.q [.sl 2 (eTys r[j].args) none,.v (.int .i64 r[j].base)])] Z3 hnt λ K hK=>?_
   refine And.intro (XQ (Zs l)) ?_;refine And.intro (XR (ZV l j) (Zc _)) ?_;refine And.intro (XQ (Zs r)) ?_;refine And.intro (XR (ZV r j) (Zc _)) ?_;refine Zk (hq) ?_;refine hK _ _ (by kernel_rfl) ?_;clear hK K;refine Zy (t:=true) rfl ?_;rw[if_pos rfl];refine Zz ?_;refine Zx [] Z3 hnt λ _ z9=>z9 _ _ ?_;refine Zv ?_
   exact Zi rfl
  rw[decide_eq_true (W7 hj (by omega) (by omega))]
  refine Zz ?_;refine Zz ?_;refine Zx [(13,.v (.int .i64 (↑l.length))),(14,.v (.bool false))] Z3 hnt λ K hK=>?_;refine And.intro (Zr (by rw[Zs])) ?_;refine And.intro X5 ?_;refine hK _ _ ?_;clear hK K;refine Zy (t:=false) rfl ?_;rw[if_neg (by simp)];refine Zg ?_;refine Zz ?_;refine Zx [] Z3 hnt λ _ z9=>z9 _ _ ?_
  refine Zv ?_
  exact Zi rfl
 rw[decide_eq_false (λ e=>hlr (by rw[e]))]
 refine Zn 0 27 [ResultVar.tmp 4] Z3 Tryz.func63 rfl Tryz.ntmps63 rfl λ cx hnt hn0=>?_
 skip
 refine Zz ?_;refine Zx [] Z3 hnt λ _ z9=>z9 _ _ ?_;refine Zz ?_;refine Zz ?_;refine Zx [(7,.v (.int .i64 (↑l.length))),(9,.v (.int .i64 (↑r.length))),(10,.v (.bool true))] Z3 hnt λ K hK=>?_;refine And.intro (Zr (by rw[Zs])) ?_;refine And.intro (Zr (by rw[Zs])) ?_;refine And.intro (YO (by omega)) ?_;refine hK _ _ ?_;clear hK K
 refine Zy (t:=true) rfl ?_;rw[if_pos rfl];refine Zz ?_;refine Zx [] Z3 hnt λ _ z9=>z9 _ _ ?_;refine Zv ?_
 exact Zi rfl
theorem W0 {P:Program}{f:FuncId}(hf:WV P f=true){ds:List D}{V:D} 
  (h:∀ (m:Mp) (Im:Nat->Nat->Prop) (w:World) (vs:List Value),YU m Im w vs ds->Calls P f vs.toArray w λ e w'=>∃ v,e=.returned v/\Below w.heap.size w w'/\∀ Im':Nat->Nat->Prop,(∀ b o,Im b o->Im' b o)->(∀ b o v,w.heap.size<=b->w'.cell? ⟨b,o,none⟩=some v->Im' b o)->Yz m Im' w' v V):Zh P f ds V:=by
 refine⟨hf,λ cx Fr m Im w vs hmem hargs _=>(h m Im w vs hargs).mono ?_⟩
 rintro e w' ⟨v,rfl,hb,hr⟩
 refine⟨v,λ b o=>Im b o∨(w.heap.size<=b/\∃ v,w'.cell? ⟨b,o,none⟩=some v),rfl,⟨hb.os,hb.tape,hb.output,hb.size,λ b hl _=>hb.block b hl⟩,λ b o h=>.inl h,λ b o h=>h.imp id λ h=>h.1,λ b o hi=>?_,λ k b o hk=>?_,hr _ (λ b o h=>.inl h) λ b o v h1 h2=>.inr ⟨h1,v,h2⟩,nofun⟩
 ·rcases hi with hi | hi
  ·obtain⟨v,hv⟩:=hmem.im b o hi
   exact⟨v,(hb.cell (p:=⟨b,o,none⟩) (YR hv)).trans hv⟩
  exact hi.2
 exact(World.frozen?_of_block (a:=⟨b,o,none⟩) (hb.block b (hmem.lt k b hk))).trans (hmem.free k b o hk)
theorem Ho {m:Mp}{Im:Nat->Nat->Prop}{w:World}{x:Value}{t:Tm}(h:Yz m Im w x (.ag (eTm t))):∃ b k i a,x=.agg #[b,k,i,a]/\XS (Ma Im) w b k i a t:=by
 obtain⟨cs,rfl,hr⟩:=Wa.1 h
 obtain⟨b,k,i,a,rfl,ht⟩:=Rk t hr
 exact⟨b,k,i,a,rfl,ht⟩
def TCP_206:TI:=⟨1,false,[Value.nilFunc],[],none,8,8,none,false⟩
theorem SD:TypOk Tryz.prog 206 TCP_206:=by constructor <;> kernel_rfl
def TCP:List (Nat×TI):=[(62,TG_62),(3,TG_3),(60,TG_60),(59,TG_59),(41,TG_41),(106,TG_106),(206,TCP_206)]
theorem Yn:Zd Tryz.prog TCP:=((((((((Zd.nil _).cons SD).cons Yx).cons Ym).cons XI).cons Xs).cons ZW).cons Yu)
theorem RH (l:List Tm)(j:Nat)(h:j<l.length):eTms (l.take j)++[[.sl 2 (eTys l[j].binds) none,.v (.int .i64 l[j].kind),.v (.int .i64 l[j].index),.sl 4 (eTms l[j].args) none]]=eTms (l.take (j+1)):=by
 rw[<-Zu,List.take_add_one,List.getElem?_eq_getElem h,Option.toList_some,Xw,Xw,List.map_append];rfl
theorem Nh (x:Int):Zh Tryz.prog 119 [.v (.int .i64 x)] (.v (.int .i64 x)):=by
 refine Zn 0 4 [ResultVar.tmp 2] Yn Tryz.func119 rfl Tryz.ntmps119 rfl λ cx hnt hn0=>?_
 skip
 refine Zz ?_;refine Zx [] Yn hnt λ _ z9=>z9 _ _ ?_;refine Zz ?_;refine Zx [] Yn hnt λ _ z9=>z9 _ _ ?_;refine Zv ?_
 exact Zi rfl
theorem UP (l:List Tm):l.length<=Tm.fulls l:=by
 induction l with
 | nil=>simp
 | cons u l ih=>
  have:1<=u.full:=by obtain⟨b,k,i,a⟩:=u;rw[Tm.full_eq];omega
  simp only[List.length_cons,Tm.fulls];omega
theorem NZ:∀ t:Tm,∀ ins:Int,0<=ins->ins+t.full<=900000->t.Fit->Zh Tryz.prog 118 [.ag (eTm t),.v (.int .i64 ins),.fn 119 []] (.ag (eTm t)):=by
 intro t
 induction t using Tm.ind with
 | h bs k i ar ih=>
  intro ins h0 hz hft
  rw[Tm.full_eq] at hz
  have hbl:=Ty.le_sizes bs
  obtain⟨hi0,hi1,_⟩:=Tm.fit_iff.1 hft
  have hs1:(Ty.mk [] 0).size=1:=by simp[Ty.size,Ty.sizes]
  have harr:=Sz (.mk [] 0) bs (by omega)
  dsimp only[Ty.args,Ty.base] at harr
  rw[List.append_nil,Zc,Zc] at harr
  dsimp only[Ty.args,Ty.base,eTys] at harr
  have hal:=UP ar
  rw[Zu]
  dsimp only[Tm.binds,Tm.kind,Tm.index,Tm.args]
  obtain⟨n,hn⟩:∃ n:Int,n=ins+bs.length:=⟨_,rfl⟩
  refine Zn 0 63 [ResultVar.cell 6 62] Yn Tryz.func118 rfl Tryz.ntmps118 rfl λ cx hnt hn0=>?_
  skip
  refine Zz ?_;refine Zx [] Yn hnt λ _ z9=>z9 _ _ ?_;refine Zz ?_;refine Zx [(14,.v (.int .i64 (n)))] Yn hnt λ K hK=>?_;refine And.intro (Zr (by rw[Zs,IntWalk.i64_in _ (by omega)];omega)) ?_;refine hK _ _ ?_;clear hK K;refine Zz ?_;refine ZQ [(15,.ag [.sl 2 [] none,.v (.int .i64 0)])] Yn hnt λ K hK=>?_;refine And.intro (XP) ?_
  refine Zk (harr) ?_;refine hK _ _ (by kernel_rfl) ?_;clear hK K
  refine Wi (τ:=[(.t 1,.v (.int .i64 n)),(.t 2,.fn 119 []),(.t 3,.p 0 0),(.t 6,.p 1 0),(.t 7,.p 16 0),(.c 0 0,.sl 2 (eTys bs) none),(.c 0 1,.v (.int .i64 k)),(.c 0 2,.v (.int .i64 i)),(.c 0 3,.sl 4 (eTms ar) none),(.c 1 0,.v (.slice none 0 0)),(.c 1 1,.v (.int .i64 0)),(.c 1 2,.v (.int .i64 0)),(.c 1 3,.v (.slice none 0 0)),(.c 16 0,.sl 2 (eTys bs) none),(.c 16 1,.v (.int .i64 k)),(.c 16 2,.v (.int .i64 i)),(.c 16 3,.v (.slice none 0 0))]) (N1:=17) ?_ ?_
  ·by_cases hk:k=0
   ·by_cases hge:i>=n
    ·have hc1:=Nh (i-n)
     refine Zz ?_;refine Zx [(26,.v (.bool true)),(32,.v (.bool true))] Yn hnt λ K hK=>?_;refine And.intro (Zm.of_eq (by simp[hk])) ?_;refine And.intro Xd ?_;refine hK _ _ ?_;clear hK K;refine Zy (t:=true) rfl ?_;rw[if_pos rfl];refine Zx [(40,.v (.int .i64 ((i-n)))),(42,.v (.int .i64 (i)))] Yn hnt λ K hK=>?_;refine And.intro (Zr (by exact IntWalk.i64_in _ (by omega))) ?_
     refine Zk (hc1) ?_;refine And.intro (Zr (by (rw[show n+(i-n)=i by omega];exact IntWalk.i64_in _ (by omega)))) ?_;refine hK _ _ ?_;clear hK K
     exact Y4 VS.toA
    skip
    refine Zz ?_;refine Zx [(26,.v (.bool true)),(32,.v (.bool false))] Yn hnt λ K hK=>?_;refine And.intro (Zm.of_eq (by simp[hk])) ?_;refine And.intro X5 ?_;refine hK _ _ ?_;clear hK K;refine Zy (t:=false) rfl ?_;rw[if_neg (by simp)];refine Zw ?_
    exact Y4 VS.toA
   skip
   refine Zz ?_;refine Zx [(26,.v (.bool false))] Yn hnt λ K hK=>?_;refine And.intro (Zm.of_eq (by simp[hk])) ?_;refine hK _ _ ?_;clear hK K;refine Zy (t:=false) rfl ?_;rw[if_neg (by simp)];refine Zw ?_
   exact Y4 VS.toA
  refine DW.vs (VS.row (k:=16) (off:=3) 62 4 rfl) ?_
  refine Zz ?_;refine Zz ?_;refine Zx [(47,.v (.int .i64 (↑ar.length)))] Yn hnt λ K hK=>?_;refine And.intro (Zr (by rw[Zq])) ?_;refine hK _ _ ?_;clear hK K;refine Zt ?_
  refine Z6 (ι:={ j:Nat // j<=ar.length }) (λ j=>[(.t 1,.v (.int .i64 n)),(.t 2,.fn 119 []),(.t 6,.p 1 0),(.t 7,.p 16 0),(.t 46,.sl 4 (eTms ar) none),(.t 47,.v (.int .i64 ↑ar.length)),(.t 48,.v (.int .i64 ↑j.1)),(.c 1 0,.v (.slice none 0 0)),(.c 1 1,.v (.int .i64 0)),(.c 1 2,.v (.int .i64 0)),(.c 1 3,.v (.slice none 0 0)),(.c 16 0,.sl 2 (eTys bs) none),(.c 16 1,.v (.int .i64 k)),(.c 16 2,.v (.int .i64 i)),(.c 16 3,.sl 4 (eTms (ar.take j.1)) (some 17)),(.r 17,.rw 62 4 j.1)]) 18 (λ j=>ar.length-j.1) (⟨0,Nat.zero_le _⟩) (VS.toA) λ j=>?_
  obtain⟨j,hj⟩:=j
  dsimp only
  by_cases hlt:j<ar.length
  ·have hmem:=List.getElem_mem hlt
   have hsz:=Tm.full_mem hmem
   have hc:=ih _ hmem n (by omega) (by omega) ((Tm.fit_iff.1 hft).2.2 _ hmem)
   rw[Zu] at hc
   have hl1:(eTms (ar.take j)).length=j:=by rw[Zq,List.length_take];omega
   have hl2:(eTms (ar.take (j+1))).length=j+1:=by rw[Zq,List.length_take];omega
   refine Zz ?_;refine Zx [(49,.v (.bool true))] Yn hnt λ K hK=>?_;refine And.intro Xd ?_;refine hK _ _ ?_;clear hK K;refine Zz ?_;refine Zy (t:=true) rfl ?_;rw[if_pos rfl];refine Zw ?_;refine Zz ?_;refine Zt ?_;refine Zz ?_;refine Zx [(50,.q [.sl 2 (eTys ar[j].binds) none,.v (.int .i64 ar[j].kind),.v (.int .i64 ar[j].index),.sl 4 (eTms ar[j].args) none])] Yn hnt λ K hK=>?_
   refine And.intro (XQ (Zq ar)) ?_;refine And.intro (XR (ZT ar j) (Zu _)) ?_;refine hK _ _ ?_;clear hK K;refine ZQ [] Yn hnt λ K hK=>?_;refine Zk (hc) ?_;refine And.intro (⟨by omega,by rw[hl1];simp;omega⟩) ?_;refine hK _ _ (by kernel_rfl) ?_;clear hK K
   rw[RH ar j hlt,hl2]
   refine Zx [(61,.v (.int .i64 (↑(j+1))))] Yn hnt λ K hK=>?_;refine And.intro Ww ?_;refine hK _ _ ?_;clear hK K
   refine⟨⟨j+1,hlt⟩,by first | omega | (dsimp only;omega),VS.toA⟩
  rw[List.take_of_length_le (by omega)]
  refine Zz ?_;refine Zx [(49,.v (.bool false))] Yn hnt λ K hK=>?_;refine And.intro X5 ?_;refine hK _ _ ?_;clear hK K;refine Zz ?_;refine Zy (t:=false) rfl ?_;rw[if_neg (by simp)];refine Zg ?_;refine Zz ?_;refine Zx [] Yn hnt λ _ z9=>z9 _ _ ?_;refine Zv ?_
  exact Zi rfl
theorem VN (t:Tm)(hsz:t.full<=900000)(hfit:t.Fit):Zh Tryz.prog 96 [.ag (eTm t)] (.ag (eTm t)):=by
 have h:=NZ t 0 (Int.le_refl _) (by omega) hfit
 rw[Zu] at h ⊢
 refine Zn 0 5 [ResultVar.cell 2 62] Yn Tryz.func96 rfl Tryz.ntmps96 rfl λ cx hnt hn0=>?_
 skip
 refine Zz ?_;refine Zx [] Yn hnt λ _ z9=>z9 _ _ ?_;refine Zz ?_;refine Zx [] Yn hnt λ K hK=>?_;refine Zk (h) ?_;refine hK _ _ ?_;clear hK K;refine Zv ?_
 exact Zi rfl
def XU {β:Type}(Ok:Obj->Prop)(B:Nat)(J:β->World->Prop):Prop:=
 ∀ s W W' row,J s W->W.grownBy W' row->(∀ r,row=some r->B<=r/\∃ o:Obj,W.heap[r]?=some o/\Ok o)->J s W'
section
variable {β:Type} {Ok:Obj->Prop} {B:Nat} {I I':β->World->Prop}
theorem XU.and (h:XU Ok B I)(h':XU Ok B I'):XU Ok B (λ s W=>I s W/\I' s W):=λ s W W' row hs hg hr=>⟨h s W W' row hs.1 hg hr,h' s W W' row hs.2 hg hr⟩
theorem XU.alloc (h:XU Ok B I){s:β}{W:World}(hs:I s W)(o:Obj):I s (W.alloc o):=h s W _ none hs (World.grownBy_alloc W o none) (λ r e=>by cases e)
theorem XU.put (h:XU Ok B I)(hOk:∀ o:Obj,o.isCells=false->Ok o){s:β}{W:World}(hs:I s W){l:Nat}{o:Obj}(o':Obj)(hl:W.heap[l]?=some o)(ho:o.isCells=false)(hB:B<=l):I s (W.putObj l o'):=
 h s W _ _ hs (grownBy_putObj' W l o') (λ r e=>by cases e;exact⟨hB,o,hl,hOk o ho⟩)
theorem XU.up {B':Nat}(h:XU Ok B I)(hB:B<=B'):XU Ok B' I:=λ s W W' row hs hg hr=>h s W W' row hs hg λ r e=>⟨Nat.le_trans hB (hr r e).1,(hr r e).2⟩
theorem VX {k:Nat}{o:Obj}(hk:k<B):XU Ok B (fun(_:β) W=>W.heap[k]?=some o):=λ _ W _ row hs hg hr=>(hg.block k (Array.getElem?_eq_some_iff.1 hs).1 (λ e=>by have:=(hr k e.symm).1;omega)).trans hs
theorem Sd {n0:Nat}{w0:World}(hn:n0<=w0.heap.size)(hB:n0<=B):XU Ok B (fun(_:β) W=>Below n0 w0 W):=λ _ _ _ _ hs hg hr=>hs.grown hg (Nat.le_trans hn hs.size) (λ k e=>Nat.le_trans hB (hr k e).1)
end
def Qc {α:Type}(Ok:Obj->Prop)(F:Fence)(n:Nat)(P:Program)(g:Nat)(lb:Array Value)(encs:α->Array Value)(Kp:World->World->Prop)(S Sp:List α->Prop)(N:Nat)(w:World):Prop:=
 ∀ (l:Nat) (J Jx:List α->World->Prop) (W:World),Below w.heap.size w W->XU Ok W.heap.size J->XU Ok W.heap.size Jx ->
  (∀ pre x V,J pre V->pre.length<N->YieldAt F (n-1) P l (encs x) V λ e V'=>(e=.returned (.bool true)/\J (pre++[x]) V'/\Kp V V')∨(e=.returned (.bool false)/\Jx (pre++[x]) V')) ->
  J [] W->CallsIn F n P g (#[.func (.yield l) #[] #[]]++lb) W λ e W'=>(∃ v,e=.returned v)/\((∃ xs,S xs/\J xs W')∨(∃ pre,Sp pre/\Jx pre W'))
theorem Ie {Ok : Obj -> Prop} (hOk : ∀ o : Obj, o.isCells = false -> Ok o) {F : Fence} {n : Nat} {P : Program} {α : Type} {g : Operand} {ps : Array Tmp} {assign body : Code} {Q : Exit -> Act -> World -> Prop} {a : Act} {w : World}
    (hro : F.round = none) (hn : 1 <= n) {gf : Nat} {lb : Array Value} (hg : a.eval g = .func (.func gf) #[] lb) (hF : F.fn gf) (eg : ∀ args w, (callFunc gf args).run P w = .ok (.enter gf args) w)
    {encs : α -> Array Value} {Kp : World -> World -> Prop} {S Sp : List α -> Prop} {N : Nat} {w0 : World} (hseq : Qc Ok F (n - 1) P gf lb encs Kp S Sp N w0)
    (hKt : ∀ {X Y Z : World}, Kp X Y -> Kp Y Z -> Kp X Z) (hKb : ∀ (W : World) (l : Nat) (o o' : Obj), w.heap.size <= l -> W.heap[l]? = some o -> o.isCells = false -> o.isWalk = false -> Kp W (W.putObj l o')) (hw0 : Below w0.heap.size w0 w) (hps : ∀ x, (encs x).size = ps.size)
    (I : List α -> World -> Prop) (Ix : Code -> List α -> World -> Prop) (hI : XU Ok w.heap.size I) (hIx : ∀ c, XU Ok w.heap.size (Ix c)) (h0 : I [] w) (act : α -> Act)
    (hassign : ∀ (l : Nat) (x : α) (W : World) (K : Act -> World -> Prop), K (act x) W ->
      assign.wpIn (F.inRound l) (n - 1 - 1) P (Exit.then K (λ _ _ _ => False)) { tmps := (ps.zip (encs x)).foldl (λ t (p, v) => t.setIfInBounds p v) a.tmps, defers := [] } W)
    (hbody : ∀ (l : Nat) (pre : List α) (x : α) (W : World), I pre W -> pre.length < N -> body.wpIn (F.inRound l) (n - 1 - 1) P (ownPostG w.heap.size Kp I Ix (pre ++ [x]) W) (act x) W)
    (hdone : ∀ (D : Nat) (xs : List α) (W : World), w.heap.size <= D -> S xs -> I xs W -> W.heap[D]? = some (.deferred (some [])) -> Q .normal { a with defers := { target := .collected D, args := #[] } :: a.defers } W)
    (hstop : ∀ (D : Nat) (c : Code) (pre : List α) (W : World), w.heap.size <= D -> Sp pre -> Ix c pre W -> W.heap[D]? = some (.deferred (some [])) -> c.wpIn F n P Q { a with defers := { target := .collected D, args := #[] } :: a.defers } W) :
    (Code.rangeFunc g ps assign body).wpIn F n P Q a w := by
  refine wpIn_rangeFunc λ fn hfn => ?_
  rw [hro]
  let L : LoopState -> Option Code -> Obj := λ st pe => .loop { state := st, pending := pe, fn, tmps := a.tmps, params := ps, assign, body, defers := w.heap.size }
  let D : Obj := .deferred (some [])
  obtain ⟨W1, hW1⟩ : ∃ W1, (w.alloc D).alloc (L .ready none) = W1 := ⟨_, rfl⟩
  have hz : W1.heap.size = w.heap.size + 2 := by rw [<- hW1]; simp
  have hL : W1.heap[w.heap.size + 1]? = some (L .ready none) := by rw [<- hW1]; have h := World.alloc_heap_new (w.alloc D) (L .ready none); rwa [World.size_alloc] at h
  have hD : W1.heap[w.heap.size]? = some D := by rw [<- hW1]; exact (Below.heap_alloc _ _ _ (by simp)).trans (World.alloc_heap_new w D)
  refine ⟨w.heap.size + 1, [{ target := .collected w.heap.size, args := #[] }], W1, { target := .fn (.func gf) lb, args := #[.func (.yield (w.heap.size + 1)) #[] #[]] }, W1, gf,
    #[.func (.yield (w.heap.size + 1)) #[] #[]] ++ lb, W1, by rw [<- hW1]; exact run_enterLoop_outer _ _ _ _ _, by simp only [resolve, hg]; simp [go_sem], ?_, by simp [invoke, go_sem, eg], λ _ => hn, ?_⟩
  · intro f' hf'; simp [Target.leads] at hf'; subst hf'; exact hF
  have up : ∀ {β : Type} {J : β -> World -> Prop}, XU Ok w.heap.size J -> XU Ok W1.heap.size J := λ h => h.up (by omega)
  have m1 : ∀ (o : Obj), XU Ok W1.heap.size (λ (_ : List α) W => W.heap[w.heap.size + 1]? = some o) := λ o => VX (by omega)
  have m0 : XU Ok W1.heap.size (λ (_ : List α) W => W.heap[w.heap.size]? = some D) := VX (by omega)
  refine (hseq (w.heap.size + 1)
    (λ pre W => I pre W /\ W.heap[w.heap.size + 1]? = some (L .ready none) /\ W.heap[w.heap.size]? = some D)
    (λ pre W => ∃ c, Ix c pre W /\ W.heap[w.heap.size + 1]? = some (L .done (some c)) /\ W.heap[w.heap.size]? = some D) W1
    (by rw [<- hW1]; exact hw0.trans ((((Below.refl _ w).alloc (Nat.le_refl _) _).alloc (by simp) _).mono hw0.size))
    ((up hI).and ((m1 _).and m0)) (λ s A B row ⟨c, h1, h2, h3⟩ hgr hr => ⟨c, up (hIx c) s A B row h1 hgr hr, m1 _ s A B row h2 hgr hr, m0 s A B row h3 hgr hr⟩)
    ?_ ⟨by rw [<- hW1]; exact hI.alloc (hI.alloc h0 _) _, hL, hD⟩).mono ?_
  · -- a round
    rintro pre x V ⟨hi, hl, hd⟩ hlen
    have hlt : w.heap.size + 1 < V.heap.size := (Array.getElem?_eq_some_iff.1 hl).1
    refine ⟨fn, _, assign, body, run_yield (P := P) (args := encs x) hl (hps x), roundIn_of_wpIn hfn (hassign _ x V _ ⟨_, run_beginRound hl rfl, ?_⟩)⟩
    obtain ⟨V2, hV2⟩ : ∃ V2, V.putObj (w.heap.size + 1) (L .busy none) = V2 := ⟨_, rfl⟩
    have hl2 : V2.heap[w.heap.size + 1]? = some (L .busy none) := by rw [<- hV2]; exact World.putObj_heap_same hlt
    have hd2 : V2.heap[w.heap.size]? = some D := by rw [<- hV2]; exact (World.putObj_heap_other (by omega)).trans hd
    have hk2 : Kp V V2 := by rw [<- hV2]; exact hKb _ _ _ _ (by omega) hl rfl rfl
    have hi2 : I pre V2 := by rw [<- hV2]; exact hI.put hOk hi _ hl rfl (by omega)
    show Code.wpIn _ _ _ _ _ _ (V.putObj (w.heap.size + 1) (L .busy none))
    rw [hV2]
    clear hV2 hl hd hi hlt
    refine wpIn_mono (hbody _ pre x V2 hi2 hlen) ?_
    have fin : ∀ (jump : Option Code) (V3 : World), KeepsFrom w.heap.size V2 V3 -> V3.heap[w.heap.size + 1]? = some (L .busy none) /\ ∃ V4, V4 = V3.putObj (w.heap.size + 1) (L (if jump.isNone then .ready else .done) jump) /\
        (Instr.endRound (w.heap.size + 1) jump).run P V3 = .ok (.bool jump.isNone) V4 /\ V4.heap[w.heap.size + 1]? = some (L (if jump.isNone then .ready else .done) jump) /\ V4.heap[w.heap.size]? = some D := λ jump V3 hk => by
      have h1 := hk.same _ _ (by omega) hl2 rfl
      exact ⟨h1, _, rfl, run_endRound (P := P) jump h1, World.putObj_heap_same (Array.getElem?_eq_some_iff.1 h1).1, (World.putObj_heap_other (by omega)).trans (hk.same _ _ (Nat.le_refl _) hd2 rfl)⟩
    have out : ∀ (c : Code) (V3 : World), KeepsFrom w.heap.size V2 V3 -> Ix c (pre ++ [x]) V3 -> ∃ r V4, (Instr.endRound (w.heap.size + 1) (some c)).run P V3 = .ok r V4 /\ (Ending.returned r = .returned (.bool false) /\ ∃ c, Ix c (pre ++ [x]) V4 /\ V4.heap[w.heap.size + 1]? = some (L .done (some c)) /\ V4.heap[w.heap.size]? = some D) := λ c V3 hk hi => by
      obtain ⟨h3, V4, rfl, hr, h4, h5⟩ := fin (some c) V3 hk
      exact ⟨_, _, hr, rfl, c, (hIx c).put hOk hi _ h3 rfl (by omega), h4, h5⟩
    rintro e a3 V3 hp
    cases e with
    | normal =>
      obtain ⟨hk, hkp, hi⟩ := hp
      obtain ⟨h3, V4, rfl, hr, h4, h5⟩ := fin none V3 hk
      exact ⟨_, _, hr, .inl ⟨rfl, ⟨hI.put hOk hi _ h3 rfl (by omega), h4, h5⟩, hKt (hKt hk2 hkp) (hKb _ _ _ _ (by omega) h3 rfl rfl)⟩⟩
    | ret => obtain ⟨r, V4, hr, h⟩ := out .ret V3 hp.1 hp.2; exact ⟨r, V4, hr, .inr h⟩
    | exit id => obtain ⟨r, V4, hr, h⟩ := out (.exit id) V3 hp.1 hp.2; exact ⟨r, V4, hr, .inr h⟩
    | goto t => obtain ⟨r, V4, hr, h⟩ := out (.goto t) V3 hp.1 hp.2; exact ⟨r, V4, hr, .inr h⟩
    | panic ch => exact hp.elim
    | outgrown => exact hp.elim
  -- behind the iterator
  rintro e W2 ⟨⟨v, rfl⟩, ⟨xs, hS, hi, hl, hd⟩ | ⟨pre, hSp, c, hi, hl, hd⟩⟩
  · exact ⟨none, _, run_endLoop (P := P) hl (by simp), hdone _ xs _ (Nat.le_refl _) hS (hI.put hOk hi _ hl rfl (by omega)) ((World.putObj_heap_other (by omega)).trans hd)⟩
  exact ⟨some c, _, run_endLoop (P := P) hl (by simp), hstop _ c pre _ (Nat.le_refl _) hSp ((hIx c).put hOk hi _ hl rfl (by omega)) ((World.putObj_heap_other (by omega)).trans hd)⟩
theorem TV {Ok : Obj -> Prop} (hOk : ∀ o : Obj, o.isCells = false -> Ok o) {F : Fence} {n : Nat} {P : Program} {α : Type} {g : Operand} {ps : Array Tmp} {assign body : Code} {Q : Exit -> Act -> World -> Prop} {a : Act} {w : World}
    (hro : F.round = none) (hn : 1 <= n) {gf : Nat} {lb : Array Value} (hg : a.eval g = .func (.func gf) #[] lb) (hF : F.fn gf) (eg : ∀ args w, (callFunc gf args).run P w = .ok (.enter gf args) w)
    {encs : α -> Array Value} {Kp : World -> World -> Prop} {S Sp : List α -> Prop} {N : Nat} {w0 : World} (hseq : Qc Ok F (n - 1) P gf lb encs Kp S Sp N w0)
    (hKt : ∀ {X Y Z : World}, Kp X Y -> Kp Y Z -> Kp X Z) (hKb : ∀ (W : World) (l : Nat) (o o' : Obj), w.heap.size <= l -> W.heap[l]? = some o -> o.isCells = false -> o.isWalk = false -> Kp W (W.putObj l o')) (hw0 : Below w0.heap.size w0 w) (hps : ∀ x, (encs x).size = ps.size)
    (I : List α -> World -> Prop) (Ix : Code -> List α -> World -> Prop) (hI : XU Ok w.heap.size I) (hIx : ∀ c, XU Ok w.heap.size (Ix c)) (h0 : I [] w) (Ra : α -> Act -> World -> Prop) (hRa : ∀ x a' W l (o o' : Obj), w.heap.size <= l -> W.heap[l]? = some o -> o.isCells = false -> Ra x a' W -> Ra x a' (W.putObj l o'))
    (hassign : ∀ (l : Nat) (pre : List α) (x : α) (W : World) (K : Act -> World -> Prop), I pre W -> (∀ a' W', KeepsFrom w.heap.size W W' -> Kp W W' -> I pre W' -> Ra x a' W' -> K a' W') ->
      assign.wpIn (F.inRound l) (n - 1 - 1) P (Exit.then K (λ _ _ _ => False)) { tmps := (ps.zip (encs x)).foldl (λ t (p, v) => t.setIfInBounds p v) a.tmps, defers := [] } W)
    (hbody : ∀ (l : Nat) (pre : List α) (x : α) (a' : Act) (W : World), I pre W -> pre.length < N -> Ra x a' W -> body.wpIn (F.inRound l) (n - 1 - 1) P (ownPostG w.heap.size Kp I Ix (pre ++ [x]) W) a' W)
    (hdone : ∀ (D : Nat) (xs : List α) (W : World), w.heap.size <= D -> S xs -> I xs W -> W.heap[D]? = some (.deferred (some [])) -> Q .normal { a with defers := { target := .collected D, args := #[] } :: a.defers } W)
    (hstop : ∀ (D : Nat) (c : Code) (pre : List α) (W : World), w.heap.size <= D -> Sp pre -> Ix c pre W -> W.heap[D]? = some (.deferred (some [])) -> c.wpIn F n P Q { a with defers := { target := .collected D, args := #[] } :: a.defers } W) :
    (Code.rangeFunc g ps assign body).wpIn F n P Q a w := by
  refine wpIn_rangeFunc λ fn hfn => ?_
  rw [hro]
  let L : LoopState -> Option Code -> Obj := λ st pe => .loop { state := st, pending := pe, fn, tmps := a.tmps, params := ps, assign, body, defers := w.heap.size }
  let D : Obj := .deferred (some [])
  obtain ⟨W1, hW1⟩ : ∃ W1, (w.alloc D).alloc (L .ready none) = W1 := ⟨_, rfl⟩
  have hz : W1.heap.size = w.heap.size + 2 := by rw [<- hW1]; simp
  have hL : W1.heap[w.heap.size + 1]? = some (L .ready none) := by rw [<- hW1]; have h := World.alloc_heap_new (w.alloc D) (L .ready none); rwa [World.size_alloc] at h
  have hD : W1.heap[w.heap.size]? = some D := by rw [<- hW1]; exact (Below.heap_alloc _ _ _ (by simp)).trans (World.alloc_heap_new w D)
  refine ⟨w.heap.size + 1, [{ target := .collected w.heap.size, args := #[] }], W1, { target := .fn (.func gf) lb, args := #[.func (.yield (w.heap.size + 1)) #[] #[]] }, W1, gf,
    #[.func (.yield (w.heap.size + 1)) #[] #[]] ++ lb, W1, by rw [<- hW1]; exact run_enterLoop_outer _ _ _ _ _, by simp only [resolve, hg]; simp [go_sem], ?_, by simp [invoke, go_sem, eg], λ _ => hn, ?_⟩
  · intro f' hf'; simp [Target.leads] at hf'; subst hf'; exact hF
  have up : ∀ {β : Type} {J : β -> World -> Prop}, XU Ok w.heap.size J -> XU Ok W1.heap.size J := λ h => h.up (by omega)
  have m1 : ∀ (o : Obj), XU Ok W1.heap.size (λ (_ : List α) W => W.heap[w.heap.size + 1]? = some o) := λ o => VX (by omega)
  have m0 : XU Ok W1.heap.size (λ (_ : List α) W => W.heap[w.heap.size]? = some D) := VX (by omega)
  refine (hseq (w.heap.size + 1)
    (λ pre W => I pre W /\ W.heap[w.heap.size + 1]? = some (L .ready none) /\ W.heap[w.heap.size]? = some D)
    (λ pre W => ∃ c, Ix c pre W /\ W.heap[w.heap.size + 1]? = some (L .done (some c)) /\ W.heap[w.heap.size]? = some D) W1
    (by rw [<- hW1]; exact hw0.trans ((((Below.refl _ w).alloc (Nat.le_refl _) _).alloc (by simp) _).mono hw0.size))
    ((up hI).and ((m1 _).and m0)) (λ s A B row ⟨c, h1, h2, h3⟩ hgr hr => ⟨c, up (hIx c) s A B row h1 hgr hr, m1 _ s A B row h2 hgr hr, m0 s A B row h3 hgr hr⟩)
    ?_ ⟨by rw [<- hW1]; exact hI.alloc (hI.alloc h0 _) _, hL, hD⟩).mono ?_
  · -- a round
    rintro pre x V0 ⟨hi0, hl0, hd0⟩ hlen
    refine ⟨fn, _, assign, body, run_yield (P := P) (args := encs x) hl0 (hps x), roundIn_of_wpIn hfn (hassign _ pre x V0 _ hi0 λ a' V hkf hkp0 hi hra => ?_)⟩
    have hl := hkf.same _ _ (by omega) hl0 rfl
    have hd := hkf.same _ _ (Nat.le_refl _) hd0 rfl
    have hlt : w.heap.size + 1 < V.heap.size := (Array.getElem?_eq_some_iff.1 hl).1
    refine ⟨_, run_beginRound hl rfl, ?_⟩
    obtain ⟨V2, hV2⟩ : ∃ V2, V.putObj (w.heap.size + 1) (L .busy none) = V2 := ⟨_, rfl⟩
    have hl2 : V2.heap[w.heap.size + 1]? = some (L .busy none) := by rw [<- hV2]; exact World.putObj_heap_same hlt
    have hd2 : V2.heap[w.heap.size]? = some D := by rw [<- hV2]; exact (World.putObj_heap_other (by omega)).trans hd
    have hk2 : Kp V0 V2 := by rw [<- hV2]; exact hKt hkp0 (hKb _ _ _ _ (by omega) hl rfl rfl)
    have hi2 : I pre V2 := by rw [<- hV2]; exact hI.put hOk hi _ hl rfl (by omega)
    have hra2 : Ra x a' V2 := by rw [<- hV2]; exact hRa _ _ _ _ _ _ (by omega) hl rfl hra
    show Code.wpIn _ _ _ _ _ _ (V.putObj (w.heap.size + 1) (L .busy none))
    rw [hV2]
    clear hV2 hl hd hi hlt
    refine wpIn_mono (hbody _ pre x a' V2 hi2 hlen hra2) ?_
    have fin : ∀ (jump : Option Code) (V3 : World), KeepsFrom w.heap.size V2 V3 -> V3.heap[w.heap.size + 1]? = some (L .busy none) /\ ∃ V4, V4 = V3.putObj (w.heap.size + 1) (L (if jump.isNone then .ready else .done) jump) /\
        (Instr.endRound (w.heap.size + 1) jump).run P V3 = .ok (.bool jump.isNone) V4 /\ V4.heap[w.heap.size + 1]? = some (L (if jump.isNone then .ready else .done) jump) /\ V4.heap[w.heap.size]? = some D := λ jump V3 hk => by
      have h1 := hk.same _ _ (by omega) hl2 rfl
      exact ⟨h1, _, rfl, run_endRound (P := P) jump h1, World.putObj_heap_same (Array.getElem?_eq_some_iff.1 h1).1, (World.putObj_heap_other (by omega)).trans (hk.same _ _ (Nat.le_refl _) hd2 rfl)⟩
    have out : ∀ (c : Code) (V3 : World), KeepsFrom w.heap.size V2 V3 -> Ix c (pre ++ [x]) V3 -> ∃ r V4, (Instr.endRound (w.heap.size + 1) (some c)).run P V3 = .ok r V4 /\ (Ending.returned r = .returned (.bool false) /\ ∃ c, Ix c (pre ++ [x]) V4 /\ V4.heap[w.heap.size + 1]? = some (L .done (some c)) /\ V4.heap[w.heap.size]? = some D) := λ c V3 hk hi => by
      obtain ⟨h3, V4, rfl, hr, h4, h5⟩ := fin (some c) V3 hk
      exact ⟨_, _, hr, rfl, c, (hIx c).put hOk hi _ h3 rfl (by omega), h4, h5⟩
    rintro e a3 V3 hp
    cases e with
    | normal =>
      obtain ⟨hk, hkp, hi⟩ := hp
      obtain ⟨h3, V4, rfl, hr, h4, h5⟩ := fin none V3 hk
      exact ⟨_, _, hr, .inl ⟨rfl, ⟨hI.put hOk hi _ h3 rfl (by omega), h4, h5⟩, hKt (hKt hk2 hkp) (hKb _ _ _ _ (by omega) h3 rfl rfl)⟩⟩
    | ret => obtain ⟨r, V4, hr, h⟩ := out .ret V3 hp.1 hp.2; exact ⟨r, V4, hr, .inr h⟩
    | exit id => obtain ⟨r, V4, hr, h⟩ := out (.exit id) V3 hp.1 hp.2; exact ⟨r, V4, hr, .inr h⟩
    | goto t => obtain ⟨r, V4, hr, h⟩ := out (.goto t) V3 hp.1 hp.2; exact ⟨r, V4, hr, .inr h⟩
    | panic ch => exact hp.elim
    | outgrown => exact hp.elim
  -- behind the iterator
  rintro e W2 ⟨⟨v, rfl⟩, ⟨xs, hS, hi, hl, hd⟩ | ⟨pre, hSp, c, hi, hl, hd⟩⟩
  · exact ⟨none, _, run_endLoop (P := P) hl (by simp), hdone _ xs _ (Nat.le_refl _) hS (hI.put hOk hi _ hl rfl (by omega)) ((World.putObj_heap_other (by omega)).trans hd)⟩
  exact ⟨some c, _, run_endLoop (P := P) hl (by simp), hstop _ c pre _ (Nat.le_refl _) hSp ((hIx c).put hOk hi _ hl rfl (by omega)) ((World.putObj_heap_other (by omega)).trans hd)⟩
end Go.Proofs.YtclihnccilkohaaGreat
namespace Go.Proofs.YtclihnccilkohaaGreat
open Go.RowKit Go.Shelf
attribute [local go_sem] Oper.semAt_some
namespace Tm
mutual
def pre:Tm->Nat->Nat->List (Nat×Nat×Tm)
 | .mk b k i a,s,d=>(s+b.length,d,.mk b k i a) :: pres a (s+b.length) (d+1)
def pres:List Tm->Nat->Nat->List (Nat×Nat×Tm)
 | [],_,_=>[]
 | t :: l,s,d=>pre t s d++pres l s d
end
theorem pre_eq (b:List Ty)(k i:Int)(a:List Tm)(s d:Nat):pre (.mk b k i a) s d=(s+b.length,d,.mk b k i a) :: pres a (s+b.length) (d+1):=by rw[pre]
theorem pres_append (l r:List Tm)(s d:Nat):pres (l++r) s d=pres l s d++pres r s d:=by
 induction l with
 | nil=>simp[pres]
 | cons t l ih=>simp[pres,ih]
theorem pres_take (l:List Tm)(i s d:Nat)(h:i<l.length):pres (l.take (i+1)) s d=pres (l.take i) s d++pre l[i] s d:=by
 rw[List.take_succ_eq_append_getElem h,pres_append];simp[pres]
theorem pres_take_le (l:List Tm)(i s d:Nat):pres (l.take i) s d <+: pres l s d:=by
 conv=>rhs;rw[<-List.take_append_drop i l]
 rw[pres_append];exact List.prefix_append _ _
theorem pres_length_of {l:List Tm}(h:∀ t∈l,∀ s d,(pre t s d).length=t.size):∀ s d,(pres l s d).length=sizes l:=by
 induction l with
 | nil=>intro s d;simp[pres,sizes]
 | cons t l ih=>intro s d;simp[pres,sizes,h t (by simp) s d,ih (λ u hu=>h u (by simp[hu])) s d]
theorem pre_length (t:Tm):∀ s d,(pre t s d).length=t.size:=by
 induction t using Tm.ind with
 | h b k i a ih=>intro s d;simp[pre_eq,size_eq,pres_length_of ih]
theorem pres_length (l:List Tm)(s d:Nat):(pres l s d).length=sizes l:=pres_length_of (λ t _=>pre_length t) s d
end Tm
structure X4 (F:Nat->Prop) (w:World) where
 s:Nat
 d:Nat
 pb:Option Addr
 cb:Nat
 pa:Option Addr
 ca:Nat
 t:Tm
 ok:XS F w (.slice pb t.binds.length cb) (.int .i64 t.kind) (.int .i64 t.index) (.slice pa t.args.length ca) t
def X4.key {F:Nat->Prop}{w:World}(x:X4 F w):Nat×Nat×Tm:=(x.s,x.d,x.t)
def X4.enc {F:Nat->Prop}{w:World}(x:X4 F w):Array Value:=#[.agg #[.int .i64 x.s,.int .i64 x.d],.agg #[.slice x.pb x.t.binds.length x.cb,.int .i64 x.t.kind,.int .i64 x.t.index,.slice x.pa x.t.args.length x.ca]]
def M3 {F:Nat->Prop}{w0:World}(G:Nat->TypeId->Prop)(J Jx:List (X4 F w0)->World->Prop)(pre:List (X4 F w0))(l:List (Nat×Nat×Tm))(W:World)(e:Ending)(W':World):Prop:=
 (e=.returned (.bool true)/\KeepC G W W'/\∃ xs,xs.map X4.key=l/\J (pre++xs) W')∨(e=.returned (.bool false)/\∃ xs,xs.map X4.key <+: l/\Jx (pre++xs) W')
def Uf (o:Obj):Prop:=o.isCells=false∨∃ cs fr,o=.cells cs 149 fr
theorem KeepC.setNew {G:Nat->TypeId->Prop}{A B:World}(h:KeepC G A B)(p:Addr)(u:Value)(hp:A.heap.size<=p.block):KeepC G A (B.setCell p u):=
 ⟨by simpa using h.size,λ k cs t fr hk hc=>by
  have hlt:k<A.heap.size:=(Array.getElem?_eq_some_iff.1 hc).1
  exact(Below.heap_setCell _ _ _ _ (λ e=>by omega)).trans (h.cells k cs t fr hk hc)⟩
theorem XU.setSpot {β:Type}{B:Nat}{J:β->World->Prop}(h:XU Uf B J){s:β}{W:World}(hs:J s W){n i:Nat}{cs:Array Value}(u:Value)(hb:Blk W n cs 149)(hB:B<=n):J s (W.setCell ⟨n,i,none⟩ u):=
 h s W _ (some n) hs ⟨rfl,rfl,rfl,by simp,λ k _ hk=>Below.heap_setCell _ _ _ _ (λ e=>hk (by rw[e]))⟩ (λ r e=>by cases e;exact⟨hB,_,hb,.inr ⟨_,_,rfl⟩⟩)
set_option maxRecDepth 100000 in
set_option maxHeartbeats 1000000 in
theorem Je {F:Nat->Prop}{w0:World}(G:Nat->TypeId->Prop)(hGF:∀ k t,F k->k<w0.heap.size->G k t)(l N B0:Nat)(hN0:N<=36000000)(J Jx:List (X4 F w0)->World->Prop)(hJ:XU Uf B0 J) 
  (hY:∀ m pre x W,J pre W->pre.length<N->YieldAt Fence.wide m Tryz.prog l (X4.enc x) W λ e W'=>
   (e=.returned (.bool true)/\J (pre++[x]) W'/\KeepC G W W')∨(e=.returned (.bool false)/\Jx (pre++[x]) W')) :
  ∀ t:Tm,∀ {b k i a:Value} (_:XS F w0 b k i a t) (n s d:Nat) (si di:Int) (pre:List (X4 F w0)) (W:World),si=s->di=d->(∀ k t,W.heap.size<=k->t≠3->G k t)->B0<=W.heap.size->Keep F w0 W->J pre W->pre.length+t.size<=N->d+t.depth<=36000000->s+t.full<=36000000 ->
   CallsIn Fence.wide n Tryz.prog 99 #[.agg #[b,k,i,a],.agg #[.int .i64 si,.int .i64 di],.func (.yield l) #[] #[]] W (M3 G J Jx pre (t.pre s d) W):=Tm.ind λ binds k0 i0 args ih=>by
 intro b k i a ht nn s d si di pre W hsi hdi hG hB0 hw hJ0 hN hd hs
 subst hsi hdi
 obtain⟨pa,pc,qa,qc,rfl,rfl,rfl,rfl⟩:=ht.shape
 simp only[Tm.binds,Tm.kind,Tm.index,Tm.args] at ht ⊢
 obtain⟨_,_,_,hsl⟩:=ht.inv
 simp only[Tm.args] at hsl
 obtain⟨_,hm,bl,off,PA,A,PN,PC,N',C,Kd,Ix,ha,h1,h2,h3,h4,h5⟩:=Td hsl
 have hdd:∀ k:Nat,(Fence.wide.depth.isSome=true->1<=k):=λ k h=>by cases h
 have hlen:args.length<=36000000:=by have:=Tm.len_sizes args;rw[Tm.size_eq] at hN;omega
 have hbl:s+binds.length<=36000000:=by have:=Ty.le_sizes binds;rw[Tm.full_eq] at hs;omega
 have hq1:IntKind.i64.wrap ((s:Int)+(binds.length:Int))=(s:Int)+(binds.length:Int):=IntWalk.i64_in _ (by omega)
 have hdb:(d:Int)<=36000000:=by omega
 have hq2:IntKind.i64.wrap ((d:Int)+1)=(d:Int)+1:=IntWalk.i64_in _ (by omega)
 obtain⟨W1,hW1⟩:∃ W1,(W.alloc (.cells #[.slice pa binds.length pc,.int .i64 k0,.int .i64 i0,.slice qa args.length qc] 62)).alloc (.cells #[.int .i64 ((s:Int)+(binds.length:Int)),.int .i64 d] 149)=W1:=⟨_,rfl⟩
 have hJ1:J pre W1:=by rw[<-hW1];exact hJ.alloc (hJ.alloc hJ0 _) _
 have xt:Blk W1 W.heap.size #[.slice pa binds.length pc,.int .i64 k0,.int .i64 i0,.slice qa args.length qc] 62:=by rw[<-hW1];exact(Blk.new _ _ _ rfl).alloc _
 have xs:Blk W1 (W.heap.size+1) #[.int .i64 ((s:Int)+(binds.length:Int)),.int .i64 d] 149:=by rw[<-hW1];exact Blk.new _ _ _ (by simp)
 have hz1:W1.heap.size=W.heap.size+2:=by rw[<-hW1];simp
 have hk0:KeepC G W W1:=by rw[<-hW1];exact((KeepC.refl G W).alloc _).alloc _
 obtain⟨X,hX⟩:∃ X:X4 F w0,X=⟨s+binds.length,d,pa,pc,qa,qc,.mk binds k0 i0 args,ht⟩:=⟨_,rfl⟩
 have hkey:X.key=(s+binds.length,d,.mk binds k0 i0 args):=by rw[hX];rfl
 obtain⟨fn,tmps,assign,body,hy,hR⟩:=hY (nn-1) pre X W1 hJ1 (by have:=Tm.size_pos (.mk binds k0 i0 args);omega)
 have henc:X.enc=#[.agg #[.int .i64 ((s:Int)+(binds.length:Int)),.int .i64 d],.agg #[.slice pa binds.length pc,.int .i64 k0,.int .i64 i0,.slice qa args.length qc]]:=by rw[hX];simp[X4.enc,Tm.binds,Tm.kind,Tm.index,Tm.args]
 rw[henc] at hy
 clear hX henc ht hsl
 refine callsIn_of_wp Tryz.func99 rfl trivial ?_ rfl
 simp only[Tryz.ntmps99,List.size_toArray,List.length_cons,List.length_nil,Nat.reduceAdd,Nat.reduceSub,Array.replicate_succ,Array.replicate_zero,List.push_toArray,List.append_toArray,List.nil_append,List.cons_append]
 have c0:W1.cell? ⟨W.heap.size,0,none⟩=some (.slice pa binds.length pc):=xt.cell rfl
 have c1:W1.cell? ⟨W.heap.size,1,none⟩=some (.int .i64 k0):=xt.cell rfl
 have c2:W1.cell? ⟨W.heap.size,2,none⟩=some (.int .i64 i0):=xt.cell rfl
 have c3:W1.cell? ⟨W.heap.size,3,none⟩=some (.slice qa args.length qc):=xt.cell rfl
 have s0:W1.cell? ⟨W.heap.size+1,0,none⟩=some (.int .i64 ((s:Int)+(binds.length:Int))):=xs.cell rfl
 have s1:W1.cell? ⟨W.heap.size+1,1,none⟩=some (.int .i64 d):=xs.cell rfl
 gi_wp2_with fail
 clear hW1
 refine⟨hdd _,hR.mono ?_⟩
 clear c0 c1 c2 c3 s0 s1
 rintro e W2 (⟨rfl,hJ2,hk1⟩ | ⟨rfl,hx1⟩)
 rotate_left
 ·gi_wp2_with fail
  go_ret
  exact .inr ⟨rfl,[X],⟨Tm.pres args (s+binds.length) (d+1),by simp[hkey,Tm.pre_eq]⟩,hx1⟩
 have yt:Blk W2 W.heap.size _ _:=hk1.blk xt (hG _ _ (Nat.le_refl _) (by decide))
 have ys:Blk W2 (W.heap.size+1) _ _:=hk1.blk xs (hG _ _ (by omega) (by decide))
 have c0:W2.cell? ⟨W.heap.size,0,none⟩=some (.slice pa binds.length pc):=yt.cell rfl
 have c1:W2.cell? ⟨W.heap.size,1,none⟩=some (.int .i64 k0):=yt.cell rfl
 have c2:W2.cell? ⟨W.heap.size,2,none⟩=some (.int .i64 i0):=yt.cell rfl
 have c3:W2.cell? ⟨W.heap.size,3,none⟩=some (.slice qa args.length qc):=yt.cell rfl
 have s1:W2.cell? ⟨W.heap.size+1,1,none⟩=some (.int .i64 d):=ys.cell rfl
 have f1:=ys.free 1
 gi_wp2_with fail
 obtain⟨W3,hW3⟩:∃ W3,W2.setCell ⟨W.heap.size+1,1,none⟩ (.int .i64 ((d:Int)+1))=W3:=⟨_,rfl⟩
 have hJ3:J (pre++[X]) W3:=by rw[<-hW3];exact hJ.setSpot hJ2 _ ys (by omega)
 have hk3:KeepC G W W3:=by rw[<-hW3];exact(hk0.trans hk1).setNew _ _ (by simp)
 have xt3:Blk W3 W.heap.size #[.slice pa binds.length pc,.int .i64 k0,.int .i64 i0,.slice qa args.length qc] 62:=by rw[<-hW3];exact yt.far _ _ (by simp)
 have xs3:Blk W3 (W.heap.size+1) #[.int .i64 ((s:Int)+(binds.length:Int)),.int .i64 ((d:Int)+1)] 149:=by rw[<-hW3];exact ys.set 1 _
 try rw[hW3]
 clear hW3 c0 c1 c2 c3 s1 f1 hJ2 hk1 yt ys hk0 xt xs hJ1 hR hy hY hz1
 have Hih:=Lib.hid ih;clear ih
 have HG:=Lib.hid hG;clear hG
 have HN:=Lib.hid hN;clear hN
 have Hd:=Lib.hid hd;clear hd
 have Hs:=Lib.hid hs;clear hs
 gi_loopw [8,28] (λ _ i wr=>∃ (k:Nat) (xs:List (X4 F w0)),i=.int .i64 k/\k<=args.length/\Hid (xs.map X4.key=Tm.pres (args.take k) (s+binds.length) (d+1))/\J (pre++[X]++xs) wr/\KeepC G W wr /\
   Blk wr W.heap.size #[.slice pa binds.length pc,.int .i64 k0,.int .i64 i0,.slice qa args.length qc] 62/\Blk wr (W.heap.size+1) #[.int .i64 ((s:Int)+(binds.length:Int)),.int .i64 ((d:Int)+1)] 149) (λ _ i _=>args.length-(intOf i).toNat)
 case atStart=>exact⟨0,[],rfl,by omega,by simp[Hid,Tm.pres],by simpa using hJ3,hk3,xt3,xs3⟩
 case round=>
  clear hJ3 hk3 xt3 xs3
  obtain⟨k,xs,rfl,hk,hxs,hJr,hkr,hbt,hbs⟩:=hrel
  have Hkr:=Lib.hid hkr
  have HJr:=Lib.hid hJr;clear hJr
  have hsz:=hkr.size
  have hsb:=hbs.lt
  have s0:wr.cell? ⟨W.heap.size+1,0,none⟩=some (.int .i64 ((s:Int)+(binds.length:Int))):=hbs.cell rfl
  have s1:wr.cell? ⟨W.heap.size+1,1,none⟩=some (.int .i64 ((d:Int)+1)):=hbs.cell rfl
  by_cases hlt:k<args.length
  ·obtain⟨rfl,hF⟩:=ha (by omega)
   have hKp:Keep F w0 wr:=hkr.keep' hw hGF
   have e1:=hKp _ _ _ hF (h1 k hlt)
   have e2:=hKp _ _ _ hF (h2 k hlt)
   have e3:=hKp _ _ _ hF (h3 k hlt)
   have e4:=hKp _ _ _ hF (h4 k hlt)
   have hs1:=Lib.hid (Tm.sizes_take args k hlt)
   have hs2:=Lib.hid (Tm.sizes_take_le args (k+1))
   have hl:Hid (xs.length=Tm.sizes (args.take k)):=by
    show _=_
    have:=congrArg List.length hxs.out
    rw[List.length_map] at this
    rw[this,Tm.pres_length]
   have hz:pre.length+1+xs.length+args[k].size<=N:=by have:=HN.out;have:=hl.out;have:=hs1.out;have:=hs2.out;rw[Tm.size_eq] at *;omega
   gi_wp2_with fail
   refine⟨trivial,hdd _,(Hih.out args[k] (List.getElem_mem hlt) (h5 k hlt) (nn-1) (s+binds.length) (d+1) ((s:Int)+(binds.length:Int)) ((d:Int)+1) (pre++[X]++xs) _ (by omega) (by omega) (λ q t hq ht=>HG.out q t (by simp at hq;omega) ht) (by simp;omega) (hKp.alloc _) (hJ.alloc HJr.out _) (by simp;omega) ?_ ?_).mono ?_⟩
   ·have:=Hd.out;have:=Tm.depth_mem (List.getElem_mem hlt);rw[Tm.depth_eq] at *;omega
   ·have:=Hs.out;have:=Tm.full_mem (List.getElem_mem hlt);have:=Ty.le_sizes binds;rw[Tm.full_eq] at *;omega
   rintro e W2 (⟨rfl,hk2,ys,hys,hJ2⟩ | ⟨rfl,ys,hys,hx2⟩)
   ·have HJ2:=Lib.hid hJ2;clear hJ2
    have Hys:=Lib.hid hys;clear hys
    have hbt2:=hk2.blk (hbt.alloc _) (HG.out _ _ (Nat.le_refl _) (by decide))
    have hbs2:=hk2.blk (hbs.alloc _) (HG.out _ _ (by omega) (by decide))
    gi_wp2_with fail
    go_roundw
    case rel=>exact⟨k+1,xs++ys,by go_num,by omega,by show _=_;rw[List.map_append,hxs.out,Hys.out,Tm.pres_take _ _ _ _ hlt],by rw[<-List.append_assoc];exact HJ2.out,(Hkr.out.alloc _).trans hk2,hbt2,hbs2⟩
    case measure=>simp[intOf];omega
   have Hys:=Lib.hid hys;clear hys
   have Hx2:=Lib.hid hx2;clear hx2
   gi_wp2_with fail
   go_ret
   refine .inr ⟨rfl,X :: (xs++ys),?_,by simpa using Hx2.out⟩
   obtain⟨r,hr⟩:=Hys.out
   have hp:=Tm.pres_take args k (s+binds.length) (d+1) hlt
   rw[<-hr] at hp
   obtain⟨q,hq⟩:=Tm.pres_take_le args (k+1) (s+binds.length) (d+1)
   refine⟨r++q,?_⟩
   simp only[Tm.pre_eq,List.map_cons,List.map_append,hkey,List.cons_append]
   rw[<-hq,hp,<-hxs.out]
   simp
  gi_wp2_with fail
  go_ret
  refine .inl ⟨rfl,Hkr.out,X :: xs,?_,by simpa using HJr.out⟩
  have h:=hxs.out
  rw[List.take_of_length_le (by omega)] at h
  simp[Tm.pre_eq,hkey,<-h]
theorem LF {F:Nat->Prop}{w0:World}(G:Nat->TypeId->Prop)(hGF:∀ k t,F k->k<w0.heap.size->G k t)(l:Nat)(J Jx:List (X4 F w0)->World->Prop) 
  {b k i a:Value} {t:Tm} (ht:XS F w0 b k i a t) (hsz:t.full<=17100000) (n:Nat) (W:World) (hJ:XU Uf W.heap.size J)
  (hY:∀ pre x V,J pre V->pre.length<t.size->YieldAt Fence.wide (n-1) Tryz.prog l (X4.enc x) V λ e W'=>
   (e=.returned (.bool true)/\J (pre++[x]) W'/\KeepC G V W')∨(e=.returned (.bool false)/\Jx (pre++[x]) W'))
  (hG:∀ k t,W.heap.size<=k->t≠3->G k t) (hw:Keep F w0 W) (Bt:Nat) (c0:W.cell? ⟨Bt,0,none⟩=some b) (c1:W.cell? ⟨Bt,1,none⟩=some k) (c2:W.cell? ⟨Bt,2,none⟩=some i) (c3:W.cell? ⟨Bt,3,none⟩=some a) (h0:J [] W) :
  CallsIn Fence.wide n Tryz.prog 98 #[.func (.yield l) #[] #[],.pointer (some ⟨Bt,0,none⟩)] W λ e W'=>(∃ v,e=.returned v) /\
   ((∃ ys,List.map X4.key ys=t.pre 0 1/\J ys W')∨(∃ pre,List.map X4.key pre <+: t.pre 0 1/\Jx pre W')):=by
 have hdd:∀ k:Nat,(Fence.wide.depth.isSome=true->1<=k):=λ k h=>by cases h
 have hf:=Tm.size_le_full t
 have hp:=Lib.hid (Je G hGF l t.size W.heap.size (by omega) J Jx hJ (λ m pre x V hj hl=>Ro rfl m (hY pre x V hj hl)) t ht (n-1) 0 1 0 1 [] W rfl rfl hG (Nat.le_refl _) hw h0 (by simp) (by have:=Tm.depth_le_size t;omega) (by omega))
 clear hG hY
 obtain⟨pa,pc,qa,qc,rfl,rfl,rfl,rfl⟩:=ht.shape
 refine callsIn_of_wp Tryz.func98 rfl trivial ?_ rfl
 simp only[Tryz.ntmps98,List.size_toArray,List.length_cons,List.length_nil,Nat.reduceAdd,Nat.reduceSub,Array.replicate_succ,Array.replicate_zero,List.push_toArray,List.append_toArray,List.nil_append,List.cons_append]
 gi_wp2_with fail
 refine⟨trivial,hdd _,hp.out.mono ?_⟩
 rintro e W1 (⟨rfl,hk,ys,hys,hJ1⟩ | ⟨rfl,ys,hys,hx⟩)
 ·have A1:=Lib.hid hys;clear hys
  gi_wp2_with fail
  go_end0
  exact⟨⟨_,rfl⟩,.inl ⟨ys,A1.out,by simpa using hJ1⟩⟩
 have A1:=Lib.hid hys;clear hys
 gi_wp2_with fail
 go_end0
 exact⟨⟨_,rfl⟩,.inr ⟨ys,A1.out,by simpa using hx⟩⟩
theorem SN {F:Nat->Prop}{w0:World}(G:Nat->TypeId->Prop)(hGF:∀ k t,F k->k<w0.heap.size->G k t){b k i a:Value}{t:Tm}(ht:XS F w0 b k i a t)(hsz:t.full<=17100000)(n:Nat) 
  (w:World) (hG:∀ k t,w.heap.size<=k->t≠3->G k t) (hw:Keep F w0 w) (Bt:Nat) (hB:Blk w Bt #[b,k,i,a] 62) :
  Qc Uf Fence.wide n Tryz.prog 98 #[.pointer (some ⟨Bt,0,none⟩)] (X4.enc (F:=F) (w:=w0)) (KeepC G) (λ ys=>ys.map X4.key=t.pre 0 1) (λ p=>p.map X4.key <+: t.pre 0 1) t.size w:=
 λ l J Jx W hW hJ _ hY h0=>by
  have hB':=hB.below hW
  exact LF G hGF l J Jx ht hsz n W hJ hY (λ k t hk ht=>hG k t (Nat.le_trans hW.size hk) ht) (hw.below hW) Bt (hB'.cell rfl) (hB'.cell rfl) (hB'.cell rfl) (hB'.cell rfl) h0
theorem No (b k i a:Value)(n:Nat)(w:World)(hs:∃ p m c,b=.slice p m c)(hk:∃ x,k=.int .i64 x)(hi:∃ x,i=.int .i64 x)(ha:∃ p m c,a=.slice p m c):
  CallsIn Fence.wide n Tryz.prog 69 #[.agg #[b,k,i,a]] w λ e w'=>e=.returned (.func (.func 98) #[] #[.pointer (some ⟨w.heap.size,0,none⟩)])/\w'=w.alloc (.cells #[b,k,i,a] 62):=by
 obtain⟨pb,mb,cb,rfl⟩:=hs
 obtain⟨kx,rfl⟩:=hk
 obtain⟨ix,rfl⟩:=hi
 obtain⟨pa,ma,ca,rfl⟩:=ha
 refine callsIn_of_wp Tryz.func69 rfl trivial ?_ rfl
 simp only[Tryz.ntmps69,List.size_toArray,List.length_cons,List.length_nil,Nat.reduceAdd,Nat.reduceSub,Array.replicate_succ,Array.replicate_zero,List.push_toArray,List.append_toArray,List.nil_append,List.cons_append]
 gi_wp2_with fail
 go_ret
 exact⟨rfl,rfl⟩
end Go.Proofs.YtclihnccilkohaaGreat
namespace Go.Proofs.YtclihnccilkohaaGreat
open Go.RowKit Go.Shelf
attribute [local go_sem] Oper.semAt_some
theorem MZ {W:World}{n:Nat}{cs:Array Value}{T:TypeId}(hT:T≠149){W':World}{B:Nat}{row:Option Nat}(h:Blk W n cs T)(hg:W.grownBy W' row)(hr:∀ r,row=some r->B<=r/\∃ o:Obj,W.heap[r]?=some o/\Uf o):Blk W' n cs T:=
 h.grown hg λ e=>by
  obtain⟨_,o,ho,h'⟩:=hr _ e
  have hb:W.heap[n]?=_:=h
  rw[hb] at ho;cases ho
  rcases h' with h' | ⟨cs',fr,h'⟩
  ·simp[Obj.isCells] at h'
  cases h';exact hT rfl
theorem Se {β:Type}{n B:Nat}{T:TypeId}(hT:T≠149)(f:β->Array Value):XU Uf B (λ s W=>Blk W n (f s) T):=λ _ _ _ _ hs hg hr=>MZ hT hs hg hr
end Go.Proofs.YtclihnccilkohaaGreat
namespace Go.Proofs.YtclihnccilkohaaGreat
open Go.RowKit Go.Shelf
attribute [local go_sem] Oper.semAt_some
namespace Tm
theorem pres_depth_of {l:List Tm}(h:∀ t∈l,∀ s d m,(∀ p∈pre t s d,p.2.1<=m)↔d+t.depth<=m+1):∀ s d m,d<=m+1->((∀ p∈pres l s d,p.2.1<=m)↔d+depths l<=m+1):=by
 intro s d m hd
 induction l with
 | nil=>simp[pres,depths,hd]
 | cons t l ih=>
  have h1:=h t (by simp) s d m
  have h2:=ih (λ u hu=>h u (by simp[hu]))
  simp only[pres,depths,List.mem_append]
  constructor
  ·intro h3
   have a:=h1.1 λ p hp=>h3 p (.inl hp)
   have b:=h2.1 λ p hp=>h3 p (.inr hp)
   omega
  intro h3 p hp
  rcases hp with hp | hp
  ·exact h1.2 (by omega) p hp
  exact h2.2 (by omega) p hp
theorem pre_depth (t:Tm):∀ s d m,(∀ p∈pre t s d,p.2.1<=m)↔d+t.depth<=m+1:=by
 induction t using Tm.ind with
 | h b k i a ih=>
  intro s d m
  have h:=pres_depth_of ih (s+b.length) (d+1) m
  rw[pre_eq,depth_eq]
  simp only[List.mem_cons,forall_eq_or_imp]
  constructor
  ·rintro⟨h1,h2⟩
   have:=(h (by omega)).1 h2
   omega
  intro h1
  exact⟨by omega,(h (by omega)).2 (by omega)⟩
end Tm
set_option maxRecDepth 100000 in
set_option maxHeartbeats 2000000 in
theorem ML {F:Nat->Prop}{w:World}{b k i a:Value}{t:Tm}(ht:XS F w b k i a t)(hsz:t.full<=17100000):Calls Tryz.prog 34 #[.agg #[b,k,i,a]] w (SC (t.size<=5000/\t.depth<=60) w):=by
 refine(callsIn_wide (n:=9)).1 ?_
 have Ht:=Lib.hid (ht.weaken (F':=λ _=>True) λ _ _ _=>trivial)
 obtain⟨pa,pc,qa,qc,rfl,rfl,rfl,rfl⟩:=ht.shape
 clear ht
 obtain⟨x1,hx1⟩:∃ x,t.binds.length=x:=⟨_,rfl⟩
 obtain⟨x2,hx2⟩:∃ x,t.args.length=x:=⟨_,rfl⟩
 obtain⟨x3,hx3⟩:∃ x,t.kind=x:=⟨_,rfl⟩
 obtain⟨x4,hx4⟩:∃ x,t.index=x:=⟨_,rfl⟩
 rw[hx1,hx2,hx3,hx4] at Ht ⊢
 clear hx1 hx2 hx3 hx4
 refine callsIn_of_wp_marks Tryz.func34 rfl trivial ?_ rfl
 simp only[Tryz.ntmps34,List.size_toArray,List.length_cons,List.length_nil,Nat.reduceAdd,Nat.reduceSub,Array.replicate_succ,Array.replicate_zero,List.push_toArray,List.append_toArray,List.nil_append,List.cons_append]
 gi_wp2_with fail
 refine⟨trivial,(No _ _ _ _ _ _ ⟨_,_,_,rfl⟩ ⟨_,rfl⟩ ⟨_,rfl⟩ ⟨_,_,_,rfl⟩).mono ?_⟩
 rintro e w' ⟨rfl,rfl⟩
 gi_wp2_with fail
 have hsz':=Lib.hid hsz
 have hfl:=Tm.size_le_full t
 obtain⟨w5,hw5⟩:∃ w5,(((w.alloc (.cells #[.slice pa x1 pc,.int .i64 x3,.int .i64 x4,.slice qa x2 qc] 62)).alloc (.cells #[.bool false] 4)).alloc (.cells #[.int .i64 0] 3)).alloc (.cells #[.slice pa x1 pc,.int .i64 x3,.int .i64 x4,.slice qa x2 qc] 62)=w5:=⟨_,rfl⟩
 have hB0:Below w.heap.size w w5:=by rw[<-hw5];exact((((Below.refl _ w).alloc (Nat.le_refl _) _).alloc (by simp) _).alloc (by simp;omega) _).alloc (by simp;omega) _
 have hz:w5.heap.size=w.heap.size+4:=by rw[<-hw5];simp
 have y1:Blk w5 (w.heap.size+1) #[.bool false] 4:=by rw[<-hw5];exact((Blk.new _ _ _ (by simp)).alloc _).alloc _
 have y2:Blk w5 (w.heap.size+2) #[.int .i64 0] 3:=by rw[<-hw5];exact(Blk.new _ _ _ (by simp)).alloc _
 have y3:Blk w5 (w.heap.size+1+1+1) #[.slice pa x1 pc,.int .i64 x3,.int .i64 x4,.slice qa x2 qc] 62:=by rw[<-hw5];exact Blk.new _ _ _ (by simp)
 rw[hw5]
 clear hw5
 refine TV (Ok:=Uf) (λ o h=>.inl h) rfl (by omega) (gf:=98) (lb:=#[.pointer (some ⟨w.heap.size+1+1+1,0,none⟩)]) rfl trivial (enters_of Tryz.func98 (by kernel_rfl) rfl)
  (SN (GV w.heap.size (w.heap.size+3)) (λ k _ _ hk=>.inl hk) Ht.out hsz (9-1) w5 (λ k _ hk _=>.inr (by omega)) ((Keep.refl _ _).below hB0) (w.heap.size+1+1+1) y3)
  (λ h h'=>h.trans h') (λ W l o o' _ hl ho _=>KeepC.putObj _ W l o o' hl ho) (Below.refl _ _) (λ _=>rfl)
  (λ pre W=>(Blk W (w.heap.size+1) #[.bool false] 4/\Blk W (w.heap.size+2) #[.int .i64 (pre.length:Int)] 3)/\(Hid (pre.length<=5000/\∀ x∈pre,x.d<=60)/\Below w.heap.size w W))
  (λ c pre W=>(Blk W (w.heap.size+1) #[.bool false] 4/\Below w.heap.size w W)/\(c=.ret/\Hid (5000<pre.length∨∃ x∈pre,¬ x.d<=60)))
  (XU.and (XU.and (Se (by decide) (fun(_:List (X4 (λ _=>True) w))=>#[.bool false])) (Se (by decide) (fun(pre:List (X4 (λ _=>True) w))=>#[.int .i64 (pre.length:Int)]))) (XU.and (λ _ _ _ _ h _ _=>h) (Sd (Nat.le_refl _) (by omega))))
  (λ c=>XU.and (XU.and (Se (by decide) (fun(_:List (X4 (λ _=>True) w))=>#[.bool false])) (Sd (Nat.le_refl _) (by omega))) (λ _ _ _ _ h _ _=>h))
  ⟨⟨y1,y2⟩,⟨by simp,by simp⟩,hB0⟩
  (λ x a' W=>∃ Bx,w.heap.size+2<Bx/\Blk W Bx #[.int .i64 x.s,.int .i64 x.d] 149/\a'={ tmps:=#[.agg #[.slice pa x1 pc,.int .i64 x3,.int .i64 x4,.slice qa x2 qc],.pointer (some ⟨w.heap.size,0,none⟩),.pointer (some ⟨w.heap.size+1,0,none⟩),.pointer (some ⟨w.heap.size+1+1,0,none⟩),.pointer (some ⟨Bx,0,none⟩),.agg #[.slice pa x1 pc,.int .i64 x3,.int .i64 x4,.slice qa x2 qc],.func (.func 98) #[] #[.pointer (some ⟨w.heap.size+1+1+1,0,none⟩)],.agg #[.int .i64 x.s,.int .i64 x.d],.agg #[.slice x.pb x.t.binds.length x.cb,.int .i64 x.t.kind,.int .i64 x.t.index,.slice x.pa x.t.args.length x.ca],undef,undef,undef,undef,undef,undef,undef,undef,undef],defers:=[] })
  (λ x a' W l o o' hl ho hoc=>by
   rintro⟨Bx,h1,h2,h3⟩
   refine⟨Bx,h1,?_,h3⟩
   have hne:l≠Bx:=λ e=>by
    subst e
    have hb:W.heap[l]?=_:=h2
    rw[hb] at ho;cases ho;simp[Obj.isCells] at hoc
   exact(World.putObj_heap_other (Ne.symm hne)).trans h2) ?assign ?body ?done ?stop
 case assign=>
  rintro l pre x W K ⟨⟨z1,z2⟩,hp,hB⟩ hK
  have HK:=Lib.hid hK;clear hK
  have Hp:=Lib.hid hp;clear hp
  simp only[X4.enc] at *
  gi_wp2
  have hs:=hB.size
  exact HK.out _ _ ((KeepsOthers.alloc _ _).from _) ((KeepC.refl _ W).alloc _) ⟨⟨z1.alloc _,z2.alloc _⟩,Hp.out,hB.alloc hs _⟩ ⟨W.heap.size,z2.lt,Blk.new _ _ _ rfl,rfl⟩
 case body=>
  rintro l pre x a' W ⟨⟨z1,z2⟩,hp,hB⟩ hlt ⟨Bx,hBx,bX,rfl⟩
  have c1:W.cell? ⟨w.heap.size+1,0,none⟩=some (.bool false):=z1.cell rfl
  have f1:=z1.free 0
  have c2:W.cell? ⟨w.heap.size+1+1,0,none⟩=some (.int .i64 (pre.length:Int)):=z2.cell rfl
  have f2:=z2.free 0
  have cx:W.cell? ⟨Bx,1,none⟩=some (.int .i64 x.d):=bX.cell rfl
  have hlt2:(pre.length:Int)<=36000000:=by omega
  have hBn:¬ (Bx=w.heap.size+1+1):=by omega
  have Hp:=Lib.hid hp.out;clear hp
  have hbd:Hid (Below w.heap.size w ((W.setCell ⟨w.heap.size+1+1,0,none⟩ (.int .i64 ((pre.length:Int)+1))).setCell ⟨w.heap.size+1,0,none⟩ (.bool false))):=(hB.setCell (by simp;omega) _).setCell (by simp) _
  by_cases h2:(5000:Int)<(pre.length:Int)+1
  ·gi_wp2
   first
   | exact⟨((KeepsOthers.setCell W _ _).trans (KeepsOthers.setCell _ _ _)).from _,⟨(z1.far ⟨w.heap.size+1+1,0,none⟩ _ (by simp)).set 0 _,hbd.out⟩,rfl,.inl (by simp;omega)⟩
   | exact⟨(KeepsOthers.setCell W _ _).from _,⟨z1.far ⟨w.heap.size+1+1,0,none⟩ _ (by simp),hB.setCell (by simp;omega) _⟩,rfl,.inl (by simp;omega)⟩
  by_cases h1:60<x.d
  ·have h1':(60:Int)<(x.d:Int):=by omega
   gi_wp2
   first
   | exact⟨((KeepsOthers.setCell W _ _).trans (KeepsOthers.setCell _ _ _)).from _,⟨(z1.far ⟨w.heap.size+1+1,0,none⟩ _ (by simp)).set 0 _,hbd.out⟩,rfl,.inr ⟨x,by simp,by omega⟩⟩
   | exact⟨(KeepsOthers.setCell W _ _).from _,⟨z1.far ⟨w.heap.size+1+1,0,none⟩ _ (by simp),hB.setCell (by simp;omega) _⟩,rfl,.inr ⟨x,by simp,by omega⟩⟩
  have h1':¬ (60:Int)<(x.d:Int):=by omega
  gi_wp2
  refine⟨(KeepsOthers.setCell W _ _).from _,(KeepC.refl _ W).setCell _ _ (by simp[GV];omega),⟨z1.far _ _ (by simp),?_⟩,⟨by have:=Hp.out.1;simp;omega,λ y hy=>?_⟩,hB.setCell (by simp;omega) _⟩
  ·have:=z2.set 0 (.int .i64 ((pre.length:Int)+1))
   simpa using this
  rcases List.mem_append.1 hy with hy | hy
  ·exact Hp.out.2 y hy
  simp at hy;subst hy;omega
 case done=>
  rintro D ys W hD hys ⟨⟨z1,z2⟩,hp,hB⟩ hK
  have c1:W.cell? ⟨w.heap.size+1,0,none⟩=some (.bool false):=z1.cell rfl
  have f1:=z1.free 0
  have Hys:=Lib.hid hys;clear hys
  have Hp:=Lib.hid hp.out;clear hp
  gi_wp2
  have hK':=(KeepsOthers.setCell W ⟨w.heap.size+1,0,none⟩ (.bool true)).same D _ hK rfl
  refine⟨by simp,.inl ⟨_,_,rfl,run_takeDeferred hK',?_⟩⟩
  have hc5:=cell_kept ((z1.set 0 (.bool true)).cell (i:=0) (v:=.bool true) rfl) (grownBy_putObj' _ D (.deferred none)) (λ r e=>by cases e;exact⟨_,hK',rfl⟩)
  refine⟨.bool true,?_,⟨true,?_,rfl,?_⟩⟩
  ·simp[results,Tryz.results34,go_sem,hc5]
  ·have hl:ys.length=t.size:=by rw[<-Tm.pre_length t 0 1,<-Hys.out,List.length_map]
   have hd:=(Tm.pre_depth t 0 1 60).1 (λ p hp'=>by
    rw[<-Hys.out] at hp'
    obtain⟨y,hy,he⟩:=List.mem_map.1 hp'
    rw[<-he];exact Hp.out.2 y hy)
   have:=Hp.out.1
   simp;omega
  exact(hB.setCell (p:=⟨w.heap.size+1,0,none⟩) (by simp) _).trans (belowK_b (w:=w) (Nat.le_refl _) _ D _ _ (by omega) hK' rfl rfl)
 case stop=>
  rintro D c pre W hD hpre ⟨⟨z1,hB⟩,rfl,hbad⟩ hK
  gi_wp2
  refine⟨by simp,.inl ⟨_,_,rfl,run_takeDeferred hK,?_⟩⟩
  have hc5:=cell_kept (z1.cell (i:=0) (v:=.bool false) rfl) (grownBy_putObj' _ D (.deferred none)) (λ r e=>by cases e;exact⟨_,hK,rfl⟩)
  refine⟨.bool false,?_,⟨false,?_,rfl,?_⟩⟩
  ·simp[results,Tryz.results34,go_sem,hc5]
  ·simp only[Bool.false_eq_true,false_iff,not_and]
   intro h1 h2
   rcases hbad.out with h | ⟨y,hy,h⟩
   ·have:=hpre.length_le
    rw[List.length_map,Tm.pre_length] at this;omega
   exact h ((Tm.pre_depth t 0 1 60).2 (by omega) y.key (hpre.subset (List.mem_map.2 ⟨y,hy,rfl⟩)))
  exact hB.trans (belowK_b (w:=w) (Nat.le_refl _) W D _ _ (by omega) hK rfl rfl)
end Go.Proofs.YtclihnccilkohaaGreat
namespace Go.Proofs.YtclihnccilkohaaGreat
open Go.RowKit
theorem WK (t:Tm)(hsz:t.full<=17100000):Zh Tryz.prog 34 [.ag (eTm t)] (.v (.bool (decide (t.size<=5000/\t.depth<=60)))):=by
 refine W0 (by kernel_rfl) λ m Im w vs hv=>?_
 match vs,hv with
 | [x],hv=>
  obtain⟨b,k,i,a,rfl,ht⟩:=Ho hv.1
  refine(ML ht hsz).mono ?_
  rintro e w' ⟨b,hb,rfl,h2⟩
  have:b=decide (t.size<=5000/\t.depth<=60):=by
   by_cases hp:t.size<=5000/\t.depth<=60
   ·rw[hb.2 hp];simp[hp]
   have:b=false:=by
    cases b with
    | false=>rfl
    | true=>exact absurd (hb.1 rfl) hp
   rw[this];simp[hp]
  subst this
  exact⟨_,rfl,h2,λ Im' _ hI=>.v _⟩
theorem VR (ρ:Nat->Nat)(t:Tm):D.rens ρ (eTm t)=eTm t:=D.rens_id (f:=λ _=>false) (g:=λ _=>false) (λ _ h=>by cases h) _ (YK _ _ t)
theorem Ul (ρ:Nat->Nat)(l:List Tm):D.renss ρ (eTms l)=eTms l:=D.renss_id (f:=λ _=>false) (g:=λ _=>false) (λ _ h=>by cases h) _ (Y8 _ _ l)
theorem LE (ρ:Nat->Nat)(l:List Ty):D.renss ρ (eTys l)=eTys l:=D.renss_id (f:=λ _=>false) (g:=λ _=>false) (λ _ h=>by cases h) _ (Yi _ _ l)
def m00:Mp:=⟨λ _=>none,λ _=>none,λ _=>none⟩
theorem Rr {P:Program}{f:FuncId}{ds:List D}{V:D}(h:Zh P f ds V){Im:Nat->Nat->Prop}{w:World}{vs:List Value}(hi:∀ b o,Im b o->∃ v,w.cell? ⟨b,o,none⟩=some v)(hv:YU m00 Im w vs ds):
  Calls P f vs.toArray w λ e w'=>∃ v Im',e=.returned v/\Below w.heap.size w w'/\Yz m00 Im' w' v V/\(∀ b o,Im' b o->Im b o∨w.heap.size<=b):=by
 let cx:Cx:={ w0:=w,C:=λ _=>False,Im0:=Im,m0:=m00,nt:=0,n0:=0,h0:=(λ k b hk=>by cases hk),h0o:=(λ k b hk=>by cases hk) }
 have hm:We cx (λ _=>False) m00 Im w:={
  off:=Off.refl _ _,im:=hi,imb:=λ b o h=>.inl h,im0:=λ b o h=>h
  own:=λ k b hk=>by cases hk
  lt:=λ k b hk=>by cases hk
  free:=λ k b o hk=>by cases hk
  nim:=λ k b o hk=>by cases hk
  inj:=λ k k' b hk=>by cases hk
  row:=λ g R hg=>by cases hg
  k0:=Z8.refl _ _
  rown:=λ g R b hg=>by cases hg
  m0r:=λ g R hg=>by cases hg
  rIm:=λ g R b o hg=>by cases hg
  rblk:=λ g R b k hg=>by cases hg
  rinj:=λ g g' R R' b hg=>by cases hg
  fr:=λ k hk=>hk.elim
  m0:=λ k b hk=>by cases hk
  m0o:=λ k b hk=>by cases hk
  oown:=λ k b hk=>by cases hk
  olt:=λ k b hk=>by cases hk
  onim:=λ k b o hk=>by cases hk
  oinj:=λ k k' b hk=>by cases hk
  oblk:=λ k k' b hk=>by cases hk
  orow:=λ k g R b hk=>by cases hk
  dis:=λ k b hk=>by cases hk }
 refine(h.2 cx _ m00 Im w vs hm hv nofun).mono ?_
 rintro e w' ⟨v,Im',rfl,q1,q2,q3,q4,q5,q6,q7⟩
 refine⟨v,Im',rfl,⟨q1.os,q1.tape,q1.output,q1.size,λ b hb=>q1.block b hb λ ht=>?_⟩,q6,q3⟩
 rcases ht with⟨k,off,d,hm,_⟩ | ⟨X,J,hm,_⟩ | ⟨k,d,hm,_⟩ <;> cases hm
def Uk (F:Nat->Prop)(w:World):Nat->Nat->Prop:=λ b o=>F b/\∃ v,w.cell? ⟨b,o,none⟩=some v
theorem Km {F:Nat->Prop}{w:World}:∀ b o,Uk F w b o->∃ v,w.cell? ⟨b,o,none⟩=some v:=λ _ _ h=>h.2
theorem Xt {F:Nat->Prop}{w:World}:∀ b o v,F b->w.cell? ⟨b,o,none⟩=some v->Uk F w b o:=λ _ _ v h hv=>⟨h,v,hv⟩
def G5 (s:Nm.St)(xs:List Tm)(n:Nat)(bs:List Ty)(k i:Int)(a:List Tm)(ins:Int):List (Key×D):=
  [(.t 2,.v (.int .i64 ins)),(.t 3,.p 2 0),(.t 4,.p 3 0),(.t 6,.p 4 0),(.t 7,.p 20 0),(.c 2 0,.p 0 0),(.c 2 1,.sl 4 (eTms xs) none),(.c 2 2,.v (.int .i64 n)),(.c 3 0,.sl 2 (eTys bs) none),(.c 3 1,.v (.int .i64 k)),(.c 3 2,.v (.int .i64 i)),(.c 3 3,.sl 4 (eTms a) none),
   (.c 4 0,.v (.slice none 0 0)),(.c 4 1,.v (.int .i64 0)),(.c 4 2,.v (.int .i64 0)),(.c 4 3,.v (.slice none 0 0)),(.c 20 0,.sl 2 (eTys bs) none),(.c 20 1,.v (.int .i64 k)),(.c 20 2,.v (.int .i64 i)),
   (.c 0 0,.o 1),(.c 0 1,.v (.int .i64 s.count)),(.c 0 2,.v (.int .i64 s.e)),(.o 1,.ob (Uc s.left s.dry))]
set_option maxHeartbeats 4000000 in
theorem Q8 {f:Nat}(s:Nm.St)(ih:(Nm.unit s).1=true->Hn f)(xs:List Tm)(n:Nat)(t:Tm)(ins:Int)(hs:X1 s)(hf:s.e=0->100001-s.count<=(f+1:Nat))(ht:Yv t)(hx:∀ a∈xs,Yv a)(hn:xs.length<=n)(hn2:n<=100000):
  ZB Tryz.prog 202 [.ag [.p 0 0,.sl 4 (eTms xs) none,.v (.int .i64 n)],.ag (eTm t),.v (.int .i64 ins)] (V8 s) (V8 (Nm.through (f+1) xs n t ins s).2) (.ag (eTm (Nm.through (f+1) xs n t ins s).1)):=by
 obtain⟨bs,k,i,a⟩:=t
 obtain⟨w1,w2,w3⟩:=ht.inv
 obtain⟨p,hp⟩:∃ p,Nm.through (f+1) xs n (.mk bs k i a) ins s=p:=⟨_,rfl⟩
 have hun:=JE s hs
 obtain⟨hc1,hc2⟩:=Nm.unit_count s
 have hs1:=UG hs
 obtain⟨u,hu⟩:∃ u,Nm.unit s=u:=⟨_,rfl⟩
 have hp':p=if u.1=true then Nm.hit (Nm.through f) xs n (.mk bs k i a) (IntKind.i64.wrap (ins+(bs.length:Int))) (Nm.seqM (λ a s=>Nm.through f xs n a (IntKind.i64.wrap (ins+(bs.length:Int))) s) a u.2).1 (Nm.seqM (λ a s=>Nm.through f xs n a (IntKind.i64.wrap (ins+(bs.length:Int))) s) a u.2).2 else (Nm.tz,u.2):=by
  rw[<-hp,<-hu,<-YX];rfl
 rw[hu] at hun hc1 hc2 hs1 ih
 rw[hp,Zu]
 clear hp hu
 obtain⟨b,s1⟩:=u
 dsimp only at hun hc1 hc2 hs1 hp' ih
 refine ZX 2 125 [ResultVar.cell 6 62] ZC (by kernel_rfl) Tryz.func202 rfl Tryz.ntmps202 rfl (by simp) ?dwords ?dbody
 case dwords=>simp[ZA,V8,D.ok,D.oks,ZM,Xa,WO,YK,Y8,Yi]
 case dbody=>
  intro cx hnt hn0
  dsimp only[Tm.binds,Tm.kind,Tm.index,Tm.args]
  refine Zz ?_;refine Zx [] ZC hnt λ _ z9=>z9 _ _ ?_
  cases b with
  | false=>
   rw[if_neg (by simp)] at hp';refine Zz (Zz ?_);refine Zx [] ZC hnt λ K hK=>?_;refine Zk (hun) ?_;refine hK _ _ ?_;clear hK K;refine Zy (t:=true) rfl ?_;rw[if_pos rfl];refine Zz ?_;refine Zx [] ZC hnt λ _ z9=>z9 _ _ ?_;refine Zv ?_
   rw[hp',X6]
   exact Yd (N:=0) (.inr rfl) rfl (by repeat first | exact Zm.refl _ | exact Zm.nil _ | exact Zm.untag _ _ _ | refine Zm.ag ?_ | refine Zm.tu ?_ | refine ZO.cons ?_ ?_ | exact ZO.nil) (by repeat first | exact trivial | refine And.intro rfl ?_)
  | true=>
   rw[if_pos rfl] at hp'
   obtain⟨hc2,he,he1⟩:=hc2 rfl
   have ih:=ih rfl
   have hf1:=hf he
   clear hf hs
   refine Zz (Zz ?_);refine Zx [] ZC hnt λ K hK=>?_;refine Zk (hun) ?_;refine hK _ _ ?_;clear hK K;refine Zy (t:=false) rfl ?_;rw[if_neg (by simp)];refine Zw ?_
   obtain⟨m,hm⟩:∃ m,IntKind.i64.wrap (ins+(bs.length:Int))=m:=⟨_,rfl⟩
   rw[hm] at hp'
   obtain⟨g,hg⟩:∃ g:Tm->Nm.St->Tm×Nm.St,(λ a s=>Nm.through f xs n a m s)=g:=⟨_,rfl⟩
   rw[hg] at hp'
   refine Zz ?_;refine Zx [(23,.v (.int .i64 m))] ZC hnt λ K hK=>?_;refine And.intro (Zm.of_eq (by rw[Zs,hm])) ?_;refine hK _ _ ?_;clear hK K
   refine Wi (τ:=(.c 20 3,.v (.slice none 0 0)) :: G5 s1 xs n bs k i a m) (N1:=21) ?_ ?_
   ·skip
    refine Zx [] ZC hnt λ _ z9=>z9 _ _ ?_
    exact Y4 VS.toA
   dsimp only[G5]
   refine Zz ?_;refine Zz ?_;refine Zx [(31,.v (.int .i64 a.length))] ZC hnt λ K hK=>?_;refine And.intro (Zr (by rw[Zq])) ?_;refine hK _ _ ?_;clear hK K;refine Zt ?_
   refine Z6 (ι:=Nat) (λ j=>(.t 30,.sl 4 (eTms a) none) :: (.t 31,.v (.int .i64 a.length)) :: (.t 32,.v (.int .i64 j)) :: (.c 20 3,.sl 4 (eTms (Nm.seqM g (a.take j) s1).1) (some 25)) :: (.r 25,.rw 62 4 j) :: G5 (Nm.seqM g (a.take j) s1).2 xs n bs k i a m) 26 (λ j=>a.length-j) 0 (VS.trans (VS.row (k:=20) (off:=3) 62 4 rfl) VS.toA) λ j=>?_
   dsimp only[G5]
   have hst:X1 (Nm.seqM g (a.take j) s1).2:=UC (λ t s h=>by rw[<-hg];exact XN f _ _ _ _ _ h) _ _ hs1
   have hsc:s1.count<=(Nm.seqM g (a.take j) s1).2.count:=Nm.seqM_count (λ t s=>by rw[<-hg];exact Nm.through_count f _ _ _ _ _) _ _
   have hwd:∀ t∈(Nm.seqM g (a.take j) s1).1,Yv t:=Nm.seqM_wide (λ t s h=>by rw[<-hg];exact Nm.through_wide f _ _ _ _ _ h hx) _ (λ t h=>w3 t (List.mem_of_mem_take h)) _
   have hll:(Nm.seqM g (a.take j) s1).1.length=(a.take j).length:=Nm.seqM_length ..
   refine Zz ?_
   by_cases hlt:j<a.length
   ·have hcon:=ih (Nm.seqM g (a.take j) s1).2 xs n a[j] m hst (λ _=>by omega) (w3 _ (List.getElem_mem hlt)) hx hn hn2
    have hg2:Nm.through f xs n a[j] m (Nm.seqM g (a.take j) s1).2=g a[j] (Nm.seqM g (a.take j) s1).2:=by rw[<-hg]
    rw[hg2] at hcon
    have hsq:=Nm.seqM_take g a j hlt s1
    rw[Zu,Zu] at hcon
    refine Zx [(33,.v (.bool true))] ZC hnt λ K hK=>?_;refine And.intro (Z7 (by omega)) ?_;refine hK _ _ ?_;clear hK K;refine Zz (Zy (t:=true) rfl ?_);rw[if_pos rfl];refine Zw (Zz (Zt (Zz ?_)));refine Zx [(34,.q [.sl 2 (eTys a[j].binds) none,.v (.int .i64 a[j].kind),.v (.int .i64 a[j].index),.sl 4 (eTms a[j].args) none])] ZC hnt λ K hK=>?_
    refine And.intro (⟨by omega,by rw[Zq];omega⟩) ?_;refine And.intro (Zm.of_eq (by rw[Int.toNat_natCast,ZT a j hlt,Zu])) ?_;refine hK _ _ ?_;clear hK K;refine ZQ [(43,.sl 4 (eTms (Nm.seqM g (a.take (j+1)) s1).1) (some 25))] ZC hnt λ K hK=>?_;refine Zk (hcon) ?_;refine And.intro (⟨by rw[Zq,hll,List.length_take];omega,by rw[Zq,hll,List.length_take];simp;omega⟩) ?_
    refine And.intro (Zm.of_eq (by rw[hsq,Xv,eTms,eTms,Zu (g a[j] _).1])) ?_;refine hK _ _ (by kernel_rfl) ?_;clear hK K;refine Zx [(45,.v (.int .i64 ((j+1:Nat):Int)))] ZC hnt λ K hK=>?_;refine And.intro (Zr (by rw[IntWalk.i64_in _ (by omega)];omega)) ?_;refine hK _ _ ?_;clear hK K
    refine⟨j+1,by omega,?_⟩
    have hl2:(eTms (Nm.seqM g (a.take j) s1).1).length=j:=by rw[Zq,hll,List.length_take];omega
    rw[hsq]
    exact(by try simp only[List.length_append,List.length_take,List.length_cons,List.length_nil,Nat.zero_add,hl2];exact VS.toA)
   rw[List.take_of_length_le (by omega)] at hst hsc hwd hll ⊢
   obtain⟨q,hq⟩:∃ q,Nm.seqM g a s1=q:=⟨_,rfl⟩
   rw[hq] at hst hsc hwd hll hp' ⊢
   clear hq
   obtain⟨as',s2⟩:=q
   dsimp only at hst hsc hwd hll hp' ⊢
   have hen:=Zq as'
   obtain⟨left,dry,count,er⟩:=s2
   dsimp only at hsc hst hp' ⊢
   refine Zx [(33,.v (.bool false))] ZC hnt λ K hK=>?_;refine And.intro (Ze (by omega)) ?_;refine hK _ _ ?_;clear hK K;refine Zz (Zy (t:=false) rfl ?_);rw[if_neg (by simp)];refine Zg ?_;refine Zz ?_;refine Zz ?_
   by_cases hk:k≠0
   ·have hp2:p=(.mk bs k i as',⟨left,dry,count,er⟩):=by
     rw[hp'];unfold Nm.hit;exact if_pos (.inl hk)
    refine Zx [(49,.v (.bool true))] ZC hnt λ K hK=>?_;refine And.intro (Zm.of_eq (by simp[hk])) ?_;refine hK _ _ ?_;clear hK K;refine Zy (t:=true) rfl ?_;rw[if_pos rfl];refine Zz ?_;refine Zx [] ZC hnt λ _ z9=>z9 _ _ ?_;refine Zv ?_
    rw[hp2,Zu]
    exact Yd (N:=0) (.inr rfl) rfl (by repeat first | exact Zm.refl _ | exact Zm.nil _ | exact Zm.untag _ _ _ | refine Zm.ag ?_ | refine Zm.tu ?_ | refine ZO.cons ?_ ?_ | exact ZO.nil) (by repeat first | exact trivial | refine And.intro rfl ?_)
   ·have hk:k=0:=by simpa using hk
    by_cases hi:i<m
    ·have hp2:p=(.mk bs k i as',⟨left,dry,count,er⟩):=by
      rw[hp'];unfold Nm.hit;exact if_pos (.inr hi)
     refine Zx [(49,.v (.bool false)),(55,.v (.bool true))] ZC hnt λ K hK=>?_;refine And.intro (Zm.of_eq (by simp[hk])) ?_;refine And.intro (Z7 hi) ?_;refine hK _ _ ?_;clear hK K;refine Zy (t:=true) rfl ?_;rw[if_pos rfl];refine Zz ?_;refine Zx [] ZC hnt λ _ z9=>z9 _ _ ?_;refine Zv ?_
     rw[hp2,Zu]
     exact Yd (N:=0) (.inr rfl) rfl (by repeat first | exact Zm.refl _ | exact Zm.nil _ | exact Zm.untag _ _ _ | refine Zm.ag ?_ | refine Zm.tu ?_ | refine ZO.cons ?_ ?_ | exact ZO.nil) (by repeat first | exact trivial | refine And.intro rfl ?_)
    ·skip
     refine Zx [(49,.v (.bool false)),(55,.v (.bool false))] ZC hnt λ K hK=>?_;refine And.intro (Zm.of_eq (by simp[hk])) ?_;refine And.intro (Ze hi) ?_;refine hK _ _ ?_;clear hK K;refine Zy (t:=false) rfl ?_;rw[if_neg (by simp)];refine Zw ?_
     obtain⟨d,hd⟩:∃ d,IntKind.i64.wrap (i-m)=d:=⟨_,rfl⟩
     have hp2:p=if d<(n:Int)-xs.length then (.mk bs k i as',⟨left,dry,count,er⟩) else if (n:Int)<=d then (.mk bs k (IntKind.i64.wrap (i-xs.length)) as',⟨left,dry,count,er⟩) else
       let u:=Nm.grown (xs.getD ((n:Int)-1-d).toNat Nm.tz) (IntKind.i64.wrap (IntKind.i64.wrap (m+n)-xs.length))
       if u.binds.length≠as'.length then (Nm.tz,Nm.fail ⟨left,dry,count,er⟩ 1) else let r:=Nm.putW (Nm.through f) u as' ⟨left,dry,count,er⟩;(.mk bs r.1.kind r.1.index r.1.args,r.2):=by
      rw[hp',<-hd,<-YX,<-YX,<-YX,<-YX]
      unfold Nm.hit
      exact if_neg (λ h=>h.elim (λ h=>h hk) hi)
     clear hp'
     refine Zz ?_;refine Zx [(60,.v (.int .i64 xs.length))] ZC hnt λ K hK=>?_;refine And.intro (Zr (by rw[Zq])) ?_;refine hK _ _ ?_;clear hK K;refine Zz (Zz ?_);refine Zx [(65,.v (.int .i64 d))] ZC hnt λ K hK=>?_;refine And.intro (Zr hd) ?_;refine hK _ _ ?_;clear hK K;refine Zt (Zz ?_)
     by_cases h1:d<(n:Int)-xs.length
     ·rw[if_pos h1] at hp2;refine Zx [(110,.v (.int .i64 ((n:Int)-xs.length))),(111,.v (.bool true))] ZC hnt λ K hK=>?_;refine And.intro (Zr (IntWalk.i64_in _ (by omega))) ?_;refine And.intro (Z7 h1) ?_;refine hK _ _ ?_;clear hK K;refine Zy (t:=true) rfl ?_;rw[if_pos rfl];refine Zw ?_;refine Zz ?_;refine Zx [] ZC hnt λ _ z9=>z9 _ _ ?_
      refine Zv ?_
      rw[hp2,Zu]
      exact Yd (N:=0) (.inr rfl) rfl (by repeat first | exact Zm.refl _ | exact Zm.nil _ | exact Zm.untag _ _ _ | refine Zm.ag ?_ | refine Zm.tu ?_ | refine ZO.cons ?_ ?_ | exact ZO.nil) (by repeat first | exact trivial | refine And.intro rfl ?_)
     rw[if_neg h1] at hp2;refine Zx [(110,.v (.int .i64 ((n:Int)-xs.length))),(111,.v (.bool false))] ZC hnt λ K hK=>?_;refine And.intro (Zr (IntWalk.i64_in _ (by omega))) ?_;refine And.intro (Ze h1) ?_;refine hK _ _ ?_;clear hK K;refine Zy (t:=false) rfl ?_;rw[if_neg (by simp)];refine Zz ?_
     by_cases h2:(n:Int)<=d
     ·rw[if_pos h2] at hp2;refine Zx [(116,.v (.bool true))] ZC hnt λ K hK=>?_;refine And.intro (Z7 h2) ?_;refine hK _ _ ?_;clear hK K;refine Zy (t:=true) rfl ?_;rw[if_pos rfl];refine Zx [] ZC hnt λ _ z9=>z9 _ _ ?_;refine Zz ?_;refine Zx [] ZC hnt λ _ z9=>z9 _ _ ?_;refine Zv ?_
      rw[hp2,Zu]
      exact Yd (N:=0) (.inr rfl) rfl (by repeat first | exact Zm.refl _ | exact Zm.nil _ | exact Zm.untag _ _ _ | refine Zm.ag ?_ | refine Zm.tu ?_ | refine ZO.cons ?_ ?_ | exact ZO.nil) (by repeat first | exact trivial | refine And.intro rfl ?_)
     rw[if_neg h2] at hp2;refine Zx [(116,.v (.bool false))] ZC hnt λ K hK=>?_;refine And.intro (Ze h2) ?_;refine hK _ _ ?_;clear hK K;refine Zy (t:=false) rfl ?_;rw[if_neg (by simp)]
     have hdx:((n:Int)-1-d).toNat<xs.length:=by omega
     obtain⟨x0,hx0⟩:∃ x0,xs[((n:Int)-1-d).toNat]=x0:=⟨_,rfl⟩
     have hx1:(eTms xs).getD ((n:Int)-1-d).toNat []=eTm x0:=by rw[ZT xs _ hdx,hx0]
     have hx2:xs.getD ((n:Int)-1-d).toNat Nm.tz=x0:=by rw[List.getD_eq_getElem?_getD,List.getElem?_eq_getElem hdx,<-hx0];rfl
     have hxw:Yv x0:=hx _ (hx0 ▸ List.getElem_mem hdx)
     obtain⟨y,hy⟩:∃ y,IntKind.i64.wrap (IntKind.i64.wrap (m+n)-xs.length)=y:=⟨_,rfl⟩
     have hgr:=LN x0 hxw y
     have huw:=Nm.grown_wide hxw y
     rw[hx2,hy] at hp2
     obtain⟨v,hv⟩:∃ v,Nm.grown x0 y=v:=⟨_,rfl⟩
     rw[hv] at hp2 hgr huw
     dsimp only at hp2
     rw[Zu,Zu] at hgr
     refine Zz ?_;refine ZQ [(70,.v (.int .i64 ((n:Int)-1))),(72,.v (.int .i64 ((n:Int)-1-d))),(73,.q [.sl 2 (eTys x0.binds) none,.v (.int .i64 x0.kind),.v (.int .i64 x0.index),.sl 4 (eTms x0.args) none]),(80,.v (.int .i64 y))] ZC hnt λ K hK=>?_;refine And.intro (Zr (IntWalk.i64_in _ (by omega))) ?_;refine And.intro (Zr (IntWalk.i64_in _ (by omega))) ?_;refine And.intro (⟨by omega,by rw[Zq];omega⟩) ?_
     refine And.intro (Zm.of_eq (by rw[hx1,Zu])) ?_;refine And.intro (Zr hy) ?_;refine Zk (hgr) ?_;refine hK _ _ (by kernel_rfl) ?_;clear hK K;refine Zz (Zz ?_)
     by_cases hbl:v.binds.length=as'.length
     ·rw[if_neg (by simp[hbl])] at hp2
      have hput:=Ly ih ⟨left,dry,count,er⟩ hst (λ _=>by dsimp only;omega) v as' huw hwd
      obtain⟨r,hr⟩:∃ r,Nm.put f v as' ⟨left,dry,count,er⟩=r:=⟨_,rfl⟩
      have hp3:p=(.mk bs r.1.kind r.1.index r.1.args,r.2):=by rw[hp2,<-hr];rfl
      rw[hr,Zu,Zu] at hput
      refine Zx [(88,.v (.bool false))] ZC hnt λ K hK=>?_;refine And.intro (Zm.of_eq (by simp[Zs,Zq,hbl])) ?_;refine hK _ _ ?_;clear hK K;refine Zy (t:=false) rfl ?_;rw[if_neg (by simp)];refine Zw ?_;refine Zz ?_;refine Zx [(97,.sl 4 (eTms as') none)] ZC hnt λ K hK=>?_;refine And.intro (Zm.untag _ _ _) ?_;refine Zk (hput) ?_;refine hK _ _ ?_;clear hK K
      refine ZQ [] ZC hnt λ K hK=>?_;refine hK _ _ (by kernel_rfl) ?_;clear hK K;refine Zz ?_;refine Zx [] ZC hnt λ _ z9=>z9 _ _ ?_;refine Zv ?_
      rw[hp3,Zu]
      exact Yd (N:=0) (.inr rfl) rfl (by repeat first | exact Zm.refl _ | exact Zm.nil _ | exact Zm.untag _ _ _ | refine Zm.ag ?_ | refine Zm.tu ?_ | refine ZO.cons ?_ ?_ | exact ZO.nil) (by repeat first | exact trivial | refine And.intro rfl ?_)
     rw[if_pos hbl] at hp2;refine Zx [(88,.v (.bool true))] ZC hnt λ K hK=>?_;refine And.intro (Zm.of_eq (by simp[Zs,Zq];omega)) ?_;refine hK _ _ ?_;clear hK K;refine Zy (t:=true) rfl ?_;rw[if_pos rfl];refine Zz ?_;refine Zx [] ZC hnt λ K hK=>?_;refine Zk (SQ ⟨left,dry,count,er⟩ 1) ?_;refine hK _ _ ?_;clear hK K;refine Zz ?_;refine Zx [] ZC hnt λ K hK=>?_
     refine hK _ _ ?_;clear hK K;refine Zv ?_
     rw[hp2,X6]
     exact Yd (N:=0) (.inr rfl) rfl (by repeat first | exact Zm.refl _ | exact Zm.nil _ | exact Zm.untag _ _ _ | refine Zm.ag ?_ | refine Zm.tu ?_ | refine ZO.cons ?_ ?_ | exact ZO.nil) (by repeat first | exact trivial | refine And.intro rfl ?_)
theorem KW (f:Nat):Hn f:=by
 induction f with
 | zero=>
  intro s xs n t ins hs hf ht hx hn hn2
  have he:s.e≠0:=λ h=>by have:=hf h;have:=hs.e0 h;omega
  have hu:Nm.unit s=(false,s):=by unfold Nm.unit;exact if_pos he
  have h:=Q8 (f:=0) s (λ h=>by rw[hu] at h;cases h) xs n t ins hs (λ h=>absurd h he) ht hx hn hn2
  have e:Nm.through (0+1) xs n t ins s=Nm.through 0 xs n t ins s:=by
   unfold Nm.through;dsimp only;rw[hu];simp
  rw[e] at h;exact h
 | succ f ih=>exact λ s xs n t ins hs hf ht hx hn hn2=>Q8 s (λ _=>ih) xs n t ins hs hf ht hx hn hn2
theorem HM (s:Nm.St)(hs:X1 s)(t:Tm)(xs:List Tm)(ht:Yv t)(hx:∀ a∈xs,Yv a):
  ZB Tryz.prog 193 [.p 0 0,.ag (eTm t),.sl 4 (eTms xs) none] (V8 s) (V8 (Nm.put 100001 t xs s).2) (.ag (eTm (Nm.put 100001 t xs s).1)):=
 Ly (KW 100001) s hs (λ _=>by have:=hs.count;omega) t xs ht hx
def TN3:List (Nat×TI):=[(62,TG_62),(50,TN1_50),(305,TN1_305),(303,TN1_303),(233,TN1_233),(60,TG_60)]
theorem XK:Zd Tryz.prog TN3:=(((((((Zd.nil _).cons Xs).cons VI).cons UK).cons UL).cons Y0).cons Yu)
structure VG (t:Tm):Prop where
 right:t.full<=17100000
 copy:t.size<=5000/\t.depth<=60->t.full<=900000/\t.Fit
theorem Hv {t:Tm}(h:t.size<=5000/\t.depth<=60)(l:Int)(d:Bool)(c:Int):Nm.done (t,⟨l,d,c,0⟩)=(t,⟨l,d,c,0⟩):=by
 have:¬ ((0:Int)=0/\¬ (t.size<=5000/\t.depth<=60)):=λ h'=>h'.2 h
 unfold Nm.done;dsimp only;rw[if_neg this];simp
theorem Hw {t:Tm}(h:¬ (t.size<=5000/\t.depth<=60))(l:Int)(d:Bool)(c:Int):Nm.done (t,⟨l,d,c,0⟩)=(Nm.tz,⟨l,d,c,2⟩):=by
 have:(0:Int)=0/\¬ (t.size<=5000/\t.depth<=60):=⟨rfl,h⟩
 unfold Nm.done;dsimp only;rw[if_pos this];rfl
theorem Hx {t:Tm}{e:Int}(h:e≠0)(l:Int)(d:Bool)(c:Int):Nm.done (t,⟨l,d,c,e⟩)=(Nm.tz,⟨l,d,c,e⟩):=by
 have:¬ (e=0/\¬ (t.size<=5000/\t.depth<=60)):=λ h'=>h h'.1
 unfold Nm.done;dsimp only;rw[if_neg this];exact if_pos h
theorem IA (s:Nm.St)(t:Tm)(ho:s.e=0->VG t):ZB Tryz.prog 192 [.p 0 0,.ag (eTm t)] (V8 s) (V8 (Nm.done (t,s)).2) (.tu [.ag (eTm (Nm.done (t,s)).1),.v (.int .i64 (Nm.done (t,s)).2.e)]):=by
 obtain⟨left,dry,count,er⟩:=s
 obtain⟨p,hp⟩:∃ p,Nm.done (t,⟨left,dry,count,er⟩)=p:=⟨_,rfl⟩
 rw[hp]
 have hpd:=hp.symm
 clear hp
 dsimp only at ho
 have hrt:er=0->Zh Tryz.prog 34 [.ag (eTm t)] (.v (.bool (decide (t.size<=5000/\t.depth<=60)))):=λ h=>WK t (by have:=(ho h).right;omega)
 have hcp:er=0->(t.size<=5000/\t.depth<=60)->Zh Tryz.prog 96 [.ag (eTm t)] (.ag (eTm t)):=λ h h'=>VN t ((ho h).copy h').1 ((ho h).copy h').2
 obtain⟨bs,k,i,a⟩:=t
 refine ZX 2 30 [ResultVar.cell 4 62,ResultVar.tmp 5] XK (by kernel_rfl) Tryz.func192 rfl Tryz.ntmps192 rfl (by simp) ?dwords ?dbody
 case dwords=>simp[ZA,V8,D.ok,D.oks,ZM,Xa,WO,YK,Y8,Yi]
 case dbody=>
  intro cx hnt hn0
  refine Zz ?_;refine Zx [] XK hnt λ _ z9=>z9 _ _ ?_;refine Zz (Zz ?_)
  by_cases he:er=0
  ·subst he
   have hrt:=hrt rfl
   have hcp:=hcp rfl
   by_cases hR:(Tm.mk bs k i a).size<=5000/\(Tm.mk bs k i a).depth<=60
   ·have hcp:=hcp hR
    rw[Hv hR] at hpd
    subst hpd
    simp only[hR,and_self,decide_true] at hrt
    refine Zx [(10,.v (.bool true))] XK hnt λ K hK=>?_;refine And.intro (Zm.refl _) ?_;refine Zk (hrt) ?_;refine hK _ _ ?_;clear hK K;refine Zy (t:=false) rfl ?_;rw[if_neg (by simp)];refine Zw ?_;refine Zz (Zz ?_);refine Zx [(22,.v (.bool false))] XK hnt λ K hK=>?_;refine And.intro (Zm.refl _) ?_;refine hK _ _ ?_;clear hK K;refine Zy (t:=false) rfl ?_
    rw[if_neg (by simp)];refine Zw ?_;refine Zz ?_;refine Zx [] XK hnt λ K hK=>?_;refine Zk (hcp) ?_;refine hK _ _ ?_;clear hK K;refine Zv ?_
    exact Yd (N:=0) (.inr rfl) rfl (by repeat first | exact Zm.refl _ | exact Zm.nil _ | exact Zm.untag _ _ _ | refine Zm.ag ?_ | refine Zm.tu ?_ | refine ZO.cons ?_ ?_ | exact ZO.nil) (by repeat first | exact trivial | refine And.intro rfl ?_)
   rw[Hw hR] at hpd
   subst hpd
   have hd:decide ((Tm.mk bs k i a).size<=5000/\(Tm.mk bs k i a).depth<=60)=false:=decide_eq_false hR
   rw[hd] at hrt
   have hf:ZB _ _ _ _ (V8 ⟨left,dry,count,2⟩) _:=SQ ⟨left,dry,count,0⟩ 2
   refine Zx [(10,.v (.bool true))] XK hnt λ K hK=>?_;refine And.intro (Zm.refl _) ?_;refine Zk (hrt) ?_;refine hK _ _ ?_;clear hK K;refine Zy (t:=true) rfl ?_;rw[if_pos rfl];refine Zx [] XK hnt λ K hK=>?_;refine Zk (hf) ?_;refine hK _ _ ?_;clear hK K;refine Zz (Zz ?_);refine Zx [(22,.v (.bool true))] XK hnt λ K hK=>?_;refine And.intro (Zm.refl _) ?_
   refine hK _ _ ?_;clear hK K;refine Zy (t:=true) rfl ?_;rw[if_pos rfl];refine Zz ?_;refine ZQ [] XK hnt λ K hK=>?_;refine hK _ _ (by kernel_rfl) ?_;clear hK K;refine Zv ?_
   rw[X6]
   exact Yd (N:=0) (.inr rfl) rfl (by repeat first | exact Zm.refl _ | exact Zm.nil _ | exact Zm.untag _ _ _ | refine Zm.ag ?_ | refine Zm.tu ?_ | refine ZO.cons ?_ ?_ | exact ZO.nil) (by repeat first | exact trivial | refine And.intro rfl ?_)
  rw[Hx he] at hpd
  subst hpd
  refine Zx [(10,.v (.bool false))] XK hnt λ K hK=>?_;refine And.intro (Ze he) ?_;refine hK _ _ ?_;clear hK K;refine Zy (t:=false) rfl ?_;rw[if_neg (by simp)];refine Zw ?_;refine Zz (Zz ?_);refine Zx [(22,.v (.bool true))] XK hnt λ K hK=>?_;refine And.intro (Zm.of_eq (by simp[he])) ?_;refine hK _ _ ?_;clear hK K;refine Zy (t:=true) rfl ?_
  rw[if_pos rfl];refine Zz ?_;refine ZQ [] XK hnt λ K hK=>?_;refine hK _ _ (by kernel_rfl) ?_;clear hK K;refine Zv ?_
  rw[X6]
  exact Yd (N:=0) (.inr rfl) rfl (by repeat first | exact Zm.refl _ | exact Zm.nil _ | exact Zm.untag _ _ _ | refine Zm.ag ?_ | refine Zm.tu ?_ | refine ZO.cons ?_ ?_ | exact ZO.nil) (by repeat first | exact trivial | refine And.intro rfl ?_)
def H0 (kw kb:Nat)(s:Nm.St):List (Key×D):=[(.c kw 0,.o kb),(.c kw 1,.v (.int .i64 s.count)),(.c kw 2,.v (.int .i64 s.e)),(.o kb,.ob (Uc s.left s.dry))]
def Qz (kw kb:Nat):Nat->Nat:=λ k=>if k=0 then kw else kb
theorem Ib (kw kb:Nat)(hk:kw≠kb)(s:Nm.St)(hs:X1 s)(t:Tm)(xs:List Tm)(ht:Yv t)(hx:∀ a∈xs,Yv a):
  ZB Tryz.prog 193 [.p kw 0,.ag (eTm t),.sl 4 (eTms xs) none] (H0 kw kb s) (H0 kw kb (Nm.put 100001 t xs s).2) (.ag (eTm (Nm.put 100001 t xs s).1)):=by
 have h:=(HM s hs t xs ht hx).ren (Qz kw kb) (by simp[Ut,V8,D.ok,D.oks,ZM,Xa,WO,YK,Y8,Yi]) (by
  intro k h1 k' h2
  simp[ZM,V8] at h1 h2
  rcases h1 with rfl | rfl <;> rcases h2 with rfl | rfl <;> simp[Qz,hk,hk.symm])
 simpa[D.ren,VR,Ul,V8,H0,WJ,Key.ren,Qz] using h
theorem Jc (kw kb:Nat)(hk:kw≠kb)(s:Nm.St)(t:Tm)(ho:s.e=0->VG t):ZB Tryz.prog 192 [.p kw 0,.ag (eTm t)] (H0 kw kb s) (H0 kw kb (Nm.done (t,s)).2) (.tu [.ag (eTm (Nm.done (t,s)).1),.v (.int .i64 (Nm.done (t,s)).2.e)]):=by
 have h:=(IA s t ho).ren (Qz kw kb) (by simp[Ut,V8,D.ok,D.oks,ZM,Xa,WO,YK,Y8,Yi]) (by
  intro k h1 k' h2
  simp[ZM,V8] at h1 h2
  rcases h1 with rfl | rfl <;> rcases h2 with rfl | rfl <;> simp[Qz,hk,hk.symm])
 simpa[D.ren,D.rens,VR,Ul,V8,H0,WJ,Key.ren,Qz] using h
theorem G3 (t:Tm)(xs:List Tm)(left:Int)(dry:Bool)(h0:0<=left)(h1:left<=1000000000)(ht:Yv t)(hx:∀ a∈xs,Yv a)(ho:(Nm.put 100001 t xs ⟨left,dry,0,0⟩).2.e=0->VG (Nm.put 100001 t xs ⟨left,dry,0,0⟩).1):
  ZB Tryz.prog 180 [.ag (eTm t),.o 1,.sl 4 (eTms xs) none] [(.o 1,.ob (Uc left dry))] [(.o 1,.ob (Uc (Nm.Put t xs left dry).2.left (Nm.Put t xs left dry).2.dry))] (.tu [.ag (eTm (Nm.Put t xs left dry).1),.v (.int .i64 (Nm.Put t xs left dry).2.e)]):=by
 have hput:=Ib 9 1 (by decide) ⟨left,dry,0,0⟩ ⟨⟨h0,h1⟩,⟨Int.le_refl 0,(by decide:(0:Int)<=100001)⟩,λ _=>(by decide:(0:Int)<=100000)⟩ t xs ht hx
 obtain⟨q,hq⟩:∃ q,Nm.put 100001 t xs ⟨left,dry,0,0⟩=q:=⟨_,rfl⟩
 have hP:Nm.Put t xs left dry=Nm.done (q.1,q.2):=by rw[<-hq];rfl
 rw[hq] at hput ho
 rw[hP]
 have hdone:=Jc 9 1 (by decide) q.2 q.1 ho
 clear hP hq
 obtain⟨qt,qs⟩:=q
 dsimp only at hput hdone ⊢
 obtain⟨r,hr⟩:∃ r,Nm.done (qt,qs)=r:=⟨_,rfl⟩
 rw[hr] at hdone ⊢
 clear hr ho
 obtain⟨rt,rs⟩:=r
 dsimp only at hdone ⊢
 rw[Zu] at hput
 rw[Zu,Zu rt] at hdone
 rw[Zu rt]
 rw[Zu] at hput
 rw[Zu]
 refine ZX 2 23 [ResultVar.cell 6 62,ResultVar.tmp 7] XK (by kernel_rfl) Tryz.func180 rfl Tryz.ntmps180 rfl (by simp) ?dwords ?dbody
 case dwords=>simp[ZA,D.ok,D.oks,ZM,Xa,WO,YK,Y8,Yi]
 case dbody=>
  intro cx hnt hn0
  refine Zz ?_;refine Zx [] XK hnt λ _ z9=>z9 _ _ ?_;refine Zz (Zz ?_);refine Zx [] XK hnt λ _ z9=>z9 _ _ ?_;refine Zy (t:=false) rfl ?_;rw[if_neg (by simp)];refine Zw ?_;refine Zz ?_;refine Zx [] XK hnt λ _ z9=>z9 _ _ ?_;refine Zz ?_;refine Zx [] XK hnt λ K hK=>?_
  refine Zk (hput) ?_;refine Zk (hdone) ?_;refine hK _ _ ?_;clear hK K;refine Zv ?_
  exact Yd (N:=0) (.inr rfl) rfl (by repeat first | exact Zm.refl _ | exact Zm.nil _ | exact Zm.untag _ _ _ | refine Zm.ag ?_ | refine Zm.tu ?_ | refine ZO.cons ?_ ?_ | exact ZO.nil) (by repeat first | exact trivial | refine And.intro rfl ?_)
def TS1_110:TI:=⟨5,true,[Value.int IntKind.i64 0,Value.slice none 0 0,Value.int IntKind.i64 0,Value.int IntKind.i64 0,Value.slice none 0 0],[(0,1,false),(1,4,true)],none,72,6,none,false⟩
theorem YG:TypOk Tryz.prog 110 TS1_110:=by constructor <;> kernel_rfl
def TS1_84:TI:=⟨1,false,[Value.slice none 0 0],[],some 110,24,5,none,false⟩
theorem Xb:TypOk Tryz.prog 84 TS1_84:=by constructor <;> kernel_rfl
def TS1_291:TI:=⟨1,false,[Value.nilFunc],[],none,8,8,none,false⟩
theorem OW:TypOk Tryz.prog 291 TS1_291:=by constructor <;> kernel_rfl
def TS1:List (Nat×TI):=[(3,TG_3),(110,TS1_110),(84,TS1_84),(291,TS1_291)]
theorem ZE:Zd Tryz.prog TS1:=(((((Zd.nil _).cons OW).cons Xb).cons YG).cons ZW)
def Vp (p:Int×Tm):List D:=.v (.int .i64 p.1) :: eTm p.2
def Z5 (l:List (Int×Tm)):List (List D):=l.map Vp
theorem ZG (p:Int×Tm):Vp p=[.v (.int .i64 p.1),.sl 2 (eTys p.2.binds) none,.v (.int .i64 p.2.kind),.v (.int .i64 p.2.index),.sl 4 (eTms p.2.args) none]:=by unfold Vp;rw[Zu]
theorem Zf (l:List (Int×Tm)):(Z5 l).length=l.length:=List.length_map ..
theorem ZP (l:List (Int×Tm))(i:Nat)(h:i<l.length):(Z5 l).getD i []=Vp l[i]:=by
 rw[Z5,List.getD_eq_getElem?_getD,List.getElem?_map,List.getElem?_eq_getElem h];rfl
@[simp] theorem P1 (f g:Nat->Bool) (p:Int×Tm):D.oks f g (Vp p)=true:=by simp[Vp,D.oks,D.ok,YK]
@[simp] theorem YS (f g:Nat->Bool) (l:List (Int×Tm)):D.okss f g (Z5 l)=true:=D.okss_map Vp l λ p _=>P1 f g p
theorem VP (ρ:Nat->Nat)(l:List (Int×Tm)):D.renss ρ (Z5 l)=Z5 l:=D.renss_id (f:=λ _=>false) (g:=λ _=>false) (λ _ h=>by cases h) _ (YS _ _ l)
def Qf (a b:Int):Int:=if a<b then -1 else if b<a then 1 else 0
theorem Ns (a:Int):Zh Tryz.prog 173 [.v (.int .i64 a)] (.v (.bool false)):=by
 refine ZX 0 6 [ResultVar.tmp 2] ZE (by kernel_rfl) Tryz.func173 rfl Tryz.ntmps173 rfl (by simp) ?dwords ?dbody
 case dwords=>simp[ZA,D.ok,D.oks,ZM]
 case dbody=>
  intro cx hnt hn0
  refine Zz ?_;refine Zx [] ZE hnt λ _ z9=>z9 _ _ ?_;refine Zz ?_;refine Zx [(5,.v (.bool false))] ZE hnt λ K hK=>?_;refine And.intro (Zm.of_eq (by simp)) ?_;refine hK _ _ ?_;clear hK K;refine Zv ?_
  exact Yd (N:=0) (.inr rfl) rfl (Zm.refl _) trivial
theorem Mg (a b:Int):Zh Tryz.prog 156 [.v (.int .i64 a),.v (.int .i64 b)] (.v (.int .i64 (Qf a b))):=by
 refine ZX 0 20 [ResultVar.tmp 4] ZE (by kernel_rfl) Tryz.func156 rfl Tryz.ntmps156 rfl (by simp) ?dwords ?dbody
 case dwords=>simp[ZA,D.ok,D.oks,ZM]
 case dbody=>
  intro cx hnt hn0
  refine Zz ?_;refine Zx [] ZE hnt λ _ z9=>z9 _ _ ?_;refine Zz ?_;refine Zx [] ZE hnt λ K hK=>?_;refine Zk (Ns a) ?_;refine hK _ _ ?_;clear hK K;refine Zz ?_;refine Zx [] ZE hnt λ K hK=>?_;refine Zk (Ns b) ?_;refine hK _ _ ?_;clear hK K;refine Zz (Zz ?_);refine Zx [] ZE hnt λ _ z9=>z9 _ _ ?_
  refine Zy (t:=false) rfl ?_;rw[if_neg (by simp)];refine Zw ?_;refine Zz (Zz ?_);refine Zx [] ZE hnt λ _ z9=>z9 _ _ ?_;refine Zy (t:=false) rfl ?_;rw[if_neg (by simp)];refine Zw ?_;refine Zz (Zz ?_)
  by_cases h1:a<b
  ·have hc:Qf a b=-1:=if_pos h1
   rw[hc]
   refine Zx [(16,.v (.bool true))] ZE hnt λ K hK=>?_;refine And.intro (Z7 h1) ?_;refine hK _ _ ?_;clear hK K;refine Zy (t:=true) rfl ?_;rw[if_pos rfl];refine Zz ?_;refine Zx [] ZE hnt λ _ z9=>z9 _ _ ?_;refine Zv ?_
   exact Yd (N:=0) (.inr rfl) rfl (Zm.refl _) trivial
  skip
  refine Zx [(16,.v (.bool false))] ZE hnt λ K hK=>?_;refine And.intro (Ze h1) ?_;refine hK _ _ ?_;clear hK K;refine Zy (t:=false) rfl ?_;rw[if_neg (by simp)];refine Zw ?_;refine Zz (Zz ?_)
  by_cases h2:b<a
  ·have hc:Qf a b=1:=by unfold Qf;rw[if_neg h1,if_pos h2]
   rw[hc]
   refine Zx [(19,.v (.bool true))] ZE hnt λ K hK=>?_;refine And.intro (Z7 h2) ?_;refine hK _ _ ?_;clear hK K;refine Zy (t:=true) rfl ?_;rw[if_pos rfl];refine Zz ?_;refine Zx [] ZE hnt λ _ z9=>z9 _ _ ?_;refine Zv ?_
   exact Yd (N:=0) (.inr rfl) rfl (Zm.refl _) trivial
  have hc:Qf a b=0:=by unfold Qf;rw[if_neg h1,if_neg h2]
  rw[hc]
  refine Zx [(19,.v (.bool false))] ZE hnt λ K hK=>?_;refine And.intro (Ze h2) ?_;refine hK _ _ ?_;clear hK K;refine Zy (t:=false) rfl ?_;rw[if_neg (by simp)];refine Zw ?_;refine Zz ?_;refine Zx [] ZE hnt λ _ z9=>z9 _ _ ?_;refine Zv ?_
  exact Yd (N:=0) (.inr rfl) rfl (Zm.refl _) trivial
theorem MW (p q:Int×Tm):Zh Tryz.prog 148 [.ag (Vp p),.ag (Vp q)] (.v (.int .i64 (Qf p.1 q.1))):=by
 rw[ZG,ZG]
 refine ZX 0 10 [ResultVar.tmp 4] ZE (by kernel_rfl) Tryz.func148 rfl Tryz.ntmps148 rfl (by simp) ?dwords ?dbody
 case dwords=>simp[ZA,D.ok,D.oks,ZM,Y8,Yi]
 case dbody=>
  intro cx hnt hn0
  refine Zz ?_;refine Zx [] ZE hnt λ _ z9=>z9 _ _ ?_;refine Zz ?_;refine Zx [] ZE hnt λ K hK=>?_;refine Zk (Mg p.1 q.1) ?_;refine hK _ _ ?_;clear hK K;refine Zv ?_
  exact Yd (N:=0) (.inr rfl) rfl (Zm.refl _) trivial
theorem Nf {a b:Int}:0<=Qf a b↔¬ a<b:=by
 unfold Qf
 split
 ·rename_i h;simp[h]
 rename_i h;split <;> simp[h]
theorem QO {l:List (Int×Tm)}(h:∀ i (_:0<i) (h2:i<l.length),(l[i-1]'(by omega)).1<l[i].1):Sb.right l=true:=by
 unfold Sb.right
 rw[decide_eq_true_eq,List.pairwise_iff_getElem]
 intro i j hi hj hij
 have key:∀ d,∀ i j (hi:i<l.length) (hj:j<l.length),j=i+d+1->l[i].1<l[j].1:=by
  intro d
  induction d with
  | zero=>intro i j hi hj e;subst e;have:=h (i+0+1) (by omega) hj;simpa using this
  | succ d ih=>
   intro i j hi hj e
   have h1:=ih i (j-1) hi (by omega) (by omega)
   have h2:=h j (by omega) hj
   omega
 exact key (j-i-1) i j hi hj (by omega)
theorem R3 {l:List (Int×Tm)}{i:Nat}(h1:0<i)(h2:i<l.length)(h:¬ (l[i-1]'(by omega)).1<l[i].1):Sb.right l=false:=by
 unfold Sb.right
 rw[decide_eq_false_iff_not,List.pairwise_iff_getElem]
 exact λ hp=>h (hp (i-1) i (by omega) h2 (by omega))
set_option maxHeartbeats 1000000 in
theorem QY (l:List (Int×Tm))(hl:l.length<=1000000):Zh Tryz.prog 137 [.sl 5 (Z5 l) none] (.v (.bool (Sb.right l))):=by
 refine ZX 0 21 [ResultVar.tmp 2] ZE (by kernel_rfl) Tryz.func137 rfl Tryz.ntmps137 rfl (by simp) ?dwords ?dbody
 case dwords=>simp[ZA,D.ok,D.oks,ZM,YS]
 case dbody=>
  intro cx hnt hn0
  refine Zz ?_;refine Zx [] ZE hnt λ _ z9=>z9 _ _ ?_;refine Zz (Zz ?_);refine Zx [] ZE hnt λ _ z9=>z9 _ _ ?_;refine Zt ?_
  refine Z6 (ι:={ j:Nat // ∀ i (_:0<i) (h2:i<l.length),i<j+1->(l[i-1]'(by omega)).1<l[i].1 }) (λ j=>[(.t 0,.sl 5 (Z5 l) none),(.t 3,.v (.int .i64 ((j.1:Int)+1)))]) 2 (λ j=>l.length-j.1) ⟨0,λ i h1 h2 h3=>by omega⟩ VS.toA λ j=>?_
  obtain⟨j,hj⟩:=j
  dsimp only
  refine Zz (Zz ?_)
  by_cases hlt:j+1<l.length
  ·have ho:=MW l[j] l[j+1]
   rw[ZG,ZG] at ho
   refine Zx [(7,.v (.bool true))] ZE hnt λ K hK=>?_;refine And.intro (Z7 (by rw[Zf];omega)) ?_;refine hK _ _ ?_;clear hK K;refine Zy (t:=true) rfl ?_;rw[if_pos rfl];refine Zw ?_;refine Zz (Zt (Zz ?_))
   by_cases hc:l[j].1<l[j+1].1
   ·skip
    refine ZQ [(12,.v (.int .i64 (j:Int))),(13,.q [.v (.int .i64 l[j].1),.sl 2 (eTys l[j].2.binds) none,.v (.int .i64 l[j].2.kind),.v (.int .i64 l[j].2.index),.sl 4 (eTms l[j].2.args) none]),(17,.q [.v (.int .i64 l[j+1].1),.sl 2 (eTys l[j+1].2.binds) none,.v (.int .i64 l[j+1].2.kind),.v (.int .i64 l[j+1].2.index),.sl 4 (eTms l[j+1].2.args) none]),(20,.v (.bool false))] ZE hnt λ K hK=>?_
    refine And.intro (Zr (by rw[IntWalk.i64_in _ (by omega)];omega)) ?_;refine And.intro (⟨by omega,by rw[Zf];omega⟩) ?_;refine And.intro (Zm.of_eq (by rw[Int.toNat_natCast,ZP l j (by omega),ZG])) ?_;refine And.intro (⟨by omega,by rw[Zf];omega⟩) ?_;refine And.intro (Zm.of_eq (by rw[show ((j:Int)+1).toNat=j+1 by omega,ZP l (j+1) hlt,ZG])) ?_
    refine Zk (ho) ?_;refine And.intro (Zm.of_eq (by simp[Nf,hc])) ?_;refine hK _ _ (by kernel_rfl) ?_;clear hK K;refine Zy (t:=false) rfl ?_;rw[if_neg (by simp)];refine Zw ?_;refine Zx [(9,.v (.int .i64 (((j+1:Nat):Int)+1)))] ZE hnt λ K hK=>?_;refine And.intro (Zr (by rw[IntWalk.i64_in _ (by omega)];omega)) ?_;refine hK _ _ ?_;clear hK K
    refine⟨⟨j+1,λ i h1 h2 h3=>?_⟩,by dsimp only;omega,VS.toA⟩
    by_cases he:i=j+1
    ·subst he;simpa using hc
    exact hj i h1 h2 (by omega)
   have hr:Sb.right l=false:=R3 (i:=j+1) (by omega) hlt (by simpa using hc)
   rw[hr]
   refine ZQ [(12,.v (.int .i64 (j:Int))),(13,.q [.v (.int .i64 l[j].1),.sl 2 (eTys l[j].2.binds) none,.v (.int .i64 l[j].2.kind),.v (.int .i64 l[j].2.index),.sl 4 (eTms l[j].2.args) none]),(17,.q [.v (.int .i64 l[j+1].1),.sl 2 (eTys l[j+1].2.binds) none,.v (.int .i64 l[j+1].2.kind),.v (.int .i64 l[j+1].2.index),.sl 4 (eTms l[j+1].2.args) none]),(20,.v (.bool true))] ZE hnt λ K hK=>?_
   refine And.intro (Zr (by rw[IntWalk.i64_in _ (by omega)];omega)) ?_;refine And.intro (⟨by omega,by rw[Zf];omega⟩) ?_;refine And.intro (Zm.of_eq (by rw[Int.toNat_natCast,ZP l j (by omega),ZG])) ?_;refine And.intro (⟨by omega,by rw[Zf];omega⟩) ?_;refine And.intro (Zm.of_eq (by rw[show ((j:Int)+1).toNat=j+1 by omega,ZP l (j+1) hlt,ZG])) ?_
   refine Zk (ho) ?_;refine And.intro (Zm.of_eq (by simp[Nf,hc])) ?_;refine hK _ _ (by kernel_rfl) ?_;clear hK K;refine Zy (t:=true) rfl ?_;rw[if_pos rfl];refine Zz ?_;refine Zx [] ZE hnt λ _ z9=>z9 _ _ ?_;refine Zv ?_
   exact Yd (N:=0) (.inr rfl) rfl (Zm.refl _) trivial
  have hr:Sb.right l=true:=QO λ i h1 h2=>hj i h1 h2 (by omega)
  rw[hr]
  refine Zx [(7,.v (.bool false))] ZE hnt λ K hK=>?_;refine And.intro (Ze (by rw[Zf];omega)) ?_;refine hK _ _ ?_;clear hK K;refine Zy (t:=false) rfl ?_;rw[if_neg (by simp)];refine Zg ?_;refine Zz ?_;refine Zx [] ZE hnt λ _ z9=>z9 _ _ ?_;refine Zv ?_
  exact Yd (N:=0) (.inr rfl) rfl (Zm.refl _) trivial
/-! to find a pair -/
theorem Jk (p:Int×Tm)(m:Int):ZB Tryz.prog 179 [.ag (Vp p),.p 0 0] [(.c 0 0,.v (.int .i64 m))] [(.c 0 0,.v (.int .i64 m))] (.v (.bool (decide (p.1=m)))):=by
 rw[ZG]
 refine ZX 1 8 [ResultVar.tmp 3] ZE (by kernel_rfl) Tryz.func179 rfl Tryz.ntmps179 rfl (by simp) ?dwords ?dbody
 case dwords=>simp[ZA,D.ok,D.oks,ZM,Xa,WO,Y8,Yi]
 case dbody=>
  intro cx hnt hn0
  refine Zz ?_;refine Zx [] ZE hnt λ _ z9=>z9 _ _ ?_;refine Zz ?_;refine Zx [(7,.v (.bool (decide (p.1=m))))] ZE hnt λ K hK=>?_;refine And.intro (Zm.refl _) ?_;refine hK _ _ ?_;clear hK K;refine Zv ?_
  exact Yd (N:=0) (.inr rfl) rfl (Zm.refl _) (by repeat first | exact trivial | refine And.intro rfl ?_)
def Xf (m:Int):List (Int×Tm)->Option Nat
 | []=>none
 | p :: l=>if p.1=m then some 0 else (Xf m l).map (· + 1)
theorem US {m:Int}:∀ {l:List (Int×Tm)} {i:Nat} (h:i<l.length),l[i].1=m->(∀ j (h':j<i),(l[j]'(by omega)).1≠m)->Xf m l=some i
 | p :: l,0,h,h1,_=>by simp at h1;simp[Xf,h1]
 | p :: l,i+1,h,h1,h2=>by
  have h0:=h2 0 (by omega)
  simp at h0 h1
  rw[Xf,if_neg h0,US (i:=i) (by simpa using h) h1 λ j h'=>by simpa using h2 (j+1) (by omega)];rfl
theorem UR {m:Int}:∀ {l:List (Int×Tm)},(∀ j (h:j<l.length),l[j].1≠m)->Xf m l=none
 | [],_=>rfl
 | p :: l,h=>by
  have h0:=h 0 (by simp)
  simp at h0
  rw[Xf,if_neg h0,UR (l:=l) λ j h'=>h (j+1) (by simpa using h')];rfl
theorem Po {m:Int}:∀ {l:List (Int×Tm)} {i:Nat},Xf m l=some i->i<l.length
 | [],i,h=>by cases h
 | p :: l,i,h=>by
  rw[Xf] at h
  split at h
  ·cases h;simp
  cases hx:Xf m l with
  | none=>rw[hx] at h;cases h
  | some j=>rw[hx] at h;cases h;have:=Po hx;simpa using this
theorem Pf (m:Int):∀ (l:List (Int×Tm)),Sb.find l m=(Xf m l).bind λ i=>(l[i]?).map (·.2)
 | []=>rfl
 | p :: l=>by
  have ih:=Pf m l
  unfold Sb.find at ih ⊢
  rw[List.find?_cons,Xf]
  by_cases h:p.1=m
  ·simp[h]
  rw[if_neg h]
  simp only[beq_eq_false_iff_ne.2 h,ih]
  cases Xf m l <;> simp
set_option maxHeartbeats 1000000 in
theorem Pp (l:List (Int×Tm))(hl:l.length<=1000000)(m:Int):ZB Tryz.prog 178 [.sl 5 (Z5 l) none,.fn 179 [.p 0 0]] [(.c 0 0,.v (.int .i64 m))] [(.c 0 0,.v (.int .i64 m))] (.v (.int .i64 (match Xf m l with | some i=>(i:Int) | none=>-1))):=by
 refine ZX 1 19 [ResultVar.tmp 4] ZE (by kernel_rfl) Tryz.func178 rfl Tryz.ntmps178 rfl (by simp) ?dwords ?dbody
 case dwords=>simp[ZA,D.ok,D.oks,ZM,Xa,WO,YS]
 case dbody=>
  intro cx hnt hn0
  refine Zz ?_;refine Zx [] ZE hnt λ _ z9=>z9 _ _ ?_;refine Zz (Zz ?_);refine Zx [(7,.v (.int .i64 l.length))] ZE hnt λ K hK=>?_;refine And.intro (Zr (by rw[Zf])) ?_;refine hK _ _ ?_;clear hK K;refine Zt ?_
  refine Z6 (ι:={ j:Nat // ∀ i (h:i<l.length),i<j->l[i].1≠m }) (λ j=>[(.t 0,.sl 5 (Z5 l) none),(.t 1,.fn 179 [.p 0 0]),(.t 7,.v (.int .i64 l.length)),(.t 8,.v (.int .i64 (j.1:Int))),(.c 0 0,.v (.int .i64 m))]) 2 (λ j=>l.length-j.1) ⟨0,λ i h1 h2=>by omega⟩ VS.toA λ j=>?_
  obtain⟨j,hj⟩:=j
  dsimp only
  refine Zz ?_
  by_cases hlt:j<l.length
  ·have hf:=Jk l[j] m
   rw[ZG] at hf
   refine Zx [(9,.v (.bool true))] ZE hnt λ K hK=>?_;refine And.intro (Z7 (by omega)) ?_;refine hK _ _ ?_;clear hK K;refine Zz (Zy (t:=true) rfl ?_);rw[if_pos rfl];refine Zw (Zz (Zt (Zz ?_)));refine Zx [] ZE hnt λ _ z9=>z9 _ _ ?_;refine Zz ?_
   by_cases he:l[j].1=m
   ·have hi:Xf m l=some j:=US hlt he λ i h=>hj i (by omega) h
    rw[hi]
    refine Zx [(14,.q [.v (.int .i64 l[j].1),.sl 2 (eTys l[j].2.binds) none,.v (.int .i64 l[j].2.kind),.v (.int .i64 l[j].2.index),.sl 4 (eTms l[j].2.args) none]),(16,.v (.bool true))] ZE hnt λ K hK=>?_;refine And.intro (⟨by omega,by rw[Zf];omega⟩) ?_;refine And.intro (Zm.of_eq (by rw[Int.toNat_natCast,ZP l j (by omega),ZG])) ?_;refine Zk (hf) ?_;refine And.intro (Z7 he) ?_
    refine hK _ _ ?_;clear hK K;refine Zy (t:=true) rfl ?_;rw[if_pos rfl];refine Zz ?_;refine Zx [] ZE hnt λ _ z9=>z9 _ _ ?_;refine Zv ?_
    exact Yd (N:=0) (.inr rfl) rfl (Zm.refl _) (by repeat first | exact trivial | refine And.intro rfl ?_)
   skip
   refine Zx [(14,.q [.v (.int .i64 l[j].1),.sl 2 (eTys l[j].2.binds) none,.v (.int .i64 l[j].2.kind),.v (.int .i64 l[j].2.index),.sl 4 (eTms l[j].2.args) none]),(16,.v (.bool false))] ZE hnt λ K hK=>?_;refine And.intro (⟨by omega,by rw[Zf];omega⟩) ?_;refine And.intro (Zm.of_eq (by rw[Int.toNat_natCast,ZP l j (by omega),ZG])) ?_;refine Zk (hf) ?_;refine And.intro (Ze he) ?_
   refine hK _ _ ?_;clear hK K;refine Zy (t:=false) rfl ?_;rw[if_neg (by simp)];refine Zw ?_;refine Zx [(18,.v (.int .i64 ((j+1:Nat):Int)))] ZE hnt λ K hK=>?_;refine And.intro (Zr (by rw[IntWalk.i64_in _ (by omega)];omega)) ?_;refine hK _ _ ?_;clear hK K
   refine⟨⟨j+1,λ i h1 h3=>?_⟩,by dsimp only;omega,VS.toA⟩
   by_cases he2:i=j
   ·subst he2;exact he
   exact hj i h1 (by omega)
  have hi:Xf m l=none:=UR λ i h=>hj i h (by omega)
  rw[hi]
  refine Zx [(9,.v (.bool false))] ZE hnt λ K hK=>?_;refine And.intro (Ze (by omega)) ?_;refine hK _ _ ?_;clear hK K;refine Zz (Zy (t:=false) rfl ?_);rw[if_neg (by simp)];refine Zg ?_;refine Zz ?_;refine Zx [] ZE hnt λ _ z9=>z9 _ _ ?_;refine Zv ?_
  exact Yd (N:=0) (.inr rfl) rfl (Zm.refl _) (by repeat first | exact trivial | refine And.intro rfl ?_)
theorem Qo (k:Nat)(l:List (Int×Tm))(hl:l.length<=1000000)(m:Int):ZB Tryz.prog 178 [.sl 5 (Z5 l) none,.fn 179 [.p k 0]] [(.c k 0,.v (.int .i64 m))] [(.c k 0,.v (.int .i64 m))] (.v (.int .i64 (match Xf m l with | some i=>(i:Int) | none=>-1))):=by
 have h:=(Pp l hl m).ren (λ _=>k) (by simp[Ut,D.ok,D.oks,ZM,Xa,WO,YS]) (by
  intro k h1 k' h2 _
  simp[ZM] at h1 h2
  rw[h1,h2])
 simpa[D.ren,D.rens,VP,WJ,Key.ren] using h
theorem KO (l:List (Int×Tm))(hl:l.length<=1000000)(m:Int):Zh Tryz.prog 158 [.sl 5 (Z5 l) none,.v (.int .i64 m)] (match (Xf m l).bind λ i=>l[i]? with | some p=>.q (Vp p) | none=>.v (.pointer none)):=by
 have hi:=Qo 0 l hl m
 refine ZX 0 14 [ResultVar.tmp 4] ZE (by kernel_rfl) Tryz.func158 rfl Tryz.ntmps158 rfl (by simp) ?dwords ?dbody
 case dwords=>(cases (Xf m l).bind λ i=>l[i]?) <;> simp[ZA,D.ok,D.oks,ZM,Xa,WO,YS,P1]
 case dbody=>
  intro cx hnt hn0
  refine Zz ?_;refine Zx [] ZE hnt λ _ z9=>z9 _ _ ?_;refine Zz ?_;refine Zx [] ZE hnt λ K hK=>?_;refine Zk (hi) ?_;refine hK _ _ ?_;clear hK K;refine Zz (Zz ?_)
  cases hx:Xf m l with
  | none=>
   refine Zx [(10,.v (.bool true))] ZE hnt λ K hK=>?_;refine And.intro (Zm.of_eq (by rfl)) ?_;refine hK _ _ ?_;clear hK K;refine Zy (t:=true) rfl ?_;rw[if_pos rfl];refine Zz ?_;refine Zx [] ZE hnt λ _ z9=>z9 _ _ ?_;refine Zv ?_
   exact Yd (N:=0) (.inr rfl) rfl (Zm.refl _) trivial
  | some i=>
   have hlt:i<l.length:=Po hx
   simp only[Option.bind_some,List.getElem?_eq_getElem hlt]
   refine Zx [(10,.v (.bool false))] ZE hnt λ K hK=>?_;refine And.intro (Ze (by omega)) ?_;refine hK _ _ ?_;clear hK K;refine Zy (t:=false) rfl ?_;rw[if_neg (by simp)];refine Zw ?_;refine Zz ?_;refine Zx [(13,.q (Vp l[i]))] ZE hnt λ K hK=>?_;refine And.intro (⟨by omega,by rw[Zf];omega⟩) ?_;refine And.intro (Zm.of_eq (by rw[Int.toNat_natCast,ZP l i hlt])) ?_
   refine hK _ _ ?_;clear hK K;refine Zv ?_
   exact Yd (N:=0) (.inr rfl) rfl (Zm.refl _) trivial
end Go.Proofs.YtclihnccilkohaaGreat
