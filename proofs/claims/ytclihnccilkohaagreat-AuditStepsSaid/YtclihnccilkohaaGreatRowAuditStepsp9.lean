/-
  spot.At, walked in the deep way. Package audit, walked in the deep way: step, chain. Package audit, walked in the deep way: chain, Chain, Step. The steps that the laws of layer 27 get. The steps that the laws of layer 27 get: Steps. The readings of a row's arguments that are lists of pairs with metavariables, and lists of steps. filigreeref06.Up, walked in the deep way: as norm.grown does. The document's normal forms (layer 8) are the program's, in plain words. The document's normal forms (layer 8), walked in the deep way. The document's layer 8, walked in the deep way: Put. The document's lists of pairs, walked in the deep way: Sorted and Without hand back rows of their own; Like. The document's matching, walked in the deep way: rigid, All.
-/
import Derived.Test.YtclihnccilkohaaGreatRowAuditStepsp7
import Derived.Test.YtclihnccilkohaaGreatRowAuditStepsp5
import Derived.Test.YtclihnccilkohaaGreatRowAuditStepsp6
import Derived.Test.YtclihnccilkohaaGreatRowAuditStepsp8
set_option maxRecDepth 100000
set_option maxHeartbeats 1000000
set_option linter.unusedVariables false
set_option linter.unusedSimpArgs false
namespace Go.Proofs.YtclihnccilkohaaGreat
open Go.RowKit
def TAT_62:TI:=⟨4,true,[Value.slice none 0 0,Value.int IntKind.i64 0,Value.int IntKind.i64 0,Value.slice none 0 0],[(0,1,false),(1,2,true),(3,1,false)],none,64,6,none,false⟩
theorem GT:TypOk Tryz.prog 62 TAT_62:=by constructor <;> kernel_rfl
def TAT_41:TI:=⟨1,false,[Value.slice none 0 0],[],some 106,24,5,none,false⟩
theorem GR:TypOk Tryz.prog 41 TAT_41:=by constructor <;> kernel_rfl
def TAT_3:TI:=⟨1,false,[Value.int IntKind.i64 0],[],none,8,2,none,false⟩
theorem De:TypOk Tryz.prog 3 TAT_3:=by constructor <;> kernel_rfl
def TAT_60:TI:=⟨1,false,[Value.slice none 0 0],[],some 62,24,5,none,false⟩
theorem GS:TypOk Tryz.prog 60 TAT_60:=by constructor <;> kernel_rfl
def TAT_106:TI:=⟨2,true,[Value.slice none 0 0,Value.int IntKind.i64 0],[(0,1,false),(1,1,false)],none,32,6,none,false⟩
theorem Kh:TypOk Tryz.prog 106 TAT_106:=by constructor <;> kernel_rfl
def TAT_71:TI:=⟨1,false,[Value.slice none 0 0],[],some 3,24,5,none,false⟩
theorem GU:TypOk Tryz.prog 71 TAT_71:=by constructor <;> kernel_rfl
def TAT:List (Nat×TI):=[(62,TAT_62),(41,TAT_41),(3,TAT_3),(60,TAT_60),(106,TAT_106),(71,TAT_71)]
theorem Yi:Zh Tryz.prog TAT:=(((((((Zh.nil _).cons GU).cons Kh).cons GS).cons De).cons GR).cons GT)
theorem Ox (a:Option Addr)(c nm:Nat):Wa Tryz.prog 135 [.v (.slice a 0 c)] [] nm [(.r nm,.rp 106 2 [])] (.ps nm 0):=by
 refine YI 8 [ResultVar.tmp 2] Yi (by kernel_rfl) Tryz.func135 rfl Tryz.ntmps135 rfl (by simp) (by simp[D.ok]) (by simp[D.okss]) ?dbody nm
 case dbody=>
  intro cx hnt hn0
  refine Zz ?_;refine Zx [] Yi hnt fun _ z9=>z9 _ _ ?_
  cases a with
  | none=>
   refine Zz ?_;refine Zz ?_;refine Zx [(4,.v (.bool true))] Yi hnt fun K hK=>?_;refine And.intro (Zn.refl _) ?_;refine hK _ _ ?_;clear hK K;refine Zy (t:=true) rfl ?_;rw[if_pos rfl];refine Zz ?_;refine Zx [] Yi hnt fun _ z9=>z9 _ _ ?_
   refine DW.vs (VS.rowPT (x:=2) (by rw[hnt];decide) 106 2 rfl) ?_
   refine Zu ?_
   exact⟨.inr rfl,_,rfl,rfl⟩
  | some a=>
   refine Zz ?_;refine Zz ?_;refine Zx [(4,.v (.bool false))] Yi hnt fun K hK=>?_;refine And.intro (Zn.refl _) ?_;refine hK _ _ ?_;clear hK K;refine Zy (t:=false) rfl ?_;rw[if_neg (by simp)];refine Zw ?_;refine Zz ?_;refine Zx [(5,.ps 3 0)] Yi hnt fun K hK=>?_;refine And.intro (Zn.ps0 _ _) ?_;refine And.intro (by decide) ?_;refine hK _ _ ?_;clear hK K
   refine Zu ?_
   exact⟨.inr rfl,_,rfl,rfl⟩
theorem Qm (x:Ty)(l:List Ty)(hl:l.length≤900000)(nm:Nat):Wa Tryz.prog 135 [.sl 2 (eTys (x :: l)) none] [] nm [(.r nm,.rp 106 2 (eTys (x :: l)))] (.ps nm (x :: l).length):=by
 refine YI 8 [ResultVar.tmp 2] Yi (by kernel_rfl) Tryz.func135 rfl Tryz.ntmps135 rfl (by simp) (by simp[D.ok,Yw]) (by simp[D.okss,Yw]) ?dbody nm
 case dbody=>
  intro cx hnt hn0
  refine Zz ?_;refine Zx [] Yi hnt fun _ z9=>z9 _ _ ?_;refine Zz ?_;refine Zz ?_;refine Zx [(4,.v (.bool false))] Yi hnt fun K hK=>?_;refine And.intro (Zn.refl _) ?_;refine hK _ _ ?_;clear hK K;refine Zy (t:=false) rfl ?_;rw[if_neg (by simp)];refine Zw ?_;refine Zz ?_;refine Zx [(5,.ps 3 0)] Yi hnt fun K hK=>?_;refine And.intro (Zn.ps0 _ _) ?_
  refine And.intro (by rw[Zr];simp;omega) ?_;refine hK _ _ ?_;clear hK K;refine Zu ?_
  exact⟨.inr rfl,3,by rw[show (x :: l).length=(eTys (x :: l)).length by rw[Zr]];rfl,rfl⟩
theorem E5 (l:List Ty)(hl:l.length≤900000)(nm:Nat):Wa Tryz.prog 135 [.sl 2 (eTys l) none] [] nm [(.r nm,.rp 106 2 (eTys l))] (.ps nm l.length):=by
 cases l with
 | cons x l=>exact Qm x l (by simp at hl;omega) nm
 | nil=>
  refine⟨by kernel_rfl,fun cx Fr m Im w a σ vs hnm hs hv hR=>?_⟩
  match vs,hv with
  | [v],hv=>
   obtain⟨a0,c,bl,off,X,rfl,_⟩:=XZ hv.1
   exact(Ox a0 c nm).2 cx Fr m Im w a σ _ hnm hs ⟨.v _,trivial⟩ hR
def Jz (r:Option (Tm×List Ty)):D:=match r with
 | some r=>.tu [.ag (eTm r.1),.sl 2 (eTys r.2) none,.v (.int .i64 0)]
 | none=>.tu [.ag (eTm Tm.zero),.sl 2 [] none,.v (.int .i64 10)]
theorem EP (t:Tm)(p:List Int)(j:Nat)(hj:j<p.length)(u:Tm)(l:List Ty)(h:Pn.atP (p.take j) t=some (u,l)):
  Pn.atP (p.take (j+1)) t=if 0≤p[j]∧p[j]<(u.args.length:Int) then some (u.args.getD p[j].toNat Tm.zero,l++(u.args.getD p[j].toNat Tm.zero).binds) else none:=by
 rw[List.take_add_one,List.getElem?_eq_getElem hj,Option.toList_some,Pn.atP_app,h]
 show (Pn.atP [p[j]] u).map _=_
 rw[Pn.atP]
 by_cases hc:0≤p[j]∧p[j]<(u.args.length:Int)
 ·rw[if_pos hc,if_pos hc,Pn.atP]
  simp
 ·rw[if_neg hc,if_neg hc];rfl
theorem EQ (t:Tm)(p:List Int)(j:Nat)(hj:j<p.length)(h:Pn.atP (p.take (j+1)) t=none):Pn.atP p t=none:=by
 rw[←List.take_append_drop (j+1) p,Pn.atP_app,h];rfl
theorem TM {P:Tm→Prop}(hP:∀ u,P u→∀ x∈u.args,P x):∀ (p:List Int) (t:Tm) (r:Tm×List Ty),P t→Pn.atP p t=some r→P r.1
 | [],t,r,ht,h=>by rw[Pn.atP] at h;cases h;exact ht
 | j :: p,t,r,ht,h=>by
  rw[Pn.atP] at h
  split at h
  ·rename_i hj
   cases h2:Pn.atP p (t.args.getD j.toNat Tm.zero) with
   | none=>rw[h2] at h;cases h
   | some r'=>
    rw[h2] at h;cases h
    have hlt:j.toNat<t.args.length:=by omega
    have e:t.args.getD j.toNat Tm.zero=t.args[j.toNat]:=by rw[List.getD_eq_getElem?_getD,List.getElem?_eq_getElem hlt];rfl
    rw[e] at h2
    exact TM hP p _ r' (hP _ ht _ (List.getElem_mem hlt)) h2
  ·cases h
@[simp] theorem Za3 (f g:Nat→Bool) (r:Option (Tm×List Ty)):D.ok f g (Jz r)=true:=by
 cases r <;> simp[Jz,D.ok,D.oks,D.okss,Y5,Yw]
theorem T7 (u:Tm)(h:u.Fit):∀ x∈u.args,x.Fit:=by
 obtain⟨b,k,i,a⟩:=u
 exact(Tm.fit_iff.1 h).2.2
set_option maxHeartbeats 2000000 in
theorem Ag (t:Tm)(p:List Int)(hz:t.full≤780000)(hf:t.Fit)(hp:p.length≤100000):Zd Tryz.prog 121 [.ag (eTm t),.sl 1 (Y4 p) none] (Jz (Pn.atP p t)):=by
 have hbl:=Ty.le_sizes t.binds
 have hft:=X6 t
 have hcl:=E5 t.binds (by omega)
 rw[Zv]
 refine Zm 0 45 [ResultVar.cell 4 62,ResultVar.tmp 5,ResultVar.tmp 6] Yi Tryz.func121 rfl Tryz.ntmps121 rfl fun cx hnt hn0=>?_
 ·skip
  refine Zz ?_;refine Zx [] Yi hnt fun _ z9=>z9 _ _ ?_;refine Zz ?_;refine Zx [] Yi hnt fun K hK=>?_;refine Al (hcl _) ?_;refine hK _ _ ?_;clear hK K;refine Zz ?_;refine Zz ?_;refine Zx [(14,.v (.int .i64 (↑p.length)))] Yi hnt fun K hK=>?_;refine And.intro (Zq (by rw[Zi])) ?_;refine hK _ _ ?_;clear hK K;refine Zt ?_
  refine Z4 (ι:={ x:Nat×Tm×List Ty // x.1≤p.length∧Pn.atP (p.take x.1) t=some x.2 }) (fun x=>[(.t 2,.p 0 0),(.t 4,.p 1 0),(.t 7,.ps 6 x.1.2.2.length),(.t 13,.sl 1 (Y4 p) none),(.t 14,.v (.int .i64 ↑p.length)),(.t 15,.v (.int .i64 ↑x.1.1)),(.r 6,.rp 106 2 (eTys x.1.2.2)),(.c 0 0,.sl 2 (eTys x.1.2.1.binds) none),(.c 0 1,.v (.int .i64 x.1.2.1.kind)),(.c 0 2,.v (.int .i64 x.1.2.1.index)),(.c 0 3,.sl 4 (eTms x.1.2.1.args) none),(.c 1 0,.v (.slice none 0 0)),(.c 1 1,.v (.int .i64 0)),(.c 1 2,.v (.int .i64 0)),(.c 1 3,.v (.slice none 0 0))]) 7 (fun x=>p.length-x.1.1) (⟨(0,t,t.binds),Nat.zero_le _,by simp[Pn.atP]⟩) (VS.toA) fun x=>?_
  obtain⟨⟨j,u,l⟩,hj,hu⟩:=x
  dsimp only at hj hu
  dsimp only
  obtain⟨hs1,hs2,hs3,hs4⟩:=Wq _ _ _ hu
  have hfu:u.Fit:=TM T7 _ _ _ hf hu
  dsimp only at hs1 hs2 hs3 hs4
  have hfa:=X6 u
  by_cases hlt:j<p.length
  ·have hst:=EP t p j hlt u l hu
   by_cases hc:0≤p[j]∧p[j]<(u.args.length:Int)
   ·rw[if_pos hc] at hst
    obtain⟨n,hn⟩:∃ n:Nat,p[j]=n:=⟨p[j].toNat,by omega⟩
    have hlt2:n<u.args.length:=by omega
    have e:u.args.getD p[j].toNat Tm.zero=u.args[n]:=by rw[hn,Int.toNat_natCast,List.getD_eq_getElem?_getD,List.getElem?_eq_getElem hlt2];rfl
    rw[e] at hst
    obtain⟨x,hx⟩:∃ x,u.args[n]=x:=⟨_,rfl⟩
    rw[hx] at hst
    have hsn:=(Wq _ _ _ hst).2.2.1
    dsimp only at hsn
    rw[List.length_append] at hsn
    have hgx:(eTms u.args).getD n []=[.sl 2 (eTys x.binds) none,.v (.int .i64 x.kind),.v (.int .i64 x.index),.sl 4 (eTms x.args) none]:=by rw[ZX u.args n hlt2,hx,Zv]
    refine Zz ?_;refine Zx [(16,.v (.bool true))] Yi hnt fun K hK=>?_;refine And.intro YD ?_;refine hK _ _ ?_;clear hK K;refine Zz ?_;refine Zy (t:=true) rfl ?_;rw[if_pos rfl];refine Zw ?_;refine Zz ?_;refine Zt ?_;refine Zz ?_;refine Zx [(17,.q [.v (.int .i64 (p[j]))])] Yi hnt fun K hK=>?_;refine And.intro (Xg (Zi p)) ?_;refine And.intro (Xh (YU p j) rfl) ?_
    refine hK _ _ ?_;clear hK K;refine Zz ?_;refine Zz ?_;refine Zx [(20,.v (.bool false)),(25,.v (.int .i64 (↑u.args.length))),(26,.v (.bool false))] Yi hnt fun K hK=>?_;refine And.intro Xq ?_;refine And.intro (Zq (by rw[Zs])) ?_;refine And.intro Xq ?_;refine hK _ _ ?_;clear hK K;refine Zy (t:=false) rfl ?_;rw[if_neg (by simp)];refine Zw ?_;refine Zz ?_
    refine Zx [(31,.v (.int .i64 (↑n))),(32,.q [.sl 2 (eTys x.binds) none,.v (.int .i64 x.kind),.v (.int .i64 x.index),.sl 4 (eTms x.args) none])] Yi hnt fun K hK=>?_;refine And.intro (Zq (by exact hn)) ?_;refine And.intro (⟨by omega,by rw[Zs];omega⟩) ?_;refine And.intro (Zn.of_eq (by rw[Int.toNat_natCast,hgx])) ?_;refine hK _ _ ?_;clear hK K;refine Zx [(37,.ps 6 (l.length+x.binds.length))] Yi hnt fun K hK=>?_
    refine And.intro (⟨by rw[Zr],by rw[Zr,Zr];omega⟩) ?_;refine And.intro (Zn.of_eq (by rw[Zr])) ?_;refine hK _ _ ?_;clear hK K
    rw[←X8,←List.length_append]
    refine Zx [(38,.v (.int .i64 (↑(j+1))))] Yi hnt fun K hK=>?_;refine And.intro XR ?_;refine hK _ _ ?_;clear hK K
    refine⟨⟨(j+1,x,l++x.binds),by omega,hst⟩,by first | omega | (dsimp only;omega),VS.toA⟩
   ·rw[if_neg hc] at hst
    rw[EQ t p j hlt hst]
    by_cases h0:p[j]<0
    ·skip
     refine Zz ?_;refine Zx [(16,.v (.bool true))] Yi hnt fun K hK=>?_;refine And.intro YD ?_;refine hK _ _ ?_;clear hK K;refine Zz ?_;refine Zy (t:=true) rfl ?_;rw[if_pos rfl];refine Zw ?_;refine Zz ?_;refine Zt ?_;refine Zz ?_;refine Zx [(17,.q [.v (.int .i64 (p[j]))])] Yi hnt fun K hK=>?_;refine And.intro (Xg (Zi p)) ?_;refine And.intro (Xh (YU p j) rfl) ?_
     refine hK _ _ ?_;clear hK K;refine Zz ?_;refine Zz ?_;refine Zx [(20,.v (.bool true))] Yi hnt fun K hK=>?_;refine And.intro YD ?_;refine hK _ _ ?_;clear hK K;refine Zy (t:=true) rfl ?_;rw[if_pos rfl];refine Zz ?_;refine Zx [] Yi hnt fun _ z9=>z9 _ _ ?_;refine Zu ?_
     exact Zj rfl
    ·skip
     refine Zz ?_;refine Zx [(16,.v (.bool true))] Yi hnt fun K hK=>?_;refine And.intro YD ?_;refine hK _ _ ?_;clear hK K;refine Zz ?_;refine Zy (t:=true) rfl ?_;rw[if_pos rfl];refine Zw ?_;refine Zz ?_;refine Zt ?_;refine Zz ?_;refine Zx [(17,.q [.v (.int .i64 (p[j]))])] Yi hnt fun K hK=>?_;refine And.intro (Xg (Zi p)) ?_;refine And.intro (Xh (YU p j) rfl) ?_
     refine hK _ _ ?_;clear hK K;refine Zz ?_;refine Zz ?_;refine Zx [(20,.v (.bool false)),(25,.v (.int .i64 (↑u.args.length))),(26,.v (.bool true))] Yi hnt fun K hK=>?_;refine And.intro Xq ?_;refine And.intro (Zq (by rw[Zs])) ?_;refine And.intro YD ?_;refine hK _ _ ?_;clear hK K;refine Zy (t:=true) rfl ?_;rw[if_pos rfl];refine Zz ?_;refine Zx [] Yi hnt fun K hK=>?_
     refine hK _ _ ?_;clear hK K;refine Zu ?_
     exact Zj rfl
  ·have hjp:p.take j=p:=List.take_of_length_le (by omega)
   rw[hjp] at hu
   rw[hu,show Jz (some (u,l))=.tu [.ag [.sl 2 (eTys u.binds) none,.v (.int .i64 u.kind),.v (.int .i64 u.index),.sl 4 (eTms u.args) none],.sl 2 (eTys l) none,.v (.int .i64 0)] by rw[←Zv];rfl]
   have hcp:=WG u (by omega) hfu
   have hs0:(Ty.mk [] 0).size=1:=by simp[Ty.size,Ty.sizes]
   have harr:=Tz (.mk [] 0) l (by omega)
   dsimp only[Ty.args,Ty.base] at harr
   rw[List.append_nil,Zb,Zb] at harr
   dsimp only[Ty.args,Ty.base,eTys] at harr
   rw[Zv] at hcp
   refine Zz ?_;refine Zx [(16,.v (.bool false))] Yi hnt fun K hK=>?_;refine And.intro Xq ?_;refine hK _ _ ?_;clear hK K;refine Zz ?_;refine Zy (t:=false) rfl ?_;rw[if_neg (by simp)]
   refine S6 (x:=7) (g:=6) rfl rfl (Zr _) ?_
   rw[Zr]
   refine Zc ?_;refine Zz ?_;refine Zx [(41,.ag [.sl 2 [] none,.v (.int .i64 0)]),(42,.sl 2 (eTys l) none)] Yi hnt fun K hK=>?_;refine Ze (hcp) ?_;refine And.intro (Xl) ?_;refine And.intro (Zn.untag _ _ _) ?_;refine Ze (harr) ?_;refine hK _ _ ?_;clear hK K;refine Zu ?_
   exact Zj rfl
def TAUE_62:TI:=⟨4,true,[Value.slice none 0 0,Value.int IntKind.i64 0,Value.int IntKind.i64 0,Value.slice none 0 0],[(0,1,false),(1,2,true),(3,1,false)],none,64,6,none,false⟩
theorem LJ:TypOk Tryz.prog 62 TAUE_62:=by constructor <;> kernel_rfl
def TAUE_86:TI:=⟨4,true,[Value.int IntKind.i64 0,Value.bool false,Value.slice none 0 0,Value.slice none 0 0],[(0,1,false),(1,1,false),(2,1,false),(3,1,false)],none,64,6,none,false⟩
theorem LO:TypOk Tryz.prog 86 TAUE_86:=by constructor <;> kernel_rfl
def TAUE_50:TI:=⟨1,false,[Value.int IntKind.i64 0],[],none,8,2,none,false⟩
theorem LI:TypOk Tryz.prog 50 TAUE_50:=by constructor <;> kernel_rfl
def TAUE_138:TI:=⟨1,false,[Value.pointer none],[],none,8,4,none,false⟩
theorem Pp:TypOk Tryz.prog 138 TAUE_138:=by constructor <;> kernel_rfl
def TAUE_140:TI:=⟨5,true,[Value.int IntKind.i64 0,Value.slice none 0 0,Value.slice none 0 0,Value.slice none 0 0,Value.int IntKind.i64 0],[(0,3,true),(3,1,false),(4,1,false)],none,88,6,none,false⟩
theorem Pq:TypOk Tryz.prog 140 TAUE_140:=by constructor <;> kernel_rfl
def TAUE_3:TI:=⟨1,false,[Value.int IntKind.i64 0],[],none,8,2,none,false⟩
theorem G9:TypOk Tryz.prog 3 TAUE_3:=by constructor <;> kernel_rfl
def TAUE_64:TI:=⟨9,true,[Value.slice none 0 0,Value.int IntKind.i64 0,Value.int IntKind.i64 0,Value.slice none 0 0,Value.slice none 0 0,Value.int IntKind.i64 0,Value.int IntKind.i64 0,Value.slice none 0 0,Value.slice none 0 0],[(0,4,true),(4,4,true),(8,1,false)],none,152,6,none,false⟩
theorem LK:TypOk Tryz.prog 64 TAUE_64:=by constructor <;> kernel_rfl
def TAUE_84:TI:=⟨1,false,[Value.slice none 0 0],[],some 110,24,5,none,false⟩
theorem LN:TypOk Tryz.prog 84 TAUE_84:=by constructor <;> kernel_rfl
def TAUE_4:TI:=⟨1,false,[Value.bool false],[],none,1,1,none,false⟩
theorem G8:TypOk Tryz.prog 4 TAUE_4:=by constructor <;> kernel_rfl
def TAUE_34:TI:=⟨1,false,[Value.slice none 0 0],[],some 64,24,5,none,false⟩
theorem LF:TypOk Tryz.prog 34 TAUE_34:=by constructor <;> kernel_rfl
def TAUE_78:TI:=⟨1,false,[Value.slice none 0 0],[],some 86,24,5,none,false⟩
theorem LM:TypOk Tryz.prog 78 TAUE_78:=by constructor <;> kernel_rfl
def TAUE_43:TI:=⟨3,true,[Value.int IntKind.i64 0,Value.slice none 0 0,Value.slice none 0 0],[(0,1,false),(1,1,false),(2,1,false)],none,56,6,none,false⟩
theorem LH:TypOk Tryz.prog 43 TAUE_43:=by constructor <;> kernel_rfl
def TAUE_71:TI:=⟨1,false,[Value.slice none 0 0],[],some 3,24,5,none,false⟩
theorem LL:TypOk Tryz.prog 71 TAUE_71:=by constructor <;> kernel_rfl
def TAUE_41:TI:=⟨1,false,[Value.slice none 0 0],[],some 106,24,5,none,false⟩
theorem LG:TypOk Tryz.prog 41 TAUE_41:=by constructor <;> kernel_rfl
def TAUE_106:TI:=⟨2,true,[Value.slice none 0 0,Value.int IntKind.i64 0],[(0,1,false),(1,1,false)],none,32,6,none,false⟩
theorem Pm:TypOk Tryz.prog 106 TAUE_106:=by constructor <;> kernel_rfl
def TAUE_110:TI:=⟨5,true,[Value.int IntKind.i64 0,Value.slice none 0 0,Value.int IntKind.i64 0,Value.int IntKind.i64 0,Value.slice none 0 0],[(0,1,false),(1,4,true)],none,72,6,none,false⟩
theorem Po:TypOk Tryz.prog 110 TAUE_110:=by constructor <;> kernel_rfl
def TAUE:List (Nat×TI):=[(62,TAUE_62),(86,TAUE_86),(50,TAUE_50),(138,TAUE_138),(140,TAUE_140),(3,TAUE_3),(64,TAUE_64),(84,TAUE_84),(4,TAUE_4),(34,TAUE_34),(78,TAUE_78),(43,TAUE_43),(71,TAUE_71),(41,TAUE_41),(106,TAUE_106),(110,TAUE_110)]
theorem Z8:Zh Tryz.prog TAUE:=(((((((((((((((((Zh.nil _).cons Po).cons Pm).cons LG).cons LL).cons LH).cons LM).cons LF).cons G8).cons LN).cons LK).cons G9).cons Pq).cons Pp).cons LI).cons LO).cons LJ)
def SB (x:Au.St):List D:=[.v (.int .i64 x.eq),.v (.bool x.back),.sl 1 (Y4 x.path) none,.sl 5 (Z1 x.s) none]
@[simp] theorem BK (f g:Nat→Bool) (x:Au.St):D.oks f g (SB x)=true:=by simp[SB,D.oks,D.ok]
theorem C5 (t:Tm)(hsz:t.full≤900000)(hfit:t.Fit):Zd Tryz.prog 124 [.ag (eTm t)] (.ag (eTm (Pn.nb t))):=by
 have h:=WG t hsz hfit
 rw[Zv] at h ⊢
 rw[show eTm (Pn.nb t)=[.sl 2 [] none,.v (.int .i64 t.kind),.v (.int .i64 t.index),.sl 4 (eTms t.args) none] by rw[Zv];rfl]
 refine Zm 0 8 [ResultVar.cell 2 62] Z8 Tryz.func124 rfl Tryz.ntmps124 rfl fun cx hnt hn0=>?_
 ·skip
  refine Zz ?_;refine Zx [] Z8 hnt fun _ z9=>z9 _ _ ?_;refine Zz ?_;refine Zx [] Z8 hnt fun K hK=>?_;refine Ze (h) ?_;refine hK _ _ ?_;clear hK K;refine Zz ?_;refine Zx [] Z8 hnt fun _ z9=>z9 _ _ ?_;refine Zz ?_;refine Zx [] Z8 hnt fun _ z9=>z9 _ _ ?_;refine Zu ?_
  exact Zj rfl
theorem Bnd.mono170 {t:Tm}:Bnd 150 t→Bnd 170 t:=by
 induction t using Tm.ind with
 | h b k i a ih=>exact fun ht=>.mk _ _ _ _ (by have:=ht.inv.1;omega) ht.inv.2.1 fun u hu=>ih u hu (ht.inv.2.2 u hu)
namespace Au
theorem repl_full {t c:Tm}{p:List Int}(h1:t.full≤800000)(h2:c.full≤800000):(repl t c p).1.full≤17100000:=by
 unfold repl
 by_cases hb:c.binds≠[]
 ·rw[if_pos hb];show Tm.zero.full≤17100000;decide
 ·rw[if_neg hb]
  cases hx:replP p t c with
  | none=>show Tm.zero.full≤17100000;decide
  | some o=>
   have:=(WQ p t c o hx).2.1
   show o.full≤17100000
   omega
theorem img_bnd {s:List (Int×Tm)}{t:Tm}{e:Int}(hs:∀ q∈s,Bnd 150 q.2)(ht:Bnd 150 t):Bnd 150 (img s t e).1∧(img s t e).1.size≤5000:=by
 unfold img
 by_cases he:e≠0
 ·rw[if_pos he];exact⟨Bnd.tz,by show Tm.zero.size≤5000;decide⟩
 ·rw[if_neg he]
  have hle:=Om (l:=s) (t:=t) (left:=100000) (dry:=false) hs ht ⟨by decide,by decide⟩
  dsimp only
  by_cases h0:(Sb.apply s t 100000 false).2.e=0
  ·exact⟨(hle h0).2.2,(hle h0).2.1.1⟩
  ·have hz:(Sb.apply s t 100000 false).1=Nm.tz:=by
    unfold Sb.apply at h0 ⊢
    by_cases hr:Sb.right s=false
    ·rw[if_pos hr]
    ·rw[if_neg hr] at h0 ⊢
     dsimp only at h0 ⊢
     generalize Sb.through s t 0 ⟨100000,false,0,0⟩=r at h0 ⊢
     by_cases hc:r.2.e=0∧¬ (r.1.size≤5000∧r.1.depth≤60)
     ·rw[if_pos hc]
      exact congrArg Prod.fst (if_pos (α:=Tm×Nm.St) (t:=(Nm.tz,{ r.2 with e:=2 })) (e:=(r.1,{ r.2 with e:=2 })) (show (2:Int)≠0 by decide))
     ·rw[if_neg hc] at h0 ⊢
      by_cases hr2:r.2.e=0
      ·rw[if_neg (fun h=>h hr2)] at h0;exact absurd hr2 h0
      ·rw[if_pos hr2]
   rw[hz];exact⟨Bnd.tz,by decide⟩
def EqOk (q:Li.Pr):Prop:=(q.l.full≤150∧Bnd 150 q.l)∧(q.r.full≤150∧Bnd 150 q.r)∧q.m.length≤1000
def SOk (x:St):Prop:=x.s.length≤1000∧(∀ q∈x.s,q.2.full≤150∧q.2.Fit)∧x.path.length≤10000
end Au
set_option maxRecDepth 100000 in
set_option maxHeartbeats 8000000 in
theorem CB (b:Int)(C Mw:List Ty)(eqs:List Li.Pr)(e:Int)(t:Tm)(x:Au.St)(code:List Ty→Tm→Ty→Int)(hc:∀ X t u,Yt C Mw t X u (code X t u))(hCl:C.length≤1000000)(hMl:Mw.length≤1000000) 
  (hel:eqs.length≤1000) (hes:∀ q∈eqs,Au.EqOk q) (hx:Au.SOk x) (ht:t.size≤5000∧Bnd 150 t∧t.full≤760000) :
  ZE Tryz.prog 97 [.p 0 0,.ag (eTm t),.ag (SB x)] (Au.ck b C Mw eqs e) (Au.ck b C Mw eqs (Au.step code eqs x (t,e)).2) (.ag (eTm (Au.step code eqs x (t,e)).1)):=by
 obtain⟨hx1,hx2,hx3⟩:=hx
 obtain⟨ht1,ht2,ht3⟩:=ht
 have hsw:∀ q∈x.s,Bnd 150 q.2∧ZB q.2:=fun q hq=>⟨Bnd.of_full q.2 (hx2 q hq).1 (hx2 q hq).2,X2 _ (by have:=(hx2 q hq).1;omega)⟩
 have hsb:∀ q∈x.s,Bnd 150 q.2:=fun q hq=>(hsw q hq).1
 have hAt:=Ag t x.path (by omega) (Bnd.fit _ ht2) (by omega)
 obtain⟨is,his⟩:∃ is,decide (0≤x.eq∧x.eq<(eqs.length:Int))=is:=⟨_,rfl⟩
 obtain⟨e1,he1⟩:∃ e1,Au.must e is 10=e1:=⟨_,rfl⟩
 have hm1:=XN b C Mw eqs e 10 is
 rw[he1] at hm1
 have hm2f:=XN b C Mw eqs e1 10 false
 have hm2t:=XN b C Mw eqs e1 10 true
 rw[Au.must_true] at hm2t
 have hm2f:ZE _ _ _ _ _ _:=hm2f
 obtain⟨⟨o,oe⟩,hO⟩:∃ r,Au.step code eqs x (t,e)=r:=⟨_,rfl⟩
 rw[hO]
 unfold Au.step at hO
 dsimp only at hO ⊢
 rw[his,he1] at hO
 generalize hat:Pn.atP x.path t=r at hAt hO
 unfold SB
 rw[Zv t,Zv o]
 unfold Au.ck at hm1 hm2f hm2t ⊢
 refine Zm 2 117 [ResultVar.cell 6 62] Z8 Tryz.func97 rfl Tryz.ntmps97 rfl fun cx hnt hn0=>?_
 ·skip
  refine Zz ?_;refine Zx [] Z8 hnt fun _ z9=>z9 _ _ ?_
  refine XW (τ:=[(.t 0,.p 0 0),(.t 4,.p 2 0),(.t 5,.p 3 0),(.t 6,.p 4 0),(.c 2 0,.sl 2 (eTys t.binds) none),(.c 2 1,.v (.int .i64 t.kind)),(.c 2 2,.v (.int .i64 t.index)),(.c 2 3,.sl 4 (eTms t.args) none),(.c 3 0,.v (.int .i64 x.eq)),(.c 3 1,.v (.bool x.back)),(.c 3 2,.sl 1 (Y4 x.path) none),(.c 3 3,.sl 5 (Z1 x.s) none),(.c 4 0,.v (.slice none 0 0)),(.c 4 1,.v (.int .i64 0)),(.c 4 2,.v (.int .i64 0)),(.c 4 3,.v (.slice none 0 0)),(.c 0 0,.v (.int .i64 b)),(.c 0 1,.sl 2 (eTys C) none),(.c 0 2,.sl 2 (eTys Mw) none),(.c 0 3,.sl 9 (Yp eqs) none),(.c 0 4,.v (.int .i64 e1))]) (N1:=60) ?_ ?_
  ·by_cases h0:0≤x.eq
   ·by_cases h1:x.eq<(eqs.length:Int)
    ·have hi:is=true:=by rw[←his];exact decide_eq_true ⟨h0,h1⟩
     subst hi
     refine ZP [(19,.v (.bool true)),(27,.v (.int .i64 (↑eqs.length))),(28,.v (.bool true))] Z8 hnt fun K hK=>?_;refine And.intro (ZZ (by omega)) ?_;refine And.intro (Zq (by rw[Z5])) ?_;refine And.intro (ZZ h1) ?_;refine Ze (hm1) ?_;refine hK _ _ (by kernel_rfl) ?_;clear hK K
     exact Ym VS.toA
    ·have hi:is=false:=by rw[←his];exact decide_eq_false fun h=>h1 h.2
     subst hi
     refine ZP [(19,.v (.bool true)),(27,.v (.int .i64 (↑eqs.length))),(28,.v (.bool false))] Z8 hnt fun K hK=>?_;refine And.intro (ZZ (by omega)) ?_;refine And.intro (Zq (by rw[Z5])) ?_;refine And.intro (Zf h1) ?_;refine Ze (hm1) ?_;refine hK _ _ (by kernel_rfl) ?_;clear hK K
     exact Ym VS.toA
   ·have hi:is=false:=by rw[←his];exact decide_eq_false fun h=>h0 h.1
    subst hi
    refine ZP [(19,.v (.bool false))] Z8 hnt fun K hK=>?_;refine And.intro (Zf (by omega)) ?_;refine Ze (hm1) ?_;refine hK _ _ (by kernel_rfl) ?_;clear hK K
    exact Ym VS.toA
  ·cases r with
   | none=>
    dsimp only at hO
    have he2:Au.must e1 false 10≠0:=fun h=>by have:=(Au.must_0 (by decide) h).2;cases this
    obtain⟨rfl,rfl⟩:=Prod.mk.inj hO
    unfold Jz at hAt
    dsimp only at hAt
    rw[Zv t,UZ] at hAt
    refine Zz ?_;refine Zx [] Z8 hnt fun K hK=>?_;refine Ze (hAt) ?_;refine hK _ _ ?_;clear hK K;refine Zz ?_;refine Zx [(41,.v (.bool false))] Z8 hnt fun K hK=>?_;refine And.intro (XT (by decide)) ?_;refine Ze (hm2f) ?_;refine hK _ _ ?_;clear hK K;refine Zz ?_;refine Zz ?_;refine Zx [(47,.v (.bool true))] Z8 hnt fun K hK=>?_;refine And.intro (Y6 he2) ?_
    refine hK _ _ ?_;clear hK K;refine Zy (t:=true) rfl ?_;rw[if_pos rfl];refine Zz ?_;refine Zx [] Z8 hnt fun _ z9=>z9 _ _ ?_;refine Zu ?_
    exact Zj rfl
   | some y=>
    obtain⟨th,ar⟩:=y
    dsimp only at hO
    unfold Jz at hAt
    dsimp only at hAt
    obtain⟨z1,z2,z3,z4⟩:=Wq _ _ _ hat
    dsimp only at z1 z2 z3 z4
    have hthf:th.Fit:=TM T7 _ _ _ (Bnd.fit _ ht2) hat
    have hBo:=C5 th (by omega) hthf
    rw[Zv t,Zv th] at hAt
    simp only[Zv] at hBo
    refine Zz ?_;refine Zx [] Z8 hnt fun K hK=>?_;refine Ze (hAt) ?_;refine hK _ _ ?_;clear hK K;refine Zz ?_;refine Zx [(41,.v (.bool true))] Z8 hnt fun K hK=>?_;refine And.intro (XU rfl) ?_;refine Ze (hm2t) ?_;refine hK _ _ ?_;clear hK K
    by_cases hz:e1=0
    ·subst hz
     rw[if_neg (fun h=>h rfl)] at hO
     obtain⟨h0,hi⟩:=Au.must_0 (by decide) he1
     subst hi
     obtain⟨h1,h2⟩:=of_decide_eq_true his
     obtain⟨n,hn⟩:∃ n:Nat,x.eq=n:=⟨x.eq.toNat,by omega⟩
     have hnl:n<eqs.length:=by omega
     obtain⟨q,hq⟩:∃ q,eqs[n]=q:=⟨_,rfl⟩
     have hqa:Au.eqAt eqs x=q:=by
      unfold Au.eqAt
      rw[hn,Int.toNat_natCast,List.getD_eq_getElem?_getD,List.getElem?_eq_getElem hnl,hq];rfl
     rw[hqa] at hO
     obtain⟨hbl,hbr,hqm⟩:Au.EqOk q:=hes q (hq ▸ List.getElem_mem hnl)
     have hSub:=Tu b C Mw eqs 0 q x.s ar code hc hCl hMl ⟨by have:=hbl.1;omega,by have:=hbr.1;omega⟩ (by omega) hx1 (fun p hp=>⟨by have:=(hx2 p hp).1;omega,(hx2 p hp).2⟩) (by omega)
     obtain⟨E3,hE3⟩:∃ E,Au.subS code q x.s ar 0=E:=⟨_,rfl⟩
     rw[hE3] at hSub hO
     rw[Yf] at hSub
     unfold Au.ck at hSub
     refine Zz ?_;refine Zz ?_;refine Zx [(47,.v (.bool false))] Z8 hnt fun K hK=>?_;refine And.intro (Yy rfl) ?_;refine hK _ _ ?_;clear hK K;refine Zy (t:=false) rfl ?_;rw[if_neg (by simp)];refine Zw ?_;refine Zz ?_;refine ZP [(54,.v (.int .i64 (↑n))),(55,.q [.sl 2 (eTys q.l.binds) none,.v (.int .i64 q.l.kind),.v (.int .i64 q.l.index),.sl 4 (eTms q.l.args) none,.sl 2 (eTys q.r.binds) none,.v (.int .i64 q.r.kind),.v (.int .i64 q.r.index),.sl 4 (eTms q.r.args) none,.sl 2 (eTys q.m) none])] Z8 hnt fun K hK=>?_
     refine And.intro (Zq (by exact hn)) ?_;refine And.intro (⟨by omega,by rw[Z5];omega⟩) ?_;refine And.intro (Zn.of_eq (by rw[Int.toNat_natCast,Wr eqs n hnl,hq,Yf])) ?_;refine hK _ _ (by kernel_rfl) ?_;clear hK K;refine Zz ?_;refine Zx [] Z8 hnt fun K hK=>?_;refine Ze (hSub) ?_;refine hK _ _ ?_;clear hK K;refine Zz ?_;refine ZP [] Z8 hnt fun K hK=>?_
     refine hK _ _ (by kernel_rfl) ?_;clear hK K
     cases hb:x.back with
     | true=>
      have hff:(if x.back=true then q.r else q.l)=q.r:=by rw[hb];rfl
      have hgg:(if x.back=true then q.l else q.r)=q.l:=by rw[hb];rfl
      refine Zz ?_;refine Zz ?_;refine Zx [] Z8 hnt fun _ z9=>z9 _ _ ?_;refine Zy (t:=true) rfl ?_;rw[if_pos rfl];refine Zx [] Z8 hnt fun _ z9=>z9 _ _ ?_
      have hI1:=UE b C Mw eqs E3 x.s q.r hx1 hsw hbr.2 (by have:=hbr.1;have:=Tm.size_le_full q.r;omega)
      have hAb:=Au.img_bnd (s:=x.s) (t:=q.r) (e:=E3) hsb hbr.2
      rw[hff] at hO
      obtain⟨⟨a,ae⟩,hA⟩:∃ r,Au.img x.s q.r E3=r:=⟨_,rfl⟩
      rw[hA] at hI1 hAb hO
      dsimp only at hI1 hAb hO
      have hI2:=UE b C Mw eqs ae x.s q.l hx1 hsw hbl.2 (by have:=hbl.1;have:=Tm.size_le_full q.l;omega)
      have hCb:=Au.img_bnd (s:=x.s) (t:=q.l) (e:=ae) hsb hbl.2
      rw[hgg] at hO
      obtain⟨⟨c,ce⟩,hCc⟩:∃ r,Au.img x.s q.l ae=r:=⟨_,rfl⟩
      rw[hCc] at hI2 hCb hO
      dsimp only at hI2 hCb hO
      have hEq:=Vk a (Pn.nb th)
      have hm6:=XN b C Mw eqs ce 9 (decide (a=Pn.nb th))
      unfold Au.fin at hO
      obtain⟨E6,hE6⟩:∃ E,Au.must ce (decide (a=Pn.nb th)) 9=E:=⟨_,rfl⟩
      rw[hE6] at hm6 hO
      have hcz:c.full≤755000:=by
       have h1:=Bnd.full _ hCb.1
       have h2:c.size * (150+1)≤5000 * 151:=Nat.mul_le_mul hCb.2 (by decide)
       omega
      have hRe:=Ts t c x.path (by omega) ⟨by omega,by omega,Bnd.mono170 ht2⟩ ⟨by omega,by omega,Bnd.mono170 hCb.1⟩
      have hRf:(Au.repl t c x.path).1.full≤17100000:=Au.repl_full (by omega) (by omega)
      obtain⟨⟨ro,re⟩,hR⟩:∃ r,Au.repl t c x.path=r:=⟨_,rfl⟩
      rw[hR] at hRe hRf hO
      dsimp only at hRe hRf hO
      have hm7:=XN b C Mw eqs E6 re (decide (re=0))
      obtain⟨E7,hE7⟩:∃ E,Au.must E6 (decide (re=0)) re=E:=⟨_,rfl⟩
      rw[hE7] at hm7 hO
      have hRt:=WR ro hRf
      rw[show decide (ro.size≤5000∧ro.depth≤60)=Li.rt ro from rfl] at hRt
      have hm8:=XN b C Mw eqs E7 2 (Li.rt ro)
      obtain⟨E8,hE8⟩:∃ E,Au.must E7 (Li.rt ro) 2=E:=⟨_,rfl⟩
      rw[hE8] at hm8 hO
      unfold Au.ck at hI1 hI2 hm6 hm7 hm8
      simp only[Zv] at hI1 hI2 hEq hRe hRt
      refine Zz ?_;refine Zx [] Z8 hnt fun K hK=>?_;refine Ze (hI1) ?_;refine hK _ _ ?_;clear hK K;refine Zz ?_;refine Zx [] Z8 hnt fun K hK=>?_;refine Ze (hI2) ?_;refine hK _ _ ?_;clear hK K;refine Zz ?_;refine ZP [] Z8 hnt fun K hK=>?_;refine Ze (hBo) ?_;refine Ze (hEq) ?_;refine Ze (hm6) ?_;refine hK _ _ (by kernel_rfl) ?_;clear hK K
      by_cases h6:E6=0
      ·rw[if_neg (fun h=>h h6)] at hO
       by_cases h8:E8=0
       ·rw[if_neg (fun h=>h h8)] at hO
        obtain⟨rfl,rfl⟩:=Prod.mk.inj hO
        rw[h8] at hm8
        refine Zz ?_;refine Zz ?_;refine Zx [(91,.v (.bool false))] Z8 hnt fun K hK=>?_;refine And.intro (Yy h6) ?_;refine hK _ _ ?_;clear hK K;refine Zy (t:=false) rfl ?_;rw[if_neg (by simp)];refine Zw ?_;refine Zz ?_;refine Zx [] Z8 hnt fun K hK=>?_;refine Ze (hRe) ?_;refine hK _ _ ?_;clear hK K;refine Zz ?_;refine Zx [(103,.v (.bool (decide (re=0))))] Z8 hnt fun K hK=>?_
        refine And.intro (Zn.of_eq (by by_cases h:re=0 <;> simp[h])) ?_;refine Ze (hm7) ?_;refine hK _ _ ?_;clear hK K;refine Zz ?_;refine Zx [] Z8 hnt fun K hK=>?_;refine Ze (hRt) ?_;refine Ze (hm8) ?_;refine hK _ _ ?_;clear hK K;refine Zz ?_;refine Zz ?_;refine Zx [(114,.v (.bool false))] Z8 hnt fun K hK=>?_;refine And.intro (Yy rfl) ?_;refine hK _ _ ?_;clear hK K
        refine Zy (t:=false) rfl ?_;rw[if_neg (by simp)];refine Zw ?_;refine Zz ?_;refine Zx [] Z8 hnt fun _ z9=>z9 _ _ ?_;refine Zu ?_
        exact Zj rfl
       ·rw[if_pos h8] at hO
        obtain⟨rfl,rfl⟩:=Prod.mk.inj hO
        refine Zz ?_;refine Zz ?_;refine Zx [(91,.v (.bool false))] Z8 hnt fun K hK=>?_;refine And.intro (Yy h6) ?_;refine hK _ _ ?_;clear hK K;refine Zy (t:=false) rfl ?_;rw[if_neg (by simp)];refine Zw ?_;refine Zz ?_;refine Zx [] Z8 hnt fun K hK=>?_;refine Ze (hRe) ?_;refine hK _ _ ?_;clear hK K;refine Zz ?_;refine Zx [(103,.v (.bool (decide (re=0))))] Z8 hnt fun K hK=>?_
        refine And.intro (Zn.of_eq (by by_cases h:re=0 <;> simp[h])) ?_;refine Ze (hm7) ?_;refine hK _ _ ?_;clear hK K;refine Zz ?_;refine Zx [] Z8 hnt fun K hK=>?_;refine Ze (hRt) ?_;refine Ze (hm8) ?_;refine hK _ _ ?_;clear hK K;refine Zz ?_;refine Zz ?_;refine Zx [(114,.v (.bool true))] Z8 hnt fun K hK=>?_;refine And.intro (Y6 h8) ?_;refine hK _ _ ?_;clear hK K
        refine Zy (t:=true) rfl ?_;rw[if_pos rfl];refine Zz ?_;refine Zx [] Z8 hnt fun _ z9=>z9 _ _ ?_;refine Zu ?_
        exact Zj rfl
      ·rw[if_pos h6] at hO
       obtain⟨rfl,rfl⟩:=Prod.mk.inj hO
       refine Zz ?_;refine Zz ?_;refine Zx [(91,.v (.bool true))] Z8 hnt fun K hK=>?_;refine And.intro (Y6 h6) ?_;refine hK _ _ ?_;clear hK K;refine Zy (t:=true) rfl ?_;rw[if_pos rfl];refine Zz ?_;refine Zx [] Z8 hnt fun _ z9=>z9 _ _ ?_;refine Zu ?_
       exact Zj rfl
     | false=>
      have hff:(if x.back=true then q.r else q.l)=q.l:=by rw[hb];rfl
      have hgg:(if x.back=true then q.l else q.r)=q.r:=by rw[hb];rfl
      refine Zz ?_;refine Zz ?_;refine Zx [] Z8 hnt fun _ z9=>z9 _ _ ?_;refine Zy (t:=false) rfl ?_;rw[if_neg (by simp)]
      have hI1:=UE b C Mw eqs E3 x.s q.l hx1 hsw hbl.2 (by have:=hbl.1;have:=Tm.size_le_full q.l;omega)
      have hAb:=Au.img_bnd (s:=x.s) (t:=q.l) (e:=E3) hsb hbl.2
      rw[hff] at hO
      obtain⟨⟨a,ae⟩,hA⟩:∃ r,Au.img x.s q.l E3=r:=⟨_,rfl⟩
      rw[hA] at hI1 hAb hO
      dsimp only at hI1 hAb hO
      have hI2:=UE b C Mw eqs ae x.s q.r hx1 hsw hbr.2 (by have:=hbr.1;have:=Tm.size_le_full q.r;omega)
      have hCb:=Au.img_bnd (s:=x.s) (t:=q.r) (e:=ae) hsb hbr.2
      rw[hgg] at hO
      obtain⟨⟨c,ce⟩,hCc⟩:∃ r,Au.img x.s q.r ae=r:=⟨_,rfl⟩
      rw[hCc] at hI2 hCb hO
      dsimp only at hI2 hCb hO
      have hEq:=Vk a (Pn.nb th)
      have hm6:=XN b C Mw eqs ce 9 (decide (a=Pn.nb th))
      unfold Au.fin at hO
      obtain⟨E6,hE6⟩:∃ E,Au.must ce (decide (a=Pn.nb th)) 9=E:=⟨_,rfl⟩
      rw[hE6] at hm6 hO
      have hcz:c.full≤755000:=by
       have h1:=Bnd.full _ hCb.1
       have h2:c.size * (150+1)≤5000 * 151:=Nat.mul_le_mul hCb.2 (by decide)
       omega
      have hRe:=Ts t c x.path (by omega) ⟨by omega,by omega,Bnd.mono170 ht2⟩ ⟨by omega,by omega,Bnd.mono170 hCb.1⟩
      have hRf:(Au.repl t c x.path).1.full≤17100000:=Au.repl_full (by omega) (by omega)
      obtain⟨⟨ro,re⟩,hR⟩:∃ r,Au.repl t c x.path=r:=⟨_,rfl⟩
      rw[hR] at hRe hRf hO
      dsimp only at hRe hRf hO
      have hm7:=XN b C Mw eqs E6 re (decide (re=0))
      obtain⟨E7,hE7⟩:∃ E,Au.must E6 (decide (re=0)) re=E:=⟨_,rfl⟩
      rw[hE7] at hm7 hO
      have hRt:=WR ro hRf
      rw[show decide (ro.size≤5000∧ro.depth≤60)=Li.rt ro from rfl] at hRt
      have hm8:=XN b C Mw eqs E7 2 (Li.rt ro)
      obtain⟨E8,hE8⟩:∃ E,Au.must E7 (Li.rt ro) 2=E:=⟨_,rfl⟩
      rw[hE8] at hm8 hO
      unfold Au.ck at hI1 hI2 hm6 hm7 hm8
      simp only[Zv] at hI1 hI2 hEq hRe hRt
      refine Zw ?_;refine Zz ?_;refine Zx [] Z8 hnt fun K hK=>?_;refine Ze (hI1) ?_;refine hK _ _ ?_;clear hK K;refine Zz ?_;refine Zx [] Z8 hnt fun K hK=>?_;refine Ze (hI2) ?_;refine hK _ _ ?_;clear hK K;refine Zz ?_;refine ZP [] Z8 hnt fun K hK=>?_;refine Ze (hBo) ?_;refine Ze (hEq) ?_;refine Ze (hm6) ?_;refine hK _ _ (by kernel_rfl) ?_;clear hK K
      by_cases h6:E6=0
      ·rw[if_neg (fun h=>h h6)] at hO
       by_cases h8:E8=0
       ·rw[if_neg (fun h=>h h8)] at hO
        obtain⟨rfl,rfl⟩:=Prod.mk.inj hO
        rw[h8] at hm8
        refine Zz ?_;refine Zz ?_;refine Zx [(91,.v (.bool false))] Z8 hnt fun K hK=>?_;refine And.intro (Yy h6) ?_;refine hK _ _ ?_;clear hK K;refine Zy (t:=false) rfl ?_;rw[if_neg (by simp)];refine Zw ?_;refine Zz ?_;refine Zx [] Z8 hnt fun K hK=>?_;refine Ze (hRe) ?_;refine hK _ _ ?_;clear hK K;refine Zz ?_;refine Zx [(103,.v (.bool (decide (re=0))))] Z8 hnt fun K hK=>?_
        refine And.intro (Zn.of_eq (by by_cases h:re=0 <;> simp[h])) ?_;refine Ze (hm7) ?_;refine hK _ _ ?_;clear hK K;refine Zz ?_;refine Zx [] Z8 hnt fun K hK=>?_;refine Ze (hRt) ?_;refine Ze (hm8) ?_;refine hK _ _ ?_;clear hK K;refine Zz ?_;refine Zz ?_;refine Zx [(114,.v (.bool false))] Z8 hnt fun K hK=>?_;refine And.intro (Yy rfl) ?_;refine hK _ _ ?_;clear hK K
        refine Zy (t:=false) rfl ?_;rw[if_neg (by simp)];refine Zw ?_;refine Zz ?_;refine Zx [] Z8 hnt fun _ z9=>z9 _ _ ?_;refine Zu ?_
        exact Zj rfl
       ·rw[if_pos h8] at hO
        obtain⟨rfl,rfl⟩:=Prod.mk.inj hO
        refine Zz ?_;refine Zz ?_;refine Zx [(91,.v (.bool false))] Z8 hnt fun K hK=>?_;refine And.intro (Yy h6) ?_;refine hK _ _ ?_;clear hK K;refine Zy (t:=false) rfl ?_;rw[if_neg (by simp)];refine Zw ?_;refine Zz ?_;refine Zx [] Z8 hnt fun K hK=>?_;refine Ze (hRe) ?_;refine hK _ _ ?_;clear hK K;refine Zz ?_;refine Zx [(103,.v (.bool (decide (re=0))))] Z8 hnt fun K hK=>?_
        refine And.intro (Zn.of_eq (by by_cases h:re=0 <;> simp[h])) ?_;refine Ze (hm7) ?_;refine hK _ _ ?_;clear hK K;refine Zz ?_;refine Zx [] Z8 hnt fun K hK=>?_;refine Ze (hRt) ?_;refine Ze (hm8) ?_;refine hK _ _ ?_;clear hK K;refine Zz ?_;refine Zz ?_;refine Zx [(114,.v (.bool true))] Z8 hnt fun K hK=>?_;refine And.intro (Y6 h8) ?_;refine hK _ _ ?_;clear hK K
        refine Zy (t:=true) rfl ?_;rw[if_pos rfl];refine Zz ?_;refine Zx [] Z8 hnt fun _ z9=>z9 _ _ ?_;refine Zu ?_
        exact Zj rfl
      ·rw[if_pos h6] at hO
       obtain⟨rfl,rfl⟩:=Prod.mk.inj hO
       refine Zz ?_;refine Zz ?_;refine Zx [(91,.v (.bool true))] Z8 hnt fun K hK=>?_;refine And.intro (Y6 h6) ?_;refine hK _ _ ?_;clear hK K;refine Zy (t:=true) rfl ?_;rw[if_pos rfl];refine Zz ?_;refine Zx [] Z8 hnt fun _ z9=>z9 _ _ ?_;refine Zu ?_
       exact Zj rfl
    ·rw[if_pos hz] at hO
     obtain⟨rfl,rfl⟩:=Prod.mk.inj hO
     refine Zz ?_;refine Zz ?_;refine Zx [(47,.v (.bool true))] Z8 hnt fun K hK=>?_;refine And.intro (Y6 hz) ?_;refine hK _ _ ?_;clear hK K;refine Zy (t:=true) rfl ?_;rw[if_pos rfl];refine Zz ?_;refine Zx [] Z8 hnt fun _ z9=>z9 _ _ ?_;refine Zu ?_
     exact Zj rfl
def TAUF_62:TI:=⟨4,true,[Value.slice none 0 0,Value.int IntKind.i64 0,Value.int IntKind.i64 0,Value.slice none 0 0],[(0,1,false),(1,2,true),(3,1,false)],none,64,6,none,false⟩
theorem LT:TypOk Tryz.prog 62 TAUF_62:=by constructor <;> kernel_rfl
def TAUF_86:TI:=⟨4,true,[Value.int IntKind.i64 0,Value.bool false,Value.slice none 0 0,Value.slice none 0 0],[(0,1,false),(1,1,false),(2,1,false),(3,1,false)],none,64,6,none,false⟩
theorem LW:TypOk Tryz.prog 86 TAUF_86:=by constructor <;> kernel_rfl
def TAUF_78:TI:=⟨1,false,[Value.slice none 0 0],[],some 86,24,5,none,false⟩
theorem LV:TypOk Tryz.prog 78 TAUF_78:=by constructor <;> kernel_rfl
def TAUF_43:TI:=⟨3,true,[Value.int IntKind.i64 0,Value.slice none 0 0,Value.slice none 0 0],[(0,1,false),(1,1,false),(2,1,false)],none,56,6,none,false⟩
theorem LR:TypOk Tryz.prog 43 TAUF_43:=by constructor <;> kernel_rfl
def TAUF_140:TI:=⟨5,true,[Value.int IntKind.i64 0,Value.slice none 0 0,Value.slice none 0 0,Value.slice none 0 0,Value.int IntKind.i64 0],[(0,3,true),(3,1,false),(4,1,false)],none,88,6,none,false⟩
theorem Pu:TypOk Tryz.prog 140 TAUF_140:=by constructor <;> kernel_rfl
def TAUF_50:TI:=⟨1,false,[Value.int IntKind.i64 0],[],none,8,2,none,false⟩
theorem LS:TypOk Tryz.prog 50 TAUF_50:=by constructor <;> kernel_rfl
def TAUF_3:TI:=⟨1,false,[Value.int IntKind.i64 0],[],none,8,2,none,false⟩
theorem G7:TypOk Tryz.prog 3 TAUF_3:=by constructor <;> kernel_rfl
def TAUF_138:TI:=⟨1,false,[Value.pointer none],[],none,8,4,none,false⟩
theorem Pt:TypOk Tryz.prog 138 TAUF_138:=by constructor <;> kernel_rfl
def TAUF_34:TI:=⟨1,false,[Value.slice none 0 0],[],some 64,24,5,none,false⟩
theorem LP:TypOk Tryz.prog 34 TAUF_34:=by constructor <;> kernel_rfl
def TAUF_41:TI:=⟨1,false,[Value.slice none 0 0],[],some 106,24,5,none,false⟩
theorem LQ:TypOk Tryz.prog 41 TAUF_41:=by constructor <;> kernel_rfl
def TAUF_206:TI:=⟨1,false,[Value.nilFunc],[],none,8,8,none,false⟩
theorem Pv:TypOk Tryz.prog 206 TAUF_206:=by constructor <;> kernel_rfl
def TAUF_106:TI:=⟨2,true,[Value.slice none 0 0,Value.int IntKind.i64 0],[(0,1,false),(1,1,false)],none,32,6,none,false⟩
theorem Ps:TypOk Tryz.prog 106 TAUF_106:=by constructor <;> kernel_rfl
def TAUF_64:TI:=⟨9,true,[Value.slice none 0 0,Value.int IntKind.i64 0,Value.int IntKind.i64 0,Value.slice none 0 0,Value.slice none 0 0,Value.int IntKind.i64 0,Value.int IntKind.i64 0,Value.slice none 0 0,Value.slice none 0 0],[(0,4,true),(4,4,true),(8,1,false)],none,152,6,none,false⟩
theorem LU:TypOk Tryz.prog 64 TAUF_64:=by constructor <;> kernel_rfl
def TAUF:List (Nat×TI):=[(62,TAUF_62),(86,TAUF_86),(78,TAUF_78),(43,TAUF_43),(140,TAUF_140),(50,TAUF_50),(3,TAUF_3),(138,TAUF_138),(34,TAUF_34),(41,TAUF_41),(206,TAUF_206),(106,TAUF_106),(64,TAUF_64)]
theorem Xj:Zh Tryz.prog TAUF:=((((((((((((((Zh.nil _).cons LU).cons Ps).cons Pv).cons LQ).cons LP).cons Pt).cons G7).cons LS).cons Pu).cons LR).cons LV).cons LW).cons LT)
def Y2 (l:List Au.St):List (List D):=l.map SB
theorem ZG (l:List Au.St):(Y2 l).length=l.length:=List.length_map ..
theorem V7 (l:List Au.St)(i:Nat)(h:i<l.length):(Y2 l).getD i []=SB l[i]:=by
 rw[Y2,List.getD_eq_getElem?_getD,List.getElem?_map,List.getElem?_eq_getElem h];rfl
@[simp] theorem KN (f g:Nat→Bool) (l:List Au.St):D.okss f g (Y2 l)=true:=D.okss_map _ l fun l _=>BK f g l
namespace Au
theorem replP_bnd {B:Nat}:∀ (p:List Int) (t b o:Tm),replP p t b=some o→Bnd B t→Bnd B b→Bnd B o
 | [],t,b,o,h,h1,h2=>by
  rw[replP] at h
  cases h
  obtain⟨tb,tk,ti,ta⟩:=t
  obtain⟨bb,bk,bi,ba⟩:=b
  exact .mk _ _ _ _ h1.inv.1 h2.inv.2.1 h2.inv.2.2
 | j :: p,t,b,o,h,g1,g2=>by
  rw[replP] at h
  by_cases hj:0≤j∧j<(t.args.length:Int)
  ·rw[if_pos hj] at h
   cases hr:replP p (t.args.getD j.toNat Tm.zero) b with
   | none=>rw[hr] at h;cases h
   | some x=>
    rw[hr] at h
    have h:=Option.some.inj h
    have hn:j.toNat<t.args.length:=by omega
    rw[List.getD_eq_getElem?_getD,List.getElem?_eq_getElem hn,Option.getD_some] at hr
    have h3:=replP_bnd (B:=B) p _ b x hr
    obtain⟨tb,tk,ti,ta⟩:=t
    subst h
    refine .mk _ _ _ _ g1.inv.1 g1.inv.2.1 fun u hu=>?_
    rcases List.mem_or_eq_of_mem_set hu with hu | rfl
    ·exact g1.inv.2.2 u hu
    ·exact h3 (g1.inv.2.2 _ (List.getElem_mem hn)) g2
  ·rw[if_neg hj] at h;cases h
theorem repl_bnd {B:Nat}{t b:Tm}{p:List Int}(h1:Bnd B t)(h2:Bnd B b):Bnd B (repl t b p).1:=by
 unfold repl
 by_cases hb:b.binds≠[]
 ·rw[if_pos hb];exact Bnd.tz
 ·rw[if_neg hb]
  cases hx:replP p t b with
  | none=>exact Bnd.tz
  | some o=>exact replP_bnd p t b o hx h1 h2
def TOk (t:Tm):Prop:=t.size≤5000∧Bnd 150 t∧t.full≤760000
theorem TOk.zero:TOk Tm.zero:=⟨by decide,Bnd.tz,by decide⟩
theorem fin_ok {x:St}{t th a b:Tm}{e:Int}(ht:TOk t)(hb:Bnd 150 b):TOk (fin x t th a b e).1:=by
 unfold fin
 by_cases h1:must e (decide (a=Pn.nb th)) 9≠0
 ·rw[if_pos h1];exact TOk.zero
 ·rw[if_neg h1]
  by_cases h2:must (must (must e (decide (a=Pn.nb th)) 9) (decide ((repl t b x.path).2=0)) (repl t b x.path).2) (Li.rt (repl t b x.path).1) 2≠0
  ·rw[if_pos h2];exact TOk.zero
  ·rw[if_neg h2]
   have h3:=(must_0 (by decide) (Decidable.not_not.1 h2)).2
   have h4:(repl t b x.path).1.size≤5000:=(of_decide_eq_true h3).1
   have h5:Bnd 150 (repl t b x.path).1:=repl_bnd ht.2.1 hb
   refine⟨h4,h5,?_⟩
   have h6:=Bnd.full _ h5
   have h7:(repl t b x.path).1.size * (150+1)≤5000 * 151:=Nat.mul_le_mul h4 (by decide)
   show (repl t b x.path).1.full≤760000
   omega
theorem step_ok (code:List Ty→Tm→Ty→Int){eqs:List Li.Pr}{x:St}{r:Tm×Int}(hes:∀ q∈eqs,EqOk q)(hs:∀ q∈x.s,Bnd 150 q.2)(ht:TOk r.1):TOk (step code eqs x r).1:=by
 have hq:Bnd 150 (eqAt eqs x).l∧Bnd 150 (eqAt eqs x).r:=by
  unfold eqAt
  rw[List.getD_eq_getElem?_getD]
  cases hg:eqs[x.eq.toNat]? with
  | none=>exact⟨Bnd.tz,Bnd.tz⟩
  | some q=>exact⟨(hes q (List.mem_of_getElem? hg)).1.2,(hes q (List.mem_of_getElem? hg)).2.1.2⟩
 unfold step
 cases Pn.atP x.path r.1 with
 | none=>exact TOk.zero
 | some y=>
  obtain⟨th,ar⟩:=y
  dsimp only
  by_cases h:must r.2 (decide (0≤x.eq∧x.eq<(eqs.length:Int))) 10≠0
  ·rw[if_pos h];exact TOk.zero
  ·rw[if_neg h]
   refine fin_ok ht (img_bnd hs ?_).1
   cases x.back with
   | true=>exact hq.1
   | false=>exact hq.2
end Au
set_option maxHeartbeats 4000000 in
theorem Cc (b:Int)(C Mw:List Ty)(eqs:List Li.Pr)(t:Tm)(l:List Au.St)(code:List Ty→Tm→Ty→Int)(hc:∀ X t u,Yt C Mw t X u (code X t u))(hCl:C.length≤1000000)(hMl:Mw.length≤1000000) 
  (hel:eqs.length≤1000) (hes:∀ q∈eqs,Au.EqOk q) (hl:l.length≤1000) (hx:∀ x∈l,Au.SOk x) (ht:Au.TOk t) :
  ZE Tryz.prog 65 [.p 0 0,.ag (eTm t),.sl 4 (Y2 l) none] (Au.ck b C Mw eqs 0) (Au.ck b C Mw eqs (Au.chain code eqs l t).2) (.ag (eTm (Au.chain code eqs l t).1)):=by
 have hCp:=WG t (by have:=ht.2.2;omega) (Bnd.fit _ ht.2.1)
 obtain⟨F,hF⟩:∃ F:Nat→Tm×Int,∀ j,(l.take j).foldl (fun r x=>Au.step code eqs x r) (t,0)=F j:=⟨_,fun _=>rfl⟩
 have hF0:F 0=(t,0):=by rw[←hF];rfl
 have hFn:∀ j (h:j<l.length),F (j+1)=Au.step code eqs l[j] (F j):=fun j h=>by rw[←hF,Au.fold_snoc _ _ _ _ h,hF]
 have hFl:l.foldl (fun r x=>Au.step code eqs x r) (t,0)=F l.length:=by rw[←hF,List.take_length]
 have hFo:∀ j,j≤l.length→Au.TOk (F j).1:=by
  intro j
  induction j with
  | zero=>intro _;rw[hF0];exact ht
  | succ j ih=>
   intro h
   rw[hFn j h]
   exact Au.step_ok code hes (fun q hq=>Bnd.of_full q.2 ((hx _ (List.getElem_mem h)).2.1 q hq).1 ((hx _ (List.getElem_mem h)).2.1 q hq).2) (ih (by omega))
 have hSt:∀ j (h:j<l.length),ZE Tryz.prog 97 [.p 0 0,.ag (eTm (F j).1),.ag (SB l[j])] (Au.ck b C Mw eqs (F j).2) (Au.ck b C Mw eqs (F (j+1)).2) (.ag (eTm (F (j+1)).1)):=fun j h=>by
  rw[hFn j h]
  exact CB b C Mw eqs (F j).2 (F j).1 l[j] code hc hCl hMl hel hes (hx _ (List.getElem_mem h)) (hFo j (by omega))
 have hch:Au.chain code eqs l t=if (F l.length).2≠0 then (Tm.zero,(F l.length).2) else F l.length:=by unfold Au.chain;rw[hFl]
 rw[hch]
 obtain⟨T,hT⟩:∃ T:Nat→Tm,∀ j,(F j).1=T j:=⟨_,fun _=>rfl⟩
 obtain⟨E,hE⟩:∃ E:Nat→Int,∀ j,(F j).2=E j:=⟨_,fun _=>rfl⟩
 have hT0:T 0=t:=by rw[←hT,hF0]
 have hE0:E 0=0:=by rw[←hE,hF0]
 have hFe:F l.length=(T l.length,E l.length):=by rw[←hT,←hE]
 rw[hFe]
 dsimp only
 simp only[hT,hE] at hSt
 unfold Au.ck SB at hSt
 unfold Au.ck
 obtain⟨o,hO⟩:∃ o,(if E l.length≠0 then (Tm.zero,E l.length) else (T l.length,E l.length))=o:=⟨_,rfl⟩
 rw[hO]
 simp only[Zv] at hCp hSt
 rw[Zv t,Zv o.1]
 refine Zm 2 29 [ResultVar.cell 6 62] Xj Tryz.func65 rfl Tryz.ntmps65 rfl fun cx hnt hn0=>?_
 ·skip
  refine Zz ?_;refine Zx [] Xj hnt fun _ z9=>z9 _ _ ?_;refine Zz ?_;refine Zx [] Xj hnt fun K hK=>?_;refine Ze (hCp) ?_;refine hK _ _ ?_;clear hK K;refine Zz ?_;refine Zz ?_;refine Zx [(12,.v (.int .i64 (↑l.length)))] Xj hnt fun K hK=>?_;refine And.intro (Zq (by rw[ZG])) ?_;refine hK _ _ ?_;clear hK K
  rw[←hT0]
  refine Zt ?_
  refine Z4 (ι:={ j:Nat // j≤l.length }) (fun j=>[(.t 0,.p 0 0),(.t 4,.p 2 0),(.t 6,.p 3 0),(.t 11,.sl 4 (Y2 l) none),(.t 12,.v (.int .i64 ↑l.length)),(.t 13,.v (.int .i64 ↑j.1)),(.c 2 0,.sl 2 (eTys (T j.1).binds) none),(.c 2 1,.v (.int .i64 (T j.1).kind)),(.c 2 2,.v (.int .i64 (T j.1).index)),(.c 2 3,.sl 4 (eTms (T j.1).args) none),(.c 3 0,.v (.slice none 0 0)),(.c 3 1,.v (.int .i64 0)),(.c 3 2,.v (.int .i64 0)),(.c 3 3,.v (.slice none 0 0)),(.c 0 0,.v (.int .i64 b)),(.c 0 1,.sl 2 (eTys C) none),(.c 0 2,.sl 2 (eTys Mw) none),(.c 0 3,.sl 9 (Yp eqs) none),(.c 0 4,.v (.int .i64 (E j.1)))]) 20 (fun j=>l.length-j.1) (⟨0,Nat.zero_le _⟩) ((by try simp only[List.length_append,List.length_take,List.length_cons,List.length_nil,Nat.zero_add,hE0];exact VS.toA)) fun j=>?_
  obtain⟨j,hj⟩:=j
  dsimp only
  by_cases hlt:j<l.length
  ·have hs:=hSt j hlt
   refine Zz ?_;refine Zx [(14,.v (.bool true))] Xj hnt fun K hK=>?_;refine And.intro YD ?_;refine hK _ _ ?_;clear hK K;refine Zz ?_;refine Zy (t:=true) rfl ?_;rw[if_pos rfl];refine Zw ?_;refine Zz ?_;refine Zt ?_;refine Zz ?_;refine Zx [(15,.q [.v (.int .i64 l[j].eq),.v (.bool l[j].back),.sl 1 (Y4 l[j].path) none,.sl 5 (Z1 l[j].s) none])] Xj hnt fun K hK=>?_
   refine And.intro (⟨by omega,by rw[ZG];omega⟩) ?_;refine And.intro (Zn.of_eq (by rw[Int.toNat_natCast,V7 l j hlt];rfl)) ?_;refine hK _ _ ?_;clear hK K;refine Zx [] Xj hnt fun K hK=>?_;refine Ze (hs) ?_;refine hK _ _ ?_;clear hK K;refine Zx [(21,.v (.int .i64 (↑(j+1))))] Xj hnt fun K hK=>?_;refine And.intro XR ?_;refine hK _ _ ?_;clear hK K
   refine⟨⟨j+1,hlt⟩,by first | omega | (dsimp only;omega),VS.toA⟩
  ·have hje:j=l.length:=by omega
   subst hje
   refine Zz ?_;refine Zx [(14,.v (.bool false))] Xj hnt fun K hK=>?_;refine And.intro Xq ?_;refine hK _ _ ?_;clear hK K;refine Zz ?_;refine Zy (t:=false) rfl ?_;rw[if_neg (by simp)]
   by_cases hz:E l.length=0
   ·rw[if_neg (fun h=>h hz)] at hO
    subst hO
    refine Zc ?_;refine Zz ?_;refine Zz ?_;refine Zx [(26,.v (.bool false))] Xj hnt fun K hK=>?_;refine And.intro (Yy hz) ?_;refine hK _ _ ?_;clear hK K;refine Zy (t:=false) rfl ?_;rw[if_neg (by simp)];refine Zw ?_;refine Zz ?_;refine Zx [] Xj hnt fun _ z9=>z9 _ _ ?_;refine Zu ?_
    exact Zj rfl
   ·rw[if_pos hz] at hO
    subst hO
    refine Zc ?_;refine Zz ?_;refine Zz ?_;refine Zx [(26,.v (.bool true))] Xj hnt fun K hK=>?_;refine And.intro (Y6 hz) ?_;refine hK _ _ ?_;clear hK K;refine Zy (t:=true) rfl ?_;rw[if_pos rfl];refine Zz ?_;refine Zx [] Xj hnt fun _ z9=>z9 _ _ ?_;refine Zu ?_
    exact Zj rfl
def TAUQ_56:TI:=⟨1,false,[Value.slice none 0 0],[],some 74,24,5,none,false⟩
theorem M2:TypOk Tryz.prog 56 TAUQ_56:=by constructor <;> kernel_rfl
def TAUQ_3:TI:=⟨1,false,[Value.int IntKind.i64 0],[],none,8,2,none,false⟩
theorem Gc:TypOk Tryz.prog 3 TAUQ_3:=by constructor <;> kernel_rfl
def TAUQ_74:TI:=⟨4,true,[Value.int IntKind.i64 0,Value.bool false,Value.slice none 0 0,Value.slice none 0 0],[(0,1,false),(1,1,false),(2,1,false),(3,1,false)],none,64,6,none,false⟩
theorem Ma:TypOk Tryz.prog 74 TAUQ_74:=by constructor <;> kernel_rfl
def TAUQ_72:TI:=⟨1,false,[Value.slice none 0 0],[],some 130,24,5,none,false⟩
theorem M0:TypOk Tryz.prog 72 TAUQ_72:=by constructor <;> kernel_rfl
def TAUQ_71:TI:=⟨1,false,[Value.slice none 0 0],[],some 3,24,5,none,false⟩
theorem M1:TypOk Tryz.prog 71 TAUQ_71:=by constructor <;> kernel_rfl
def TAUQ_78:TI:=⟨1,false,[Value.slice none 0 0],[],some 86,24,5,none,false⟩
theorem Mb:TypOk Tryz.prog 78 TAUQ_78:=by constructor <;> kernel_rfl
def TAUQ_4:TI:=⟨1,false,[Value.bool false],[],none,1,1,none,false⟩
theorem Gd:TypOk Tryz.prog 4 TAUQ_4:=by constructor <;> kernel_rfl
def TAUQ_86:TI:=⟨4,true,[Value.int IntKind.i64 0,Value.bool false,Value.slice none 0 0,Value.slice none 0 0],[(0,1,false),(1,1,false),(2,1,false),(3,1,false)],none,64,6,none,false⟩
theorem Mc:TypOk Tryz.prog 86 TAUQ_86:=by constructor <;> kernel_rfl
def TAUQ_130:TI:=⟨5,true,[Value.int IntKind.i64 0,Value.slice none 0 0,Value.int IntKind.i64 0,Value.int IntKind.i64 0,Value.slice none 0 0],[(0,1,false),(1,4,true)],none,72,6,none,false⟩
theorem QL:TypOk Tryz.prog 130 TAUQ_130:=by constructor <;> kernel_rfl
def TAUQ:List (Nat×TI):=[(56,TAUQ_56),(3,TAUQ_3),(74,TAUQ_74),(72,TAUQ_72),(71,TAUQ_71),(78,TAUQ_78),(4,TAUQ_4),(86,TAUQ_86),(130,TAUQ_130)]
theorem YK:Zh Tryz.prog TAUQ:=((((((((((Zh.nil _).cons QL).cons Mc).cons Gd).cons Mb).cons M1).cons M0).cons Ma).cons Gc).cons M2)
namespace Au
def okS (x:St):Bool:=SD x.s&&decide (x.path.length≤100)
end Au
theorem PG (l:List Au.St)(hl:l.length≤9223372036854775807)(hs:∀ x∈l,x.s.length≤9223372036854775807∧(∀ p∈x.s.take 10,VW p.2=true→ZB p.2))(hp:∀ x∈l,x.path.length≤9223372036854775807):Zd Tryz.prog 24 [.sl 4 (Y2 l) none] (.v (.bool ((l.take 8).all Au.okS))):=by
 obtain⟨B,hB⟩:∃ B,(l.take 8).all Au.okS=B:=⟨_,rfl⟩
 rw[hB]
 have hm:∀ i (h:i<l.length),i<8→l[i]∈l.take 8:=fun i h h8=>by
  rw[List.mem_iff_getElem]
  exact⟨i,by rw[List.length_take];omega,by rw[List.getElem_take]⟩
 have hbad:∀ i (h:i<l.length),i<8→Au.okS l[i]=false→B=false:=fun i h h8 hf=>by
  rw[←hB,List.all_eq_false]
  exact⟨l[i],hm i h h8,by rw[hf];simp⟩
 have hgood:(∀ i (h:i<l.length),i<8→Au.okS l[i]=true)→B=true:=fun h=>by
  rw[←hB,List.all_eq_true]
  intro x hx
  obtain⟨i,hi,rfl⟩:=List.getElem_of_mem hx
  rw[List.getElem_take]
  rw[List.length_take] at hi
  exact h i (by omega) (by omega)
 refine Zm 0 30 [ResultVar.tmp 2] YK Tryz.func24 rfl Tryz.ntmps24 rfl fun cx hnt hn0=>?_
 ·skip
  refine Zz ?_;refine Zx [] YK hnt fun _ z9=>z9 _ _ ?_;refine Zz ?_;refine Zz ?_;refine Zx [] YK hnt fun _ z9=>z9 _ _ ?_;refine Zt ?_
  refine Z4 (ι:={ j:Nat // j≤l.length∧∀ i (h:i<l.length),i<8→i<j→Au.okS l[i]=true }) (fun j=>[(.t 0,.sl 4 (Y2 l) none),(.t 3,.v (.int .i64 ↑j.1))]) 1 (fun j=>l.length-j.1) (⟨0,Nat.zero_le _,fun i h h8 h2=>by omega⟩) (VS.toA) fun j=>?_
  obtain⟨j,hj,hjo⟩:=j
  dsimp only
  by_cases hlt:j<l.length
  ·by_cases h8:j<8
   ·obtain⟨x,hx⟩:∃ x,l[j]=x:=⟨_,rfl⟩
    have hgd:(Y2 l).getD j []=[.v (.int .i64 x.eq),.v (.bool x.back),.sl 1 (Y4 x.path) none,.sl 5 (Z1 x.s) none]:=by rw[V7 l j hlt,hx];rfl
    have hxs:=hs x (hx ▸ List.getElem_mem hlt)
    have hf:=BQ x.s hxs.1 hxs.2
    have hpl:=hp x (hx ▸ List.getElem_mem hlt)
    cases h1:SD x.s with
    | false=>
     rw[h1] at hf
     rw[hbad j hlt h8 (by rw[hx,Au.okS,h1];rfl)]
     refine Zz ?_;refine Zz ?_;refine Zx [(6,.v (.int .i64 (↑l.length))),(7,.v (.bool true)),(10,.v (.bool true))] YK hnt fun K hK=>?_;refine And.intro (Zq (by rw[ZG])) ?_;refine And.intro (ZZ (by omega)) ?_;refine And.intro (ZZ (by omega)) ?_;refine hK _ _ ?_;clear hK K;refine Zy (t:=true) rfl ?_;rw[if_pos rfl];refine Zw ?_;refine Zz ?_;refine Zt ?_
     refine Zz ?_;refine Zx [(16,.q [.v (.int .i64 x.eq),.v (.bool x.back),.sl 1 (Y4 x.path) none,.sl 5 (Z1 x.s) none])] YK hnt fun K hK=>?_;refine And.intro (⟨by omega,by rw[ZG];omega⟩) ?_;refine And.intro (Zn.of_eq (by rw[Int.toNat_natCast,hgd])) ?_;refine Ze (hf) ?_;refine hK _ _ ?_;clear hK K;refine Zy (t:=true) rfl ?_;rw[if_pos rfl];refine Zz ?_
     refine Zx [] YK hnt fun _ z9=>z9 _ _ ?_;refine Zu ?_
     exact Zj rfl
    | true=>
     rw[h1] at hf
     by_cases h2:x.path.length≤100
     ·skip
      refine Zz ?_;refine Zz ?_;refine Zx [(6,.v (.int .i64 (↑l.length))),(7,.v (.bool true)),(10,.v (.bool true))] YK hnt fun K hK=>?_;refine And.intro (Zq (by rw[ZG])) ?_;refine And.intro (ZZ (by omega)) ?_;refine And.intro (ZZ (by omega)) ?_;refine hK _ _ ?_;clear hK K;refine Zy (t:=true) rfl ?_;rw[if_pos rfl];refine Zw ?_;refine Zz ?_;refine Zt ?_
      refine Zz ?_;refine Zx [(16,.q [.v (.int .i64 x.eq),.v (.bool x.back),.sl 1 (Y4 x.path) none,.sl 5 (Z1 x.s) none]),(24,.q [.v (.int .i64 x.eq),.v (.bool x.back),.sl 1 (Y4 x.path) none,.sl 5 (Z1 x.s) none]),(27,.v (.int .i64 (↑x.path.length))),(28,.v (.bool false))] YK hnt fun K hK=>?_;refine And.intro (⟨by omega,by rw[ZG];omega⟩) ?_;refine And.intro (Zn.of_eq (by rw[Int.toNat_natCast,hgd])) ?_
      refine Ze (hf) ?_;refine And.intro (⟨by omega,by rw[ZG];omega⟩) ?_;refine And.intro (Zn.of_eq (by rw[Int.toNat_natCast,hgd])) ?_;refine And.intro (Zq (by rw[Zi])) ?_;refine And.intro (Zf (by omega)) ?_;refine hK _ _ ?_;clear hK K;refine Zy (t:=false) rfl ?_;rw[if_neg (by simp)];refine Zw ?_;refine Zx [(13,.v (.int .i64 (↑(j+1))))] YK hnt fun K hK=>?_
      refine And.intro XR ?_;refine hK _ _ ?_;clear hK K
      refine⟨⟨j+1,hlt,fun i h h8 h3=>if hij:i=j then by subst hij;rw[hx,Au.okS,h1,decide_eq_true h2];rfl else hjo i h h8 (by omega)⟩,by first | omega | (dsimp only;omega),VS.toA⟩
     ·rw[hbad j hlt h8 (by rw[hx,Au.okS,h1,decide_eq_false h2];rfl)]
      refine Zz ?_;refine Zz ?_;refine Zx [(6,.v (.int .i64 (↑l.length))),(7,.v (.bool true)),(10,.v (.bool true))] YK hnt fun K hK=>?_;refine And.intro (Zq (by rw[ZG])) ?_;refine And.intro (ZZ (by omega)) ?_;refine And.intro (ZZ (by omega)) ?_;refine hK _ _ ?_;clear hK K;refine Zy (t:=true) rfl ?_;rw[if_pos rfl];refine Zw ?_;refine Zz ?_;refine Zt ?_
      refine Zz ?_;refine Zx [(16,.q [.v (.int .i64 x.eq),.v (.bool x.back),.sl 1 (Y4 x.path) none,.sl 5 (Z1 x.s) none]),(24,.q [.v (.int .i64 x.eq),.v (.bool x.back),.sl 1 (Y4 x.path) none,.sl 5 (Z1 x.s) none]),(27,.v (.int .i64 (↑x.path.length))),(28,.v (.bool true))] YK hnt fun K hK=>?_;refine And.intro (⟨by omega,by rw[ZG];omega⟩) ?_;refine And.intro (Zn.of_eq (by rw[Int.toNat_natCast,hgd])) ?_
      refine Ze (hf) ?_;refine And.intro (⟨by omega,by rw[ZG];omega⟩) ?_;refine And.intro (Zn.of_eq (by rw[Int.toNat_natCast,hgd])) ?_;refine And.intro (Zq (by rw[Zi])) ?_;refine And.intro (ZZ (by omega)) ?_;refine hK _ _ ?_;clear hK K;refine Zy (t:=true) rfl ?_;rw[if_pos rfl];refine Zz ?_;refine Zx [] YK hnt fun _ z9=>z9 _ _ ?_
      refine Zu ?_
      exact Zj rfl
   ·rw[hgood fun i h hi8=>hjo i h hi8 (by omega)]
    refine Zz ?_;refine Zz ?_;refine Zx [(6,.v (.int .i64 (↑l.length))),(7,.v (.bool true)),(10,.v (.bool false))] YK hnt fun K hK=>?_;refine And.intro (Zq (by rw[ZG])) ?_;refine And.intro (ZZ (by omega)) ?_;refine And.intro (Zf (by omega)) ?_;refine hK _ _ ?_;clear hK K;refine Zy (t:=false) rfl ?_;rw[if_neg (by simp)];refine Zc ?_;refine Zz ?_
    refine Zx [] YK hnt fun _ z9=>z9 _ _ ?_;refine Zu ?_
    exact Zj rfl
  ·rw[hgood fun i h hi8=>hjo i h hi8 (by omega)]
   refine Zz ?_;refine Zz ?_;refine Zx [(6,.v (.int .i64 (↑l.length))),(7,.v (.bool false))] YK hnt fun K hK=>?_;refine And.intro (Zq (by rw[ZG])) ?_;refine And.intro (Zf (by omega)) ?_;refine hK _ _ ?_;clear hK K;refine Zy (t:=false) rfl ?_;rw[if_neg (by simp)];refine Zc ?_;refine Zz ?_;refine Zx [] YK hnt fun _ z9=>z9 _ _ ?_
   refine Zu ?_
   exact Zj rfl
def TAUR_56:TI:=⟨1,false,[Value.slice none 0 0],[],some 74,24,5,none,false⟩
theorem Md:TypOk Tryz.prog 56 TAUR_56:=by constructor <;> kernel_rfl
def TAUR_74:TI:=⟨4,true,[Value.int IntKind.i64 0,Value.bool false,Value.slice none 0 0,Value.slice none 0 0],[(0,1,false),(1,1,false),(2,1,false),(3,1,false)],none,64,6,none,false⟩
theorem Mg:TypOk Tryz.prog 74 TAUR_74:=by constructor <;> kernel_rfl
def TAUR_3:TI:=⟨1,false,[Value.int IntKind.i64 0],[],none,8,2,none,false⟩
theorem Ge:TypOk Tryz.prog 3 TAUR_3:=by constructor <;> kernel_rfl
def TAUR_78:TI:=⟨1,false,[Value.slice none 0 0],[],some 86,24,5,none,false⟩
theorem Mh:TypOk Tryz.prog 78 TAUR_78:=by constructor <;> kernel_rfl
def TAUR_72:TI:=⟨1,false,[Value.slice none 0 0],[],some 130,24,5,none,false⟩
theorem Mf:TypOk Tryz.prog 72 TAUR_72:=by constructor <;> kernel_rfl
def TAUR_4:TI:=⟨1,false,[Value.bool false],[],none,1,1,none,false⟩
theorem Gf:TypOk Tryz.prog 4 TAUR_4:=by constructor <;> kernel_rfl
def TAUR_71:TI:=⟨1,false,[Value.slice none 0 0],[],some 3,24,5,none,false⟩
theorem Me:TypOk Tryz.prog 71 TAUR_71:=by constructor <;> kernel_rfl
def TAUR_86:TI:=⟨4,true,[Value.int IntKind.i64 0,Value.bool false,Value.slice none 0 0,Value.slice none 0 0],[(0,1,false),(1,1,false),(2,1,false),(3,1,false)],none,64,6,none,false⟩
theorem Mi:TypOk Tryz.prog 86 TAUR_86:=by constructor <;> kernel_rfl
def TAUR_130:TI:=⟨5,true,[Value.int IntKind.i64 0,Value.slice none 0 0,Value.int IntKind.i64 0,Value.int IntKind.i64 0,Value.slice none 0 0],[(0,1,false),(1,4,true)],none,72,6,none,false⟩
theorem QM:TypOk Tryz.prog 130 TAUR_130:=by constructor <;> kernel_rfl
def TAUR:List (Nat×TI):=[(56,TAUR_56),(74,TAUR_74),(3,TAUR_3),(78,TAUR_78),(72,TAUR_72),(4,TAUR_4),(71,TAUR_71),(86,TAUR_86),(130,TAUR_130)]
theorem XQ:Zh Tryz.prog TAUR:=((((((((((Zh.nil _).cons QM).cons Mi).cons Me).cons Gf).cons Mf).cons Mh).cons Ge).cons Mg).cons Md)
namespace Au
def cut (x:St):St:=⟨x.eq,x.back,x.path,x.s.take 10⟩
end Au
theorem S3 (l:List Au.St)(x:Au.St):Y2 l++[[.v (.int .i64 x.eq),.v (.bool x.back),.sl 1 (Y4 x.path) none,.sl 5 (Z1 x.s) none]]=Y2 (l++[x]):=by
 rw[Y2,Y2,List.map_append,List.map_cons,List.map_nil];rfl
set_option maxHeartbeats 4000000 in
theorem DT (l:List Au.St)(hl:l.length≤9223372036854775807)(hs:∀ x∈l.take 8,x.s.length≤9223372036854775807∧(∀ p∈x.s.take 10,p.2.full≤900000)):Zd Tryz.prog 25 [.sl 4 (Y2 l) none] (.sl 4 (Y2 ((l.take 8).map Au.cut)) none):=by
 have hm:∀ i (h:i<l.length),i<8→l[i]∈l.take 8:=fun i h h8=>by
  rw[List.mem_iff_getElem]
  exact⟨i,by rw[List.length_take];omega,by rw[List.getElem_take]⟩
 obtain⟨O,hO⟩:∃ O:Nat→List Au.St,∀ j,(l.take j).map Au.cut=O j:=⟨_,fun _=>rfl⟩
 have hO0:O 0=[]:=by rw[←hO];rfl
 have hOn:∀ j (h:j<l.length),O j++[Au.cut l[j]]=O (j+1):=fun j h=>by rw[←hO,←hO,List.take_add_one,List.getElem?_eq_getElem h,List.map_append];rfl
 have hOl:∀ j,j≤l.length→(O j).length=j:=fun j h=>by rw[←hO,List.length_map,List.length_take];omega
 refine Zm 0 41 [ResultVar.tmp 2] XQ Tryz.func25 rfl Tryz.ntmps25 rfl fun cx hnt hn0=>?_
 ·skip
  refine Zz ?_;refine Zx [] XQ hnt fun _ z9=>z9 _ _ ?_;refine Zz ?_;refine Zx [] XQ hnt fun _ z9=>z9 _ _ ?_
  refine DW.vs (VS.rowT (x:=3) (by rw[hnt];decide) 86 4 rfl) ?_
  refine Zz ?_;refine Zz ?_;refine Zx [] XQ hnt fun _ z9=>z9 _ _ ?_;refine Zt ?_
  refine Z4 (ι:={ j:Nat // j≤l.length∧j≤8 }) (fun j=>[(.t 0,.sl 4 (Y2 l) none),(.t 3,.sl 4 (Y2 (O j.1)) (some 2)),(.r 2,.rw 86 4 (O j.1).length),(.t 4,.v (.int .i64 ↑j.1))]) 20 (fun j=>l.length-j.1) (⟨0,Nat.zero_le _,Nat.zero_le _⟩) ((by dsimp only;rw[hO0];exact VS.toA)) fun j=>?_
  obtain⟨j,hj,hj8⟩:=j
  dsimp only
  by_cases hlt:j<l.length
  ·by_cases h8:j<8
   ·obtain⟨x,hx⟩:∃ x,l[j]=x:=⟨_,rfl⟩
    have hgd:(Y2 l).getD j []=[.v (.int .i64 x.eq),.v (.bool x.back),.sl 1 (Y4 x.path) none,.sl 5 (Z1 x.s) none]:=by rw[V7 l j hlt,hx];rfl
    have hxs:=hs x (hx ▸ hm j hlt h8)
    have hf:=Aj x.s hxs.1 hxs.2
    have hsn:=S3 (O j) (Au.cut x)
    rw[←hx,hOn j hlt,hx] at hsn
    have hsn:Y2 (O j)++[[.v (.int .i64 x.eq),.v (.bool x.back),.sl 1 (Y4 x.path) none,.sl 5 (Z1 (x.s.take 10)) none]]=Y2 (O (j+1)):=hsn
    have hl1:(Y2 (O j)).length=(O j).length:=ZG _
    have hl3:=hOl j hj
    have hl2:(Y2 (O (j+1))).length=(O (j+1)).length:=ZG _
    refine Zz ?_;refine Zz ?_;refine Zx [(7,.v (.int .i64 (↑l.length))),(8,.v (.bool true)),(11,.v (.bool true))] XQ hnt fun K hK=>?_;refine And.intro (Zq (by rw[ZG])) ?_;refine And.intro (ZZ (by omega)) ?_;refine And.intro (ZZ (by omega)) ?_;refine hK _ _ ?_;clear hK K;refine Zy (t:=true) rfl ?_;rw[if_pos rfl];refine Zw ?_;refine Zz ?_;refine Zt ?_
    refine ZP [(18,.q [.v (.int .i64 x.eq),.v (.bool x.back),.sl 1 (Y4 x.path) none,.sl 5 (Z1 x.s) none]),(23,.q [.v (.int .i64 x.eq),.v (.bool x.back),.sl 1 (Y4 x.path) none,.sl 5 (Z1 x.s) none]),(28,.q [.v (.int .i64 x.eq),.v (.bool x.back),.sl 1 (Y4 x.path) none,.sl 5 (Z1 x.s) none]),(33,.q [.v (.int .i64 x.eq),.v (.bool x.back),.sl 1 (Y4 x.path) none,.sl 5 (Z1 x.s) none])] XQ hnt fun K hK=>?_
    refine And.intro (⟨by omega,by rw[ZG];omega⟩) ?_;refine And.intro (Zn.of_eq (by rw[Int.toNat_natCast,hgd])) ?_;refine And.intro (⟨by omega,by rw[ZG];omega⟩) ?_;refine And.intro (Zn.of_eq (by rw[Int.toNat_natCast,hgd])) ?_;refine And.intro (⟨by omega,by rw[ZG];omega⟩) ?_;refine And.intro (Zn.of_eq (by rw[Int.toNat_natCast,hgd])) ?_;refine And.intro (⟨by omega,by rw[ZG];omega⟩) ?_
    refine And.intro (Zn.of_eq (by rw[Int.toNat_natCast,hgd])) ?_;refine Ze (hf) ?_;refine And.intro (⟨by omega,by rw[hl1];simp;omega⟩) ?_;refine hK _ _ (by kernel_rfl) ?_;clear hK K
    rw[hsn,hl2]
    refine Zx [(14,.v (.int .i64 (↑(j+1))))] XQ hnt fun K hK=>?_;refine And.intro XR ?_;refine hK _ _ ?_;clear hK K
    refine⟨⟨j+1,hlt,h8⟩,by first | omega | (dsimp only;omega),VS.toA⟩
   ·have h8e:j=8:=by omega
    subst h8e
    rw[hO]
    refine Zz ?_;refine Zz ?_;refine Zx [(7,.v (.int .i64 (↑l.length))),(8,.v (.bool true)),(11,.v (.bool false))] XQ hnt fun K hK=>?_;refine And.intro (Zq (by rw[ZG])) ?_;refine And.intro (ZZ (by omega)) ?_;refine And.intro (Zf (by omega)) ?_;refine hK _ _ ?_;clear hK K;refine Zy (t:=false) rfl ?_;rw[if_neg (by simp)];refine Zc ?_;refine Zz ?_
    refine Zx [] XQ hnt fun _ z9=>z9 _ _ ?_;refine Zu ?_
    exact Zj rfl
  ·have hje:j=l.length:=by omega
   rw[show l.take 8=l.take j by rw[List.take_of_length_le (by omega),hje,List.take_length],hO]
   refine Zz ?_;refine Zz ?_;refine Zx [(7,.v (.int .i64 (↑l.length))),(8,.v (.bool false))] XQ hnt fun K hK=>?_;refine And.intro (Zq (by rw[ZG])) ?_;refine And.intro (Zf (by omega)) ?_;refine hK _ _ ?_;clear hK K;refine Zy (t:=false) rfl ?_;rw[if_neg (by simp)];refine Zc ?_;refine Zz ?_;refine Zx [] XQ hnt fun _ z9=>z9 _ _ ?_
   refine Zu ?_
   exact Zj rfl
end Go.Proofs.YtclihnccilkohaaGreat
namespace Go.Proofs.YtclihnccilkohaaGreat
open Go.RowKit Go.ChangeShapes Go.WideShapes Go.ChangeAt
theorem P4 {α:Type}{r:Rp α}{F:Nat→Prop}{w:World}{v:Value}{l:List α}(h:Yd r F w v l):v.oneCell'=true:=by
 obtain⟨a,c,bl,off,X,rfl,_⟩:=h;rfl
def Fs:Rp Li.Pr where
 n:=9
 R:=fun F w x p=>∃ v1 v2 v3 v4 v5 v6 v7 v8 v9,x=[v1,v2,v3,v4,v5,v6,v7,v8,v9]∧Za2 F w v1 v2 v3 v4 v5 v6 v7 v8 v9 p
 len:=fun⟨_,_,_,_,_,_,_,_,_,e,_⟩=>by rw[e];rfl
 one:=fun⟨b,k,i,a,b',k',i',a',v9,e,h⟩ v hv=>by
  have h1:=VZ.one (F:=_) (w:=_) (x:=[b,k,i,a]) (a:=_) ⟨b,k,i,a,rfl,h.l⟩
  have h2:=VZ.one (F:=_) (w:=_) (x:=[b',k',i',a']) (a:=_) ⟨b',k',i',a',rfl,h.r⟩
  rw[e] at hv
  have:v∈[b,k,i,a]∨v∈[b',k',i',a']∨v=v9:=by simpa[or_assoc] using hv
  rcases this with hv | hv | rfl
  ·exact h1 v hv
  ·exact h2 v hv
  ·exact P4 h.m
 keep:=fun⟨b,k,i,a,b',k',i',a',v9,e,h⟩ hk=>⟨b,k,i,a,b',k',i',a',v9,e,⟨h.l.keep hk,h.r.keep hk,h.m.keep hk⟩⟩
 weaken:=fun⟨b,k,i,a,b',k',i',a',v9,e,h⟩ hf=>⟨b,k,i,a,b',k',i',a',v9,e,⟨h.l.weaken hf,h.r.weaken hf,h.m.weaken (by decide) hf⟩⟩
set_option maxRecDepth 100000 in
theorem Aa {H:Type}(enc:TypeId×Value→H)(W:World)(base:Nat)(sp:Nat→Bool)(hd:Bool):∀ n,Rd enc W base sp hd 33 Fs (fun _ p=>p.l.Fit∧p.r.Fit) n:=by
 intro n cs x h
 obtain⟨xs,m,rfl,rfl,hl,hlen,hf⟩:=DataW.trod_struct Tryz.underlying33 h
 rw[Qi] at hl
 obtain⟨v0,v1,v2,v3,v4,v5,v6,v7,v8,rfl⟩:=DF hl
 have h0:DataW.trod enc Tryz.prog W base sp hd m 31 ([v0,v1,v2,v3,v4,v5,v6,v7,v8].take (Tryz.prog.cellsOf 31))=xs[0]?:=hf 0 _ rfl
 have h1:DataW.trod enc Tryz.prog W base sp hd m 31 ([v4,v5,v6,v7,v8].take (Tryz.prog.cellsOf 31))=xs[1]?:=hf 1 _ rfl
 have h2:DataW.trod enc Tryz.prog W base sp hd m 22 ([v8].take (Tryz.prog.cellsOf 22))=xs[2]?:=hf 2 _ rfl
 rw[V8] at h0 h1
 rw[UA] at h2
 have hlen:xs.length=3:=hlen
 rw[List.getElem?_eq_getElem (by omega)] at h0 h1 h2
 obtain⟨t,⟨b,k,j,a,hx,ht⟩,hfit⟩:=rdM enc W base sp hd m _ _ h0
 obtain⟨t',⟨b',k',j',a',hx',ht'⟩,hfit'⟩:=rdM enc W base sp hd m _ _ h1
 obtain⟨ma,mn,mc,M,hmv,_,hM,_⟩:=YB Tryz.underlying22 UX (by decide) (fun j hj=>rdR enc W base sp hd j) h2
 have e0:[v0,v1,v2,v3]=[b,k,j,a]:=hx
 have e1:[v4,v5,v6,v7]=[b',k',j',a']:=hx'
 have e2:[v8]=[.slice ma mn mc]:=hmv
 simp only[List.cons.injEq,and_true] at e0 e1 e2
 obtain⟨rfl,rfl,rfl,rfl⟩:=e0
 obtain⟨rfl,rfl,rfl,rfl⟩:=e1
 subst e2
 exact⟨⟨t,t',M⟩,⟨_,_,_,_,_,_,_,_,_,rfl,⟨ht,ht',hM⟩⟩,hfit,hfit'⟩
theorem DN {m:Mp}{w:World}{F:Nat→Prop}{v:Value}{l:List Li.Pr}(h:Yd Fs F w v l):ZD m (VQ F w) w v (.sl 9 (Yp l) none):=by
 have e:∀ p,VG p=eTm p.l++(eTm p.r++[.sl 2 (eTys p.m) none]):=fun p=>by rw[Zv,Zv];rfl
 have:=X4 (m:=m) (r:=Fs) (e:=VG) XV (fun p=>by rw[e,Zv,Zv];rfl) (fun x p hx=>by
  obtain⟨v1,v2,v3,v4,v5,v6,v7,v8,v9,rfl,h⟩:=hx
  rw[e]
  exact(Vd XV p.l h.l).append ((Vd XV p.r h.r).append ⟨PY h.m,trivial⟩)) h
 exact this
def Za7:Rp Au.St where
 n:=4
 R:=fun F w x s=>∃ pv sv,x=[.int .i64 s.eq,.bool s.back,pv,sv]∧Yd Ae F w pv s.path∧Yd Fv F w sv s.s
 len:=fun⟨_,_,e,_⟩=>by rw[e];rfl
 one:=fun⟨pv,sv,e,h1,h2⟩ v hv=>by
  rw[e] at hv
  simp only[List.mem_cons,List.not_mem_nil,or_false] at hv
  rcases hv with rfl | rfl | rfl | rfl
  ·rfl
  ·rfl
  ·exact P4 h1
  ·exact P4 h2
 keep:=fun⟨pv,sv,e,h1,h2⟩ hk=>⟨pv,sv,e,h1.keep hk,h2.keep hk⟩
 weaken:=fun⟨pv,sv,e,h1,h2⟩ hf=>⟨pv,sv,e,h1.weaken (by decide) hf,h2.weaken (by decide) hf⟩
theorem Cb:Tryz.prog.cellsOf 74=4:=by kernel_rfl
theorem C1:Tryz.prog.cellsOf 4=1:=by kernel_rfl
theorem Ca:Tryz.prog.cellsOf 71=1:=by kernel_rfl
theorem C0:Tryz.prog.cellsOf 72=1:=by kernel_rfl
theorem Er {α:Type}{cs:List α}(h:cs.length=4):∃ a b c d,cs=[a,b,c,d]:=by
 match cs,h with
 | [a,b,c,d],_=>exact⟨a,b,c,d,rfl⟩
set_option maxRecDepth 100000 in
theorem Za8 {H:Type}(enc:TypeId×Value→H)(W:World)(base:Nat)(sp:Nat→Bool)(hd:Bool):∀ n,Rd enc W base sp hd 74 Za7 (fun _ x=>x.path.length≤9223372036854775807∧x.s.length≤9223372036854775807∧∀ q∈x.s,q.2.Fit) n:=by
 intro n cs x h
 obtain⟨xs,m,rfl,rfl,hl,hlen,hf⟩:=DataW.trod_struct Tryz.underlying74 h
 rw[Cb] at hl
 obtain⟨v0,v1,v2,v3,rfl⟩:=Er hl
 have h0:DataW.trod enc Tryz.prog W base sp hd m 3 ([v0,v1,v2,v3].take (Tryz.prog.cellsOf 3))=xs[0]?:=hf 0 _ rfl
 have h1:DataW.trod enc Tryz.prog W base sp hd m 4 ([v1,v2,v3].take (Tryz.prog.cellsOf 4))=xs[1]?:=hf 1 _ rfl
 have h2:DataW.trod enc Tryz.prog W base sp hd m 71 ([v2,v3].take (Tryz.prog.cellsOf 71))=xs[2]?:=hf 2 _ rfl
 have h3:DataW.trod enc Tryz.prog W base sp hd m 72 ([v3].take (Tryz.prog.cellsOf 72))=xs[3]?:=hf 3 _ rfl
 rw[WV] at h0
 rw[C1] at h1
 rw[Ca] at h2
 rw[C0] at h3
 have hlen:xs.length=4:=hlen
 rw[List.getElem?_eq_getElem (by omega)] at h0 h1 h2 h3
 obtain⟨i,hi,_,_⟩:=DataW.trod_int Tryz.underlying3 h0
 obtain⟨bo,hb,_⟩:=DataW.trod_bool Tryz.underlying4 h1
 obtain⟨pa,pn,pc,P,hpv,_,hP,_⟩:=YB Tryz.underlying71 WV (by decide) (fun j hj=>rdI enc W base sp hd j) h2
 obtain⟨sa,sn,sc,S,hsv,_,hS,hSf⟩:=YB Tryz.underlying72 S9 (by decide) (fun j hj=>Za9 enc W base sp hd j) h3
 have e0:[v0]=[.int .i64 i]:=hi
 have e1:[v1]=[.bool bo]:=hb
 have e2:[v2]=[.slice pa pn pc]:=hpv
 have e3:[v3]=[.slice sa sn sc]:=hsv
 simp only[List.cons.injEq,and_true] at e0 e1 e2 e3
 subst e0 e1 e2 e3
 exact⟨⟨i,bo,P,S⟩,⟨_,_,rfl,hP,hS⟩,hP.len1,hS.len1,fun q hq=>(Te (d:=xs[3].1) (Q:=fun(q:Int×Tm)=>q.2.Fit∧-9223372036854775808≤q.1∧q.1≤9223372036854775807) hSf q hq).1⟩
structure Za1 (F:Nat→Prop) (w:World) (v3 v4:Value) (x:Au.St):Prop where
 p:Yd Ae F w v3 x.path
 s:Yd Fv F w v4 x.s
set_option maxRecDepth 100000 in
theorem Bj {H:Type}{enc:TypeId×Value→H}{W:World}{base:Nat}{sp:Nat→Bool}{hd:Bool}{r:Reach}{b0:Nat}{v:Value}{d:DataW H}{p:List MemPlace} 
  (hval:Value.okWide Tryz.prog W r b0 74 v) (h:DataW.Trod enc Tryz.prog W base sp hd 74 v d p) :
  ∃ v3 v4 x,v=.agg #[.int .i64 x.eq,.bool x.back,v3,v4]∧Za1 (fun _=>True) W v3 v4 x∧(x.path.length≤9223372036854775807∧x.s.length≤9223372036854775807∧∀ q∈x.s,q.2.Fit):=by
 obtain⟨n,h⟩:=h
 obtain⟨x,⟨pv,sv,hx,h1,h2⟩,hf⟩:=Za8 enc W base sp hd n _ _ h
 obtain⟨cs,rfl,_⟩:=okWide_struct Tryz.underlying74 hval
 refine⟨pv,sv,x,?_,⟨h1,h2⟩,hf⟩
 have:cs.toList=[.int .i64 x.eq,.bool x.back,pv,sv]:=hx
 rw[←Array.toList_inj.1 (show cs.toList=(#[.int .i64 x.eq,.bool x.back,pv,sv]:Array Value).toList from this)]
theorem Ab {m:Mp}{w:World}{F:Nat→Prop}{v3 v4:Value}{x:Au.St}(h:Za1 F w v3 v4 x):ZD m (VQ F w) w (.agg #[.int .i64 x.eq,.bool x.back,v3,v4]) (.ag (SB x)):=
 XY.2 ⟨[.int .i64 x.eq,.bool x.back,v3,v4],rfl,.v _,.v _,DM h.p,Fe h.s,trivial⟩
end Go.Proofs.YtclihnccilkohaaGreat
namespace Go.Proofs.YtclihnccilkohaaGreat
open Go.RowKit
def TRUP_31:TI:=⟨4,true,[Value.slice none 0 0,Value.int IntKind.i64 0,Value.int IntKind.i64 0,Value.slice none 0 0],[(0,1,false),(1,2,true),(3,1,false)],none,64,6,none,false⟩
theorem OS:TypOk Tryz.prog 31 TRUP_31:=by constructor <;> kernel_rfl
def TRUP_3:TI:=⟨1,false,[Value.int IntKind.i64 0],[],none,8,2,none,false⟩
theorem I5:TypOk Tryz.prog 3 TRUP_3:=by constructor <;> kernel_rfl
def TRUP_29:TI:=⟨1,false,[Value.slice none 0 0],[],some 31,24,5,none,false⟩
theorem OR:TypOk Tryz.prog 29 TRUP_29:=by constructor <;> kernel_rfl
def TRUP_28:TI:=⟨2,true,[Value.int IntKind.i64 0,Value.int IntKind.i64 0],[(0,1,false),(1,1,false)],none,16,6,none,true⟩
theorem OQ:TypOk Tryz.prog 28 TRUP_28:=by constructor <;> kernel_rfl
def TRUP_22:TI:=⟨1,false,[Value.slice none 0 0],[],some 104,24,5,none,false⟩
theorem OP:TypOk Tryz.prog 22 TRUP_22:=by constructor <;> kernel_rfl
def TRUP_104:TI:=⟨2,true,[Value.slice none 0 0,Value.int IntKind.i64 0],[(0,1,false),(1,1,false)],none,32,6,none,false⟩
theorem Qc:TypOk Tryz.prog 104 TRUP_104:=by constructor <;> kernel_rfl
def TRUP:List (Nat×TI):=[(31,TRUP_31),(3,TRUP_3),(29,TRUP_29),(28,TRUP_28),(22,TRUP_22),(104,TRUP_104)]
theorem Y7:Zh Tryz.prog TRUP:=(((((((Zh.nil _).cons Qc).cons OP).cons OQ).cons OR).cons I5).cons OS)
set_option maxHeartbeats 4000000 in
theorem Bw:∀ (t:Tm) (_:ZB t) (B:Nat) (_:Bnd B t) (y ins:Int) (_:0≤ins∧ins+(t.full:Int)≤4000000000000000000),Zd Tryz.prog 134 [.ag (eTm t),.v (.int .i64 y),.v (.int .i64 0),.v (.int .i64 ins)] (.ag (eTm (Nm.lift y t ins))):=by
 intro t
 induction t using Tm.ind with
 | h bs k i a ih=>
 intro hw B hB y ins hins
 obtain⟨w1,w2,w3⟩:=hw.inv
 obtain⟨b1,b2,b3⟩:=hB.inv
 rw[Tm.full_eq] at hins
 have hls:=Ty.le_sizes bs
 have hm:IntKind.i64.wrap (ins+(bs.length:Int))=ins+(bs.length:Int):=IntWalk.i64_in _ (by omega)
 obtain⟨m,hmm⟩:∃ m,ins+(bs.length:Int)=m:=⟨_,rfl⟩
 rw[hmm] at hm
 obtain⟨i',hi'⟩:∃ i',(if k=0∧m≤i then IntKind.i64.wrap (i+y) else i)=i':=⟨_,rfl⟩
 have hL:Nm.lift y (.mk bs k i a) ins=.mk bs k i' (Nm.lifts y a m):=by rw[Nm.lift_eq,Yh,Yh,hmm,hm,hi']
 rw[hL]
 have hih:=fun j (h:j<a.length)=>ih a[j] (List.getElem_mem h) (w3 _ (List.getElem_mem h)) B (b3 _ (List.getElem_mem h)) y m (by
  have:=Tm.full_mem (List.getElem_mem h)
  omega)
 obtain⟨O,hO⟩:∃ O:Nat→List Tm,∀ j,Nm.lifts y (a.take j) m=O j:=⟨_,fun _=>rfl⟩
 have hO0:O 0=[]:=by rw[←hO];rfl
 have hOn:∀ j (h:j<a.length),O j++[Nm.lift y a[j] m]=O (j+1):=fun j h=>by rw[←hO,←hO,List.take_add_one,List.getElem?_eq_getElem h,Nm.lifts_map,Nm.lifts_map,List.map_append];rfl
 have hOl:∀ j,j≤a.length→(O j).length=j:=fun j h=>by rw[←hO,Nm.lifts_map,List.length_map,List.length_take];omega
 have hOm:O a.length=Nm.lifts y a m:=by rw[←hO,List.take_length]
 rw[←hOm,Zv,Zv]
 simp only[Zv] at hih
 have hm':IntKind.i64.wrap (ins+(bs.length:Int))=m:=by rw[hmm];exact hm
 dsimp only[Tm.binds,Tm.kind,Tm.index,Tm.args]
 refine Zm 0 71 [ResultVar.cell 8 31] Y7 Tryz.func134 rfl Tryz.ntmps134 rfl fun cx hnt hn0=>?_
 ·skip
  refine Zz ?_;refine Zx [] Y7 hnt fun _ z9=>z9 _ _ ?_;refine Zz ?_;refine Zx [(15,.v (.int .i64 (↑bs.length))),(16,.v (.int .i64 (m)))] Y7 hnt fun K hK=>?_;refine And.intro (Zq (by rw[Zr])) ?_;refine And.intro (Zq (by exact hm')) ?_;refine hK _ _ ?_;clear hK K;refine Zz ?_;refine Zx [] Y7 hnt fun _ z9=>z9 _ _ ?_
  refine XW (τ:=[(.t 1,.v (.int .i64 y)),(.t 2,.v (.int .i64 0)),(.t 4,.p 0 0),(.t 8,.p 1 0),(.t 9,.v (.int .i64 m)),(.t 10,.p 13 0),(.c 0 0,.sl 2 (eTys bs) none),(.c 0 1,.v (.int .i64 k)),(.c 0 2,.v (.int .i64 i)),(.c 0 3,.sl 4 (eTms a) none),(.c 1 0,.v (.slice none 0 0)),(.c 1 1,.v (.int .i64 0)),(.c 1 2,.v (.int .i64 0)),(.c 1 3,.v (.slice none 0 0)),(.c 13 0,.sl 2 (eTys bs) none),(.c 13 1,.v (.int .i64 k)),(.c 13 2,.v (.int .i64 i')),(.c 13 3,.v (.slice none 0 0))]) (N1:=15) ?_ ?_
  ·by_cases hk:k=0
   ·by_cases hmi:m≤i
    ·rw[if_pos ⟨hk,hmi⟩] at hi';refine Zz ?_;refine Zx [(25,.v (.bool true)),(31,.v (.int .i64 ((i-m)))),(33,.v (.bool true)),(40,.v (.bool true))] Y7 hnt fun K hK=>?_;refine And.intro (Zn.of_eq (by simp[hk])) ?_;refine And.intro (Zq (by exact IntWalk.i64_in _ (by omega))) ?_;refine And.intro (ZZ (by omega)) ?_;refine And.intro (ZZ (by omega)) ?_;refine hK _ _ ?_;clear hK K
     refine Zy (t:=true) rfl ?_;rw[if_pos rfl];refine Zx [(46,.v (.int .i64 (i')))] Y7 hnt fun K hK=>?_;refine And.intro (Zq (by exact hi')) ?_;refine hK _ _ ?_;clear hK K
     exact Ym VS.toA
    ·rw[if_neg (fun h=>hmi h.2)] at hi'
     subst hi'
     obtain⟨d,hd⟩:∃ d,IntKind.i64.wrap (i-m)=d:=⟨_,rfl⟩
     by_cases h0:d≥0
     ·skip
      refine Zz ?_;refine Zx [(25,.v (.bool true)),(31,.v (.int .i64 (d))),(33,.v (.bool true)),(40,.v (.bool false))] Y7 hnt fun K hK=>?_;refine And.intro (Zn.of_eq (by simp[hk])) ?_;refine And.intro (Zq (by exact hd)) ?_;refine And.intro (ZZ h0) ?_;refine And.intro (Zf (by omega)) ?_;refine hK _ _ ?_;clear hK K;refine Zy (t:=false) rfl ?_;rw[if_neg (by simp)]
      refine Zw ?_
      exact Ym VS.toA
     ·skip
      refine Zz ?_;refine Zx [(25,.v (.bool true)),(31,.v (.int .i64 (d))),(33,.v (.bool false))] Y7 hnt fun K hK=>?_;refine And.intro (Zn.of_eq (by simp[hk])) ?_;refine And.intro (Zq (by exact hd)) ?_;refine And.intro (Zf h0) ?_;refine hK _ _ ?_;clear hK K;refine Zy (t:=false) rfl ?_;rw[if_neg (by simp)];refine Zw ?_
      exact Ym VS.toA
   ·rw[if_neg (fun h=>hk h.1)] at hi'
    subst hi'
    refine Zz ?_;refine Zx [(25,.v (.bool false))] Y7 hnt fun K hK=>?_;refine And.intro (Zn.of_eq (by simp[hk])) ?_;refine hK _ _ ?_;clear hK K;refine Zy (t:=false) rfl ?_;rw[if_neg (by simp)];refine Zw ?_
    exact Ym VS.toA
  ·refine DW.vs (VS.row (k:=13) (off:=3) 31 4 rfl) ?_
   refine Zz ?_;refine Zz ?_;refine Zx [] Y7 hnt fun _ z9=>z9 _ _ ?_;refine Zt ?_
   refine Z4 (ι:={ j:Nat // j≤a.length }) (fun j=>[(.t 11,.v (.int .i64 ↑j.1)),(.t 1,.v (.int .i64 y)),(.t 2,.v (.int .i64 0)),(.t 4,.p 0 0),(.t 8,.p 1 0),(.t 9,.v (.int .i64 m)),(.t 10,.p 13 0),(.c 0 0,.sl 2 (eTys bs) none),(.c 0 1,.v (.int .i64 k)),(.c 0 2,.v (.int .i64 i)),(.c 0 3,.sl 4 (eTms a) none),(.c 1 0,.v (.slice none 0 0)),(.c 1 1,.v (.int .i64 0)),(.c 1 2,.v (.int .i64 0)),(.c 1 3,.v (.slice none 0 0)),(.c 13 0,.sl 2 (eTys bs) none),(.c 13 1,.v (.int .i64 k)),(.c 13 2,.v (.int .i64 i')),(.c 13 3,.sl 4 (eTms (O j.1)) (some 15)),(.r 15,.rw 31 4 (O j.1).length)]) 17 (fun j=>a.length-j.1) (⟨0,Nat.zero_le _⟩) ((by dsimp only;rw[hO0];exact VS.toA)) fun j=>?_
   obtain⟨j,hj⟩:=j
   dsimp only
   by_cases hlt:j<a.length
   ·have ht:=hih j hlt
    have hsn:eTms (O j)++[[.sl 2 (eTys (Nm.lift y a[j] m).binds) none,.v (.int .i64 (Nm.lift y a[j] m).kind),.v (.int .i64 (Nm.lift y a[j] m).index),.sl 4 (eTms (Nm.lift y a[j] m).args) none]]=eTms (O (j+1)):=by rw[←hOn j hlt,YV,eTms,eTms,Zv (Nm.lift y a[j] m)]
    have hl1:(eTms (O j)).length=(O j).length:=Zs _
    have hl3:=hOl j hj
    have hl2:(eTms (O (j+1))).length=(O (j+1)).length:=Zs _
    refine Zz ?_;refine Zz ?_;refine Zx [(52,.v (.int .i64 (↑a.length))),(53,.v (.bool true))] Y7 hnt fun K hK=>?_;refine And.intro (Zq (by rw[Zs])) ?_;refine And.intro (ZZ (by omega)) ?_;refine hK _ _ ?_;clear hK K;refine Zy (t:=true) rfl ?_;rw[if_pos rfl];refine Zw ?_;refine Zz ?_;refine Zt ?_;refine ZP [(61,.q [.sl 2 (eTys a[j].binds) none,.v (.int .i64 a[j].kind),.v (.int .i64 a[j].index),.sl 4 (eTms a[j].args) none])] Y7 hnt fun K hK=>?_
    refine And.intro (Xg (Zs a)) ?_;refine And.intro (Xh (ZX a j) (Zv _)) ?_;refine Ze (ht) ?_;refine And.intro (⟨by omega,by rw[hl1];simp;omega⟩) ?_;refine hK _ _ (by kernel_rfl) ?_;clear hK K
    rw[hsn,hl2]
    refine Zx [(55,.v (.int .i64 (↑(j+1))))] Y7 hnt fun K hK=>?_;refine And.intro XR ?_;refine hK _ _ ?_;clear hK K
    refine⟨⟨j+1,hlt⟩,by first | omega | (dsimp only;omega),VS.toA⟩
   ·have hje:j=a.length:=by omega
    subst hje
    refine Zz ?_;refine Zz ?_;refine Zx [(52,.v (.int .i64 (↑a.length))),(53,.v (.bool false))] Y7 hnt fun K hK=>?_;refine And.intro (Zq (by rw[Zs])) ?_;refine And.intro (Zf (by omega)) ?_;refine hK _ _ ?_;clear hK K;refine Zy (t:=false) rfl ?_;rw[if_neg (by simp)];refine Zc ?_;refine Zz ?_;refine Zx [(70,.ag [.sl 2 (eTys bs) none,.v (.int .i64 k),.v (.int .i64 i'),.sl 4 (eTms (O a.length)) none])] Y7 hnt fun K hK=>?_
    refine And.intro (Xl) ?_;refine hK _ _ ?_;clear hK K;refine Zu ?_
    exact Zj rfl
theorem Fz (t:Tm)(hw:ZB t)(B:Nat)(hB:Bnd B t)(y:Int)(hf:t.full≤1000000000000000):Zd Tryz.prog 117 [.ag (eTm t),.v (.int .i64 y),.v (.int .i64 0)] (.ag (eTm (Nm.lift y t 0))):=by
 have h:=Bw t hw B hB y 0 (by omega)
 rw[Zv,Zv] at h ⊢
 refine Zm 0 11 [ResultVar.cell 6 31] Y7 Tryz.func117 rfl Tryz.ntmps117 rfl fun cx hnt hn0=>?_
 ·skip
  refine Zz ?_;refine Zx [] Y7 hnt fun _ z9=>z9 _ _ ?_;refine Zz ?_;refine Zx [] Y7 hnt fun K hK=>?_;refine Ze (h) ?_;refine hK _ _ ?_;clear hK K;refine Zu ?_
  exact Zj rfl
theorem Jf:∀ (B:Nat) (t:Tm),Bnd B t→∀ ins:Int,Nm.lift 0 t ins=t:=by
 intro B t
 induction t using Tm.ind with
 | h b k i a ih=>
  intro h ins
  obtain⟨h1,h2,h3⟩:=h.inv
  rw[Nm.lift_eq,Nm.lifts_map]
  congr 1
  ·split
   ·rw[Int.add_zero,Yh];exact IntWalk.i64_in _ (by omega)
   ·rfl
  ·refine(List.map_congr_left fun u hu=>ih u hu (h3 u hu) _).trans (List.map_id _)
theorem Fk (t:Tm)(hw:ZB t)(B:Nat)(hB:Bnd B t)(y:Int)(hf:t.full≤1000000000000000):Zd Tryz.prog 117 [.ag (eTm t),.v (.int .i64 y),.v (.int .i64 0)] (.ag (eTm (Nm.grown t y))):=by
 unfold Nm.grown
 by_cases h:y=0
 ·subst h
  rw[if_pos rfl]
  have:=Fz t hw B hB 0 hf
  rwa [Jf B t hB] at this
 ·rw[if_neg h];exact Fz t hw B hB y hf
namespace Rn
open Go.Proofs.YtclihnccilkohaaGreat.Nm
def dc (s:Nm.St):Int:=if s.e=2∨s.e=11 then s.count-1 else s.count
def Dr (s:Nm.St):Prop:=s.e=0→s.dry=false
def ez (p:Tm×Nm.St):Tm:=if p.2.e≠0 then tz else p.1
theorem ez_ok {p:Tm×Nm.St}(h:p.2.e=0):ez p=p.1:=by unfold ez;rw[if_neg (fun h'=>h' h)]
theorem ez_no {p:Tm×Nm.St}(h:p.2.e≠0):ez p=tz:=by unfold ez;rw[if_pos h]
theorem unit_e {s:Nm.St}(h:s.e≠0):unit s=(false,s):=by unfold unit;rw[if_pos h]
theorem through_e (f:Nat)(xs:List Tm)(n:Nat)(t:Tm)(ins:Int){s:Nm.St}(h:s.e≠0):through f xs n t ins s=(tz,s):=by
 cases f with
 | zero=>rfl
 | succ f=>
  unfold through
  dsimp only
  rw[unit_e h,if_neg (by simp)]
theorem seqM_e {g:Tm→Nm.St→Tm×Nm.St}(hg:∀ t s,s.e≠0→(g t s).2=s):∀ (l:List Tm) {s:Nm.St},s.e≠0→(seqM g l s).2=s
 | [],_,_=>rfl
 | t :: l,s,h=>by
  show (seqM g l (g t s).2).2=s
  rw[hg t s h];exact seqM_e hg l h
theorem fail_e {s:Nm.St}(h:s.e≠0)(c:Int):fail s c=s:=by unfold fail;rw[if_neg h]
theorem hit_e (thr:Thr)(xs:List Tm)(n:Nat)(t:Tm)(ins:Int)(args:List Tm){s:Nm.St}(h:s.e≠0):(hit thr xs n t ins args s).2=s:=by
 unfold hit
 dsimp only
 repeat' split
 ·rfl
 ·rfl
 ·rfl
 ·exact fail_e h 1
 ·unfold putW;rw[if_pos (.inl h)];exact fail_e h 1
theorem unit_dr {s:Nm.St}(h:Dr s):Dr (unit s).2:=by
 unfold unit
 by_cases he:s.e≠0
 ·rw[if_pos he];exact h
 ·rw[if_neg he]
  by_cases hc:s.count=100000
  ·rw[if_pos hc];intro e;exact absurd e (by show (2:Int)≠0;decide)
  ·rw[if_neg hc]
   have he:s.e=0:=by simpa using he
   unfold spend
   split
   ·rename_i hs
    split at hs
    ·cases hs;intro e;exact absurd e (by show (11:Int)≠0;decide)
    ·cases hs
   ·rename_i hs
    split at hs
    ·cases hs
    ·cases hs;intro _;exact h he
theorem seqM_dr {g:Tm→Nm.St→Tm×Nm.St}(hg:∀ t s,Dr s→Dr (g t s).2):∀ (l:List Tm) (s:Nm.St),Dr s→Dr (seqM g l s).2
 | [],_,h=>h
 | t :: l,s,h=>seqM_dr hg l _ (hg t s h)
theorem fail_dr {s:Nm.St}(h:Dr s)(c:Int)(hc:c≠0):Dr (fail s c):=by
 unfold fail
 split
 ·intro e;exact absurd e hc
 ·exact h
theorem putW_dr {thr:Thr}(ht:∀ xs n t ins s,Dr s→Dr (thr xs n t ins s).2)(t:Tm)(xs:List Tm)(s:Nm.St)(h:Dr s):Dr (putW thr t xs s).2:=by
 unfold putW
 split
 ·exact fail_dr h 1 (by decide)
 ·exact ht _ _ _ _ _ h
theorem hit_dr {thr:Thr}(ht:∀ xs n t ins s,Dr s→Dr (thr xs n t ins s).2)(xs:List Tm)(n:Nat)(t:Tm)(ins:Int)(args:List Tm)(s:Nm.St)(h:Dr s):Dr (hit thr xs n t ins args s).2:=by
 unfold hit
 dsimp only
 repeat' split
 all_goals first | exact h | exact fail_dr h 1 (by decide) | exact putW_dr ht _ _ _ h
theorem through_dr (f:Nat):∀ xs n t ins s,Dr s→Dr (through f xs n t ins s).2:=by
 induction f with
 | zero=>intro xs n t ins s h;exact h
 | succ f ih=>
  intro xs n t ins s h
  unfold through
  dsimp only
  split
  ·exact hit_dr ih _ _ _ _ _ _ (seqM_dr (fun t s h=>ih _ _ _ _ _ h) _ _ (unit_dr h))
  ·exact unit_dr h
theorem hit_def (thr:Thr)(xs:List Tm)(n:Nat)(bs:List Ty)(k i:Int)(a:List Tm)(ins:Int)(args:List Tm)(s:Nm.St):hit thr xs n (.mk bs k i a) ins args s =
  if k≠0∨i<ins then (.mk bs k i args,s)
  else if wr (i-ins)<(n:Int)-xs.length then (.mk bs k i args,s)
  else if (n:Int)≤wr (i-ins) then (.mk bs k (wr (i-xs.length)) args,s)
  else if (grown (xs.getD ((n:Int)-1-wr (i-ins)).toNat tz) (wr (wr (ins+n)-xs.length))).binds.length≠args.length then (tz,fail s 1)
  else (.mk bs (putW thr (grown (xs.getD ((n:Int)-1-wr (i-ins)).toNat tz) (wr (wr (ins+n)-xs.length))) args s).1.kind (putW thr (grown (xs.getD ((n:Int)-1-wr (i-ins)).toNat tz) (wr (wr (ins+n)-xs.length))) args s).1.index (putW thr (grown (xs.getD ((n:Int)-1-wr (i-ins)).toNat tz) (wr (wr (ins+n)-xs.length))) args s).1.args,(putW thr (grown (xs.getD ((n:Int)-1-wr (i-ins)).toNat tz) (wr (wr (ins+n)-xs.length))) args s).2):=rfl
theorem hit_bs (thr:Thr)(xs:List Tm)(n:Nat)(bs:List Ty)(k i:Int)(a:List Tm)(ins:Int)(args:List Tm)(s:Nm.St):
  (hit thr xs n (.mk bs k i a) ins args s).2=(hit thr xs n (.mk [] k i a) ins args s).2 ∧
   ((hit thr xs n (.mk [] k i a) ins args s).2.e=0→s.e=0→(hit thr xs n (.mk bs k i a) ins args s).1=.mk bs (hit thr xs n (.mk [] k i a) ins args s).1.kind (hit thr xs n (.mk [] k i a) ins args s).1.index (hit thr xs n (.mk [] k i a) ins args s).1.args):=by
 rw[hit_def,hit_def]
 by_cases h1:k≠0∨i<ins
 ·rw[if_pos h1,if_pos h1];exact⟨rfl,fun _ _=>rfl⟩
 ·rw[if_neg h1,if_neg h1]
  by_cases h2:wr (i-ins)<(n:Int)-xs.length
  ·rw[if_pos h2,if_pos h2];exact⟨rfl,fun _ _=>rfl⟩
  ·rw[if_neg h2,if_neg h2]
   by_cases h3:(n:Int)≤wr (i-ins)
   ·rw[if_pos h3,if_pos h3];exact⟨rfl,fun _ _=>rfl⟩
   ·rw[if_neg h3,if_neg h3]
    split
    ·exact⟨rfl,fun e _=>absurd e (fail_ne s)⟩
    ·exact⟨rfl,fun _ _=>rfl⟩
theorem wr_wr (x:Int):wr (wr x)=wr x:=by
 have h:=Bnd.wr_in x
 rw[Yh (x:=wr x)]
 exact IntWalk.i64_in _ (by omega)
theorem through_bs (f:Nat)(xs:List Tm)(n:Nat)(bs:List Ty)(k i:Int)(a:List Tm)(ins:Int)(s:Nm.St):
  (through f xs n (.mk bs k i a) ins s).2=(through f xs n (.mk [] k i a) (wr (ins+bs.length)) s).2 ∧
   ((through f xs n (.mk [] k i a) (wr (ins+bs.length)) s).2.e=0→0<f→(through f xs n (.mk bs k i a) ins s).1=.mk bs (through f xs n (.mk [] k i a) (wr (ins+bs.length)) s).1.kind (through f xs n (.mk [] k i a) (wr (ins+bs.length)) s).1.index (through f xs n (.mk [] k i a) (wr (ins+bs.length)) s).1.args):=by
 cases f with
 | zero=>exact⟨rfl,fun _ h=>absurd h (by decide)⟩
 | succ f=>
  have e0:wr (wr (ins+(bs.length:Int))+(([]:List Ty).length:Int))=wr (ins+bs.length):=by
   rw[show wr (ins+(bs.length:Int))+(([]:List Ty).length:Int)=wr (ins+bs.length) by simp,wr_wr]
  unfold through
  dsimp only[Tm.binds,Tm.args]
  rw[e0]
  by_cases hu:(unit s).1=true
  ·rw[if_pos hu,if_pos hu]
   generalize seqM (fun a s=>through f xs n a (wr (ins+(bs.length:Int))) s) a (unit s).2=q
   obtain⟨h1,h2⟩:=hit_bs (through f) xs n bs k i a (wr (ins+(bs.length:Int))) q.1 q.2
   refine⟨h1,fun e _=>h2 e ?_⟩
   by_cases hq:q.2.e=0
   ·exact hq
   ·rw[hit_e _ _ _ _ _ _ hq] at e;exact absurd e hq
  ·rw[if_neg hu,if_neg hu]
   refine⟨rfl,fun e _=>absurd e ?_⟩
   have hu:(unit s).1=false:=by simpa using hu
   exact fun e=>unit_no hu e
where
 unit_no {s:Nm.St} (h:(unit s).1=false) (e:(unit s).2.e=0):False:=by
  unfold unit at h e
  by_cases he:s.e≠0
  ·rw[if_pos he] at e;exact he e
  ·rw[if_neg he] at h e
   by_cases hc:s.count=100000
   ·rw[if_pos hc] at e;exact absurd e (by show (2:Int)≠0;decide)
   ·rw[if_neg hc] at h e
    unfold spend at h e
    split at h
    ·rename_i hs;rw[hs] at e;exact absurd e (by show (11:Int)≠0;decide)
    ·cases h
end Rn
def TRND_31:TI:=⟨4,true,[Value.slice none 0 0,Value.int IntKind.i64 0,Value.int IntKind.i64 0,Value.slice none 0 0],[(0,1,false),(1,2,true),(3,1,false)],none,64,6,none,false⟩
theorem No:TypOk Tryz.prog 31 TRND_31:=by constructor <;> kernel_rfl
def TRND_3:TI:=⟨1,false,[Value.int IntKind.i64 0],[],none,8,2,none,false⟩
theorem IR:TypOk Tryz.prog 3 TRND_3:=by constructor <;> kernel_rfl
def TRND_29:TI:=⟨1,false,[Value.slice none 0 0],[],some 31,24,5,none,false⟩
theorem Nn:TypOk Tryz.prog 29 TRND_29:=by constructor <;> kernel_rfl
def TRND_224:TI:=⟨3,true,[Value.int IntKind.i64 0,Value.int IntKind.i64 0,Value.int IntKind.i64 0],[(0,1,false),(1,1,false),(2,1,false)],none,24,6,none,false⟩
theorem QZ:TypOk Tryz.prog 224 TRND_224:=by constructor <;> kernel_rfl
def TRND_28:TI:=⟨2,true,[Value.int IntKind.i64 0,Value.int IntKind.i64 0],[(0,1,false),(1,1,false)],none,16,6,none,true⟩
theorem Nl:TypOk Tryz.prog 28 TRND_28:=by constructor <;> kernel_rfl
def TRND_22:TI:=⟨1,false,[Value.slice none 0 0],[],some 104,24,5,none,false⟩
theorem Nk:TypOk Tryz.prog 22 TRND_22:=by constructor <;> kernel_rfl
def TRND_222:TI:=⟨1,false,[Value.pointer none],[],none,8,4,none,false⟩
theorem QY:TypOk Tryz.prog 222 TRND_222:=by constructor <;> kernel_rfl
def TRND_104:TI:=⟨2,true,[Value.slice none 0 0,Value.int IntKind.i64 0],[(0,1,false),(1,1,false)],none,32,6,none,false⟩
theorem QX:TypOk Tryz.prog 104 TRND_104:=by constructor <;> kernel_rfl
def TRND:List (Nat×TI):=[(31,TRND_31),(3,TRND_3),(29,TRND_29),(224,TRND_224),(28,TRND_28),(22,TRND_22),(222,TRND_222),(104,TRND_104)]
theorem Zg:Zh Tryz.prog TRND:=(((((((((Zh.nil _).cons QX).cons QY).cons Nk).cons Nl).cons QZ).cons Nn).cons IR).cons No)
def mE (s:Nm.St):List (Key×D):=[(.c 0 0,.v (.int .i64 s.left)),(.c 0 1,.v (.int .i64 (Rn.dc s))),(.c 0 2,.v (.int .i64 s.e))]
theorem K9 (left:Int)(dry:Bool)(count e:Int)(h:¬ (e=2∨e=11)):mE ⟨left,dry,count,e⟩=[(.c 0 0,.v (.int .i64 left)),(.c 0 1,.v (.int .i64 count)),(.c 0 2,.v (.int .i64 e))]:=by
 unfold mE Rn.dc;dsimp only;rw[if_neg h]
theorem FW (left:Int)(dry:Bool)(count e:Int)(h:e=2∨e=11):mE ⟨left,dry,count+1,e⟩=[(.c 0 0,.v (.int .i64 left)),(.c 0 1,.v (.int .i64 count)),(.c 0 2,.v (.int .i64 e))]:=by
 unfold mE Rn.dc;dsimp only;rw[if_pos h,Int.add_sub_cancel]
set_option maxHeartbeats 4000000 in
theorem A3 (s:Nm.St)(hs:YE s)(hd:Rn.Dr s):ZE Tryz.prog 152 [.p 0 0] (mE s) (mE (Nm.unit s).2) (.v (.bool (Nm.unit s).1)):=by
 obtain⟨left,dry,count,e⟩:=s
 obtain⟨⟨l1,l2⟩,⟨c1,c2⟩,h0⟩:=hs
 dsimp only at l1 l2 c1 c2 h0
 by_cases he:e=0
 ·subst he
  have hdr:dry=false:=hd rfl
  subst hdr
  have c3:=h0 rfl
  by_cases hc:count=100000
  ·have hu:Nm.unit ⟨left,false,count,0⟩=(false,⟨left,false,count+1,2⟩):=by unfold Nm.unit;rw[if_neg (by simp),if_pos hc]
   rw[hu]
   dsimp only
   rw[K9 _ _ _ _ (by decide),FW _ _ _ _ (by decide)]
   refine Zm 1 41 [ResultVar.tmp 2] Zg Tryz.func152 rfl Tryz.ntmps152 rfl fun cx hnt hn0=>?_
   ·skip
    refine Zz ?_;refine Zx [] Zg hnt fun _ z9=>z9 _ _ ?_;refine Zz ?_;refine Zt ?_;refine Zz ?_;refine Zx [(8,.v (.bool false))] Zg hnt fun K hK=>?_;refine And.intro (Yy rfl) ?_;refine hK _ _ ?_;clear hK K;refine Zy (t:=false) rfl ?_;rw[if_neg (by simp)];refine Zz ?_;refine Zx [(14,.v (.bool true))] Zg hnt fun K hK=>?_
    refine And.intro (XU hc) ?_;refine hK _ _ ?_;clear hK K;refine Zy (t:=true) rfl ?_;rw[if_pos rfl];refine Zz ?_;refine Zx [] Zg hnt fun _ z9=>z9 _ _ ?_;refine Zz ?_;refine Zx [] Zg hnt fun _ z9=>z9 _ _ ?_;refine Zu ?_
    exact Zj rfl
  ·by_cases hl:left=0
   ·have hu:Nm.unit ⟨left,false,count,0⟩=(false,⟨left,true,count+1,11⟩):=by
     subst hl
     unfold Nm.unit;rw[if_neg (by simp),if_neg hc];rfl
    rw[hu]
    dsimp only
    rw[K9 _ _ _ _ (by decide),FW _ _ _ _ (by decide)]
    refine Zm 1 41 [ResultVar.tmp 2] Zg Tryz.func152 rfl Tryz.ntmps152 rfl fun cx hnt hn0=>?_
    ·skip
     refine Zz ?_;refine Zx [] Zg hnt fun _ z9=>z9 _ _ ?_;refine Zz ?_;refine Zt ?_;refine Zz ?_;refine Zx [(8,.v (.bool false))] Zg hnt fun K hK=>?_;refine And.intro (Yy rfl) ?_;refine hK _ _ ?_;clear hK K;refine Zy (t:=false) rfl ?_;rw[if_neg (by simp)];refine Zz ?_;refine Zx [(14,.v (.bool false))] Zg hnt fun K hK=>?_
     refine And.intro (XT hc) ?_;refine hK _ _ ?_;clear hK K;refine Zy (t:=false) rfl ?_;rw[if_neg (by simp)];refine Zz ?_;refine Zx [(23,.v (.bool true))] Zg hnt fun K hK=>?_;refine And.intro (XU hl) ?_;refine hK _ _ ?_;clear hK K;refine Zy (t:=true) rfl ?_;rw[if_pos rfl];refine Zz ?_;refine Zx [] Zg hnt fun _ z9=>z9 _ _ ?_
     refine Zz ?_;refine Zx [] Zg hnt fun _ z9=>z9 _ _ ?_;refine Zu ?_
     exact Zj rfl
   ·have hu:Nm.unit ⟨left,false,count,0⟩=(true,⟨left-1,false,count+1,0⟩):=by
     have h1:¬ ((false:Bool)=true∨left<1):=by simp;omega
     unfold Nm.unit Nm.spend;rw[if_neg (by simp),if_neg hc];dsimp only;rw[if_neg h1]
    rw[hu]
    dsimp only
    rw[K9 _ _ _ _ (by decide),K9 _ _ _ _ (by decide)]
    refine Zm 1 41 [ResultVar.tmp 2] Zg Tryz.func152 rfl Tryz.ntmps152 rfl fun cx hnt hn0=>?_
    ·skip
     refine Zz ?_;refine Zx [] Zg hnt fun _ z9=>z9 _ _ ?_;refine Zz ?_;refine Zt ?_;refine Zz ?_;refine Zx [(8,.v (.bool false))] Zg hnt fun K hK=>?_;refine And.intro (Yy rfl) ?_;refine hK _ _ ?_;clear hK K;refine Zy (t:=false) rfl ?_;rw[if_neg (by simp)];refine Zz ?_;refine Zx [(14,.v (.bool false))] Zg hnt fun K hK=>?_
     refine And.intro (XT hc) ?_;refine hK _ _ ?_;clear hK K;refine Zy (t:=false) rfl ?_;rw[if_neg (by simp)];refine Zz ?_;refine Zx [(23,.v (.bool false))] Zg hnt fun K hK=>?_;refine And.intro (XT hl) ?_;refine hK _ _ ?_;clear hK K;refine Zy (t:=false) rfl ?_;rw[if_neg (by simp)];refine Zw ?_;refine Zz ?_;refine Zx [(31,.v (.int .i64 ((left-1))))] Zg hnt fun K hK=>?_
     refine And.intro (Zq (by exact IntWalk.i64_in _ (by omega))) ?_;refine hK _ _ ?_;clear hK K;refine Zz ?_;refine Zx [(38,.v (.int .i64 ((count+1))))] Zg hnt fun K hK=>?_;refine And.intro (Zq (by exact IntWalk.i64_in _ (by omega))) ?_;refine hK _ _ ?_;clear hK K;refine Zz ?_;refine Zx [] Zg hnt fun _ z9=>z9 _ _ ?_;refine Zu ?_
     exact Zj rfl
 ·rw[Rn.unit_e (s:=⟨left,dry,count,e⟩) he]
  unfold mE
  dsimp only
  refine Zm 1 41 [ResultVar.tmp 2] Zg Tryz.func152 rfl Tryz.ntmps152 rfl fun cx hnt hn0=>?_
  ·skip
   refine Zz ?_;refine Zx [] Zg hnt fun _ z9=>z9 _ _ ?_;refine Zz ?_;refine Zt ?_;refine Zz ?_;refine Zx [(8,.v (.bool true))] Zg hnt fun K hK=>?_;refine And.intro (Y6 he) ?_;refine hK _ _ ?_;clear hK K;refine Zy (t:=true) rfl ?_;rw[if_pos rfl];refine Zz ?_;refine Zx [] Zg hnt fun _ z9=>z9 _ _ ?_
   refine Zu ?_
   exact Zj rfl
theorem Sk (y:Int)(t:Tm):∀ ins:Int,(Nm.lift y t ins).full=t.full:=by
 induction t using Tm.ind with
 | h b k i a ih=>
  intro ins
  rw[Nm.lift_eq,Tm.full_eq,Tm.full_eq,Nm.lifts_map]
  congr 2
  generalize Nm.wr (ins+(b.length:Int))=m
  clear ins
  induction a with
  | nil=>rfl
  | cons u a iha=>
   rw[List.map_cons,Tm.fulls,Tm.fulls,ih u (by simp) m,iha fun v hv=>ih v (by simp[hv])]
theorem PJ (t:Tm)(y:Int):(Nm.grown t y).full=t.full:=by
 unfold Nm.grown
 split
 ·rfl
 ·exact Sk y t 0
def BdD (B f:Nat):Prop:=∀ (s:Nm.St) (xs:List Tm) (n:Nat) (k i:Int) (a:List Tm) (ins:Int),YE s→Rn.Dr s→(s.e=0→100001-s.count≤f)→ZB (.mk [] k i a)→Bnd B (.mk [] k i a)→(∀ x∈xs,ZB x∧Bnd B x∧x.size≤1000000000)→xs.length≤n→n≤100000 →
 (0≤ins∧ins+((Tm.mk [] k i a).full:Int)≤4000000000000000000) →
 ZE Tryz.prog 145 [.p 0 0,.ag [.v (.int .i64 k),.v (.int .i64 i)],.sl 4 (eTms a) none,.sl 4 (eTms xs) none,.v (.int .i64 n),.v (.int .i64 ins)] (mE s) (mE (Nm.through f xs n (.mk [] k i a) ins s).2) (.ag (eTm (Rn.ez (Nm.through f xs n (.mk [] k i a) ins s))))
set_option maxHeartbeats 2000000 in
theorem Jy {B f:Nat}(ih:BdD B f)(s:Nm.St)(xs:List Tm)(n:Nat)(bs:List Ty)(k i:Int)(a:List Tm)(ins m:Int)(hm:ins+(bs.length:Int)=m)(hs:YE s)(hd:Rn.Dr s)(hf:s.e=0→100001-s.count≤f)(hw:ZB (.mk bs k i a))(hb:Bnd B (.mk bs k i a))(hx:∀ x∈xs,ZB x∧Bnd B x∧x.size≤1000000000)(hn:xs.length≤n)(hn2:n≤100000) 
  (hins:0≤ins∧ins+((Tm.mk bs k i a).full:Int)≤4000000000000000000) (r:Tm×Nm.St) (hr:Nm.through f xs n (.mk [] k i a) m s=r) :
  ZE Tryz.prog 153 [.p 0 0,.ag (eTm (.mk bs k i a)),.sl 4 (eTms xs) none,.v (.int .i64 n),.v (.int .i64 ins)] (mE s) (mE r.2) (.ag (eTm (.mk bs (Rn.ez r).kind (Rn.ez r).index (Rn.ez r).args))):=by
 obtain⟨w1,w2,w3⟩:=hw.inv
 obtain⟨b1,b2,b3⟩:=hb.inv
 rw[Tm.full_eq] at hins
 have hls:=Ty.le_sizes bs
 have hB:=ih s xs n k i a m hs hd hf (.mk _ _ _ _ (by simp) w2 w3) (.mk _ _ _ _ (by simp[Ty.sizes]) b2 b3) hx hn hn2 (by rw[Tm.full_eq];simp[Ty.sizes];omega)
 rw[hr] at hB
 have hm':IntKind.i64.wrap (ins+(bs.length:Int))=m:=by rw[hm];exact IntWalk.i64_in _ (by omega)
 obtain⟨z,hz⟩:∃ z,Rn.ez r=z:=⟨_,rfl⟩
 rw[hz] at hB ⊢
 obtain⟨q,hq⟩:∃ q,r.2=q:=⟨_,rfl⟩
 rw[hq] at hB ⊢
 clear hr hq hz
 unfold mE at hB ⊢
 rw[Zv] at hB ⊢
 rw[Zv]
 dsimp only[Tm.binds,Tm.kind,Tm.index,Tm.args]
 refine Zm 1 29 [ResultVar.cell 10 31] Zg Tryz.func153 rfl Tryz.ntmps153 rfl fun cx hnt hn0=>?_
 ·skip
  refine Zz ?_;refine Zx [] Zg hnt fun _ z9=>z9 _ _ ?_;refine Zz ?_;refine Zx [(22,.v (.int .i64 (↑bs.length))),(23,.v (.int .i64 (m)))] Zg hnt fun K hK=>?_;refine And.intro (Zq (by rw[Zr])) ?_;refine And.intro (Zq (by exact hm')) ?_;refine Ze (hB) ?_;refine hK _ _ ?_;clear hK K;refine Zz ?_;refine Zx [] Zg hnt fun K hK=>?_
  refine hK _ _ ?_;clear hK K;refine Zz ?_;refine Zx [] Zg hnt fun _ z9=>z9 _ _ ?_;refine Zu ?_
  exact Zj rfl
set_option maxHeartbeats 8000000 in
theorem SX {B f:Nat}(hB170:B≤170)(s:Nm.St)(ih:(Nm.unit s).1=true→BdD B f)(xs:List Tm)(n:Nat)(k i:Int)(a:List Tm)(ins:Int)(hs:YE s)(hd:Rn.Dr s)(hf:s.e=0→100001-s.count≤(f+1:Nat))(hw:ZB (.mk [] k i a))(hb:Bnd B (.mk [] k i a)) 
  (hx:∀ x∈xs,ZB x∧Bnd B x∧x.size≤1000000000) (hn:xs.length≤n) (hn2:n≤100000) (hins:0≤ins∧ins+((Tm.mk [] k i a).full:Int)≤4000000000000000000) :
  ZE Tryz.prog 145 [.p 0 0,.ag [.v (.int .i64 k),.v (.int .i64 i)],.sl 4 (eTms a) none,.sl 4 (eTms xs) none,.v (.int .i64 n),.v (.int .i64 ins)] (mE s) (mE (Nm.through (f+1) xs n (.mk [] k i a) ins s).2) (.ag (eTm (Rn.ez (Nm.through (f+1) xs n (.mk [] k i a) ins s)))):=by
 obtain⟨w1,w2,w3⟩:=hw.inv
 obtain⟨b1,b2,b3⟩:=hb.inv
 obtain⟨p,hp⟩:∃ p,Nm.through (f+1) xs n (.mk [] k i a) ins s=p:=⟨_,rfl⟩
 rw[hp]
 have hone:=A3 s hs hd
 obtain⟨hc1,hc2⟩:=Nm.unit_count s
 have hs1:=Uz hs
 have hd1:=Rn.unit_dr hd
 have hwi:Nm.wr (ins+(([]:List Ty).length:Int))=ins:=by
  rw[Yh];simp only[List.length_nil];rw[show ins+((0:Nat):Int)=ins by omega];exact IntWalk.i64_in _ (by omega)
 have hp':p=if (Nm.unit s).1=true then Nm.hit (Nm.through f) xs n (.mk [] k i a) ins (Nm.seqM (fun a s=>Nm.through f xs n a ins s) a (Nm.unit s).2).1 (Nm.seqM (fun a s=>Nm.through f xs n a ins s) a (Nm.unit s).2).2 else (Nm.tz,(Nm.unit s).2):=by
  rw[←hp]
  show (if (Nm.unit s).1=true then Nm.hit (Nm.through f) xs n (.mk [] k i a) (Nm.wr (ins+(([]:List Ty).length:Int))) (Nm.seqM (fun a s=>Nm.through f xs n a (Nm.wr (ins+(([]:List Ty).length:Int))) s) a (Nm.unit s).2).1 (Nm.seqM (fun a s=>Nm.through f xs n a (Nm.wr (ins+(([]:List Ty).length:Int))) s) a (Nm.unit s).2).2 else (Nm.tz,(Nm.unit s).2))=_
  rw[hwi]
 clear hp
 obtain⟨u,hu⟩:∃ u,Nm.unit s=u:=⟨_,rfl⟩
 rw[hu] at hone hc1 hc2 hs1 hd1 ih hp'
 have hun:u.1=false→u.2.e≠0:=fun h e=>Rn.through_bs.unit_no (s:=s) (by rw[hu];exact h) (by rw[hu];exact e)
 obtain⟨ok,s1⟩:=u
 dsimp only at hone hc1 hc2 hs1 hd1 ih hp' hun
 unfold mE at hone ⊢
 cases ok with
 | false=>
  rw[if_neg (by simp)] at hp'
  rw[hp',Rn.ez_no (hun rfl),Xy]
  dsimp only
  refine Zm 1 119 [ResultVar.cell 12 31] Zg Tryz.func145 rfl Tryz.ntmps145 rfl fun cx hnt hn0=>?_
  ·skip
   refine Zz ?_;refine Zx [] Zg hnt fun _ z9=>z9 _ _ ?_;refine Zz ?_;refine Zz ?_;refine Zx [] Zg hnt fun K hK=>?_;refine Ze (hone) ?_;refine hK _ _ ?_;clear hK K;refine Zy (t:=true) rfl ?_;rw[if_pos rfl];refine Zz ?_;refine Zx [(22,.ag [.sl 2 [] none,.v (.int .i64 0),.v (.int .i64 0),.sl 4 [] none])] Zg hnt fun K hK=>?_
   refine And.intro (Xl) ?_;refine hK _ _ ?_;clear hK K;refine Zu ?_
   exact Zj rfl
 | true=>
  rw[if_pos rfl] at hp'
  have ih:=ih rfl
  obtain⟨hc2,he,he1⟩:=hc2 rfl
  have hf1:=hf he
  obtain⟨g,hg⟩:∃ g:Tm→Nm.St→Tm×Nm.St,(fun a s=>Nm.through f xs n a ins s)=g:=⟨_,rfl⟩
  have hgx:∀ t s,g t s=Nm.through f xs n t ins s:=fun t s=>by rw[←hg]
  rw[hg] at hp'
  obtain⟨O,hO⟩:∃ O:Nat→List Tm,∀ j,(Nm.seqM g (a.take j) s1).1=O j:=⟨_,fun _=>rfl⟩
  obtain⟨S,hS⟩:∃ S:Nat→Nm.St,∀ j,(Nm.seqM g (a.take j) s1).2=S j:=⟨_,fun _=>rfl⟩
  have hO0:O 0=[]:=by rw[←hO];rfl
  have hS0:S 0=s1:=by rw[←hS];rfl
  have hOn:∀ j (h:j<a.length),O (j+1)=O j++[(g a[j] (S j)).1]:=fun j h=>by rw[←hO,←hO,←hS,Nm.seqM_take g a j h]
  have hSn:∀ j (h:j<a.length),S (j+1)=(g a[j] (S j)).2:=fun j h=>by rw[←hS,←hS,Nm.seqM_take g a j h]
  have hOl:∀ j,j≤a.length→(O j).length=j:=fun j h=>by rw[←hO,Nm.seqM_length,List.length_take];omega
  have hOa:(Nm.seqM g a s1).1=O a.length:=by rw[←hO,List.take_length]
  have hSa:(Nm.seqM g a s1).2=S a.length:=by rw[←hS,List.take_length]
  have hSw:∀ j,YE (S j):=fun j=>by rw[←hS];exact Uv (fun t s h=>by rw[hgx];exact Xp f _ _ _ _ _ h) _ _ hs1
  have hSd:∀ j,Rn.Dr (S j):=fun j=>by rw[←hS];exact Rn.seqM_dr (fun t s h=>by rw[hgx];exact Rn.through_dr f _ _ _ _ _ h) _ _ hd1
  have hSc:∀ j,s1.count≤(S j).count:=fun j=>by rw[←hS];exact Nm.seqM_count (fun t s=>by rw[hgx];exact Nm.through_count f _ _ _ _ _) _ _
  have hOw:∀ t∈O a.length,ZB t:=by rw[←hOa];exact Nm.seqM_wide (fun t s h=>by rw[hgx];exact Nm.through_wide f _ _ _ _ _ h (fun x hx'=>(hx x hx').1)) _ w3 _
  have hSe:∀ j,j≤a.length→(S j).e≠0→S a.length=S j:=fun j hj h=>by
   have e:a=a.take j++a.drop j:=(List.take_append_drop j a).symm
   rw[←hSa,←hS]
   conv=>lhs;rw[e]
   rw[Nm.seqM_append]
   exact Rn.seqM_e (fun t s h=>by rw[hgx,Rn.through_e f xs n t ins h]) _ (by rw[hS];exact h)
  rw[hOa,hSa] at hp'
  have hpe:∀ j,j≤a.length→(S j).e≠0→p.2=S j∧Rn.ez p=Nm.tz:=fun j hj h=>by
   have h2:=hSe j hj h
   have h1:p.2=S j:=by rw[hp',h2];exact Rn.hit_e _ _ _ _ _ _ h
   exact⟨h1,Rn.ez_no (by rw[h1];exact h)⟩
  refine Zm 1 119 [ResultVar.cell 12 31] Zg Tryz.func145 rfl Tryz.ntmps145 rfl fun cx hnt hn0=>?_
  ·skip
   refine Zz ?_;refine Zx [] Zg hnt fun _ z9=>z9 _ _ ?_;refine Zz ?_;refine Zz ?_;refine Zx [] Zg hnt fun K hK=>?_;refine Ze (hone) ?_;refine hK _ _ ?_;clear hK K;refine Zy (t:=false) rfl ?_;rw[if_neg (by simp)];refine Zw ?_;refine Zz ?_;refine Zx [] Zg hnt fun _ z9=>z9 _ _ ?_
   refine DW.vs (VS.row (k:=8) (off:=3) 31 4 rfl) ?_
   refine Zz ?_;refine Zz ?_;refine Zx [] Zg hnt fun _ z9=>z9 _ _ ?_;refine Zt ?_
   refine Z4 (ι:={ j:Nat // j≤a.length∧(S j).e=0 }) (fun j=>[(.t 14,.v (.int .i64 ↑j.1)),(.t 0,.p 0 0),(.t 2,.sl 4 (eTms a) none),(.t 3,.sl 4 (eTms xs) none),(.t 4,.v (.int .i64 n)),(.t 5,.v (.int .i64 ins)),(.t 7,.p 1 0),(.t 12,.p 2 0),(.t 13,.p 8 0),(.c 1 0,.v (.int .i64 k)),(.c 1 1,.v (.int .i64 i)),(.c 2 0,.v (.slice none 0 0)),(.c 2 1,.v (.int .i64 0)),(.c 2 2,.v (.int .i64 0)),(.c 2 3,.v (.slice none 0 0)),(.c 8 0,.v (.slice none 0 0)),(.c 8 1,.v (.int .i64 k)),(.c 8 2,.v (.int .i64 i)),(.c 8 3,.sl 4 (eTms (O j.1)) (some 10)),(.r 10,.rw 31 4 (O j.1).length),(.c 0 0,.v (.int .i64 (S j.1).left)),(.c 0 1,.v (.int .i64 (Rn.dc (S j.1)))),(.c 0 2,.v (.int .i64 (S j.1).e))]) 12 (fun j=>a.length-j.1) (⟨0,Nat.zero_le _,by rw[hS0];exact he1⟩) ((by dsimp only;rw[hO0,hS0];exact VS.toA)) fun j=>?_
   obtain⟨j,hj,hje⟩:=j
   dsimp only
   by_cases hlt:j<a.length
   ·obtain⟨⟨xb,xk,xi,xa⟩,hxj⟩:∃ x,a[j]=x:=⟨_,rfl⟩
    have hmem:Tm.mk xb xk xi xa∈a:=hxj ▸ List.getElem_mem hlt
    obtain⟨m,hm⟩:∃ m,ins+(xb.length:Int)=m:=⟨_,rfl⟩
    obtain⟨r,hr⟩:∃ r,Nm.through f xs n (.mk [] xk xi xa) m (S j)=r:=⟨_,rfl⟩
    have hfu:=Tm.full_mem hmem
    rw[Tm.full_eq] at hins
    have hxl:=Ty.le_sizes xb
    have hxf:(Tm.mk xb xk xi xa).full=Ty.sizes xb+Tm.fulls xa+1:=Tm.full_eq ..
    have hwm:Nm.wr (ins+(xb.length:Int))=m:=by rw[Yh,hm];exact IntWalk.i64_in _ (by omega)
    have hci:=Jy ih (S j) xs n xb xk xi xa ins m hm (hSw j) (hSd j) (fun _=>by have:=hSc j;omega) (w3 _ hmem) (b3 _ hmem) hx hn hn2 ⟨hins.1,by omega⟩ r hr
    obtain⟨t1,t2⟩:=Rn.through_bs f xs n xb xk xi xa ins (S j)
    rw[hwm,hr] at t1 t2
    have hgj:g a[j] (S j)=Nm.through f xs n (.mk xb xk xi xa) ins (S j):=by rw[hgx,hxj]
    have hSj:S (j+1)=r.2:=by rw[hSn j hlt,hgj,t1]
    have hel:=ZX a j hlt
    rw[hxj,Zv] at hel
    obtain⟨⟨zb,zk,zi,za⟩,hz⟩:∃ z,Rn.ez r=z:=⟨_,rfl⟩
    rw[hz] at hci
    unfold mE at hci
    rw[Zv,Zv] at hci
    dsimp only[Tm.binds,Tm.kind,Tm.index,Tm.args] at hci hel
    rw[←hSj] at hci t2
    by_cases hre:(S (j+1)).e=0
    ·have hfp:0<f:=by
      rcases Nat.eq_zero_or_pos f with h0 | h0
      ·exfalso
       subst h0
       have:=(hSw j).e0 hje
       have:=hSc j
       omega
      ·exact h0
     have hval:(g a[j] (S j)).1=.mk xb zk zi za:=by
      rw[Rn.ez_ok (by rw[←hSj];exact hre)] at hz
      rw[hgj,t2 hre hfp,hz];rfl
     have hsn:eTms (O j)++[[.sl 2 (eTys xb) none,.v (.int .i64 zk),.v (.int .i64 zi),.sl 4 (eTms za) none]]=eTms (O (j+1)):=by
      rw[hOn j hlt,YV,eTms,eTms,hval,Zv];rfl
     have hl1:(eTms (O j)).length=(O j).length:=Zs _
     have hl3:=hOl j hj
     have hl2:(eTms (O (j+1))).length=(O (j+1)).length:=Zs _
     refine Zz ?_;refine Zz ?_;refine Zx [(27,.v (.int .i64 (↑a.length))),(28,.v (.bool true))] Zg hnt fun K hK=>?_;refine And.intro (Zq (by rw[Zs])) ?_;refine And.intro (ZZ (by omega)) ?_;refine hK _ _ ?_;clear hK K;refine Zy (t:=true) rfl ?_;rw[if_pos rfl];refine Zw ?_;refine Zz ?_;refine Zt ?_;refine Zz ?_;refine Zx [(34,.q [.sl 2 (eTys xb) none,.v (.int .i64 xk),.v (.int .i64 xi),.sl 4 (eTms xa) none])] Zg hnt fun K hK=>?_
     refine And.intro (⟨by omega,by rw[Zs];omega⟩) ?_;refine And.intro (Zn.of_eq (by rw[Int.toNat_natCast,hel])) ?_;refine Ze (hci) ?_;refine hK _ _ ?_;clear hK K;refine Zz ?_;refine Zz ?_;refine Zx [(44,.v (.bool false))] Zg hnt fun K hK=>?_;refine And.intro (Yy hre) ?_;refine hK _ _ ?_;clear hK K;refine Zy (t:=false) rfl ?_;rw[if_neg (by simp)];refine Zw ?_
     refine Zx [] Zg hnt fun K hK=>?_;refine And.intro (⟨by omega,by rw[hl1];simp;omega⟩) ?_;refine hK _ _ ?_;clear hK K
     rw[hsn,hl2]
     refine Zx [(30,.v (.int .i64 (↑(j+1))))] Zg hnt fun K hK=>?_;refine And.intro XR ?_;refine hK _ _ ?_;clear hK K
     refine⟨⟨j+1,hlt,hre⟩,by first | omega | (dsimp only;omega),VS.toA⟩
    ·obtain⟨q1,q2⟩:=hpe (j+1) hlt hre
     rw[q1,q2,Xy]
     refine Zz ?_;refine Zz ?_;refine Zx [(27,.v (.int .i64 (↑a.length))),(28,.v (.bool true))] Zg hnt fun K hK=>?_;refine And.intro (Zq (by rw[Zs])) ?_;refine And.intro (ZZ (by omega)) ?_;refine hK _ _ ?_;clear hK K;refine Zy (t:=true) rfl ?_;rw[if_pos rfl];refine Zw ?_;refine Zz ?_;refine Zt ?_;refine Zz ?_;refine Zx [(34,.q [.sl 2 (eTys xb) none,.v (.int .i64 xk),.v (.int .i64 xi),.sl 4 (eTms xa) none])] Zg hnt fun K hK=>?_
     refine And.intro (⟨by omega,by rw[Zs];omega⟩) ?_;refine And.intro (Zn.of_eq (by rw[Int.toNat_natCast,hel])) ?_;refine Ze (hci) ?_;refine hK _ _ ?_;clear hK K;refine Zz ?_;refine Zz ?_;refine Zx [(44,.v (.bool true))] Zg hnt fun K hK=>?_;refine And.intro (Y6 hre) ?_;refine hK _ _ ?_;clear hK K;refine Zy (t:=true) rfl ?_;rw[if_pos rfl];refine Zz ?_
     refine Zx [(45,.ag [.sl 2 [] none,.v (.int .i64 0),.v (.int .i64 0),.sl 4 [] none])] Zg hnt fun K hK=>?_;refine And.intro (Xl) ?_;refine hK _ _ ?_;clear hK K;refine Zu ?_
     exact Zj rfl
   ·have hja:j=a.length:=by omega
    subst hja
    obtain⟨A,hA⟩:∃ A,O a.length=A:=⟨_,rfl⟩
    have hAl:A.length=a.length:=by rw[←hA];exact hOl _ (Nat.le_refl _)
    obtain⟨s2,hs2⟩:∃ s2,S a.length=s2:=⟨_,rfl⟩
    have w2s:=hSw a.length
    have d2s:=hSd a.length
    have c2s:=hSc a.length
    have hAg:∀ t∈A,Bnd B t∧t.size≤1000000000:=by
     have h:=Nm.seqM_grow (B:=B) (f:=f) (g:=g) a (fun t ht s hs hf=>by rw[hgx];exact Nm.through_grow B f xs n t ins s hs hf (fun x hx'=>(hx x hx').2.1) (b3 t ht)) (fun t s h=>by rw[hgx];exact Xp f _ _ _ _ _ h) (fun t s=>by rw[hgx];exact Nm.through_count f _ _ _ _ _) s1 hs1 (fun _=>by omega) (by rw[hSa];exact hje)
     rw[hOa,hSa,hA] at h
     intro t ht
     have h1:=Tm.size_mem ht
     have h2:=h.2.1
     have h3:=hs1.left
     have h4:=w2s.left
     exact⟨h.2.2 t ht,by omega⟩
    rw[hA] at hOw hp' ⊢
    rw[hs2] at w2s d2s c2s hje hp' ⊢
    clear hSe hSn hSw hSd hSc hOn hOl hS hO hS0 hO0 hpe hA hs2 hSa hOa
    obtain⟨left,dry,count,e⟩:=s2
    dsimp only at hje c2s
    subst hje
    have hen:=Zs A
    have hdc:Rn.dc ⟨left,dry,count,0⟩=count:=by unfold Rn.dc;dsimp only;rw[if_neg (by decide)]
    have hdc1:Rn.dc ⟨left,dry,count,1⟩=count:=by unfold Rn.dc;dsimp only;rw[if_neg (by decide)]
    dsimp only
    rw[hdc]
    rw[Rn.hit_def] at hp'
    have ed:∀ (i':Int) ,eTm (.mk [] k i' A)=[.sl 2 [] none,.v (.int .i64 k),.v (.int .i64 i'),.sl 4 (eTms A) none]:=fun i'=>by rw[Zv];rfl
    by_cases h1:k≠0∨i<ins
    ·rw[if_pos h1] at hp'
     rw[hp',Rn.ez_ok (p:=(Tm.mk [] k i A,(⟨left,dry,count,0⟩:Nm.St))) rfl,ed]
     dsimp only
     rw[hdc]
     by_cases hk:k≠0
     ·skip
      refine Zz ?_;refine Zz ?_;refine Zx [(27,.v (.int .i64 (↑a.length))),(28,.v (.bool false))] Zg hnt fun K hK=>?_;refine And.intro (Zq (by rw[Zs])) ?_;refine And.intro (Zf (by omega)) ?_;refine hK _ _ ?_;clear hK K;refine Zy (t:=false) rfl ?_;rw[if_neg (by simp)];refine Zc ?_;refine Zz ?_;refine Zz ?_;refine Zx [(54,.v (.bool true))] Zg hnt fun K hK=>?_
      refine And.intro (Y6 hk) ?_;refine hK _ _ ?_;clear hK K;refine Zy (t:=true) rfl ?_;rw[if_pos rfl];refine Zz ?_;refine Zx [(61,.ag [.sl 2 [] none,.v (.int .i64 k),.v (.int .i64 i),.sl 4 (eTms A) none])] Zg hnt fun K hK=>?_;refine And.intro (Xl) ?_;refine hK _ _ ?_;clear hK K;refine Zu ?_
      exact Zj rfl
     ·have hk:k=0:=by simpa using hk
      have hi:i<ins:=h1.resolve_left (fun h=>h hk)
      refine Zz ?_;refine Zz ?_;refine Zx [(27,.v (.int .i64 (↑a.length))),(28,.v (.bool false))] Zg hnt fun K hK=>?_;refine And.intro (Zq (by rw[Zs])) ?_;refine And.intro (Zf (by omega)) ?_;refine hK _ _ ?_;clear hK K;refine Zy (t:=false) rfl ?_;rw[if_neg (by simp)];refine Zc ?_;refine Zz ?_;refine Zz ?_;refine Zx [(54,.v (.bool false)),(59,.v (.bool true))] Zg hnt fun K hK=>?_
      refine And.intro (Yy hk) ?_;refine And.intro (ZZ hi) ?_;refine hK _ _ ?_;clear hK K;refine Zy (t:=true) rfl ?_;rw[if_pos rfl];refine Zz ?_;refine Zx [(61,.ag [.sl 2 [] none,.v (.int .i64 k),.v (.int .i64 i),.sl 4 (eTms A) none])] Zg hnt fun K hK=>?_;refine And.intro (Xl) ?_;refine hK _ _ ?_;clear hK K;refine Zu ?_
      exact Zj rfl
    ·rw[if_neg h1] at hp'
     have hk:k=0:=Classical.byContradiction fun h=>h1 (.inl h)
     have hi:¬ i<ins:=fun h=>h1 (.inr h)
     obtain⟨d,hd'⟩:∃ d,i-ins=d:=⟨_,rfl⟩
     have hwd:IntKind.i64.wrap (i-ins)=d:=by rw[hd'];exact IntWalk.i64_in _ (by omega)
     rw[Yh (x:=i-ins),hwd] at hp'
     by_cases h3:(n:Int)≤d
     ·rw[if_neg (by omega),if_pos h3,Yh] at hp'
      rw[hp',Rn.ez_ok (p:=(Tm.mk [] k (IntKind.i64.wrap (i-(xs.length:Int))) A,(⟨left,dry,count,0⟩:Nm.St))) rfl,ed]
      dsimp only
      rw[hdc]
      refine Zz ?_;refine Zz ?_;refine Zx [(27,.v (.int .i64 (↑a.length))),(28,.v (.bool false))] Zg hnt fun K hK=>?_;refine And.intro (Zq (by rw[Zs])) ?_;refine And.intro (Zf (by omega)) ?_;refine hK _ _ ?_;clear hK K;refine Zy (t:=false) rfl ?_;rw[if_neg (by simp)];refine Zc ?_;refine Zz ?_;refine Zz ?_;refine Zx [(54,.v (.bool false)),(59,.v (.bool false))] Zg hnt fun K hK=>?_
      refine And.intro (Yy hk) ?_;refine And.intro (Zf hi) ?_;refine hK _ _ ?_;clear hK K;refine Zy (t:=false) rfl ?_;rw[if_neg (by simp)];refine Zw ?_;refine Zz ?_;refine Zx [(65,.v (.int .i64 (d)))] Zg hnt fun K hK=>?_;refine And.intro (Zq (by exact hwd)) ?_;refine hK _ _ ?_;clear hK K;refine Zz ?_;refine Zz ?_;refine Zx [(68,.v (.bool true))] Zg hnt fun K hK=>?_
      refine And.intro (ZZ h3) ?_;refine hK _ _ ?_;clear hK K;refine Zy (t:=true) rfl ?_;rw[if_pos rfl];refine Zz ?_;refine Zx [(72,.v (.int .i64 (↑xs.length)))] Zg hnt fun K hK=>?_;refine And.intro (Zq (by rw[Zs])) ?_;refine hK _ _ ?_;clear hK K;refine Zz ?_;refine Zx [(76,.ag [.sl 2 [] none,.v (.int .i64 k),.v (.int .i64 (IntKind.i64.wrap (i - ↑xs.length))),.sl 4 (eTms A) none])] Zg hnt fun K hK=>?_
      refine And.intro (Xl) ?_;refine hK _ _ ?_;clear hK K;refine Zu ?_
      exact Zj rfl
     ·have hn1:IntKind.i64.wrap ((n:Int)-1)=(n:Int)-1:=IntWalk.i64_in _ (by omega)
      have hn3:IntKind.i64.wrap ((n:Int)-1-d)=(n:Int)-1-d:=IntWalk.i64_in _ (by omega)
      by_cases h4:d<(n:Int)-xs.length
      ·rw[if_pos h4] at hp'
       rw[hp',Rn.ez_ok (p:=(Tm.mk [] k i A,(⟨left,dry,count,0⟩:Nm.St))) rfl,ed]
       dsimp only
       rw[hdc]
       refine Zz ?_;refine Zz ?_;refine Zx [(27,.v (.int .i64 (↑a.length))),(28,.v (.bool false))] Zg hnt fun K hK=>?_;refine And.intro (Zq (by rw[Zs])) ?_;refine And.intro (Zf (by omega)) ?_;refine hK _ _ ?_;clear hK K;refine Zy (t:=false) rfl ?_;rw[if_neg (by simp)];refine Zc ?_;refine Zz ?_;refine Zz ?_;refine Zx [(54,.v (.bool false)),(59,.v (.bool false))] Zg hnt fun K hK=>?_
       refine And.intro (Yy hk) ?_;refine And.intro (Zf hi) ?_;refine hK _ _ ?_;clear hK K;refine Zy (t:=false) rfl ?_;rw[if_neg (by simp)];refine Zw ?_;refine Zz ?_;refine Zx [(65,.v (.int .i64 (d)))] Zg hnt fun K hK=>?_;refine And.intro (Zq (by exact hwd)) ?_;refine hK _ _ ?_;clear hK K;refine Zz ?_;refine Zz ?_;refine Zx [(68,.v (.bool false))] Zg hnt fun K hK=>?_
       refine And.intro (Zf h3) ?_;refine hK _ _ ?_;clear hK K;refine Zy (t:=false) rfl ?_;rw[if_neg (by simp)];refine Zw ?_;refine Zz ?_;refine Zx [(78,.v (.int .i64 ((↑n-1)))),(80,.v (.int .i64 ((↑n-1-d))))] Zg hnt fun K hK=>?_;refine And.intro (Zq (by exact hn1)) ?_;refine And.intro (Zq (by exact hn3)) ?_;refine hK _ _ ?_;clear hK K;refine Zz ?_
       refine Zz ?_;refine Zx [(83,.v (.int .i64 (↑xs.length))),(84,.v (.bool true))] Zg hnt fun K hK=>?_;refine And.intro (Zq (by rw[Zs])) ?_;refine And.intro (ZZ (by omega)) ?_;refine hK _ _ ?_;clear hK K;refine Zy (t:=true) rfl ?_;rw[if_pos rfl];refine Zz ?_;refine Zx [(85,.ag [.sl 2 [] none,.v (.int .i64 k),.v (.int .i64 i),.sl 4 (eTms A) none])] Zg hnt fun K hK=>?_
       refine And.intro (Xl) ?_;refine hK _ _ ?_;clear hK K;refine Zu ?_
       exact Zj rfl
      ·rw[if_neg h4,if_neg h3] at hp'
       have hdx:((n:Int)-1-d).toNat<xs.length:=by omega
       obtain⟨x0,hx0⟩:∃ x0,xs[((n:Int)-1-d).toNat]=x0:=⟨_,rfl⟩
       have hx1:(eTms xs).getD ((n:Int)-1-d).toNat []=eTm x0:=by rw[ZX xs _ hdx,hx0]
       have hx2:xs.getD ((n:Int)-1-d).toNat Nm.tz=x0:=by rw[List.getD_eq_getElem?_getD,List.getElem?_eq_getElem hdx,←hx0];rfl
       have hxm:=hx x0 (hx0 ▸ List.getElem_mem hdx)
       obtain⟨y,hy⟩:∃ y,IntKind.i64.wrap (IntKind.i64.wrap (ins+(n:Int))-(xs.length:Int))=y:=⟨_,rfl⟩
       have hxf:x0.full≤1000000000 * 171:=by
        have h5:=Bnd.full x0 hxm.2.1
        have h6:x0.size * (B+1)≤1000000000 * 171:=Nat.mul_le_mul hxm.2.2 (by omega)
        omega
       have hU:=Fk x0 hxm.1 B hxm.2.1 y (by omega)
       have huw:=Nm.grown_wide hxm.1 y
       have hub:=hxm.2.1.grown y
       have huf:=PJ x0 y
       rw[hx2,Yh (x:=ins+(n:Int)),Yh (x:=IntKind.i64.wrap (ins+(n:Int))-(xs.length:Int)),hy] at hp'
       obtain⟨⟨vb,vk,vi,va⟩,hv⟩:∃ v,Nm.grown x0 y=v:=⟨_,rfl⟩
       rw[hv] at hp' hU huw hub huf
       rw[Zv x0] at hx1 hU
       rw[Zv] at hU
       dsimp only[Tm.binds,Tm.kind,Tm.index,Tm.args] at hU
       obtain⟨v1,v2,v3⟩:=huw.inv
       obtain⟨u1,u2,u3⟩:=hub.inv
       rw[Tm.full_eq] at huf
       by_cases hbl:vb.length=A.length
       ·have hbl2:¬ (Tm.mk vb vk vi va).binds.length≠A.length:=fun h=>h hbl
        rw[if_neg hbl2] at hp'
        obtain⟨r,hr⟩:∃ r,Nm.through f A vb.length (.mk [] vk vi va) 0 ⟨left,dry,count,0⟩=r:=⟨_,rfl⟩
        have hpw:Nm.putW (Nm.through f) (.mk vb vk vi va) A ⟨left,dry,count,0⟩=(.mk (vb.drop A.length) r.1.kind r.1.index r.1.args,r.2):=by
         rw[←hr]
         unfold Nm.putW
         rw[if_neg (by simp[Tm.binds];omega)];rfl
        have hB:=ih ⟨left,dry,count,0⟩ A vb.length vk vi va 0 w2s d2s (fun _=>by dsimp only;omega) (.mk _ _ _ _ (by simp) v2 v3) (.mk _ _ _ _ (by simp[Ty.sizes]) u2 u3) (fun t ht=>⟨hOw t ht,hAg t ht⟩) (by omega) v1 (by rw[Tm.full_eq];simp[Ty.sizes];omega)
        rw[hr] at hB
        rw[hpw] at hp'
        have hez:Rn.ez p=Rn.ez r:=by
         by_cases hre:r.2.e=0
         ·have e1:Rn.ez p=p.1:=Rn.ez_ok (by rw[hp'];exact hre)
          have e2:Rn.ez r=r.1:=Rn.ez_ok hre
          rw[e1,e2,hp']
          have h7:=(Rn.through_bs f A vb.length [] vk vi va 0 ⟨left,dry,count,0⟩).2
          have h8:Nm.wr (0+(([]:List Ty).length:Int))=0:=by rw[Yh,show (0:Int)+((([]:List Ty).length:Nat):Int)=0 by simp];exact IntWalk.i64_in 0 (by omega)
          rw[h8,hr] at h7
          have hfp:0<f:=by
           rcases Nat.eq_zero_or_pos f with h0 | h0
           ·exfalso
            subst h0
            have:=w2s.e0 rfl
            dsimp only at this
            omega
           ·exact h0
          exact(h7 hre hfp).symm
         ·have e1:Rn.ez p=Nm.tz:=Rn.ez_no (by rw[hp'];exact hre)
          have e2:Rn.ez r=Nm.tz:=Rn.ez_no hre
          rw[e1,e2]
        rw[hez,hp']
        obtain⟨⟨zb,zk,zi,za⟩,hz⟩:∃ z,Rn.ez r=z:=⟨_,rfl⟩
        rw[hz] at hB ⊢
        unfold mE at hB
        dsimp only at hB ⊢
        rw[hdc] at hB
        rw[Zv] at hB ⊢
        dsimp only[Tm.binds,Tm.kind,Tm.index,Tm.args] at hB ⊢
        refine Zz ?_;refine Zz ?_;refine Zx [(27,.v (.int .i64 (↑a.length))),(28,.v (.bool false))] Zg hnt fun K hK=>?_;refine And.intro (Zq (by rw[Zs])) ?_;refine And.intro (Zf (by omega)) ?_;refine hK _ _ ?_;clear hK K;refine Zy (t:=false) rfl ?_;rw[if_neg (by simp)];refine Zc ?_;refine Zz ?_;refine Zz ?_;refine Zx [(54,.v (.bool false)),(59,.v (.bool false))] Zg hnt fun K hK=>?_
        refine And.intro (Yy hk) ?_;refine And.intro (Zf hi) ?_;refine hK _ _ ?_;clear hK K;refine Zy (t:=false) rfl ?_;rw[if_neg (by simp)];refine Zw ?_;refine Zz ?_;refine Zx [(65,.v (.int .i64 (d)))] Zg hnt fun K hK=>?_;refine And.intro (Zq (by exact hwd)) ?_;refine hK _ _ ?_;clear hK K;refine Zz ?_;refine Zz ?_;refine Zx [(68,.v (.bool false))] Zg hnt fun K hK=>?_
        refine And.intro (Zf h3) ?_;refine hK _ _ ?_;clear hK K;refine Zy (t:=false) rfl ?_;rw[if_neg (by simp)];refine Zw ?_;refine Zz ?_;refine Zx [(78,.v (.int .i64 ((↑n-1)))),(80,.v (.int .i64 ((↑n-1-d))))] Zg hnt fun K hK=>?_;refine And.intro (Zq (by exact hn1)) ?_;refine And.intro (Zq (by exact hn3)) ?_;refine hK _ _ ?_;clear hK K;refine Zz ?_
        refine Zz ?_;refine Zx [(83,.v (.int .i64 (↑xs.length))),(84,.v (.bool false))] Zg hnt fun K hK=>?_;refine And.intro (Zq (by rw[Zs])) ?_;refine And.intro (Zf (by omega)) ?_;refine hK _ _ ?_;clear hK K;refine Zy (t:=false) rfl ?_;rw[if_neg (by simp)];refine Zw ?_;refine Zz ?_;refine Zx [(88,.q [.sl 2 (eTys x0.binds) none,.v (.int .i64 x0.kind),.v (.int .i64 x0.index),.sl 4 (eTms x0.args) none]),(94,.v (.int .i64 (↑xs.length))),(95,.v (.int .i64 (y)))] Zg hnt fun K hK=>?_
        refine And.intro (⟨by omega,by rw[Zs];omega⟩) ?_;refine And.intro (Zn.of_eq (by rw[hx1])) ?_;refine And.intro (Zq (by rw[Zs])) ?_;refine And.intro (Zq (by exact hy)) ?_;refine Ze (hU) ?_;refine hK _ _ ?_;clear hK K;refine Zz ?_;refine Zz ?_;refine Zx [(99,.v (.int .i64 (↑vb.length))),(102,.v (.int .i64 (↑A.length))),(103,.v (.bool false))] Zg hnt fun K hK=>?_
        refine And.intro (Zq (by rw[Zr])) ?_;refine And.intro (Zq (by rw[Zs])) ?_;refine And.intro (Yy (by omega)) ?_;refine hK _ _ ?_;clear hK K;refine Zy (t:=false) rfl ?_;rw[if_neg (by simp)];refine Zw ?_;refine Zz ?_;refine Zx [(114,.sl 4 (eTms A) none),(117,.v (.int .i64 (↑vb.length)))] Zg hnt fun K hK=>?_;refine And.intro ((Zn.untag _ _ _)) ?_
        refine And.intro (Zq (by rw[Zr])) ?_;refine Ze (hB) ?_;refine hK _ _ ?_;clear hK K;refine Zu ?_
        exact Zj rfl
       ·have hbl2:(Tm.mk vb vk vi va).binds.length≠A.length:=hbl
        rw[if_pos hbl2] at hp'
        rw[hp',Rn.ez_no (Nm.fail_ne _),Xy]
        have hfl:Nm.fail ⟨left,dry,count,0⟩ 1=⟨left,dry,count,1⟩:=rfl
        rw[hfl,hdc1]
        dsimp only
        refine Zz ?_;refine Zz ?_;refine Zx [(27,.v (.int .i64 (↑a.length))),(28,.v (.bool false))] Zg hnt fun K hK=>?_;refine And.intro (Zq (by rw[Zs])) ?_;refine And.intro (Zf (by omega)) ?_;refine hK _ _ ?_;clear hK K;refine Zy (t:=false) rfl ?_;rw[if_neg (by simp)];refine Zc ?_;refine Zz ?_;refine Zz ?_;refine Zx [(54,.v (.bool false)),(59,.v (.bool false))] Zg hnt fun K hK=>?_
        refine And.intro (Yy hk) ?_;refine And.intro (Zf hi) ?_;refine hK _ _ ?_;clear hK K;refine Zy (t:=false) rfl ?_;rw[if_neg (by simp)];refine Zw ?_;refine Zz ?_;refine Zx [(65,.v (.int .i64 (d)))] Zg hnt fun K hK=>?_;refine And.intro (Zq (by exact hwd)) ?_;refine hK _ _ ?_;clear hK K;refine Zz ?_;refine Zz ?_;refine Zx [(68,.v (.bool false))] Zg hnt fun K hK=>?_
        refine And.intro (Zf h3) ?_;refine hK _ _ ?_;clear hK K;refine Zy (t:=false) rfl ?_;rw[if_neg (by simp)];refine Zw ?_;refine Zz ?_;refine Zx [(78,.v (.int .i64 ((↑n-1)))),(80,.v (.int .i64 ((↑n-1-d))))] Zg hnt fun K hK=>?_;refine And.intro (Zq (by exact hn1)) ?_;refine And.intro (Zq (by exact hn3)) ?_;refine hK _ _ ?_;clear hK K;refine Zz ?_
        refine Zz ?_;refine Zx [(83,.v (.int .i64 (↑xs.length))),(84,.v (.bool false))] Zg hnt fun K hK=>?_;refine And.intro (Zq (by rw[Zs])) ?_;refine And.intro (Zf (by omega)) ?_;refine hK _ _ ?_;clear hK K;refine Zy (t:=false) rfl ?_;rw[if_neg (by simp)];refine Zw ?_;refine Zz ?_;refine Zx [(88,.q [.sl 2 (eTys x0.binds) none,.v (.int .i64 x0.kind),.v (.int .i64 x0.index),.sl 4 (eTms x0.args) none]),(94,.v (.int .i64 (↑xs.length))),(95,.v (.int .i64 (y)))] Zg hnt fun K hK=>?_
        refine And.intro (⟨by omega,by rw[Zs];omega⟩) ?_;refine And.intro (Zn.of_eq (by rw[hx1])) ?_;refine And.intro (Zq (by rw[Zs])) ?_;refine And.intro (Zq (by exact hy)) ?_;refine Ze (hU) ?_;refine hK _ _ ?_;clear hK K;refine Zz ?_;refine Zz ?_;refine Zx [(99,.v (.int .i64 (↑vb.length))),(102,.v (.int .i64 (↑A.length))),(103,.v (.bool true))] Zg hnt fun K hK=>?_
        refine And.intro (Zq (by rw[Zr])) ?_;refine And.intro (Zq (by rw[Zs])) ?_;refine And.intro (Y6 (by omega)) ?_;refine hK _ _ ?_;clear hK K;refine Zy (t:=true) rfl ?_;rw[if_pos rfl];refine Zz ?_;refine Zx [] Zg hnt fun _ z9=>z9 _ _ ?_;refine Zz ?_;refine Zx [(107,.ag [.sl 2 [] none,.v (.int .i64 0),.v (.int .i64 0),.sl 4 [] none])] Zg hnt fun K hK=>?_
        refine And.intro (Xl) ?_;refine hK _ _ ?_;clear hK K;refine Zu ?_
        exact Zj rfl
theorem EW {B:Nat}(hB:B≤170)(f:Nat):BdD B f:=by
 induction f with
 | zero=>
  intro s xs n k i a ins hs hd hf hw hb hx hn hn2 hins
  have he:s.e≠0:=fun h=>by have:=hf h;have:=hs.e0 h;omega
  have h:=SX (f:=0) hB s (fun h=>by rw[Rn.unit_e he] at h;cases h) xs n k i a ins hs hd (fun h=>absurd h he) hw hb hx hn hn2 hins
  rw[Rn.through_e (0+1) xs n _ ins he] at h
  rw[Rn.through_e 0 xs n _ ins he]
  exact h
 | succ f ih=>exact fun s xs n k i a ins hs hd hf hw hb hx hn hn2 hins=>SX hB s (fun _=>ih) xs n k i a ins hs hd hf hw hb hx hn hn2 hins
def TRNP_31:TI:=⟨4,true,[Value.slice none 0 0,Value.int IntKind.i64 0,Value.int IntKind.i64 0,Value.slice none 0 0],[(0,1,false),(1,2,true),(3,1,false)],none,64,6,none,false⟩
theorem Ns:TypOk Tryz.prog 31 TRNP_31:=by constructor <;> kernel_rfl
def TRNP_3:TI:=⟨1,false,[Value.int IntKind.i64 0],[],none,8,2,none,false⟩
theorem IS:TypOk Tryz.prog 3 TRNP_3:=by constructor <;> kernel_rfl
def TRNP_224:TI:=⟨3,true,[Value.int IntKind.i64 0,Value.int IntKind.i64 0,Value.int IntKind.i64 0],[(0,1,false),(1,1,false),(2,1,false)],none,24,6,none,false⟩
theorem Q7:TypOk Tryz.prog 224 TRNP_224:=by constructor <;> kernel_rfl
def TRNP_22:TI:=⟨1,false,[Value.slice none 0 0],[],some 104,24,5,none,false⟩
theorem Np:TypOk Tryz.prog 22 TRNP_22:=by constructor <;> kernel_rfl
def TRNP_29:TI:=⟨1,false,[Value.slice none 0 0],[],some 31,24,5,none,false⟩
theorem Nr:TypOk Tryz.prog 29 TRNP_29:=by constructor <;> kernel_rfl
def TRNP_222:TI:=⟨1,false,[Value.pointer none],[],none,8,4,none,false⟩
theorem Q8:TypOk Tryz.prog 222 TRNP_222:=by constructor <;> kernel_rfl
def TRNP_28:TI:=⟨2,true,[Value.int IntKind.i64 0,Value.int IntKind.i64 0],[(0,1,false),(1,1,false)],none,16,6,none,true⟩
theorem Nq:TypOk Tryz.prog 28 TRNP_28:=by constructor <;> kernel_rfl
def TRNP_104:TI:=⟨2,true,[Value.slice none 0 0,Value.int IntKind.i64 0],[(0,1,false),(1,1,false)],none,32,6,none,false⟩
theorem Q9:TypOk Tryz.prog 104 TRNP_104:=by constructor <;> kernel_rfl
def TRNP:List (Nat×TI):=[(31,TRNP_31),(3,TRNP_3),(224,TRNP_224),(22,TRNP_22),(29,TRNP_29),(222,TRNP_222),(28,TRNP_28),(104,TRNP_104)]
theorem Yr:Zh Tryz.prog TRNP:=(((((((((Zh.nil _).cons Q9).cons Nq).cons Q8).cons Nr).cons Np).cons Q7).cons IS).cons Ns)
def mD (left c e:Int):List (Key×D):=[(.c 0 0,.v (.int .i64 left)),(.c 0 1,.v (.int .i64 c)),(.c 0 2,.v (.int .i64 e))]
theorem C4 (s:Nm.St)(xs:List Tm)(n:Nat)(k i:Int)(a:List Tm)(ins:Int)(f:Nat)(he:(Nm.through f xs n (.mk [] k i a) ins s).2.e=0)(hf:0<f)(hi:Nm.wr ins=ins):(Nm.through f xs n (.mk [] k i a) ins s).1.binds=[]:=by
 have h:=(Rn.through_bs f xs n [] k i a ins s).2
 rw[show Nm.wr (ins+(([]:List Ty).length:Int))=ins by rw[show ins+((([]:List Ty).length:Nat):Int)=ins by simp];exact hi] at h
 rw[h he hf];rfl
theorem B4 (left:Int):Rn.dc ⟨left,false,0,0⟩=0:=by unfold Rn.dc;dsimp only;rw[if_neg (by decide)]
set_option maxHeartbeats 4000000 in
theorem Bv {B:Nat}(hB:B≤170)(left:Int)(h0:0≤left∧left≤1000000000)(t:Tm)(xs:List Tm)(hw:ZB t)(hb:Bnd B t)(hf:t.full≤1000000000000000)(hx:∀ x∈xs,ZB x∧Bnd B x∧x.size≤1000000000)(hl:xs.length=t.binds.length):
  ZE Tryz.prog 133 [.p 0 0,.ag (eTm t),.sl 4 (eTms xs) none] (mD left 0 0) (mD (Nm.put 100001 t xs ⟨left,false,0,0⟩).2.left (Rn.dc (Nm.put 100001 t xs ⟨left,false,0,0⟩).2) (Nm.put 100001 t xs ⟨left,false,0,0⟩).2.e) (.ag (eTm (Rn.ez (Nm.put 100001 t xs ⟨left,false,0,0⟩)))):=by
 obtain⟨bs,k,i,a⟩:=t
 obtain⟨w1,w2,w3⟩:=hw.inv
 obtain⟨b1,b2,b3⟩:=hb.inv
 dsimp only[Tm.binds] at hl
 rw[Tm.full_eq] at hf
 have hB:=EW hB 100001 ⟨left,false,0,0⟩ xs bs.length k i a 0 ⟨h0,⟨by show (0:Int)≤0;decide,by show (0:Int)≤100001;decide⟩,fun _=>by show (0:Int)≤100000;decide⟩ (fun _=>rfl) (fun _=>by show (100001:Int)-0≤((100001:Nat):Int);decide) (.mk _ _ _ _ (by simp) w2 w3) (.mk _ _ _ _ (by simp[Ty.sizes]) b2 b3) hx (by omega) w1 (by rw[Tm.full_eq];simp[Ty.sizes];omega)
 obtain⟨r,hr⟩:∃ r,Nm.through 100001 xs bs.length (.mk [] k i a) 0 ⟨left,false,0,0⟩=r:=⟨_,rfl⟩
 have hp:Nm.put 100001 (.mk bs k i a) xs ⟨left,false,0,0⟩=(.mk [] r.1.kind r.1.index r.1.args,r.2):=by
  rw[←hr]
  unfold Nm.put Nm.putW
  rw[if_neg (by simp[Tm.binds,hl])]
  dsimp only[Tm.binds,Tm.kind,Tm.index,Tm.args]
  rw[hl,List.drop_length]
 have hbb:=fun h=>C4 ⟨left,false,0,0⟩ xs bs.length k i a 0 100001 h (by decide) (by rw[Yh];exact IntWalk.i64_in 0 (by omega))
 rw[hr] at hB hbb
 rw[hp]
 have hez:Rn.ez ((Tm.mk [] r.1.kind r.1.index r.1.args,r.2):Tm×Nm.St)=Rn.ez r:=by
  by_cases hre:r.2.e=0
  ·rw[Rn.ez_ok (p:=r) hre,Rn.ez_ok (p:=(Tm.mk [] r.1.kind r.1.index r.1.args,r.2)) hre]
   have:=hbb hre
   obtain⟨⟨c1,c2,c3,c4⟩,st⟩:=r
   dsimp only[Tm.binds] at this
   subst this;rfl
  ·rw[Rn.ez_no (p:=r) hre,Rn.ez_no (p:=(Tm.mk [] r.1.kind r.1.index r.1.args,r.2)) hre]
 have hzb:(Rn.ez r).binds=[]:=by
  by_cases hre:r.2.e=0
  ·rw[Rn.ez_ok (p:=r) hre];exact hbb hre
  ·rw[Rn.ez_no (p:=r) hre];rfl
 rw[hez]
 obtain⟨⟨zb,zk,zi,za⟩,hz⟩:∃ z,Rn.ez r=z:=⟨_,rfl⟩
 rw[hz] at hB hzb ⊢
 dsimp only[Tm.binds] at hzb
 subst hzb
 obtain⟨q,hq⟩:∃ q,r.2=q:=⟨_,rfl⟩
 dsimp only
 rw[hq] at hB ⊢
 unfold mE at hB
 rw[B4] at hB
 unfold mD
 rw[Zv] at hB ⊢
 rw[Zv]
 dsimp only[Tm.binds,Tm.kind,Tm.index,Tm.args] at hB ⊢
 refine Zm 1 49 [ResultVar.cell 6 31] Yr Tryz.func133 rfl Tryz.ntmps133 rfl fun cx hnt hn0=>?_
 ·skip
  refine Zz ?_;refine Zx [] Yr hnt fun _ z9=>z9 _ _ ?_;refine Zz ?_;refine Zz ?_;refine Zx [(12,.v (.bool true)),(15,.v (.int .i64 (↑xs.length))),(18,.v (.int .i64 (↑bs.length))),(19,.v (.bool false))] Yr hnt fun K hK=>?_;refine And.intro (XU rfl) ?_;refine And.intro (Zq (by rw[Zs])) ?_;refine And.intro (Zq (by rw[Zr])) ?_
  refine And.intro (Zf (by omega)) ?_;refine hK _ _ ?_;clear hK K;refine Zy (t:=false) rfl ?_;rw[if_neg (by simp)];refine Zw ?_;refine Zz ?_;refine Zz ?_;refine Zx [(28,.v (.bool false))] Yr hnt fun K hK=>?_;refine And.intro (Yy rfl) ?_;refine hK _ _ ?_;clear hK K;refine Zy (t:=false) rfl ?_;rw[if_neg (by simp)];refine Zw ?_;refine Zz ?_
  refine Zx [(38,.v (.int .i64 (↑bs.length)))] Yr hnt fun K hK=>?_;refine And.intro (Zq (by rw[Zr])) ?_;refine Ze (hB) ?_;refine hK _ _ ?_;clear hK K
  have hdr:((eTys bs).take ((eTys bs).length:Int).toNat).drop ((xs.length:Nat):Int).toNat=[]:=by
   rw[Int.toNat_natCast,Int.toNat_natCast,List.take_length,List.drop_eq_nil_of_le (by rw[Zr];omega)]
  refine Zz ?_;refine Zx [(44,.v (.int .i64 (↑xs.length))),(45,.sl 2 [] none)] Yr hnt fun K hK=>?_;refine And.intro (Zq (by rw[Zs])) ?_;refine And.intro (⟨by omega,by rw[Zr];omega⟩) ?_;refine And.intro (Zn.of_eq (by simp only[Option.getD];rw[hdr])) ?_;refine And.intro (⟨rfl,by decide⟩) ?_;refine hK _ _ ?_;clear hK K;refine Zz ?_;refine Zx [(48,.ag [.sl 2 (eTys []) none,.v (.int .i64 zk),.v (.int .i64 zi),.sl 4 (eTms za) none])] Yr hnt fun K hK=>?_
  refine And.intro (Xl) ?_;refine hK _ _ ?_;clear hK K;refine Zu ?_
  exact Zj rfl
theorem DL (left c e:Int)(z:Tm)(hz:e=0→z.size≤1000000)(e':Int)(he':(if e=0∧Li.rt z=false then 2 else e)=e'):
  ZE Tryz.prog 132 [.p 0 0,.ag (eTm z)] (mD left c e) (mD left c e') (.tu [.ag (eTm (if e'≠0 then Nm.tz else z)),.v (.int .i64 e')]):=by
 unfold mD
 by_cases he:e=0
 ·subst he
  have hR:=Uo z (hz rfl)
  cases hr:Li.rt z with
  | true=>
   rw[hr] at hR he'
   rw[if_neg (by simp)] at he'
   subst he'
   rw[if_neg (by simp)]
   rw[Zv] at hR ⊢
   refine Zm 1 30 [ResultVar.cell 4 31,ResultVar.tmp 5] Yr Tryz.func132 rfl Tryz.ntmps132 rfl fun cx hnt hn0=>?_
   ·skip
    refine Zz ?_;refine Zx [] Yr hnt fun _ z9=>z9 _ _ ?_;refine Zz ?_;refine Zz ?_;refine Zx [(10,.v (.bool true))] Yr hnt fun K hK=>?_;refine And.intro (XU rfl) ?_;refine Ze (hR) ?_;refine hK _ _ ?_;clear hK K;refine Zy (t:=false) rfl ?_;rw[if_neg (by simp)];refine Zw ?_;refine Zz ?_;refine Zz ?_;refine Zx [(23,.v (.bool false))] Yr hnt fun K hK=>?_
    refine And.intro (Yy rfl) ?_;refine hK _ _ ?_;clear hK K;refine Zy (t:=false) rfl ?_;rw[if_neg (by simp)];refine Zw ?_;refine Zz ?_;refine Zx [] Yr hnt fun _ z9=>z9 _ _ ?_;refine Zu ?_
    exact Zj rfl
  | false=>
   rw[hr] at hR he'
   rw[if_pos ⟨rfl,rfl⟩] at he'
   subst he'
   rw[if_pos (by decide),Xy]
   rw[Zv] at hR ⊢
   refine Zm 1 30 [ResultVar.cell 4 31,ResultVar.tmp 5] Yr Tryz.func132 rfl Tryz.ntmps132 rfl fun cx hnt hn0=>?_
   ·skip
    refine Zz ?_;refine Zx [] Yr hnt fun _ z9=>z9 _ _ ?_;refine Zz ?_;refine Zz ?_;refine Zx [(10,.v (.bool true))] Yr hnt fun K hK=>?_;refine And.intro (XU rfl) ?_;refine Ze (hR) ?_;refine hK _ _ ?_;clear hK K;refine Zy (t:=true) rfl ?_;rw[if_pos rfl];refine Zx [] Yr hnt fun _ z9=>z9 _ _ ?_;refine Zz ?_
    refine Zz ?_;refine Zx [(23,.v (.bool true))] Yr hnt fun K hK=>?_;refine And.intro (Y6 (by decide)) ?_;refine hK _ _ ?_;clear hK K;refine Zy (t:=true) rfl ?_;rw[if_pos rfl];refine Zz ?_;refine ZP [(24,.ag [.sl 2 [] none,.v (.int .i64 0),.v (.int .i64 0),.sl 4 [] none])] Yr hnt fun K hK=>?_;refine And.intro (Xl) ?_;refine hK _ _ (by kernel_rfl) ?_;clear hK K
    refine Zu ?_
    exact Zj rfl
 ·rw[if_neg (fun h=>he h.1)] at he'
  subst he'
  rw[if_pos he,Xy,Zv]
  refine Zm 1 30 [ResultVar.cell 4 31,ResultVar.tmp 5] Yr Tryz.func132 rfl Tryz.ntmps132 rfl fun cx hnt hn0=>?_
  ·skip
   refine Zz ?_;refine Zx [] Yr hnt fun _ z9=>z9 _ _ ?_;refine Zz ?_;refine Zz ?_;refine Zx [(10,.v (.bool false))] Yr hnt fun K hK=>?_;refine And.intro (XT he) ?_;refine hK _ _ ?_;clear hK K;refine Zy (t:=false) rfl ?_;rw[if_neg (by simp)];refine Zw ?_;refine Zz ?_;refine Zz ?_;refine Zx [(23,.v (.bool true))] Yr hnt fun K hK=>?_
   refine And.intro (Y6 he) ?_;refine hK _ _ ?_;clear hK K;refine Zy (t:=true) rfl ?_;rw[if_pos rfl];refine Zz ?_;refine ZP [(24,.ag [.sl 2 [] none,.v (.int .i64 0),.v (.int .i64 0),.sl 4 [] none])] Yr hnt fun K hK=>?_;refine And.intro (Xl) ?_;refine hK _ _ (by kernel_rfl) ?_;clear hK K;refine Zu ?_
   exact Zj rfl
theorem FV (κ:Nat)(left c e:Int):(mD left c e).map (Wy (fun _=>κ))=[(.c κ 0,.v (.int .i64 left)),(.c κ 1,.v (.int .i64 c)),(.c κ 2,.v (.int .i64 e))]:=rfl
set_option maxHeartbeats 4000000 in
theorem Bm {B:Nat}(hB:B≤170)(left:Int)(h0:0≤left∧left≤1000000)(t:Tm)(xs:List Tm)(hw:ZB t)(hb:Bnd B t)(hf:t.full≤1000000000000000)(hx:∀ x∈xs,ZB x∧Bnd B x∧x.size≤1000000000)(hl:xs.length=t.binds.length):
  Zd Tryz.prog 116 [.ag (eTm t),.sl 4 (eTms xs) none,.v (.int .i64 left)] (.tu [.ag (eTm (Nm.Put t xs left false).1),.v (.int .i64 (Nm.Put t xs left false).2.left),.v (.int .i64 (Nm.Put t xs left false).2.e)]):=by
 have hP:=Bv hB left ⟨h0.1,by omega⟩ t xs hw hb hf hx hl
 have hg:=Nm.putW_grow (B:=B) (f:=100001) (Nm.through_grow B 100001) (t:=t) (xs:=xs) (s:=⟨left,false,0,0⟩) ⟨⟨h0.1,by show left≤1000000000;omega⟩,⟨by show (0:Int)≤0;decide,by show (0:Int)≤100001;decide⟩,fun _=>by show (0:Int)≤100000;decide⟩ (fun _=>by show (100001:Int)-0≤((100001:Nat):Int);decide) hb (fun x h=>(hx x h).2.1)
 have hwk:YE (Nm.put 100001 t xs ⟨left,false,0,0⟩).2:=UH (thr:=Nm.through 100001) (fun _ _ _ _ _ h=>Xp 100001 _ _ _ _ _ h) t xs ⟨left,false,0,0⟩ ⟨⟨h0.1,by show left≤1000000000;omega⟩,⟨by show (0:Int)≤0;decide,by show (0:Int)≤100001;decide⟩,fun _=>by show (0:Int)≤100000;decide⟩
 have hg:Nm.Gr B 100001 t ⟨left,false,0,0⟩ (Nm.put 100001 t xs ⟨left,false,0,0⟩):=hg
 unfold Nm.Put
 obtain⟨p,hp⟩:∃ p,Nm.put 100001 t xs ⟨left,false,0,0⟩=p:=⟨_,rfl⟩
 rw[hp] at hP hg hwk ⊢
 clear hp
 obtain⟨x,sl,sd,sc,se⟩:=p
 obtain⟨e',he'⟩:∃ e',(if se=0∧Li.rt (Rn.ez (x,(⟨sl,sd,sc,se⟩:Nm.St)))=false then 2 else se)=e':=⟨_,rfl⟩
 have hD:=DL sl (Rn.dc ⟨sl,sd,sc,se⟩) se (Rn.ez (x,(⟨sl,sd,sc,se⟩:Nm.St))) (fun h=>by
  rw[Rn.ez_ok (p:=(x,(⟨sl,sd,sc,se⟩:Nm.St))) h]
  have h1:=(hg h).2.1
  have h2:=hwk.left
  dsimp only at h1 h2 ⊢
  omega) e' he'
 have hz:(Nm.done (x,⟨sl,sd,sc,se⟩)).1=(if e'≠0 then Nm.tz else Rn.ez (x,(⟨sl,sd,sc,se⟩:Nm.St)))∧(Nm.done (x,⟨sl,sd,sc,se⟩)).2.left=sl∧(Nm.done (x,⟨sl,sd,sc,se⟩)).2.e=e':=by
  have hdn:Nm.done (x,⟨sl,sd,sc,se⟩)=(fun s':Nm.St=>if s'.e≠0 then (Nm.tz,s') else (x,s')) (if se=0∧¬ (x.size≤5000∧x.depth≤60) then Nm.fail ⟨sl,sd,sc,se⟩ 2 else ⟨sl,sd,sc,se⟩):=rfl
  rw[hdn]
  by_cases h:se=0
  ·subst h
   rw[Rn.ez_ok (p:=(x,(⟨sl,sd,sc,0⟩:Nm.St))) rfl] at he' ⊢
   by_cases hr:x.size≤5000∧x.depth≤60
   ·have:Li.rt x=true:=decide_eq_true hr
    rw[this,if_neg (by simp)] at he'
    subst he'
    rw[if_neg (show ¬ ((0:Int)=0∧¬ (x.size≤5000∧x.depth≤60)) from fun h=>h.2 hr)]
    exact⟨rfl,rfl,rfl⟩
   ·have:Li.rt x=false:=decide_eq_false hr
    rw[this,if_pos ⟨rfl,rfl⟩] at he'
    subst he'
    rw[if_pos (show (0:Int)=0∧¬ (x.size≤5000∧x.depth≤60) from ⟨rfl,hr⟩)]
    exact⟨rfl,rfl,rfl⟩
  ·rw[if_neg (fun h'=>h h'.1)] at he'
   subst he'
   rw[if_neg (show ¬ (se=0∧¬ (x.size≤5000∧x.depth≤60)) from fun h'=>h h'.1)]
   dsimp only
   rw[if_pos h,if_pos h]
   exact⟨rfl,rfl,rfl⟩
 rw[hz.1,hz.2.1,hz.2.2]
 clear hz
 obtain⟨z,hzz⟩:∃ z,Rn.ez (x,(⟨sl,sd,sc,se⟩:Nm.St))=z:=⟨_,rfl⟩
 obtain⟨z',hz'⟩:∃ z',(if e'≠0 then Nm.tz else Rn.ez (x,(⟨sl,sd,sc,se⟩:Nm.St)))=z':=⟨_,rfl⟩
 rw[hz'] at hD ⊢
 rw[hzz] at hD hP
 dsimp only at hP
 obtain⟨c,hcc⟩:∃ c,Rn.dc ⟨sl,sd,sc,se⟩=c:=⟨_,rfl⟩
 rw[hcc] at hD hP
 have hP:=hP.ren (fun _=>6) (by simp[mD,Vq,D.ok,D.oks,ZQ,YF,XC,Y5,Yk,Yw]) (by intro k h1 k' h2 _;simp[mD,ZQ] at h1 h2;rw[h1,h2])
 have hD:=hD.ren (fun _=>6) (by simp[mD,Vq,D.ok,D.oks,ZQ,YF,XC,Y5,Yk,Yw]) (by intro k h1 k' h2 _;simp[mD,ZQ] at h1 h2;rw[h1,h2])
 rw[FV,FV] at hP hD
 simp only[List.map_cons,List.map_nil,D.ren,D.rens,WK,Vj] at hP hD
 rw[Zv t] at hP ⊢
 rw[Zv z'] at hD ⊢
 refine Zm 0 30 [ResultVar.cell 6 31,ResultVar.tmp 7,ResultVar.tmp 8] Yr Tryz.func116 rfl Tryz.ntmps116 rfl fun cx hnt hn0=>?_
 ·skip
  refine Zz ?_;refine Zx [] Yr hnt fun _ z9=>z9 _ _ ?_;refine Zz ?_;refine Zx [] Yr hnt fun _ z9=>z9 _ _ ?_;refine Zz ?_;refine Zx [] Yr hnt fun K hK=>?_;refine Ze (hP) ?_;refine Ze (hD) ?_;refine hK _ _ ?_;clear hK K;refine Zz ?_;refine ZP [] Yr hnt fun K hK=>?_;refine hK _ _ (by kernel_rfl) ?_;clear hK K
  refine Zu ?_
  exact Zj rfl
namespace Pn
end Pn
namespace Pn
theorem getT_bfind (l:Bd)(m:Int):SG l m=match bfind l m with | some z=>(z,true) | none=>(Tm.zero,false):=by
 have key:∀ l:Bd,Es l m=l.find? fun p=>p.1==m:=by
  intro l
  unfold Es
  induction l with
  | nil=>rfl
  | cons p l ih=>
   rw[YJ,List.find?_cons]
   by_cases h:p.1=m
   ·simp[h]
   ·have h2:(p.1==m)=false:=by simp[h]
    rw[if_neg h,h2,←ih]
    cases YJ m l <;> simp
 unfold SG bfind
 rw[key]
 cases l.find? (fun p=>p.1==m) <;> rfl
end Pn
end Go.Proofs.YtclihnccilkohaaGreat
