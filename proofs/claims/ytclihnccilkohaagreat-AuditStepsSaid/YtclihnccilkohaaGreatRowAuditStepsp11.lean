/-
  Package audit, walked in the deep way: Where. Package audit, walked in the deep way: Check, Proves. The known answer of the laws of layer 27, in plain words. The known answer of the laws of layer 27, walked. The known answer of the laws of layer 27, walked to its end. A region that draws its order, walked outside any fence, is taken into the fence that asks nothing, in a round of a loop or not. Deep values: a round of a loop over a function, walked as a call is: from where it begins, and back. Deep values: code walked within a round; a loop over an iterator that turns nothing and is never left early. Deep values: a region behind a loop over a function, whose frame bears a mark. proof.copied: a step as new memory. slices.Backward of a slice of structs of four cells: an iterator that only reads. proof.Reverse: a chain's steps turned round. RuleChecks, walked in the deep way. AuditChains, walked in the deep way. AuditSteps, walked in the deep way.
-/
import Derived.Test.YtclihnccilkohaaGreatRowAuditStepsp10
import Derived.Test.YtclihnccilkohaaGreatRowAuditStepsp7
import Derived.Test.YtclihnccilkohaaGreatRowAuditStepsp5
import Derived.Test.YtclihnccilkohaaGreatRowAuditStepsp1
import Derived.OrdersIn
import Derived.RangeFuncCalls
import Derived.Test.YtclihnccilkohaaGreatRowAuditStepsp6
import Derived.RangeFuncLeaves
import Derived.Test.YtclihnccilkohaaGreatRowAuditStepsp9
set_option maxRecDepth 100000
set_option maxHeartbeats 1000000
set_option linter.unusedVariables false
set_option linter.unusedSimpArgs false
namespace Go.Proofs.YtclihnccilkohaaGreat
open Go.RowKit
def TAUJ_34:TI:=⟨1,false,[Value.slice none 0 0],[],some 64,24,5,none,false⟩
theorem Lo:TypOk Tryz.prog 34 TAUJ_34:=by constructor <;> kernel_rfl
def TAUJ_64:TI:=⟨9,true,[Value.slice none 0 0,Value.int IntKind.i64 0,Value.int IntKind.i64 0,Value.slice none 0 0,Value.slice none 0 0,Value.int IntKind.i64 0,Value.int IntKind.i64 0,Value.slice none 0 0,Value.slice none 0 0],[(0,4,true),(4,4,true),(8,1,false)],none,152,6,none,false⟩
theorem Lt:TypOk Tryz.prog 64 TAUJ_64:=by constructor <;> kernel_rfl
def TAUJ_112:TI:=⟨10,true,[Value.slice none 0 0,Value.int IntKind.i64 0,Value.int IntKind.i64 0,Value.slice none 0 0,Value.slice none 0 0,Value.int IntKind.i64 0,Value.int IntKind.i64 0,Value.slice none 0 0,Value.slice none 0 0,Value.slice none 0 0],[(0,9,true),(9,1,false)],none,176,6,none,false⟩
theorem QB:TypOk Tryz.prog 112 TAUJ_112:=by constructor <;> kernel_rfl
def TAUJ_43:TI:=⟨3,true,[Value.int IntKind.i64 0,Value.slice none 0 0,Value.slice none 0 0],[(0,1,false),(1,1,false),(2,1,false)],none,56,6,none,false⟩
theorem Lp:TypOk Tryz.prog 43 TAUJ_43:=by constructor <;> kernel_rfl
def TAUJ_45:TI:=⟨1,false,[Value.slice none 0 0],[],some 112,24,5,none,false⟩
theorem Lq:TypOk Tryz.prog 45 TAUJ_45:=by constructor <;> kernel_rfl
def TAUJ_3:TI:=⟨1,false,[Value.int IntKind.i64 0],[],none,8,2,none,false⟩
theorem G4:TypOk Tryz.prog 3 TAUJ_3:=by constructor <;> kernel_rfl
def TAUJ_47:TI:=⟨1,true,[Value.slice none 0 0],[(0,1,false)],none,24,6,none,false⟩
theorem Lr:TypOk Tryz.prog 47 TAUJ_47:=by constructor <;> kernel_rfl
def TAUJ_50:TI:=⟨1,false,[Value.int IntKind.i64 0],[],none,8,2,none,false⟩
theorem Ls:TypOk Tryz.prog 50 TAUJ_50:=by constructor <;> kernel_rfl
def TAUJ:List (Nat×TI):=[(34,TAUJ_34),(64,TAUJ_64),(112,TAUJ_112),(43,TAUJ_43),(45,TAUJ_45),(3,TAUJ_3),(47,TAUJ_47),(50,TAUJ_50)]
theorem Yv:Zh Tryz.prog TAUJ:=(((((((((Zh.nil _).cons Ls).cons Lr).cons G4).cons Lq).cons Lp).cons QB).cons Lt).cons Lo)
namespace Au
variable (code:List Ty→List Ty→Tm→Ty→Int) (ct:Li.Pr→Int)
def firstE:List Li.Pr→Int
 | []=>0
 | p :: l=>if ct p≠0 then ct p else firstE l
def lemmas:List Lm→List Li.Pr→Nat→Int×Int
 | [],_,i=>((i:Int),0)
 | x :: l,eqs,i=>if lemma1 (code x.p.m) eqs (ct x.p) x≠0 then ((i:Int),lemma1 (code x.p.m) eqs (ct x.p) x) else lemmas l (eqs++[x.p]) (i+1)
def wh (a:List Li.Pr)(l:List Lm):Int×Int:=if firstE ct a≠0 then (-1,firstE ct a) else lemmas code ct l a 0
def LOk (x:Lm):Prop:=EqOk x.p∧Ty.sizes x.p.m≤800000∧x.l.length≤1000∧∀ y∈x.l,SOk y
theorem EqOk.ok {q:Li.Pr}(h:EqOk q):TOk q.l:=⟨by have:=Tm.size_le_full q.l;have:=h.1.1;omega,h.1.2,by have:=h.1.1;omega⟩
end Au
set_option maxHeartbeats 4000000 in
theorem CZ (b:Int)(C Mw:List Ty)(a:List Li.Pr)(ls:List Au.Lm)(ct:Li.Pr→Int)(code:List Ty→List Ty→Tm→Ty→Int) 
  (hT:∀ p∈a++ls.map (·.p),Zd Tryz.prog 46 [.ag [.v (.int .i64 b),.sl 2 (eTys C) none,.sl 2 (eTys Mw) none],.ag (VG p)] (.v (.int .i64 (ct p))))
  (hc:∀ M X t u,Yt C M t X u (code M X t u)) (hCl:C.length≤1000000) (hCs:Ty.sizes C≤800000)
  (hal:a.length≤100) (ha:∀ q∈a,Au.EqOk q) (hll:ls.length≤100) (hls:∀ x∈ls,Au.LOk x) :
  Zd Tryz.prog 15 [.ag [.v (.int .i64 b),.sl 2 (eTys C) none,.sl 2 (eTys Mw) none],.sl 9 (Yp a) none,.ag [.sl 10 (VV ls) none]] (.tu [.v (.int .i64 (Au.wh code ct a ls).1),.v (.int .i64 (Au.wh code ct a ls).2)]):=by
 have hTa:∀ j (h:j<a.length),Zd Tryz.prog 46 [.ag [.v (.int .i64 b),.sl 2 (eTys C) none,.sl 2 (eTys Mw) none],.ag (VG a[j])] (.v (.int .i64 (ct a[j]))):=fun j h=>hT _ (List.mem_append_left _ (List.getElem_mem h))
 obtain⟨E,hE⟩:∃ E:Nat→List Li.Pr,∀ j,a++(ls.take j).map (·.p)=E j:=⟨_,fun _=>rfl⟩
 have hE0:E 0=a:=by rw[←hE];simp
 have hEn:∀ j (h:j<ls.length),E (j+1)=E j++[ls[j].p]:=fun j h=>by rw[←hE,←hE,List.take_add_one,List.getElem?_eq_getElem h,List.map_append,List.append_assoc];rfl
 have hEl:∀ j,j≤ls.length→(E j).length=a.length+j:=fun j h=>by rw[←hE];simp;omega
 have hEo:∀ j,∀ q∈E j,Au.EqOk q:=fun j q hq=>by
  rw[←hE] at hq
  rcases List.mem_append.1 hq with hq | hq
  ·exact ha q hq
  ·obtain⟨x,hx,rfl⟩:=List.mem_map.1 hq
   exact(hls x (List.mem_of_mem_take hx)).1
 obtain⟨L,hL⟩:∃ L:Nat→Int,∀ j (h:j<ls.length),Au.lemma1 (code ls[j].p.m) (E j) (ct ls[j].p) ls[j]=L j:=⟨fun j=>if h:j<ls.length then Au.lemma1 (code ls[j].p.m) (E j) (ct ls[j].p) ls[j] else 0,fun j h=>by dsimp only;rw[dif_pos h]⟩
 have hLe:∀ j (h:j<ls.length),Zd Tryz.prog 43 [.ag [.v (.int .i64 b),.sl 2 (eTys C) none,.sl 2 (eTys Mw) none],.sl 9 (Yp (E j)) none,.ag (D4 ls[j])] (.v (.int .i64 (L j))):=fun j h=>by
  rw[←hL j h]
  obtain⟨g1,g2,g3,g4⟩:=hls _ (List.getElem_mem h)
  exact KE b C Mw (E j) ls[j] (ct ls[j].p) (code ls[j].p.m) (hT _ (List.mem_append_right _ (List.mem_map.2 ⟨_,List.getElem_mem h,rfl⟩))) (hc _) hCl (by have:=g1.2.2;omega) hCs g2 (by rw[hEl j (by omega)];omega) (hEo j) g3 g4 g1.ok
 obtain⟨G,hG⟩:∃ G:Nat→Int×Int,∀ j,Au.lemmas code ct (ls.drop j) (E j) j=G j:=⟨_,fun _=>rfl⟩
 have hGn:∀ j (h:j<ls.length),G j=if L j≠0 then ((j:Int),L j) else G (j+1):=fun j h=>by
  rw[←hG,←hG,List.drop_eq_getElem_cons h,Au.lemmas,hL j h,hEn j h]
 have hGe:G ls.length=((ls.length:Int),0):=by rw[←hG,List.drop_length];rfl
 have hw:Au.wh code ct a ls=if Au.firstE ct a≠0 then (-1,Au.firstE ct a) else G 0:=by rw[←hG,hE0];rfl
 have hF:∀ j (h:j<a.length),Au.firstE ct (a.drop j)=if ct a[j]≠0 then ct a[j] else Au.firstE ct (a.drop (j+1)):=fun j h=>by rw[List.drop_eq_getElem_cons h];rfl
 obtain⟨V,hV⟩:∃ V,Au.wh code ct a ls=V:=⟨_,rfl⟩
 rw[hV] at hw ⊢
 simp only[Yf] at hTa
 unfold D4 at hLe
 refine Zm 0 55 [ResultVar.tmp 6,ResultVar.tmp 7] Yv Tryz.func15 rfl Tryz.ntmps15 rfl fun cx hnt hn0=>?_
 ·skip
  refine Zz ?_;refine Zx [] Yv hnt fun _ z9=>z9 _ _ ?_;refine Zz ?_;refine Zz ?_;refine Zx [(16,.v (.int .i64 (↑a.length)))] Yv hnt fun K hK=>?_;refine And.intro (Zq (by rw[Z5])) ?_;refine hK _ _ ?_;clear hK K;refine Zt ?_
  refine Z4 (ι:={ j:Nat // j≤a.length∧Au.firstE ct (a.drop j)=Au.firstE ct a }) (fun j=>[(.t 1,.sl 9 (Yp a) none),(.t 3,.p 0 0),(.t 5,.p 1 0),(.c 0 0,.v (.int .i64 b)),(.c 0 1,.sl 2 (eTys C) none),(.c 0 2,.sl 2 (eTys Mw) none),(.c 1 0,.sl 10 (VV ls) none),(.t 15,.sl 9 (Yp a) none),(.t 16,.v (.int .i64 ↑a.length)),(.t 17,.v (.int .i64 ↑j.1))]) 20 (fun j=>a.length-j.1) (⟨0,Nat.zero_le _,rfl⟩) ((by try simp only[List.length_append,List.length_take,List.length_cons,List.length_nil,Nat.zero_add,hE0];exact VS.toA)) fun j=>?_
  obtain⟨j,hj,hje⟩:=j
  dsimp only
  by_cases hlt:j<a.length
  ·have hn:=hF j hlt
   have ht:=hTa j hlt
   by_cases h0:ct a[j]=0
   ·rw[if_neg (fun h=>h h0)] at hn;refine Zz ?_;refine Zx [(18,.v (.bool true))] Yv hnt fun K hK=>?_;refine And.intro YD ?_;refine hK _ _ ?_;clear hK K;refine Zz ?_;refine Zy (t:=true) rfl ?_;rw[if_pos rfl];refine Zw ?_;refine Zz ?_;refine Zt ?_;refine Zz ?_;refine Zx [(19,.q [.sl 2 (eTys a[j].l.binds) none,.v (.int .i64 a[j].l.kind),.v (.int .i64 a[j].l.index),.sl 4 (eTms a[j].l.args) none,.sl 2 (eTys a[j].r.binds) none,.v (.int .i64 a[j].r.kind),.v (.int .i64 a[j].r.index),.sl 4 (eTms a[j].r.args) none,.sl 2 (eTys a[j].m) none])] Yv hnt fun K hK=>?_
    refine And.intro (⟨by omega,by rw[Z5];omega⟩) ?_;refine And.intro (Zn.of_eq (by rw[Int.toNat_natCast,Wr a j hlt,Yf])) ?_;refine hK _ _ ?_;clear hK K;refine Zz ?_;refine Zx [] Yv hnt fun K hK=>?_;refine Ze (ht) ?_;refine hK _ _ ?_;clear hK K;refine Zz ?_;refine Zx [(25,.v (.bool false))] Yv hnt fun K hK=>?_;refine And.intro (Yy h0) ?_;refine hK _ _ ?_;clear hK K
    refine Zy (t:=false) rfl ?_;rw[if_neg (by simp)];refine Zw ?_;refine Zx [(27,.v (.int .i64 (↑(j+1))))] Yv hnt fun K hK=>?_;refine And.intro XR ?_;refine hK _ _ ?_;clear hK K
    refine⟨⟨j+1,hlt,by rw[←hn,hje]⟩,by first | omega | (dsimp only;omega),VS.toA⟩
   ·rw[if_pos h0] at hn
    rw[←hje,hn,if_pos h0] at hw
    subst hw
    refine Zz ?_;refine Zx [(18,.v (.bool true))] Yv hnt fun K hK=>?_;refine And.intro YD ?_;refine hK _ _ ?_;clear hK K;refine Zz ?_;refine Zy (t:=true) rfl ?_;rw[if_pos rfl];refine Zw ?_;refine Zz ?_;refine Zt ?_;refine Zz ?_;refine Zx [(19,.q [.sl 2 (eTys a[j].l.binds) none,.v (.int .i64 a[j].l.kind),.v (.int .i64 a[j].l.index),.sl 4 (eTms a[j].l.args) none,.sl 2 (eTys a[j].r.binds) none,.v (.int .i64 a[j].r.kind),.v (.int .i64 a[j].r.index),.sl 4 (eTms a[j].r.args) none,.sl 2 (eTys a[j].m) none])] Yv hnt fun K hK=>?_
    refine And.intro (⟨by omega,by rw[Z5];omega⟩) ?_;refine And.intro (Zn.of_eq (by rw[Int.toNat_natCast,Wr a j hlt,Yf])) ?_;refine hK _ _ ?_;clear hK K;refine Zz ?_;refine Zx [] Yv hnt fun K hK=>?_;refine Ze (ht) ?_;refine hK _ _ ?_;clear hK K;refine Zz ?_;refine Zx [(25,.v (.bool true))] Yv hnt fun K hK=>?_;refine And.intro (Y6 h0) ?_;refine hK _ _ ?_;clear hK K
    refine Zy (t:=true) rfl ?_;rw[if_pos rfl];refine Zz ?_;refine Zx [] Yv hnt fun _ z9=>z9 _ _ ?_;refine Zu ?_
    exact Zj rfl
  ·have hja:j=a.length:=by omega
   subst hja
   rw[List.drop_length] at hje
   rw[←hje,if_neg (fun h=>h rfl)] at hw
   refine Zz ?_;refine Zx [(18,.v (.bool false))] Yv hnt fun K hK=>?_;refine And.intro Xq ?_;refine hK _ _ ?_;clear hK K;refine Zz ?_;refine Zy (t:=false) rfl ?_;rw[if_neg (by simp)];refine Zc ?_;refine Zz ?_;refine Zx [] Yv hnt fun K hK=>?_;refine Al (E9 a (by omega) _) ?_;refine hK _ _ ?_;clear hK K
   refine S6 (x:=11) (g:=22) rfl rfl (Z5 _) ?_
   rw[←hE0]
   refine Zz ?_;refine Zz ?_;refine Zx [(32,.v (.int .i64 (↑ls.length)))] Yv hnt fun K hK=>?_;refine And.intro (Zq (by rw[WW])) ?_;refine hK _ _ ?_;clear hK K;refine Zt ?_
   refine Z4 (ι:={ n:Nat // n≤ls.length∧G n=G 0 }) (fun n=>[(.t 3,.p 0 0),(.t 5,.p 1 0),(.c 0 0,.v (.int .i64 b)),(.c 0 1,.sl 2 (eTys C) none),(.c 0 2,.sl 2 (eTys Mw) none),(.c 1 0,.sl 10 (VV ls) none),(.t 31,.sl 10 (VV ls) none),(.t 32,.v (.int .i64 ↑ls.length)),(.t 33,.v (.int .i64 ↑n.1)),(.t 11,.sl 9 (Yp (E n.1)) (some 22)),(.r 22,.rw 64 9 (Yp (E n.1)).length)]) 40 (fun n=>ls.length-n.1) (⟨0,Nat.zero_le _,rfl⟩) (VS.toA) fun n=>?_
   obtain⟨n,hn0,hne⟩:=n
   dsimp only
   by_cases hlt:n<ls.length
   ·have hn:=hGn n hlt
    have hl:=hLe n hlt
    have hl1:(Yp (E n)).length=a.length+n:=by rw[Z5,hEl n (by omega)]
    have hsn:=S4 (E n) ls[n].p
    rw[←hEn n hlt] at hsn
    by_cases h0:L n=0
    ·rw[if_neg (fun h=>h h0)] at hn;refine Zz ?_;refine Zx [(34,.v (.bool true))] Yv hnt fun K hK=>?_;refine And.intro YD ?_;refine hK _ _ ?_;clear hK K;refine Zz ?_;refine Zy (t:=true) rfl ?_;rw[if_pos rfl];refine Zw ?_;refine Zz ?_;refine Zt ?_;refine Zz ?_;refine Zx [(36,.q [.sl 2 (eTys ls[n].p.l.binds) none,.v (.int .i64 ls[n].p.l.kind),.v (.int .i64 ls[n].p.l.index),.sl 4 (eTms ls[n].p.l.args) none,.sl 2 (eTys ls[n].p.r.binds) none,.v (.int .i64 ls[n].p.r.kind),.v (.int .i64 ls[n].p.r.index),.sl 4 (eTms ls[n].p.r.args) none,.sl 2 (eTys ls[n].p.m) none,.sl 4 (Y2 ls[n].l) none])] Yv hnt fun K hK=>?_
     refine And.intro (⟨by omega,by rw[WW];omega⟩) ?_;refine And.intro (Zn.of_eq (by rw[Int.toNat_natCast,UY ls n hlt];rfl)) ?_;refine hK _ _ ?_;clear hK K;refine Zz ?_;refine Zz ?_;refine Zx [(39,.sl 9 (Yp (E n)) none)] Yv hnt fun K hK=>?_;refine And.intro (Zn.untag _ _ _) ?_;refine Ze (hl) ?_;refine hK _ _ ?_;clear hK K;refine Zz ?_;refine Zx [(43,.v (.bool false))] Yv hnt fun K hK=>?_
     refine And.intro (Yy h0) ?_;refine hK _ _ ?_;clear hK K;refine Zy (t:=false) rfl ?_;rw[if_neg (by simp)];refine Zw ?_;refine Zx [] Yv hnt fun K hK=>?_;refine And.intro (⟨by omega,by rw[hl1];simp;omega⟩) ?_;refine hK _ _ ?_;clear hK K
     rw[hsn]
     refine Zx [(51,.v (.int .i64 (↑(n+1))))] Yv hnt fun K hK=>?_;refine And.intro XR ?_;refine hK _ _ ?_;clear hK K
     refine⟨⟨n+1,hlt,by rw[←hn,hne]⟩,by first | omega | (dsimp only;omega),VS.toA⟩
    ·rw[if_pos h0] at hn
     rw[←hne,hn] at hw
     subst hw
     refine Zz ?_;refine Zx [(34,.v (.bool true))] Yv hnt fun K hK=>?_;refine And.intro YD ?_;refine hK _ _ ?_;clear hK K;refine Zz ?_;refine Zy (t:=true) rfl ?_;rw[if_pos rfl];refine Zw ?_;refine Zz ?_;refine Zt ?_;refine Zz ?_;refine Zx [(36,.q [.sl 2 (eTys ls[n].p.l.binds) none,.v (.int .i64 ls[n].p.l.kind),.v (.int .i64 ls[n].p.l.index),.sl 4 (eTms ls[n].p.l.args) none,.sl 2 (eTys ls[n].p.r.binds) none,.v (.int .i64 ls[n].p.r.kind),.v (.int .i64 ls[n].p.r.index),.sl 4 (eTms ls[n].p.r.args) none,.sl 2 (eTys ls[n].p.m) none,.sl 4 (Y2 ls[n].l) none])] Yv hnt fun K hK=>?_
     refine And.intro (⟨by omega,by rw[WW];omega⟩) ?_;refine And.intro (Zn.of_eq (by rw[Int.toNat_natCast,UY ls n hlt];rfl)) ?_;refine hK _ _ ?_;clear hK K;refine Zz ?_;refine Zz ?_;refine Zx [(39,.sl 9 (Yp (E n)) none)] Yv hnt fun K hK=>?_;refine And.intro (Zn.untag _ _ _) ?_;refine Ze (hl) ?_;refine hK _ _ ?_;clear hK K;refine Zz ?_;refine Zx [(43,.v (.bool true))] Yv hnt fun K hK=>?_
     refine And.intro (Y6 h0) ?_;refine hK _ _ ?_;clear hK K;refine Zy (t:=true) rfl ?_;rw[if_pos rfl];refine Zz ?_;refine Zx [] Yv hnt fun _ z9=>z9 _ _ ?_;refine Zu ?_
     exact Zj rfl
   ·have hnl:n=ls.length:=by omega
    subst hnl
    rw[←hne,hGe] at hw
    subst hw
    refine Zz ?_;refine Zx [(34,.v (.bool false))] Yv hnt fun K hK=>?_;refine And.intro Xq ?_;refine hK _ _ ?_;clear hK K;refine Zz ?_;refine Zy (t:=false) rfl ?_;rw[if_neg (by simp)];refine Zc ?_;refine Zz ?_;refine Zx [(54,.v (.int .i64 (↑ls.length)))] Yv hnt fun K hK=>?_;refine And.intro (Zq (by rw[WW])) ?_;refine hK _ _ ?_;clear hK K
    refine Zu ?_
    exact Zj rfl
def TAUK_64:TI:=⟨9,true,[Value.slice none 0 0,Value.int IntKind.i64 0,Value.int IntKind.i64 0,Value.slice none 0 0,Value.slice none 0 0,Value.int IntKind.i64 0,Value.int IntKind.i64 0,Value.slice none 0 0,Value.slice none 0 0],[(0,4,true),(4,4,true),(8,1,false)],none,152,6,none,false⟩
theorem MB:TypOk Tryz.prog 64 TAUK_64:=by constructor <;> kernel_rfl
def TAUK_47:TI:=⟨1,true,[Value.slice none 0 0],[(0,1,false)],none,24,6,none,false⟩
theorem Ly:TypOk Tryz.prog 47 TAUK_47:=by constructor <;> kernel_rfl
def TAUK_43:TI:=⟨3,true,[Value.int IntKind.i64 0,Value.slice none 0 0,Value.slice none 0 0],[(0,1,false),(1,1,false),(2,1,false)],none,56,6,none,false⟩
theorem Lw:TypOk Tryz.prog 43 TAUK_43:=by constructor <;> kernel_rfl
def TAUK_34:TI:=⟨1,false,[Value.slice none 0 0],[],some 64,24,5,none,false⟩
theorem Lu:TypOk Tryz.prog 34 TAUK_34:=by constructor <;> kernel_rfl
def TAUK_45:TI:=⟨1,false,[Value.slice none 0 0],[],some 112,24,5,none,false⟩
theorem Lx:TypOk Tryz.prog 45 TAUK_45:=by constructor <;> kernel_rfl
def TAUK_62:TI:=⟨4,true,[Value.slice none 0 0,Value.int IntKind.i64 0,Value.int IntKind.i64 0,Value.slice none 0 0],[(0,1,false),(1,2,true),(3,1,false)],none,64,6,none,false⟩
theorem MA:TypOk Tryz.prog 62 TAUK_62:=by constructor <;> kernel_rfl
def TAUK_112:TI:=⟨10,true,[Value.slice none 0 0,Value.int IntKind.i64 0,Value.int IntKind.i64 0,Value.slice none 0 0,Value.slice none 0 0,Value.int IntKind.i64 0,Value.int IntKind.i64 0,Value.slice none 0 0,Value.slice none 0 0,Value.slice none 0 0],[(0,9,true),(9,1,false)],none,176,6,none,false⟩
theorem QD:TypOk Tryz.prog 112 TAUK_112:=by constructor <;> kernel_rfl
def TAUK_3:TI:=⟨1,false,[Value.int IntKind.i64 0],[],none,8,2,none,false⟩
theorem G3:TypOk Tryz.prog 3 TAUK_3:=by constructor <;> kernel_rfl
def TAUK_41:TI:=⟨1,false,[Value.slice none 0 0],[],some 106,24,5,none,false⟩
theorem Lv:TypOk Tryz.prog 41 TAUK_41:=by constructor <;> kernel_rfl
def TAUK_50:TI:=⟨1,false,[Value.int IntKind.i64 0],[],none,8,2,none,false⟩
theorem Lz:TypOk Tryz.prog 50 TAUK_50:=by constructor <;> kernel_rfl
def TAUK_143:TI:=⟨1,false,[Value.nilFunc],[],none,8,8,none,false⟩
theorem QE:TypOk Tryz.prog 143 TAUK_143:=by constructor <;> kernel_rfl
def TAUK_106:TI:=⟨2,true,[Value.slice none 0 0,Value.int IntKind.i64 0],[(0,1,false),(1,1,false)],none,32,6,none,false⟩
theorem QC:TypOk Tryz.prog 106 TAUK_106:=by constructor <;> kernel_rfl
def TAUK:List (Nat×TI):=[(64,TAUK_64),(47,TAUK_47),(43,TAUK_43),(34,TAUK_34),(45,TAUK_45),(62,TAUK_62),(112,TAUK_112),(3,TAUK_3),(41,TAUK_41),(50,TAUK_50),(143,TAUK_143),(106,TAUK_106)]
theorem ZC:Zh Tryz.prog TAUK:=(((((((((((((Zh.nil _).cons QC).cons QE).cons Lz).cons Lv).cons G3).cons QD).cons MA).cons Lx).cons Lu).cons Lw).cons Ly).cons MB)
theorem BJ:VG Li.Pr.z=[.sl 2 [] none,.v (.int .i64 0),.v (.int .i64 0),.sl 4 [] none,.sl 2 [] none,.v (.int .i64 0),.v (.int .i64 0),.sl 4 [] none,.sl 2 [] none]:=rfl
theorem Db:Zd Tryz.prog 18 [.ag [.sl 10 (VV []) none]] (.tu [.ag (VG Li.Pr.z),.v (.bool false)]):=by
 rw[BJ]
 refine Zm 0 19 [ResultVar.cell 2 64,ResultVar.tmp 3] ZC Tryz.func18 rfl Tryz.ntmps18 rfl fun cx hnt hn0=>?_
 ·skip
  refine Zz ?_;refine Zx [] ZC hnt fun _ z9=>z9 _ _ ?_;refine Zz ?_;refine Zx [(7,.v (.int .i64 (0)))] ZC hnt fun K hK=>?_;refine And.intro (Zq (by rfl)) ?_;refine hK _ _ ?_;clear hK K;refine Zz ?_;refine Zz ?_;refine Zx [(9,.v (.bool true))] ZC hnt fun K hK=>?_;refine And.intro (XU rfl) ?_;refine hK _ _ ?_;clear hK K;refine Zy (t:=true) rfl ?_
  rw[if_pos rfl];refine Zz ?_;refine Zx [] ZC hnt fun _ z9=>z9 _ _ ?_;refine Zu ?_
  exact Zj rfl
namespace Au
def goal (l:List Lm)(p:Li.Pr):Int:=if l.getLast?.map (·.p)=some p then 0 else 12
end Au
set_option maxHeartbeats 4000000 in
theorem GP (b:Int)(C Mw:List Ty)(a:List Li.Pr)(ls:List Au.Lm)(i e:Int) 
  (hW:Zd Tryz.prog 15 [.ag [.v (.int .i64 b),.sl 2 (eTys C) none,.sl 2 (eTys Mw) none],.sl 9 (Yp a) none,.ag [.sl 10 (VV ls) none]] (.tu [.v (.int .i64 i),.v (.int .i64 e)])) :
  Zd Tryz.prog 19 [.ag [.v (.int .i64 b),.sl 2 (eTys C) none,.sl 2 (eTys Mw) none],.sl 9 (Yp a) none,.ag [.sl 10 (VV ls) none]] (.v (.int .i64 e)):=by
 refine Zm 0 17 [ResultVar.tmp 6] ZC Tryz.func19 rfl Tryz.ntmps19 rfl fun cx hnt hn0=>?_
 ·skip
  refine Zz ?_;refine Zx [] ZC hnt fun _ z9=>z9 _ _ ?_;refine Zz ?_;refine Zx [] ZC hnt fun K hK=>?_;refine Ze (hW) ?_;refine hK _ _ ?_;clear hK K;refine Zz ?_;refine Zx [] ZC hnt fun _ z9=>z9 _ _ ?_;refine Zu ?_
  exact Zj rfl
set_option maxHeartbeats 4000000 in
theorem Dd (b:Int)(C Mw:List Ty)(a:List Li.Pr)(ls:List Au.Lm)(e:Int)(p:Li.Pr)(hl:ls.length≤1000000)(h:∀ x∈ls,(x.p.l.full≤900000∧x.p.l.Fit)∧(x.p.r.full≤900000∧x.p.r.Fit)∧Ty.sizes x.p.m≤800000) 
  (hC:Zd Tryz.prog 19 [.ag [.v (.int .i64 b),.sl 2 (eTys C) none,.sl 2 (eTys Mw) none],.sl 9 (Yp a) none,.ag [.sl 10 (VV ls) none]] (.v (.int .i64 e))) :
  Zd Tryz.prog 20 [.ag [.v (.int .i64 b),.sl 2 (eTys C) none,.sl 2 (eTys Mw) none],.sl 9 (Yp a) none,.ag [.sl 10 (VV ls) none],.ag (VG p)] (.v (.int .i64 (if e≠0 then e else Au.goal ls p))):=by
 by_cases h0:e=0
 ·rw[if_neg (fun h=>h h0)]
  by_cases hn:ls=[]
  ·subst hn
   have hg:=Db
   rw[Yf] at hg ⊢
   rw[show Au.goal [] p=12 from if_neg (by simp)]
   refine Zm 0 32 [ResultVar.tmp 8] ZC Tryz.func20 rfl Tryz.ntmps20 rfl fun cx hnt hn0=>?_
   ·skip
    refine Zz ?_;refine Zx [] ZC hnt fun _ z9=>z9 _ _ ?_;refine Zz ?_;refine Zz ?_;refine Zx [] ZC hnt fun K hK=>?_;refine Ze (hC) ?_;refine hK _ _ ?_;clear hK K;refine Zz ?_;refine Zx [(17,.v (.bool false))] ZC hnt fun K hK=>?_;refine And.intro (Yy h0) ?_;refine hK _ _ ?_;clear hK K;refine Zy (t:=false) rfl ?_;rw[if_neg (by simp)]
    refine Zw ?_;refine Zz ?_;refine Zz ?_;refine Zx [] ZC hnt fun K hK=>?_;refine Ze (hg) ?_;refine hK _ _ ?_;clear hK K;refine Zz ?_;refine Zx [] ZC hnt fun _ z9=>z9 _ _ ?_;refine Zy (t:=true) rfl ?_;rw[if_pos rfl];refine Zz ?_;refine Zx [] ZC hnt fun _ z9=>z9 _ _ ?_;refine Zu ?_
    exact Zj rfl
  ·have hg:=Aq ls hl h hn
   obtain⟨q,hq⟩:∃ q,(ls.getLast hn).p=q:=⟨_,rfl⟩
   rw[hq] at hg
   have he:=Jv q p
   have hgo:Au.goal ls p=if q=p then 0 else 12:=by
    unfold Au.goal
    rw[List.getLast?_eq_some_getLast hn,Option.map_some,hq]
    by_cases h:q=p
    ·rw[if_pos h,if_pos (by rw[h])]
    ·rw[if_neg h,if_neg (fun g=>h (Option.some.inj g))]
   rw[hgo]
   rw[Yf] at hg
   rw[Yf,Yf] at he
   rw[Yf]
   by_cases hqp:q=p
   ·rw[if_pos hqp]
    rw[decide_eq_true hqp] at he
    refine Zm 0 32 [ResultVar.tmp 8] ZC Tryz.func20 rfl Tryz.ntmps20 rfl fun cx hnt hn0=>?_
    ·skip
     refine Zz ?_;refine Zx [] ZC hnt fun _ z9=>z9 _ _ ?_;refine Zz ?_;refine Zz ?_;refine Zx [] ZC hnt fun K hK=>?_;refine Ze (hC) ?_;refine hK _ _ ?_;clear hK K;refine Zz ?_;refine Zx [(17,.v (.bool false))] ZC hnt fun K hK=>?_;refine And.intro (Yy h0) ?_;refine hK _ _ ?_;clear hK K;refine Zy (t:=false) rfl ?_;rw[if_neg (by simp)]
     refine Zw ?_;refine Zz ?_;refine Zz ?_;refine Zx [] ZC hnt fun K hK=>?_;refine Ze (hg) ?_;refine hK _ _ ?_;clear hK K;refine Zz ?_;refine Zx [] ZC hnt fun K hK=>?_;refine Ze (he) ?_;refine hK _ _ ?_;clear hK K;refine Zy (t:=false) rfl ?_;rw[if_neg (by simp)];refine Zw ?_;refine Zz ?_;refine Zx [] ZC hnt fun _ z9=>z9 _ _ ?_
     refine Zu ?_
     exact Zj rfl
   ·rw[if_neg hqp]
    rw[decide_eq_false hqp] at he
    refine Zm 0 32 [ResultVar.tmp 8] ZC Tryz.func20 rfl Tryz.ntmps20 rfl fun cx hnt hn0=>?_
    ·skip
     refine Zz ?_;refine Zx [] ZC hnt fun _ z9=>z9 _ _ ?_;refine Zz ?_;refine Zz ?_;refine Zx [] ZC hnt fun K hK=>?_;refine Ze (hC) ?_;refine hK _ _ ?_;clear hK K;refine Zz ?_;refine Zx [(17,.v (.bool false))] ZC hnt fun K hK=>?_;refine And.intro (Yy h0) ?_;refine hK _ _ ?_;clear hK K;refine Zy (t:=false) rfl ?_;rw[if_neg (by simp)]
     refine Zw ?_;refine Zz ?_;refine Zz ?_;refine Zx [] ZC hnt fun K hK=>?_;refine Ze (hg) ?_;refine hK _ _ ?_;clear hK K;refine Zz ?_;refine Zx [] ZC hnt fun K hK=>?_;refine Ze (he) ?_;refine hK _ _ ?_;clear hK K;refine Zy (t:=true) rfl ?_;rw[if_pos rfl];refine Zz ?_;refine Zx [] ZC hnt fun _ z9=>z9 _ _ ?_;refine Zu ?_
     exact Zj rfl
 ·rw[if_pos h0,Yf]
  refine Zm 0 32 [ResultVar.tmp 8] ZC Tryz.func20 rfl Tryz.ntmps20 rfl fun cx hnt hn0=>?_
  ·skip
   refine Zz ?_;refine Zx [] ZC hnt fun _ z9=>z9 _ _ ?_;refine Zz ?_;refine Zz ?_;refine Zx [] ZC hnt fun K hK=>?_;refine Ze (hC) ?_;refine hK _ _ ?_;clear hK K;refine Zz ?_;refine Zx [(17,.v (.bool true))] ZC hnt fun K hK=>?_;refine And.intro (Y6 h0) ?_;refine hK _ _ ?_;clear hK K;refine Zy (t:=true) rfl ?_;rw[if_pos rfl]
   refine Zz ?_;refine Zx [] ZC hnt fun _ z9=>z9 _ _ ?_;refine Zu ?_
   exact Zj rfl
namespace Au
def kA:Ty:=.mk [] 0
def kW:List Ty:=[kA,.mk [kA] 0]
def kz:Tm:=.mk [] 1 0 []
def kx:Tm:=.mk [] 2 0 []
def ks (t:Tm):Tm:=.mk [] 1 1 [t]
def kE:Li.Pr:=⟨ks (ks kx),kx,[kA]⟩
def kP:Li.Pr:=⟨ks (ks (ks kz)),ks kz,[]⟩
def k1:St:=⟨0,false,[],[(0,ks kz)]⟩
def k2:St:=⟨0,false,[0],[(0,kz)]⟩
def kL1:Lm:=⟨kP,[k1]⟩
def kL2:Lm:=⟨kP,[k2]⟩
def kL0:Lm:=⟨kP,[]⟩
theorem kWd:XH 1 kW []:=by
 refine⟨by decide,fun t ht=>?_⟩
 have:t=kA∨t=.mk [kA] 0:=by simpa[kW] using ht
 rcases this with rfl | rfl
 ·exact⟨by decide,by decide,by simp[kA,Ty.low_iff]⟩
 ·exact⟨by decide,by decide,by simp[kA,Ty.low_iff]⟩
theorem kGood:Ru.Good 1 kW kP:=⟨kWd,by decide,by decide,kA,by kernel_rfl,rfl,by simp[kP,ks,kz,kW,kA,X1,IsOfs,Yg,Ty.args,Ty.base],by simp[kP,ks,kz,kW,kA,X1,IsOfs,Yg,Ty.args,Ty.base]⟩
theorem kE_wd:XH 1 kW [kA]:=by
 refine⟨by decide,fun t ht=>?_⟩
 have:t=kA∨t=.mk [kA] 0:=by
  simp[kW] at ht
  rcases ht with h | h | h
  ·exact .inl h
  ·exact .inr h
  ·exact .inl h
 rcases this with rfl | rfl
 ·exact⟨by decide,by decide,by simp[kA,Ty.low_iff]⟩
 ·exact⟨by decide,by decide,by simp[kA,Ty.low_iff]⟩
theorem kEGood:Ru.Good 1 kW kE:=⟨kE_wd,by decide,by decide,kA,by kernel_rfl,rfl,by simp[kE,ks,kx,kW,kA,X1,IsOfs,Yg,Ty.args,Ty.base],by simp[kE,ks,kx,kW,kA,X1,IsOfs,Yg,Ty.args,Ty.base]⟩
theorem code_0 {code:List Ty→Tm→Ty→Int}{C M:List Ty}(hc:∀ X t u,Yt C M t X u (code X t u)){X:List Ty}{t:Tm}{u:Ty}(h1:t.size≤5000∧t.depth≤60)(h2:X1 C M t X u):code X t u=0:=by
 rcases hc X t u with⟨g,_⟩ | ⟨_,g,_⟩ | ⟨_,_,g⟩
 ·exact absurd h1 g
 ·exact absurd h2 g
 ·exact g
theorem step_at {code:List Ty→Tm→Ty→Int}{eqs:List Li.Pr}{x:St}{t th:Tm}{ar:List Ty}(hat:Pn.atP x.path t=some (th,ar))(hi:0≤x.eq∧x.eq<(eqs.length:Int))(hs:subS code (eqAt eqs x) x.s ar 0=0):
  step code eqs x (t,0)=fin x t th (img x.s (if x.back then (eqAt eqs x).r else (eqAt eqs x).l) 0).1
   (img x.s (if x.back then (eqAt eqs x).l else (eqAt eqs x).r) (img x.s (if x.back then (eqAt eqs x).r else (eqAt eqs x).l) 0).2).1
   (img x.s (if x.back then (eqAt eqs x).l else (eqAt eqs x).r) (img x.s (if x.back then (eqAt eqs x).r else (eqAt eqs x).l) 0).2).2:=by
 unfold step
 rw[hat]
 dsimp only
 rw[decide_eq_true hi,must_true,if_neg (fun h=>h rfl),hs]
theorem kE_metas:X3 (Yj [kE.l,kE.r])=[0]:=by
 rw[show Yj [kE.l,kE.r]=[0]++[0] by kernel_rfl]
 exact(Rf [0]).trans (by unfold X3;rw[List.mergeSort_singleton];rfl)
variable {code:List Ty→Tm→Ty→Int} (hc:∀ X t u,Yt kW [] t X u (code X t u))
include hc
theorem kc_z:code [] kz kA=0:=code_0 hc (by decide) (by simp[kz,kW,kA,X1,IsOfs,Yg,Ty.args,Ty.base])
theorem kc_s:code [] (ks kz) kA=0:=code_0 hc (by decide) (by simp[ks,kz,kW,kA,X1,IsOfs,Yg,Ty.args,Ty.base])
theorem k1_sub:subS code kE [(0,ks kz)] [] 0=0:=by
 unfold subS
 rw[kE_metas]
 simp only[List.foldl_cons,List.foldl_nil]
 have hm:must (must 0 (Sb.right [(0,ks kz)]&&decide (List.map (fun x=>x.fst) [((0:Int),ks kz)]=[0])) 1) (decide ((0:Int)≤0∧(0:Int) < ↑kE.m.length)) 1=0:=by kernel_rfl
 have hk:code [] (ks kz) (kE.m.getD (Int.toNat 0) (Ty.mk [] 0))=0:=kc_s hc
 rw[if_pos hm,hm,decide_eq_true hk]
 rfl
theorem k2_sub:subS code kE [(0,kz)] [] 0=0:=by
 unfold subS
 rw[kE_metas]
 simp only[List.foldl_cons,List.foldl_nil]
 have hm:must (must 0 (Sb.right [(0,kz)]&&decide (List.map (fun x=>x.fst) [((0:Int),kz)]=[0])) 1) (decide ((0:Int)≤0∧(0:Int) < ↑kE.m.length)) 1=0:=by kernel_rfl
 have hk:code [] (kz) (kE.m.getD (Int.toNat 0) (Ty.mk [] 0))=0:=kc_z hc
 rw[if_pos hm,hm,decide_eq_true hk]
 rfl
theorem k1_step:step code [kE] k1 (kP.l,0)=(kP.r,0):=by
 rw[step_at (th:=kP.l) (ar:=[]) (by kernel_rfl) (by decide) (k1_sub hc)]
 kernel_rfl
theorem k2_step:step code [kE] k2 (kP.l,0)=(kP.r,0):=by
 rw[step_at (th:=ks (ks kz)) (ar:=[]) (by kernel_rfl) (by decide) (k2_sub hc)]
 kernel_rfl
theorem k1_lemma:lemma1 code [kE] 0 kL1=0:=by
 have h:chain code [kE] kL1.l kL1.p.l=(kP.r,0):=by
  have h:List.foldl (fun r x=>step code [kE] x r) (kL1.p.l,0) kL1.l=(kP.r,0):=k1_step hc
  unfold chain
  rw[h];rfl
 unfold lemma1
 rw[h,if_neg (fun h=>h rfl)]
 rw[if_neg (fun h=>h.2 rfl)]
theorem k2_lemma:lemma1 code [kE] 0 kL2=0:=by
 have h:chain code [kE] kL2.l kL2.p.l=(kP.r,0):=by
  have h:List.foldl (fun r x=>step code [kE] x r) (kL2.p.l,0) kL2.l=(kP.r,0):=k2_step hc
  unfold chain
  rw[h];rfl
 unfold lemma1
 rw[h,if_neg (fun h=>h rfl)]
 rw[if_neg (fun h=>h.2 rfl)]
omit hc in
theorem k0_lemma:lemma1 code [kE] 0 kL0=12:=by
 unfold lemma1 chain kL0
 dsimp only[List.foldl_nil]
 kernel_rfl
end Au
def TAUM_62:TI:=⟨4,true,[Value.slice none 0 0,Value.int IntKind.i64 0,Value.int IntKind.i64 0,Value.slice none 0 0],[(0,1,false),(1,2,true),(3,1,false)],none,64,6,none,false⟩
theorem MK:TypOk Tryz.prog 62 TAUM_62:=by constructor <;> kernel_rfl
def TAUM_112:TI:=⟨10,true,[Value.slice none 0 0,Value.int IntKind.i64 0,Value.int IntKind.i64 0,Value.slice none 0 0,Value.slice none 0 0,Value.int IntKind.i64 0,Value.int IntKind.i64 0,Value.slice none 0 0,Value.slice none 0 0,Value.slice none 0 0],[(0,9,true),(9,1,false)],none,176,6,none,false⟩
theorem QH:TypOk Tryz.prog 112 TAUM_112:=by constructor <;> kernel_rfl
def TAUM_43:TI:=⟨3,true,[Value.int IntKind.i64 0,Value.slice none 0 0,Value.slice none 0 0],[(0,1,false),(1,1,false),(2,1,false)],none,56,6,none,false⟩
theorem ME:TypOk Tryz.prog 43 TAUM_43:=by constructor <;> kernel_rfl
def TAUM_64:TI:=⟨9,true,[Value.slice none 0 0,Value.int IntKind.i64 0,Value.int IntKind.i64 0,Value.slice none 0 0,Value.slice none 0 0,Value.int IntKind.i64 0,Value.int IntKind.i64 0,Value.slice none 0 0,Value.slice none 0 0],[(0,4,true),(4,4,true),(8,1,false)],none,152,6,none,false⟩
theorem ML:TypOk Tryz.prog 64 TAUM_64:=by constructor <;> kernel_rfl
def TAUM_106:TI:=⟨2,true,[Value.slice none 0 0,Value.int IntKind.i64 0],[(0,1,false),(1,1,false)],none,32,6,none,false⟩
theorem QF:TypOk Tryz.prog 106 TAUM_106:=by constructor <;> kernel_rfl
def TAUM_41:TI:=⟨1,false,[Value.slice none 0 0],[],some 106,24,5,none,false⟩
theorem MD:TypOk Tryz.prog 41 TAUM_41:=by constructor <;> kernel_rfl
def TAUM_34:TI:=⟨1,false,[Value.slice none 0 0],[],some 64,24,5,none,false⟩
theorem MC:TypOk Tryz.prog 34 TAUM_34:=by constructor <;> kernel_rfl
def TAUM_50:TI:=⟨1,false,[Value.int IntKind.i64 0],[],none,8,2,none,false⟩
theorem MH:TypOk Tryz.prog 50 TAUM_50:=by constructor <;> kernel_rfl
def TAUM_59:TI:=⟨2,true,[Value.int IntKind.i64 0,Value.int IntKind.i64 0],[(0,1,false),(1,1,false)],none,16,6,none,true⟩
theorem MI:TypOk Tryz.prog 59 TAUM_59:=by constructor <;> kernel_rfl
def TAUM_110:TI:=⟨5,true,[Value.int IntKind.i64 0,Value.slice none 0 0,Value.int IntKind.i64 0,Value.int IntKind.i64 0,Value.slice none 0 0],[(0,1,false),(1,4,true)],none,72,6,none,false⟩
theorem QG:TypOk Tryz.prog 110 TAUM_110:=by constructor <;> kernel_rfl
def TAUM_84:TI:=⟨1,false,[Value.slice none 0 0],[],some 110,24,5,none,false⟩
theorem MO:TypOk Tryz.prog 84 TAUM_84:=by constructor <;> kernel_rfl
def TAUM_86:TI:=⟨4,true,[Value.int IntKind.i64 0,Value.bool false,Value.slice none 0 0,Value.slice none 0 0],[(0,1,false),(1,1,false),(2,1,false),(3,1,false)],none,64,6,none,false⟩
theorem MP:TypOk Tryz.prog 86 TAUM_86:=by constructor <;> kernel_rfl
def TAUM_78:TI:=⟨1,false,[Value.slice none 0 0],[],some 86,24,5,none,false⟩
theorem MN:TypOk Tryz.prog 78 TAUM_78:=by constructor <;> kernel_rfl
def TAUM_47:TI:=⟨1,true,[Value.slice none 0 0],[(0,1,false)],none,24,6,none,false⟩
theorem MG:TypOk Tryz.prog 47 TAUM_47:=by constructor <;> kernel_rfl
def TAUM_3:TI:=⟨1,false,[Value.int IntKind.i64 0],[],none,8,2,none,false⟩
theorem G0:TypOk Tryz.prog 3 TAUM_3:=by constructor <;> kernel_rfl
def TAUM_71:TI:=⟨1,false,[Value.slice none 0 0],[],some 3,24,5,none,false⟩
theorem MM:TypOk Tryz.prog 71 TAUM_71:=by constructor <;> kernel_rfl
def TAUM_45:TI:=⟨1,false,[Value.slice none 0 0],[],some 112,24,5,none,false⟩
theorem MF:TypOk Tryz.prog 45 TAUM_45:=by constructor <;> kernel_rfl
def TAUM_60:TI:=⟨1,false,[Value.slice none 0 0],[],some 62,24,5,none,false⟩
theorem MJ:TypOk Tryz.prog 60 TAUM_60:=by constructor <;> kernel_rfl
def TAUM:List (Nat×TI):=[(62,TAUM_62),(112,TAUM_112),(43,TAUM_43),(64,TAUM_64),(106,TAUM_106),(41,TAUM_41),(34,TAUM_34),(50,TAUM_50),(59,TAUM_59),(110,TAUM_110),(84,TAUM_84),(86,TAUM_86),(78,TAUM_78),(47,TAUM_47),(3,TAUM_3),(71,TAUM_71),(45,TAUM_45),(60,TAUM_60)]
theorem Rt:Zh Tryz.prog TAUM:=(((((((((((((((((((Zh.nil _).cons MJ).cons MF).cons MM).cons G0).cons MG).cons MN).cons MP).cons MO).cons QG).cons MI).cons MH).cons MC).cons MD).cons QF).cons ML).cons ME).cons QH).cons MK)
namespace Au
theorem code_ex (C M:List Ty):∃ code:List Ty→Tm→Ty→Int,∀ X t u,Yt C M t X u (code X t u):=by
 have h:∀ X t u,∃ c,Yt C M t X u c:=fun X t u=>by
  by_cases h1:t.size≤5000∧t.depth≤60
  ·by_cases h2:X1 C M t X u
   ·exact⟨0,.inr (.inr ⟨h1,h2,rfl⟩)⟩
   ·exact⟨5,.inr (.inl ⟨h1,h2,rfl⟩)⟩
  ·exact⟨2,.inl ⟨h1,rfl⟩⟩
 exact⟨fun X t u=>Classical.choose (h X t u),fun X t u=>Classical.choose_spec (h X t u)⟩
theorem kz_fit:kz.Fit:=Tm.fit_iff.2 ⟨by decide,by decide,nofun⟩
theorem kx_fit:kx.Fit:=Tm.fit_iff.2 ⟨by decide,by decide,nofun⟩
theorem ks_fit {t:Tm}(h:t.Fit):(ks t).Fit:=Tm.fit_iff.2 ⟨by decide,by decide,fun u hu=>by
 have:u=t:=by simpa using hu
 subst this;exact h⟩
theorem kE_ok:EqOk kE:=⟨⟨by decide,Bnd.of_full _ (by decide) (ks_fit (ks_fit kx_fit))⟩,⟨by decide,Bnd.of_full _ (by decide) kx_fit⟩,by decide⟩
theorem kP_ok:EqOk kP:=⟨⟨by decide,Bnd.of_full _ (by decide) (ks_fit (ks_fit (ks_fit kz_fit)))⟩,⟨by decide,Bnd.of_full _ (by decide) (ks_fit kz_fit)⟩,by decide⟩
theorem k1_ok:SOk k1:=⟨by decide,fun q hq=>by
 have:q=(0,ks kz):=by simpa[k1] using hq
 subst this;exact⟨by decide,ks_fit kz_fit⟩,by decide⟩
theorem k2_ok:SOk k2:=⟨by decide,fun q hq=>by
 have:q=(0,kz):=by simpa[k2] using hq
 subst this;exact⟨by decide,kz_fit⟩,by decide⟩
end Au
theorem Qg (t:Tm):Zd Tryz.prog 42 [.ag [.sl 2 (eTys t.binds) none,.v (.int .i64 t.kind),.v (.int .i64 t.index),.sl 4 (eTms t.args) none]] (.ag [.sl 2 [] none,.v (.int .i64 1),.v (.int .i64 1),.sl 4 (eTms [t]) none]):=by
 have e:eTms [t]=[[.sl 2 (eTys t.binds) none,.v (.int .i64 t.kind),.v (.int .i64 t.index),.sl 4 (eTms t.args) none]]:=by rw[←Zv];rfl
 refine Zm 0 7 [ResultVar.cell 2 62] Rt Tryz.func42 rfl Tryz.ntmps42 rfl fun cx hnt hn0=>?_
 ·skip
  refine Zz ?_;refine Zx [] Rt hnt fun _ z9=>z9 _ _ ?_;refine Zz ?_;refine Zx [(5,.sl 4 (eTms [t]) none)] Rt hnt fun K hK=>?_;refine And.intro ((by rw[e];exact Zn.untag _ _ _)) ?_;refine hK _ _ ?_;clear hK K;refine Zu ?_
  exact Zj rfl
theorem Cu:Zd Tryz.prog 41 [.v (.int .i64 0),.v (.slice none 0 0)] (.ag [.sl 2 [] none,.v (.int .i64 0)]):=ZE.vle (Ey 0 [] (by simp[Ty.sizes])) (.cons (Zn.refl _) (.cons (Zn.nil _) .nil)) (Zn.refl _)
namespace Au
theorem kes:∀ q∈[kE],EqOk q:=fun q hq=>by rw[List.mem_singleton] at hq;subst hq;exact kE_ok
end Au
set_option maxHeartbeats 4000000 in
theorem Ta (x:Au.Lm)(v:Int)(hp:x.p=Au.kP)(hl:x.l.length≤1000)(hx:∀ y∈x.l,Au.SOk y)(hv:∀ code:List Ty→Tm→Ty→Int,(∀ X t u,Yt Au.kW [] t X u (code X t u))→Au.lemma1 code [Au.kE] 0 x=v):
  Zd Tryz.prog 43 [.ag [.v (.int .i64 1),.sl 2 (eTys Au.kW) none,.sl 2 (eTys []) none],.sl 9 (Yp [Au.kE]) none,.ag (D4 x)] (.v (.int .i64 v)):=by
 obtain⟨code,hc⟩:=Au.code_ex Au.kW []
 have hs:∀ t∈Au.kW++Au.kP.m,t.size≤400000:=fun t ht=>by have:=(Au.kWd.2 t ht).1;omega
 obtain⟨c,hc0,hT⟩:=VO 1 Au.kW [] Au.kP ⟨by decide,Au.ks_fit (Au.ks_fit (Au.ks_fit Au.kz_fit))⟩ ⟨by decide,Au.ks_fit Au.kz_fit⟩ (by decide) (by decide) hs
 have h0:=hc0.2 Au.kGood
 subst h0
 rw[←hv code hc]
 rw[←hp] at hT
 exact KE 1 Au.kW [] [Au.kE] x 0 code hT (by rw[hp];exact hc) (by decide) (by rw[hp];decide) (by decide) (by rw[hp];decide) (by decide) Au.kes hl hx (by rw[hp];exact Au.kP_ok.ok)
def TAUN_62:TI:=⟨4,true,[Value.slice none 0 0,Value.int IntKind.i64 0,Value.int IntKind.i64 0,Value.slice none 0 0],[(0,1,false),(1,2,true),(3,1,false)],none,64,6,none,false⟩
theorem MX:TypOk Tryz.prog 62 TAUN_62:=by constructor <;> kernel_rfl
def TAUN_112:TI:=⟨10,true,[Value.slice none 0 0,Value.int IntKind.i64 0,Value.int IntKind.i64 0,Value.slice none 0 0,Value.slice none 0 0,Value.int IntKind.i64 0,Value.int IntKind.i64 0,Value.slice none 0 0,Value.slice none 0 0,Value.slice none 0 0],[(0,9,true),(9,1,false)],none,176,6,none,false⟩
theorem QK:TypOk Tryz.prog 112 TAUN_112:=by constructor <;> kernel_rfl
def TAUN_43:TI:=⟨3,true,[Value.int IntKind.i64 0,Value.slice none 0 0,Value.slice none 0 0],[(0,1,false),(1,1,false),(2,1,false)],none,56,6,none,false⟩
theorem MS:TypOk Tryz.prog 43 TAUN_43:=by constructor <;> kernel_rfl
def TAUN_64:TI:=⟨9,true,[Value.slice none 0 0,Value.int IntKind.i64 0,Value.int IntKind.i64 0,Value.slice none 0 0,Value.slice none 0 0,Value.int IntKind.i64 0,Value.int IntKind.i64 0,Value.slice none 0 0,Value.slice none 0 0],[(0,4,true),(4,4,true),(8,1,false)],none,152,6,none,false⟩
theorem MY:TypOk Tryz.prog 64 TAUN_64:=by constructor <;> kernel_rfl
def TAUN_106:TI:=⟨2,true,[Value.slice none 0 0,Value.int IntKind.i64 0],[(0,1,false),(1,1,false)],none,32,6,none,false⟩
theorem QI:TypOk Tryz.prog 106 TAUN_106:=by constructor <;> kernel_rfl
def TAUN_41:TI:=⟨1,false,[Value.slice none 0 0],[],some 106,24,5,none,false⟩
theorem MR:TypOk Tryz.prog 41 TAUN_41:=by constructor <;> kernel_rfl
def TAUN_34:TI:=⟨1,false,[Value.slice none 0 0],[],some 64,24,5,none,false⟩
theorem MQ:TypOk Tryz.prog 34 TAUN_34:=by constructor <;> kernel_rfl
def TAUN_50:TI:=⟨1,false,[Value.int IntKind.i64 0],[],none,8,2,none,false⟩
theorem MV:TypOk Tryz.prog 50 TAUN_50:=by constructor <;> kernel_rfl
def TAUN_59:TI:=⟨2,true,[Value.int IntKind.i64 0,Value.int IntKind.i64 0],[(0,1,false),(1,1,false)],none,16,6,none,true⟩
theorem MW:TypOk Tryz.prog 59 TAUN_59:=by constructor <;> kernel_rfl
def TAUN_110:TI:=⟨5,true,[Value.int IntKind.i64 0,Value.slice none 0 0,Value.int IntKind.i64 0,Value.int IntKind.i64 0,Value.slice none 0 0],[(0,1,false),(1,4,true)],none,72,6,none,false⟩
theorem QJ:TypOk Tryz.prog 110 TAUN_110:=by constructor <;> kernel_rfl
def TAUN_84:TI:=⟨1,false,[Value.slice none 0 0],[],some 110,24,5,none,false⟩
theorem M8:TypOk Tryz.prog 84 TAUN_84:=by constructor <;> kernel_rfl
def TAUN_86:TI:=⟨4,true,[Value.int IntKind.i64 0,Value.bool false,Value.slice none 0 0,Value.slice none 0 0],[(0,1,false),(1,1,false),(2,1,false),(3,1,false)],none,64,6,none,false⟩
theorem M7:TypOk Tryz.prog 86 TAUN_86:=by constructor <;> kernel_rfl
def TAUN_78:TI:=⟨1,false,[Value.slice none 0 0],[],some 86,24,5,none,false⟩
theorem M9:TypOk Tryz.prog 78 TAUN_78:=by constructor <;> kernel_rfl
def TAUN_47:TI:=⟨1,true,[Value.slice none 0 0],[(0,1,false)],none,24,6,none,false⟩
theorem MU:TypOk Tryz.prog 47 TAUN_47:=by constructor <;> kernel_rfl
def TAUN_3:TI:=⟨1,false,[Value.int IntKind.i64 0],[],none,8,2,none,false⟩
theorem Ga:TypOk Tryz.prog 3 TAUN_3:=by constructor <;> kernel_rfl
def TAUN_71:TI:=⟨1,false,[Value.slice none 0 0],[],some 3,24,5,none,false⟩
theorem MZ:TypOk Tryz.prog 71 TAUN_71:=by constructor <;> kernel_rfl
def TAUN_45:TI:=⟨1,false,[Value.slice none 0 0],[],some 112,24,5,none,false⟩
theorem MT:TypOk Tryz.prog 45 TAUN_45:=by constructor <;> kernel_rfl
def TAUN:List (Nat×TI):=[(62,TAUN_62),(112,TAUN_112),(43,TAUN_43),(64,TAUN_64),(106,TAUN_106),(41,TAUN_41),(34,TAUN_34),(50,TAUN_50),(59,TAUN_59),(110,TAUN_110),(84,TAUN_84),(86,TAUN_86),(78,TAUN_78),(47,TAUN_47),(3,TAUN_3),(71,TAUN_71),(45,TAUN_45)]
theorem Xb:Zh Tryz.prog TAUN:=((((((((((((((((((Zh.nil _).cons MT).cons MZ).cons Ga).cons MU).cons M9).cons M7).cons M8).cons QJ).cons MW).cons MV).cons MQ).cons MR).cons QI).cons MY).cons MS).cons QK).cons MX)
theorem Jb:Zd Tryz.prog 20 [.ag [.v (.int .i64 1),.sl 2 (eTys Au.kW) none,.sl 2 (eTys []) none],.sl 9 (Yp [Au.kE]) none,.ag [.sl 10 (VV [Au.kL1]) none],.ag (VG Au.kP)] (.v (.int .i64 0)):=by
 obtain⟨code,hc⟩:∃ code:List Ty→List Ty→Tm→Ty→Int,∀ M X t u,Yt Au.kW M t X u (code M X t u):=⟨fun M=>Classical.choose (Au.code_ex Au.kW M),fun M=>Classical.choose_spec (Au.code_ex Au.kW M)⟩
 have hs:∀ t∈Au.kW++Au.kP.m,t.size≤400000:=fun t ht=>by have:=(Au.kWd.2 t ht).1;omega
 have hs2:∀ t∈Au.kW++Au.kE.m,t.size≤400000:=fun t ht=>by have:=(Au.kE_wd.2 t ht).1;omega
 obtain⟨c,hc0,hT⟩:=VO 1 Au.kW [] Au.kP ⟨by decide,Au.ks_fit (Au.ks_fit (Au.ks_fit Au.kz_fit))⟩ ⟨by decide,Au.ks_fit Au.kz_fit⟩ (by decide) (by decide) hs
 have h0:=hc0.2 Au.kGood
 subst h0
 obtain⟨c,hc1,hT2⟩:=VO 1 Au.kW [] Au.kE ⟨by decide,Au.ks_fit (Au.ks_fit Au.kx_fit)⟩ ⟨by decide,Au.kx_fit⟩ (by decide) (by decide) hs2
 have h1:=hc1.2 Au.kEGood
 subst h1
 have hW:=CZ 1 Au.kW [] [Au.kE] [Au.kL1] (fun _=>0) code (fun p hp=>by
  have:p=Au.kE∨p=Au.kP:=by simpa[Au.kL1] using hp
  rcases this with rfl | rfl
  ·exact hT2
  ·exact hT) hc (by decide) (by decide) (by decide) Au.kes (by decide) (fun x hx=>by
   rw[List.mem_singleton] at hx;subst hx
   exact⟨Au.kP_ok,by decide,by decide,fun y hy=>by
    have:y=Au.k1:=by simpa[Au.kL1] using hy
    subst this;exact Au.k1_ok⟩)
 have e:Au.wh code (fun _=>0) [Au.kE] [Au.kL1]=(1,0):=by
  unfold Au.wh
  rw[if_neg (by simp[Au.firstE]),Au.lemmas,show Au.lemma1 (code Au.kL1.p.m) [Au.kE] 0 Au.kL1=0 from Au.k1_lemma (hc [])]
  rfl
 rw[e] at hW
 have hC:=GP 1 Au.kW [] [Au.kE] [Au.kL1] 1 0 hW
 have hP:=Dd 1 Au.kW [] [Au.kE] [Au.kL1] 0 Au.kP (by decide) (fun x hx=>by
  rw[List.mem_singleton] at hx;subst hx
  exact⟨⟨by decide,Au.ks_fit (Au.ks_fit (Au.ks_fit Au.kz_fit))⟩,⟨by decide,Au.ks_fit Au.kz_fit⟩,by decide⟩) hC
 rw[if_neg (by simp),show Au.goal [Au.kL1] Au.kP=0 by kernel_rfl] at hP
 exact hP
set_option maxHeartbeats 4000000 in
theorem Ja:Zd Tryz.prog 11 [] (.v (.bool true)):=by
 have ho:=Cu
 have o2:=Ey 0 [Au.kA] (by decide)
 have L1:=Ta Au.kL1 0 rfl (by decide) (fun y hy=>by
  have:y=Au.k1:=by simpa[Au.kL1] using hy
  subst this;exact Au.k1_ok) fun code hc=>Au.k1_lemma hc
 have L2:=Ta Au.kL2 0 rfl (by decide) (fun y hy=>by
  have:y=Au.k2:=by simpa[Au.kL2] using hy
  subst this;exact Au.k2_ok) fun code hc=>Au.k2_lemma hc
 have L0:=Ta Au.kL0 12 rfl (by decide) (fun y hy=>by cases hy) fun code _=>Au.k0_lemma
 have PV:=Jb
 rw[Yf] at PV
 have hx:Zd Tryz.prog 42 [.ag [.sl 2 [] none,.v (.int .i64 2),.v (.int .i64 0),.sl 4 [] none]] (.ag [.sl 2 [] none,.v (.int .i64 1),.v (.int .i64 1),.sl 4 (eTms [Au.kx]) none]):=Qg Au.kx
 have hsx:Zd Tryz.prog 42 [.ag [.sl 2 [] none,.v (.int .i64 1),.v (.int .i64 1),.sl 4 (eTms [Au.kx]) none]] (.ag [.sl 2 [] none,.v (.int .i64 1),.v (.int .i64 1),.sl 4 (eTms [Au.ks Au.kx]) none]):=Qg (Au.ks Au.kx)
 have hz:Zd Tryz.prog 42 [.ag [.sl 2 [] none,.v (.int .i64 1),.v (.int .i64 0),.sl 4 [] none]] (.ag [.sl 2 [] none,.v (.int .i64 1),.v (.int .i64 1),.sl 4 (eTms [Au.kz]) none]):=Qg Au.kz
 have hsz:Zd Tryz.prog 42 [.ag [.sl 2 [] none,.v (.int .i64 1),.v (.int .i64 1),.sl 4 (eTms [Au.kz]) none]] (.ag [.sl 2 [] none,.v (.int .i64 1),.v (.int .i64 1),.sl 4 (eTms [Au.ks Au.kz]) none]):=Qg (Au.ks Au.kz)
 have hssz:Zd Tryz.prog 42 [.ag [.sl 2 [] none,.v (.int .i64 1),.v (.int .i64 1),.sl 4 (eTms [Au.ks Au.kz]) none]] (.ag [.sl 2 [] none,.v (.int .i64 1),.v (.int .i64 1),.sl 4 (eTms [Au.ks (Au.ks Au.kz)]) none]):=Qg (Au.ks (Au.ks Au.kz))
 unfold D4 at L1 L2 L0
 refine Zm 0 89 [ResultVar.tmp 0] Xb Tryz.func11 rfl Tryz.ntmps11 rfl fun cx hnt hn0=>?_
 ·skip
  refine Zz ?_;refine Zx [] Xb hnt fun _ z9=>z9 _ _ ?_;refine Zz ?_;refine Zx [] Xb hnt fun K hK=>?_;refine Ze (ho) ?_;refine hK _ _ ?_;clear hK K;refine Zz ?_;refine ZP [(11,.ag (eTy Au.kA)),(12,.ag (eTy Au.kA)),(13,.sl 2 (eTys [Au.kA]) none),(15,.sl 2 (eTys Au.kW) none)] Xb hnt fun K hK=>?_;refine And.intro (Xl) ?_;refine And.intro (Xl) ?_
  refine And.intro (Zn.untag _ _ _) ?_;refine Ze (o2) ?_;refine And.intro (Zn.untag _ _ _) ?_;refine hK _ _ (by kernel_rfl) ?_;clear hK K;refine Zz ?_;refine Zx [] Xb hnt fun _ z9=>z9 _ _ ?_;refine Zz ?_;refine Zx [] Xb hnt fun _ z9=>z9 _ _ ?_;refine Zz ?_;refine Zx [] Xb hnt fun _ z9=>z9 _ _ ?_
  refine Zz ?_;refine ZP [(23,.ag [.sl 2 [] none,.v (.int .i64 2),.v (.int .i64 0),.sl 4 [] none]),(26,.ag [.sl 2 [] none,.v (.int .i64 2),.v (.int .i64 0),.sl 4 [] none]),(27,.ag (eTy Au.kA)),(28,.sl 2 (eTys [Au.kA]) none),(30,.sl 9 (Yp [Au.kE]) none)] Xb hnt fun K hK=>?_;refine And.intro (Xl) ?_;refine Ze (hx) ?_;refine Ze (hsx) ?_;refine And.intro (Xl) ?_;refine And.intro (Xl) ?_
  refine And.intro (Zn.untag _ _ _) ?_;refine And.intro (Zn.untag _ _ _) ?_;refine hK _ _ (by kernel_rfl) ?_;clear hK K;refine Zz ?_;refine ZP [(34,.ag [.sl 2 [] none,.v (.int .i64 1),.v (.int .i64 0),.sl 4 [] none]),(39,.ag [.sl 2 [] none,.v (.int .i64 1),.v (.int .i64 0),.sl 4 [] none])] Xb hnt fun K hK=>?_;refine And.intro (Xl) ?_;refine Ze (hz) ?_;refine Ze (hsz) ?_
  refine Ze (hssz) ?_;refine And.intro (Xl) ?_;refine Ze (hz) ?_;refine hK _ _ (by kernel_rfl) ?_;clear hK K;refine Zz ?_;refine ZP [(42,.ag [.sl 2 (eTys Au.kP.l.binds) none,.v (.int .i64 Au.kP.l.kind),.v (.int .i64 Au.kP.l.index),.sl 4 (eTms Au.kP.l.args) none,.sl 2 (eTys Au.kP.r.binds) none,.v (.int .i64 Au.kP.r.kind),.v (.int .i64 Au.kP.r.index),.sl 4 (eTms Au.kP.r.args) none,.sl 2 (eTys Au.kP.m) none]),(44,.ag [.sl 2 [] none,.v (.int .i64 1),.v (.int .i64 0),.sl 4 [] none]),(47,.sl 5 (Z1 [(0,Au.ks Au.kz)]) none),(48,.ag [.v (.int .i64 0),.v (.bool false),.sl 1 (Y4 []) none,.sl 5 (Z1 [(0,Au.ks Au.kz)]) none]),(49,.sl 4 (Y2 [Au.k1]) none)] Xb hnt fun K hK=>?_
  refine And.intro (Xl) ?_;refine And.intro (Xl) ?_;refine Ze (hz) ?_;refine And.intro (Zn.untag _ _ _) ?_;refine And.intro (Xl) ?_;refine And.intro (Zn.untag _ _ _) ?_;refine hK _ _ (by kernel_rfl) ?_;clear hK K;refine Zz ?_;refine Zx [(51,.ag [.sl 2 (eTys Au.kP.l.binds) none,.v (.int .i64 Au.kP.l.kind),.v (.int .i64 Au.kP.l.index),.sl 4 (eTms Au.kP.l.args) none,.sl 2 (eTys Au.kP.r.binds) none,.v (.int .i64 Au.kP.r.kind),.v (.int .i64 Au.kP.r.index),.sl 4 (eTms Au.kP.r.args) none,.sl 2 (eTys Au.kP.m) none]),(52,.sl 1 (Y4 [0]) none),(53,.ag [.sl 2 [] none,.v (.int .i64 1),.v (.int .i64 0),.sl 4 [] none]),(55,.sl 5 (Z1 [(0,Au.kz)]) none),(57,.sl 4 (Y2 [Au.k2]) none)] Xb hnt fun K hK=>?_
  refine And.intro (Xl) ?_;refine And.intro (Zn.untag _ _ _) ?_;refine And.intro (Xl) ?_;refine And.intro (Zn.untag _ _ _) ?_;refine And.intro (Zn.untag _ _ _) ?_;refine hK _ _ ?_;clear hK K;refine Zz ?_;refine Zx [(59,.ag [.v (.int .i64 1),.sl 2 (eTys Au.kW) none,.sl 2 (eTys []) none]),(61,.ag [.sl 2 (eTys Au.kL1.p.l.binds) none,.v (.int .i64 Au.kL1.p.l.kind),.v (.int .i64 Au.kL1.p.l.index),.sl 4 (eTms Au.kL1.p.l.args) none,.sl 2 (eTys Au.kL1.p.r.binds) none,.v (.int .i64 Au.kL1.p.r.kind),.v (.int .i64 Au.kL1.p.r.index),.sl 4 (eTms Au.kL1.p.r.args) none,.sl 2 (eTys Au.kL1.p.m) none,.sl 4 (Y2 Au.kL1.l) none]),(63,.v (.bool true)),(65,.ag [.v (.int .i64 1),.sl 2 (eTys Au.kW) none,.sl 2 (eTys []) none]),(67,.ag [.sl 2 (eTys Au.kL2.p.l.binds) none,.v (.int .i64 Au.kL2.p.l.kind),.v (.int .i64 Au.kL2.p.l.index),.sl 4 (eTms Au.kL2.p.l.args) none,.sl 2 (eTys Au.kL2.p.r.binds) none,.v (.int .i64 Au.kL2.p.r.kind),.v (.int .i64 Au.kL2.p.r.index),.sl 4 (eTms Au.kL2.p.r.args) none,.sl 2 (eTys Au.kL2.p.m) none,.sl 4 (Y2 Au.kL2.l) none]),(69,.v (.bool true)),(72,.ag [.v (.int .i64 1),.sl 2 (eTys Au.kW) none,.sl 2 (eTys []) none]),(74,.ag [.sl 2 (eTys Au.kP.l.binds) none,.v (.int .i64 Au.kP.l.kind),.v (.int .i64 Au.kP.l.index),.sl 4 (eTms Au.kP.l.args) none,.sl 2 (eTys Au.kP.r.binds) none,.v (.int .i64 Au.kP.r.kind),.v (.int .i64 Au.kP.r.index),.sl 4 (eTms Au.kP.r.args) none,.sl 2 (eTys Au.kP.m) none]),(75,.ag [.sl 2 (eTys Au.kL0.p.l.binds) none,.v (.int .i64 Au.kL0.p.l.kind),.v (.int .i64 Au.kL0.p.l.index),.sl 4 (eTms Au.kL0.p.l.args) none,.sl 2 (eTys Au.kL0.p.r.binds) none,.v (.int .i64 Au.kL0.p.r.kind),.v (.int .i64 Au.kL0.p.r.index),.sl 4 (eTms Au.kL0.p.r.args) none,.sl 2 (eTys Au.kL0.p.m) none,.sl 4 (Y2 Au.kL0.l) none]),(77,.v (.bool true)),(80,.ag [.v (.int .i64 1),.sl 2 (eTys Au.kW) none,.sl 2 (eTys []) none]),(82,.ag [.sl 2 (eTys Au.kL1.p.l.binds) none,.v (.int .i64 Au.kL1.p.l.kind),.v (.int .i64 Au.kL1.p.l.index),.sl 4 (eTms Au.kL1.p.l.args) none,.sl 2 (eTys Au.kL1.p.r.binds) none,.v (.int .i64 Au.kL1.p.r.kind),.v (.int .i64 Au.kL1.p.r.index),.sl 4 (eTms Au.kL1.p.r.args) none,.sl 2 (eTys Au.kL1.p.m) none,.sl 4 (Y2 Au.kL1.l) none]),(83,.sl 10 (VV [Au.kL1]) none),(85,.ag [.sl 2 (eTys Au.kP.l.binds) none,.v (.int .i64 Au.kP.l.kind),.v (.int .i64 Au.kP.l.index),.sl 4 (eTms Au.kP.l.args) none,.sl 2 (eTys Au.kP.r.binds) none,.v (.int .i64 Au.kP.r.kind),.v (.int .i64 Au.kP.r.index),.sl 4 (eTms Au.kP.r.args) none,.sl 2 (eTys Au.kP.m) none]),(87,.v (.bool true))] Xb hnt fun K hK=>?_
  refine And.intro (Xl) ?_;refine And.intro (Xl) ?_;refine Ze (L1) ?_;refine And.intro (XU rfl) ?_;refine And.intro (Xl) ?_;refine And.intro (Xl) ?_;refine Ze (L2) ?_;refine And.intro (XU rfl) ?_;refine And.intro (Xl) ?_;refine And.intro (Xl) ?_;refine And.intro (Xl) ?_;refine Ze (L0) ?_;refine And.intro (XU rfl) ?_;refine And.intro (Xl) ?_;refine And.intro (Xl) ?_;refine And.intro (Zn.untag _ _ _) ?_
  refine And.intro (Xl) ?_;refine Ze (PV) ?_;refine And.intro (XU rfl) ?_;refine hK _ _ ?_;clear hK K;refine Zu ?_
  exact Zj rfl
end Go.Proofs.YtclihnccilkohaaGreat
namespace Go.Proofs.YtclihnccilkohaaGreat
end Go.Proofs.YtclihnccilkohaaGreat
namespace Go.Proofs.YtclihnccilkohaaGreat
open Go.RowKit
section
variable {P:Program} {F:Fence} {n:Nat} {T:List (Nat×TI)} {cx:Cx} {m m':Mp} {Im Im':Nat→Nat→Prop} {w w':World} {a:Act} {σ σ' τ:List (Key×D)} {N N':Nat} {Q:Exit→List (Key×D)→Nat→Prop}
/-! stores that soft objects do not touch -/
def R9:Key→Bool
 | .t _=>true
 | .c _ _=>true
 | .r _=>true
 | _=>false
theorem XO.cutFG {Fr:Nat→Prop}(h:XO cx Fr m Im w){f g:Nat→Bool}(hb:∀ k b,cx.m0.blk k=some b→f k=true)(ho:∀ k b,cx.m0.obj k=some b→f k=true)(hr:∀ k R,cx.m0.row k=some R→g k=true):XO cx Fr (m.cut f g) Im w where
 off:=h.off
 im:=h.im
 imb:=h.imb
 im0:=h.im0
 own k b hk:=h.own k b (Mp.cut_blk hk).2
 lt k b hk:=h.lt k b (Mp.cut_blk hk).2
 free k b o hk:=h.free k b o (Mp.cut_blk hk).2
 nim k b o hk:=h.nim k b o (Mp.cut_blk hk).2
 inj k k' b hk hk':=h.inj k k' b (Mp.cut_blk hk).2 (Mp.cut_blk hk').2
 row g R hg:=h.row g R (Mp.cut_row hg).2
 k0:=h.k0
 rown g R b hg:=h.rown g R b (Mp.cut_row hg).2
 m0r x R hg:=by
  obtain⟨R',q1,q2⟩:=h.m0r x R hg
  exact⟨R',by simp[Mp.cut,hr x R hg,q1],q2⟩
 rIm g R b o hg:=h.rIm g R b o (Mp.cut_row hg).2
 rblk g R b k hg hb hk:=h.rblk g R b k (Mp.cut_row hg).2 hb (Mp.cut_blk hk).2
 rinj g g' R R' b hg hg':=h.rinj g g' R R' b (Mp.cut_row hg).2 (Mp.cut_row hg').2
 fr k hk:=by
  obtain⟨q1,q2,q3⟩:=h.fr k hk
  simp[Mp.cut,q1,q2,q3]
 m0o k b hk:=by simp[Mp.cut,ho k b hk,h.m0o k b hk]
 oown k b hk:=h.oown k b (Mp.cut_obj hk).2
 olt k b hk:=h.olt k b (Mp.cut_obj hk).2
 onim k b o hk:=h.onim k b o (Mp.cut_obj hk).2
 oinj k k' b hk hk':=h.oinj k k' b (Mp.cut_obj hk).2 (Mp.cut_obj hk').2
 oblk k k' b hk hk':=h.oblk k k' b (Mp.cut_obj hk).2 (Mp.cut_blk hk').2
 orow k g R b hk hg:=h.orow k g R b (Mp.cut_obj hk).2 (Mp.cut_row hg).2
 dis k b hk:=by
  have:=h.dis k b (Mp.cut_blk hk).2
  show (if _ then m.obj k else none)=none
  rw[this];simp
 m0 k b hk:=by simp[Mp.cut,hb k b hk,h.m0 k b hk]
def okN (σ:List (Key×D)):Bool:=σ.all fun p=>p.2.ok (YF σ) (Jt σ)&&R9 p.1
theorem St.only {Fr:Nat→Prop}(h:St cx Fr m Im w a σ)(hσ:okN σ=true)(hb:∀ k b,cx.m0.blk k=some b→YF σ k=true)(ho:∀ k b,cx.m0.obj k=some b→YF σ k=true)(hr:∀ k R,cx.m0.row k=some R→Jt σ k=true):St cx Fr (m.cut (YF σ) (Jt σ)) Im w a σ:=by
 have hok:∀ k d,get σ k=some d→d.ok (YF σ) (Jt σ)=true∧R9 k=true:=fun k d hk=>by
  have:=List.all_eq_true.1 hσ _ (YN hk)
  simpa using this
 refine⟨h.mem.cutFG hb ho hr,h.df,h.nt,fun x d hx=>(h.tm x d hx).cut (hok _ _ hx).1,fun k off d hx=>?_,fun g d hx=>?_,fun d hx=>?_,fun k d hx=>?_⟩
 ·obtain⟨b,v,q1,q2,q3⟩:=h.ce k off d hx
  exact⟨b,v,by simp only[Mp.cut,XM (YN hx),if_true];exact q1,q2,q3.cut (hok _ _ hx).1⟩
 ·obtain⟨R,q1,q2⟩:=h.ro g d hx
  exact⟨R,by simp only[Mp.cut,Jh (YN hx),if_true];exact q1,q2.cut (hok _ _ hx).1⟩
 ·have:=(hok _ _ hx).2;cases this
 ·have:=(hok _ _ hx).2;cases this
end
section
variable {P:Program} {F:Fence} {n:Nat} {T:List (Nat×TI)} {cx:Cx} {m m':Mp} {Im Im':Nat→Nat→Prop} {w w':World} {a:Act} {σ σ' τ:List (Key×D)} {N N':Nat}
end
end Go.Proofs.YtclihnccilkohaaGreat
namespace Go.Proofs.YtclihnccilkohaaGreat
open Go.RowKit Go.Shelf
attribute [local go_sem] Oper.semAt_some
end Go.Proofs.YtclihnccilkohaaGreat
namespace Go.Proofs.YtclihnccilkohaaGreat
open Go.RowKit
namespace Ru
def wB (C M:List Ty):Bool:=decide (C.length≤20∧M.length≤20)&&(C++M).all WY
end Ru
theorem GC (b:Int)(C M:List Ty):Zd Tryz.prog 8 [.ag [.v (.int .i64 b),.sl 2 (eTys C) none,.sl 2 (eTys M) none],.v (.slice none 0 0)] (.v (.bool (Ru.wB C M))):=by
 unfold Ru.wB
 by_cases h:C.length≤20∧M.length≤20
 ·have:=Kb b C M [] h.1 h.2 (by simp)
  rw[List.append_nil] at this
  rw[decide_eq_true h,Bool.true_and]
  exact ZE.vle this (.cons (Zn.refl _) (.cons (Zn.nil _) .nil)) (Zn.refl _)
 ·have:=Re b C M [] (fun h2=>h ⟨h2.1,h2.2.1⟩)
  rw[decide_eq_false h,Bool.false_and]
  exact ZE.vle this (.cons (Zn.refl _) (.cons (Zn.nil _) .nil)) (Zn.refl _)
namespace Au
end Au
def TAUV_31:TI:=⟨4,true,[Value.slice none 0 0,Value.int IntKind.i64 0,Value.int IntKind.i64 0,Value.slice none 0 0],[(0,1,false),(1,2,true),(3,1,false)],none,64,6,none,false⟩
theorem Mn:TypOk Tryz.prog 31 TAUV_31:=by constructor <;> kernel_rfl
def TAUV_56:TI:=⟨1,false,[Value.slice none 0 0],[],some 74,24,5,none,false⟩
theorem Ms:TypOk Tryz.prog 56 TAUV_56:=by constructor <;> kernel_rfl
def TAUV_78:TI:=⟨1,false,[Value.slice none 0 0],[],some 86,24,5,none,false⟩
theorem My:TypOk Tryz.prog 78 TAUV_78:=by constructor <;> kernel_rfl
def TAUV_24:TI:=⟨3,true,[Value.int IntKind.i64 0,Value.slice none 0 0,Value.slice none 0 0],[(0,1,false),(1,1,false),(2,1,false)],none,56,6,none,false⟩
theorem Mk:TypOk Tryz.prog 24 TAUV_24:=by constructor <;> kernel_rfl
def TAUV_3:TI:=⟨1,false,[Value.int IntKind.i64 0],[],none,8,2,none,false⟩
theorem Gg:TypOk Tryz.prog 3 TAUV_3:=by constructor <;> kernel_rfl
def TAUV_74:TI:=⟨4,true,[Value.int IntKind.i64 0,Value.bool false,Value.slice none 0 0,Value.slice none 0 0],[(0,1,false),(1,1,false),(2,1,false),(3,1,false)],none,64,6,none,false⟩
theorem Mx:TypOk Tryz.prog 74 TAUV_74:=by constructor <;> kernel_rfl
def TAUV_86:TI:=⟨4,true,[Value.int IntKind.i64 0,Value.bool false,Value.slice none 0 0,Value.slice none 0 0],[(0,1,false),(1,1,false),(2,1,false),(3,1,false)],none,64,6,none,false⟩
theorem NA:TypOk Tryz.prog 86 TAUV_86:=by constructor <;> kernel_rfl
def TAUV_62:TI:=⟨4,true,[Value.slice none 0 0,Value.int IntKind.i64 0,Value.int IntKind.i64 0,Value.slice none 0 0],[(0,1,false),(1,2,true),(3,1,false)],none,64,6,none,false⟩
theorem Mt:TypOk Tryz.prog 62 TAUV_62:=by constructor <;> kernel_rfl
def TAUV_29:TI:=⟨1,false,[Value.slice none 0 0],[],some 31,24,5,none,false⟩
theorem Mm:TypOk Tryz.prog 29 TAUV_29:=by constructor <;> kernel_rfl
def TAUV_25:TI:=⟨1,false,[Value.slice none 0 0],[],some 33,24,5,none,false⟩
theorem Ml:TypOk Tryz.prog 25 TAUV_25:=by constructor <;> kernel_rfl
def TAUV_84:TI:=⟨1,false,[Value.slice none 0 0],[],some 110,24,5,none,false⟩
theorem Mz:TypOk Tryz.prog 84 TAUV_84:=by constructor <;> kernel_rfl
def TAUV_22:TI:=⟨1,false,[Value.slice none 0 0],[],some 104,24,5,none,false⟩
theorem Mj:TypOk Tryz.prog 22 TAUV_22:=by constructor <;> kernel_rfl
def TAUV_43:TI:=⟨3,true,[Value.int IntKind.i64 0,Value.slice none 0 0,Value.slice none 0 0],[(0,1,false),(1,1,false),(2,1,false)],none,56,6,none,false⟩
theorem Mr:TypOk Tryz.prog 43 TAUV_43:=by constructor <;> kernel_rfl
def TAUV_34:TI:=⟨1,false,[Value.slice none 0 0],[],some 64,24,5,none,false⟩
theorem Mq:TypOk Tryz.prog 34 TAUV_34:=by constructor <;> kernel_rfl
def TAUV_4:TI:=⟨1,false,[Value.bool false],[],none,1,1,none,false⟩
theorem Gh:TypOk Tryz.prog 4 TAUV_4:=by constructor <;> kernel_rfl
def TAUV_71:TI:=⟨1,false,[Value.slice none 0 0],[],some 3,24,5,none,false⟩
theorem Mv:TypOk Tryz.prog 71 TAUV_71:=by constructor <;> kernel_rfl
def TAUV_110:TI:=⟨5,true,[Value.int IntKind.i64 0,Value.slice none 0 0,Value.int IntKind.i64 0,Value.int IntKind.i64 0,Value.slice none 0 0],[(0,1,false),(1,4,true)],none,72,6,none,false⟩
theorem QO:TypOk Tryz.prog 110 TAUV_110:=by constructor <;> kernel_rfl
def TAUV_64:TI:=⟨9,true,[Value.slice none 0 0,Value.int IntKind.i64 0,Value.int IntKind.i64 0,Value.slice none 0 0,Value.slice none 0 0,Value.int IntKind.i64 0,Value.int IntKind.i64 0,Value.slice none 0 0,Value.slice none 0 0],[(0,4,true),(4,4,true),(8,1,false)],none,152,6,none,false⟩
theorem Mu:TypOk Tryz.prog 64 TAUV_64:=by constructor <;> kernel_rfl
def TAUV_104:TI:=⟨2,true,[Value.slice none 0 0,Value.int IntKind.i64 0],[(0,1,false),(1,1,false)],none,32,6,none,false⟩
theorem QN:TypOk Tryz.prog 104 TAUV_104:=by constructor <;> kernel_rfl
def TAUV_33:TI:=⟨9,true,[Value.slice none 0 0,Value.int IntKind.i64 0,Value.int IntKind.i64 0,Value.slice none 0 0,Value.slice none 0 0,Value.int IntKind.i64 0,Value.int IntKind.i64 0,Value.slice none 0 0,Value.slice none 0 0],[(0,4,true),(4,4,true),(8,1,false)],none,152,6,none,false⟩
theorem Mo:TypOk Tryz.prog 33 TAUV_33:=by constructor <;> kernel_rfl
def TAUV:List (Nat×TI):=[(31,TAUV_31),(56,TAUV_56),(78,TAUV_78),(24,TAUV_24),(3,TAUV_3),(74,TAUV_74),(86,TAUV_86),(62,TAUV_62),(29,TAUV_29),(25,TAUV_25),(84,TAUV_84),(22,TAUV_22),(43,TAUV_43),(34,TAUV_34),(4,TAUV_4),(71,TAUV_71),(110,TAUV_110),(64,TAUV_64),(104,TAUV_104),(33,TAUV_33)]
theorem ZL:Zh Tryz.prog TAUV:=(((((((((((((((((((((Zh.nil _).cons Mo).cons QN).cons Mu).cons QO).cons Mv).cons Gh).cons Mq).cons Mr).cons Mj).cons Mz).cons Ml).cons Mm).cons Mt).cons NA).cons Mx).cons Gg).cons Mk).cons My).cons Ms).cons Mn)
set_option maxHeartbeats 4000000 in
theorem Ji (l:List Au.St)(hl:l.length≤100000)(hs:∀ x∈l,x.s.length≤100000∧∀ p∈x.s,p.2.full≤900000):Zd Tryz.prog 29 [.sl 4 (Y2 l) none] (.sl 4 (Y2 l) none):=by
 obtain⟨O,hO⟩:∃ O:Nat→List Au.St,∀ j,l.take j=O j:=⟨_,fun _=>rfl⟩
 have hO0:O 0=[]:=by rw[←hO];rfl
 have hOn:∀ j (h:j<l.length),O j++[l[j]]=O (j+1):=fun j h=>by rw[←hO,←hO,List.take_add_one,List.getElem?_eq_getElem h];rfl
 have hOl:∀ j,j≤l.length→(O j).length=j:=fun j h=>by rw[←hO,List.length_take];omega
 have hOm:O l.length=l:=by rw[←hO,List.take_length]
 suffices h:Zd Tryz.prog 29 [.sl 4 (Y2 l) none] (.sl 4 (Y2 (O l.length)) none) by rwa [hOm] at h
 refine Zm 0 37 [ResultVar.tmp 2] ZL Tryz.func29 rfl Tryz.ntmps29 rfl fun cx hnt hn0=>?_
 ·skip
  refine Zz ?_;refine Zx [] ZL hnt fun _ z9=>z9 _ _ ?_;refine Zz ?_;refine Zx [] ZL hnt fun _ z9=>z9 _ _ ?_
  refine DW.vs (VS.rowT (x:=3) (by rw[hnt];decide) 74 4 rfl) ?_
  refine Zz ?_;refine Zz ?_;refine Zx [] ZL hnt fun _ z9=>z9 _ _ ?_;refine Zt ?_
  refine Z4 (ι:={ j:Nat // j≤l.length }) (fun j=>[(.t 0,.sl 4 (Y2 l) none),(.t 3,.sl 4 (Y2 (O j.1)) (some 2)),(.r 2,.rw 74 4 (O j.1).length),(.t 4,.v (.int .i64 ↑j.1))]) 20 (fun j=>l.length-j.1) (⟨0,Nat.zero_le _⟩) ((by dsimp only;rw[hO0];exact VS.toA)) fun j=>?_
  obtain⟨j,hj⟩:=j
  dsimp only
  by_cases hlt:j<l.length
  ·obtain⟨x,hx⟩:∃ x,l[j]=x:=⟨_,rfl⟩
   have hgd:(Y2 l).getD j []=[.v (.int .i64 x.eq),.v (.bool x.back),.sl 1 (Y4 x.path) none,.sl 5 (Z1 x.s) none]:=by rw[V7 l j hlt,hx];rfl
   have hxs:=hs x (hx ▸ List.getElem_mem hlt)
   have hf:=A4 x.s hxs.1 hxs.2
   have hsn:=S3 (O j) x
   rw[←hx,hOn j hlt,hx] at hsn
   have hl1:(Y2 (O j)).length=(O j).length:=ZG _
   have hl3:=hOl j hj
   have hl2:(Y2 (O (j+1))).length=(O (j+1)).length:=ZG _
   refine Zz ?_;refine Zz ?_;refine Zx [(7,.v (.int .i64 (↑l.length))),(8,.v (.bool true))] ZL hnt fun K hK=>?_;refine And.intro (Zq (by rw[ZG])) ?_;refine And.intro (ZZ (by omega)) ?_;refine hK _ _ ?_;clear hK K;refine Zy (t:=true) rfl ?_;rw[if_pos rfl];refine Zw ?_;refine Zz ?_;refine Zt ?_;refine ZP [(14,.q [.v (.int .i64 x.eq),.v (.bool x.back),.sl 1 (Y4 x.path) none,.sl 5 (Z1 x.s) none]),(19,.q [.v (.int .i64 x.eq),.v (.bool x.back),.sl 1 (Y4 x.path) none,.sl 5 (Z1 x.s) none]),(24,.q [.v (.int .i64 x.eq),.v (.bool x.back),.sl 1 (Y4 x.path) none,.sl 5 (Z1 x.s) none]),(29,.q [.v (.int .i64 x.eq),.v (.bool x.back),.sl 1 (Y4 x.path) none,.sl 5 (Z1 x.s) none])] ZL hnt fun K hK=>?_
   refine And.intro (⟨by omega,by rw[ZG];omega⟩) ?_;refine And.intro (Zn.of_eq (by rw[Int.toNat_natCast,hgd])) ?_;refine And.intro (⟨by omega,by rw[ZG];omega⟩) ?_;refine And.intro (Zn.of_eq (by rw[Int.toNat_natCast,hgd])) ?_;refine And.intro (⟨by omega,by rw[ZG];omega⟩) ?_;refine And.intro (Zn.of_eq (by rw[Int.toNat_natCast,hgd])) ?_;refine And.intro (⟨by omega,by rw[ZG];omega⟩) ?_
   refine And.intro (Zn.of_eq (by rw[Int.toNat_natCast,hgd])) ?_;refine Ze (hf) ?_;refine And.intro (⟨by omega,by rw[hl1];simp;omega⟩) ?_;refine hK _ _ (by kernel_rfl) ?_;clear hK K
   rw[hsn,hl2]
   refine Zx [(10,.v (.int .i64 (↑(j+1))))] ZL hnt fun K hK=>?_;refine And.intro XR ?_;refine hK _ _ ?_;clear hK K
   refine⟨⟨j+1,hlt⟩,by first | omega | (dsimp only;omega),VS.toA⟩
  ·have hje:j=l.length:=by omega
   subst hje
   refine Zz ?_;refine Zz ?_;refine Zx [(7,.v (.int .i64 (↑l.length))),(8,.v (.bool false))] ZL hnt fun K hK=>?_;refine And.intro (Zq (by rw[ZG])) ?_;refine And.intro (Zf (by omega)) ?_;refine hK _ _ ?_;clear hK K;refine Zy (t:=false) rfl ?_;rw[if_neg (by simp)];refine Zc ?_;refine Zz ?_;refine Zx [] ZL hnt fun _ z9=>z9 _ _ ?_
   refine Zu ?_
   exact Zj rfl
set_option maxHeartbeats 8000000 in
theorem Ry (b:Int)(C Mw:List Ty)(l:List Li.Pr)(t:Tm)(y:Au.St)(hl:l.length≤9223372036854775807)(hlf:∀ p∈l,p.l.Fit∧p.r.Fit)(htf:t.Fit) 
  (hy:y.path.length≤9223372036854775807∧y.s.length≤9223372036854775807∧∀ q∈y.s,q.2.Fit) :
  Zd Tryz.prog 4 [.ag [.v (.int .i64 b),.sl 2 (eTys C) none,.sl 2 (eTys Mw) none],.sl 9 (Yp l) none,.ag (eTm t),.ag (SB y)] (.v (.bool true)):=by
 have hk:=Ja
 have hA:=ER l hl
 have hSm:=GC b C Mw
 have hF:=Da 60 (by decide) (by decide) t 60 (by decide) (by decide)
 have hG:=PG [y] (by simp) (fun x hx=>by rw[List.mem_singleton] at hx;subst hx;exact⟨hy.2.1,fun p _ h=>X2 _ (by have:=(Ws h).1;omega)⟩) (fun x hx=>by rw[List.mem_singleton] at hx;subst hx;exact hy.1)
 rw[show [y].take 8=[y] from rfl,show [y].all Au.okS=Au.okS y by simp] at hG
 have eY:Y2 [y]=[[.v (.int .i64 y.eq),.v (.bool y.back),.sl 1 (Y4 y.path) none,.sl 5 (Z1 y.s) none]]:=rfl
 obtain⟨A,hAe⟩:∃ A,(if (l.take 6).all Au.okA=true then l.take 6 else [])=A:=⟨_,rfl⟩
 rw[hAe] at hA
 rw[Zv] at hF ⊢
 unfold SB
 cases ha:(l.take 6).all Au.okA with
 | false=>
  rw[ha] at hA
  refine Zm 0 89 [ResultVar.tmp 8] ZL Tryz.func4 rfl Tryz.ntmps4 rfl fun cx hnt hn0=>?_
  ·skip
   refine Zz ?_;refine Zx [] ZL hnt fun _ z9=>z9 _ _ ?_;refine Zz ?_;refine Zx [] ZL hnt fun K hK=>?_;refine Ze (hA) ?_;refine hK _ _ ?_;clear hK K;refine Zz ?_;refine Zz ?_;refine Zx [] ZL hnt fun _ z9=>z9 _ _ ?_;refine Zy (t:=true) rfl ?_;rw[if_pos rfl];refine Zz ?_;refine Zx [] ZL hnt fun K hK=>?_
   refine Ze (hk) ?_;refine hK _ _ ?_;clear hK K;refine Zu ?_
   exact Zj rfl
 | true=>
 rw[ha] at hA
 cases hs:Ru.wB C Mw with
 | false=>
  rw[hs] at hSm
  refine Zm 0 89 [ResultVar.tmp 8] ZL Tryz.func4 rfl Tryz.ntmps4 rfl fun cx hnt hn0=>?_
  ·skip
   refine Zz ?_;refine Zx [] ZL hnt fun _ z9=>z9 _ _ ?_;refine Zz ?_;refine Zx [] ZL hnt fun K hK=>?_;refine Ze (hA) ?_;refine hK _ _ ?_;clear hK K;refine Zz ?_;refine Zz ?_;refine Zx [] ZL hnt fun K hK=>?_;refine Ze (hSm) ?_;refine hK _ _ ?_;clear hK K;refine Zy (t:=true) rfl ?_;rw[if_pos rfl];refine Zz ?_;refine Zx [] ZL hnt fun K hK=>?_
   refine Ze (hk) ?_;refine hK _ _ ?_;clear hK K;refine Zu ?_
   exact Zj rfl
 | true=>
 rw[hs] at hSm
 cases hf:decide (Wi 60 t 60≤60) with
 | false=>
  rw[hf] at hF
  refine Zm 0 89 [ResultVar.tmp 8] ZL Tryz.func4 rfl Tryz.ntmps4 rfl fun cx hnt hn0=>?_
  ·skip
   refine Zz ?_;refine Zx [] ZL hnt fun _ z9=>z9 _ _ ?_;refine Zz ?_;refine Zx [] ZL hnt fun K hK=>?_;refine Ze (hA) ?_;refine hK _ _ ?_;clear hK K;refine Zz ?_;refine Zz ?_;refine Zx [] ZL hnt fun K hK=>?_;refine Ze (hSm) ?_;refine Ze (hF) ?_;refine hK _ _ ?_;clear hK K;refine Zy (t:=true) rfl ?_;rw[if_pos rfl];refine Zz ?_
   refine Zx [] ZL hnt fun K hK=>?_;refine Ze (hk) ?_;refine hK _ _ ?_;clear hK K;refine Zu ?_
   exact Zj rfl
 | true=>
 rw[hf] at hF
 have zt:=U9 (by decide) 60 t 60 (by decide) (by decide) (of_decide_eq_true hf)
 have zf:t.full≤60:=by have:=of_decide_eq_true hf;omega
 have hLo:=FU [t] (by simp) (fun u hu=>by rw[List.mem_singleton] at hu;subst hu;exact X2 _ (by omega))
 have eL:eTms [t]=[[.sl 2 (eTys t.binds) none,.v (.int .i64 t.kind),.v (.int .i64 t.index),.sl 4 (eTms t.args) none]]:=by show [eTm t]=_;rw[Zv]
 cases hlo:lowsB [t] with
 | false=>
  rw[hlo] at hLo
  refine Zm 0 89 [ResultVar.tmp 8] ZL Tryz.func4 rfl Tryz.ntmps4 rfl fun cx hnt hn0=>?_
  ·skip
   refine Zz ?_;refine Zx [] ZL hnt fun _ z9=>z9 _ _ ?_;refine Zz ?_;refine Zx [] ZL hnt fun K hK=>?_;refine Ze (hA) ?_;refine hK _ _ ?_;clear hK K;refine Zz ?_;refine Zz ?_;refine Zx [(37,.sl 4 (eTms [t]) none)] ZL hnt fun K hK=>?_;refine Ze (hSm) ?_;refine Ze (hF) ?_;refine And.intro ((by rw[eL];exact Zn.untag _ _ _)) ?_
   refine Ze (hLo) ?_;refine hK _ _ ?_;clear hK K;refine Zy (t:=true) rfl ?_;rw[if_pos rfl];refine Zz ?_;refine Zx [] ZL hnt fun K hK=>?_;refine Ze (hk) ?_;refine hK _ _ ?_;clear hK K;refine Zu ?_
   exact Zj rfl
 | true=>
 rw[hlo] at hLo
 cases hg:Au.okS y with
 | false=>
  rw[hg] at hG
  refine Zm 0 89 [ResultVar.tmp 8] ZL Tryz.func4 rfl Tryz.ntmps4 rfl fun cx hnt hn0=>?_
  ·skip
   refine Zz ?_;refine Zx [] ZL hnt fun _ z9=>z9 _ _ ?_;refine Zz ?_;refine Zx [] ZL hnt fun K hK=>?_;refine Ze (hA) ?_;refine hK _ _ ?_;clear hK K;refine Zz ?_;refine Zz ?_;refine Zx [(37,.sl 4 (eTms [t]) none),(43,.sl 4 (Y2 [y]) none)] ZL hnt fun K hK=>?_;refine Ze (hSm) ?_;refine Ze (hF) ?_;refine And.intro ((by rw[eL];exact Zn.untag _ _ _)) ?_
   refine Ze (hLo) ?_;refine And.intro ((by rw[eY];exact Zn.untag _ _ _)) ?_;refine Ze (hG) ?_;refine hK _ _ ?_;clear hK K;refine Zy (t:=true) rfl ?_;rw[if_pos rfl];refine Zz ?_;refine Zx [] ZL hnt fun K hK=>?_;refine Ze (hk) ?_;refine hK _ _ ?_;clear hK K;refine Zu ?_
   exact Zj rfl
 | true=>
 rw[hg] at hG
 have hAe:A=l.take 6:=by rw[←hAe,if_pos ha]
 have hAl:A.length≤6:=by rw[hAe,List.length_take];omega
 unfold Ru.wB at hs
 rw[Bool.and_eq_true,decide_eq_true_eq] at hs
 have hCM:∀ t∈C++Mw,t.size≤60:=fun t ht=>Eo (List.all_eq_true.1 hs.2 t ht)
 have zC:Ty.sizes C≤1200:=by have:=VP (fun t ht=>hCM t (List.mem_append_left _ ht));have:=hs.1.1;omega
 have zM:Ty.sizes Mw≤1200:=by have:=VP (fun t ht=>hCM t (List.mem_append_right _ ht));have:=hs.1.2;omega
 have hWd:=Ak b C Mw (by omega) (by omega)
 have h8:(∀ p∈y.s.take 10,p.2.full≤150)∧y.path.length≤100:=by
  rw[Au.okS,Bool.and_eq_true,decide_eq_true_eq] at hg
  exact⟨fun p hp=>(Ws (by have:=List.all_eq_true.1 hg.1 p hp;rw[Bool.and_eq_true] at this;exact this.1)).1,hg.2⟩
 have hSt:=DT [y] (by simp) (fun x hx=>by
  have hx:=List.mem_of_mem_take hx
  rw[List.mem_singleton] at hx;subst hx
  exact⟨hy.2.1,fun p hp=>by have:=h8.1 p hp;omega⟩)
 have hTo:=CV t (by omega)
 obtain⟨x,hx⟩:∃ x,Au.cut y=x:=⟨_,rfl⟩
 rw[show ([y].take 8).map Au.cut=[Au.cut y] from rfl,hx] at hSt
 have hLx:x.s.length≤10∧(∀ q∈x.s,q.2.full≤150∧q.2.Fit)∧x.path.length≤100:=by
  rw[←hx]
  exact⟨by show (y.s.take 10).length≤10;rw[List.length_take];omega,fun q hq=>⟨h8.1 q hq,hy.2.2 q (List.mem_of_mem_take hq)⟩,h8.2⟩
 have hLok:Au.SOk x:=⟨by have:=hLx.1;omega,hLx.2.1,by have:=hLx.2.2;omega⟩
 have hEq:∀ q∈A,Au.EqOk q:=fun q hq=>by
  rw[hAe] at hq
  have h:=List.all_eq_true.1 ha q hq
  rw[Au.okA,Bool.and_eq_true] at h
  obtain⟨h1,h2,_⟩:=KQ h.1
  have hfq:=hlf q (List.mem_of_mem_take hq)
  exact⟨⟨h1.1,Bnd.of_full _ h1.1 hfq.1⟩,⟨h1.2,Bnd.of_full _ h1.2 hfq.2⟩,by omega⟩
 have hts:=Tm.size_le_full t
 have hTt:Au.TOk t:=⟨by omega,Bnd.of_full _ (by omega) htf,by omega⟩
 obtain⟨code,hc⟩:=Au.code_ex C Mw
 have hcl:=hs.1.1
 have hml:=hs.1.2
 have hP:=Av b C Mw A t x code hc (by omega) (by omega) (by omega) hEq hLok hTt
 rw[Au.chain_one] at hP
 have hD:=DP b C Mw A t x code hc (by omega) (by omega) (by omega) hEq hLok hTt
 have hTOk:Au.TOk (Au.step code A x (t,0)).1:=Au.step_ok code hEq (fun q hq=>Bnd.of_full _ (hLx.2.1 q hq).1 (hLx.2.1 q hq).2) hTt
 have hOs:=Ji [x] (by simp) (fun z hz=>by rw[List.mem_singleton] at hz;subst hz;exact⟨by have:=hLx.1;omega,fun p hp=>by have:=(hLx.2.1 p hp).1;omega⟩)
 obtain⟨⟨o,e⟩,hoe⟩:∃ r,Au.step code A x (t,0)=r:=⟨_,rfl⟩
 rw[hoe] at hP hD hTOk
 dsimp only at hP hD hTOk
 have hOf:=CS o (by have:=hTOk.2.2;omega)
 have hSa:=K0 o o
 rw[decide_eq_true rfl] at hSa
 have eX:(Y2 [x]).getD (Int.toNat 0) []=[.v (.int .i64 x.eq),.v (.bool x.back),.sl 1 (Y4 x.path) none,.sl 5 (Z1 x.s) none]:=rfl
 unfold SB at hP hD
 rw[Zv t,Zv o] at hP hD
 rw[Zv] at hTo hOf hSa
 refine Zm 0 89 [ResultVar.tmp 8] ZL Tryz.func4 rfl Tryz.ntmps4 rfl fun cx hnt hn0=>?_
 ·skip
  refine Zz ?_;refine Zx [] ZL hnt fun _ z9=>z9 _ _ ?_;refine Zz ?_;refine Zx [] ZL hnt fun K hK=>?_;refine Ze (hA) ?_;refine hK _ _ ?_;clear hK K;refine Zz ?_;refine Zz ?_;refine Zx [(37,.sl 4 (eTms [t]) none),(43,.sl 4 (Y2 [y]) none)] ZL hnt fun K hK=>?_;refine Ze (hSm) ?_;refine Ze (hF) ?_;refine And.intro ((by rw[eL];exact Zn.untag _ _ _)) ?_
  refine Ze (hLo) ?_;refine And.intro ((by rw[eY];exact Zn.untag _ _ _)) ?_;refine Ze (hG) ?_;refine hK _ _ ?_;clear hK K;refine Zy (t:=false) rfl ?_;rw[if_neg (by simp)];refine Zw ?_;refine Zz ?_;refine Zx [(49,.sl 4 (Y2 [y]) none)] ZL hnt fun K hK=>?_;refine And.intro ((by rw[eY];exact Zn.untag _ _ _)) ?_;refine Ze (hSt) ?_;refine hK _ _ ?_;clear hK K
  refine Zz ?_;refine Zz ?_;refine Zx [(52,.v (.int .i64 (1))),(53,.v (.bool false))] ZL hnt fun K hK=>?_;refine And.intro (Zq (by rfl)) ?_;refine And.intro (Yy rfl) ?_;refine hK _ _ ?_;clear hK K;refine Zy (t:=false) rfl ?_;rw[if_neg (by simp)];refine Zw ?_;refine Zz ?_;refine ZP [(61,.q [.v (.int .i64 x.eq),.v (.bool x.back),.sl 1 (Y4 x.path) none,.sl 5 (Z1 x.s) none])] ZL hnt fun K hK=>?_
  refine Ze (hWd) ?_;refine Ze (hTo) ?_;refine And.intro (⟨by decide,by rw[ZG];simp⟩) ?_;refine And.intro (Zn.of_eq (by rw[eX])) ?_;refine Ze (hP) ?_;refine hK _ _ (by kernel_rfl) ?_;clear hK K;refine Zz ?_;refine ZP [(72,.q [.v (.int .i64 x.eq),.v (.bool x.back),.sl 1 (Y4 x.path) none,.sl 5 (Z1 x.s) none])] ZL hnt fun K hK=>?_;refine Ze (hOs) ?_;refine And.intro (⟨by decide,by rw[ZG];simp⟩) ?_
  refine And.intro (Zn.of_eq (by rw[eX])) ?_;refine Ze (hD) ?_;refine hK _ _ (by kernel_rfl) ?_;clear hK K;refine Zz ?_;refine ZP [(81,.v (.bool true))] ZL hnt fun K hK=>?_;refine Ze (hk) ?_;refine And.intro (XU rfl) ?_;refine Ze (hOf) ?_;refine Ze (hSa) ?_;refine hK _ _ (by kernel_rfl) ?_;clear hK K;refine Zu ?_
  exact Zj rfl
end Go.Proofs.YtclihnccilkohaaGreat
