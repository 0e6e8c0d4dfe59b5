/-
  Terms, walked in the deep way: Equal, Eta, Var; the document's Same, Eta, Var. term.Loose. Package pattern, walked in the deep way: what is small. Deep values: a function that hands back a new map. Package pattern, walked in the deep way: Flex, Vars, places, types. Package pattern, walked in the deep way: places, types. The laws' helpers of layers 8 and 9: Low, Of. Package pattern, walked in the deep way: turned, Take. Package pattern, walked in the deep way: Take. Deep values: calls that grow rows of their callers. Package pattern, walked in the deep way: uses, Uses, Is. Deep values: rows that nothing else reads: how they begin, how they are handed on. Sorting that keeps the order of equal keys, in plain words. Places, uses and matching in plain Lean: the document's answer and the program's are one. Package slices' stable sort of pairs, walked in the deep way: insertion, swaps, rotation. Package slices' stable sort of pairs, walked in the deep way: the merge.
-/
import Derived.Test.YtflbnonbfmmchaaGreatRowLiftImagesp5
import Derived.Test.YtflbnonbfmmchaaGreatRowLiftImagesp4
set_option maxRecDepth 100000
set_option maxHeartbeats 1000000
set_option linter.unusedVariables false
set_option linter.unusedSimpArgs false
namespace Go.Proofs.YtflbnonbfmmchaaGreat
open Go.RowKit
def TTM_41:TI:=⟨4,true,[Value.slice none 0 0,Value.int IntKind.i64 0,Value.int IntKind.i64 0,Value.slice none 0 0],[(0,1,false),(1,2,true),(3,1,false)],none,64,6,none,false⟩
theorem TTM_41_ok:TypOk Tryz.prog 41 TTM_41:=by constructor <;> kernel_rfl
def TTM_38:TI:=⟨2,true,[Value.int IntKind.i64 0,Value.int IntKind.i64 0],[(0,1,false),(1,1,false)],none,16,6,none,true⟩
theorem TTM_38_ok:TypOk Tryz.prog 38 TTM_38:=by constructor <;> kernel_rfl
def TTM_3:TI:=⟨1,false,[Value.int IntKind.i64 0],[],none,8,2,none,false⟩
theorem TTM_3_ok:TypOk Tryz.prog 3 TTM_3:=by constructor <;> kernel_rfl
def TTM_39:TI:=⟨1,false,[Value.slice none 0 0],[],some 41,24,5,none,false⟩
theorem TTM_39_ok:TypOk Tryz.prog 39 TTM_39:=by constructor <;> kernel_rfl
def TTM_33:TI:=⟨1,false,[Value.slice none 0 0],[],some 44,24,5,none,false⟩
theorem TTM_33_ok:TypOk Tryz.prog 33 TTM_33:=by constructor <;> kernel_rfl
def TTM_44:TI:=⟨2,true,[Value.slice none 0 0,Value.int IntKind.i64 0],[(0,1,false),(1,1,false)],none,32,6,none,false⟩
theorem TTM_44_ok:TypOk Tryz.prog 44 TTM_44:=by constructor <;> kernel_rfl
def TTM_144:TI:=⟨1,false,[Value.nilFunc],[],none,8,8,none,false⟩
theorem TTM_144_ok:TypOk Tryz.prog 144 TTM_144:=by constructor <;> kernel_rfl
def TTM_58:TI:=⟨1,false,[Value.nilFunc],[],none,8,8,none,false⟩
theorem TTM_58_ok:TypOk Tryz.prog 58 TTM_58:=by constructor <;> kernel_rfl
def TTM:List (Nat×TI):=[(41,TTM_41),(38,TTM_38),(3,TTM_3),(39,TTM_39),(33,TTM_33),(44,TTM_44),(144,TTM_144),(58,TTM_58)]
theorem TTM_ok:TabOk Tryz.prog TTM:=(((((((((TabOk.nil _).cons TTM_58_ok).cons TTM_144_ok).cons TTM_44_ok).cons TTM_33_ok).cons TTM_39_ok).cons TTM_3_ok).cons TTM_38_ok).cons TTM_41_ok)
theorem bindsT (b:List Ty)(k i:Int)(a:List Tm):(Tm.mk b k i a).binds=b:=rfl
theorem kindT (b:List Ty)(k i:Int)(a:List Tm):(Tm.mk b k i a).kind=k:=rfl
theorem indexT (b:List Ty)(k i:Int)(a:List Tm):(Tm.mk b k i a).index=i:=rfl
theorem argsTm (b:List Ty)(k i:Int)(a:List Tm):(Tm.mk b k i a).args=a:=rfl
theorem eqTmsA (l r:List Tm)(h:∀ t∈l,∀ u,PureC Tryz.prog 20 [.ag (eTm t),.ag (eTm u)] (.v (.bool (decide (t=u))))):PureC Tryz.prog 70 [.sl 4 (eTms l) none,.sl 4 (eTms r) none,.fn 20 []] (.v (.bool (decide (l=r)))):=CallC.lens fun hlen=>by
 have hl:l.length≤9223372036854775807:=by have:=hlen _ (List.mem_cons_self ..);simp only[slOk,sl1,eTms_len] at this;exact this
 by_cases hlr:l.length=r.length
 ·skip
  refine calldw 0 32 [ResultVar.tmp 6] TTM_ok Tryz.func70 rfl Tryz.ntmps70 rfl fun cx hnt hn0=>?_
  ·skip
   refine dw_seq ?_;refine dwk [] TTM_ok hnt fun _ z9=>z9 _ _ ?_;refine dw_seq ?_;refine dw_seq ?_;refine dwk [(11,.v (.int .i64 (↑l.length))),(13,.v (.int .i64 (↑r.length))),(14,.v (.bool false))] TTM_ok hnt fun K hK=>?_;refine And.intro (dintE (by rw[eTms_len])) ?_;refine And.intro (dintE (by rw[eTms_len])) ?_;refine And.intro (bneF (by omega)) ?_;refine hK _ _ ?_;clear hK K
   refine dw_cond (t:=false) rfl ?_;rw[if_neg (by simp)];refine dw_skip ?_;refine dw_seq ?_;refine dw_seq ?_;refine dwk [(16,.v (.int .i64 (↑l.length)))] TTM_ok hnt fun K hK=>?_;refine And.intro (dintE (by rw[eTms_len])) ?_;refine hK _ _ ?_;clear hK K;refine dw_block ?_
   refine dw_loop (ι:={ j:Nat // l.take j=r.take j }) (fun j=>[(.t 1,.sl 4 (eTms r) none),(.t 2,.fn 20 []),(.t 15,.sl 4 (eTms l) none),(.t 16,.v (.int .i64 ↑l.length)),(.t 17,.v (.int .i64 ↑j.1))]) 0 (fun j=>l.length-j.1) (⟨0,rfl⟩) (VS.toA) fun j=>?_
   obtain⟨j,hj⟩:=j
   dsimp only
   by_cases hlt:j<l.length
   ·have hlt2:j<r.length:=by omega
    have hq:=h l[j] (List.getElem_mem hlt) r[j]
    rw[eTm_eq,eTm_eq] at hq
    by_cases he:l[j]=r[j]
    ·rw[decide_eq_true he] at hq
     refine dw_seq ?_;refine dwk [(18,.v (.bool true))] TTM_ok hnt fun K hK=>?_;refine And.intro auT ?_;refine hK _ _ ?_;clear hK K;refine dw_seq ?_;refine dw_cond (t:=true) rfl ?_;rw[if_pos rfl];refine dw_skip ?_;refine dw_seq ?_;refine dw_block ?_;refine dw_seq ?_;refine dwk [(20,.q [.sl 2 (eTys l[j].binds) none,.v (.int .i64 l[j].kind),.v (.int .i64 l[j].index),.sl 4 (eTms l[j].args) none])] TTM_ok hnt fun K hK=>?_
     refine And.intro (elo (eTms_len l)) ?_;refine And.intro (elv (eTms_getD l j) (eTm_eq _)) ?_;refine hK _ _ ?_;clear hK K;refine dw_seq ?_;refine dwk [(24,.q [.sl 2 (eTys r[j].binds) none,.v (.int .i64 r[j].kind),.v (.int .i64 r[j].index),.sl 4 (eTms r[j].args) none])] TTM_ok hnt fun K hK=>?_;refine And.intro (elo (eTms_len r)) ?_;refine And.intro (elv (eTms_getD r j) (eTm_eq _)) ?_;refine hK _ _ ?_;clear hK K
     refine dw_seq ?_;refine dwk [] TTM_ok hnt fun K hK=>?_;refine dcl (hq) ?_;refine hK _ _ ?_;clear hK K;refine dw_cond (t:=false) rfl ?_;rw[if_neg (by simp)];refine dw_skip ?_;refine dwk [(31,.v (.int .i64 (↑(j+1))))] TTM_ok hnt fun K hK=>?_;refine And.intro auI ?_;refine hK _ _ ?_;clear hK K
     refine⟨⟨j+1,take_succ_eq hj hlt hlt2 he⟩,by first | omega | (dsimp only;omega),VS.toA⟩
    ·rw[decide_eq_false he] at hq
     rw[decide_eq_false (ne_at hlt hlt2 he)]
     refine dw_seq ?_;refine dwk [(18,.v (.bool true))] TTM_ok hnt fun K hK=>?_;refine And.intro auT ?_;refine hK _ _ ?_;clear hK K;refine dw_seq ?_;refine dw_cond (t:=true) rfl ?_;rw[if_pos rfl];refine dw_skip ?_;refine dw_seq ?_;refine dw_block ?_;refine dw_seq ?_;refine dwk [(20,.q [.sl 2 (eTys l[j].binds) none,.v (.int .i64 l[j].kind),.v (.int .i64 l[j].index),.sl 4 (eTms l[j].args) none])] TTM_ok hnt fun K hK=>?_
     refine And.intro (elo (eTms_len l)) ?_;refine And.intro (elv (eTms_getD l j) (eTm_eq _)) ?_;refine hK _ _ ?_;clear hK K;refine dw_seq ?_;refine dwk [(24,.q [.sl 2 (eTys r[j].binds) none,.v (.int .i64 r[j].kind),.v (.int .i64 r[j].index),.sl 4 (eTms r[j].args) none])] TTM_ok hnt fun K hK=>?_;refine And.intro (elo (eTms_len r)) ?_;refine And.intro (elv (eTms_getD r j) (eTm_eq _)) ?_;refine hK _ _ ?_;clear hK K
     refine dw_seq ?_;refine dwk [] TTM_ok hnt fun K hK=>?_;refine dcl (hq) ?_;refine hK _ _ ?_;clear hK K;refine dw_cond (t:=true) rfl ?_;rw[if_pos rfl];refine dw_seq ?_;refine dwk [] TTM_ok hnt fun _ z9=>z9 _ _ ?_;refine dw_ret ?_
     exact reta rfl
   ·rw[decide_eq_true (eq_of_take hj (by omega) (by omega))]
    refine dw_seq ?_;refine dwk [(18,.v (.bool false))] TTM_ok hnt fun K hK=>?_;refine And.intro auF ?_;refine hK _ _ ?_;clear hK K;refine dw_seq ?_;refine dw_cond (t:=false) rfl ?_;rw[if_neg (by simp)];refine dw_exit ?_;refine dw_seq ?_;refine dwk [] TTM_ok hnt fun _ z9=>z9 _ _ ?_;refine dw_ret ?_
    exact reta rfl
 ·rw[decide_eq_false (fun e=>hlr (by rw[e]))]
  refine calldw 0 32 [ResultVar.tmp 6] TTM_ok Tryz.func70 rfl Tryz.ntmps70 rfl fun cx hnt hn0=>?_
  ·skip
   refine dw_seq ?_;refine dwk [] TTM_ok hnt fun _ z9=>z9 _ _ ?_;refine dw_seq ?_;refine dw_seq ?_;refine dwk [(11,.v (.int .i64 (↑l.length))),(13,.v (.int .i64 (↑r.length))),(14,.v (.bool true))] TTM_ok hnt fun K hK=>?_;refine And.intro (dintE (by rw[eTms_len])) ?_;refine And.intro (dintE (by rw[eTms_len])) ?_;refine And.intro (bneT (by omega)) ?_;refine hK _ _ ?_;clear hK K
   refine dw_cond (t:=true) rfl ?_;rw[if_pos rfl];refine dw_seq ?_;refine dwk [] TTM_ok hnt fun _ z9=>z9 _ _ ?_;refine dw_ret ?_
   exact reta rfl
theorem tm_ext {t u:Tm}:t=u↔(t.kind=u.kind∧t.index=u.index)∧t.binds=u.binds∧t.args=u.args:=by
 obtain⟨b,k,i,a⟩:=t
 obtain⟨b',k',i',a'⟩:=u
 simp only[bindsT,kindT,indexT,argsTm,Tm.mk.injEq]
 exact⟨fun⟨h1,h2,h3,h4⟩=>⟨⟨h2,h3⟩,h1,h4⟩,fun⟨⟨h1,h2⟩,h3,h4⟩=>⟨h3,h1,h2,h4⟩⟩
theorem equal2_d:∀ t u:Tm,PureC Tryz.prog 20 [.ag (eTm t),.ag (eTm u)] (.v (.bool (decide (t=u)))):=by
 intro t
 induction t using Tm.ind with
 | h b k i a ih=>
 intro u
 have hq:=eqTmsA a u.args ih
 have hb:=eqTys_d b u.binds 69 rfl
 rw[eTm_eq,eTm_eq]
 simp only[bindsT,kindT,indexT,argsTm]
 by_cases h1:k=u.kind∧i=u.index
 ·by_cases h2:b=u.binds
  ·rw[show decide (Tm.mk b k i a=u)=decide (a=u.args) by rw[Bool.eq_iff_iff,decide_eq_true_iff,decide_eq_true_iff,tm_ext];simp[bindsT,kindT,indexT,argsTm,h1,h2]]
   rw[decide_eq_true h2] at hb
   refine calldw 0 24 [ResultVar.tmp 4] TTM_ok Tryz.func20 rfl Tryz.ntmps20 rfl fun cx hnt hn0=>?_
   ·skip
    refine dw_seq ?_;refine dwk [] TTM_ok hnt fun _ z9=>z9 _ _ ?_;refine dw_seq ?_;refine dwk [(9,.v (.bool true))] TTM_ok hnt fun K hK=>?_;refine And.intro (VLe.of_eq (by congr 2;simp[h1])) ?_;refine dcl (hb) ?_;refine dcl (hq) ?_;refine hK _ _ ?_;clear hK K;refine dw_ret ?_
    exact reta rfl
  ·rw[show decide (Tm.mk b k i a=u)=false from decide_eq_false fun e=>h2 (by rw[←e];rfl)]
   rw[decide_eq_false h2] at hb
   refine calldw 0 24 [ResultVar.tmp 4] TTM_ok Tryz.func20 rfl Tryz.ntmps20 rfl fun cx hnt hn0=>?_
   ·skip
    refine dw_seq ?_;refine dwk [] TTM_ok hnt fun _ z9=>z9 _ _ ?_;refine dw_seq ?_;refine dwk [(9,.v (.bool true))] TTM_ok hnt fun K hK=>?_;refine And.intro (VLe.of_eq (by congr 2;simp[h1])) ?_;refine dcl (hb) ?_;refine hK _ _ ?_;clear hK K;refine dw_ret ?_
    exact reta rfl
 ·rw[show decide (Tm.mk b k i a=u)=false from decide_eq_false fun e=>h1 (by rw[←e];exact⟨rfl,rfl⟩)]
  refine calldw 0 24 [ResultVar.tmp 4] TTM_ok Tryz.func20 rfl Tryz.ntmps20 rfl fun cx hnt hn0=>?_
  ·skip
   refine dw_seq ?_;refine dwk [] TTM_ok hnt fun _ z9=>z9 _ _ ?_;refine dw_seq ?_;refine dwk [(9,.v (.bool false))] TTM_ok hnt fun K hK=>?_;refine And.intro (VLe.of_eq (by congr 2;by_cases h3:k=u.kind <;> by_cases h4:i=u.index <;> simp_all)) ?_;refine hK _ _ ?_;clear hK K;refine dw_ret ?_
   exact reta rfl
/-! long forms -/
theorem eTms_snoc (l:List Tm)(j:Nat)(h:j<l.length):eTms (l.take j)++[[.sl 2 (eTys l[j].binds) none,.v (.int .i64 l[j].kind),.v (.int .i64 l[j].index),.sl 4 (eTms l[j].args) none]]=eTms (l.take (j+1)):=by
 rw[←eTm_eq,List.take_add_one,List.getElem?_eq_getElem h,Option.toList_some,eTms_map,eTms_map,List.map_append];rfl
theorem etas_at (l:List Ty)(j:Nat)(h:j<l.length):eTms ((Ty.etas l).take j)++[[.sl 2 (eTys (Ty.eta l[j] 0 ((l.length:Int)-1-(j:Int))).binds) none,.v (.int .i64 (Ty.eta l[j] 0 ((l.length:Int)-1-(j:Int))).kind),.v (.int .i64 (Ty.eta l[j] 0 ((l.length:Int)-1-(j:Int))).index),.sl 4 (eTms (Ty.eta l[j] 0 ((l.length:Int)-1-(j:Int))).args) none]]=eTms ((Ty.etas l).take (j+1)):=by
 have h2:j<(Ty.etas l).length:=by rw[Ty.etas_len];exact h
 rw[←eTms_snoc _ _ h2,Ty.etas_get l j h]
set_option maxHeartbeats 1000000 in
theorem teta_d:∀ (t:Ty) (k i:Int),t.size≤1000→PureC Tryz.prog 187 [.ag [.v (.int .i64 k),.v (.int .i64 i)],.ag (eTy t)] (.ag (eTm (Ty.Eta t k i))):=by
 intro t
 induction t using Ty.ind with
 | h a b ih=>
 intro k i hz
 rw[ty_size] at hz
 have hal:=Ty.le_sizes a
 have harr:=arrow_d (.mk a b) [] (by rw[ty_size];simp[Ty.sizes];omega)
 rw[List.nil_append] at harr
 have harr:PureC Tryz.prog 74 [.ag (eTy (.mk a b)),.v (.slice none 0 0)] (.ag (eTy (.mk a b))):=CallC.vle harr (.cons (VLe.refl _) (.cons (VLe.nil _) .nil)) (VLe.refl _)
 unfold Ty.Eta
 rw[eTy_eq] at harr
 by_cases hbad:k=0∧(i<0∨1000<i)
 ·rw[if_pos hbad,eTy_eq,eTm_eq]
  rcases hbad with⟨hk,h0 | h1⟩
  ·skip
   refine calldw 0 63 [ResultVar.cell 4 41] TTM_ok Tryz.func187 rfl Tryz.ntmps187 rfl fun cx hnt hn0=>?_
   ·skip
    refine dw_seq ?_;refine dwk [] TTM_ok hnt fun _ z9=>z9 _ _ ?_;refine dw_seq ?_;refine dw_seq ?_;refine dwk [(11,.v (.bool true)),(15,.v (.bool true))] TTM_ok hnt fun K hK=>?_;refine And.intro (beqT hk) ?_;refine And.intro auT ?_;refine hK _ _ ?_;clear hK K;refine dw_cond (t:=true) rfl ?_;rw[if_pos rfl];refine dw_seq ?_;refine dwk [] TTM_ok hnt fun K hK=>?_
    refine hK _ _ ?_;clear hK K;refine dw_ret ?_
    exact reta rfl
  ·skip
   refine calldw 0 63 [ResultVar.cell 4 41] TTM_ok Tryz.func187 rfl Tryz.ntmps187 rfl fun cx hnt hn0=>?_
   ·skip
    refine dw_seq ?_;refine dwk [] TTM_ok hnt fun _ z9=>z9 _ _ ?_;refine dw_seq ?_;refine dw_seq ?_;refine dwk [(11,.v (.bool true)),(15,.v (.bool false)),(19,.v (.bool true))] TTM_ok hnt fun K hK=>?_;refine And.intro (beqT hk) ?_;refine And.intro auF ?_;refine And.intro auT ?_;refine hK _ _ ?_;clear hK K;refine dw_cond (t:=true) rfl ?_;rw[if_pos rfl];refine dw_seq ?_
    refine dwk [] TTM_ok hnt fun _ z9=>z9 _ _ ?_;refine dw_ret ?_
    exact reta rfl
 ·rw[if_neg hbad]
  obtain⟨i',hi'⟩:∃ i',(if k=0 then i+(a.length:Nat) else i)=i':=⟨_,rfl⟩
  rw[Ty.eta_eq,hi',eTy_eq,eTm_eq]
  simp only[bindsT,kindT,indexT,argsTm,args_mk',base_mk'] at harr ⊢
  refine calldw 0 63 [ResultVar.cell 4 41] TTM_ok Tryz.func187 rfl Tryz.ntmps187 rfl fun cx hnt hn0=>?_
  ·skip
   refine dw_seq ?_;refine dwk [] TTM_ok hnt fun _ z9=>z9 _ _ ?_
   refine dw_cut (τ:=[(.t 2,.p 0 0),(.t 3,.p 1 0),(.t 4,.p 2 0),(.c 0 0,.v (.int .i64 k)),(.c 0 1,.v (.int .i64 i)),(.c 1 0,.sl 2 (eTys a) none),(.c 1 1,.v (.int .i64 b)),(.c 2 0,.v (.slice none 0 0)),(.c 2 1,.v (.int .i64 0)),(.c 2 2,.v (.int .i64 0)),(.c 2 3,.v (.slice none 0 0))]) (N1:=3) ?_ ?_
   ·by_cases hk:k=0
    ·skip
     refine dw_seq ?_;refine dwk [(11,.v (.bool true)),(15,.v (.bool false)),(19,.v (.bool false))] TTM_ok hnt fun K hK=>?_;refine And.intro (beqT hk) ?_;refine And.intro auF ?_;refine And.intro auF ?_;refine hK _ _ ?_;clear hK K;refine dw_cond (t:=false) rfl ?_;rw[if_neg (by simp)];refine dw_skip ?_
     exact cut_ok VS.toA
    ·skip
     refine dw_seq ?_;refine dwk [(11,.v (.bool false))] TTM_ok hnt fun K hK=>?_;refine And.intro (beqF hk) ?_;refine hK _ _ ?_;clear hK K;refine dw_cond (t:=false) rfl ?_;rw[if_neg (by simp)];refine dw_skip ?_
     exact cut_ok VS.toA
   ·skip
    refine dw_seq ?_;refine dwk [(25,.v (.int .i64 (↑a.length)))] TTM_ok hnt fun K hK=>?_;refine And.intro (dintE (by rw[eTys_len])) ?_;refine hK _ _ ?_;clear hK K;refine dw_seq ?_;refine dwkD [] TTM_ok hnt fun K hK=>?_;refine dcl (harr) ?_;refine hK _ _ (by kernel_rfl) ?_;clear hK K
    refine dw_cut (τ:=[(.t 3,.p 1 0),(.t 4,.p 2 0),(.t 5,.v (.int .i64 ↑a.length)),(.t 6,.p 12 0),(.c 1 0,.sl 2 (eTys a) none),(.c 2 0,.v (.slice none 0 0)),(.c 2 1,.v (.int .i64 0)),(.c 2 2,.v (.int .i64 0)),(.c 2 3,.v (.slice none 0 0)),(.c 12 0,.sl 2 (eTys a) none),(.c 12 1,.v (.int .i64 k)),(.c 12 2,.v (.int .i64 i')),(.c 12 3,.v (.slice none 0 0))]) (N1:=13) ?_ ?_
    ·by_cases hk:k=0
     ·rw[if_pos hk] at hi'
      have h0:0≤i∧i≤1000:=by
       constructor
       ·by_cases h:i<0
        ·exact absurd ⟨hk,.inl h⟩ hbad
        ·omega
       ·by_cases h:1000<i
        ·exact absurd ⟨hk,.inr h⟩ hbad
        ·omega
      refine dw_seq ?_;refine dwk [(33,.v (.bool true))] TTM_ok hnt fun K hK=>?_;refine And.intro (beqT hk) ?_;refine hK _ _ ?_;clear hK K;refine dw_cond (t:=true) rfl ?_;rw[if_pos rfl];refine dwk [(38,.v (.int .i64 (i')))] TTM_ok hnt fun K hK=>?_;refine And.intro (dintE (by rw[IntWalk.i64_in _ (by omega)];exact hi')) ?_;refine hK _ _ ?_;clear hK K
      exact cut_ok VS.toA
     ·rw[if_neg hk] at hi'
      subst hi'
      refine dw_seq ?_;refine dwk [(33,.v (.bool false))] TTM_ok hnt fun K hK=>?_;refine And.intro (beqF hk) ?_;refine hK _ _ ?_;clear hK K;refine dw_cond (t:=false) rfl ?_;rw[if_neg (by simp)];refine dw_skip ?_
      exact cut_ok VS.toA
    ·skip
     refine dw_seq ?_;refine dw_seq ?_;refine dwk [(43,.v (.int .i64 (↑a.length)))] TTM_ok hnt fun K hK=>?_;refine And.intro (dintE (by rw[eTys_len])) ?_;refine hK _ _ ?_;clear hK K
     refine DW.vs (VS.row (k:=12) (off:=3) 41 4 rfl) ?_
     refine dw_block ?_
     refine dw_loop (ι:={ j:Nat // j≤a.length }) (fun j=>[(.t 4,.p 2 0),(.t 5,.v (.int .i64 ↑a.length)),(.t 6,.p 12 0),(.t 42,.sl 2 (eTys a) none),(.t 43,.v (.int .i64 ↑a.length)),(.t 44,.v (.int .i64 ↑j.1)),(.c 2 0,.v (.slice none 0 0)),(.c 2 1,.v (.int .i64 0)),(.c 2 2,.v (.int .i64 0)),(.c 2 3,.v (.slice none 0 0)),(.c 12 0,.sl 2 (eTys a) none),(.c 12 1,.v (.int .i64 k)),(.c 12 2,.v (.int .i64 i')),(.c 12 3,.sl 4 (eTms ((Ty.etas a).take j.1)) (some 17)),(.r 17,.rw 41 4 j.1)]) 18 (fun j=>a.length-j.1) (⟨0,Nat.zero_le _⟩) (VS.toA) fun j=>?_
     obtain⟨j,hj⟩:=j
     dsimp only
     by_cases hlt:j<a.length
     ·have hmem:=ty_mem (List.getElem_mem hlt)
      have hih:=ih a[j] (List.getElem_mem hlt) 0 ((a.length:Int)-1-(j:Int)) (by omega)
      have e:Ty.Eta a[j] 0 ((a.length:Int)-1-(j:Int))=Ty.eta a[j] 0 ((a.length:Int)-1-(j:Int)):=by unfold Ty.Eta;rw[if_neg (by omega)]
      have hsn:=etas_at a j hlt
      have hlq:(eTms ((Ty.etas a).take j)).length=j:=by rw[eTms_len,List.length_take,Ty.etas_len];omega
      rw[e,eTm_eq,eTy_eq] at hih
      refine dw_seq ?_;refine dwk [(45,.v (.bool true))] TTM_ok hnt fun K hK=>?_;refine And.intro auT ?_;refine hK _ _ ?_;clear hK K;refine dw_seq ?_;refine dw_cond (t:=true) rfl ?_;rw[if_pos rfl];refine dw_skip ?_;refine dw_seq ?_;refine dw_block ?_;refine dw_seq ?_;refine dwk [(47,.q [.sl 2 (eTys a[j].args) none,.v (.int .i64 a[j].base)])] TTM_ok hnt fun K hK=>?_;refine And.intro (elo (eTys_len a)) ?_
      refine And.intro (elv (eTys_getD a j) (eTy_eq _)) ?_;refine hK _ _ ?_;clear hK K;refine dwkD [(52,.v (.int .i64 (↑a.length-1))),(54,.v (.int .i64 (↑a.length-1 - ↑j))),(59,.sl 4 (eTms ((Ty.etas a).take (j+1))) (some 17))] TTM_ok hnt fun K hK=>?_;refine And.intro auI ?_;refine And.intro auI ?_;refine dcl (hih) ?_;refine And.intro (⟨by rw[hlq],by rw[hlq];simp;omega⟩) ?_;refine And.intro (VLe.of_eq (by rw[hsn])) ?_
      refine hK _ _ (by kernel_rfl) ?_;clear hK K;refine dwk [(61,.v (.int .i64 (↑(j+1))))] TTM_ok hnt fun K hK=>?_;refine And.intro auI ?_;refine hK _ _ ?_;clear hK K
      refine⟨⟨j+1,by omega⟩,by first | omega | (dsimp only;omega),(by try simp only[List.length_append,List.length_take,List.length_cons,List.length_nil,Nat.zero_add,hlq];exact VS.toA)⟩
     ·rw[List.take_of_length_le (by rw[Ty.etas_len];omega)]
      refine dw_seq ?_;refine dwk [(45,.v (.bool false))] TTM_ok hnt fun K hK=>?_;refine And.intro auF ?_;refine hK _ _ ?_;clear hK K;refine dw_seq ?_;refine dw_cond (t:=false) rfl ?_;rw[if_neg (by simp)];refine dw_exit ?_;refine dw_seq ?_;refine dwk [] TTM_ok hnt fun _ z9=>z9 _ _ ?_;refine dw_ret ?_
      exact reta rfl
end Go.Proofs.YtflbnonbfmmchaaGreat
namespace Go.Proofs.YtflbnonbfmmchaaGreat
open Go.RowKit Go.Shelf
attribute [local go_sem] Oper.semAt_some
def looseStep (n:Int)(p:Nat×Nat×Tm):Int:=if p.2.2.kind=0∧(p.1:Int)≤p.2.2.index then max n (min (IntKind.i64.wrap (p.2.2.index-p.1)) 1000+1) else n
def looseP (l:List (Nat×Nat×Tm)):Int:=l.foldl looseStep 0
theorem looseP_snoc (l:List (Nat×Nat×Tm))(p:Nat×Nat×Tm):looseP (l++[p])=looseStep (looseP l) p:=by simp[looseP]
theorem looseStep_range {n:Int}{p:Nat×Nat×Tm}(h:0≤n∧n≤1001):0≤looseStep n p∧looseStep n p≤1001:=by
 unfold looseStep;split <;> omega
theorem looseP_range (l:List (Nat×Nat×Tm)):0≤looseP l∧looseP l≤1001:=by
 have:∀ (l:List (Nat×Nat×Tm)) n,(0≤n∧n≤1001)→0≤l.foldl looseStep n∧l.foldl looseStep n≤1001:=by
  intro l
  induction l with
  | nil=>intro n h;exact h
  | cons p l ih=>intro n h;exact ih _ (looseStep_range h)
 exact this l 0 (by omega)
def looseL (n x:Int):Int:=if (if x>1000 then 1000 else x)+1>n then (if x>1000 then 1000 else x)+1 else n
theorem loose_pres_of {l:List Tm}(h:∀ t∈l,∀ s d n,t.Fit→(t.pre s d).foldl looseStep n=(t.looses s).foldl looseL n):∀ s d n,(∀ t∈l,t.Fit)→(Tm.pres l s d).foldl looseStep n=(Tm.loosess l s).foldl looseL n:=by
 induction l with
 | nil=>intro s d n _;simp[Tm.pres,Tm.loosess]
 | cons t l ih=>
  intro s d n hf
  rw[Tm.pres,Tm.loosess,List.foldl_append,List.foldl_append,h t (by simp) s d n (hf t (by simp)),ih (fun u hu=>h u (by simp[hu])) s d _ (fun u hu=>hf u (by simp[hu]))]
theorem loose_pre (t:Tm):∀ (s d:Nat) (n:Int),t.Fit→(t.pre s d).foldl looseStep n=(t.looses s).foldl looseL n:=by
 induction t using Tm.ind with
 | h b k i a ih=>
  intro s d n hf
  obtain⟨hi0,hi1,hfa⟩:=Tm.fit_iff.1 hf
  rw[Tm.pre_eq,Tm.looses_eq _ _ _ _ _ ((s+b.length:Nat):Int) (by simp),List.foldl_cons,List.foldl_append]
  rw[loose_pres_of ih _ _ _ hfa]
  congr 1
  show (if k=0∧((s+b.length:Nat):Int)≤i then _ else _)=_
  by_cases h:k=0∧((s+b.length:Nat):Int)≤i
  ·have hw:IntKind.i64.wrap (i-((s+b.length:Nat):Int))=i-((s+b.length:Nat):Int):=IntWalk.i64_in _ (by omega)
   rw[if_pos h,if_pos h]
   show max n (min (IntKind.i64.wrap (i-((s+b.length:Nat):Int))) 1000+1)=_
   rw[hw]
   simp only[List.foldl_cons,List.foldl_nil,looseL]
   split <;> split <;> omega
  ·rw[if_neg h,if_neg h];rfl
theorem looseP_pre (t:Tm)(hf:t.Fit):looseP (t.pre 0 1)=(t.looses 0).foldl looseL 0:=loose_pre t 0 1 0 hf
set_option maxRecDepth 100000 in
set_option maxHeartbeats 2000000 in
theorem loose6_k {F:Nat→Prop}{w:World}{b k i a:Value}{t:Tm}(ht:IsTm F w b k i a t)(hsz:t.full≤500000)(hfit:t.Fit):Calls Tryz.prog 120 #[.agg #[b,k,i,a]] w (RetI ((t.looses 0).foldl looseL 0) w):=by
 refine(callsIn_wide (n:=9)).1 ?_
 have Ht:=Lib.hid (ht.weaken (F':=fun _=>True) fun _ _ _=>trivial)
 obtain⟨pa,pc,qa,qc,rfl,rfl,rfl,rfl⟩:=ht.shape
 clear ht
 obtain⟨x1,hx1⟩:∃ x,t.binds.length=x:=⟨_,rfl⟩
 obtain⟨x2,hx2⟩:∃ x,t.args.length=x:=⟨_,rfl⟩
 obtain⟨x3,hx3⟩:∃ x,t.kind=x:=⟨_,rfl⟩
 obtain⟨x4,hx4⟩:∃ x,t.index=x:=⟨_,rfl⟩
 rw[hx1,hx2,hx3,hx4] at Ht ⊢
 clear hx1 hx2 hx3 hx4
 refine callsIn_of_wp_marks Tryz.func120 rfl trivial ?_ rfl
 simp only[Tryz.ntmps120,List.size_toArray,List.length_cons,List.length_nil,Nat.reduceAdd,Nat.reduceSub,Array.replicate_succ,Array.replicate_zero,List.push_toArray,List.append_toArray,List.nil_append,List.cons_append]
 gi_wp2_with fail
 refine⟨trivial,(each6_k _ _ _ _ _ _ ⟨_,_,_,rfl⟩ ⟨_,rfl⟩ ⟨_,rfl⟩ ⟨_,_,_,rfl⟩).mono ?_⟩
 rintro e w' ⟨rfl,rfl⟩
 gi_wp2_with fail
 have hsz':=Lib.hid hsz
 have Hfit:=Lib.hid hfit;clear hfit
 have hfl:=Tm.size_le_full t
 obtain⟨w5,hw5⟩:∃ w5,((w.alloc (.cells #[.slice pa x1 pc,.int .i64 x3,.int .i64 x4,.slice qa x2 qc] 41)).alloc (.cells #[.int .i64 0] 3)).alloc (.cells #[.slice pa x1 pc,.int .i64 x3,.int .i64 x4,.slice qa x2 qc] 41)=w5:=⟨_,rfl⟩
 have hB0:Below w.heap.size w w5:=by rw[←hw5];exact(((Below.refl _ w).alloc (Nat.le_refl _) _).alloc (by simp) _).alloc (by simp;omega) _
 have hz:w5.heap.size=w.heap.size+3:=by rw[←hw5];simp
 have y2:Blk w5 (w.heap.size+1) #[.int .i64 0] 3:=by rw[←hw5];exact(Blk.new _ _ _ (by simp)).alloc _
 have y3:Blk w5 (w.heap.size+1+1) #[.slice pa x1 pc,.int .i64 x3,.int .i64 x4,.slice qa x2 qc] 41:=by rw[←hw5];exact Blk.new _ _ _ (by simp)
 rw[hw5]
 clear hw5
 refine range_softA (Ok:=SpotOk) (fun o h=>.inl h) rfl (by omega) (gf:=126) (lb:=#[.pointer (some ⟨w.heap.size+1+1,0,none⟩)]) rfl trivial (enters_of Tryz.func126 (by kernel_rfl) rfl)
  (each6_soft (But w.heap.size (w.heap.size+2)) (fun k _ _ hk=>.inl hk) Ht.out (Nat.le_trans hsz (by decide)) (9-1) w5 (fun k _ hk _=>.inr (by omega)) ((Keep.refl _ _).below hB0) (w.heap.size+1+1) y3)
  (fun h h'=>h.trans h') (fun W l o o' _ hl ho _=>KeepC.putObj _ W l o o' hl ho) (Below.refl _ _) (fun _=>rfl)
  (fun pre W=>Blk W (w.heap.size+1) #[.int .i64 (looseP (pre.map Hit6.key))] 3∧Below w.heap.size w W)
  (fun _ _ _=>False)
  (Mild.and (mild_blk (by decide) (fun(pre:List (Hit6 (fun _=>True) w))=>#[.int .i64 (looseP (pre.map Hit6.key))])) (mild_below (Nat.le_refl _) (by omega)))
  (fun _ _ _ _ _ hs _ _=>hs)
  ⟨y2,hB0⟩
  (fun x a' W=>∃ Bs Bx,(w.heap.size+1<Bs∧w.heap.size+1<Bx)∧Blk W Bs #[.int .i64 x.s,.int .i64 x.d] 168∧Blk W Bx #[.slice x.pb x.t.binds.length x.cb,.int .i64 x.t.kind,.int .i64 x.t.index,.slice x.pa x.t.args.length x.ca] 41∧a'={ tmps:=#[.agg #[.slice pa x1 pc,.int .i64 x3,.int .i64 x4,.slice qa x2 qc],.pointer (some ⟨w.heap.size,0,none⟩),.int .i64 0,.pointer (some ⟨w.heap.size+1,0,none⟩),.pointer (some ⟨Bs,0,none⟩),.pointer (some ⟨Bx,0,none⟩),.agg #[.slice pa x1 pc,.int .i64 x3,.int .i64 x4,.slice qa x2 qc],.func (.func 126) #[] #[.pointer (some ⟨w.heap.size+1+1,0,none⟩)],.agg #[.int .i64 x.s,.int .i64 x.d],.agg #[.slice x.pb x.t.binds.length x.cb,.int .i64 x.t.kind,.int .i64 x.t.index,.slice x.pa x.t.args.length x.ca],undef,undef,undef,undef,undef,undef,undef,undef,undef,undef,undef,undef,undef,undef,undef,undef,undef,undef,undef,undef,undef,undef,undef],defers:=[] })
  (fun x a' W l o o' hl ho hoc=>by
   rintro⟨Bs,Bx,h1,h2,h3,h4⟩
   have key:∀ {B:Nat} {cs:Array Value} {T:TypeId},Blk W B cs T→Blk (W.putObj l o') B cs T:=fun {B cs T} h=>by
    have hne:l≠B:=fun e=>by
     subst e
     have hb:W.heap[l]?=_:=h
     rw[hb] at ho;cases ho;simp[Obj.isCells] at hoc
    exact(World.putObj_heap_other (Ne.symm hne)).trans h
   exact⟨Bs,Bx,h1,key h2,key h3,h4⟩) ?assign ?body ?done ?stop
 case assign=>
  rintro l pre x W K ⟨z2,hB⟩ hK
  have HK:=Lib.hid hK;clear hK
  simp only[Hit6.enc] at *
  gi_wp2
  have hs:=hB.size
  have hlt:=z2.lt
  exact HK.out _ _ (((KeepsOthers.alloc _ _).trans (KeepsOthers.alloc _ _)).from _) (((KeepC.refl _ W).alloc _).alloc _) ⟨(z2.alloc _).alloc _,(hB.alloc hs _).alloc (by simp;omega) _⟩ ⟨W.heap.size,W.heap.size+1,⟨by omega,by omega⟩,(Blk.new _ _ _ rfl).alloc _,Blk.new _ _ _ (by simp),rfl⟩
 case body=>
  rintro l pre x a' W ⟨z2,hB⟩ hlt ⟨Bs,Bx,hBB,bS,bX,rfl⟩
  have hr:=looseP_range (pre.map Hit6.key)
  have Hst:=Lib.hid (looseP_snoc (pre.map Hit6.key) x.key)
  obtain⟨n,hn⟩:∃ n,looseP (pre.map Hit6.key)=n:=⟨_,rfl⟩
  rw[hn] at z2 hr Hst
  clear hn
  have c2:W.cell? ⟨w.heap.size+1,0,none⟩=some (.int .i64 n):=z2.cell rfl
  have f2:=z2.free 0
  have cs0:W.cell? ⟨Bs,0,none⟩=some (.int .i64 x.s):=bS.cell rfl
  have cx1:W.cell? ⟨Bx,1,none⟩=some (.int .i64 x.t.kind):=bX.cell rfl
  have cx2:W.cell? ⟨Bx,2,none⟩=some (.int .i64 x.t.index):=bX.cell rfl
  obtain⟨kk,hkk⟩:∃ k,x.t.kind=k:=⟨_,rfl⟩
  obtain⟨ii,hii⟩:∃ k,x.t.index=k:=⟨_,rfl⟩
  have Hk:=Lib.hid hkk;have Hi:=Lib.hid hii
  rw[hkk] at cx1 ⊢
  rw[hii] at cx2 ⊢
  clear hkk hii
  have hlen:(pre++[x]).map Hit6.key=pre.map Hit6.key++[x.key]:=by simp
  by_cases hk:kk=0∧(x.s:Int)≤ii
  ·obtain⟨rfl,hi⟩:=hk
   obtain⟨q,hq⟩:∃ q,IntKind.i64.wrap (ii-(x.s:Int))=q:=⟨_,rfl⟩
   have Hq:=Lib.hid hq
   have hqr:-9223372036854775808≤q∧q≤9223372036854775807:=by
    have h:(Lit.int .i64 (wrap64 (ii-(x.s:Int)))).wf=true:=wrap64_wf _
    have h2:IntKind.i64.min≤wrap64 (ii-(x.s:Int))∧wrap64 (ii-(x.s:Int))≤9223372036854775807:=by simpa[Lit.wf] using h
    have h3:IntKind.i64.min=-9223372036854775808:=by rfl
    have h4:wrap64 (ii-(x.s:Int))=q:=by rw[←IntWalk.i64_left];exact hq
    omega
   have hq2:IntKind.i64.wrap (min q 1000+1)=min q 1000+1:=IntWalk.i64_in _ (by omega)
   have Hn:Hid (looseP (pre.map Hit6.key++[x.key])=max n (min q 1000+1)):=by
    show _=_
    rw[Hst.out,looseStep,if_pos ⟨Hk.out,by rw[Hit6.key];simp only[];rw[Hi.out];exact hi⟩]
    show max n (min (IntKind.i64.wrap (x.t.index-x.s)) 1000+1)=_
    rw[Hi.out,Hq.out]
   gi_wp2
   all_goals
    refine⟨(KeepsOthers.setCell _ _ _).from _,(KeepC.refl _ W).setCell _ _ (by simp[But]),?_,hB.setCell (p:=⟨w.heap.size+1,0,none⟩) (by simp) _⟩
    rw[hlen,Hn.out]
    first
     | exact z2.set 0 _
     | (rw[show max n (min q 1000+1)=1001 by omega];exact z2.set 0 _)
     | (rw[show max n (min q 1000+1)=n by omega];exact z2.set 0 _)
     | (rw[show max n (min q 1000+1)=q+1 by omega];exact z2.set 0 _)
  ·have Hn:Hid (looseP (pre.map Hit6.key++[x.key])=n):=by
    show _=_
    rw[Hst.out,looseStep,if_neg]
    rintro⟨h1,h2⟩
    exact hk ⟨Hk.out.symm.trans h1,by have h3:(x.s:Int)≤x.t.index:=h2;rw[Hi.out] at h3;exact h3⟩
   have fin:∀ (W':World) (n0:Nat),W'=W→KeepsFrom n0 W W'∧KeepC (But w.heap.size (w.heap.size+2)) W W'∧(Blk W' (w.heap.size+1) #[.int .i64 (looseP ((pre++[x]).map Hit6.key))] 3∧Below w.heap.size w W'):=by
    rintro W' n0 rfl
    refine⟨(KeepsOthers.refl _).from _,KeepC.refl _ _,?_,hB⟩
    rw[hlen,Hn.out];exact z2
   have Fin:=Lib.hid fin;clear fin
   by_cases hk0:kk=0
   ·subst hk0
    have hi':¬ (x.s:Int)≤ii:=fun h=>hk ⟨rfl,h⟩
    have hi2:ii<(x.s:Int):=by omega
    gi_wp2
    exact Fin.out _ _ rfl
   ·have g0:(kk==0)=false:=by simpa using hk0
    gi_wp2
    exact Fin.out _ _ rfl
 case done=>
  rintro D ys W hD hys ⟨z2,hB⟩ hK
  have Hys:=Lib.hid hys;clear hys
  have hl:=looseP_pre t Hfit.out
  rw[←Hys.out] at hl
  obtain⟨n,hn⟩:∃ n,looseP (ys.map Hit6.key)=n:=⟨_,rfl⟩
  rw[hn] at z2 hl
  have Hl:=Lib.hid hl
  clear hl hn
  have c2:W.cell? ⟨w.heap.size+1,0,none⟩=some (.int .i64 n):=z2.cell rfl
  gi_wp2
  refine⟨by simp,.inl ⟨_,_,rfl,run_takeDeferred hK,?_⟩⟩
  exact⟨_,results_tmp rfl _ _ _,by rw[←Hl.out];rfl,hB.trans (belowK_b (w:=w) (Nat.le_refl _) W D _ _ (by omega) hK rfl rfl)⟩
 case stop=>
  rintro D c pre W _ _ h _
  exact h.elim
end Go.Proofs.YtflbnonbfmmchaaGreat
namespace Go.Proofs.YtflbnonbfmmchaaGreat
open Go.RowKit
def TP1_3:TI:=⟨1,false,[Value.int IntKind.i64 0],[],none,8,2,none,false⟩
theorem TP1_3_ok:TypOk Tryz.prog 3 TP1_3:=by constructor <;> kernel_rfl
def TP1_59:TI:=⟨1,false,[Value.slice none 0 0],[],some 3,24,5,none,false⟩
theorem TP1_59_ok:TypOk Tryz.prog 59 TP1_59:=by constructor <;> kernel_rfl
def TP1_41:TI:=⟨4,true,[Value.slice none 0 0,Value.int IntKind.i64 0,Value.int IntKind.i64 0,Value.slice none 0 0],[(0,1,false),(1,2,true),(3,1,false)],none,64,6,none,false⟩
theorem TP1_41_ok:TypOk Tryz.prog 41 TP1_41:=by constructor <;> kernel_rfl
def TP1_33:TI:=⟨1,false,[Value.slice none 0 0],[],some 44,24,5,none,false⟩
theorem TP1_33_ok:TypOk Tryz.prog 33 TP1_33:=by constructor <;> kernel_rfl
def TP1_38:TI:=⟨2,true,[Value.int IntKind.i64 0,Value.int IntKind.i64 0],[(0,1,false),(1,1,false)],none,16,6,none,true⟩
theorem TP1_38_ok:TypOk Tryz.prog 38 TP1_38:=by constructor <;> kernel_rfl
def TP1_192:TI:=⟨1,false,[Value.slice none 0 0],[],some 33,24,5,none,false⟩
theorem TP1_192_ok:TypOk Tryz.prog 192 TP1_192:=by constructor <;> kernel_rfl
def TP1_273:TI:=⟨1,false,[Value.map none],[],none,8,7,some 4,false⟩
theorem TP1_273_ok:TypOk Tryz.prog 273 TP1_273:=by constructor <;> kernel_rfl
def TP1_39:TI:=⟨1,false,[Value.slice none 0 0],[],some 41,24,5,none,false⟩
theorem TP1_39_ok:TypOk Tryz.prog 39 TP1_39:=by constructor <;> kernel_rfl
def TP1_182:TI:=⟨1,false,[Value.map none],[],none,8,7,some 3,false⟩
theorem TP1_182_ok:TypOk Tryz.prog 182 TP1_182:=by constructor <;> kernel_rfl
def TP1_44:TI:=⟨2,true,[Value.slice none 0 0,Value.int IntKind.i64 0],[(0,1,false),(1,1,false)],none,32,6,none,false⟩
theorem TP1_44_ok:TypOk Tryz.prog 44 TP1_44:=by constructor <;> kernel_rfl
def TP1_4:TI:=⟨1,false,[Value.bool false],[],none,1,1,none,false⟩
theorem TP1_4_ok:TypOk Tryz.prog 4 TP1_4:=by constructor <;> kernel_rfl
def TP1:List (Nat×TI):=[(3,TP1_3),(59,TP1_59),(41,TP1_41),(33,TP1_33),(38,TP1_38),(192,TP1_192),(273,TP1_273),(39,TP1_39),(182,TP1_182),(44,TP1_44),(4,TP1_4)]
theorem TP1_ok:TabOk Tryz.prog TP1:=((((((((((((TabOk.nil _).cons TP1_4_ok).cons TP1_44_ok).cons TP1_182_ok).cons TP1_39_ok).cons TP1_273_ok).cons TP1_192_ok).cons TP1_38_ok).cons TP1_33_ok).cons TP1_41_ok).cons TP1_59_ok).cons TP1_3_ok)
/-! ints -/
def eIs (l:List Int):List (List D):=l.map fun i=>[.v (.int .i64 i)]
theorem eIs_len (l:List Int):(eIs l).length=l.length:=List.length_map ..
theorem eIs_getD (l:List Int)(i:Nat)(h:i<l.length):(eIs l).getD i []=[.v (.int .i64 l[i])]:=by
 rw[eIs,List.getD_eq_getElem?_getD,List.getElem?_map,List.getElem?_eq_getElem h];rfl
@[simp] theorem eIs_ok (f g:Nat→Bool) (l:List Int):D.okss f g (eIs l)=true:=D.okss_map _ l fun _ _=>rfl
theorem loose_d (t:Tm)(hz:t.full≤500000)(hf:t.Fit):PureC Tryz.prog 120 [.ag (eTm t)] (.v (.int .i64 ((t.looses 0).foldl looseL 0))):=by
 refine pure_below (by kernel_rfl) fun m Im w vs hv=>?_
 match vs,hv with
 | [x],hv=>
  obtain⟨b,k,i,a,rfl,ht⟩:=agTm hv.1
  refine(loose6_k ht hz hf).mono ?_
  rintro e w' ⟨rfl,hb⟩
  exact⟨_,rfl,hb,fun _ _ _=>.v _⟩
theorem cut_none (m:Mp):(m.cut (fun _=>false) noR).le m00:=⟨fun k b h=>by simp[Mp.cut] at h,fun g R h=>by simp[Mp.cut,noR] at h,fun k b h=>by simp[Mp.cut] at h⟩
theorem entry0 {cx:Cx}{Fr:Nat→Prop}{m:Mp}{Im:Nat→Nat→Prop}{w:World}{vs:List Value}{args:List D}(hm:MemOk cx Fr m Im w)(hr:RelL m Im w vs args)(ha:args.all (fun d=>d.ok (fun _=>false) noR)=true)(nt:Nat)(hnt:args.length≤nt){n:Nat}(hn:n=nt):
  ∃ cx':Cx,cx'.nt=nt∧cx'.n0=0∧cx'.w0=w∧(∀ b,¬ cx'.C b)∧cx'.Im0=Im∧St cx' (fun k=>0≤k) m00 Im w { tmps:=vs.toArray++Array.replicate (n-vs.toArray.size) undef,defers:=[] } (argsT 0 args []):=by
 subst hn
 have hvl:vs.length=args.length:=(relL_iff.1 hr).1
 refine⟨{ w0:=w,C:=fun _=>False,Im0:=Im,m0:=m00,nt:=n,n0:=0,h0:=(fun k b hk=>by cases hk),h0o:=(fun k b hk=>by cases hk) },rfl,rfl,rfl,fun _ h=>h,rfl,?_⟩
 refine⟨{
  off:=Off.refl _ _,im:=hm.im,imb:=fun b o h=>.inl h,im0:=fun b o h=>h
  own:=fun k b hk=>by cases hk
  lt:=fun k b hk=>by cases hk
  free:=fun k b o hk=>by cases hk
  nim:=fun k b o hk=>by cases hk
  inj:=fun k k' b hk=>by cases hk
  row:=fun g R hg=>by cases hg
  k0:=KeepI.refl _ _
  rown:=fun g R b hg=>by cases hg
  m0r:=fun g R hg=>by cases hg
  rIm:=fun g R b o hg=>by cases hg
  rblk:=fun g R b k hg=>by cases hg
  rinj:=fun g g' R R' b hg=>by cases hg
  fr:=fun k hk=>⟨rfl,rfl,rfl⟩
  m0:=fun k b hk=>by cases hk
  m0o:=fun k b hk=>by cases hk
  oown:=fun k b hk=>by cases hk
  olt:=fun k b hk=>by cases hk
  onim:=fun k b o hk=>by cases hk
  oinj:=fun k k' b hk=>by cases hk
  oblk:=fun k k' b hk=>by cases hk
  orow:=fun k g R b hk=>by cases hk
  dis:=fun k b hk=>by cases hk },rfl,by simp[hvl];omega,fun x d hx=>?_,fun k off d hx=>?_,fun g d hx=>?_,fun d hx=>?_,fun k d hx=>?_⟩
 ·rcases get_argsT args 0 x hx with⟨j,h1,h2⟩ | hx
  ·have hj:j<args.length:=by
    rcases Nat.lt_or_ge j args.length with h' | h'
    ·exact h'
    ·rw[List.getElem?_eq_none h'] at h2;cases h2
   rw[List.getElem?_eq_getElem hj] at h2
   cases h2
   have hr:=(relL_iff.1 hr).2 j hj
   have hx':x=j:=by omega
   subst hx'
   have:(vs.toArray++Array.replicate (n-vs.toArray.size) undef).getD x undef=vs.getD x undef:=by
    have hx2:x<vs.length:=by omega
    rw[Array.getD_eq_getD_getElem?,Array.getElem?_append_left (by simpa using hx2),List.getD_eq_getElem?_getD]
    simp
   show Rel _ _ _ ((vs.toArray++Array.replicate (n-vs.toArray.size) undef).getD x undef) _
   rw[this]
   exact(hr.cut (List.all_eq_true.1 ha _ (List.getElem_mem hj))).mono (cut_none m) (KeepI.refl _ _) fun _ _ h=>h
  ·cases hx
 ·rw[get_argsN (fun x=>by simp) args 0] at hx;cases hx
 ·rw[get_argsN (fun x=>by simp) args 0] at hx;cases hx
 ·rw[get_argsN (fun x=>by simp) args 0] at hx;cases hx
 ·rw[get_argsN (fun x=>by simp) args 0] at hx;cases hx
def eMp (l:List (Int×Value)):List (Int×D):=l.map fun p=>(p.1,.v p.2)
theorem full_mem {l:List Tm}{t:Tm}(h:t∈l):t.full≤Tm.fulls l:=by
 induction l with
 | nil=>cases h
 | cons u l ih=>
  simp only[Tm.fulls]
  rcases List.mem_cons.1 h with rfl | h
  ·omega
  ·have:=ih h;omega
theorem full_args (t:Tm):t.full=Ty.sizes t.binds+Tm.fulls t.args+1:=by obtain⟨b,k,i,a⟩:=t;exact Tm.full_eq ..
theorem pflex_d (t:Tm):PureC Tryz.prog 134 [.ag (eTm t)] (.v (.bool (decide (t.kind=2)))):=by
 rw[eTm_eq]
 refine calldw 0 7 [ResultVar.tmp 2] TP1_ok Tryz.func134 rfl Tryz.ntmps134 rfl fun cx hnt hn0=>?_
 ·skip
  refine dw_seq ?_;refine dwk [] TP1_ok hnt fun _ z9=>z9 _ _ ?_;refine dw_seq ?_;refine dwk [(6,.v (.bool (decide (t.kind=2))))] TP1_ok hnt fun K hK=>?_;refine And.intro (VLe.refl _) ?_;refine hK _ _ ?_;clear hK K;refine dw_ret ?_
  exact reta rfl
namespace Pn
theorem varsL_snoc (n:Int):∀ (l:List Tm) (a:Tm) (acc:List Int),varsL n (l++[a]) acc=(varsL n l acc).bind fun r=>if isVar n r a then some (r++[a.headIx]) else none
 | [],a,acc=>by simp[varsL]
 | b :: l,a,acc=>by
  rw[List.cons_append,varsL,varsL]
  split
  ·exact varsL_snoc n l a _
  ·rfl
theorem varsL_take (n:Int)(l:List Tm)(j:Nat)(h:j<l.length){acc:List Int}(hv:varsL n (l.take j) []=some acc):varsL n (l.take (j+1)) []=if isVar n acc l[j] then some (acc++[l[j].headIx]) else none:=by
 rw[List.take_add_one,List.getElem?_eq_getElem h]
 show varsL n (l.take j++[l[j]]) []=_
 rw[varsL_snoc,hv];rfl
theorem varsL_app (n:Int):∀ (l r:List Tm) (acc:List Int),varsL n (l++r) acc=(varsL n l acc).bind fun x=>varsL n r x
 | [],r,acc=>rfl
 | b :: l,r,acc=>by
  rw[List.cons_append,varsL,varsL]
  split
  ·exact varsL_app n l r _
  ·rfl
end Pn
def eMet (l:List Int):List (Int×D):=l.map fun i=>(i,.v (.bool true))
theorem okm_map {f g:Nat→Bool}{α:Type}(e:α→Int×D)(l:List α)(h:∀ x∈l,(e x).2.ok f g=true):D.okm f g (l.map e)=true:=by
 induction l with
 | nil=>rfl
 | cons x l ih=>
  have h1:=h x (by simp)
  have h2:=ih fun y hy=>h y (by simp[hy])
  simp only[List.map_cons]
  generalize e x=p at h1 ⊢
  obtain⟨i,d⟩:=p
  simp only[D.okm,Bool.and_eq_true];exact⟨h1,h2⟩
@[simp] theorem eMet_ok (f g:Nat→Bool) (l:List Int):D.okm f g (eMet l)=true:=okm_map _ l fun _ _=>rfl
namespace Pn
def atL:List Int→Nat→List (Int×Value)
 | [],_=>[]
 | v :: l,k=>(v,.int .i64 k) :: atL l (k+1)
end Pn
@[simp] theorem atL_ok (f g:Nat→Bool) (l:List Int) (k:Nat):D.okm f g (eMp (Pn.atL l k))=true:=okm_map _ _ fun _ _=>rfl
def TL8_27:TI:=⟨1,false,[Value.slice none 0 0],[],some 29,24,5,none,false⟩
theorem TL8_27_ok:TypOk Tryz.prog 27 TL8_27:=by constructor <;> kernel_rfl
def TL8_3:TI:=⟨1,false,[Value.int IntKind.i64 0],[],none,8,2,none,false⟩
theorem TL8_3_ok:TypOk Tryz.prog 3 TL8_3:=by constructor <;> kernel_rfl
def TL8_29:TI:=⟨4,true,[Value.slice none 0 0,Value.int IntKind.i64 0,Value.int IntKind.i64 0,Value.slice none 0 0],[(0,1,false),(1,2,true),(3,1,false)],none,64,6,none,false⟩
theorem TL8_29_ok:TypOk Tryz.prog 29 TL8_29:=by constructor <;> kernel_rfl
def TL8_26:TI:=⟨2,true,[Value.int IntKind.i64 0,Value.int IntKind.i64 0],[(0,1,false),(1,1,false)],none,16,6,none,true⟩
theorem TL8_26_ok:TypOk Tryz.prog 26 TL8_26:=by constructor <;> kernel_rfl
def TL8:List (Nat×TI):=[(27,TL8_27),(3,TL8_3),(29,TL8_29),(26,TL8_26)]
theorem TL8_ok:TabOk Tryz.prog TL8:=(((((TabOk.nil _).cons TL8_26_ok).cons TL8_29_ok).cons TL8_3_ok).cons TL8_27_ok)
mutual
def lowB:Tm→Bool
 | .mk _ k i a=>!(decide (k=0)&&decide (900000<i))&&lowsB a
def lowsB:List Tm→Bool
 | []=>true
 | t :: l=>lowB t&&lowsB l
end
theorem lowsB_all:∀ l:List Tm,lowsB l=l.all lowB
 | []=>rfl
 | t :: l=>by rw[lowsB,lowsB_all l];rfl
theorem lowB_eq (t:Tm):lowB t=(!(decide (t.kind=0)&&decide (900000<t.index))&&lowsB t.args):=by cases t;rfl
theorem all_false {l:List Tm}{j:Nat}(h:j<l.length)(hf:lowB l[j]=false):lowsB l=false:=by
 rw[lowsB_all,List.all_eq_false];exact⟨l[j],List.getElem_mem h,by rw[hf];simp⟩
set_option maxHeartbeats 1000000 in
theorem low_list (l:List Tm)(hl:l.length≤1000000)(ih:∀ t∈l,PureC Tryz.prog 78 [.sl 4 (eTms t.args) none] (.v (.bool (lowsB t.args)))):PureC Tryz.prog 78 [.sl 4 (eTms l) none] (.v (.bool (lowsB l))):=by
 refine call_of_dw 0 35 [ResultVar.tmp 2] TL8_ok (by kernel_rfl) Tryz.func78 rfl Tryz.ntmps78 rfl (by simp) ?dwords ?dbody
 case dwords=>simp[wordsOk,D.ok,D.oks,rnames,eTms_ok]
 case dbody=>
  intro cx hnt hn0
  refine dw_seq ?_;refine dwk [] TL8_ok hnt fun _ z9=>z9 _ _ ?_;refine dw_seq (dw_seq ?_);refine dwk [] TL8_ok hnt fun _ z9=>z9 _ _ ?_;refine dw_block ?_
  refine dw_loop (ι:={ j:Nat // ∀ i (h:i<l.length),i<j→lowB l[i]=true }) (fun j=>[(.t 0,.sl 4 (eTms l) none),(.t 3,.v (.int .i64 (j.1:Int)))]) 1 (fun j=>l.length-j.1) ⟨0,fun i h1 h2=>by omega⟩ VS.toA fun j=>?_
  obtain⟨j,hj⟩:=j
  dsimp only
  refine dw_seq (dw_seq ?_)
  by_cases hlt:j<l.length
  ·have hi:=ih l[j] (List.getElem_mem hlt)
   have hlo:=lowB_eq l[j]
   refine dwk [(7,.v (.bool true))] TL8_ok hnt fun K hK=>?_;refine And.intro (dtrue (by rw[eTms_len];omega)) ?_;refine hK _ _ ?_;clear hK K;refine dw_cond (t:=true) rfl ?_;rw[if_pos rfl];refine dw_skip ?_;refine dw_seq (dw_block (dw_seq ?_))
   have hq:(eTms l).getD (j:Int).toNat []=[.sl 2 (eTys l[j].binds) none,.v (.int .i64 l[j].kind),.v (.int .i64 l[j].index),.sl 4 (eTms l[j].args) none]:=by rw[Int.toNat_natCast,eTms_getD l j hlt,eTm_eq]
   have hb:(0:Int)≤(j:Int)∧(j:Int)<((eTms l).length:Int):=⟨by omega,by rw[eTms_len];omega⟩
   have hret:lowB l[j]=false→∀ σ N,DW Tryz.prog cx (.ret) σ N (RetOk TL8 [ResultVar.tmp 2] (.v (.bool (lowsB l))) [])→True:=fun _ _ _ _=>trivial
   by_cases hk:l[j].kind=0
   ·by_cases hx:900000<l[j].index
    ·have hf:lowsB l=false:=all_false hlt (by rw[hlo];simp[hk,hx])
     rw[hf]
     refine dwk [(12,.q [.sl 2 (eTys l[j].binds) none,.v (.int .i64 l[j].kind),.v (.int .i64 l[j].index),.sl 4 (eTms l[j].args) none]),(16,.v (.bool true)),(20,.q [.sl 2 (eTys l[j].binds) none,.v (.int .i64 l[j].kind),.v (.int .i64 l[j].index),.sl 4 (eTms l[j].args) none]),(24,.v (.bool true))] TL8_ok hnt fun K hK=>?_;refine And.intro (hb) ?_;refine And.intro (VLe.of_eq (by rw[hq])) ?_
     refine And.intro (VLe.of_eq (by simp[hk])) ?_;refine And.intro (hb) ?_;refine And.intro (VLe.of_eq (by rw[hq])) ?_;refine And.intro (dtrue hx) ?_;refine hK _ _ ?_;clear hK K;refine dw_cond (t:=true) rfl ?_;rw[if_pos rfl];refine dw_seq ?_;refine dwk [] TL8_ok hnt fun _ z9=>z9 _ _ ?_;refine dw_ret ?_
     exact retv (N:=0) (.inr rfl) rfl (VLe.refl _) trivial
    ·cases hla:lowsB l[j].args with
     | false=>
      have hf:lowsB l=false:=all_false hlt (by rw[hlo,hla];simp)
      rw[hf]
      rw[hla] at hi
      refine dwk [(12,.q [.sl 2 (eTys l[j].binds) none,.v (.int .i64 l[j].kind),.v (.int .i64 l[j].index),.sl 4 (eTms l[j].args) none]),(16,.v (.bool true)),(20,.q [.sl 2 (eTys l[j].binds) none,.v (.int .i64 l[j].kind),.v (.int .i64 l[j].index),.sl 4 (eTms l[j].args) none]),(24,.v (.bool false)),(29,.q [.sl 2 (eTys l[j].binds) none,.v (.int .i64 l[j].kind),.v (.int .i64 l[j].index),.sl 4 (eTms l[j].args) none])] TL8_ok hnt fun K hK=>?_
      refine And.intro (hb) ?_;refine And.intro (VLe.of_eq (by rw[hq])) ?_;refine And.intro (VLe.of_eq (by simp[hk])) ?_;refine And.intro (hb) ?_;refine And.intro (VLe.of_eq (by rw[hq])) ?_;refine And.intro (dfalse hx) ?_;refine And.intro (hb) ?_;refine And.intro (VLe.of_eq (by rw[hq])) ?_;refine dcl (hi) ?_;refine hK _ _ ?_;clear hK K;refine dw_cond (t:=true) rfl ?_;rw[if_pos rfl];refine dw_seq ?_
      refine dwk [] TL8_ok hnt fun _ z9=>z9 _ _ ?_;refine dw_ret ?_
      exact retv (N:=0) (.inr rfl) rfl (VLe.refl _) trivial
     | true=>
      rw[hla] at hi
      refine dwk [(12,.q [.sl 2 (eTys l[j].binds) none,.v (.int .i64 l[j].kind),.v (.int .i64 l[j].index),.sl 4 (eTms l[j].args) none]),(16,.v (.bool true)),(20,.q [.sl 2 (eTys l[j].binds) none,.v (.int .i64 l[j].kind),.v (.int .i64 l[j].index),.sl 4 (eTms l[j].args) none]),(24,.v (.bool false)),(29,.q [.sl 2 (eTys l[j].binds) none,.v (.int .i64 l[j].kind),.v (.int .i64 l[j].index),.sl 4 (eTms l[j].args) none])] TL8_ok hnt fun K hK=>?_
      refine And.intro (hb) ?_;refine And.intro (VLe.of_eq (by rw[hq])) ?_;refine And.intro (VLe.of_eq (by simp[hk])) ?_;refine And.intro (hb) ?_;refine And.intro (VLe.of_eq (by rw[hq])) ?_;refine And.intro (dfalse hx) ?_;refine And.intro (hb) ?_;refine And.intro (VLe.of_eq (by rw[hq])) ?_;refine dcl (hi) ?_;refine hK _ _ ?_;clear hK K;refine dw_cond (t:=false) rfl ?_;rw[if_neg (by simp)]
      refine dw_skip ?_;refine dwk [(9,.v (.int .i64 ((j+1:Nat):Int)))] TL8_ok hnt fun K hK=>?_;refine And.intro (dintE (by rw[IntWalk.i64_in _ (by omega)];omega)) ?_;refine hK _ _ ?_;clear hK K
      refine⟨⟨j+1,fun i h1 h2=>?_⟩,by dsimp only;omega,VS.toA⟩
      by_cases he:i=j
      ·subst he;rw[hlo,hla];simp[hx]
      ·exact hj i h1 (by omega)
   ·cases hla:lowsB l[j].args with
    | false=>
     have hf:lowsB l=false:=all_false hlt (by rw[hlo,hla];simp)
     rw[hf]
     rw[hla] at hi
     refine dwk [(12,.q [.sl 2 (eTys l[j].binds) none,.v (.int .i64 l[j].kind),.v (.int .i64 l[j].index),.sl 4 (eTms l[j].args) none]),(16,.v (.bool false)),(29,.q [.sl 2 (eTys l[j].binds) none,.v (.int .i64 l[j].kind),.v (.int .i64 l[j].index),.sl 4 (eTms l[j].args) none])] TL8_ok hnt fun K hK=>?_;refine And.intro (hb) ?_;refine And.intro (VLe.of_eq (by rw[hq])) ?_;refine And.intro (VLe.of_eq (by simp[hk])) ?_
     refine And.intro (hb) ?_;refine And.intro (VLe.of_eq (by rw[hq])) ?_;refine dcl (hi) ?_;refine hK _ _ ?_;clear hK K;refine dw_cond (t:=true) rfl ?_;rw[if_pos rfl];refine dw_seq ?_;refine dwk [] TL8_ok hnt fun _ z9=>z9 _ _ ?_;refine dw_ret ?_
     exact retv (N:=0) (.inr rfl) rfl (VLe.refl _) trivial
    | true=>
     rw[hla] at hi
     refine dwk [(12,.q [.sl 2 (eTys l[j].binds) none,.v (.int .i64 l[j].kind),.v (.int .i64 l[j].index),.sl 4 (eTms l[j].args) none]),(16,.v (.bool false)),(29,.q [.sl 2 (eTys l[j].binds) none,.v (.int .i64 l[j].kind),.v (.int .i64 l[j].index),.sl 4 (eTms l[j].args) none])] TL8_ok hnt fun K hK=>?_;refine And.intro (hb) ?_;refine And.intro (VLe.of_eq (by rw[hq])) ?_;refine And.intro (VLe.of_eq (by simp[hk])) ?_
     refine And.intro (hb) ?_;refine And.intro (VLe.of_eq (by rw[hq])) ?_;refine dcl (hi) ?_;refine hK _ _ ?_;clear hK K;refine dw_cond (t:=false) rfl ?_;rw[if_neg (by simp)];refine dw_skip ?_;refine dwk [(9,.v (.int .i64 ((j+1:Nat):Int)))] TL8_ok hnt fun K hK=>?_;refine And.intro (dintE (by rw[IntWalk.i64_in _ (by omega)];omega)) ?_;refine hK _ _ ?_;clear hK K
     refine⟨⟨j+1,fun i h1 h2=>?_⟩,by dsimp only;omega,VS.toA⟩
     by_cases he:i=j
     ·subst he;rw[hlo,hla];simp[hk]
     ·exact hj i h1 (by omega)
  ·have hf:lowsB l=true:=by
    rw[lowsB_all,List.all_eq_true]
    intro t ht
    obtain⟨i,hi,rfl⟩:=List.getElem_of_mem ht
    exact hj i hi (by omega)
   rw[hf]
   refine dwk [(7,.v (.bool false))] TL8_ok hnt fun K hK=>?_;refine And.intro (dfalse (by rw[eTms_len];omega)) ?_;refine hK _ _ ?_;clear hK K;refine dw_cond (t:=false) rfl ?_;rw[if_neg (by simp)];refine dw_exit ?_;refine dw_seq ?_;refine dwk [] TL8_ok hnt fun _ z9=>z9 _ _ ?_;refine dw_ret ?_
   exact retv (N:=0) (.inr rfl) rfl (VLe.refl _) trivial
theorem low_args:∀ (t:Tm),Wide t→PureC Tryz.prog 78 [.sl 4 (eTms t.args) none] (.v (.bool (lowsB t.args))):=by
 intro t
 induction t using Tm.ind with
 | h bs k i a ih=>
  intro hw
  obtain⟨_,w2,w3⟩:=hw.inv
  exact low_list a (by omega) fun u hu=>ih u hu (w3 u hu)
theorem low_d (l:List Tm)(hl:l.length≤1000000)(hw:∀ t∈l,Wide t):PureC Tryz.prog 78 [.sl 4 (eTms l) none] (.v (.bool (lowsB l))):=low_list l hl fun t ht=>low_args t (hw t ht)
theorem wide_full:∀ t:Tm,t.full≤100000→Wide t:=by
 intro t
 induction t using Tm.ind with
 | h bs k i a ih=>
  intro h
  rw[Tm.full_eq] at h
  have h1:=Ty.le_sizes bs
  have key:∀ l:List Tm,l.length≤Tm.fulls l∧∀ u∈l,u.full≤Tm.fulls l:=by
   intro l
   induction l with
   | nil=>exact⟨by simp,nofun⟩
   | cons t l ihl=>
    have ht:1≤t.full:=by obtain⟨_,_,_,_⟩:=t;rw[Tm.full_eq];omega
    simp only[Tm.fulls,List.length_cons]
    refine⟨by omega,fun u hu=>?_⟩
    rcases List.mem_cons.1 hu with rfl | hu
    ·omega
    ·have:=ihl.2 u hu;omega
  have h2:=key a
  exact .mk _ _ _ _ (by omega) (by omega) fun t ht=>ih t ht (by have:=h2.2 t ht;omega)
namespace Pn
end Pn
namespace Pn
end Pn
def CallG (P:Program)(f:FuncId)(args:List D)(R W:List (Key×D))(V:D):Prop:=
 entersB P f=true∧∀ cx (Fr:Nat→Prop) m Im w a σ vs,St cx Fr m Im w a σ→RelL m Im w vs args→(∀ p∈R,get σ p.1=some p.2) →
  Calls P f vs.toArray w fun e w'=>∃ v m' Im',e=.returned v∧St cx Fr m' Im' w' a (puts (dropT R σ) W)∧Rel m' Im' w' v V
theorem CallG.n {P:Program}{f:FuncId}{args:List D}{R W:List (Key×D)}{V:D}(h:CallG P f args R W V)(nm:Nat):CallN P f args R nm W V:=
 ⟨h.1,fun cx Fr m Im w a σ vs _ hs hv hR=>(h.2 cx Fr m Im w a σ vs hs hv hR).mono fun e w' ⟨v,m',Im',q1,q2,q3⟩=>⟨v,m',Im',q1,q2.less fun k hk=>hk.1,q3⟩⟩
theorem CallG.vle {P:Program}{f:FuncId}{args args':List D}{R W:List (Key×D)}{V V':D}(h:CallG P f args R W V)(ha:VLeL args' args)(hv:VLe V V'):CallG P f args' R W V':=by
 refine⟨h.1,fun cx Fr m Im w a σ vs hs hr hR=>(h.2 cx Fr m Im w a σ vs hs ?_ hR).mono ?_⟩
 ·rw[relL_iff] at hr ⊢
  refine⟨hr.1.trans ha.1,fun i hi=>?_⟩
  have hi':i<args'.length:=by rw[ha.1];exact hi
  exact ha.2 i hi' hi m Im w _ (hr.2 i hi')
 ·rintro e w' ⟨v,m',Im',rfl,h1,h2⟩
  exact⟨v,m',Im',rfl,h1,hv _ _ _ _ h2⟩
def rowsR (R:List (Key×D)):List Nat:=R.filterMap fun p=>match p.1 with | .r g=>some g | _=>none
def rowN (R:List (Key×D)):Nat→Bool:=fun g=>(rowsR R).contains g
theorem mem_rowsR {R:List (Key×D)}{g:Nat}{d:D}(h:(Key.r g,d)∈R):rowN R g=true:=by
 unfold rowN;rw[List.contains_iff_mem];exact List.mem_filterMap.2 ⟨_,h,rfl⟩
theorem of_rowsR {R:List (Key×D)}{g:Nat}(h:rowN R g=true):∃ d,(Key.r g,d)∈R:=by
 unfold rowN at h;rw[List.contains_iff_mem] at h
 obtain⟨p,hp,e⟩:=List.mem_filterMap.1 h
 obtain⟨key,d⟩:=p
 cases key with
 | r g'=>simp at e;subst e;exact⟨d,hp⟩
 | _=>cases e
def gkey:Key→Bool
 | .c _ _=>true
 | .o _=>true
 | .r _=>true
 | _=>false
def wordsG (args:List D)(R W:List (Key×D))(V:D)(N0:Nat):Bool:=
 args.all (fun d=>d.ok (inN R) (rowN R))&&R.all (fun p=>p.2.ok (inN R) (rowN R)&&gkey p.1)&&W.all (fun p=>p.2.ok (inN R) (rowN R)&&(match p.1 with | .c k _=>inN R k | .o k=>inN R k | .r g=>rowN R g | _=>false))&&V.ok (inN R) (rowN R)&&(rnames R).all (fun k=>decide (k<N0))&&(rowsR R).all (fun g=>decide (g<N0)&&W.any fun p=>Key.eq p.1 (.r g))
set_option maxHeartbeats 2000000 in
theorem callG_of_dw {P:Program}{T:List (Nat×TI)}{f:FuncId}{fn:Func}{c:Code}{args:List D}{R W:List (Key×D)}{V:D}(N0 nt:Nat)(rs:List ResultVar)(hT:TabOk P T)(hen:entersB P f=true)(hf:P.funcs[f]?=some fn)(hb:fn.body=some c)(hnt:fn.ntmps=nt)(hrs:fn.results.toList=rs) 
  (hal:args.length≤nt) (hw:wordsG args R W V N0=true) (h:∀ cx:Cx,cx.nt=nt→cx.n0=N0→DW P cx c (argsT 0 args R) N0 (RetOk T rs V W)):CallG P f args R W V:=by
 refine⟨hen,fun cx Fr m Im w a σ vs hs0 hargs hR=>?_⟩
 have hmem:=hs0.mem
 simp only[wordsG,Bool.and_eq_true,List.all_eq_true,decide_eq_true_eq] at hw
 obtain⟨⟨⟨⟨⟨w1,w2⟩,w3⟩,w4⟩,w5⟩,w6⟩:=hw
 have hRc:∀ k off d,(Key.c k off,d)∈R→∃ b v,m.blk k=some b∧w.cell? ⟨b,off,none⟩=some v∧Rel m Im w v d:=fun k off d hm=>hs0.ce k off d (hR _ hm)
 have hRo:∀ k d,(Key.o k,d)∈R→∃ b,m.obj k=some b∧ObOk m Im w b d:=fun k d hm=>hs0.ok k d (hR _ hm)
 have hRr:∀ g d,(Key.r g,d)∈R→∃ Rw,m.row g=some Rw∧RoOk m Im w Rw d:=fun g d hm=>hs0.ro g d (hR _ hm)
 let RB:Nat→Prop:=fun b=>∃ g Rw,rowN R g=true∧m.row g=some Rw∧Rw.hv.ownBlock=some b
 have hnoj:∀ X J,(Key.j,D.j X J)∉R:=fun X J hm=>by have:=(w2 _ hm).2;cases this
 have hin:∀ k b,inN R k=true→m.blk k=some b→Tch m R b:=fun k b hk hb=>by
  rcases of_rnames hk with⟨off,d,hm⟩ | ⟨d,hm⟩
  ·exact .inl ⟨k,off,d,hm,hb⟩
  ·obtain⟨b',q1,_⟩:=hRo _ _ hm
   have:=hmem.dis k b hb
   rw[this] at q1;cases q1
 have hino:∀ k b,inN R k=true→m.obj k=some b→Tch m R b:=fun k b hk hb=>by
  rcases of_rnames hk with⟨off,d,hm⟩ | ⟨d,hm⟩
  ·obtain⟨b',v,q1,_⟩:=hRc _ _ _ hm
   have:=hmem.dis k b' q1
   rw[this] at hb;cases hb
  ·exact .inr (.inr ⟨k,d,hm,hb⟩)
 have hlt:∀ k,inN R k=true→k<N0:=fun k hk=>w5 k (by unfold inN at hk;rwa [List.contains_iff_mem] at hk)
 have hltr:∀ g,rowN R g=true→g<N0:=fun g hg=>(w6 g (by unfold rowN at hg;rwa [List.contains_iff_mem] at hg)).1
 have hTb:∀ b k,Tch m R b→m.blk k=some b→inN R k=true:=fun b k ht hk=>by
  rcases ht with⟨k',off,d,hm,hb⟩ | ⟨X,J,hm,_⟩ | ⟨k',d,hm,hb⟩
  ·have:=hmem.inj k k' b hk hb;subst this;exact mem_rnames hm
  ·exact absurd hm (hnoj X J)
  ·exact absurd hk (hmem.oblk k' k b hb)
 have hTo:∀ b k,Tch m R b→m.obj k=some b→inN R k=true:=fun b k ht hk=>by
  rcases ht with⟨k',off,d,hm,hb⟩ | ⟨X,J,hm,_⟩ | ⟨k',d,hm,hb⟩
  ·exact absurd hb (hmem.oblk k k' b hk)
  ·exact absurd hm (hnoj X J)
  ·have:=hmem.oinj k k' b hk hb;subst this;exact mem_rnamesO hm
 have hTr:∀ b g Rw,Tch m R b→m.row g=some Rw→Rw.hv.ownBlock≠some b:=fun b g Rw ht hg e=>by
  rcases ht with⟨k',off,d,hm,hb⟩ | ⟨X,J,hm,_⟩ | ⟨k',d,hm,hb⟩
  ·exact hmem.rblk g Rw b k' hg e hb
  ·exact absurd hm (hnoj X J)
  ·exact hmem.orow k' g Rw b hb hg e
 have hTown:∀ b,Tch m R b→cx.C b∨cx.w0.heap.size≤b:=fun b ht=>by
  rcases ht with⟨k',off,d,hm,hb⟩ | ⟨X,J,hm,_⟩ | ⟨k',d,hm,hb⟩
  ·exact hmem.own k' b hb
  ·exact absurd hm (hnoj X J)
  ·exact hmem.oown k' b hb
 have hTim:∀ b o,Tch m R b→¬ Im b o:=fun b o ht=>by
  rcases ht with⟨k',off,d,hm,hb⟩ | ⟨X,J,hm,_⟩ | ⟨k',d,hm,hb⟩
  ·exact hmem.nim k' b o hb
  ·exact absurd hm (hnoj X J)
  ·exact hmem.onim k' b o hb
 have hTX:∀ b X J,Tch m R b→XOk cx m Im w X J→¬ X b:=fun b X J ht hX hb=>by
  rcases ht with⟨k',off,d,hm,hb'⟩ | ⟨X',J',hm,_⟩ | ⟨k',d,hm,hb'⟩
  ·exact hX.blk b k' hb hb'
  ·exact hnoj X' J' hm
  ·exact hX.obj b k' hb hb'
 refine calls_of_wp hf hb ?_
 let cx':Cx:={ w0:=w,C:=fun b=>Tch m R b∨RB b,Im0:=Im,m0:=m.cut (inN R) (rowN R),nt:=nt,n0:=N0,h0:=fun k b hk=>hlt k (Mp.cut_blk hk).1,h0o:=fun k b hk=>hlt k (Mp.cut_obj hk).1,CR:=RB,hCR:=fun b h=>.inr h,h0r:=fun g Rw hg=>hltr g (Mp.cut_row hg).1 }
 have hst:St cx' (fun k=>N0≤k) (m.cut (inN R) (rowN R)) Im w { tmps:=vs.toArray++Array.replicate (fn.ntmps-vs.toArray.size) undef,defers:=[] } (argsT 0 args R):=by
  have hvl:vs.length=args.length:=(relL_iff.1 hargs).1
  refine⟨{
   off:=Off.refl _ _,im:=hmem.im,imb:=fun b o h=>.inl h,im0:=fun b o h=>h
   own:=fun k b hk=>.inl (.inl (hin k b (Mp.cut_blk hk).1 (Mp.cut_blk hk).2))
   lt:=fun k b hk=>hmem.lt k b (Mp.cut_blk hk).2
   free:=fun k b o hk=>hmem.free k b o (Mp.cut_blk hk).2
   nim:=fun k b o hk=>hmem.nim k b o (Mp.cut_blk hk).2
   inj:=fun k k' b hk hk'=>hmem.inj k k' b (Mp.cut_blk hk).2 (Mp.cut_blk hk').2
   row:=fun g R hg=>hmem.row g R (Mp.cut_row hg).2
   rIm:=fun g R b o hg=>hmem.rIm g R b o (Mp.cut_row hg).2
   rblk:=fun g R b k hg hb hk=>hmem.rblk g R b k (Mp.cut_row hg).2 hb (Mp.cut_blk hk).2
   rinj:=fun g g' R R' b hg hg'=>hmem.rinj g g' R R' b (Mp.cut_row hg).2 (Mp.cut_row hg').2
   fr:=fun k hk=>⟨?f1,?f2,?f3⟩
   m0:=fun k b hk=>hk
   m0o:=fun k b hk=>hk
   oown:=fun k b hk=>.inl (.inl (hino k b (Mp.cut_obj hk).1 (Mp.cut_obj hk).2))
   olt:=fun k b hk=>hmem.olt k b (Mp.cut_obj hk).2
   onim:=fun k b o hk=>hmem.onim k b o (Mp.cut_obj hk).2
   oinj:=fun k k' b hk hk'=>hmem.oinj k k' b (Mp.cut_obj hk).2 (Mp.cut_obj hk').2
   oblk:=fun k k' b hk hk'=>hmem.oblk k k' b (Mp.cut_obj hk).2 (Mp.cut_blk hk').2
   orow:=fun k g R b hk hg=>hmem.orow k g R b (Mp.cut_obj hk).2 (Mp.cut_row hg).2
   dis:=fun k b hk=>?dis
   k0:=KeepI.refl _ _
   rown:=fun g Rw b hg hb=>.inr ⟨g,Rw,(Mp.cut_row hg).1,(Mp.cut_row hg).2,hb⟩
   m0r:=fun g Rw hg=>⟨Rw,hg,Nat.le_refl _,fun _=>rfl⟩ },rfl,?sz,fun x d hx=>?tm,fun k off d hx=>?ce,fun g d hx=>?ro,fun d hx=>?jk,fun k d hx=>?okk⟩
  case f1=>
   by_cases hk2:inN R k=true
   ·have:=hlt k hk2;omega
   ·simp[Mp.cut,hk2]
  case f2=>
   by_cases hk2:rowN R k=true
   ·have:=hltr k hk2;omega
   ·simp[Mp.cut,hk2]
  case f3=>
   by_cases hk2:inN R k=true
   ·have:=hlt k hk2;omega
   ·simp[Mp.cut,hk2]
  case dis=>
   have:=hmem.dis k b (Mp.cut_blk hk).2
   show (if _ then m.obj k else none)=none
   rw[this];simp
  case sz=>simp[cx',hvl,hnt];omega
  case tm=>
   rcases get_argsT args 0 x hx with⟨j,h1,h2⟩ | hx
   ·have hj:j<args.length:=by
     rcases Nat.lt_or_ge j args.length with h' | h'
     ·exact h'
     ·rw[List.getElem?_eq_none h'] at h2;cases h2
    rw[List.getElem?_eq_getElem hj] at h2
    cases h2
    have hr:=(relL_iff.1 hargs).2 j hj
    have hx':x=j:=by omega
    subst hx'
    have:(vs.toArray++Array.replicate (fn.ntmps-vs.toArray.size) undef).getD x undef=vs.getD x undef:=by
     have hx2:x<vs.length:=by omega
     rw[Array.getD_eq_getD_getElem?,Array.getElem?_append_left (by simpa using hx2),List.getD_eq_getElem?_getD]
     simp
    show Rel _ _ _ ((vs.toArray++Array.replicate (fn.ntmps-vs.toArray.size) undef).getD x undef) _
    rw[this]
    exact hr.cut (w1 _ (List.getElem_mem hj))
   ·have:=(w2 _ (mem_of_get hx)).2
    cases this
  case ce=>
   rw[get_argsN (fun x=>by simp) args 0] at hx
   have hm:=mem_of_get hx
   obtain⟨b,v,q1,q2,q3⟩:=hRc _ _ _ hm
   exact⟨b,v,by simp only[Mp.cut,mem_rnames hm,if_true];exact q1,q2,q3.cut (w2 _ hm).1⟩
  case ro=>
   rw[get_argsN (fun x=>by simp) args 0] at hx
   have hm:=mem_of_get hx
   obtain⟨Rw,q1,q2⟩:=hRr _ _ hm
   exact⟨Rw,by simp only[Mp.cut,mem_rowsR hm,if_true];exact q1,q2.cut (w2 _ hm).1⟩
  case jk=>
   rw[get_argsN (fun x=>by simp) args 0] at hx
   have:=(w2 _ (mem_of_get hx)).2
   cases this
  case okk=>
   rw[get_argsN (fun x=>by simp) args 0] at hx
   have hm:=mem_of_get hx
   obtain⟨b,q1,q2⟩:=hRo _ _ hm
   exact⟨b,by simp only[Mp.cut,mem_rnamesO hm,if_true];exact q1,q2.cut (w2 _ hm).1⟩
 refine Code.wp_mono (fun e a' w' ⟨σ',N',m',Im',⟨hq1,⟨V',hq2,hq3⟩,hq4⟩,hs⟩=>?_) (h cx' rfl rfl _ Im w _ hst)
 obtain⟨v,r1,r2⟩:=resD_run (P:=P) (fn:=fn) hT hs (by rw[hrs];exact hq2)
 have hmem':=hs.mem
 have hoff:Off (fun b=>Tch m R b∨RB b) w w':=hmem'.off
 have hki:KeepI Im w w':=hmem'.k0
 have hi:∀ b o,Im b o→Im' b o:=hmem'.im0
 have hib:∀ b o,Im' b o→Im b o∨w.heap.size≤b∨RB b:=hmem'.imb
 have hrown:∀ g Rw b,m'.row g=some Rw→Rw.hv.ownBlock=some b→w.heap.size≤b∨RB b:=hmem'.rown
 have hsame:∀ b,b<w.heap.size→¬ Tch m R b→¬ RB b→w'.heap[b]?=w.heap[b]?:=fun b hb h1 h2=>hoff.block b hb fun h=>h.elim h1 h2
 have hmb:∀ k b,inN R k=true→m.blk k=some b→m'.blk k=some b:=fun k b hk hb=>hmem'.m0 k b (by show (m.cut (inN R) (rowN R)).blk k=some b;simp[Mp.cut,hk,hb])
 have hmo:∀ k b,inN R k=true→m.obj k=some b→m'.obj k=some b:=fun k b hk hb=>hmem'.m0o k b (by show (m.cut (inN R) (rowN R)).obj k=some b;simp[Mp.cut,hk,hb])
 have hm':∀ k b,inN R k=true→m'.blk k=some b→m.blk k=some b:=fun k b hk hb=>by
  rcases of_rnames hk with⟨off,d,hm⟩ | ⟨d,hm⟩
  ·obtain⟨b',_,q1,_⟩:=hRc _ _ _ hm
   have:=hmb k b' hk q1
   rw[this] at hb;cases hb;exact q1
  ·obtain⟨b',q1,_⟩:=hRo _ _ hm
   have:=hmo k b' hk q1
   rw[hmem'.dis k b hb] at this;cases this
 have hmo':∀ k b,inN R k=true→m'.obj k=some b→m.obj k=some b:=fun k b hk hb=>by
  rcases of_rnames hk with⟨off,d,hm⟩ | ⟨d,hm⟩
  ·obtain⟨b',_,q1,_⟩:=hRc _ _ _ hm
   have:=hmb k b' hk q1
   rw[hmem'.dis k b' this] at hb;cases hb
  ·obtain⟨b',q1,_⟩:=hRo _ _ hm
   have:=hmo k b' hk q1
   rw[this] at hb;cases hb;exact q1
 let m2:Mp:=⟨m.blk,fun g=>if rowN R g then m'.row g else m.row g,m.obj⟩
 have h2r:∀ {g Rw},m2.row g=some Rw→(rowN R g=true∧m'.row g=some Rw)∨(rowN R g=false∧m.row g=some Rw):=fun {g Rw} hg=>by
  cases hr:rowN R g with
  | true=>left;simp[m2,hr] at hg;exact⟨rfl,hg⟩
  | false=>right;simp[m2,hr] at hg;exact⟨rfl,hg⟩
 have hRBr:∀ b g Rw,RB b→m.row g=some Rw→Rw.hv.ownBlock=some b→rowN R g=true:=fun b g Rw ⟨g2,R2,q1,q2,q3⟩ hg ho=>by
  have:=hmem.rinj g2 g R2 Rw b q2 hg q3 ho
  subst this;exact q1
 have hRBb:∀ b k,RB b→m.blk k≠some b:=fun b k ⟨g2,R2,q1,q2,q3⟩=>hmem.rblk g2 R2 b k q2 q3
 have hRBo:∀ b k,RB b→m.obj k≠some b:=fun b k ⟨g2,R2,q1,q2,q3⟩ hk=>hmem.orow k g2 R2 b hk q2 q3
 have hRBw:∀ b,RB b→cx.w0.heap.size≤b∨cx.CR b:=fun b ⟨g2,R2,q1,q2,q3⟩=>hmem.rown g2 R2 b q2 q3
 have hrlt:∀ g Rw b,m.row g=some Rw→Rw.hv.ownBlock=some b→b<w.heap.size:=fun g Rw b hg ho=>by
  obtain⟨xs,hx⟩:=hmem.row g Rw hg
  exact(row_lt hx ho).2
 have hle:m.le m2:=⟨fun _ _ h=>h,fun g Rw hg=>by
  cases hr:rowN R g with
  | true=>
   obtain⟨R',q1,q2⟩:=hmem'.m0r g Rw (by show (m.cut (inN R) (rowN R)).row g=some Rw;simp[Mp.cut,hr,hg])
   exact⟨R',by simp[m2,hr,q1],q2⟩
  | false=>exact⟨Rw,by simp[m2,hr,hg],Nat.le_refl _,fun _=>rfl⟩,fun _ _ h=>h⟩
 have hcutle:(m'.cut (inN R) (rowN R)).le m2:=⟨fun k b hk=>hm' k b (Mp.cut_blk hk).1 (Mp.cut_blk hk).2,fun g Rw hg=>⟨Rw,by simp[m2,(Mp.cut_row hg).1,(Mp.cut_row hg).2],Nat.le_refl _,fun _=>rfl⟩,fun k b hk=>hmo' k b (Mp.cut_obj hk).1 (Mp.cut_obj hk).2⟩
 have hrel:∀ {x d},Rel m' Im' w' x d→d.ok (inN R) (rowN R)=true→Rel m2 Im' w' x d:=fun hx hd=>(hx.cut hd).mono hcutle (KeepI.refl _ _) fun _ _ h=>h
 have hmono:∀ {x d},Rel m Im w x d→Rel m2 Im' w' x d:=fun hx=>hx.mono hle hki hi
 have hmem2:MemOk cx Fr m2 Im' w':={
  off:=⟨hoff.os.trans hmem.off.os,hoff.tape.trans hmem.off.tape,hoff.output.trans hmem.off.output,Nat.le_trans hmem.off.size hoff.size,fun b hb hC=>(hsame b (Nat.lt_of_lt_of_le hb hmem.off.size) (fun h=>(hTown b h).elim hC fun h=>Nat.lt_irrefl _ (Nat.lt_of_lt_of_le hb h)) (fun h=>(hRBw b h).elim (fun h=>Nat.lt_irrefl _ (Nat.lt_of_lt_of_le hb h)) fun h=>hC (cx.hCR b h))).trans (hmem.off.block b hb hC)⟩
  im:=hmem'.im
  imb:=fun b o hh=>by
   rcases hib b o hh with h1 | h1 | h1
   ·exact hmem.imb b o h1
   ·exact .inr (.inl (Nat.le_trans hmem.off.size h1))
   ·exact .inr (hRBw b h1)
  im0:=fun b o hh=>hi b o (hmem.im0 b o hh)
  own:=hmem.own
  lt:=fun k b hk=>Nat.lt_of_lt_of_le (hmem.lt k b hk) hoff.size
  free:=fun k b o hk=>by
   cases hn:inN R k with
   | true=>exact hmem'.free k b o (hmb k b hn hk)
   | false=>exact(World.frozen?_of_block (a:=⟨b,o,none⟩) (hsame b (hmem.lt k b hk) (fun h=>by rw[hTb b k h hk] at hn;cases hn) fun h=>hRBb b k h hk)).trans (hmem.free k b o hk)
  nim:=fun k b o hk hh=>by
   cases hn:inN R k with
   | true=>exact hmem'.nim k b o (hmb k b hn hk) hh
   | false=>
    rcases hib b o hh with h1 | h1 | h1
    ·exact hmem.nim k b o hk h1
    ·have:=hmem.lt k b hk;omega
    ·exact hRBb b k h1 hk
  inj:=hmem.inj
  row:=fun g Rw hg=>by
   rcases h2r hg with⟨_,hg⟩ | ⟨hn,hg⟩
   ·exact hmem'.row g Rw hg
   ·obtain⟨xs,hx⟩:=hmem.row g Rw hg
    refine⟨xs,hx.1,?_⟩
    rcases hx.2 with h0 | ⟨g',cap,cur,e,h1,h2,h3⟩
    ·exact .inl h0
    ·refine .inr ⟨g',cap,cur,e,h1,?_,h3⟩
     have ho:Rw.hv.ownBlock=some g':=by rw[e];rfl
     rw[hsame g' (lt_of_block h2) (fun ht=>hTr g' g Rw ht hg ho) fun ht=>by rw[hRBr g' g Rw ht hg ho] at hn;cases hn];exact h2
  rIm:=fun g Rw b o hg ho hh=>by
   rcases h2r hg with⟨_,hg⟩ | ⟨hn,hg⟩
   ·exact hmem'.rIm g Rw b o hg ho hh
   ·rcases hib b o hh with h1 | h1 | h1
    ·exact hmem.rIm g Rw b o hg ho h1
    ·have:=hrlt g Rw b hg ho;omega
    ·rw[hRBr b g Rw h1 hg ho] at hn;cases hn
  rblk:=fun g Rw b k hg ho hk=>by
   rcases h2r hg with⟨_,hg⟩ | ⟨hn,hg⟩
   ·rcases hrown g Rw b hg ho with h1 | h1
    ·have:=hmem.lt k b hk;omega
    ·exact hRBb b k h1 hk
   ·exact hmem.rblk g Rw b k hg ho hk
  rinj:=fun g g' Rw Rw' b hg hg' ho ho'=>by
   rcases h2r hg with⟨hn,hg⟩ | ⟨hn,hg⟩ <;> rcases h2r hg' with⟨hn',hg'⟩ | ⟨hn',hg'⟩
   ·exact hmem'.rinj g g' Rw Rw' b hg hg' ho ho'
   ·rcases hrown g Rw b hg ho with h1 | h1
    ·have:=hrlt g' Rw' b hg' ho';omega
    ·rw[hRBr b g' Rw' h1 hg' ho'] at hn';cases hn'
   ·rcases hrown g' Rw' b hg' ho' with h1 | h1
    ·have:=hrlt g Rw b hg ho;omega
    ·rw[hRBr b g Rw h1 hg ho] at hn;cases hn
   ·exact hmem.rinj g g' Rw Rw' b hg hg' ho ho'
  fr:=fun k hk=>⟨(hmem.fr k hk).1,by
   cases hn:rowN R k with
   | true=>
    obtain⟨d,hm⟩:=of_rowsR hn
    obtain⟨Rw,q1,_⟩:=hRr _ _ hm
    rw[(hmem.fr k hk).2.1] at q1;cases q1
   | false=>simp[m2,hn,(hmem.fr k hk).2.1],(hmem.fr k hk).2.2⟩
  m0:=hmem.m0
  m0o:=hmem.m0o
  oown:=hmem.oown
  olt:=fun k b hk=>Nat.lt_of_lt_of_le (hmem.olt k b hk) hoff.size
  onim:=fun k b o hk hh=>by
   cases hn:inN R k with
   | true=>exact hmem'.onim k b o (hmo k b hn hk) hh
   | false=>
    rcases hib b o hh with h1 | h1 | h1
    ·exact hmem.onim k b o hk h1
    ·have:=hmem.olt k b hk;omega
    ·exact hRBo b k h1 hk
  oinj:=hmem.oinj
  oblk:=hmem.oblk
  orow:=fun k g Rw b hk hg ho=>by
   rcases h2r hg with⟨_,hg⟩ | ⟨hn,hg⟩
   ·rcases hrown g Rw b hg ho with h1 | h1
    ·have:=hmem.olt k b hk;omega
    ·exact hRBo b k h1 hk
   ·exact hmem.orow k g Rw b hk hg ho
  dis:=hmem.dis
  k0:=hmem.k0.trans (hki.weaken hmem.im0)
  rown:=fun g Rw b hg ho=>by
   rcases h2r hg with⟨_,hg⟩ | ⟨hn,hg⟩
   ·rcases hrown g Rw b hg ho with h1 | h1
    ·exact .inl (Nat.le_trans hmem.off.size h1)
    ·exact hRBw b h1
   ·exact hmem.rown g Rw b hg ho
  m0r:=hmem.m0r_le hle }
 have hg0:∀ k,get (dropT R σ) k=if touches R k then none else get σ k:=fun k=>by
  unfold dropT
  rw[get_filter (fun k=>!touches R k)]
  cases touches R k <;> rfl
 let keep:Key→Bool:=fun k=>match k with | .r g=>!rowN R g | _=>true
 have hg1:∀ k,get ((dropT R σ).filter fun p=>keep p.1) k=if keep k then get (dropT R σ) k else none:=fun k=>get_filter keep _ k
 have hst1:St cx Fr m2 Im' w' a ((dropT R σ).filter fun p=>keep p.1):=by
  refine⟨hmem2,hs0.df,hs0.nt,fun x d hx=>?_,fun k off d hx=>?_,fun g d hx=>?_,fun d hx=>?_,fun k d hx=>?_⟩
  ·rw[hg1,if_pos rfl,hg0] at hx;simp only[touches] at hx;exact hmono (hs0.tm x d hx)
  ·rw[hg1,if_pos rfl,hg0] at hx
   by_cases ht:touches R (.c k off)=true
   ·rw[if_pos ht] at hx;cases hx
   ·rw[if_neg ht] at hx
    obtain⟨b,u,q1,q2,q3⟩:=hs0.ce k off d hx
    refine⟨b,u,q1,?_,hmono q3⟩
    refine(World.cell?_of_block (a:=⟨b,off,none⟩) (hsame b (ltOfCell q2) (fun hb=>?_) fun hb=>hRBb b k hb q1)).trans q2
    rcases hb with⟨k',off',d',hm,hb⟩ | ⟨X,J,hm,hb⟩ | ⟨k',d',hm,hb⟩
    ·have:=hmem.inj k k' b q1 hb
     subst this
     exact ht (by simp only[touches,List.any_eq_true];exact⟨_,hm,by simp⟩)
    ·exact absurd hm (hnoj X J)
    ·exact hmem.oblk k' k b hb q1
  ·rw[hg1] at hx
   cases hn:rowN R g with
   | true=>simp[keep,hn] at hx
   | false=>
    rw[if_pos (by simp[keep,hn]),hg0] at hx;simp only[touches] at hx
    obtain⟨Rw,q1,q2⟩:=hs0.ro g d hx
    exact⟨Rw,by simp[m2,hn,q1],q2.mono (fun b hb=>hsame b (hmem.rlt q1 hb) (fun ht=>hTr b g Rw ht q1 hb) fun ht=>by rw[hRBr b g Rw ht q1 hb] at hn;cases hn) hle hki hi fun b o hb hh=>(hib b o hh).elim id fun h2=>h2.elim (fun h2=>absurd (hmem.rlt q1 hb) (Nat.not_lt.2 h2)) fun ht=>by rw[hRBr b g Rw ht q1 hb] at hn;cases hn⟩
  ·rw[hg1,if_pos rfl,hg0] at hx
   have ht:touches R .j=false:=by
    cases ht:touches R .j with
    | false=>rfl
    | true=>
     simp only[touches,List.any_eq_true] at ht
     obtain⟨⟨k,d'⟩,hp,hj⟩:=ht
     cases k <;> simp[isJ] at hj
     have:=(w2 _ hp).2;cases this
   rw[ht] at hx
   obtain⟨X,J,e,hX⟩:=hs0.jk d hx
   have hRX:∀ b,X b→¬ RB b:=fun b hb ⟨g2,R2,q1,q2,q3⟩=>hX.row b g2 R2 hb q2 q3
   have hxs:∀ b,X b→w'.heap[b]?=w.heap[b]?:=fun b hb=>hsame b (hX.lt b hb) (fun ht=>hTX b X J ht hX hb) (hRX b hb)
   refine⟨X,J,e,hX.stable _ hoff.size hxs,fun w2 hs2 hx2=>hX.stable w2 (Nat.le_trans hoff.size hs2) fun b hb=>(hx2 b hb).trans (hxs b hb),fun b hb=>Nat.lt_of_lt_of_le (hX.lt b hb) hoff.size,hX.own,fun b o hb hh=>?_,hX.blk,fun b g Rw hb hg ho=>?_,hX.obj⟩
   ·rcases hib b o hh with h1 | h1 | h1
    ·exact hX.nim b o hb h1
    ·have:=hX.lt b hb;omega
    ·exact hRX b hb h1
   ·rcases h2r hg with⟨_,hg⟩ | ⟨hn,hg⟩
    ·rcases hrown g Rw b hg ho with h1 | h1
     ·have:=hX.lt b hb;omega
     ·exact hRX b hb h1
    ·exact hX.row b g Rw hb hg ho
  ·rw[hg1,if_pos rfl,hg0] at hx
   by_cases ht:touches R (.o k)=true
   ·rw[if_pos ht] at hx;cases hx
   ·rw[if_neg ht] at hx
    obtain⟨b,q1,q2⟩:=hs0.ok k d hx
    refine⟨b,q1,q2.mono (hsame b (hmem.olt k b q1) (fun hT=>?_) fun hb=>hRBo b k hb q1) hle hki hi⟩
    rcases hT with⟨k',off',d',hm,hb'⟩ | ⟨X',J',hm,hb'⟩ | ⟨k',d',hm,hb'⟩
    ·exact hmem.oblk k k' b q1 hb'
    ·exact hnoj X' J' hm
    ·have:=hmem.oinj k k' b q1 hb'
     subst this
     exact ht (by simp only[touches,List.any_eq_true];exact⟨_,hm,by simp⟩)
 have hW:Holds cx m2 Im' w' W:=fun p hp=>by
  have hok:=w3 p hp
  have hg:=hq4 p hp
  obtain⟨key,d⟩:=p
  cases key with
  | c k off=>
   have hk:inN R k=true:=hok.2
   rcases hg with hg | ⟨d',hg,e,_⟩
   ·obtain⟨b,x,q1,q2,q3⟩:=hs.ce k off d hg
    exact⟨b,x,hm' k b hk q1,q2,hrel q3 hok.1⟩
   ·obtain⟨b,x,q1,q2,q3⟩:=hs.ce k off d' hg
    exact⟨b,x,hm' k b hk q1,q2,hrel (e _ _ _ _ q3) hok.1⟩
  | o k=>
   have hk:inN R k=true:=hok.2
   rcases hg with hg | ⟨d',hg,e,hf⟩
   ·obtain⟨b,q1,q2⟩:=hs.ok k d hg
    exact⟨b,hmo' k b hk q1,(q2.cut hok.1).mono rfl hcutle (KeepI.refl _ _) fun _ _ h=>h⟩
   ·exact hf.elim
  | r g=>
   have hk:rowN R g=true:=hok.2
   rcases hg with hg | ⟨d',hg,e,hf⟩
   ·obtain⟨Rw,q1,q2⟩:=hs.ro g d hg
    exact⟨Rw,by simp[m2,hk,q1],(q2.cut hok.1).mono (fun _ _=>rfl) hcutle (KeepI.refl _ _) (fun _ _ h=>h) fun _ _ _ h=>h⟩
   ·exact hf.elim
  | j=>cases hok.2
  | t x=>cases hok.2
 have hst2:=(hst1.putHolds hW).sub (σ':=puts (dropT R σ) W) fun k d hk=>by
  by_cases hW:∃ p∈W,p.1=k
  ·rw[←hk];exact get_puts_in W _ _ k hW
  ·have hW':∀ p∈W,p.1≠k:=fun p hp e=>hW ⟨p,hp,e⟩
   rw[get_puts_not W _ _ hW'] at hk ⊢
   rw[hg1,if_pos]
   ·exact hk
   ·cases k with
    | r g=>
     show (!rowN R g)=true
     cases hn:rowN R g with
     | false=>rfl
     | true=>
      have:=(w6 g (by unfold rowN at hn;rwa [List.contains_iff_mem] at hn)).2
      simp only[List.any_eq_true] at this
      obtain⟨p,hp,e⟩:=this
      exact absurd (Key.eq_iff.1 e) (hW' p hp)
    | _=>rfl
 have hfin:∃ v' m2 Im2,Ending.returned v=.returned v'∧St cx Fr m2 Im2 w' a (puts (dropT R σ) W)∧Rel m2 Im2 w' v' V:=
  ⟨v,m2,Im',rfl,hst2,hrel (hq3 _ _ _ _ r2) w4⟩
 rcases hq1 with rfl | rfl
 ·exact⟨hs.df,v,r1,hfin⟩
 ·exact⟨hs.df,v,r1,hfin⟩
def eUse (u:Pn.Use):List D:=[.v (.int .i64 u.mt),.sl 1 (eIs u.vars) none,.sl 2 (eTys u.binds) none,.sl 1 (eIs u.path) none]
def eUses (l:List Pn.Use):List (List D):=l.map eUse
@[simp] theorem eUses_ok (f g:Nat→Bool) (l:List Pn.Use):D.okss f g (eUses l)=true:=D.okss_map _ l fun u _=>by simp[eUse,D.oks,D.ok,eIs_ok,eTys_ok]
namespace Pn
end Pn
theorem VLe.ps0 (n g:Nat):VLe (.sl n [] (some g)) (.ps g 0):=fun m Im w x h=>by
 cases h with
 | sl a c bl off n X l r h1 ha hc hn ho hr hg=>exact .ps a c g 0 (fun h=>absurd h (by omega)) (Nat.zero_le _) (hg g rfl)
section
variable {P:Program} {T:List (Nat×TI)} {cx:Cx} {Fr Fr':Nat→Prop} {m m':Mp} {Im Im':Nat→Nat→Prop} {w w':World} {a:Act} {σ σ' τ:List (Key×D)} {N N':Nat} {Q:Exit→List (Key×D)→Nat→Prop}
theorem VS.thaw {g E n:Nat}(h:get σ (.r g)=some (.rw E n 0)):VS cx σ N (put1 (.r g) (.rp E n []) σ) N:=fun m Im w a hs=>by
 obtain⟨R,hR,hro⟩:=hs.ro g _ h
 have e:=hro.rwi
 injection e with e1 e2 e3
 obtain⟨xs,hx⟩:=hs.mem.row g R hR
 have hxs:xs=[]:=by
  have:=hx.1
  rw[←e3,Nat.zero_mul] at this
  exact List.length_eq_zero_iff.1 this
 subst hxs
 refine⟨m,hs.putro hR ?_⟩
 rw[e1,e2]
 refine .rp (R:=R) [] [] (by rw[←e3];rfl) (fun i h=>absurd h (by simp)) hx (fun u h=>absurd h (by simp)) (fun i h=>absurd h (by simp)) fun b o hb hi=>?_
 have:=hs.mem.rIm g R b o hR hb hi
 rw[←e3,Nat.zero_mul] at this
 omega
theorem VS.rowPT {x:Nat}(hx:x<cx.nt)(E n:Nat)(h:get σ (.t x)=some (.v (.slice none 0 0))):VS cx σ N (put1 (.r N) (.rp E n []) (put1 (.t x) (.ps N 0) σ)) (N+1):=fun m Im w a hs=>by
 obtain⟨m',h'⟩:=((VS.rowT (N:=N) hx E n h).trans (VS.thaw (g:=N) (E:=E) (n:=n) (by rw[get_put1,if_pos (Key.eq_refl _)]))) m Im w a hs
 refine⟨m',{ h' with tm:=fun y d hy=>?_,ce:=fun k off d hy=>?_,ro:=fun g d hy=>?_,jk:=fun d hy=>?_,ok:=fun k d hy=>?_ }⟩
 ·rw[get_put1,if_neg (by simp[Key.eq]),get_put1] at hy
  by_cases e:Key.eq (.t x) (.t y)=true
  ·rw[if_pos e] at hy
   have:=Key.eq_iff.1 e;cases this
   cases hy
   exact VLe.ps0 n N _ _ _ _ (h'.tm x _ (by rw[get_put1,if_neg (by simp[Key.eq]),get_put1,if_neg (by simp[Key.eq]),get_put1,if_pos (Key.eq_refl _)]))
  ·rw[if_neg e] at hy
   exact h'.tm y d (by rw[get_put1,if_neg (by simp[Key.eq]),get_put1,if_neg (by simp[Key.eq]),get_put1,if_neg e];exact hy)
 ·rw[get_put1,if_neg (by simp[Key.eq]),get_put1,if_neg (by simp[Key.eq])] at hy
  exact h'.ce k off d (by rw[get_put1,if_neg (by simp[Key.eq]),get_put1,if_neg (by simp[Key.eq]),get_put1,if_neg (by simp[Key.eq])];exact hy)
 ·refine h'.ro g d ?_
  rw[get_put1] at hy ⊢
  split
  ·rename_i e;rw[if_pos e] at hy;exact hy
  ·rename_i e
   rw[if_neg e,get_put1,if_neg (by simp[Key.eq])] at hy
   rw[get_put1,if_neg e,get_put1,if_neg (by simp[Key.eq])];exact hy
 ·rw[get_put1,if_neg (by simp[Key.eq]),get_put1,if_neg (by simp[Key.eq])] at hy
  exact h'.jk d (by rw[get_put1,if_neg (by simp[Key.eq]),get_put1,if_neg (by simp[Key.eq]),get_put1,if_neg (by simp[Key.eq])];exact hy)
 ·rw[get_put1,if_neg (by simp[Key.eq]),get_put1,if_neg (by simp[Key.eq])] at hy
  exact h'.ok k d (by rw[get_put1,if_neg (by simp[Key.eq]),get_put1,if_neg (by simp[Key.eq]),get_put1,if_neg (by simp[Key.eq])];exact hy)
theorem St.freeze (h:St cx Fr m Im w a σ){g E n:Nat}{l:List (List D)}(hg:get σ (.r g)=some (.rp E n l)):
  ∃ Im',(∀ b o,Im b o→Im' b o)∧St cx Fr m Im' w a (put1 (.r g) (.rw E n l.length) σ)∧∀ x,Rel m Im w x (.ps g l.length)→Rel m Im' w x (.sl n l (some g)):=by
 obtain⟨R,hR,hro⟩:=h.ro g _ hg
 cases hro with
 | rp _ xs hl hn hown h1 hrr hni=>
 have hi:∀ b o,Im b o→Im b o∨(R.hv.ownBlock=some b∧o<R.len * R.n):=fun _ _ h=>.inl h
 have hmono:∀ {x d},Rel m Im w x d→Rel m (fun b o=>Im b o∨(R.hv.ownBlock=some b∧o<R.len * R.n)) w x d:=fun hx=>hx.mono (Mp.le.refl m) (KeepI.refl _ _) hi
 have hcell:∀ b o,R.hv.ownBlock=some b→o<R.len * R.n→∃ v,xs[o]?=some v∧w.cell? ⟨b,o,none⟩=some v:=fun b o hb ho=>by
  have hlt:o<xs.length:=by rw[hown.1];exact ho
  have:=hown.cells hb o _ (List.getElem?_eq_getElem hlt)
  rw[addr_add0] at this
  exact⟨_,List.getElem?_eq_getElem hlt,this⟩
 refine⟨fun b o=>Im b o∨(R.hv.ownBlock=some b∧o<R.len * R.n),hi,?_,fun x hx=>?_⟩
 ·have hs:St cx Fr m (fun b o=>Im b o∨(R.hv.ownBlock=some b∧o<R.len * R.n)) w a (σ.filter fun p=>!Key.eq (.r g) p.1):=by
   have hf:∀ k d,get (σ.filter fun p=>!Key.eq (.r g) p.1) k=some d→Key.eq (.r g) k=false∧get σ k=some d:=fun k d hk=>by
    rw[get_filter (fun k=>!Key.eq (.r g) k)] at hk
    split at hk
    ·rename_i e;exact⟨by simpa using e,hk⟩
    ·cases hk
   refine⟨{ h.mem with im:=?_,imb:=?_,im0:=?_,nim:=?_,rIm:=?_,onim:=?_ },h.df,h.nt,fun x d hx=>hmono (h.tm x d (hf _ _ hx).2),fun k off d hx=>?_,fun x d hx=>?_,fun d hd=>?_,fun k d hx=>?_⟩
   ·rintro b o (hh | ⟨hb,ho⟩)
    ·exact h.mem.im b o hh
    ·obtain⟨v,_,hv⟩:=hcell b o hb ho;exact⟨v,hv⟩
   ·rintro b o (hh | ⟨hb,ho⟩)
    ·exact h.mem.imb b o hh
    ·exact .inr (h.mem.rown g R b hR hb)
   ·intro b o hh;exact .inl (h.mem.im0 b o hh)
   ·rintro k b o hk (hh | ⟨hb,ho⟩)
    ·exact h.mem.nim k b o hk hh
    ·exact h.mem.rblk g R b k hR hb hk
   ·rintro x R0 b o hx hb0 (hh | ⟨hb,ho⟩)
    ·exact h.mem.rIm x R0 b o hx hb0 hh
    ·have:=h.mem.rinj x g R0 R b hx hR hb0 hb
     subst this
     rw[hR] at hx;cases hx;exact ho
   ·rintro k b o hk (hh | ⟨hb,ho⟩)
    ·exact h.mem.onim k b o hk hh
    ·exact h.mem.orow k g R b hk hR hb
   ·obtain⟨b,v,q1,q2,q3⟩:=h.ce k off d (hf _ _ hx).2
    exact⟨b,v,q1,q2,hmono q3⟩
   ·obtain⟨e,hx⟩:=hf _ _ hx
    obtain⟨R0,q1,q2⟩:=h.ro x d hx
    have hne:x≠g:=fun e2=>by subst e2;rw[Key.eq_refl] at e;cases e
    refine⟨R0,q1,q2.mono (fun _ _=>rfl) (Mp.le.refl m) (KeepI.refl _ _) hi ?_⟩
    rintro b o hb0 (hh | ⟨hb,ho⟩)
    ·exact hh
    ·exact absurd (h.mem.rinj x g R0 R b q1 hR hb0 hb) hne
   ·obtain⟨X,J,e,hX⟩:=h.jk d (hf _ _ hd).2
    refine⟨X,J,e,{ hX with nim:=?_ }⟩
    rintro b o hb (hh | ⟨hb2,ho⟩)
    ·exact hX.nim b o hb hh
    ·exact hX.row b g R hb hR hb2
   ·obtain⟨b,q1,q2⟩:=h.ok k d (hf _ _ hx).2
    exact⟨b,q1,q2.mono rfl (Mp.le.refl m) (KeepI.refl _ _) hi⟩
  have h2:=hs.putro hR (RoOk.rw (m:=m) (Im:=fun b o=>Im b o∨(R.hv.ownBlock=some b∧o<R.len * R.n)) (w:=w) (R:=R))
  rw[hl]
  refine h2.sub fun k d hk=>?_
  rw[get_put1] at hk ⊢
  split
  ·rename_i e;rw[if_pos e] at hk;exact hk
  ·rename_i e;rw[if_neg e] at hk
   rw[get_filter (fun k=>!Key.eq (.r g) k),if_pos (by simpa using e)];exact hk
 ·cases hx with
  | ps a0 c0 _ _ ha _ hh=>
  obtain⟨R0,p1,p2,p3⟩:=hh
  rw[hR] at p1;cases p1
  have hv:=p3 hl
  have hc:l.length≤maxLen∧l.length≤c0:=by
   rcases hown.2 with⟨e,h0⟩ | ⟨g',cap,cur,e,_,_,hnc,hcm,_⟩
   ·rw[hl,h0];omega
   ·rw[e] at hv;injection hv with _ _ q;rw[hl,←q];exact⟨by omega,hnc⟩
  have hij:∀ i j,i<l.length→j<R.n→i * R.n+j<R.len * R.n:=fun i j hi2 hj=>by
   have:(i+1) * R.n≤R.len * R.n:=Nat.mul_le_mul_right _ (by omega)
   rw[Nat.succ_mul] at this;omega
  have hgd:∀ i j,i<l.length→j<R.n→xs[i * R.n+j]?=some (xs.getD (i * R.n+j) undef):=fun i j hi2 hj=>by
   have:i * R.n+j<xs.length:=by rw[hown.1];exact hij i j hi2 hj
   rw[List.getD_eq_getElem?_getD,List.getElem?_eq_getElem this];rfl
  obtain⟨bl,hbl⟩:∃ bl,0<l.length→a0=some ⟨bl,0,none⟩:=by
   by_cases h0:0<l.length
   ·obtain⟨b,hb⟩:=ha h0;exact⟨b,fun _=>hb⟩
   ·exact⟨0,fun h=>absurd h h0⟩
  have hob:0<l.length→R.hv.ownBlock=some bl:=fun h0=>by rw[hv,hbl h0];rfl
  refine .sl a0 c0 bl 0 R.n (fun i j=>xs.getD (i * R.n+j) undef) l (some g) hc hbl (fun i j hi2 hj=>?_) hn (fun i j hi2 hj=>?_) (fun i hi2 j hj=>?_) fun r e=>?_
  ·have h0:=hob (by omega)
   obtain⟨v,q1,q2⟩:=hcell bl _ h0 (hij i j hi2 hj)
   rw[hgd i j hi2 hj] at q1;cases q1
   rw[Nat.zero_add]
   exact⟨q2,.inr ⟨h0,hij i j hi2 hj⟩⟩
  ·exact h1 _ (List.mem_of_getElem? (hgd i j hi2 hj))
  ·exact hmono (hrr i hi2 j hj)
  ·cases e;exact⟨R,hR,by omega,fun _=>hv⟩
theorem dw_freeze {c:Code}{x g E n len:Nat}{l:List (List D)}(hx:get σ (.t x)=some (.ps g len))(hg:get σ (.r g)=some (.rp E n l))(hl:l.length=len)(h:DW P cx c (put1 (.t x) (.sl n l (some g)) (put1 (.r g) (.rw E n l.length) σ)) N Q):DW P cx c σ N Q:=fun m Im w a hs=>by
 obtain⟨Im',hi,h2,h3⟩:=hs.freeze hg
 subst hl
 have hr:=h3 _ (hs.tm x _ hx)
 refine h m Im' w a { h2 with tm:=fun y d hy=>?_,ce:=fun k off d hy=>?_,ro:=fun k d hy=>?_,jk:=fun d hy=>?_,ok:=fun k d hy=>?_ }
 ·rw[get_put1] at hy
  by_cases e:Key.eq (.t x) (.t y)=true
  ·rw[if_pos e] at hy
   have:=Key.eq_iff.1 e;cases this
   cases hy;exact hr
  ·rw[if_neg e] at hy
   exact h2.tm y d hy
 ·rw[get_put1,if_neg (by simp[Key.eq])] at hy;exact h2.ce k off d hy
 ·rw[get_put1,if_neg (by simp[Key.eq])] at hy;exact h2.ro k d hy
 ·rw[get_put1,if_neg (by simp[Key.eq])] at hy;exact h2.jk d hy
 ·rw[get_put1,if_neg (by simp[Key.eq])] at hy;exact h2.ok k d hy
theorem cut_any (m m':Mp):(m.cut (fun _=>false) noR).le m':=⟨fun k b h=>by simp[Mp.cut] at h,fun g R h=>by simp[Mp.cut,noR] at h,fun k b h=>by simp[Mp.cut] at h⟩
theorem St.adopt {cx':Cx}{a':Act}(hs:St cx Fr m Im w a σ){nm:Nat}(hnm:Fr nm)(hs':St cx' Fr' m' Im' w' a' σ')(c3:cx'.w0=w)(c4:∀ b,¬ cx'.C b)(c5:cx'.Im0=Im){g:Nat}{R:RowM}{d:D}(hR:m'.row g=some R)(hro:RoOk m' Im' w' R d)(hd:d.ok (fun _=>false) noR=true):
  St cx (minus Fr nm) (m.setR nm R) Im' w' a (put1 (.r nm) d σ)∧m.le (m.setR nm R)∧KeepI Im w w'∧∀ b o,Im b o→Im' b o:=by
 have hbl:Below w.heap.size w w':=by
  have ho:=hs'.mem.off
  rw[c3] at ho
  exact⟨ho.os,ho.tape,ho.output,ho.size,fun b hb=>ho.block b hb (c4 b)⟩
 have hi:∀ b o,Im b o→Im' b o:=fun b o h=>hs'.mem.im0 b o (by rw[c5];exact h)
 have hib:∀ b o,Im' b o→Im b o∨w.heap.size≤b:=fun b o h=>by
  rcases hs'.mem.imb b o h with h1 | h1 | h1
  ·left;rw[c5] at h1;exact h1
  ·right;rw[c3] at h1;exact h1
  ·exact absurd (cx'.hCR b h1) (c4 b)
 have h1:=hs.below hbl hi hib hs'.mem.im
 have hle:m.le (m.setR nm R):=Mp.setR_le fun R0 h0=>by rw[(hs.mem.fr nm hnm).2.1] at h0;cases h0
 have hnew:∀ b,R.hv.ownBlock=some b→w.heap.size≤b:=fun b hb=>by
  rcases hs'.mem.rown g R b hR hb with h1 | h1
  ·rw[c3] at h1;exact h1
  ·exact absurd (cx'.hCR b h1) (c4 b)
 have hcase:∀ {x R0},(m.setR nm R).row x=some R0→(x=nm∧R0=R)∨(x≠nm∧m.row x=some R0):=fun {x R0} hx=>by
  by_cases e:x=nm
  ·left;simp[Mp.setR,e] at hx;exact⟨e,hx.symm⟩
  ·right;simp[Mp.setR,e] at hx;exact⟨e,hx⟩
 have hro2:RoOk (m.setR nm R) Im' w' R d:=(hro.cut hd).mono (fun _ _=>rfl) (cut_any _ _) (KeepI.refl _ _) (fun _ _ h=>h) fun _ _ _ h=>h
 refine⟨?_,hle,KeepI.below hbl,hi⟩
 refine⟨{ h1.mem with row:=?_,rIm:=?_,rblk:=?_,rinj:=?_,fr:=?_,rown:=?_,m0r:=hs.mem.m0r_le hle,orow:=?_ },h1.df,h1.nt,fun x d hx=>(h1.tm x d (by rw[get_put1,if_neg (by simp[Key.eq])] at hx;exact hx)).mono hle (KeepI.refl _ _) (fun _ _ h=>h),fun x off d hx=>?_,fun x d hx=>?_,fun d hd=>?_,fun x d hd=>?_⟩
 ·intro x R0 hx
  rcases hcase hx with⟨_,rfl⟩ | ⟨_,hx⟩
  ·exact hs'.mem.row g R0 hR
  ·exact h1.mem.row x R0 hx
 ·intro x R0 b o hx
  rcases hcase hx with⟨_,rfl⟩ | ⟨_,hx⟩
  ·exact hs'.mem.rIm g R0 b o hR
  ·exact h1.mem.rIm x R0 b o hx
 ·intro x R0 b k hx
  rcases hcase hx with⟨_,rfl⟩ | ⟨_,hx⟩
  ·intro e hk;have:=hs.mem.lt k _ hk;have:=hnew b e;omega
  ·exact h1.mem.rblk x R0 b k hx
 ·intro x y R0 R1 b hx hy ho ho'
  rcases hcase hx with⟨e1,e2⟩ | ⟨_,hx⟩ <;> rcases hcase hy with⟨e3,e4⟩ | ⟨_,hy⟩
  ·rw[e1,e3]
  ·rw[e2] at ho;have:=hnew b ho;have:=hs.mem.rlt hy ho';omega
  ·rw[e4] at ho';have:=hnew b ho';have:=hs.mem.rlt hx ho;omega
  ·exact h1.mem.rinj x y R0 R1 b hx hy ho ho'
 ·intro x hx;refine⟨(hs.mem.fr x hx.1).1,?_,(hs.mem.fr x hx.1).2.2⟩;simp[Mp.setR,hx.2,(hs.mem.fr x hx.1).2.1]
 ·intro x y R0 b hx hy
  rcases hcase hy with⟨_,rfl⟩ | ⟨_,hy⟩
  ·intro e;have:=hs.mem.olt x _ hx;have:=hnew b e;omega
  ·exact h1.mem.orow x y R0 b hx hy
 ·intro x R0 b hx ho
  rcases hcase hx with⟨_,rfl⟩ | ⟨_,hx⟩
  ·exact .inl (Nat.le_trans hs.mem.off.size (hnew b ho))
  ·exact h1.mem.rown x R0 b hx ho
 ·rw[get_put1,if_neg (by simp[Key.eq])] at hx
  obtain⟨c,v,q1,q2,q3⟩:=h1.ce x off d hx
  exact⟨c,v,q1,q2,q3.mono hle (KeepI.refl _ _) (fun _ _ h=>h)⟩
 ·rw[get_put1] at hx
  by_cases he:Key.eq (.r nm) (.r x)=true
  ·rw[if_pos he] at hx
   cases hx
   have:=Key.eq_iff.1 he
   cases this
   exact⟨R,by simp[Mp.setR],hro2⟩
  ·rw[if_neg he] at hx
   obtain⟨R0,q1,q2⟩:=h1.ro x d hx
   have hne:x≠nm:=fun e=>he (by rw[e];exact Key.eq_refl _)
   exact⟨R0,by simp[Mp.setR,hne,q1],q2.mono (fun _ _=>rfl) hle (KeepI.refl _ _) (fun _ _ h=>h) fun _ _ _ h=>h⟩
 ·rw[get_put1,if_neg (by simp[Key.eq])] at hd
  obtain⟨X,J,e,hX⟩:=h1.jk d hd
  obtain⟨X0,J0,e0,hX0⟩:=hs.jk d hd
  rw[e] at e0;cases e0
  refine⟨X,J,e,{ hX with row:=fun b x R0 hb hx ho=>?_ }⟩
  rcases hcase hx with⟨_,rfl⟩ | ⟨_,hx⟩
  ·have:=hX0.lt b hb;have:=hnew b ho;omega
  ·exact hX.row b x R0 hb hx ho
 ·rw[get_put1,if_neg (by simp[Key.eq])] at hd
  obtain⟨b,q1,q2⟩:=h1.ok x d hd
  exact⟨b,q1,q2.mono rfl hle (KeepI.refl _ _) fun _ _ h=>h⟩
theorem callRow_of_dw {f:FuncId}{fn:Func}{c:Code}{args:List D}{n E len:Nat}{l:List (List D)}(nt:Nat)(rs:List ResultVar)(hT:TabOk P T)(hen:entersB P f=true)(hf:P.funcs[f]?=some fn)(hb:fn.body=some c)(hnt:fn.ntmps=nt)(hrs:fn.results.toList=rs) 
  (hal:args.length≤nt) (ha:args.all (fun d=>d.ok (fun _=>false) noR)=true) (hlo:D.okss (fun _=>false) noR l=true)
  (h:∀ cx:Cx,cx.nt=nt→cx.n0=0→DW P cx c (argsT 0 args []) 0 (fun e σ _=>(e=.normal∨e=.ret)∧∃ g,resD T σ rs=some (.sl n l (some g))∧get σ (.r g)=some (.rw E n len))) (nm:Nat) :
  CallN P f args [] nm [(.r nm,.rw E n len)] (.sl n l (some nm)):=by
 refine⟨hen,fun cx Fr m Im w a σ vs hnm hs hargs _=>?_⟩
 refine calls_of_wp hf hb ?_
 obtain⟨cx',c1,c2,c3,c4,c5,hst⟩:=entry0 hs.mem hargs ha nt hal hnt
 refine Code.wp_mono (fun e a' w' ⟨σ',N',m',Im',⟨hq1,g,hq2,hq3⟩,hs'⟩=>?_) (h cx' c1 c2 _ Im w _ hst)
 obtain⟨v,r1,r2⟩:=resD_run (P:=P) (fn:=fn) hT hs' (by rw[hrs];exact hq2)
 obtain⟨R,hR,hro⟩:=hs'.ro g _ hq3
 obtain⟨s1,s2,s3,s4⟩:=hs.adopt hnm hs' c3 c4 c5 hR hro rfl
 have hv:Rel (m.setR nm R) Im' w' v (.sl n l (some nm)):=by
  cases r2 with
  | sl a0 c0 bl off n X l r h1 ha hc hn ho hr hg=>
   refine .sl a0 c0 bl off n X l (some nm) h1 ha hc hn ho (fun i hi j hj=>((hr i hi j hj).cut (D.oks_get (D.okss_get hlo i hi) j hj)).mono (cut_any _ _) (KeepI.refl _ _) fun _ _ h=>h) fun r e=>?_
   cases e
   obtain⟨R0,q1,q2,q3⟩:=hg g rfl
   rw[hR] at q1;cases q1
   exact⟨R,by simp[Mp.setR],q2,q3⟩
 have hfin:∃ v' m2 Im2,Ending.returned v=.returned v'∧St cx (minus Fr nm) m2 Im2 w' a (puts (dropT [] σ) [(.r nm,.rw E n len)])∧Rel m2 Im2 w' v' (.sl n l (some nm)):=by
  rw[dropT_nil]
  exact⟨v,_,Im',rfl,s1,hv⟩
 rcases hq1 with rfl | rfl
 ·exact⟨hs'.df,v,r1,hfin⟩
 ·exact⟨hs'.df,v,r1,hfin⟩
end
namespace So
variable {α:Type} {l l' r r':List (Int×α)}
def Srt (l:List (Int×α)):Prop:=l.Pairwise fun a b=>a.1≤b.1
def Same (l l':List (Int×α)):Prop:=∀ k:Int,l.filter (fun a=>a.1==k)=l'.filter (fun a=>a.1==k)
theorem Same.refl (l:List (Int×α)):Same l l:=fun _=>rfl
theorem Same.symm (h:Same l l'):Same l' l:=fun k=>(h k).symm
theorem Same.trans {l'':List (Int×α)}(h:Same l l')(h':Same l' l''):Same l l'':=fun k=>(h k).trans (h' k)
theorem Same.app (h:Same l l')(h':Same r r'):Same (l++r) (l'++r'):=fun k=>by rw[List.filter_append,List.filter_append,h k,h' k]
theorem Same.mem (h:Same l l'){x:Int×α}(hx:x∈l):x∈l':=by
 have:x∈l.filter (fun a=>a.1==x.1):=List.mem_filter.2 ⟨hx,by simp⟩
 rw[h x.1] at this
 exact(List.mem_filter.1 this).1
theorem Same.swap (h:∀ x∈l,∀ y∈r,x.1≠y.1):Same (l++r) (r++l):=fun k=>by
 rw[List.filter_append,List.filter_append]
 by_cases hl:l.filter (fun a=>a.1==k)=[]
 ·rw[hl];simp
 ·have hr:r.filter (fun a=>a.1==k)=[]:=by
   rw[List.filter_eq_nil_iff]
   intro y hy e
   obtain⟨x,hx⟩:=List.exists_mem_of_ne_nil _ hl
   have hx:=List.mem_filter.1 hx
   exact h x hx.1 y hy (by have e1:=hx.2;simp at e1 e;omega)
  rw[hr];simp
theorem srt_app:Srt (l++r)↔Srt l∧Srt r∧∀ a∈l,∀ b∈r,a.1≤b.1:=List.pairwise_append
theorem srt_nil:Srt ([]:List (Int×α)):=List.Pairwise.nil
theorem srt_one (x:Int×α):Srt [x]:=List.pairwise_singleton _ _
theorem uniq:∀ {l l':List (Int×α)},Srt l→Srt l'→Same l l'→l=l'
 | [],[],_,_,_=>rfl
 | [],y :: s,_,_,h=>by have:=h.symm.mem (x:=y) (by simp);cases this
 | x :: t,[],_,_,h=>by have:=h.mem (x:=x) (by simp);cases this
 | x :: t,y :: s,h1,h2,h=>by
  have a1:=List.pairwise_cons.1 h1
  have a2:=List.pairwise_cons.1 h2
  have e1:x.1≤y.1:=by
   rcases List.mem_cons.1 (h.symm.mem (x:=y) (by simp)) with e | e
   ·rw[e];exact Int.le_refl _
   ·exact a1.1 y e
  have e2:y.1≤x.1:=by
   rcases List.mem_cons.1 (h.mem (x:=x) (by simp)) with e | e
   ·rw[e];exact Int.le_refl _
   ·exact a2.1 x e
  have e3:y.1=x.1:=by omega
  have hx:=h x.1
  rw[List.filter_cons,List.filter_cons,if_pos (by simp),if_pos (by simp[e3])] at hx
  injection hx with q1 q2
  subst q1
  rw[uniq a1.2 a2.2 fun k=>by
   have hk:=h k
   rw[List.filter_cons,List.filter_cons] at hk
   split at hk
   ·injection hk
   ·exact hk]
def ins (x:Int×α):List (Int×α)→List (Int×α)
 | []=>[x]
 | y :: l=>if y.1≤x.1 then y :: ins x l else x :: y :: l
def ssr:List (Int×α)→List (Int×α)
 | []=>[]
 | x :: l=>ins x (ssr l)
def ss (l:List (Int×α)):List (Int×α):=ssr l.reverse
theorem ins_mem {x y:Int×α}:∀ {l:List (Int×α)},y∈ins x l↔y=x∨y∈l
 | []=>by simp[ins]
 | z :: l=>by
  rw[ins]
  split
  ·simp only[List.mem_cons,ins_mem (l:=l)]
   constructor
   ·rintro(h | h | h)
    ·exact .inr (.inl h)
    ·exact .inl h
    ·exact .inr (.inr h)
   ·rintro(h | h | h)
    ·exact .inr (.inl h)
    ·exact .inl h
    ·exact .inr (.inr h)
  ·simp only[List.mem_cons]
theorem ins_len (x:Int×α):∀ l:List (Int×α),(ins x l).length=l.length+1
 | []=>rfl
 | z :: l=>by rw[ins];split <;> simp[ins_len x l]
theorem ins_srt (x:Int×α):∀ {l:List (Int×α)},Srt l→Srt (ins x l)
 | [],_=>srt_one x
 | z :: l,h=>by
  have a:=List.pairwise_cons.1 h
  rw[ins]
  split
  ·rename_i hz
   refine List.pairwise_cons.2 ⟨fun y hy=>?_,ins_srt x a.2⟩
   rcases ins_mem.1 hy with rfl | hy
   ·exact hz
   ·exact a.1 y hy
  ·rename_i hz
   refine List.pairwise_cons.2 ⟨fun y hy=>?_,h⟩
   rcases List.mem_cons.1 hy with rfl | hy
   ·omega
   ·have:=a.1 y hy;omega
theorem ins_same (x:Int×α):∀ {l:List (Int×α)},Srt l→Same (ins x l) (l++[x])
 | [],_=>Same.refl _
 | z :: l,h=>by
  have a:=List.pairwise_cons.1 h
  rw[ins]
  split
  ·exact Same.app (l:=[z]) (l':=[z]) (Same.refl _) (ins_same x a.2)
  ·rename_i hz
   refine Same.swap (l:=[x]) (r:=z :: l) fun u hu y hy=>?_
   rw[List.mem_singleton] at hu
   subst hu
   rcases List.mem_cons.1 hy with rfl | hy
   ·omega
   ·have:=a.1 y hy;omega
theorem ssr_srt:∀ l:List (Int×α),Srt (ssr l)
 | []=>srt_nil
 | x :: l=>ins_srt x (ssr_srt l)
theorem ssr_same:∀ l:List (Int×α),Same (ssr l) l.reverse
 | []=>Same.refl _
 | x :: l=>by
  rw[ssr,List.reverse_cons]
  exact(ins_same x (ssr_srt l)).trans ((ssr_same l).app (Same.refl _))
theorem ssr_len:∀ l:List (Int×α),(ssr l).length=l.length
 | []=>rfl
 | x :: l=>by rw[ssr,ins_len,ssr_len l];rfl
theorem ss_srt (l:List (Int×α)):Srt (ss l):=ssr_srt _
theorem ss_same (l:List (Int×α)):Same (ss l) l:=by
 have:=ssr_same l.reverse
 rwa [List.reverse_reverse] at this
theorem ss_len (l:List (Int×α)):(ss l).length=l.length:=by rw[ss,ssr_len,List.length_reverse]
theorem ss_eq (h:Srt l')(h2:Same l' l):ss l=l':=uniq (ss_srt l) h ((ss_same l).trans h2.symm)
theorem ss_self (h:Srt l):ss l=l:=ss_eq h (Same.refl _)
theorem ss_one (x:Int×α):ss [x]=[x]:=ss_self (srt_one x)
theorem ss_snoc {X S1 S2:List (Int×α)}{x:Int×α}(h:S1++S2=ss X)(h1:∀ s∈S1,s.1≤x.1)(h2:∀ s∈S2,x.1<s.1):ss (X++[x])=S1++x :: S2:=by
 have hs:=ss_srt X
 rw[←h] at hs
 have a:=srt_app.1 hs
 refine ss_eq (srt_app.2 ⟨a.1,List.pairwise_cons.2 ⟨fun s hs=>Int.le_of_lt (h2 s hs),a.2.1⟩,fun s hs y hy=>?_⟩) ?_
 ·rcases List.mem_cons.1 hy with rfl | hy
  ·exact h1 s hs
  ·exact a.2.2 s hs y hy
 ·refine Same.trans (l':=(S1++S2)++[x]) ?_ ?_
  ·rw[List.append_assoc]
   refine(Same.refl S1).app (Same.swap (l:=[x]) (r:=S2) fun u hu y hy=>?_)
   rw[List.mem_singleton] at hu
   subst hu
   have:=h2 y hy;omega
  ·rw[h];exact(ss_same X).app (Same.refl _)
theorem ss_cut {X1 X2 Y1 Y2:List (Int×α)}(hX:Srt (X1++X2))(hY:Srt (Y1++Y2))(h1:∀ x∈X1,∀ y∈Y2,x.1≤y.1)(h2:∀ y∈Y1,∀ x∈X2,y.1<x.1):ss (X1++X2++(Y1++Y2))=ss (X1++Y1)++ss (X2++Y2):=by
 have a:=srt_app.1 hX
 have b:=srt_app.1 hY
 refine ss_eq (srt_app.2 ⟨ss_srt _,ss_srt _,fun x hx y hy=>?_⟩) ?_
 ·rcases List.mem_append.1 ((ss_same _).mem hx) with hx | hx <;> rcases List.mem_append.1 ((ss_same _).mem hy) with hy | hy
  ·exact a.2.2 x hx y hy
  ·exact h1 x hx y hy
  ·exact Int.le_of_lt (h2 x hx y hy)
  ·exact b.2.2 x hx y hy
 ·refine((ss_same _).app (ss_same _)).trans ?_
  rw[List.append_assoc,List.append_assoc]
  refine(Same.refl X1).app ?_
  rw[←List.append_assoc,←List.append_assoc]
  refine Same.app ?_ (Same.refl Y2)
  exact Same.swap fun y hy x hx=>by have:=h2 y hy x hx;omega
inductive Ch (s:Nat):List (Int×α)→Prop where
 | last (l:List (Int×α)) (h:l.length≤s) (hs:Srt l):Ch s l
 | cons (c l:List (Int×α)) (hc:c.length=s) (hs:Srt c) (h:Ch s l):Ch s (c++l)
inductive Fu (s:Nat):List (Int×α)→Prop where
 | nil:Fu s []
 | cons (c l:List (Int×α)) (hc:c.length=s) (hs:Srt c) (h:Fu s l):Fu s (c++l)
theorem Fu.snoc {s:Nat}{P c:List (Int×α)}(h:Fu s P)(hc:c.length=s)(hs:Srt c):Fu s (P++c):=by
 induction h with
 | nil=>have:=Fu.cons c [] hc hs .nil;simpa using this
 | cons d l hd hsd h ih=>rw[List.append_assoc];exact .cons d _ hd hsd ih
theorem Fu.ch {s:Nat}{P Q:List (Int×α)}(h:Fu s P)(hQ:Ch s Q):Ch s (P++Q):=by
 induction h with
 | nil=>exact hQ
 | cons d l hd hsd h ih=>rw[List.append_assoc];exact .cons d _ hd hsd ih
theorem Ch.more {s:Nat}{Q:List (Int×α)}(h:Ch s Q)(hl:s<Q.length):∃ c l,Q=c++l∧c.length=s∧Srt c∧Ch s l:=by
 cases h with
 | last l h hs=>omega
 | cons c l hc hs h=>exact⟨c,l,rfl,hc,hs,h⟩
theorem Ch.one {s:Nat}{Q:List (Int×α)}(h:Ch s Q)(hl:Q.length≤s)(hs:0<s):Srt Q:=by
 cases h with
 | last l h hs=>exact hs
 | cons c l hc hsc h=>
  have:l=[]:=List.length_eq_zero_iff.1 (by simp at hl;omega)
  subst this;simpa using hsc
end So
namespace Pn
abbrev Spot:=Tm×List Ty×List Int
mutual
def subs:Tm→List Ty→List Int→List Spot
 | .mk bs k i a,ar,p=>(.mk bs k i a,ar++bs,p) :: subss a (ar++bs) p 0
def subss:List Tm→List Ty→List Int→Nat→List Spot
 | [],_,_,_=>[]
 | t :: l,ar,p,j=>subs t ar (p++[(j:Int)])++subss l ar p (j+1)
end
mutual
def rigB:Tm→Tm→Bool
 | .mk bs k i a,t=>decide (bs=t.binds)&&(decide (k=2)||((decide (k=t.kind)&&decide (i=t.index))&&(decide (a.length=t.args.length)&&rigBs a t.args)))
def rigBs:List Tm→List Tm→Bool
 | [],_=>true
 | p :: l,ts=>rigB p (ts.headD Tm.zero)&&rigBs l ts.tail
end
/-! several at once -/
def mayAll:List (Tm×Tm)→Int
 | []=>0
 | p :: l=>if may p.1=0 then mayAll l else may p.1
def walkL:List (Tm×Tm)→Bd→Option Bd
 | [],b=>some b
 | p :: l,b=>if (walk p.1 p.2 [] b).1 then walkL l (walk p.1 p.2 [] b).2 else none
def mAll (l:List (Tm×Tm)):Bd×Int:=if mayAll l=0 then (match walkL l [] with | some b=>(So.ss b,0) | none=>([],9)) else ([],mayAll l)
end Pn
def TSO_3:TI:=⟨1,false,[Value.int IntKind.i64 0],[],none,8,2,none,false⟩
theorem TSO_3_ok:TypOk Tryz.prog 3 TSO_3:=by constructor <;> kernel_rfl
def TSO_50:TI:=⟨1,false,[Value.slice none 0 0],[],some 79,24,5,none,false⟩
theorem TSO_50_ok:TypOk Tryz.prog 50 TSO_50:=by constructor <;> kernel_rfl
def TSO_79:TI:=⟨5,true,[Value.int IntKind.i64 0,Value.slice none 0 0,Value.int IntKind.i64 0,Value.int IntKind.i64 0,Value.slice none 0 0],[(0,1,false),(1,4,true)],none,72,6,none,false⟩
theorem TSO_79_ok:TypOk Tryz.prog 79 TSO_79:=by constructor <;> kernel_rfl
def TSO_222:TI:=⟨1,false,[Value.int IntKind.u64 0],[],none,8,2,none,false⟩
theorem TSO_222_ok:TypOk Tryz.prog 222 TSO_222:=by constructor <;> kernel_rfl
def TSO_204:TI:=⟨1,false,[Value.nilFunc],[],none,8,8,none,false⟩
theorem TSO_204_ok:TypOk Tryz.prog 204 TSO_204:=by constructor <;> kernel_rfl
def TSO_51:TI:=⟨1,false,[Value.slice none 0 0],[],some 79,24,5,none,false⟩
theorem TSO_51_ok:TypOk Tryz.prog 51 TSO_51:=by constructor <;> kernel_rfl
def TSO:List (Nat×TI):=[(3,TSO_3),(50,TSO_50),(79,TSO_79),(222,TSO_222),(204,TSO_204),(51,TSO_51)]
theorem TSO_ok:TabOk Tryz.prog TSO:=(((((((TabOk.nil _).cons TSO_51_ok).cons TSO_204_ok).cons TSO_222_ok).cons TSO_79_ok).cons TSO_50_ok).cons TSO_3_ok)
theorem at_ {α:Type}{P R L:List α}{x:α}{i:Nat}(h:L=P++x :: R)(hi:P.length=i):L[i]?=some x:=by subst h;subst hi;simp
theorem pl_ok {L:List (Int×Tm)}{n i:Nat}{x:Int×Tm}(hn:L.length=n)(h:L[i]?=some x):(ePairs L).length=n∧i<n∧((ePairs L).getD i []).length=5:=by
 have hi:i<L.length:=by
  rcases Nat.lt_or_ge i L.length with h' | h'
  ·exact h'
  ·rw[List.getElem?_eq_none h'] at h;cases h
 exact⟨by rw[ePairs_len,hn],by omega,by rw[ePairs_getD L i hi,ePair_eq];rfl⟩
theorem pl_eq {L:List (Int×Tm)}{i:Nat}{x:Int×Tm}(h:L[i]?=some x):VLe (.ag ((ePairs L).getD i [])) (.ag [.v (.int .i64 x.1),.sl 2 (eTys x.2.binds) none,.v (.int .i64 x.2.kind),.v (.int .i64 x.2.index),.sl 4 (eTms x.2.args) none]):=by
 have hi:i<L.length:=by
  rcases Nat.lt_or_ge i L.length with h' | h'
  ·exact h'
  ·rw[List.getElem?_eq_none h'] at h;cases h
 rw[List.getElem?_eq_getElem hi] at h
 cases h
 exact VLe.of_eq (by rw[ePairs_getD L i hi,ePair_eq])
theorem pl_lt {α:Type}{L:List α}{n i:Nat}{x:α}(hn:L.length=n)(h:L[i]?=some x):i<n:=by
 rcases Nat.lt_or_ge i L.length with h' | h'
 ·omega
 ·rw[List.getElem?_eq_none h'] at h;cases h
theorem rowPut5 (r:List D)(a b c d e:D):rowPut r 0 5 [a,b,c,d,e]=[a,b,c,d,e]:=if_pos ⟨rfl,rfl⟩
theorem eP_set (L:List (Int×Tm))(i:Nat)(x:Int×Tm)(r:List D):(ePairs L).set i (rowPut r 0 5 [.v (.int .i64 x.1),.sl 2 (eTys x.2.binds) none,.v (.int .i64 x.2.kind),.v (.int .i64 x.2.index),.sl 4 (eTms x.2.args) none])=ePairs (L.set i x):=by
 rw[rowPut5,←ePair_eq,ePairs,ePairs,List.map_set]
theorem set_two {α:Type}{P Q R:List α}{x y:α}{i j:Nat}(hi:P.length=i)(hj:i+1+Q.length=j):((P++x :: (Q++y :: R)).set i y).set j x=P++y :: (Q++x :: R):=by
 subst hi hj
 rw[List.set_append_right _ _ (Nat.le_refl _),Nat.sub_self,List.set_cons_zero,List.set_append_right _ _ (by omega),show P.length+1+Q.length-P.length=Q.length+1 by omega,List.set_cons_succ,List.set_append_right _ _ (Nat.le_refl _),Nat.sub_self,List.set_cons_zero]
theorem eP_swap {P Q R L L':List (Int×Tm)}{x y:Int×Tm}{i j:Nat}(hL:L=P++x :: (Q++y :: R))(hi:P.length=i)(hj:i+1+Q.length=j)(hL':L'=P++y :: (Q++x :: R)):
  ((ePairs L).set i (rowPut ((ePairs L).getD i []) 0 5 [.v (.int .i64 y.1),.sl 2 (eTys y.2.binds) none,.v (.int .i64 y.2.kind),.v (.int .i64 y.2.index),.sl 4 (eTms y.2.args) none])).set j (rowPut (((ePairs L).set i (rowPut ((ePairs L).getD i []) 0 5 [.v (.int .i64 y.1),.sl 2 (eTys y.2.binds) none,.v (.int .i64 y.2.kind),.v (.int .i64 y.2.index),.sl 4 (eTms y.2.args) none])).getD j []) 0 5 [.v (.int .i64 x.1),.sl 2 (eTys x.2.binds) none,.v (.int .i64 x.2.kind),.v (.int .i64 x.2.index),.sl 4 (eTms x.2.args) none])=ePairs L':=by
 rw[eP_set,eP_set,hL,hL',set_two hi hj]
theorem eP_swap' {P Q R L L':List (Int×Tm)}{x y:Int×Tm}{i j:Nat}(hL:L=P++x :: (Q++y :: R))(hi:P.length=i)(hj:i+1+Q.length=j)(hL':L'=P++y :: (Q++x :: R)):
  ((ePairs L).set j (rowPut ((ePairs L).getD j []) 0 5 [.v (.int .i64 x.1),.sl 2 (eTys x.2.binds) none,.v (.int .i64 x.2.kind),.v (.int .i64 x.2.index),.sl 4 (eTms x.2.args) none])).set i (rowPut (((ePairs L).set j (rowPut ((ePairs L).getD j []) 0 5 [.v (.int .i64 x.1),.sl 2 (eTys x.2.binds) none,.v (.int .i64 x.2.kind),.v (.int .i64 x.2.index),.sl 4 (eTms x.2.args) none])).getD i []) 0 5 [.v (.int .i64 y.1),.sl 2 (eTys y.2.binds) none,.v (.int .i64 y.2.kind),.v (.int .i64 y.2.index),.sl 4 (eTms y.2.args) none])=ePairs L':=by
 rw[eP_set,eP_set,hL,hL',List.set_comm _ _ (by omega),set_two hi hj]
theorem st_ok {L:List (Int×Tm)}{n i:Nat}{x:Int×Tm}(hn:L.length=n)(h:L[i]?=some x):(ePairs L).length=n∧i<n:=⟨(pl_ok hn h).1,(pl_ok hn h).2.1⟩
theorem st_ok2 {L:List (Int×Tm)}{n i j:Nat}{x:Int×Tm}{r:List D}(hn:L.length=n)(h:L[i]?=some x):((ePairs L).set j r).length=n∧i<n:=⟨by rw[List.length_set];exact(pl_ok hn h).1,(pl_ok hn h).2.1⟩
theorem swapR_d (A U M V Z:List (Int×Tm))(n a b k:Nat)(hn:(A++U++M++V++Z).length=n)(ha:A.length=a)(hb:a+U.length+M.length=b)(hk:U.length=k)(hv:V.length=k)(hM:n≤1000000):
  CallG Tryz.prog 206 [.ps 0 n,.v (.int .i64 ↑a),.v (.int .i64 ↑b),.v (.int .i64 ↑k),.fn 113 []] [(.r 0,.rp 79 5 (ePairs (A++U++M++V++Z)))] [(.r 0,.rp 79 5 (ePairs (A++V++M++U++Z)))] (.tu []):=by
 refine callG_of_dw 1 38 [] TSO_ok (by kernel_rfl) Tryz.func206 rfl Tryz.ntmps206 rfl (by simp) ?dwords ?dbody
 case dwords=>simp[wordsG,rowN,rowsR,gkey,Key.eq,D.ok,D.oks,D.okss,rnames,inN,ckey,ePairs_ok]
 case dbody=>
  intro cx hnt hn0
  refine dw_seq ?_;refine dwk [] TSO_ok hnt fun _ z9=>z9 _ _ ?_;refine dw_block ?_
  refine dw_loop (ι:={ p:List (Int×Tm)×List (Int×Tm)×List (Int×Tm)×List (Int×Tm) // p.1++p.2.1=U∧p.2.2.1++p.2.2.2=V∧p.1.length=p.2.2.1.length }) (fun p=>[(.t 0,.ps 0 n),(.t 1,.v (.int .i64 ↑a)),(.t 2,.v (.int .i64 ↑b)),(.t 3,.v (.int .i64 ↑k)),(.t 10,.v (.int .i64 ↑p.1.1.length)),(.r 0,.rp 79 5 (ePairs (A++p.1.2.2.1++p.1.2.1++M++p.1.1++p.1.2.2.2++Z)))]) 1 (fun p=>p.1.2.1.length) (⟨([],U,[],V),rfl,rfl,rfl⟩) ((VS.toK (by omega) (by repeat first | exact trivial | refine And.intro (And.intro (by first | rfl | simp[D.ok,D.oks,D.okss,D.okm,upto,keyOk,argsT]) (by first | exact Or.inl rfl | exact Or.inr ⟨_,rfl,(by repeat first | exact VLe.refl _ | exact VLe.nil _ | exact VLe.untag _ _ _ | refine VLe.ag ?_ | refine VLe.tu ?_ | refine VLeL.cons ?_ ?_ | exact VLeL.nil),trivial⟩ | simp[get,Key.eq,argsT])) ?_))) fun j=>?_
  obtain⟨⟨U1,U2,V1,V2⟩,hU,hV,hl⟩:=j
  dsimp only at hU hV hl ⊢
  obtain⟨L,hL⟩:∃ L,A++V1++U2++M++U1++V2++Z=L:=⟨_,rfl⟩
  have hnL:L.length=n:=by rw[←hL,←hn,←hU,←hV];simp;omega
  rw[hL]
  have hUl:U1.length+U2.length=k:=by rw[←hk,←hU];simp
  have hVl:V1.length+V2.length=k:=by rw[←hv,←hV];simp
  cases U2 with
  | nil=>
   have h0:V2=[]:=List.length_eq_zero_iff.1 (by simp at hUl;omega)
   subst h0
   simp only[List.append_nil] at hU hV
   subst hU hV
   simp only[List.append_nil] at hL
   rw[←hL]
   refine dw_seq ?_;refine dw_seq ?_;refine dwk [(13,.v (.bool false))] TSO_ok hnt fun K hK=>?_;refine And.intro auF ?_;refine hK _ _ ?_;clear hK K;refine dw_cond (t:=false) rfl ?_;rw[if_neg (by simp)];refine dw_exit ?_
   exact reta rfl
  | cons x U2=>
   cases V2 with
   | nil=>simp at hUl hVl;omega
   | cons y V2=>
    simp at hUl hVl
    have hx:L[a+U1.length]?=some x:=at_ (P:=A++V1) (R:=U2++M++U1++y :: V2++Z) (by rw[←hL];simp) (by simp;omega)
    have hy:L[b+U1.length]?=some y:=at_ (P:=A++V1++x :: U2++M++U1) (R:=V2++Z) (by rw[←hL];simp) (by simp;omega)
    have lx:=pl_lt hnL hx
    have ly:=pl_lt hnL hy
    refine dw_seq ?_;refine dw_seq ?_;refine dwk [(13,.v (.bool true))] TSO_ok hnt fun K hK=>?_;refine And.intro auT ?_;refine hK _ _ ?_;clear hK K;refine dw_cond (t:=true) rfl ?_;rw[if_pos rfl];refine dw_skip ?_;refine dw_seq ?_;refine dw_block ?_;refine dwkD [(19,.v (.int .i64 (↑(a+U1.length)))),(23,.v (.int .i64 (↑(b+U1.length)))),(27,.v (.int .i64 (↑(b+U1.length)))),(28,.pr 0 n 5 ((b+U1.length)) 0),(29,.ag [.v (.int .i64 y.1),.sl 2 (eTys y.2.binds) none,.v (.int .i64 y.2.kind),.v (.int .i64 y.2.index),.sl 4 (eTms y.2.args) none]),(33,.v (.int .i64 (↑(a+U1.length)))),(34,.pr 0 n 5 ((a+U1.length)) 0),(35,.ag [.v (.int .i64 x.1),.sl 2 (eTys x.2.binds) none,.v (.int .i64 x.2.kind),.v (.int .i64 x.2.index),.sl 4 (eTms x.2.args) none]),(36,.pr 0 n 5 ((a+U1.length)) 0),(37,.pr 0 n 5 ((b+U1.length)) 0)] TSO_ok hnt fun K hK=>?_
    refine And.intro auI ?_;refine And.intro auI ?_;refine And.intro auI ?_;refine And.intro (by constructor <;> omega) ?_;refine And.intro (by first | rfl | exact VLe.of_eq (by simp)) ?_;refine And.intro (pl_ok hnL hy) ?_;refine And.intro (pl_eq hy) ?_;refine And.intro auI ?_;refine And.intro (by constructor <;> omega) ?_;refine And.intro (by first | rfl | exact VLe.of_eq (by simp)) ?_;refine And.intro (pl_ok hnL hx) ?_
    refine And.intro (pl_eq hx) ?_;refine And.intro (by constructor <;> omega) ?_;refine And.intro (by first | rfl | exact VLe.of_eq (by simp)) ?_;refine And.intro (st_ok hnL hx) ?_;refine And.intro (by constructor <;> omega) ?_;refine And.intro (by first | rfl | exact VLe.of_eq (by simp)) ?_;refine And.intro (st_ok2 hnL hy) ?_;refine hK _ _ (by kernel_rfl) ?_;clear hK K
    rw[eP_swap (P:=A++V1) (Q:=U2++M++U1) (R:=V2++Z) (L':=A++(V1++[y])++U2++M++(U1++[x])++V2++Z) (by rw[←hL];simp) (by simp;omega) (by simp;omega) (by simp)]
    refine dwk [(15,.v (.int .i64 (↑(U1++[x]).length)))] TSO_ok hnt fun K hK=>?_;refine And.intro (dintE (by rw[IntWalk.i64_in _ (by omega)];simp)) ?_;refine hK _ _ ?_;clear hK K
    refine⟨⟨(U1++[x],U2,V1++[y],V2),by rw[←hU];simp,by rw[←hV];simp,by simp;omega⟩,by simp,VS.toA⟩
theorem cmpI_lt {a b:Int}:cmpI a b<0↔a<b:=by
 unfold cmpI
 split
 ·simp[*]
 ·split <;> simp[*]
theorem snoc_cases {α:Type}(l:List α):l=[]∨∃ L b,l=L++[b]:=by
 rcases List.eq_nil_or_concat l with h | ⟨L,b,h⟩
 ·exact .inl h
 ·exact .inr ⟨L,b,by rw[h,List.concat_eq_append]⟩
theorem rotate_d (A X Y Z:List (Int×Tm))(n a m b:Nat)(hn:(A++X++Y++Z).length=n)(ha:A.length=a)(hm:a+X.length=m)(hb:m+Y.length=b)(hX:0<X.length)(hY:0<Y.length)(hM:n≤1000000):
  CallG Tryz.prog 200 [.ps 0 n,.v (.int .i64 ↑a),.v (.int .i64 ↑m),.v (.int .i64 ↑b),.fn 113 []] [(.r 0,.rp 79 5 (ePairs (A++X++Y++Z)))] [(.r 0,.rp 79 5 (ePairs (A++Y++X++Z)))] (.tu []):=by
 have hbn:b≤n:=by simp at hn;omega
 refine callG_of_dw 1 58 [] TSO_ok (by kernel_rfl) Tryz.func200 rfl Tryz.ntmps200 rfl (by simp) ?dwords ?dbody
 case dwords=>simp[wordsG,rowN,rowsR,gkey,Key.eq,D.ok,D.oks,D.okss,rnames,inN,ckey,ePairs_ok]
 case dbody=>
  intro cx hnt hn0
  refine dw_seq ?_;refine dwk [(14,.v (.int .i64 (↑X.length)))] TSO_ok hnt fun K hK=>?_;refine And.intro auI ?_;refine hK _ _ ?_;clear hK K;refine dw_seq ?_;refine dwk [(17,.v (.int .i64 (↑Y.length)))] TSO_ok hnt fun K hK=>?_;refine And.intro auI ?_;refine hK _ _ ?_;clear hK K;refine dw_seq ?_;refine dw_block ?_
  refine dw_loop (ι:={ p:List (Int×Tm)×List (Int×Tm)×List (Int×Tm)×List (Int×Tm) // p.1++p.2.2.1++p.2.1++p.2.2.2=A++Y++X++Z∧p.1.length+p.2.1.length=m∧0<p.2.1.length∧0<p.2.2.1.length }) (fun p=>[(.t 0,.ps 0 n),(.t 2,.v (.int .i64 ↑m)),(.t 4,.fn 113 []),(.t 10,.v (.int .i64 ↑p.1.2.1.length)),(.t 11,.v (.int .i64 ↑p.1.2.2.1.length)),(.r 0,.rp 79 5 (ePairs (p.1.1++p.1.2.1++p.1.2.2.1++p.1.2.2.2)))]) 1 (fun p=>p.1.2.1.length+p.1.2.2.1.length) (⟨(A,X,Y,Z),rfl,by dsimp only;omega,hX,hY⟩) ((VS.toK (by omega) (by repeat first | exact trivial | refine And.intro (And.intro (by first | rfl | simp[D.ok,D.oks,D.okss,D.okm,upto,keyOk,argsT]) (by first | exact Or.inl rfl | exact Or.inr ⟨_,rfl,(by repeat first | exact VLe.refl _ | exact VLe.nil _ | exact VLe.untag _ _ _ | refine VLe.ag ?_ | refine VLe.tu ?_ | refine VLeL.cons ?_ ?_ | exact VLeL.nil),trivial⟩ | simp[get,Key.eq,argsT])) ?_))) fun j=>?_
  obtain⟨⟨P,X',Y',Q⟩,hs,hp,h1,h2⟩:=j
  dsimp only at hs hp h1 h2 ⊢
  have hnn:(P++X'++Y'++Q).length=n:=by
   have:=congrArg List.length hs
   simp at this hn ⊢;omega
  have hmn:m≤n:=by omega
  have hln:P.length+X'.length+Y'.length+Q.length=n:=by rw[←hnn];simp;omega
  by_cases hne:X'.length=Y'.length
  ·have hsw:=swapR_d P X' [] Y' Q n P.length m X'.length (by rw[List.append_nil];exact hnn) rfl (by simp;omega) rfl hne.symm hM
   rw[List.append_nil,List.append_nil,hs] at hsw
   refine dw_seq ?_;refine dw_seq ?_;refine dwk [(20,.v (.bool false))] TSO_ok hnt fun K hK=>?_;refine And.intro (bneF (by omega)) ?_;refine hK _ _ ?_;clear hK K;refine dw_cond (t:=false) rfl ?_;rw[if_neg (by simp)];refine dw_exit ?_;refine dwk [(53,.v (.int .i64 (↑P.length)))] TSO_ok hnt fun K hK=>?_;refine And.intro auI ?_;refine dcn (CallG.n (hsw) _) ?_;refine hK _ _ ?_;clear hK K
   exact reta rfl
  ·by_cases hgt:Y'.length<X'.length
   ·obtain⟨S,T,hST,hS⟩:∃ S T,X'=S++T∧S.length=Y'.length:=⟨X'.take Y'.length,X'.drop Y'.length,(List.take_append_drop _ _).symm,by simp;omega⟩
    have hL:P++X'++Y'++Q=P++S++T++Y'++Q:=by rw[hST];simp
    have hXl:X'.length=S.length+T.length:=by rw[hST];simp
    have hsw:=swapR_d P S T Y' Q n P.length m Y'.length (by rw[←hL];exact hnn) rfl (by omega) hS rfl hM
    rw[hL]
    refine dw_seq ?_;refine dw_seq ?_;refine dwk [(20,.v (.bool true))] TSO_ok hnt fun K hK=>?_;refine And.intro (bneT (by omega)) ?_;refine hK _ _ ?_;clear hK K;refine dw_cond (t:=true) rfl ?_;rw[if_pos rfl];refine dw_skip ?_;refine dw_block ?_;refine dw_seq ?_;refine dwk [(23,.v (.bool true))] TSO_ok hnt fun K hK=>?_;refine And.intro auT ?_;refine hK _ _ ?_;clear hK K;refine dw_cond (t:=true) rfl ?_
    rw[if_pos rfl];refine dw_seq ?_;refine dwk [(27,.v (.int .i64 (↑P.length)))] TSO_ok hnt fun K hK=>?_;refine And.intro auI ?_;refine dcn (CallG.n (hsw) _) ?_;refine hK _ _ ?_;clear hK K;refine dwk [(34,.v (.int .i64 (↑T.length)))] TSO_ok hnt fun K hK=>?_;refine And.intro auI ?_;refine hK _ _ ?_;clear hK K
    rw[←hS]
    refine⟨⟨(P++Y',T,S,Q),by rw[←hs,hST];simp,by simp;omega,by dsimp only;omega,by dsimp only;omega⟩,by first | omega | (dsimp only;omega),VS.toA⟩
   ·obtain⟨S,T,hST,hT⟩:∃ S T,Y'=S++T∧T.length=X'.length:=⟨Y'.take (Y'.length-X'.length),Y'.drop (Y'.length-X'.length),(List.take_append_drop _ _).symm,by simp;omega⟩
    have hL:P++X'++Y'++Q=P++X'++S++T++Q:=by rw[hST];simp
    have hYl:Y'.length=S.length+T.length:=by rw[hST];simp
    have hsw:=swapR_d P X' S T Q n P.length (m+S.length) X'.length (by rw[←hL];exact hnn) rfl (by omega) rfl hT hM
    rw[hL]
    refine dw_seq ?_;refine dw_seq ?_;refine dwk [(20,.v (.bool true))] TSO_ok hnt fun K hK=>?_;refine And.intro (bneT (by omega)) ?_;refine hK _ _ ?_;clear hK K;refine dw_cond (t:=true) rfl ?_;rw[if_pos rfl];refine dw_skip ?_;refine dw_block ?_;refine dw_seq ?_;refine dwk [(23,.v (.bool false))] TSO_ok hnt fun K hK=>?_;refine And.intro auF ?_;refine hK _ _ ?_;clear hK K;refine dw_cond (t:=false) rfl ?_
    rw[if_neg (by simp)];refine dw_seq ?_;refine dwk [(38,.v (.int .i64 (↑P.length))),(41,.v (.int .i64 (↑(m+Y'.length)))),(43,.v (.int .i64 (↑(m+S.length))))] TSO_ok hnt fun K hK=>?_;refine And.intro auI ?_;refine And.intro auI ?_;refine And.intro auI ?_;refine dcn (CallG.n (hsw) _) ?_;refine hK _ _ ?_;clear hK K;refine dwk [(49,.v (.int .i64 (↑S.length)))] TSO_ok hnt fun K hK=>?_
    refine And.intro auI ?_;refine hK _ _ ?_;clear hK K
    rw[←hT]
    refine⟨⟨(P,T,S,X'++Q),by rw[←hs,hST];simp,by dsimp only;omega,by dsimp only;omega,by dsimp only;omega⟩,by first | omega | (dsimp only;omega),VS.toA⟩
theorem insSort_d (A X Z:List (Int×Tm))(n a b:Nat)(hn:(A++X++Z).length=n)(ha:A.length=a)(hb:a+X.length=b)(hM:n≤1000000):
  CallG Tryz.prog 178 [.ps 0 n,.v (.int .i64 ↑a),.v (.int .i64 ↑b),.fn 113 []] [(.r 0,.rp 79 5 (ePairs (A++X++Z)))] [(.r 0,.rp 79 5 (ePairs (A++So.ss X++Z)))] (.tu []):=by
 have hln:A.length+X.length+Z.length=n:=by rw[←hn];simp;omega
 obtain⟨X1,X2,rfl,h0,hs⟩:∃ X1 X2,X=X1++X2∧(X2=[]∧b≤a+1∨a+1=a+X1.length∧0<X1.length)∧So.ss X1=X1:=by
  cases X with
  | nil=>exact⟨[],[],rfl,.inl ⟨rfl,by simp at hb;omega⟩,rfl⟩
  | cons x X=>exact⟨[x],X,rfl,.inr ⟨rfl,Nat.one_pos⟩,So.ss_one x⟩
 obtain⟨X,hXX⟩:∃ X,X1++X2=X:=⟨_,rfl⟩
 rw[hXX] at hb hln
 refine callG_of_dw 1 53 [] TSO_ok (by kernel_rfl) Tryz.func178 rfl Tryz.ntmps178 rfl (by simp) ?dwords ?dbody
 case dwords=>simp[wordsG,rowN,rowsR,gkey,Key.eq,D.ok,D.oks,D.okss,rnames,inN,ckey,ePairs_ok]
 case dbody=>
  intro cx hnt hn0
  refine dw_seq ?_;refine dwk [(11,.v (.int .i64 (↑(a+1))))] TSO_ok hnt fun K hK=>?_;refine And.intro auI ?_;refine hK _ _ ?_;clear hK K;refine dw_block ?_
  refine dw_loop (ι:={ p:List (Int×Tm)×List (Int×Tm)×Nat // p.1++p.2.1=X∧(p.2.1=[]∧b≤p.2.2∨p.2.2=a+p.1.length∧0<p.1.length) }) (fun p=>[(.t 0,.ps 0 n),(.t 1,.v (.int .i64 ↑a)),(.t 2,.v (.int .i64 ↑b)),(.t 3,.fn 113 []),(.t 8,.v (.int .i64 ↑p.1.2.2)),(.r 0,.rp 79 5 (ePairs (A++So.ss p.1.1++p.1.2.1++Z)))]) 1 (fun p=>p.1.2.1.length) (⟨(X1,X2,a+1),hXX,h0⟩) ((VS.toK (by omega) (by repeat first | exact trivial | refine And.intro (And.intro (by first | rfl | simp[D.ok,D.oks,D.okss,D.okm,upto,keyOk,argsT,hs]) (by first | exact Or.inl rfl | exact Or.inr ⟨_,rfl,(by repeat first | exact VLe.refl _ | exact VLe.nil _ | exact VLe.untag _ _ _ | refine VLe.ag ?_ | refine VLe.tu ?_ | refine VLeL.cons ?_ ?_ | exact VLeL.nil),trivial⟩ | simp[get,Key.eq,argsT,hs])) ?_))) fun j=>?_
  obtain⟨⟨Y1,Y2,i⟩,hY,hi⟩:=j
  dsimp only at hY hi ⊢
  have hYl:X.length=Y1.length+Y2.length:=by rw[←hY];simp
  cases Y2 with
  | nil=>
   have hib:b≤i:=by
    rcases hi with hi | hi
    ·exact hi.2
    ·rw[List.length_nil] at hYl;omega
   rw[List.append_nil] at hY ⊢
   subst hY
   rw[hXX]
   refine dw_seq ?_;refine dw_seq ?_;refine dwk [(14,.v (.bool false))] TSO_ok hnt fun K hK=>?_;refine And.intro auF ?_;refine hK _ _ ?_;clear hK K;refine dw_cond (t:=false) rfl ?_;rw[if_neg (by simp)];refine dw_exit ?_
   exact reta rfl
  | cons x Y2=>
   have hi2:i=a+Y1.length:=by
    rcases hi with hi | hi
    ·cases hi.1
    ·exact hi.1
   rw[List.length_cons] at hYl
   refine dw_seq ?_;refine dw_seq ?_;refine dwk [(14,.v (.bool true))] TSO_ok hnt fun K hK=>?_;refine And.intro auT ?_;refine hK _ _ ?_;clear hK K;refine dw_cond (t:=true) rfl ?_;rw[if_pos rfl];refine dw_skip ?_;refine dw_seq ?_;refine dw_block ?_;refine dw_seq ?_;refine dwk [(9,.v (.int .i64 ↑(a+(So.ss Y1).length)))] TSO_ok hnt fun K hK=>?_;refine And.intro (VLe.of_eq (by rw[So.ss_len,hi2])) ?_
   refine hK _ _ ?_;clear hK K;refine dw_block ?_
   refine dw_loop (ι:={ p:List (Int×Tm)×List (Int×Tm) // p.1++p.2=So.ss Y1∧∀ s∈p.2,x.1<s.1 }) (fun p=>[(.t 0,.ps 0 n),(.t 1,.v (.int .i64 ↑a)),(.t 2,.v (.int .i64 ↑b)),(.t 3,.fn 113 []),(.t 8,.v (.int .i64 ↑i)),(.t 9,.v (.int .i64 ↑(a+p.1.1.length))),(.r 0,.rp 79 5 (ePairs (A++p.1.1++x :: p.1.2++Y2++Z)))]) 1 (fun p=>p.1.1.length) (⟨(So.ss Y1,[]),by simp,by simp⟩) (VS.toA) fun j=>?_
   obtain⟨⟨S1,S2⟩,hS,hg⟩:=j
   dsimp only at hS hg ⊢
   have hSl:S1.length+S2.length=Y1.length:=by rw[←So.ss_len Y1,←hS];simp
   obtain⟨L,hL⟩:∃ L,A++S1++x :: S2++Y2++Z=L:=⟨_,rfl⟩
   have hnL:L.length=n:=by rw[←hL];simp;omega
   rw[hL]
   have hdone:∀ h1:(∀ s∈S1,s.1≤x.1),L=A++So.ss (Y1++[x])++Y2++Z:=fun h1=>by
    rw[So.ss_snoc hS h1 hg,←hL];simp
   rcases snoc_cases S1 with rfl | ⟨S,s,rfl⟩
   ·rw[hdone (by simp)]
    refine dw_seq ?_;refine dw_seq ?_;refine dwkD [(20,.v (.bool false))] TSO_ok hnt fun K hK=>?_;refine And.intro (by first | exact dfalse (by simp) | exact VLe.of_eq (by simp)) ?_;refine hK _ _ (by kernel_rfl) ?_;clear hK K;refine dw_cond (t:=false) rfl ?_;rw[if_neg (by simp)];refine dw_exit ?_;refine dwk [(16,.v (.int .i64 (↑(i+1))))] TSO_ok hnt fun K hK=>?_;refine And.intro (dintE (by rw[IntWalk.i64_in _ (by omega)];omega)) ?_
    refine hK _ _ ?_;clear hK K
    refine⟨⟨(Y1++[x],Y2,i+1),by rw[←hY];simp,.inr ⟨by simp;omega,by simp⟩⟩,by simp,VS.toA⟩
   ·have hj:a+(S++[s]).length=a+S.length+1:=by simp;omega
    rw[hj]
    simp at hSl
    have hx:L[a+S.length+1]?=some x:=at_ (P:=A++S++[s]) (R:=S2++Y2++Z) (by rw[←hL];simp) (by simp;omega)
    have hy:L[a+S.length]?=some s:=at_ (P:=A++S) (R:=x :: S2++Y2++Z) (by rw[←hL];simp) (by simp;omega)
    have lx:=pl_lt hnL hx
    have ho:=sorder_d x s
    rw[ePair_eq,ePair_eq] at ho
    by_cases hlt:x.1<s.1
    ·skip
     refine dw_seq ?_;refine dw_seq ?_;refine dwkD [(20,.v (.bool true)),(25,.pr 0 n 5 ((a+S.length+1)) 0),(26,.ag [.v (.int .i64 x.1),.sl 2 (eTys x.2.binds) none,.v (.int .i64 x.2.kind),.v (.int .i64 x.2.index),.sl 4 (eTms x.2.args) none]),(29,.v (.int .i64 (↑(a+S.length)))),(30,.pr 0 n 5 ((a+S.length)) 0),(31,.ag [.v (.int .i64 s.1),.sl 2 (eTys s.2.binds) none,.v (.int .i64 s.2.kind),.v (.int .i64 s.2.index),.sl 4 (eTms s.2.args) none]),(33,.v (.bool true))] TSO_ok hnt fun K hK=>?_
     refine And.intro (by first | exact dtrue (by simp;omega) | exact VLe.of_eq (by simp;omega)) ?_;refine And.intro (by constructor <;> omega) ?_;refine And.intro (by first | rfl | exact VLe.of_eq (by simp)) ?_;refine And.intro (pl_ok hnL hx) ?_;refine And.intro (pl_eq hx) ?_;refine And.intro auI ?_;refine And.intro (by constructor <;> omega) ?_;refine And.intro (by first | rfl | exact VLe.of_eq (by simp)) ?_
     refine And.intro (pl_ok hnL hy) ?_;refine And.intro (pl_eq hy) ?_;refine dcl (ho) ?_;refine And.intro (dtrue (cmpI_lt.2 hlt)) ?_;refine hK _ _ (by kernel_rfl) ?_;clear hK K;refine dw_cond (t:=true) rfl ?_;rw[if_pos rfl];refine dw_skip ?_;refine dw_seq ?_;refine dw_block ?_;refine dwkD [(41,.v (.int .i64 (↑(a+S.length)))),(44,.v (.int .i64 (↑(a+S.length)))),(45,.pr 0 n 5 ((a+S.length)) 0),(46,.ag [.v (.int .i64 s.1),.sl 2 (eTys s.2.binds) none,.v (.int .i64 s.2.kind),.v (.int .i64 s.2.index),.sl 4 (eTms s.2.args) none]),(49,.pr 0 n 5 ((a+S.length+1)) 0),(50,.ag [.v (.int .i64 x.1),.sl 2 (eTys x.2.binds) none,.v (.int .i64 x.2.kind),.v (.int .i64 x.2.index),.sl 4 (eTms x.2.args) none]),(51,.pr 0 n 5 ((a+S.length+1)) 0),(52,.pr 0 n 5 ((a+S.length)) 0)] TSO_ok hnt fun K hK=>?_
     refine And.intro auI ?_;refine And.intro auI ?_;refine And.intro (by constructor <;> omega) ?_;refine And.intro (by first | rfl | exact VLe.of_eq (by simp)) ?_;refine And.intro (pl_ok hnL hy) ?_;refine And.intro (pl_eq hy) ?_;refine And.intro (by constructor <;> omega) ?_;refine And.intro (by first | rfl | exact VLe.of_eq (by simp)) ?_;refine And.intro (pl_ok hnL hx) ?_;refine And.intro (pl_eq hx) ?_
     refine And.intro (by constructor <;> omega) ?_;refine And.intro (by first | rfl | exact VLe.of_eq (by simp)) ?_;refine And.intro (st_ok hnL hx) ?_;refine And.intro (by constructor <;> omega) ?_;refine And.intro (by first | rfl | exact VLe.of_eq (by simp)) ?_;refine And.intro (st_ok2 hnL hy) ?_;refine hK _ _ (by kernel_rfl) ?_;clear hK K
     rw[eP_swap' (P:=A++S) (Q:=[]) (R:=S2++Y2++Z) (L':=A++S++x :: (s :: S2)++Y2++Z) (by rw[←hL];simp) (by simp;omega) (by simp) (by simp)]
     refine dwk [(36,.v (.int .i64 (↑(a+S.length))))] TSO_ok hnt fun K hK=>?_;refine And.intro auI ?_;refine hK _ _ ?_;clear hK K
     refine⟨⟨(S,s :: S2),by rw[←hS];simp,fun u hu=>(List.mem_cons.1 hu).elim (fun e=>e ▸ hlt) (hg u)⟩,by simp,VS.toA⟩
    ·have hsrt:=So.ss_srt Y1
     rw[←hS] at hsrt
     have hall:∀ u∈S++[s],u.1≤x.1:=fun u hu=>by
      rcases List.mem_append.1 hu with hu | hu
      ·have:=(So.srt_app.1 (So.srt_app.1 hsrt).1).2.2 u hu s (by simp);omega
      ·rw[List.mem_singleton] at hu;subst hu;omega
     refine dw_seq ?_;refine dw_seq ?_;refine dwkD [(20,.v (.bool true)),(25,.pr 0 n 5 ((a+S.length+1)) 0),(26,.ag [.v (.int .i64 x.1),.sl 2 (eTys x.2.binds) none,.v (.int .i64 x.2.kind),.v (.int .i64 x.2.index),.sl 4 (eTms x.2.args) none]),(29,.v (.int .i64 (↑(a+S.length)))),(30,.pr 0 n 5 ((a+S.length)) 0),(31,.ag [.v (.int .i64 s.1),.sl 2 (eTys s.2.binds) none,.v (.int .i64 s.2.kind),.v (.int .i64 s.2.index),.sl 4 (eTms s.2.args) none]),(33,.v (.bool false))] TSO_ok hnt fun K hK=>?_
     refine And.intro (by first | exact dtrue (by simp;omega) | exact VLe.of_eq (by simp;omega)) ?_;refine And.intro (by constructor <;> omega) ?_;refine And.intro (by first | rfl | exact VLe.of_eq (by simp)) ?_;refine And.intro (pl_ok hnL hx) ?_;refine And.intro (pl_eq hx) ?_;refine And.intro auI ?_;refine And.intro (by constructor <;> omega) ?_;refine And.intro (by first | rfl | exact VLe.of_eq (by simp)) ?_
     refine And.intro (pl_ok hnL hy) ?_;refine And.intro (pl_eq hy) ?_;refine dcl (ho) ?_;refine And.intro (dfalse (fun h=>hlt (cmpI_lt.1 h))) ?_;refine hK _ _ (by kernel_rfl) ?_;clear hK K;refine dw_cond (t:=false) rfl ?_;rw[if_neg (by simp)]
     rw[hdone hall]
     refine dw_exit ?_;refine dwk [(16,.v (.int .i64 (↑(i+1))))] TSO_ok hnt fun K hK=>?_;refine And.intro auI ?_;refine hK _ _ ?_;clear hK K
     refine⟨⟨(Y1++[x],Y2,i+1),by rw[←hY];simp,.inr ⟨by simp;omega,by simp⟩⟩,by simp,VS.toA⟩
theorem half_i (k:Nat)(h:k<4611686018427387904):IntKind.i64.wrap ((IntKind.u64.wrap (↑k:Int)).fdiv 2)=((k / 2:Nat):Int):=by
 have e1:IntKind.u64.wrap (↑k:Int)=↑k:=by
  simp only[IntKind.wrap,IntKind.bits,IntKind.signed]
  simp
  omega
 rw[e1,Int.fdiv_eq_ediv_of_nonneg _ (by omega),IntWalk.i64_in _ (by omega)]
 omega
namespace So
def ky (L:List (Int×Tm))(i:Nat):Int:=((L[i]?).map (·.1)).getD 0
theorem ky_at {L:List (Int×Tm)}{i:Nat}{x:Int×Tm}(h:L[i]?=some x):ky L i=x.1:=by simp[ky,h]
theorem at_ex {α:Type}{L:List α}{n i:Nat}(hn:L.length=n)(hi:i<n):∃ x,L[i]?=some x:=⟨L[i]'(by omega),List.getElem?_eq_getElem (by omega)⟩
theorem left_one {x:Int×Tm}{Y1 Y2:List (Int×Tm)}(hY:Srt (Y1++Y2))(h1:∀ y∈Y1,y.1<x.1)(h2:∀ y∈Y2,x.1≤y.1):ss ([x]++(Y1++Y2))=Y1++x :: Y2:=by
 have a:=srt_app.1 hY
 have h:=ss_cut (X1:=[]) (X2:=[x]) (Y1:=Y1) (Y2:=Y2) (srt_one x) hY (fun _ h=>by cases h) (fun y hy u hu=>by rw[List.mem_singleton] at hu;subst hu;exact h1 y hy)
 rw[List.nil_append,List.nil_append,ss_self a.1,ss_self (l:=[x]++Y2) (List.pairwise_cons.2 ⟨h2,a.2.1⟩)] at h
 exact h
theorem right_one {y:Int×Tm}{X1 X2:List (Int×Tm)}(hX:Srt (X1++X2))(h1:∀ x∈X1,x.1≤y.1)(h2:∀ x∈X2,y.1<x.1):ss (X1++X2++[y])=X1++y :: X2:=ss_snoc (ss_self hX).symm h1 h2
theorem sym_cut {A X Y Z L:List (Int×Tm)}{a m b mid s:Nat}(hX:Srt X)(hY:Srt Y)(hL:L=A++X++Y++Z)(ha:A.length=a)(hm:a+X.length=m)(hb:m+Y.length=b)(q1:a≤s)(q2:s≤m)(q3:s≤mid)(q4:mid+m≤s+b) 
  (h1:s=a∨mid+m=s+b∨ky L (s-1)≤ky L (mid+m-s)) (h2:s=mid∨s=m∨ky L (mid+m-1-s)<ky L s) :
  ∃ X1 X2 Y1 Y2,X=X1++X2∧Y=Y1++Y2∧a+X1.length=s∧s+Y1.length=mid∧(∀ x∈X1,∀ y∈Y2,x.1≤y.1)∧(∀ y∈Y1,∀ x∈X2,y.1<x.1):=by
 obtain⟨X1,X2,rfl,hx⟩:∃ X1 X2,X=X1++X2∧a+X1.length=s:=⟨X.take (s-a),X.drop (s-a),(List.take_append_drop _ _).symm,by simp;omega⟩
 obtain⟨Y1,Y2,rfl,hy⟩:∃ Y1 Y2,Y=Y1++Y2∧s+Y1.length=mid:=⟨Y.take (mid-s),Y.drop (mid-s),(List.take_append_drop _ _).symm,by simp;omega⟩
 rw[List.length_append] at hm hb
 have sx:=srt_app.1 hX
 have sy:=srt_app.1 hY
 refine⟨X1,X2,Y1,Y2,rfl,rfl,hx,hy,fun x hxm y hym=>?_,fun y hym x hxm=>?_⟩
 ·rcases snoc_cases X1 with rfl | ⟨U,u,rfl⟩
  ·cases hxm
  cases Y2 with
  | nil=>cases hym
  | cons v V=>
   simp at hx hm hb
   have e1:L[s-1]?=some u:=at_ (P:=A++U) (R:=X2++(Y1++v :: V)++Z) (by rw[hL];simp) (by simp;omega)
   have e2:L[mid+m-s]?=some v:=at_ (P:=A++(U++[u]++X2)++Y1) (R:=V++Z) (by rw[hL];simp) (by simp;omega)
   rcases h1 with h1 | h1 | h1
   ·omega
   ·omega
   ·rw[ky_at e1,ky_at e2] at h1
    have a1:x.1≤u.1:=by
     rcases List.mem_append.1 hxm with h | h
     ·exact(srt_app.1 sx.1).2.2 x h u (by simp)
     ·rw[List.mem_singleton] at h;rw[h];exact Int.le_refl _
    have a2:v.1≤y.1:=by
     rcases List.mem_cons.1 hym with h | h
     ·rw[h];exact Int.le_refl _
     ·exact(List.pairwise_cons.1 sy.2.1).1 y h
    omega
 ·rcases snoc_cases Y1 with rfl | ⟨U,u,rfl⟩
  ·cases hym
  cases X2 with
  | nil=>cases hxm
  | cons v V=>
   simp at hy hm hb
   have e1:L[mid+m-1-s]?=some u:=at_ (P:=A++(X1++v :: V)++U) (R:=Y2++Z) (by rw[hL];simp) (by simp;omega)
   have e2:L[s]?=some v:=at_ (P:=A++X1) (R:=V++(U++[u]++Y2)++Z) (by rw[hL];simp) (by simp;omega)
   rcases h2 with h2 | h2 | h2
   ·omega
   ·omega
   ·rw[ky_at e1,ky_at e2] at h2
    have a1:y.1≤u.1:=by
     rcases List.mem_append.1 hym with h | h
     ·exact(srt_app.1 sy.1).2.2 y h u (by simp)
     ·rw[List.mem_singleton] at h;rw[h];exact Int.le_refl _
    have a2:v.1≤x.1:=by
     rcases List.mem_cons.1 hxm with h | h
     ·rw[h];exact Int.le_refl _
     ·exact(List.pairwise_cons.1 sx.2.1).1 x h
    omega
end So
abbrev symIn (n a m b:Nat):List D:=[.ps 0 n,.v (.int .i64 ↑a),.v (.int .i64 ↑m),.v (.int .i64 ↑b),.fn 113 []]
abbrev symR (L:List (Int×Tm)):List (Key×D):=[(.r 0,.rp 79 5 (ePairs L))]
theorem sym_left (A:List (Int×Tm))(x:Int×Tm)(Y Z:List (Int×Tm))(n a m b:Nat)(hn:(A++[x]++Y++Z).length=n)(ha:A.length=a)(hm:a+1=m)(hb:m+Y.length=b)(hY:So.Srt Y)(hM:n≤1000000):
  CallG Tryz.prog 179 (symIn n a m b) (symR (A++[x]++Y++Z)) (symR (A++So.ss ([x]++Y)++Z)) (.tu []):=by
 have hbn:b≤n:=by simp at hn;omega
 obtain⟨L,hL⟩:∃ L,A++[x]++Y++Z=L:=⟨_,rfl⟩
 rw[hL] at hn ⊢
 have hx:L[a]?=some x:=at_ (P:=A) (R:=Y++Z) (by rw[←hL];simp) ha
 have lx:=pl_lt hn hx
 subst hb
 refine callG_of_dw 1 220 [] TSO_ok (by kernel_rfl) Tryz.func179 rfl Tryz.ntmps179 rfl (by simp) ?dwords ?dbody
 case dwords=>simp[wordsG,rowN,rowsR,gkey,Key.eq,D.ok,D.oks,D.okss,rnames,inN,ckey,ePairs_ok]
 case dbody=>
  intro cx hnt hn0
  refine dw_seq ?_;refine dw_seq ?_;refine dwk [(27,.v (.int .i64 (↑1))),(28,.v (.bool true))] TSO_ok hnt fun K hK=>?_;refine And.intro auI ?_;refine And.intro (beqT rfl) ?_;refine hK _ _ ?_;clear hK K;refine dw_cond (t:=true) rfl ?_;rw[if_pos rfl];refine dw_seq ?_;refine dwk [] TSO_ok hnt fun _ z9=>z9 _ _ ?_;refine dw_seq ?_;refine dwk [] TSO_ok hnt fun K hK=>?_
  refine hK _ _ ?_;clear hK K;refine dw_seq ?_;refine dw_block ?_
  refine dw_loop (ι:={ p:List (Int×Tm)×List (Int×Tm)×List (Int×Tm) // p.1++p.2.1++p.2.2=Y∧(∀ y∈p.1,y.1<x.1)∧(∀ y∈p.2.2,x.1≤y.1) }) (fun p=>[(.t 0,.ps 0 n),(.t 1,.v (.int .i64 ↑a)),(.t 4,.fn 113 []),(.t 10,.v (.int .i64 ↑(m+p.1.1.length))),(.t 11,.v (.int .i64 ↑(m+p.1.1.length+p.1.2.1.length))),(.r 0,.rp 79 5 (ePairs L))]) 1 (fun p=>p.1.2.1.length) (⟨([],Y,[]),by simp,by simp,by simp⟩) ((VS.toK (by omega) (by repeat first | exact trivial | refine And.intro (And.intro (by first | rfl | simp[D.ok,D.oks,D.okss,D.okm,upto,keyOk,argsT]) (by first | exact Or.inl rfl | exact Or.inr ⟨_,rfl,(by repeat first | exact VLe.refl _ | exact VLe.nil _ | exact VLe.untag _ _ _ | refine VLe.ag ?_ | refine VLe.tu ?_ | refine VLeL.cons ?_ ?_ | exact VLeL.nil),trivial⟩ | simp[get,Key.eq,argsT])) ?_))) fun j=>?_
  obtain⟨⟨Y1,Mi,Y2⟩,hs,h1,h2⟩:=j
  dsimp only at hs h1 h2 ⊢
  have hYl:Y1.length+Mi.length+Y2.length=Y.length:=by rw[←hs];simp;omega
  by_cases h0:Mi.length=0
  ·have:Mi=[]:=List.length_eq_zero_iff.1 h0
   subst this
   rw[List.append_nil] at hs
   rw[List.length_nil,Nat.add_zero] at hYl ⊢
   refine dw_seq ?_;refine dw_seq ?_;refine dwk [(33,.v (.bool false))] TSO_ok hnt fun K hK=>?_;refine And.intro auF ?_;refine hK _ _ ?_;clear hK K;refine dw_cond (t:=false) rfl ?_;rw[if_neg (by simp)];refine dw_exit ?_;refine dw_seq ?_;refine dw_seq ?_;refine dwk [] TSO_ok hnt fun _ z9=>z9 _ _ ?_;refine dw_block ?_
   refine dw_loop (ι:={ p:List (Int×Tm)×List (Int×Tm) // p.1++p.2=Y1 }) (fun p=>[(.t 0,.ps 0 n),(.t 10,.v (.int .i64 ↑(m+Y1.length))),(.t 13,.v (.int .i64 ↑(a+p.1.1.length))),(.r 0,.rp 79 5 (ePairs (A++p.1.1++x :: p.1.2++Y2++Z)))]) 1 (fun p=>p.1.2.length) (⟨([],Y1),rfl⟩) ((VS.toK (by omega) (by repeat first | exact trivial | refine And.intro (And.intro (by first | rfl | simp[D.ok,D.oks,D.okss,D.okm,upto,keyOk,←hL,←hs]) (by first | exact Or.inl rfl | exact Or.inr ⟨_,rfl,(by repeat first | exact VLe.refl _ | exact VLe.nil _ | exact VLe.untag _ _ _ | refine VLe.ag ?_ | refine VLe.tu ?_ | refine VLeL.cons ?_ ?_ | exact VLeL.nil),trivial⟩ | simp[get,Key.eq,←hL,←hs])) ?_))) fun j=>?_
   obtain⟨⟨B1,B2⟩,hB⟩:=j
   dsimp only at hB ⊢
   have hBl:B1.length+B2.length=Y1.length:=by rw[←hB];simp
   cases B2 with
   | nil=>
    rw[List.length_nil] at hBl
    rw[List.append_nil] at hB
    have hf:So.ss ([x]++Y)=Y1++x :: Y2:=by rw[←hs];exact So.left_one (by rw[hs];exact hY) h1 h2
    rw[hf]
    have e2:A++B1++[x]++Y2++Z=A++(Y1++x :: Y2)++Z:=by rw[hB];simp
    rw[e2]
    refine dw_seq ?_;refine dw_seq ?_;refine dwk [(57,.v (.int .i64 (↑(a+Y1.length)))),(58,.v (.bool false))] TSO_ok hnt fun K hK=>?_;refine And.intro auI ?_;refine And.intro auF ?_;refine hK _ _ ?_;clear hK K;refine dw_cond (t:=false) rfl ?_;rw[if_neg (by simp)];refine dw_exit ?_;refine dw_ret ?_
    exact reta rfl
   | cons y B2=>
    rw[List.length_cons] at hBl
    obtain⟨L2,hL2⟩:∃ L2,A++B1++x :: (y :: B2)++Y2++Z=L2:=⟨_,rfl⟩
    rw[hL2]
    have hn2:L2.length=n:=by rw[←hL2,←hn,←hL,←hs,←hB];simp;omega
    have gx:L2[a+B1.length]?=some x:=at_ (P:=A++B1) (R:=y :: B2++Y2++Z) (by rw[←hL2];simp) (by simp;omega)
    have gy:L2[a+B1.length+1]?=some y:=at_ (P:=A++B1++[x]) (R:=B2++Y2++Z) (by rw[←hL2];simp) (by simp;omega)
    have ly:=pl_lt hn2 gy
    refine dw_seq ?_;refine dw_seq ?_;refine dwk [(57,.v (.int .i64 (↑(a+Y1.length)))),(58,.v (.bool true))] TSO_ok hnt fun K hK=>?_;refine And.intro auI ?_;refine And.intro auT ?_;refine hK _ _ ?_;clear hK K;refine dw_cond (t:=true) rfl ?_;rw[if_pos rfl];refine dw_skip ?_;refine dw_seq ?_;refine dw_block ?_;refine dwkD [(65,.v (.int .i64 (↑(a+B1.length+1)))),(68,.v (.int .i64 (↑(a+B1.length+1)))),(69,.pr 0 n 5 ((a+B1.length+1)) 0),(70,.ag [.v (.int .i64 y.1),.sl 2 (eTys y.2.binds) none,.v (.int .i64 y.2.kind),.v (.int .i64 y.2.index),.sl 4 (eTms y.2.args) none]),(73,.pr 0 n 5 ((a+B1.length)) 0),(74,.ag [.v (.int .i64 x.1),.sl 2 (eTys x.2.binds) none,.v (.int .i64 x.2.kind),.v (.int .i64 x.2.index),.sl 4 (eTms x.2.args) none]),(75,.pr 0 n 5 ((a+B1.length)) 0),(76,.pr 0 n 5 ((a+B1.length+1)) 0)] TSO_ok hnt fun K hK=>?_
    refine And.intro auI ?_;refine And.intro auI ?_;refine And.intro (by constructor <;> omega) ?_;refine And.intro (by first | rfl | exact VLe.of_eq (by simp)) ?_;refine And.intro (pl_ok hn2 gy) ?_;refine And.intro (pl_eq gy) ?_;refine And.intro (by constructor <;> omega) ?_;refine And.intro (by first | rfl | exact VLe.of_eq (by simp)) ?_;refine And.intro (pl_ok hn2 gx) ?_;refine And.intro (pl_eq gx) ?_
    refine And.intro (by constructor <;> omega) ?_;refine And.intro (by first | rfl | exact VLe.of_eq (by simp)) ?_;refine And.intro (st_ok hn2 gx) ?_;refine And.intro (by constructor <;> omega) ?_;refine And.intro (by first | rfl | exact VLe.of_eq (by simp)) ?_;refine And.intro (st_ok2 hn2 gy) ?_;refine hK _ _ (by kernel_rfl) ?_;clear hK K
    rw[eP_swap (P:=A++B1) (Q:=[]) (R:=B2++Y2++Z) (L':=A++(B1++[y])++x :: B2++Y2++Z) (by rw[←hL2];simp) (by simp;omega) (by simp) (by simp)]
    refine dwk [(60,.v (.int .i64 (↑(a+(B1++[y]).length))))] TSO_ok hnt fun K hK=>?_;refine And.intro (dintE (by rw[IntWalk.i64_in _ (by omega)];simp;omega)) ?_;refine hK _ _ ?_;clear hK K
    refine⟨⟨(B1++[y],B2),by rw[←hB];simp⟩,by simp,VS.toA⟩
  ·obtain⟨M1,y,M2,rfl,hh⟩:∃ M1 y M2,Mi=M1++y :: M2∧m+Y1.length+M1.length=(m+Y1.length+(m+Y1.length+Mi.length)) / 2:=by
    have hlt:Mi.length / 2<Mi.length:=by omega
    refine⟨Mi.take (Mi.length / 2),Mi[Mi.length / 2],Mi.drop (Mi.length / 2+1),?_,?_⟩
    ·rw[←List.drop_eq_getElem_cons hlt,List.take_append_drop]
    ·rw[List.length_take,Nat.min_eq_left (by omega)];omega
   have hMl:(M1++y :: M2).length=M1.length+M2.length+1:=by simp;omega
   have hy:L[m+Y1.length+M1.length]?=some y:=at_ (P:=A++[x]++Y1++M1) (R:=M2++Y2++Z) (by rw[←hL,←hs];simp) (by simp;omega)
   have ho:=sorder_d y x
   rw[ePair_eq,ePair_eq] at ho
   have hsrt:=hY
   rw[←hs] at hsrt
   have a1:=(So.srt_app.1 (So.srt_app.1 hsrt).1).2.1
   have a2:=So.srt_app.1 a1
   obtain⟨c,hc⟩:∃ c,m+Y1.length+(M1++y :: M2).length=c:=⟨_,rfl⟩
   rw[hc] at hh ⊢
   by_cases hlt:y.1<x.1
   ·skip
    refine dw_seq ?_;refine dw_seq ?_;refine dwk [(33,.v (.bool true))] TSO_ok hnt fun K hK=>?_;refine And.intro auT ?_;refine hK _ _ ?_;clear hK K;refine dw_cond (t:=true) rfl ?_;rw[if_pos rfl];refine dw_skip ?_;refine dw_block ?_;refine dw_seq ?_;refine dwk [(36,.v (.int .i64 (↑(m+Y1.length+c)))),(39,.v (.int .i64 (↑(m+Y1.length+M1.length))))] TSO_ok hnt fun K hK=>?_;refine And.intro auI ?_
    refine And.intro (dintE (by rw[hh];exact half_i _ (by omega))) ?_;refine hK _ _ ?_;clear hK K;refine dw_seq ?_;refine dwkD [(43,.pr 0 n 5 ((m+Y1.length+M1.length)) 0),(44,.ag [.v (.int .i64 y.1),.sl 2 (eTys y.2.binds) none,.v (.int .i64 y.2.kind),.v (.int .i64 y.2.index),.sl 4 (eTms y.2.args) none]),(47,.pr 0 n 5 (a) 0),(48,.ag [.v (.int .i64 x.1),.sl 2 (eTys x.2.binds) none,.v (.int .i64 x.2.kind),.v (.int .i64 x.2.index),.sl 4 (eTms x.2.args) none]),(50,.v (.bool true))] TSO_ok hnt fun K hK=>?_
    refine And.intro (by constructor <;> omega) ?_;refine And.intro (by first | rfl | exact VLe.of_eq (by simp)) ?_;refine And.intro (pl_ok hn hy) ?_;refine And.intro (pl_eq hy) ?_;refine And.intro (by constructor <;> omega) ?_;refine And.intro (by first | rfl | exact VLe.of_eq (by simp)) ?_;refine And.intro (pl_ok hn hx) ?_;refine And.intro (pl_eq hx) ?_;refine dcl (ho) ?_;refine And.intro (dtrue (cmpI_lt.2 hlt)) ?_
    refine hK _ _ (by kernel_rfl) ?_;clear hK K;refine dw_cond (t:=true) rfl ?_;rw[if_pos rfl];refine dwk [(52,.v (.int .i64 (↑(m+(Y1++(M1++[y])).length))))] TSO_ok hnt fun K hK=>?_;refine And.intro (dintE (by rw[IntWalk.i64_in _ (by omega)];simp;omega)) ?_;refine hK _ _ ?_;clear hK K
    have e3:c=m+(Y1++(M1++[y])).length+M2.length:=by rw[←hc];simp;omega
    rw[e3]
    refine⟨⟨(Y1++(M1++[y]),M2,Y2),by rw[←hs];simp,fun u hu=>?g1,h2⟩,by simp;omega,VS.toA⟩
    case g1=>
     rcases List.mem_append.1 hu with hu | hu
     ·exact h1 u hu
     ·rcases List.mem_append.1 hu with hu | hu
      ·have:=a2.2.2 u hu y (by simp);omega
      ·rw[List.mem_singleton] at hu;subst hu;exact hlt
   ·skip
    refine dw_seq ?_;refine dw_seq ?_;refine dwk [(33,.v (.bool true))] TSO_ok hnt fun K hK=>?_;refine And.intro auT ?_;refine hK _ _ ?_;clear hK K;refine dw_cond (t:=true) rfl ?_;rw[if_pos rfl];refine dw_skip ?_;refine dw_block ?_;refine dw_seq ?_;refine dwk [(36,.v (.int .i64 (↑(m+Y1.length+c)))),(39,.v (.int .i64 (↑(m+Y1.length+M1.length))))] TSO_ok hnt fun K hK=>?_;refine And.intro auI ?_
    refine And.intro (dintE (by rw[hh];exact half_i _ (by omega))) ?_;refine hK _ _ ?_;clear hK K;refine dw_seq ?_;refine dwkD [(43,.pr 0 n 5 ((m+Y1.length+M1.length)) 0),(44,.ag [.v (.int .i64 y.1),.sl 2 (eTys y.2.binds) none,.v (.int .i64 y.2.kind),.v (.int .i64 y.2.index),.sl 4 (eTms y.2.args) none]),(47,.pr 0 n 5 (a) 0),(48,.ag [.v (.int .i64 x.1),.sl 2 (eTys x.2.binds) none,.v (.int .i64 x.2.kind),.v (.int .i64 x.2.index),.sl 4 (eTms x.2.args) none]),(50,.v (.bool false))] TSO_ok hnt fun K hK=>?_
    refine And.intro (by constructor <;> omega) ?_;refine And.intro (by first | rfl | exact VLe.of_eq (by simp)) ?_;refine And.intro (pl_ok hn hy) ?_;refine And.intro (pl_eq hy) ?_;refine And.intro (by constructor <;> omega) ?_;refine And.intro (by first | rfl | exact VLe.of_eq (by simp)) ?_;refine And.intro (pl_ok hn hx) ?_;refine And.intro (pl_eq hx) ?_;refine dcl (ho) ?_;refine And.intro (dfalse (fun h=>hlt (cmpI_lt.1 h))) ?_
    refine hK _ _ (by kernel_rfl) ?_;clear hK K;refine dw_cond (t:=false) rfl ?_;rw[if_neg (by simp)];refine dwk [] TSO_ok hnt fun _ z9=>z9 _ _ ?_
    refine⟨⟨(Y1,M1,y :: M2++Y2),by rw[←hs];simp,h1,fun u hu=>?g2⟩,by simp,VS.toA⟩
    case g2=>
     rcases List.mem_append.1 hu with hu | hu
     ·rcases List.mem_cons.1 hu with rfl | hu
      ·omega
      ·have:=(List.pairwise_cons.1 a2.2.1).1 u hu;omega
     ·exact h2 u hu
theorem sym_right (A:List (Int×Tm))(X:List (Int×Tm))(y:Int×Tm)(Z:List (Int×Tm))(n a m b:Nat)(hn:(A++X++[y]++Z).length=n)(ha:A.length=a)(hm:a+X.length=m)(hb:m+1=b)(hX:So.Srt X)(h1X:X.length≠1)(hM:n≤1000000):
  CallG Tryz.prog 179 (symIn n a m b) (symR (A++X++[y]++Z)) (symR (A++So.ss (X++[y])++Z)) (.tu []):=by
 have hbn:b≤n:=by simp at hn;omega
 obtain⟨L,hL⟩:∃ L,A++X++[y]++Z=L:=⟨_,rfl⟩
 rw[hL] at hn ⊢
 have hy:L[m]?=some y:=at_ (P:=A++X) (R:=Z) (by rw[←hL];simp) (by simp;omega)
 have ly:=pl_lt hn hy
 subst hm
 refine callG_of_dw 1 220 [] TSO_ok (by kernel_rfl) Tryz.func179 rfl Tryz.ntmps179 rfl (by simp) ?dwords ?dbody
 case dwords=>simp[wordsG,rowN,rowsR,gkey,Key.eq,D.ok,D.oks,D.okss,rnames,inN,ckey,ePairs_ok]
 case dbody=>
  intro cx hnt hn0
  refine dw_seq ?_;refine dw_seq ?_;refine dwk [(27,.v (.int .i64 (↑X.length))),(28,.v (.bool false))] TSO_ok hnt fun K hK=>?_;refine And.intro auI ?_;refine And.intro (beqF (by omega)) ?_;refine hK _ _ ?_;clear hK K;refine dw_cond (t:=false) rfl ?_;rw[if_neg (by simp)];refine dw_skip ?_;refine dw_seq ?_;refine dw_seq ?_;refine dwk [(79,.v (.int .i64 (↑1))),(80,.v (.bool true))] TSO_ok hnt fun K hK=>?_
  refine And.intro auI ?_;refine And.intro (beqT rfl) ?_;refine hK _ _ ?_;clear hK K;refine dw_cond (t:=true) rfl ?_;rw[if_pos rfl];refine dw_seq ?_;refine dwk [] TSO_ok hnt fun _ z9=>z9 _ _ ?_;refine dw_seq ?_;refine dwk [] TSO_ok hnt fun _ z9=>z9 _ _ ?_;refine dw_seq ?_;refine dw_block ?_
  refine dw_loop (ι:={ p:List (Int×Tm)×List (Int×Tm)×List (Int×Tm) // p.1++p.2.1++p.2.2=X∧(∀ x∈p.1,x.1≤y.1)∧(∀ x∈p.2.2,y.1<x.1) }) (fun p=>[(.t 0,.ps 0 n),(.t 2,.v (.int .i64 ↑(a+X.length))),(.t 4,.fn 113 []),(.t 14,.v (.int .i64 ↑(a+p.1.1.length))),(.t 15,.v (.int .i64 ↑(a+p.1.1.length+p.1.2.1.length))),(.r 0,.rp 79 5 (ePairs L))]) 1 (fun p=>p.1.2.1.length) (⟨([],X,[]),by simp,by simp,by simp⟩) ((VS.toK (by omega) (by repeat first | exact trivial | refine And.intro (And.intro (by first | rfl | simp[D.ok,D.oks,D.okss,D.okm,upto,keyOk,argsT]) (by first | exact Or.inl rfl | exact Or.inr ⟨_,rfl,(by repeat first | exact VLe.refl _ | exact VLe.nil _ | exact VLe.untag _ _ _ | refine VLe.ag ?_ | refine VLe.tu ?_ | refine VLeL.cons ?_ ?_ | exact VLeL.nil),trivial⟩ | simp[get,Key.eq,argsT])) ?_))) fun j=>?_
  obtain⟨⟨X1,Mi,X2⟩,hs,h1,h2⟩:=j
  dsimp only at hs h1 h2 ⊢
  have hXl:X1.length+Mi.length+X2.length=X.length:=by rw[←hs];simp;omega
  by_cases h0:Mi.length=0
  ·have:Mi=[]:=List.length_eq_zero_iff.1 h0
   subst this
   rw[List.append_nil] at hs
   rw[List.length_nil,Nat.add_zero] at hXl ⊢
   refine dw_seq ?_;refine dw_seq ?_;refine dwk [(85,.v (.bool false))] TSO_ok hnt fun K hK=>?_;refine And.intro auF ?_;refine hK _ _ ?_;clear hK K;refine dw_cond (t:=false) rfl ?_;rw[if_neg (by simp)];refine dw_exit ?_;refine dw_seq ?_;refine dw_seq ?_;refine dwk [(17,.v (.int .i64 ↑(a+X1.length+X2.length)))] TSO_ok hnt fun K hK=>?_;refine And.intro (VLe.of_eq (by rw[←hXl,Nat.add_assoc])) ?_
   refine hK _ _ ?_;clear hK K;refine dw_block ?_
   refine dw_loop (ι:={ p:List (Int×Tm)×List (Int×Tm) // p.1++p.2=X2 }) (fun p=>[(.t 0,.ps 0 n),(.t 14,.v (.int .i64 ↑(a+X1.length))),(.t 17,.v (.int .i64 ↑(a+X1.length+p.1.1.length))),(.r 0,.rp 79 5 (ePairs (A++X1++p.1.1++y :: p.1.2++Z)))]) 1 (fun p=>p.1.1.length) (⟨(X2,[]),by simp⟩) ((VS.toK (by omega) (by repeat first | exact trivial | refine And.intro (And.intro (by first | rfl | simp[D.ok,D.oks,D.okss,D.okm,upto,keyOk,←hL,←hs]) (by first | exact Or.inl rfl | exact Or.inr ⟨_,rfl,(by repeat first | exact VLe.refl _ | exact VLe.nil _ | exact VLe.untag _ _ _ | refine VLe.ag ?_ | refine VLe.tu ?_ | refine VLeL.cons ?_ ?_ | exact VLeL.nil),trivial⟩ | simp[get,Key.eq,←hL,←hs])) ?_))) fun j=>?_
   obtain⟨⟨B1,B2⟩,hB⟩:=j
   dsimp only at hB ⊢
   have hBl:B1.length+B2.length=X2.length:=by rw[←hB];simp
   rcases snoc_cases B1 with rfl | ⟨B,x,rfl⟩
   ·rw[List.nil_append] at hB
    have hf:So.ss (X++[y])=X1++y :: X2:=by rw[←hs];exact So.right_one (by rw[hs];exact hX) h1 h2
    rw[hf,List.append_nil]
    have e2:A++X1++y :: B2++Z=A++(X1++y :: X2)++Z:=by rw[hB];simp
    rw[e2,List.length_nil,Nat.add_zero]
    refine dw_seq ?_;refine dw_seq ?_;refine dwk [(110,.v (.bool false))] TSO_ok hnt fun K hK=>?_;refine And.intro auF ?_;refine hK _ _ ?_;clear hK K;refine dw_cond (t:=false) rfl ?_;rw[if_neg (by simp)];refine dw_exit ?_;refine dw_ret ?_
    exact reta rfl
   ·obtain⟨k,hk⟩:∃ k,a+X1.length+B.length=k:=⟨_,rfl⟩
    have hk2:a+X1.length+(B++[x]).length=k+1:=by simp;omega
    rw[hk2]
    obtain⟨L2,hL2⟩:∃ L2,A++X1++(B++[x])++y :: B2++Z=L2:=⟨_,rfl⟩
    rw[hL2]
    have hn2:L2.length=n:=by rw[←hL2,←hn,←hL,←hs,←hB];simp;omega
    have gx:L2[k]?=some x:=at_ (P:=A++X1++B) (R:=y :: B2++Z) (by rw[←hL2];simp) (by simp;omega)
    have gy:L2[k+1]?=some y:=at_ (P:=A++X1++B++[x]) (R:=B2++Z) (by rw[←hL2];simp) (by simp;omega)
    have ly2:=pl_lt hn2 gy
    refine dw_seq ?_;refine dw_seq ?_;refine dwk [(110,.v (.bool true))] TSO_ok hnt fun K hK=>?_;refine And.intro auT ?_;refine hK _ _ ?_;clear hK K;refine dw_cond (t:=true) rfl ?_;rw[if_pos rfl];refine dw_skip ?_;refine dw_seq ?_;refine dw_block ?_;refine dwkD [(117,.v (.int .i64 (↑k))),(120,.v (.int .i64 (↑k))),(121,.pr 0 n 5 (k) 0),(122,.ag [.v (.int .i64 x.1),.sl 2 (eTys x.2.binds) none,.v (.int .i64 x.2.kind),.v (.int .i64 x.2.index),.sl 4 (eTms x.2.args) none]),(125,.pr 0 n 5 ((k+1)) 0),(126,.ag [.v (.int .i64 y.1),.sl 2 (eTys y.2.binds) none,.v (.int .i64 y.2.kind),.v (.int .i64 y.2.index),.sl 4 (eTms y.2.args) none]),(127,.pr 0 n 5 ((k+1)) 0),(128,.pr 0 n 5 (k) 0)] TSO_ok hnt fun K hK=>?_
    refine And.intro auI ?_;refine And.intro auI ?_;refine And.intro (by constructor <;> omega) ?_;refine And.intro (by first | rfl | exact VLe.of_eq (by simp)) ?_;refine And.intro (pl_ok hn2 gx) ?_;refine And.intro (pl_eq gx) ?_;refine And.intro (by constructor <;> omega) ?_;refine And.intro (by first | rfl | exact VLe.of_eq (by simp)) ?_;refine And.intro (pl_ok hn2 gy) ?_;refine And.intro (pl_eq gy) ?_
    refine And.intro (by constructor <;> omega) ?_;refine And.intro (by first | rfl | exact VLe.of_eq (by simp)) ?_;refine And.intro (st_ok hn2 gy) ?_;refine And.intro (by constructor <;> omega) ?_;refine And.intro (by first | rfl | exact VLe.of_eq (by simp)) ?_;refine And.intro (st_ok2 hn2 gx) ?_;refine hK _ _ (by kernel_rfl) ?_;clear hK K
    rw[eP_swap' (P:=A++X1++B) (Q:=[]) (R:=B2++Z) (L':=A++X1++B++y :: (x :: B2)++Z) (by rw[←hL2];simp) (by simp;omega) (by simp) (by simp)]
    refine dwk [(112,.v (.int .i64 (↑k)))] TSO_ok hnt fun K hK=>?_;refine And.intro auI ?_;refine hK _ _ ?_;clear hK K
    rw[←hk]
    refine⟨⟨(B,x :: B2),by rw[←hB];simp⟩,by simp,VS.toA⟩
  ·obtain⟨M1,x,M2,rfl,hh⟩:∃ M1 x M2,Mi=M1++x :: M2∧a+X1.length+M1.length=(a+X1.length+(a+X1.length+Mi.length)) / 2:=by
    have hlt:Mi.length / 2<Mi.length:=by omega
    refine⟨Mi.take (Mi.length / 2),Mi[Mi.length / 2],Mi.drop (Mi.length / 2+1),?_,?_⟩
    ·rw[←List.drop_eq_getElem_cons hlt,List.take_append_drop]
    ·rw[List.length_take,Nat.min_eq_left (by omega)];omega
   have hMl:(M1++x :: M2).length=M1.length+M2.length+1:=by simp;omega
   have hx:L[a+X1.length+M1.length]?=some x:=at_ (P:=A++X1++M1) (R:=M2++X2++[y]++Z) (by rw[←hL,←hs];simp) (by simp;omega)
   have ho:=sorder_d y x
   rw[ePair_eq,ePair_eq] at ho
   have hsrt:=hX
   rw[←hs] at hsrt
   have a1:=(So.srt_app.1 (So.srt_app.1 hsrt).1).2.1
   have a2:=So.srt_app.1 a1
   obtain⟨c,hc⟩:∃ c,a+X1.length+(M1++x :: M2).length=c:=⟨_,rfl⟩
   rw[hc] at hh ⊢
   by_cases hlt:y.1<x.1
   ·skip
    refine dw_seq ?_;refine dw_seq ?_;refine dwk [(85,.v (.bool true))] TSO_ok hnt fun K hK=>?_;refine And.intro auT ?_;refine hK _ _ ?_;clear hK K;refine dw_cond (t:=true) rfl ?_;rw[if_pos rfl];refine dw_skip ?_;refine dw_block ?_;refine dw_seq ?_;refine dwk [(88,.v (.int .i64 (↑(a+X1.length+c)))),(91,.v (.int .i64 (↑(a+X1.length+M1.length))))] TSO_ok hnt fun K hK=>?_;refine And.intro auI ?_
    refine And.intro (dintE (by rw[hh];exact half_i _ (by omega))) ?_;refine hK _ _ ?_;clear hK K;refine dw_seq ?_;refine dwkD [(95,.pr 0 n 5 ((a+X.length)) 0),(96,.ag [.v (.int .i64 y.1),.sl 2 (eTys y.2.binds) none,.v (.int .i64 y.2.kind),.v (.int .i64 y.2.index),.sl 4 (eTms y.2.args) none]),(99,.pr 0 n 5 ((a+X1.length+M1.length)) 0),(100,.ag [.v (.int .i64 x.1),.sl 2 (eTys x.2.binds) none,.v (.int .i64 x.2.kind),.v (.int .i64 x.2.index),.sl 4 (eTms x.2.args) none]),(102,.v (.bool true))] TSO_ok hnt fun K hK=>?_
    refine And.intro (by constructor <;> omega) ?_;refine And.intro (by first | rfl | exact VLe.of_eq (by simp)) ?_;refine And.intro (pl_ok hn hy) ?_;refine And.intro (pl_eq hy) ?_;refine And.intro (by constructor <;> omega) ?_;refine And.intro (by first | rfl | exact VLe.of_eq (by simp)) ?_;refine And.intro (pl_ok hn hx) ?_;refine And.intro (pl_eq hx) ?_;refine dcl (ho) ?_;refine And.intro (dtrue (cmpI_lt.2 hlt)) ?_
    refine hK _ _ (by kernel_rfl) ?_;clear hK K;refine dw_cond (t:=false) rfl ?_;rw[if_neg (by simp)];refine dwk [] TSO_ok hnt fun _ z9=>z9 _ _ ?_
    refine⟨⟨(X1,M1,x :: M2++X2),by rw[←hs];simp,h1,fun u hu=>?g2⟩,by simp,VS.toA⟩
    case g2=>
     rcases List.mem_append.1 hu with hu | hu
     ·rcases List.mem_cons.1 hu with rfl | hu
      ·exact hlt
      ·have:=(List.pairwise_cons.1 a2.2.1).1 u hu;omega
     ·exact h2 u hu
   ·skip
    refine dw_seq ?_;refine dw_seq ?_;refine dwk [(85,.v (.bool true))] TSO_ok hnt fun K hK=>?_;refine And.intro auT ?_;refine hK _ _ ?_;clear hK K;refine dw_cond (t:=true) rfl ?_;rw[if_pos rfl];refine dw_skip ?_;refine dw_block ?_;refine dw_seq ?_;refine dwk [(88,.v (.int .i64 (↑(a+X1.length+c)))),(91,.v (.int .i64 (↑(a+X1.length+M1.length))))] TSO_ok hnt fun K hK=>?_;refine And.intro auI ?_
    refine And.intro (dintE (by rw[hh];exact half_i _ (by omega))) ?_;refine hK _ _ ?_;clear hK K;refine dw_seq ?_;refine dwkD [(95,.pr 0 n 5 ((a+X.length)) 0),(96,.ag [.v (.int .i64 y.1),.sl 2 (eTys y.2.binds) none,.v (.int .i64 y.2.kind),.v (.int .i64 y.2.index),.sl 4 (eTms y.2.args) none]),(99,.pr 0 n 5 ((a+X1.length+M1.length)) 0),(100,.ag [.v (.int .i64 x.1),.sl 2 (eTys x.2.binds) none,.v (.int .i64 x.2.kind),.v (.int .i64 x.2.index),.sl 4 (eTms x.2.args) none]),(102,.v (.bool false))] TSO_ok hnt fun K hK=>?_
    refine And.intro (by constructor <;> omega) ?_;refine And.intro (by first | rfl | exact VLe.of_eq (by simp)) ?_;refine And.intro (pl_ok hn hy) ?_;refine And.intro (pl_eq hy) ?_;refine And.intro (by constructor <;> omega) ?_;refine And.intro (by first | rfl | exact VLe.of_eq (by simp)) ?_;refine And.intro (pl_ok hn hx) ?_;refine And.intro (pl_eq hx) ?_;refine dcl (ho) ?_;refine And.intro (dfalse (fun h=>hlt (cmpI_lt.1 h))) ?_
    refine hK _ _ (by kernel_rfl) ?_;clear hK K;refine dw_cond (t:=true) rfl ?_;rw[if_pos rfl];refine dwk [(105,.v (.int .i64 (↑(a+(X1++(M1++[x])).length))))] TSO_ok hnt fun K hK=>?_;refine And.intro (dintE (by rw[IntWalk.i64_in _ (by omega)];simp;omega)) ?_;refine hK _ _ ?_;clear hK K
    have e3:c=a+(X1++(M1++[x])).length+M2.length:=by rw[←hc];simp;omega
    rw[e3]
    refine⟨⟨(X1++(M1++[x]),M2,X2),by rw[←hs];simp,fun u hu=>?g1,h2⟩,by simp;omega,VS.toA⟩
    case g1=>
     rcases List.mem_append.1 hu with hu | hu
     ·exact h1 u hu
     ·rcases List.mem_append.1 hu with hu | hu
      ·have:=a2.2.2 u hu x (by simp);omega
      ·rw[List.mem_singleton] at hu;subst hu;omega
end Go.Proofs.YtflbnonbfmmchaaGreat
