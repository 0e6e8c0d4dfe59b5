/-
  Package pattern, walked in the deep way: places, types. The laws' helpers of layers 8 and 9: Low, Of. Package pattern, walked in the deep way: turned, Take. Package pattern, walked in the deep way: Take. Deep values: calls that grow rows of their callers. Package pattern, walked in the deep way: uses, Uses, Is. Deep values: rows that nothing else reads: how they begin, how they are handed on. Sorting that keeps the order of equal keys, in plain words. Places, uses and matching in plain Lean: the document's answer and the program's are one. Package slices' stable sort of pairs, walked in the deep way: insertion, swaps, rotation.
-/
import Derived.Test.YtflbnonbfmmchaaGreatRowMatchBackp6
import Derived.Test.YtflbnonbfmmchaaGreatRowMatchBackp5
import Derived.Test.YtflbnonbfmmchaaGreatRowMatchBackp4
set_option maxRecDepth 100000
set_option maxHeartbeats 1000000
set_option linter.unusedVariables false
set_option linter.unusedSimpArgs false
namespace Go.Proofs.YtflbnonbfmmchaaGreat
open Go.RowKit
namespace Pn
theorem mayL_app (n:Int):∀ (l r acc:List Int),mayL n (l++r) acc=(mayL n l acc&&mayL n r (acc++l))
 | [],r,acc=>by simp[mayL]
 | v :: l,r,acc=>by simp only[List.cons_append,mayL,mayL_app n l r,Bool.and_assoc,List.append_assoc,List.nil_append]
theorem mayL_take (n:Int)(l:List Int)(j:Nat)(h:j<l.length):mayL n (l.take (j+1)) []=(mayL n (l.take j) []&&(decide (0≤l[j])&&(decide (l[j]<n) && !(l.take j).contains l[j]))):=by
 rw[List.take_add_one,List.getElem?_eq_getElem h]
 show mayL n (l.take j++[l[j]]) []=_
 rw[mayL_app];simp[mayL]
theorem mayL_pre (n:Int)(l:List Int)(j:Nat)(h:mayL n l []=true):mayL n (l.take j) []=true:=by
 rw[←List.take_append_drop j l,mayL_app,Bool.and_eq_true] at h
 exact h.1
theorem mayL_mem (n:Int):∀ (l acc:List Int),mayL n l acc=true→∀ v∈l,0≤v∧v<n
 | [],_,_,v,hv=>by cases hv
 | u :: l,acc,h,v,hv=>by
  simp only[mayL,Bool.and_eq_true,decide_eq_true_eq] at h
  rcases List.mem_cons.1 hv with rfl | hv
  ·exact⟨h.1,h.2.1⟩
  ·exact mayL_mem n l _ h.2.2.2 v hv
def atL:List Int→Nat→List (Int×Value)
 | [],_=>[]
 | v :: l,k=>(v,.int .i64 k) :: atL l (k+1)
end Pn
@[simp] theorem atL_ok (f g:Nat→Bool) (l:List Int) (k:Nat):D.okm f g (eMp (Pn.atL l k))=true:=okm_map _ _ fun _ _=>rfl
theorem atL_find (x:Int):∀ (l:List Int) (k:Nat),mfind (eMp (Pn.atL l k)) x=(Pn.ix x l).map fun i=>.v (.int .i64 ((k+i:Nat):Int))
 | [],k=>rfl
 | v :: l,k=>by
  show (if x=v then some _ else mfind (eMp (Pn.atL l (k+1))) x)=_
  rw[Pn.ix]
  by_cases h:v=x
  ·subst h;simp
  ·rw[if_neg (fun e=>h e.symm),if_neg h,atL_find x l (k+1)]
   cases Pn.ix x l with
   | none=>rfl
   | some i=>simp;omega
theorem ix_none {x:Int}:∀ {l:List Int},Pn.ix x l=none↔l.contains x=false
 | []=>by simp[Pn.ix]
 | v :: l=>by
  rw[Pn.ix]
  by_cases h:v=x
  ·subst h;simp
  ·rw[if_neg h]
   have:=ix_none (x:=x) (l:=l)
   simp only[Option.map_eq_none_iff,this,List.contains_cons]
   simp
   exact fun _ e=>h e.symm
theorem atL_put (v:Int):∀ (l:List Int) (k:Nat),l.contains v=false→mput (eMp (Pn.atL l k)) v (.v (.int .i64 ((k+l.length:Nat):Int)))=eMp (Pn.atL (l++[v]) k)
 | [],k,_=>by simp[Pn.atL,eMp,mput]
 | u :: l,k,h=>by
  simp at h
  show (if v=u then _ else _ :: mput (eMp (Pn.atL l (k+1))) v _)=_
  rw[if_neg h.1]
  have:=atL_put v l (k+1) (by simp[h.2])
  rw[List.length_cons,show k+(l.length+1)=k+1+l.length by omega,this];rfl
set_option maxHeartbeats 1000000 in
theorem places_no (n:Int)(vs:List Int)(hl:vs.length≤100000)(hm:Pn.mayV n vs=false):PureC Tryz.prog 188 [.v (.int .i64 n),.sl 1 (eIs vs) none] (.tu [.v (.map none),.v (.bool false)]):=by
 refine calldw 0 40 [ResultVar.tmp 4,ResultVar.tmp 5] TP1_ok Tryz.func188 rfl Tryz.ntmps188 rfl fun cx hnt hn0=>?_
 ·skip
  refine dw_seq ?_;refine dwk [] TP1_ok hnt fun _ z9=>z9 _ _ ?_;refine dw_seq ?_;refine dwk [] TP1_ok hnt fun _ z9=>z9 _ _ ?_;refine dw_seq ?_;refine dw_seq ?_;refine dwk [(13,.v (.int .i64 (↑vs.length)))] TP1_ok hnt fun K hK=>?_;refine And.intro (dintE (by rw[eIs_len])) ?_;refine hK _ _ ?_;clear hK K;refine dw_block ?_
  refine dw_loop (ι:={ j:Nat // Pn.mayL n (vs.take j) []=true }) (fun j=>[(.t 0,.v (.int .i64 n)),(.t 6,.mo 2),(.o 2,.mp (eMp (Pn.atL (vs.take j.1) 0))),(.t 12,.sl 1 (eIs vs) none),(.t 13,.v (.int .i64 ↑vs.length)),(.t 14,.v (.int .i64 ↑j.1))]) 3 (fun j=>vs.length-j.1) (⟨0,rfl⟩) (VS.toA) fun j=>?_
  obtain⟨j,hj⟩:=j
  dsimp only
  by_cases hlt:j<vs.length
  ·have hst:=Pn.mayL_take n vs j hlt
   rw[hj] at hst
   have hfi:=atL_find vs[j] (vs.take j) 0
   refine dw_seq ?_;refine dwk [(15,.v (.bool true))] TP1_ok hnt fun K hK=>?_;refine And.intro auT ?_;refine hK _ _ ?_;clear hK K;refine dw_seq ?_;refine dw_cond (t:=true) rfl ?_;rw[if_pos rfl];refine dw_skip ?_;refine dw_seq ?_;refine dw_block ?_;refine dw_seq ?_;refine dwk [(17,.q [.v (.int .i64 vs[j])])] TP1_ok hnt fun K hK=>?_;refine And.intro (⟨by omega,by rw[eIs_len];omega⟩) ?_
   refine And.intro (VLe.of_eq (by rw[Int.toNat_natCast,eIs_getD vs j hlt])) ?_;refine hK _ _ ?_;clear hK K
   cases hc:Pn.ix vs[j] (vs.take j) with
   | some i=>
    rw[hc] at hfi
    refine dw_seq ?_;refine dw_seq ?_;refine dwk [(22,.tu [.v (.int .i64 ↑(0+i)),.v (.bool true)])] TP1_ok hnt fun K hK=>?_;refine And.intro (VLe.of_eq (by rw[lookD,hfi];rfl)) ?_;refine hK _ _ ?_;clear hK K;refine dw_seq ?_;refine dwk [] TP1_ok hnt fun _ z9=>z9 _ _ ?_;refine dw_cond (t:=true) rfl ?_;rw[if_pos rfl];refine dw_seq ?_;refine dwk [] TP1_ok hnt fun K hK=>?_
    refine hK _ _ ?_;clear hK K;refine dw_ret ?_
    exact reta rfl
   | none=>
    rw[hc] at hfi
    have hcc:=ix_none.1 hc
    have hpu:=atL_put vs[j] (vs.take j) 0 hcc
    rw[List.length_take,Nat.min_eq_left (by omega),Nat.zero_add] at hpu
    refine dw_seq ?_;refine dw_seq ?_;refine dwk [(22,.tu [.v (.int .i64 0),.v (.bool false)])] TP1_ok hnt fun K hK=>?_;refine And.intro (VLe.of_eq (by rw[lookD,hfi];rfl)) ?_;refine hK _ _ ?_;clear hK K
    by_cases h0:vs[j]<0
    ·skip
     refine dw_seq ?_;refine dwk [(28,.v (.bool true))] TP1_ok hnt fun K hK=>?_;refine And.intro auT ?_;refine hK _ _ ?_;clear hK K;refine dw_cond (t:=true) rfl ?_;rw[if_pos rfl];refine dw_seq ?_;refine dwk [] TP1_ok hnt fun _ z9=>z9 _ _ ?_;refine dw_ret ?_
     exact reta rfl
    ·by_cases h1:n≤vs[j]
     ·skip
      refine dw_seq ?_;refine dwk [(28,.v (.bool false)),(33,.v (.bool true))] TP1_ok hnt fun K hK=>?_;refine And.intro auF ?_;refine And.intro auT ?_;refine hK _ _ ?_;clear hK K;refine dw_cond (t:=true) rfl ?_;rw[if_pos rfl];refine dw_seq ?_;refine dwk [] TP1_ok hnt fun _ z9=>z9 _ _ ?_;refine dw_ret ?_
      exact reta rfl
     ·skip
      refine dw_seq ?_;refine dwk [(28,.v (.bool false)),(33,.v (.bool false))] TP1_ok hnt fun K hK=>?_;refine And.intro auF ?_;refine And.intro auF ?_;refine hK _ _ ?_;clear hK K;refine dw_cond (t:=false) rfl ?_;rw[if_neg (by simp)];refine dw_skip ?_;refine dwk [] TP1_ok hnt fun _ z9=>z9 _ _ ?_;refine dwk [(38,.v (.int .i64 (↑(j+1))))] TP1_ok hnt fun K hK=>?_
      refine And.intro auI ?_;refine hK _ _ ?_;clear hK K
      have hta:vs.take (j+1)=vs.take j++[vs[j]]:=by rw[List.take_add_one,List.getElem?_eq_getElem hlt];rfl
      rw[←hta] at hpu
      refine⟨⟨j+1,by rw[hst,hcc,decide_eq_true (show 0≤vs[j] by omega),decide_eq_true (show vs[j]<n by omega)];rfl⟩,by first | omega | (dsimp only;omega),(by try simp only[List.length_append,List.length_take,List.length_cons,List.length_nil,Nat.zero_add,hpu];exact VS.toA)⟩
  ·rw[List.take_of_length_le (by omega)] at hj
   unfold Pn.mayV at hm
   rw[hj] at hm;cases hm
set_option maxHeartbeats 1000000 in
theorem places_ok (n:Int)(vs:List Int)(hl:vs.length≤100000)(hm:Pn.mayV n vs=true)(nm:Nat):CallN Tryz.prog 188 [.v (.int .i64 n),.sl 1 (eIs vs) none] [] nm [(.o nm,.mp (eMp (Pn.atL vs 0)))] (.tu [.mo nm,.v (.bool true)]):=by
 refine callMap_of_dw 40 [ResultVar.tmp 4,ResultVar.tmp 5] TP1_ok (by kernel_rfl) Tryz.func188 rfl Tryz.ntmps188 rfl (by simp) (by simp[D.ok,eIs_ok]) ?dbody nm
 case dbody=>
  intro cx hnt hn0
  refine dw_seq ?_;refine dwk [] TP1_ok hnt fun _ z9=>z9 _ _ ?_;refine dw_seq ?_;refine dwk [] TP1_ok hnt fun _ z9=>z9 _ _ ?_;refine dw_seq ?_;refine dw_seq ?_;refine dwk [(13,.v (.int .i64 (↑vs.length)))] TP1_ok hnt fun K hK=>?_;refine And.intro (dintE (by rw[eIs_len])) ?_;refine hK _ _ ?_;clear hK K;refine dw_block ?_
  refine dw_loop (ι:={ j:Nat // j≤vs.length }) (fun j=>[(.t 0,.v (.int .i64 n)),(.t 6,.mo 2),(.o 2,.mp (eMp (Pn.atL (vs.take j.1) 0))),(.t 12,.sl 1 (eIs vs) none),(.t 13,.v (.int .i64 ↑vs.length)),(.t 14,.v (.int .i64 ↑j.1))]) 3 (fun j=>vs.length-j.1) (⟨0,Nat.zero_le _⟩) (VS.toA) fun j=>?_
  obtain⟨j,hj⟩:=j
  dsimp only
  by_cases hlt:j<vs.length
  ·have hst:=Pn.mayL_take n vs j hlt
   rw[Pn.mayL_pre n vs _ hm,Pn.mayL_pre n vs _ hm] at hst
   simp only[Bool.true_and] at hst
   have hst:=hst.symm
   simp only[Bool.and_eq_true,decide_eq_true_eq,Bool.not_eq_true'] at hst
   obtain⟨h0,h1,hcc⟩:=hst
   have hfi:=atL_find vs[j] (vs.take j) 0
   rw[ix_none.2 hcc] at hfi
   have hpu:=atL_put vs[j] (vs.take j) 0 hcc
   rw[List.length_take,Nat.min_eq_left (by omega),Nat.zero_add] at hpu
   refine dw_seq ?_;refine dwk [(15,.v (.bool true))] TP1_ok hnt fun K hK=>?_;refine And.intro auT ?_;refine hK _ _ ?_;clear hK K;refine dw_seq ?_;refine dw_cond (t:=true) rfl ?_;rw[if_pos rfl];refine dw_skip ?_;refine dw_seq ?_;refine dw_block ?_;refine dw_seq ?_;refine dwk [(17,.q [.v (.int .i64 vs[j])])] TP1_ok hnt fun K hK=>?_;refine And.intro (⟨by omega,by rw[eIs_len];omega⟩) ?_
   refine And.intro (VLe.of_eq (by rw[Int.toNat_natCast,eIs_getD vs j hlt])) ?_;refine hK _ _ ?_;clear hK K;refine dw_seq ?_;refine dw_seq ?_;refine dwk [(22,.tu [.v (.int .i64 0),.v (.bool false)])] TP1_ok hnt fun K hK=>?_;refine And.intro (VLe.of_eq (by rw[lookD,hfi];rfl)) ?_;refine hK _ _ ?_;clear hK K;refine dw_seq ?_;refine dwk [(28,.v (.bool false)),(33,.v (.bool false))] TP1_ok hnt fun K hK=>?_
   refine And.intro auF ?_;refine And.intro auF ?_;refine hK _ _ ?_;clear hK K;refine dw_cond (t:=false) rfl ?_;rw[if_neg (by simp)];refine dw_skip ?_;refine dwk [] TP1_ok hnt fun _ z9=>z9 _ _ ?_;refine dwk [(38,.v (.int .i64 (↑(j+1))))] TP1_ok hnt fun K hK=>?_;refine And.intro auI ?_;refine hK _ _ ?_;clear hK K
   have hta:vs.take (j+1)=vs.take j++[vs[j]]:=by rw[List.take_add_one,List.getElem?_eq_getElem hlt];rfl
   rw[←hta] at hpu
   refine⟨⟨j+1,by omega⟩,by first | omega | (dsimp only;omega),(by try simp only[List.length_append,List.length_take,List.length_cons,List.length_nil,Nat.zero_add,hpu];exact VS.toA)⟩
  ·rw[List.take_of_length_le (by omega)]
   refine dw_seq ?_;refine dwk [(15,.v (.bool false))] TP1_ok hnt fun K hK=>?_;refine And.intro auF ?_;refine hK _ _ ?_;clear hK K;refine dw_seq ?_;refine dw_cond (t:=false) rfl ?_;rw[if_neg (by simp)];refine dw_exit ?_;refine dw_seq ?_;refine dwk [] TP1_ok hnt fun _ z9=>z9 _ _ ?_;refine dw_ret ?_
   exact⟨.inr rfl,_,rfl,rfl⟩
theorem ptypes_d (binds:List Ty)(vs:List Int)(hl:vs.length≤100000)(hb:binds.length≤1000000)(hv:∀ v∈vs,0≤v∧v<binds.length):PureC Tryz.prog 191 [.sl 2 (eTys binds) none,.sl 1 (eIs vs) none] (.sl 2 (eTys (Pn.types binds vs)) none):=by
 refine calldw 0 27 [ResultVar.tmp 4] TP1_ok Tryz.func191 rfl Tryz.ntmps191 rfl fun cx hnt hn0=>?_
 ·skip
  refine dw_seq ?_;refine dwk [] TP1_ok hnt fun _ z9=>z9 _ _ ?_;refine dw_seq ?_;refine dwk [] TP1_ok hnt fun _ z9=>z9 _ _ ?_;refine dw_seq ?_;refine dw_seq ?_;refine dwk [(9,.v (.int .i64 (↑vs.length)))] TP1_ok hnt fun K hK=>?_;refine And.intro (dintE (by rw[eIs_len])) ?_;refine hK _ _ ?_;clear hK K;refine dw_block ?_
  refine dw_loop (ι:=Nat) (fun j=>[(.t 0,.sl 2 (eTys binds) none),(.t 5,.sl 2 (eTys (Pn.types binds (vs.take j))) (some 5)),(.r 5,.rw 44 2 (vs.take j).length),(.t 8,.sl 1 (eIs vs) none),(.t 9,.v (.int .i64 ↑vs.length)),(.t 10,.v (.int .i64 ↑j))]) 6 (fun j=>vs.length-j) (0) ((VS.trans (VS.rowT (x:=5) (by rw[hnt];decide) 44 2 rfl) VS.toA)) fun j=>?_
  by_cases hlt:j<vs.length
  ·obtain⟨h0,h1⟩:=hv _ (List.getElem_mem hlt)
   have hk:((binds.length:Int)-1-vs[j]).toNat<binds.length:=by omega
   have hx:Pn.types binds (vs.take (j+1))=Pn.types binds (vs.take j)++[binds[((binds.length:Int)-1-vs[j]).toNat]]:=by
    rw[List.take_add_one,List.getElem?_eq_getElem hlt]
    unfold Pn.types
    rw[List.map_append]
    simp[List.getD_eq_getElem?_getD,List.getElem?_eq_getElem hk]
   have hq:=eTys_getD binds _ hk
   obtain⟨b,hbq⟩:∃ b,binds[((binds.length:Int)-1-vs[j]).toNat]=b:=⟨_,rfl⟩
   rw[hbq] at hx hq
   have hlq:(eTys (Pn.types binds (vs.take j))).length=j:=by rw[eTys_len];unfold Pn.types;rw[List.length_map,List.length_take];omega
   have hl2:(vs.take (j+1)).length=j+1:=by rw[List.length_take];omega
   have hl3:(vs.take j).length=j:=by rw[List.length_take];omega
   rw[hl3]
   refine dw_seq ?_;refine dwk [(11,.v (.bool true))] TP1_ok hnt fun K hK=>?_;refine And.intro auT ?_;refine hK _ _ ?_;clear hK K;refine dw_seq ?_;refine dw_cond (t:=true) rfl ?_;rw[if_pos rfl];refine dw_skip ?_;refine dw_seq ?_;refine dw_block ?_;refine dw_seq ?_;refine dwk [(12,.q [.v (.int .i64 vs[j])])] TP1_ok hnt fun K hK=>?_;refine And.intro (⟨by omega,by rw[eIs_len];omega⟩) ?_
   refine And.intro (VLe.of_eq (by rw[Int.toNat_natCast,eIs_getD vs j hlt])) ?_;refine hK _ _ ?_;clear hK K;refine dwk [(17,.v (.int .i64 (↑binds.length))),(18,.v (.int .i64 (↑binds.length-1))),(20,.v (.int .i64 (↑binds.length-1-vs[j]))),(21,.q [.sl 2 (eTys b.args) none,.v (.int .i64 b.base)]),(24,.sl 2 (eTys (Pn.types binds (vs.take (j+1)))) (some 5))] TP1_ok hnt fun K hK=>?_
   refine And.intro (dintE (by rw[eTys_len])) ?_;refine And.intro auI ?_;refine And.intro auI ?_;refine And.intro (⟨by omega,by rw[eTys_len];omega⟩) ?_;refine And.intro (VLe.of_eq (by rw[hq,eTy_eq])) ?_;refine And.intro (⟨by rw[hlq],by rw[hlq];simp;omega⟩) ?_;refine And.intro (VLe.of_eq (by rw[hx,eTys_append,eTys,eTys,eTy_eq])) ?_;refine hK _ _ ?_;clear hK K;refine dwk [(25,.v (.int .i64 (↑(j+1))))] TP1_ok hnt fun K hK=>?_
   refine And.intro auI ?_;refine hK _ _ ?_;clear hK K
   have hl4:min (j+1) vs.length=j+1:=Nat.min_eq_left (by omega)
   refine⟨j+1,by first | omega | (dsimp only;omega),(by try simp only[List.length_append,List.length_take,List.length_cons,List.length_nil,Nat.zero_add,hlq,hl4];exact VS.toA)⟩
  ·rw[List.take_of_length_le (by omega)]
   refine dw_seq ?_;refine dwk [(11,.v (.bool false))] TP1_ok hnt fun K hK=>?_;refine And.intro auF ?_;refine hK _ _ ?_;clear hK K;refine dw_seq ?_;refine dw_cond (t:=false) rfl ?_;rw[if_neg (by simp)];refine dw_exit ?_;refine dw_seq ?_;refine dwk [] TP1_ok hnt fun _ z9=>z9 _ _ ?_;refine dw_ret ?_
   exact reta rfl
def TL8_27:TI:=⟨1,false,[Value.slice none 0 0],[],some 29,24,5,none,false⟩
theorem TL8_27_ok:TypOk Tryz.prog 27 TL8_27:=by constructor <;> kernel_rfl
def TL8_3:TI:=⟨1,false,[Value.int IntKind.i64 0],[],none,8,2,none,false⟩
theorem TL8_3_ok:TypOk Tryz.prog 3 TL8_3:=by constructor <;> kernel_rfl
def TL8_29:TI:=⟨4,true,[Value.slice none 0 0,Value.int IntKind.i64 0,Value.int IntKind.i64 0,Value.slice none 0 0],[(0,1,false),(1,2,true),(3,1,false)],none,64,6,none,false⟩
theorem TL8_29_ok:TypOk Tryz.prog 29 TL8_29:=by constructor <;> kernel_rfl
def TL8_26:TI:=⟨2,true,[Value.int IntKind.i64 0,Value.int IntKind.i64 0],[(0,1,false),(1,1,false)],none,16,6,none,true⟩
theorem TL8_26_ok:TypOk Tryz.prog 26 TL8_26:=by constructor <;> kernel_rfl
def TL8:List (Nat×TI):=[(27,TL8_27),(3,TL8_3),(29,TL8_29),(26,TL8_26)]
theorem TL8_ok:TabOk Tryz.prog TL8:=(((((TabOk.nil _).cons TL8_26_ok).cons TL8_29_ok).cons TL8_3_ok).cons TL8_27_ok)
mutual
def lowB:Tm→Bool
 | .mk _ k i a=>!(decide (k=0)&&decide (900000<i))&&lowsB a
def lowsB:List Tm→Bool
 | []=>true
 | t :: l=>lowB t&&lowsB l
end
theorem lowsB_all:∀ l:List Tm,lowsB l=l.all lowB
 | []=>rfl
 | t :: l=>by rw[lowsB,lowsB_all l];rfl
theorem lowB_eq (t:Tm):lowB t=(!(decide (t.kind=0)&&decide (900000<t.index))&&lowsB t.args):=by cases t;rfl
theorem all_false {l:List Tm}{j:Nat}(h:j<l.length)(hf:lowB l[j]=false):lowsB l=false:=by
 rw[lowsB_all,List.all_eq_false];exact⟨l[j],List.getElem_mem h,by rw[hf];simp⟩
set_option maxHeartbeats 1000000 in
theorem low_list (l:List Tm)(hl:l.length≤1000000)(ih:∀ t∈l,PureC Tryz.prog 78 [.sl 4 (eTms t.args) none] (.v (.bool (lowsB t.args)))):PureC Tryz.prog 78 [.sl 4 (eTms l) none] (.v (.bool (lowsB l))):=by
 refine call_of_dw 0 35 [ResultVar.tmp 2] TL8_ok (by kernel_rfl) Tryz.func78 rfl Tryz.ntmps78 rfl (by simp) ?dwords ?dbody
 case dwords=>simp[wordsOk,D.ok,D.oks,rnames,eTms_ok]
 case dbody=>
  intro cx hnt hn0
  refine dw_seq ?_;refine dwk [] TL8_ok hnt fun _ z9=>z9 _ _ ?_;refine dw_seq (dw_seq ?_);refine dwk [] TL8_ok hnt fun _ z9=>z9 _ _ ?_;refine dw_block ?_
  refine dw_loop (ι:={ j:Nat // ∀ i (h:i<l.length),i<j→lowB l[i]=true }) (fun j=>[(.t 0,.sl 4 (eTms l) none),(.t 3,.v (.int .i64 (j.1:Int)))]) 1 (fun j=>l.length-j.1) ⟨0,fun i h1 h2=>by omega⟩ VS.toA fun j=>?_
  obtain⟨j,hj⟩:=j
  dsimp only
  refine dw_seq (dw_seq ?_)
  by_cases hlt:j<l.length
  ·have hi:=ih l[j] (List.getElem_mem hlt)
   have hlo:=lowB_eq l[j]
   refine dwk [(7,.v (.bool true))] TL8_ok hnt fun K hK=>?_;refine And.intro (dtrue (by rw[eTms_len];omega)) ?_;refine hK _ _ ?_;clear hK K;refine dw_cond (t:=true) rfl ?_;rw[if_pos rfl];refine dw_skip ?_;refine dw_seq (dw_block (dw_seq ?_))
   have hq:(eTms l).getD (j:Int).toNat []=[.sl 2 (eTys l[j].binds) none,.v (.int .i64 l[j].kind),.v (.int .i64 l[j].index),.sl 4 (eTms l[j].args) none]:=by rw[Int.toNat_natCast,eTms_getD l j hlt,eTm_eq]
   have hb:(0:Int)≤(j:Int)∧(j:Int)<((eTms l).length:Int):=⟨by omega,by rw[eTms_len];omega⟩
   have hret:lowB l[j]=false→∀ σ N,DW Tryz.prog cx (.ret) σ N (RetOk TL8 [ResultVar.tmp 2] (.v (.bool (lowsB l))) [])→True:=fun _ _ _ _=>trivial
   by_cases hk:l[j].kind=0
   ·by_cases hx:900000<l[j].index
    ·have hf:lowsB l=false:=all_false hlt (by rw[hlo];simp[hk,hx])
     rw[hf]
     refine dwk [(12,.q [.sl 2 (eTys l[j].binds) none,.v (.int .i64 l[j].kind),.v (.int .i64 l[j].index),.sl 4 (eTms l[j].args) none]),(16,.v (.bool true)),(20,.q [.sl 2 (eTys l[j].binds) none,.v (.int .i64 l[j].kind),.v (.int .i64 l[j].index),.sl 4 (eTms l[j].args) none]),(24,.v (.bool true))] TL8_ok hnt fun K hK=>?_;refine And.intro (hb) ?_;refine And.intro (VLe.of_eq (by rw[hq])) ?_
     refine And.intro (VLe.of_eq (by simp[hk])) ?_;refine And.intro (hb) ?_;refine And.intro (VLe.of_eq (by rw[hq])) ?_;refine And.intro (dtrue hx) ?_;refine hK _ _ ?_;clear hK K;refine dw_cond (t:=true) rfl ?_;rw[if_pos rfl];refine dw_seq ?_;refine dwk [] TL8_ok hnt fun _ z9=>z9 _ _ ?_;refine dw_ret ?_
     exact retv (N:=0) (.inr rfl) rfl (VLe.refl _) trivial
    ·cases hla:lowsB l[j].args with
     | false=>
      have hf:lowsB l=false:=all_false hlt (by rw[hlo,hla];simp)
      rw[hf]
      rw[hla] at hi
      refine dwk [(12,.q [.sl 2 (eTys l[j].binds) none,.v (.int .i64 l[j].kind),.v (.int .i64 l[j].index),.sl 4 (eTms l[j].args) none]),(16,.v (.bool true)),(20,.q [.sl 2 (eTys l[j].binds) none,.v (.int .i64 l[j].kind),.v (.int .i64 l[j].index),.sl 4 (eTms l[j].args) none]),(24,.v (.bool false)),(29,.q [.sl 2 (eTys l[j].binds) none,.v (.int .i64 l[j].kind),.v (.int .i64 l[j].index),.sl 4 (eTms l[j].args) none])] TL8_ok hnt fun K hK=>?_
      refine And.intro (hb) ?_;refine And.intro (VLe.of_eq (by rw[hq])) ?_;refine And.intro (VLe.of_eq (by simp[hk])) ?_;refine And.intro (hb) ?_;refine And.intro (VLe.of_eq (by rw[hq])) ?_;refine And.intro (dfalse hx) ?_;refine And.intro (hb) ?_;refine And.intro (VLe.of_eq (by rw[hq])) ?_;refine dcl (hi) ?_;refine hK _ _ ?_;clear hK K;refine dw_cond (t:=true) rfl ?_;rw[if_pos rfl];refine dw_seq ?_
      refine dwk [] TL8_ok hnt fun _ z9=>z9 _ _ ?_;refine dw_ret ?_
      exact retv (N:=0) (.inr rfl) rfl (VLe.refl _) trivial
     | true=>
      rw[hla] at hi
      refine dwk [(12,.q [.sl 2 (eTys l[j].binds) none,.v (.int .i64 l[j].kind),.v (.int .i64 l[j].index),.sl 4 (eTms l[j].args) none]),(16,.v (.bool true)),(20,.q [.sl 2 (eTys l[j].binds) none,.v (.int .i64 l[j].kind),.v (.int .i64 l[j].index),.sl 4 (eTms l[j].args) none]),(24,.v (.bool false)),(29,.q [.sl 2 (eTys l[j].binds) none,.v (.int .i64 l[j].kind),.v (.int .i64 l[j].index),.sl 4 (eTms l[j].args) none])] TL8_ok hnt fun K hK=>?_
      refine And.intro (hb) ?_;refine And.intro (VLe.of_eq (by rw[hq])) ?_;refine And.intro (VLe.of_eq (by simp[hk])) ?_;refine And.intro (hb) ?_;refine And.intro (VLe.of_eq (by rw[hq])) ?_;refine And.intro (dfalse hx) ?_;refine And.intro (hb) ?_;refine And.intro (VLe.of_eq (by rw[hq])) ?_;refine dcl (hi) ?_;refine hK _ _ ?_;clear hK K;refine dw_cond (t:=false) rfl ?_;rw[if_neg (by simp)]
      refine dw_skip ?_;refine dwk [(9,.v (.int .i64 ((j+1:Nat):Int)))] TL8_ok hnt fun K hK=>?_;refine And.intro (dintE (by rw[IntWalk.i64_in _ (by omega)];omega)) ?_;refine hK _ _ ?_;clear hK K
      refine⟨⟨j+1,fun i h1 h2=>?_⟩,by dsimp only;omega,VS.toA⟩
      by_cases he:i=j
      ·subst he;rw[hlo,hla];simp[hx]
      ·exact hj i h1 (by omega)
   ·cases hla:lowsB l[j].args with
    | false=>
     have hf:lowsB l=false:=all_false hlt (by rw[hlo,hla];simp)
     rw[hf]
     rw[hla] at hi
     refine dwk [(12,.q [.sl 2 (eTys l[j].binds) none,.v (.int .i64 l[j].kind),.v (.int .i64 l[j].index),.sl 4 (eTms l[j].args) none]),(16,.v (.bool false)),(29,.q [.sl 2 (eTys l[j].binds) none,.v (.int .i64 l[j].kind),.v (.int .i64 l[j].index),.sl 4 (eTms l[j].args) none])] TL8_ok hnt fun K hK=>?_;refine And.intro (hb) ?_;refine And.intro (VLe.of_eq (by rw[hq])) ?_;refine And.intro (VLe.of_eq (by simp[hk])) ?_
     refine And.intro (hb) ?_;refine And.intro (VLe.of_eq (by rw[hq])) ?_;refine dcl (hi) ?_;refine hK _ _ ?_;clear hK K;refine dw_cond (t:=true) rfl ?_;rw[if_pos rfl];refine dw_seq ?_;refine dwk [] TL8_ok hnt fun _ z9=>z9 _ _ ?_;refine dw_ret ?_
     exact retv (N:=0) (.inr rfl) rfl (VLe.refl _) trivial
    | true=>
     rw[hla] at hi
     refine dwk [(12,.q [.sl 2 (eTys l[j].binds) none,.v (.int .i64 l[j].kind),.v (.int .i64 l[j].index),.sl 4 (eTms l[j].args) none]),(16,.v (.bool false)),(29,.q [.sl 2 (eTys l[j].binds) none,.v (.int .i64 l[j].kind),.v (.int .i64 l[j].index),.sl 4 (eTms l[j].args) none])] TL8_ok hnt fun K hK=>?_;refine And.intro (hb) ?_;refine And.intro (VLe.of_eq (by rw[hq])) ?_;refine And.intro (VLe.of_eq (by simp[hk])) ?_
     refine And.intro (hb) ?_;refine And.intro (VLe.of_eq (by rw[hq])) ?_;refine dcl (hi) ?_;refine hK _ _ ?_;clear hK K;refine dw_cond (t:=false) rfl ?_;rw[if_neg (by simp)];refine dw_skip ?_;refine dwk [(9,.v (.int .i64 ((j+1:Nat):Int)))] TL8_ok hnt fun K hK=>?_;refine And.intro (dintE (by rw[IntWalk.i64_in _ (by omega)];omega)) ?_;refine hK _ _ ?_;clear hK K
     refine⟨⟨j+1,fun i h1 h2=>?_⟩,by dsimp only;omega,VS.toA⟩
     by_cases he:i=j
     ·subst he;rw[hlo,hla];simp[hk]
     ·exact hj i h1 (by omega)
  ·have hf:lowsB l=true:=by
    rw[lowsB_all,List.all_eq_true]
    intro t ht
    obtain⟨i,hi,rfl⟩:=List.getElem_of_mem ht
    exact hj i hi (by omega)
   rw[hf]
   refine dwk [(7,.v (.bool false))] TL8_ok hnt fun K hK=>?_;refine And.intro (dfalse (by rw[eTms_len];omega)) ?_;refine hK _ _ ?_;clear hK K;refine dw_cond (t:=false) rfl ?_;rw[if_neg (by simp)];refine dw_exit ?_;refine dw_seq ?_;refine dwk [] TL8_ok hnt fun _ z9=>z9 _ _ ?_;refine dw_ret ?_
   exact retv (N:=0) (.inr rfl) rfl (VLe.refl _) trivial
theorem low_args:∀ (t:Tm),Wide t→PureC Tryz.prog 78 [.sl 4 (eTms t.args) none] (.v (.bool (lowsB t.args))):=by
 intro t
 induction t using Tm.ind with
 | h bs k i a ih=>
  intro hw
  obtain⟨_,w2,w3⟩:=hw.inv
  exact low_list a (by omega) fun u hu=>ih u hu (w3 u hu)
theorem low_d (l:List Tm)(hl:l.length≤1000000)(hw:∀ t∈l,Wide t):PureC Tryz.prog 78 [.sl 4 (eTms l) none] (.v (.bool (lowsB l))):=low_list l hl fun t ht=>low_args t (hw t ht)
theorem wide_full:∀ t:Tm,t.full≤100000→Wide t:=by
 intro t
 induction t using Tm.ind with
 | h bs k i a ih=>
  intro h
  rw[Tm.full_eq] at h
  have h1:=Ty.le_sizes bs
  have key:∀ l:List Tm,l.length≤Tm.fulls l∧∀ u∈l,u.full≤Tm.fulls l:=by
   intro l
   induction l with
   | nil=>exact⟨by simp,nofun⟩
   | cons t l ihl=>
    have ht:1≤t.full:=by obtain⟨_,_,_,_⟩:=t;rw[Tm.full_eq];omega
    simp only[Tm.fulls,List.length_cons]
    refine⟨by omega,fun u hu=>?_⟩
    rcases List.mem_cons.1 hu with rfl | hu
    ·omega
    ·have:=ihl.2 u hu;omega
  have h2:=key a
  exact .mk _ _ _ _ (by omega) (by omega) fun t ht=>ih t ht (by have:=h2.2 t ht;omega)
def TP2_41:TI:=⟨4,true,[Value.slice none 0 0,Value.int IntKind.i64 0,Value.int IntKind.i64 0,Value.slice none 0 0],[(0,1,false),(1,2,true),(3,1,false)],none,64,6,none,false⟩
theorem TP2_41_ok:TypOk Tryz.prog 41 TP2_41:=by constructor <;> kernel_rfl
def TP2_3:TI:=⟨1,false,[Value.int IntKind.i64 0],[],none,8,2,none,false⟩
theorem TP2_3_ok:TypOk Tryz.prog 3 TP2_3:=by constructor <;> kernel_rfl
def TP2_39:TI:=⟨1,false,[Value.slice none 0 0],[],some 41,24,5,none,false⟩
theorem TP2_39_ok:TypOk Tryz.prog 39 TP2_39:=by constructor <;> kernel_rfl
def TP2_45:TI:=⟨1,false,[Value.int IntKind.i64 0],[],none,8,2,none,false⟩
theorem TP2_45_ok:TypOk Tryz.prog 45 TP2_45:=by constructor <;> kernel_rfl
def TP2_33:TI:=⟨1,false,[Value.slice none 0 0],[],some 44,24,5,none,false⟩
theorem TP2_33_ok:TypOk Tryz.prog 33 TP2_33:=by constructor <;> kernel_rfl
def TP2_182:TI:=⟨1,false,[Value.map none],[],none,8,7,some 3,false⟩
theorem TP2_182_ok:TypOk Tryz.prog 182 TP2_182:=by constructor <;> kernel_rfl
def TP2_38:TI:=⟨2,true,[Value.int IntKind.i64 0,Value.int IntKind.i64 0],[(0,1,false),(1,1,false)],none,16,6,none,true⟩
theorem TP2_38_ok:TypOk Tryz.prog 38 TP2_38:=by constructor <;> kernel_rfl
def TP2_59:TI:=⟨1,false,[Value.slice none 0 0],[],some 3,24,5,none,false⟩
theorem TP2_59_ok:TypOk Tryz.prog 59 TP2_59:=by constructor <;> kernel_rfl
def TP2_208:TI:=⟨1,false,[Value.nilFunc],[],none,8,8,none,false⟩
theorem TP2_208_ok:TypOk Tryz.prog 208 TP2_208:=by constructor <;> kernel_rfl
def TP2_192:TI:=⟨1,false,[Value.slice none 0 0],[],some 33,24,5,none,false⟩
theorem TP2_192_ok:TypOk Tryz.prog 192 TP2_192:=by constructor <;> kernel_rfl
def TP2_44:TI:=⟨2,true,[Value.slice none 0 0,Value.int IntKind.i64 0],[(0,1,false),(1,1,false)],none,32,6,none,false⟩
theorem TP2_44_ok:TypOk Tryz.prog 44 TP2_44:=by constructor <;> kernel_rfl
def TP2:List (Nat×TI):=[(41,TP2_41),(3,TP2_3),(39,TP2_39),(45,TP2_45),(33,TP2_33),(182,TP2_182),(38,TP2_38),(59,TP2_59),(208,TP2_208),(192,TP2_192),(44,TP2_44)]
theorem TP2_ok:TabOk Tryz.prog TP2:=((((((((((((TabOk.nil _).cons TP2_44_ok).cons TP2_192_ok).cons TP2_208_ok).cons TP2_59_ok).cons TP2_38_ok).cons TP2_182_ok).cons TP2_33_ok).cons TP2_45_ok).cons TP2_39_ok).cons TP2_3_ok).cons TP2_41_ok)
def tkR (n:Int)(vs:List Int)(e:Int):List (Key×D):=[(.c 0 0,.v (.int .i64 n)),(.c 1 0,.v (.int .i64 vs.length)),(.c 2 0,.mo 3),(.o 3,.mp (eMp (Pn.atL vs 0))),(.c 4 0,.v (.int .i64 e))]
abbrev tkF:D:=.fn 190 [.p 0 0,.p 1 0,.p 2 0,.p 4 0]
def goE (n:Int)(vs:List Int)(d e:Int):Int:=if d<n∧Pn.ix d vs=none then 9 else e
theorem ix_lt {x:Int}:∀ {l:List Int} {k:Nat},Pn.ix x l=some k→k<l.length
 | v :: l,k,h=>by
  rw[Pn.ix] at h
  split at h
  ·cases h;simp
  ·cases hx:Pn.ix x l with
   | none=>rw[hx] at h;cases h
   | some j=>rw[hx] at h;cases h;have:=ix_lt hx;simpa using this
theorem go_rng (n:Int)(vs:List Int)(d:Int)(h0:0≤d)(h1:d≤1000000)(hn:0≤n∧n≤100000)(hl:vs.length≤10000):-1≤Pn.go n vs d∧Pn.go n vs d≤1010000:=by
 unfold Pn.go
 split
 ·omega
 ·cases hx:Pn.ix d vs with
  | none=>dsimp only;omega
  | some k=>have:=ix_lt hx;dsimp only;omega
theorem take1_d (n:Int)(vs:List Int)(d e:Int)(hd:0≤d∧d≤1000000)(hn:0≤n∧n≤1000000)(hl:vs.length≤100000):
  CallC Tryz.prog 190 [.v (.int .i64 d),.p 0 0,.p 1 0,.p 2 0,.p 4 0] (tkR n vs e) (tkR n vs (goE n vs d e)) (.v (.int .i64 (Pn.go n vs d))):=by
 have hfi:=atL_find d vs 0
 refine call_of_dw 5 29 [ResultVar.tmp 6] TP2_ok (by kernel_rfl) Tryz.func190 rfl Tryz.ntmps190 rfl (by simp) ?dwords ?dbody
 case dwords=>simp[wordsOk,D.ok,D.oks,D.okss,rnames,inN,ckey,tkR,atL_ok]
 case dbody=>
  intro cx hnt hn0
  dsimp only[tkR]
  refine dw_seq ?_;refine dwk [] TP2_ok hnt fun _ z9=>z9 _ _ ?_
  by_cases h1:n≤d
  ·have hg:Pn.go n vs d=d-n+vs.length:=if_pos h1
   have he:goE n vs d e=e:=if_neg (by omega)
   rw[hg,he]
   refine dw_seq ?_;refine dw_seq ?_;refine dwk [(11,.v (.bool true))] TP2_ok hnt fun K hK=>?_;refine And.intro auT ?_;refine hK _ _ ?_;clear hK K;refine dw_cond (t:=true) rfl ?_;rw[if_pos rfl];refine dw_seq ?_;refine dwk [(14,.v (.int .i64 (d-n))),(16,.v (.int .i64 (d-n+vs.length)))] TP2_ok hnt fun K hK=>?_;refine And.intro auI ?_;refine And.intro auI ?_;refine hK _ _ ?_;clear hK K
   refine dw_ret ?_
   exact reta rfl
  ·skip
   refine dw_seq ?_;refine dw_seq ?_;refine dwk [(11,.v (.bool false))] TP2_ok hnt fun K hK=>?_;refine And.intro auF ?_;refine hK _ _ ?_;clear hK K;refine dw_cond (t:=false) rfl ?_;rw[if_neg (by simp)]
   cases hx:Pn.ix d vs with
   | none=>
    have hg:Pn.go n vs d=(vs.length:Int)-1-0:=by unfold Pn.go;rw[if_neg h1,hx]
    have he:goE n vs d e=9:=if_pos ⟨by omega,hx⟩
    rw[hg,he]
    rw[hx] at hfi
    refine dw_skip ?_;refine dw_seq ?_;refine dwk [(20,.tu [.v (.int .i64 0),.v (.bool false)])] TP2_ok hnt fun K hK=>?_;refine And.intro (VLe.of_eq (by rw[lookD,hfi];rfl)) ?_;refine hK _ _ ?_;clear hK K;refine dw_seq ?_;refine dw_seq ?_;refine dwk [] TP2_ok hnt fun _ z9=>z9 _ _ ?_;refine dw_cond (t:=true) rfl ?_;rw[if_pos rfl];refine dwk [] TP2_ok hnt fun K hK=>?_
    refine hK _ _ ?_;clear hK K;refine dw_seq ?_;refine dwk [(26,.v (.int .i64 (↑vs.length-1))),(28,.v (.int .i64 (↑vs.length-1-0)))] TP2_ok hnt fun K hK=>?_;refine And.intro auI ?_;refine And.intro auI ?_;refine hK _ _ ?_;clear hK K;refine dw_ret ?_
    exact reta rfl
   | some k=>
    have hg:Pn.go n vs d=(vs.length:Int)-1-(k:Int):=by unfold Pn.go;rw[if_neg h1,hx]
    have he:goE n vs d e=e:=if_neg (by rw[hx];simp)
    have hk:k≤100000:=Nat.le_trans (Nat.le_of_lt (ix_lt hx)) hl
    rw[hg,he]
    rw[hx,Option.map_some,Nat.zero_add] at hfi
    refine dw_skip ?_;refine dw_seq ?_;refine dwk [(20,.tu [.v (.int .i64 ↑k),.v (.bool true)])] TP2_ok hnt fun K hK=>?_;refine And.intro (VLe.of_eq (by rw[lookD,hfi];rfl)) ?_;refine hK _ _ ?_;clear hK K;refine dw_seq ?_;refine dw_seq ?_;refine dwk [] TP2_ok hnt fun _ z9=>z9 _ _ ?_;refine dw_cond (t:=false) rfl ?_;rw[if_neg (by simp)];refine dw_skip ?_;refine dw_seq ?_
    refine dwk [(26,.v (.int .i64 (↑vs.length-1))),(28,.v (.int .i64 (↑vs.length-1 - ↑k)))] TP2_ok hnt fun K hK=>?_;refine And.intro auI ?_;refine And.intro auI ?_;refine hK _ _ ?_;clear hK K;refine dw_ret ?_
    exact reta rfl
namespace Pn
theorem tk_eq (n:Int)(vs:List Int)(bs:List Ty)(k i:Int)(a:List Tm)(ins:Int):tk n vs (.mk bs k i a) ins=.mk bs k (if k=0∧ins+(bs.length:Nat)≤i then ins+(bs.length:Nat)+go n vs (i-(ins+(bs.length:Nat))) else i) (tks n vs a (ins+(bs.length:Nat))):=by rw[tk]
theorem tks_map (n:Int)(vs:List Int)(ins:Int):∀ a:List Tm,tks n vs a ins=a.map fun t=>tk n vs t ins
 | []=>by rw[tks];rfl
 | t :: a=>by rw[tks,tks_map n vs ins a];rfl
theorem tkBs_all (n:Int)(vs:List Int)(ins:Int):∀ a:List Tm,tkBs n vs a ins=a.all fun t=>tkB n vs t ins
 | []=>by rw[tkBs];rfl
 | t :: a=>by rw[tkBs,tkBs_all n vs ins a];rfl
def erB (b:Bool)(e:Int):Int:=if b then e else 9
theorem erB_and (b c:Bool)(e:Int):erB c (erB b e)=erB (b&&c) e:=by cases b <;> cases c <;> rfl
end Pn
set_option maxHeartbeats 2000000 in
theorem pturned_d (n:Int)(vs:List Int)(hn:0≤n∧n≤100000)(hl:vs.length≤10000):∀ (t:Tm) (ins e:Int),0≤ins→ins+t.full≤100000→lowB t=true→t.full≤100000 →
  CallC Tryz.prog 189 [.ag (eTm t),.v (.int .i64 ins),tkF] (tkR n vs e) (tkR n vs (Pn.erB (Pn.tkB n vs t ins) e)) (.ag (eTm (Pn.tk n vs t ins))):=by
 intro t
 induction t using Tm.ind with
 | h bs k i a ih=>
 intro ins e h0 h1 hlow hz
 rw[Tm.full_eq] at h1 hz
 rw[lowB_eq] at hlow
 simp only[Bool.and_eq_true,Bool.not_eq_true',Tm.kind,Tm.index,Tm.args] at hlow
 have hbl:bs.length≤Ty.sizes bs:=Ty.le_sizes bs
 have hal:=fulls_len a
 obtain⟨m,hm⟩:∃ m:Int,ins+(bs.length:Nat)=m:=⟨_,rfl⟩
 obtain⟨i',hi'⟩:∃ i',(if k=0∧m≤i then m+Pn.go n vs (i-m) else i)=i':=⟨_,rfl⟩
 obtain⟨e1,he1⟩:∃ e1,(if k=0∧m≤i then goE n vs (i-m) e else e)=e1:=⟨_,rfl⟩
 have hL:Pn.tk n vs (.mk bs k i a) ins=.mk bs k i' (Pn.tks n vs a m):=by rw[Pn.tk_eq,hm,hi']
 have hB:Pn.erB (Pn.tkB n vs (.mk bs k i a) ins) e=Pn.erB (Pn.tkBs n vs a m) e1:=by
  rw[Pn.tkB,hm,←he1,←Pn.erB_and]
  congr 1
  by_cases hk:k=0∧m≤i
  ·rw[if_pos hk,decide_eq_true hk.1,decide_eq_true hk.2]
   unfold goE Pn.erB
   by_cases h2:i-m<n
   ·cases hx:Pn.ix (i-m) vs with
    | none=>simp[h2]
    | some j=>simp
   ·simp[h2]
  ·rw[if_neg hk]
   have:(decide (k=0)&&decide (m≤i))=false:=by
    by_cases h2:k=0
    ·simp[h2];omega
    ·simp[h2]
   rw[this];rfl
 rw[hL,hB,Pn.tks_map,Pn.tkBs_all,eTm_eq,eTm_eq]
 refine call_of_dw 5 59 [ResultVar.cell 6 41] TP2_ok (by kernel_rfl) Tryz.func189 rfl Tryz.ntmps189 rfl (by simp) ?dwords ?dbody
 case dwords=>simp[wordsOk,D.ok,D.oks,D.okss,rnames,inN,ckey,tkR,atL_ok,eTms_ok,eTys_ok]
 case dbody=>
  intro cx hnt hn0
  dsimp only[tkR,Tm.binds,Tm.kind,Tm.index,Tm.args]
  refine dw_seq ?_;refine dwk [] TP2_ok hnt fun _ z9=>z9 _ _ ?_;refine dw_seq ?_;refine dwk [(14,.v (.int .i64 (m)))] TP2_ok hnt fun K hK=>?_;refine And.intro (dintE (by rw[eTys_len,IntWalk.i64_in _ (by omega)];omega)) ?_;refine hK _ _ ?_;clear hK K
  refine dw_cut (τ:=[(.t 1,.v (.int .i64 m)),(.t 2,tkF),(.t 3,.p 5 0),(.t 6,.p 6 0),(.c 5 0,.sl 2 (eTys bs) none),(.c 5 1,.v (.int .i64 k)),(.c 5 2,.v (.int .i64 i')),(.c 5 3,.sl 4 (eTms a) none),(.c 6 0,.v (.slice none 0 0)),(.c 6 1,.v (.int .i64 0)),(.c 6 2,.v (.int .i64 0)),(.c 6 3,.v (.slice none 0 0)),(.c 0 0,.v (.int .i64 n)),(.c 1 0,.v (.int .i64 vs.length)),(.c 2 0,.mo 3),(.o 3,.mp (eMp (Pn.atL vs 0))),(.c 4 0,.v (.int .i64 e1))]) (N1:=7) ?_ ?_
  ·by_cases hk:k=0
   ·by_cases hi:m≤i
    ·rw[if_pos ⟨hk,hi⟩] at hi' he1
     have hix:i≤900000:=by
      by_cases h9:900000<i
      ·exact absurd hlow.1 (by simp[hk,h9])
      ·omega
     have hc:=take1_d n vs (i-m) e ⟨by omega,by omega⟩ ⟨hn.1,by omega⟩ (by omega)
     rw[he1] at hc
     refine dw_seq ?_;refine dwk [(18,.v (.bool true)),(24,.v (.bool true))] TP2_ok hnt fun K hK=>?_;refine And.intro auT ?_;refine And.intro auT ?_;refine hK _ _ ?_;clear hK K;refine dw_cond (t:=true) rfl ?_;rw[if_pos rfl];refine dwk [(32,.v (.int .i64 (i-m))),(34,.v (.int .i64 (i')))] TP2_ok hnt fun K hK=>?_;refine And.intro auI ?_;refine dcl (hc) ?_;refine And.intro (dintE (by rw[←hi'];exact IntWalk.i64_in _ (by have:=go_rng n vs (i-m) (by omega) (by omega) hn hl;omega))) ?_
     refine hK _ _ ?_;clear hK K
     exact cut_ok VS.toA
    ·rw[if_neg (fun h=>hi h.2)] at hi' he1
     subst hi' he1
     refine dw_seq ?_;refine dwk [(18,.v (.bool true)),(24,.v (.bool false))] TP2_ok hnt fun K hK=>?_;refine And.intro auT ?_;refine And.intro auF ?_;refine hK _ _ ?_;clear hK K;refine dw_cond (t:=false) rfl ?_;rw[if_neg (by simp)];refine dw_skip ?_
     exact cut_ok VS.toA
   ·rw[if_neg (fun h=>hk h.1)] at hi' he1
    subst hi' he1
    refine dw_seq ?_;refine dwk [(18,.v (.bool false))] TP2_ok hnt fun K hK=>?_;refine And.intro auF ?_;refine hK _ _ ?_;clear hK K;refine dw_cond (t:=false) rfl ?_;rw[if_neg (by simp)];refine dw_skip ?_
    exact cut_ok VS.toA
  ·skip
   refine dw_seq ?_;refine dwk [(39,.v (.int .i64 (↑a.length)))] TP2_ok hnt fun K hK=>?_;refine And.intro (dintE (by rw[eTms_len])) ?_;refine And.intro ((by omega)) ?_;refine hK _ _ ?_;clear hK K;refine dw_seq ?_;refine dw_seq ?_;refine dwk [(43,.v (.int .i64 (↑a.length)))] TP2_ok hnt fun K hK=>?_;refine And.intro (dintE (by rw[eTms_len])) ?_;refine hK _ _ ?_;clear hK K;refine dw_block ?_
   refine dw_loop (ι:=Nat) (fun j=>[(.t 44,.v (.int .i64 ↑j)),(.t 7,.sl 4 (eTms ((a.take j).map fun t=>Pn.tk n vs t m)) (some 10)),(.r 10,.rw 41 4 j),(.t 1,.v (.int .i64 m)),(.t 2,tkF),(.t 3,.p 5 0),(.t 6,.p 6 0),(.t 42,.sl 4 (eTms a) none),(.t 43,.v (.int .i64 ↑a.length)),(.c 5 0,.sl 2 (eTys bs) none),(.c 5 1,.v (.int .i64 k)),(.c 5 2,.v (.int .i64 i')),(.c 5 3,.sl 4 (eTms a) none),(.c 6 0,.v (.slice none 0 0)),(.c 6 1,.v (.int .i64 0)),(.c 6 2,.v (.int .i64 0)),(.c 6 3,.v (.slice none 0 0)),(.c 0 0,.v (.int .i64 n)),(.c 1 0,.v (.int .i64 vs.length)),(.c 2 0,.mo 3),(.o 3,.mp (eMp (Pn.atL vs 0))),(.c 4 0,.v (.int .i64 (Pn.erB ((a.take j).all fun t=>Pn.tkB n vs t m) e1)))]) 11 (fun j=>a.length-j) (0) ((VS.toK (by omega) (by repeat first | exact trivial | refine And.intro (And.intro (by first | rfl | simp[D.ok,D.oks,D.okss,D.okm,upto,keyOk,Pn.erB,eTms]) (by first | exact Or.inl rfl | exact Or.inr ⟨_,rfl,(by repeat first | exact VLe.refl _ | exact VLe.nil _ | exact VLe.untag _ _ _ | refine VLe.ag ?_ | refine VLe.tu ?_ | refine VLeL.cons ?_ ?_ | exact VLeL.nil),trivial⟩ | simp[get,Key.eq,Pn.erB,eTms])) ?_))) fun j=>?_
   by_cases hlt:j<a.length
   ·have hmem:=List.getElem_mem hlt
    have hfm:=full_mem hmem
    have hih:=ih a[j] hmem m (Pn.erB ((a.take j).all fun t=>Pn.tkB n vs t m) e1) (by omega) (by omega) (by have:=hlow.2;rw[lowsB_all,List.all_eq_true] at this;exact this _ hmem) (by omega)
    rw[Pn.erB_and,eTm_eq,eTm_eq] at hih
    have hta:a.take (j+1)=a.take j++[a[j]]:=by rw[List.take_add_one,List.getElem?_eq_getElem hlt];rfl
    have hall:((a.take (j+1)).all fun t=>Pn.tkB n vs t m)=(((a.take j).all fun t=>Pn.tkB n vs t m)&&Pn.tkB n vs a[j] m):=by rw[hta,List.all_append];simp
    rw[←hall] at hih
    have hll:(eTms ((a.take j).map fun t=>Pn.tk n vs t m)).length=j:=by rw[eTms_len,List.length_map,List.length_take];omega
    refine dw_seq ?_;refine dwk [(45,.v (.bool true))] TP2_ok hnt fun K hK=>?_;refine And.intro auT ?_;refine hK _ _ ?_;clear hK K;refine dw_seq ?_;refine dw_cond (t:=true) rfl ?_;rw[if_pos rfl];refine dw_skip ?_;refine dw_seq ?_;refine dw_block ?_;refine dw_seq ?_;refine dwk [(46,.q [.sl 2 (eTys a[j].binds) none,.v (.int .i64 a[j].kind),.v (.int .i64 a[j].index),.sl 4 (eTms a[j].args) none])] TP2_ok hnt fun K hK=>?_
    refine And.intro (elo (eTms_len a)) ?_;refine And.intro (elv (eTms_getD a j) (eTm_eq _)) ?_;refine hK _ _ ?_;clear hK K;refine dwk [(54,.sl 4 (eTms ((a.take (j+1)).map fun t=>Pn.tk n vs t m)) (some 10))] TP2_ok hnt fun K hK=>?_;refine dcl (hih) ?_;refine And.intro (⟨by rw[hll],by rw[hll];simp;omega⟩) ?_;refine And.intro (VLe.of_eq (by rw[hta,List.map_append,eTms_append];simp only[List.map_cons,List.map_nil,eTms];rw[eTm_eq (Pn.tk n vs a[j] m)])) ?_
    refine hK _ _ ?_;clear hK K;refine dwk [(55,.v (.int .i64 (↑(j+1))))] TP2_ok hnt fun K hK=>?_;refine And.intro auI ?_;refine hK _ _ ?_;clear hK K
    have hmn:min j a.length=j:=Nat.min_eq_left (by omega)
    refine⟨j+1,by first | omega | (dsimp only;omega),(VS.toK (by omega) (by repeat first | exact trivial | refine And.intro (And.intro (by first | rfl | simp[D.ok,D.oks,D.okss,D.okm,upto,keyOk,eTms_len,hmn]) (by first | exact Or.inl rfl | exact Or.inr ⟨_,rfl,(by repeat first | exact VLe.refl _ | exact VLe.nil _ | exact VLe.untag _ _ _ | refine VLe.ag ?_ | refine VLe.tu ?_ | refine VLeL.cons ?_ ?_ | exact VLeL.nil),trivial⟩ | simp[get,Key.eq,eTms_len,hmn])) ?_))⟩
   ·rw[List.take_of_length_le (by omega)]
    refine dw_seq ?_;refine dwk [(45,.v (.bool false))] TP2_ok hnt fun K hK=>?_;refine And.intro auF ?_;refine hK _ _ ?_;clear hK K;refine dw_seq ?_;refine dw_cond (t:=false) rfl ?_;rw[if_neg (by simp)];refine dw_exit ?_;refine dw_seq ?_;refine dwk [] TP2_ok hnt fun _ z9=>z9 _ _ ?_;refine dw_seq ?_;refine dwk [] TP2_ok hnt fun _ z9=>z9 _ _ ?_
    refine dw_ret ?_
    exact reta rfl
theorem eTm_zero:eTm Tm.zero=[.sl 2 [] none,.v (.int .i64 0),.v (.int .i64 0),.sl 4 [] none]:=rfl
def tkρ (a b c d e:Nat):Nat→Nat:=fun k=>if k=0 then a else if k=1 then b else if k=2 then c else if k=3 then d else e
theorem pturned_at (a b c d e:Nat)(hd:[a,b,c,d,e].Nodup)(n:Int)(vs:List Int)(hn:0≤n∧n≤100000)(hl:vs.length≤10000)(t:Tm)(ins er:Int)(h0:0≤ins)(h1:ins+t.full≤100000)(h2:lowB t=true)(h3:t.full≤100000):
  CallC Tryz.prog 189 [.ag (eTm t),.v (.int .i64 ins),.fn 190 [.p a 0,.p b 0,.p c 0,.p e 0]]
   [(.c a 0,.v (.int .i64 n)),(.c b 0,.v (.int .i64 vs.length)),(.c c 0,.mo d),(.o d,.mp (eMp (Pn.atL vs 0))),(.c e 0,.v (.int .i64 er))]
   [(.c a 0,.v (.int .i64 n)),(.c b 0,.v (.int .i64 vs.length)),(.c c 0,.mo d),(.o d,.mp (eMp (Pn.atL vs 0))),(.c e 0,.v (.int .i64 (Pn.erB (Pn.tkB n vs t ins) er)))] (.ag (eTm (Pn.tk n vs t ins))):=by
 have h:=(pturned_d n vs hn hl t ins er h0 h1 h2 h3).ren (tkρ a b c d e) (by simp[renOk,tkR,D.ok,D.oks,rnames,inN,ckey,eTm_ok,eTms_ok,eTys_ok,atL_ok]) (by
  intro k h1 k' h2
  simp only[List.nodup_cons,List.mem_cons,List.not_mem_nil,or_false,not_or] at hd
  obtain⟨⟨d1,d2,d3,d4⟩,⟨d5,d6,d7⟩,⟨d8,d9⟩,d10,_⟩:=hd
  simp[rnames,tkR] at h1 h2
  rcases h1 with rfl | rfl | rfl | rfl | rfl <;> rcases h2 with rfl | rfl | rfl | rfl | rfl <;> simp[tkρ, *,Ne.symm,eq_comm])
 have hm:D.renm (tkρ a b c d e) (eMp (Pn.atL vs 0))=eMp (Pn.atL vs 0):=D.renm_id (f:=fun _=>false) (g:=fun _=>false) (fun _ h=>by cases h) _ (atL_ok _ _ _ _)
 simpa[D.ren,D.rens,eTm_ren,eTms_ren,tkR,renE,Key.ren,tkρ,hm] using h
namespace Pn
theorem tks_full (n:Int)(vs:List Int)(ins:Int):∀ (a:List Tm) (h:∀ t∈a,∀ ins,(tk n vs t ins).full=t.full),Tm.fulls (tks n vs a ins)=Tm.fulls a
 | [],_=>by rw[tks]
 | t :: a,h=>by rw[tks,Tm.fulls,Tm.fulls,h t (by simp),tks_full n vs ins a fun t ht=>h t (by simp[ht])]
theorem tk_full (n:Int)(vs:List Int)(t:Tm):∀ ins,(tk n vs t ins).full=t.full:=by
 induction t using Tm.ind with
 | h bs k i a ih=>intro ins;rw[tk_eq,Tm.full_eq,Tm.full_eq,tks_full n vs _ a ih]
theorem tk_fit (n:Int)(vs:List Int)(hn:0≤n∧n≤100000)(hl:vs.length≤10000)(t:Tm):∀ ins,0≤ins→ins+t.full≤100000→lowB t=true→t.Fit→(tk n vs t ins).Fit:=by
 induction t using Tm.ind with
 | h bs k i a ih=>
  intro ins h0 h1 hlow hf
  rw[Tm.full_eq] at h1
  have hbl:bs.length≤Ty.sizes bs:=Ty.le_sizes bs
  rw[lowB_eq] at hlow
  simp only[Bool.and_eq_true,Bool.not_eq_true',Tm.kind,Tm.index,Tm.args] at hlow
  rw[tk_eq]
  obtain⟨f1,f2,f3⟩:=Tm.fit_iff.1 hf
  have hi:-9223372036854775808≤(if k=0∧ins+(bs.length:Nat)≤i then ins+(bs.length:Nat)+go n vs (i-(ins+(bs.length:Nat))) else i)∧(if k=0∧ins+(bs.length:Nat)≤i then ins+(bs.length:Nat)+go n vs (i-(ins+(bs.length:Nat))) else i)≤9223372036854775807:=by
   split
   ·rename_i h
    have h9:i≤900000:=by
     by_cases h9:900000<i
     ·exact absurd hlow.1 (by simp[h.1,h9])
     ·omega
    have:=go_rng n vs (i-(ins+(bs.length:Nat))) (by omega) (by omega) hn hl
    omega
   ·exact⟨f1,f2⟩
  refine Tm.fit_iff.2 ⟨hi.1,hi.2,fun u hu=>?_⟩
  rw[tks_map] at hu
  obtain⟨t,ht,rfl⟩:=List.mem_map.1 hu
  have:=full_mem ht
  exact ih t ht _ (by omega) (by omega) (by have:=hlow.2;rw[lowsB_all,List.all_eq_true] at this;exact this _ ht) (f3 t ht)
end Pn
set_option maxHeartbeats 2000000 in
theorem ptake_d (t:Tm)(binds:List Ty)(vs:List Int)(hb:binds.length≤10000)(hl:vs.length≤10000)(hz:Ty.sizes (Pn.types binds vs)+t.full≤80000)(hlow:lowB t=true)(hfit:t.Fit):
  PureC Tryz.prog 167 [.ag (eTm t),.sl 2 (eTys binds) none,.sl 1 (eIs vs) none] (.tu [.ag (eTm (Pn.take t binds vs).1),.v (.int .i64 (Pn.take t binds vs).2)]):=by
 have hty:=fun(h:Pn.mayV binds.length vs=true)=>ptypes_d binds vs (by omega) (by omega) (Pn.mayL_mem _ vs [] h)
 have hcat:=concat_d [Pn.types binds vs,t.binds] (by simp[lens];have:=full_args t;have:=Ty.le_sizes t.binds;have:=Ty.le_sizes (Pn.types binds vs);omega) (by simp)
 have hcopy:=copy_d (.mk (Pn.types binds vs++t.binds) (Pn.tk binds.length vs t 0).kind (Pn.tk binds.length vs t 0).index (Pn.tk binds.length vs t 0).args) (by
   rw[Tm.full_eq,Ty.sizes_append]
   have h1:=Pn.tk_full binds.length vs t 0
   have h2:=full_args (Pn.tk binds.length vs t 0)
   have h3:=full_args t
   have h4:(Pn.tk binds.length vs t 0).binds=t.binds:=by obtain⟨b,k,i,a⟩:=t;rw[Pn.tk_eq];rfl
   rw[h4] at h2
   omega) (by
   have:=Pn.tk_fit binds.length vs ⟨by omega,by omega⟩ hl t 0 (by omega) (by omega) hlow hfit
   generalize Pn.tk binds.length vs t 0=u at this ⊢
   obtain⟨b,k,i,a⟩:=u
   exact Tm.fit_iff.2 (Tm.fit_iff.1 this))
 have htn:=fun er=>pturned_at 7 8 17 13 22 (by decide) binds.length vs ⟨by omega,by omega⟩ hl t 0 er (by omega) (by omega) hlow (by omega)
 have hno:=places_no binds.length vs (by omega)
 have hok:=places_ok binds.length vs (by omega)
 simp only[List.flatten_cons,List.flatten_nil,List.append_nil] at hcat
 have h4:(Pn.tk binds.length vs t 0).binds=t.binds:=by obtain⟨b,k,i,a⟩:=t;rw[Pn.tk_eq];rfl
 unfold Pn.take
 cases hm:Pn.mayV binds.length vs with
 | false=>
  have hno:=hno hm
  rw[if_neg (by simp),eTm_zero,eTm_eq]
  refine calldw 0 44 [ResultVar.cell 6 41,ResultVar.tmp 7] TP2_ok Tryz.func167 rfl Tryz.ntmps167 rfl fun cx hnt hn0=>?_
  ·skip
   refine dw_seq ?_;refine dwk [] TP2_ok hnt fun _ z9=>z9 _ _ ?_;refine dw_seq ?_;refine dwk [(15,.v (.int .i64 (↑binds.length))),(17,.v (.int .i64 (↑vs.length)))] TP2_ok hnt fun K hK=>?_;refine And.intro (dintE (by rw[eTys_len])) ?_;refine And.intro (dintE (by rw[eIs_len])) ?_;refine hK _ _ ?_;clear hK K;refine dw_seq ?_;refine dwk [] TP2_ok hnt fun K hK=>?_
   refine dcl (hno) ?_;refine hK _ _ ?_;clear hK K;refine dw_seq ?_;refine dw_seq ?_;refine dwk [] TP2_ok hnt fun _ z9=>z9 _ _ ?_;refine dw_cond (t:=true) rfl ?_;rw[if_pos rfl];refine dw_seq ?_;refine dwk [] TP2_ok hnt fun _ z9=>z9 _ _ ?_;refine dw_ret ?_
   exact reta rfl
 | true=>
  have hok:=hok hm
  have hty:=hty hm
  rw[if_pos rfl]
  have htn:=htn 0
  cases hB:Pn.tkB binds.length vs t 0 with
  | false=>
   rw[hB] at htn
   rw[if_neg (by simp),eTm_zero,eTm_eq]
   rw[eTm_eq,eTm_eq] at htn
   refine calldw 0 44 [ResultVar.cell 6 41,ResultVar.tmp 7] TP2_ok Tryz.func167 rfl Tryz.ntmps167 rfl fun cx hnt hn0=>?_
   ·skip
    refine dw_seq ?_;refine dwk [] TP2_ok hnt fun _ z9=>z9 _ _ ?_;refine dw_seq ?_;refine dwk [(15,.v (.int .i64 (↑binds.length))),(17,.v (.int .i64 (↑vs.length)))] TP2_ok hnt fun K hK=>?_;refine And.intro (dintE (by rw[eTys_len])) ?_;refine And.intro (dintE (by rw[eIs_len])) ?_;refine hK _ _ ?_;clear hK K;refine dw_seq ?_;refine dwk [] TP2_ok hnt fun K hK=>?_
    refine dcn (hok _) ?_;refine hK _ _ ?_;clear hK K;refine dw_seq ?_;refine dw_seq ?_;refine dwk [] TP2_ok hnt fun _ z9=>z9 _ _ ?_;refine dw_cond (t:=false) rfl ?_;rw[if_neg (by simp)];refine dw_skip ?_;refine dw_seq ?_;refine dwk [] TP2_ok hnt fun _ z9=>z9 _ _ ?_;refine dw_seq ?_;refine dwk [] TP2_ok hnt fun K hK=>?_;refine dcl (htn) ?_
    refine hK _ _ ?_;clear hK K;refine dw_seq ?_;refine dw_seq ?_;refine dwk [(31,.v (.bool true))] TP2_ok hnt fun K hK=>?_;refine And.intro (by first | exact dtrue (by simp[Pn.erB]) | exact VLe.of_eq (by simp[Pn.erB])) ?_;refine hK _ _ ?_;clear hK K;refine dw_cond (t:=true) rfl ?_;rw[if_pos rfl];refine dw_seq ?_;refine dwkD [] TP2_ok hnt fun K hK=>?_;refine hK _ _ (by kernel_rfl) ?_;clear hK K
    refine dw_ret ?_
    exact reta rfl
  | true=>
   rw[hB] at htn
   rw[if_pos rfl,eTm_eq]
   rw[eTm_eq,eTm_eq,h4] at htn
   rw[eTm_eq] at hcopy ⊢
   dsimp only[Tm.binds,Tm.kind,Tm.index,Tm.args] at hcopy ⊢
   refine calldw 0 44 [ResultVar.cell 6 41,ResultVar.tmp 7] TP2_ok Tryz.func167 rfl Tryz.ntmps167 rfl fun cx hnt hn0=>?_
   ·skip
    refine dw_seq ?_;refine dwk [] TP2_ok hnt fun _ z9=>z9 _ _ ?_;refine dw_seq ?_;refine dwk [(15,.v (.int .i64 (↑binds.length))),(17,.v (.int .i64 (↑vs.length)))] TP2_ok hnt fun K hK=>?_;refine And.intro (dintE (by rw[eTys_len])) ?_;refine And.intro (dintE (by rw[eIs_len])) ?_;refine hK _ _ ?_;clear hK K;refine dw_seq ?_;refine dwk [] TP2_ok hnt fun K hK=>?_
    refine dcn (hok _) ?_;refine hK _ _ ?_;clear hK K;refine dw_seq ?_;refine dw_seq ?_;refine dwk [] TP2_ok hnt fun _ z9=>z9 _ _ ?_;refine dw_cond (t:=false) rfl ?_;rw[if_neg (by simp)];refine dw_skip ?_;refine dw_seq ?_;refine dwk [] TP2_ok hnt fun _ z9=>z9 _ _ ?_;refine dw_seq ?_;refine dwk [] TP2_ok hnt fun K hK=>?_;refine dcl (htn) ?_
    refine hK _ _ ?_;clear hK K;refine dw_seq ?_;refine dw_seq ?_;refine dwk [(31,.v (.bool false))] TP2_ok hnt fun K hK=>?_;refine And.intro (by first | exact dfalse (by simp[Pn.erB]) | exact VLe.of_eq (by simp[Pn.erB])) ?_;refine hK _ _ ?_;clear hK K;refine dw_cond (t:=false) rfl ?_;rw[if_neg (by simp)];refine dw_skip ?_;refine dw_seq ?_;refine dwkD [(39,.sl 1 (eTyss [Pn.types binds vs,t.binds]) none)] TP2_ok hnt fun K hK=>?_
    refine dcl (hty) ?_;refine And.intro (VLe.untag _ _ _) ?_;refine dcl (hcat) ?_;refine hK _ _ (by kernel_rfl) ?_;clear hK K;refine dw_seq ?_;refine dwk [] TP2_ok hnt fun K hK=>?_;refine dcl (hcopy) ?_;refine hK _ _ ?_;clear hK K;refine dw_ret ?_
    exact reta rfl
def CallG (P:Program)(f:FuncId)(args:List D)(R W:List (Key×D))(V:D):Prop:=
 entersB P f=true∧∀ cx (Fr:Nat→Prop) m Im w a σ vs,St cx Fr m Im w a σ→RelL m Im w vs args→(∀ p∈R,get σ p.1=some p.2) →
  Calls P f vs.toArray w fun e w'=>∃ v m' Im',e=.returned v∧St cx Fr m' Im' w' a (puts (dropT R σ) W)∧Rel m' Im' w' v V
theorem CallG.n {P:Program}{f:FuncId}{args:List D}{R W:List (Key×D)}{V:D}(h:CallG P f args R W V)(nm:Nat):CallN P f args R nm W V:=
 ⟨h.1,fun cx Fr m Im w a σ vs _ hs hv hR=>(h.2 cx Fr m Im w a σ vs hs hv hR).mono fun e w' ⟨v,m',Im',q1,q2,q3⟩=>⟨v,m',Im',q1,q2.less fun k hk=>hk.1,q3⟩⟩
theorem CallG.vle {P:Program}{f:FuncId}{args args':List D}{R W:List (Key×D)}{V V':D}(h:CallG P f args R W V)(ha:VLeL args' args)(hv:VLe V V'):CallG P f args' R W V':=by
 refine⟨h.1,fun cx Fr m Im w a σ vs hs hr hR=>(h.2 cx Fr m Im w a σ vs hs ?_ hR).mono ?_⟩
 ·rw[relL_iff] at hr ⊢
  refine⟨hr.1.trans ha.1,fun i hi=>?_⟩
  have hi':i<args'.length:=by rw[ha.1];exact hi
  exact ha.2 i hi' hi m Im w _ (hr.2 i hi')
 ·rintro e w' ⟨v,m',Im',rfl,h1,h2⟩
  exact⟨v,m',Im',rfl,h1,hv _ _ _ _ h2⟩
def rowsR (R:List (Key×D)):List Nat:=R.filterMap fun p=>match p.1 with | .r g=>some g | _=>none
def rowN (R:List (Key×D)):Nat→Bool:=fun g=>(rowsR R).contains g
theorem mem_rowsR {R:List (Key×D)}{g:Nat}{d:D}(h:(Key.r g,d)∈R):rowN R g=true:=by
 unfold rowN;rw[List.contains_iff_mem];exact List.mem_filterMap.2 ⟨_,h,rfl⟩
theorem of_rowsR {R:List (Key×D)}{g:Nat}(h:rowN R g=true):∃ d,(Key.r g,d)∈R:=by
 unfold rowN at h;rw[List.contains_iff_mem] at h
 obtain⟨p,hp,e⟩:=List.mem_filterMap.1 h
 obtain⟨key,d⟩:=p
 cases key with
 | r g'=>simp at e;subst e;exact⟨d,hp⟩
 | _=>cases e
def gkey:Key→Bool
 | .c _ _=>true
 | .o _=>true
 | .r _=>true
 | _=>false
def wordsG (args:List D)(R W:List (Key×D))(V:D)(N0:Nat):Bool:=
 args.all (fun d=>d.ok (inN R) (rowN R))&&R.all (fun p=>p.2.ok (inN R) (rowN R)&&gkey p.1)&&W.all (fun p=>p.2.ok (inN R) (rowN R)&&(match p.1 with | .c k _=>inN R k | .o k=>inN R k | .r g=>rowN R g | _=>false))&&V.ok (inN R) (rowN R)&&(rnames R).all (fun k=>decide (k<N0))&&(rowsR R).all (fun g=>decide (g<N0)&&W.any fun p=>Key.eq p.1 (.r g))
set_option maxHeartbeats 2000000 in
theorem callG_of_dw {P:Program}{T:List (Nat×TI)}{f:FuncId}{fn:Func}{c:Code}{args:List D}{R W:List (Key×D)}{V:D}(N0 nt:Nat)(rs:List ResultVar)(hT:TabOk P T)(hen:entersB P f=true)(hf:P.funcs[f]?=some fn)(hb:fn.body=some c)(hnt:fn.ntmps=nt)(hrs:fn.results.toList=rs) 
  (hal:args.length≤nt) (hw:wordsG args R W V N0=true) (h:∀ cx:Cx,cx.nt=nt→cx.n0=N0→DW P cx c (argsT 0 args R) N0 (RetOk T rs V W)):CallG P f args R W V:=by
 refine⟨hen,fun cx Fr m Im w a σ vs hs0 hargs hR=>?_⟩
 have hmem:=hs0.mem
 simp only[wordsG,Bool.and_eq_true,List.all_eq_true,decide_eq_true_eq] at hw
 obtain⟨⟨⟨⟨⟨w1,w2⟩,w3⟩,w4⟩,w5⟩,w6⟩:=hw
 have hRc:∀ k off d,(Key.c k off,d)∈R→∃ b v,m.blk k=some b∧w.cell? ⟨b,off,none⟩=some v∧Rel m Im w v d:=fun k off d hm=>hs0.ce k off d (hR _ hm)
 have hRo:∀ k d,(Key.o k,d)∈R→∃ b,m.obj k=some b∧ObOk m Im w b d:=fun k d hm=>hs0.ok k d (hR _ hm)
 have hRr:∀ g d,(Key.r g,d)∈R→∃ Rw,m.row g=some Rw∧RoOk m Im w Rw d:=fun g d hm=>hs0.ro g d (hR _ hm)
 let RB:Nat→Prop:=fun b=>∃ g Rw,rowN R g=true∧m.row g=some Rw∧Rw.hv.ownBlock=some b
 have hnoj:∀ X J,(Key.j,D.j X J)∉R:=fun X J hm=>by have:=(w2 _ hm).2;cases this
 have hin:∀ k b,inN R k=true→m.blk k=some b→Tch m R b:=fun k b hk hb=>by
  rcases of_rnames hk with⟨off,d,hm⟩ | ⟨d,hm⟩
  ·exact .inl ⟨k,off,d,hm,hb⟩
  ·obtain⟨b',q1,_⟩:=hRo _ _ hm
   have:=hmem.dis k b hb
   rw[this] at q1;cases q1
 have hino:∀ k b,inN R k=true→m.obj k=some b→Tch m R b:=fun k b hk hb=>by
  rcases of_rnames hk with⟨off,d,hm⟩ | ⟨d,hm⟩
  ·obtain⟨b',v,q1,_⟩:=hRc _ _ _ hm
   have:=hmem.dis k b' q1
   rw[this] at hb;cases hb
  ·exact .inr (.inr ⟨k,d,hm,hb⟩)
 have hlt:∀ k,inN R k=true→k<N0:=fun k hk=>w5 k (by unfold inN at hk;rwa [List.contains_iff_mem] at hk)
 have hltr:∀ g,rowN R g=true→g<N0:=fun g hg=>(w6 g (by unfold rowN at hg;rwa [List.contains_iff_mem] at hg)).1
 have hTb:∀ b k,Tch m R b→m.blk k=some b→inN R k=true:=fun b k ht hk=>by
  rcases ht with⟨k',off,d,hm,hb⟩ | ⟨X,J,hm,_⟩ | ⟨k',d,hm,hb⟩
  ·have:=hmem.inj k k' b hk hb;subst this;exact mem_rnames hm
  ·exact absurd hm (hnoj X J)
  ·exact absurd hk (hmem.oblk k' k b hb)
 have hTo:∀ b k,Tch m R b→m.obj k=some b→inN R k=true:=fun b k ht hk=>by
  rcases ht with⟨k',off,d,hm,hb⟩ | ⟨X,J,hm,_⟩ | ⟨k',d,hm,hb⟩
  ·exact absurd hb (hmem.oblk k k' b hk)
  ·exact absurd hm (hnoj X J)
  ·have:=hmem.oinj k k' b hk hb;subst this;exact mem_rnamesO hm
 have hTr:∀ b g Rw,Tch m R b→m.row g=some Rw→Rw.hv.ownBlock≠some b:=fun b g Rw ht hg e=>by
  rcases ht with⟨k',off,d,hm,hb⟩ | ⟨X,J,hm,_⟩ | ⟨k',d,hm,hb⟩
  ·exact hmem.rblk g Rw b k' hg e hb
  ·exact absurd hm (hnoj X J)
  ·exact hmem.orow k' g Rw b hb hg e
 have hTown:∀ b,Tch m R b→cx.C b∨cx.w0.heap.size≤b:=fun b ht=>by
  rcases ht with⟨k',off,d,hm,hb⟩ | ⟨X,J,hm,_⟩ | ⟨k',d,hm,hb⟩
  ·exact hmem.own k' b hb
  ·exact absurd hm (hnoj X J)
  ·exact hmem.oown k' b hb
 have hTim:∀ b o,Tch m R b→¬ Im b o:=fun b o ht=>by
  rcases ht with⟨k',off,d,hm,hb⟩ | ⟨X,J,hm,_⟩ | ⟨k',d,hm,hb⟩
  ·exact hmem.nim k' b o hb
  ·exact absurd hm (hnoj X J)
  ·exact hmem.onim k' b o hb
 have hTX:∀ b X J,Tch m R b→XOk cx m Im w X J→¬ X b:=fun b X J ht hX hb=>by
  rcases ht with⟨k',off,d,hm,hb'⟩ | ⟨X',J',hm,_⟩ | ⟨k',d,hm,hb'⟩
  ·exact hX.blk b k' hb hb'
  ·exact hnoj X' J' hm
  ·exact hX.obj b k' hb hb'
 refine calls_of_wp hf hb ?_
 let cx':Cx:={ w0:=w,C:=fun b=>Tch m R b∨RB b,Im0:=Im,m0:=m.cut (inN R) (rowN R),nt:=nt,n0:=N0,h0:=fun k b hk=>hlt k (Mp.cut_blk hk).1,h0o:=fun k b hk=>hlt k (Mp.cut_obj hk).1,CR:=RB,hCR:=fun b h=>.inr h,h0r:=fun g Rw hg=>hltr g (Mp.cut_row hg).1 }
 have hst:St cx' (fun k=>N0≤k) (m.cut (inN R) (rowN R)) Im w { tmps:=vs.toArray++Array.replicate (fn.ntmps-vs.toArray.size) undef,defers:=[] } (argsT 0 args R):=by
  have hvl:vs.length=args.length:=(relL_iff.1 hargs).1
  refine⟨{
   off:=Off.refl _ _,im:=hmem.im,imb:=fun b o h=>.inl h,im0:=fun b o h=>h
   own:=fun k b hk=>.inl (.inl (hin k b (Mp.cut_blk hk).1 (Mp.cut_blk hk).2))
   lt:=fun k b hk=>hmem.lt k b (Mp.cut_blk hk).2
   free:=fun k b o hk=>hmem.free k b o (Mp.cut_blk hk).2
   nim:=fun k b o hk=>hmem.nim k b o (Mp.cut_blk hk).2
   inj:=fun k k' b hk hk'=>hmem.inj k k' b (Mp.cut_blk hk).2 (Mp.cut_blk hk').2
   row:=fun g R hg=>hmem.row g R (Mp.cut_row hg).2
   rIm:=fun g R b o hg=>hmem.rIm g R b o (Mp.cut_row hg).2
   rblk:=fun g R b k hg hb hk=>hmem.rblk g R b k (Mp.cut_row hg).2 hb (Mp.cut_blk hk).2
   rinj:=fun g g' R R' b hg hg'=>hmem.rinj g g' R R' b (Mp.cut_row hg).2 (Mp.cut_row hg').2
   fr:=fun k hk=>⟨?f1,?f2,?f3⟩
   m0:=fun k b hk=>hk
   m0o:=fun k b hk=>hk
   oown:=fun k b hk=>.inl (.inl (hino k b (Mp.cut_obj hk).1 (Mp.cut_obj hk).2))
   olt:=fun k b hk=>hmem.olt k b (Mp.cut_obj hk).2
   onim:=fun k b o hk=>hmem.onim k b o (Mp.cut_obj hk).2
   oinj:=fun k k' b hk hk'=>hmem.oinj k k' b (Mp.cut_obj hk).2 (Mp.cut_obj hk').2
   oblk:=fun k k' b hk hk'=>hmem.oblk k k' b (Mp.cut_obj hk).2 (Mp.cut_blk hk').2
   orow:=fun k g R b hk hg=>hmem.orow k g R b (Mp.cut_obj hk).2 (Mp.cut_row hg).2
   dis:=fun k b hk=>?dis
   k0:=KeepI.refl _ _
   rown:=fun g Rw b hg hb=>.inr ⟨g,Rw,(Mp.cut_row hg).1,(Mp.cut_row hg).2,hb⟩
   m0r:=fun g Rw hg=>⟨Rw,hg,Nat.le_refl _,fun _=>rfl⟩ },rfl,?sz,fun x d hx=>?tm,fun k off d hx=>?ce,fun g d hx=>?ro,fun d hx=>?jk,fun k d hx=>?okk⟩
  case f1=>
   by_cases hk2:inN R k=true
   ·have:=hlt k hk2;omega
   ·simp[Mp.cut,hk2]
  case f2=>
   by_cases hk2:rowN R k=true
   ·have:=hltr k hk2;omega
   ·simp[Mp.cut,hk2]
  case f3=>
   by_cases hk2:inN R k=true
   ·have:=hlt k hk2;omega
   ·simp[Mp.cut,hk2]
  case dis=>
   have:=hmem.dis k b (Mp.cut_blk hk).2
   show (if _ then m.obj k else none)=none
   rw[this];simp
  case sz=>simp[cx',hvl,hnt];omega
  case tm=>
   rcases get_argsT args 0 x hx with⟨j,h1,h2⟩ | hx
   ·have hj:j<args.length:=by
     rcases Nat.lt_or_ge j args.length with h' | h'
     ·exact h'
     ·rw[List.getElem?_eq_none h'] at h2;cases h2
    rw[List.getElem?_eq_getElem hj] at h2
    cases h2
    have hr:=(relL_iff.1 hargs).2 j hj
    have hx':x=j:=by omega
    subst hx'
    have:(vs.toArray++Array.replicate (fn.ntmps-vs.toArray.size) undef).getD x undef=vs.getD x undef:=by
     have hx2:x<vs.length:=by omega
     rw[Array.getD_eq_getD_getElem?,Array.getElem?_append_left (by simpa using hx2),List.getD_eq_getElem?_getD]
     simp
    show Rel _ _ _ ((vs.toArray++Array.replicate (fn.ntmps-vs.toArray.size) undef).getD x undef) _
    rw[this]
    exact hr.cut (w1 _ (List.getElem_mem hj))
   ·have:=(w2 _ (mem_of_get hx)).2
    cases this
  case ce=>
   rw[get_argsN (fun x=>by simp) args 0] at hx
   have hm:=mem_of_get hx
   obtain⟨b,v,q1,q2,q3⟩:=hRc _ _ _ hm
   exact⟨b,v,by simp only[Mp.cut,mem_rnames hm,if_true];exact q1,q2,q3.cut (w2 _ hm).1⟩
  case ro=>
   rw[get_argsN (fun x=>by simp) args 0] at hx
   have hm:=mem_of_get hx
   obtain⟨Rw,q1,q2⟩:=hRr _ _ hm
   exact⟨Rw,by simp only[Mp.cut,mem_rowsR hm,if_true];exact q1,q2.cut (w2 _ hm).1⟩
  case jk=>
   rw[get_argsN (fun x=>by simp) args 0] at hx
   have:=(w2 _ (mem_of_get hx)).2
   cases this
  case okk=>
   rw[get_argsN (fun x=>by simp) args 0] at hx
   have hm:=mem_of_get hx
   obtain⟨b,q1,q2⟩:=hRo _ _ hm
   exact⟨b,by simp only[Mp.cut,mem_rnamesO hm,if_true];exact q1,q2.cut (w2 _ hm).1⟩
 refine Code.wp_mono (fun e a' w' ⟨σ',N',m',Im',⟨hq1,⟨V',hq2,hq3⟩,hq4⟩,hs⟩=>?_) (h cx' rfl rfl _ Im w _ hst)
 obtain⟨v,r1,r2⟩:=resD_run (P:=P) (fn:=fn) hT hs (by rw[hrs];exact hq2)
 have hmem':=hs.mem
 have hoff:Off (fun b=>Tch m R b∨RB b) w w':=hmem'.off
 have hki:KeepI Im w w':=hmem'.k0
 have hi:∀ b o,Im b o→Im' b o:=hmem'.im0
 have hib:∀ b o,Im' b o→Im b o∨w.heap.size≤b∨RB b:=hmem'.imb
 have hrown:∀ g Rw b,m'.row g=some Rw→Rw.hv.ownBlock=some b→w.heap.size≤b∨RB b:=hmem'.rown
 have hsame:∀ b,b<w.heap.size→¬ Tch m R b→¬ RB b→w'.heap[b]?=w.heap[b]?:=fun b hb h1 h2=>hoff.block b hb fun h=>h.elim h1 h2
 have hmb:∀ k b,inN R k=true→m.blk k=some b→m'.blk k=some b:=fun k b hk hb=>hmem'.m0 k b (by show (m.cut (inN R) (rowN R)).blk k=some b;simp[Mp.cut,hk,hb])
 have hmo:∀ k b,inN R k=true→m.obj k=some b→m'.obj k=some b:=fun k b hk hb=>hmem'.m0o k b (by show (m.cut (inN R) (rowN R)).obj k=some b;simp[Mp.cut,hk,hb])
 have hm':∀ k b,inN R k=true→m'.blk k=some b→m.blk k=some b:=fun k b hk hb=>by
  rcases of_rnames hk with⟨off,d,hm⟩ | ⟨d,hm⟩
  ·obtain⟨b',_,q1,_⟩:=hRc _ _ _ hm
   have:=hmb k b' hk q1
   rw[this] at hb;cases hb;exact q1
  ·obtain⟨b',q1,_⟩:=hRo _ _ hm
   have:=hmo k b' hk q1
   rw[hmem'.dis k b hb] at this;cases this
 have hmo':∀ k b,inN R k=true→m'.obj k=some b→m.obj k=some b:=fun k b hk hb=>by
  rcases of_rnames hk with⟨off,d,hm⟩ | ⟨d,hm⟩
  ·obtain⟨b',_,q1,_⟩:=hRc _ _ _ hm
   have:=hmb k b' hk q1
   rw[hmem'.dis k b' this] at hb;cases hb
  ·obtain⟨b',q1,_⟩:=hRo _ _ hm
   have:=hmo k b' hk q1
   rw[this] at hb;cases hb;exact q1
 let m2:Mp:=⟨m.blk,fun g=>if rowN R g then m'.row g else m.row g,m.obj⟩
 have h2r:∀ {g Rw},m2.row g=some Rw→(rowN R g=true∧m'.row g=some Rw)∨(rowN R g=false∧m.row g=some Rw):=fun {g Rw} hg=>by
  cases hr:rowN R g with
  | true=>left;simp[m2,hr] at hg;exact⟨rfl,hg⟩
  | false=>right;simp[m2,hr] at hg;exact⟨rfl,hg⟩
 have hRBr:∀ b g Rw,RB b→m.row g=some Rw→Rw.hv.ownBlock=some b→rowN R g=true:=fun b g Rw ⟨g2,R2,q1,q2,q3⟩ hg ho=>by
  have:=hmem.rinj g2 g R2 Rw b q2 hg q3 ho
  subst this;exact q1
 have hRBb:∀ b k,RB b→m.blk k≠some b:=fun b k ⟨g2,R2,q1,q2,q3⟩=>hmem.rblk g2 R2 b k q2 q3
 have hRBo:∀ b k,RB b→m.obj k≠some b:=fun b k ⟨g2,R2,q1,q2,q3⟩ hk=>hmem.orow k g2 R2 b hk q2 q3
 have hRBw:∀ b,RB b→cx.w0.heap.size≤b∨cx.CR b:=fun b ⟨g2,R2,q1,q2,q3⟩=>hmem.rown g2 R2 b q2 q3
 have hrlt:∀ g Rw b,m.row g=some Rw→Rw.hv.ownBlock=some b→b<w.heap.size:=fun g Rw b hg ho=>by
  obtain⟨xs,hx⟩:=hmem.row g Rw hg
  exact(row_lt hx ho).2
 have hle:m.le m2:=⟨fun _ _ h=>h,fun g Rw hg=>by
  cases hr:rowN R g with
  | true=>
   obtain⟨R',q1,q2⟩:=hmem'.m0r g Rw (by show (m.cut (inN R) (rowN R)).row g=some Rw;simp[Mp.cut,hr,hg])
   exact⟨R',by simp[m2,hr,q1],q2⟩
  | false=>exact⟨Rw,by simp[m2,hr,hg],Nat.le_refl _,fun _=>rfl⟩,fun _ _ h=>h⟩
 have hcutle:(m'.cut (inN R) (rowN R)).le m2:=⟨fun k b hk=>hm' k b (Mp.cut_blk hk).1 (Mp.cut_blk hk).2,fun g Rw hg=>⟨Rw,by simp[m2,(Mp.cut_row hg).1,(Mp.cut_row hg).2],Nat.le_refl _,fun _=>rfl⟩,fun k b hk=>hmo' k b (Mp.cut_obj hk).1 (Mp.cut_obj hk).2⟩
 have hrel:∀ {x d},Rel m' Im' w' x d→d.ok (inN R) (rowN R)=true→Rel m2 Im' w' x d:=fun hx hd=>(hx.cut hd).mono hcutle (KeepI.refl _ _) fun _ _ h=>h
 have hmono:∀ {x d},Rel m Im w x d→Rel m2 Im' w' x d:=fun hx=>hx.mono hle hki hi
 have hmem2:MemOk cx Fr m2 Im' w':={
  off:=⟨hoff.os.trans hmem.off.os,hoff.tape.trans hmem.off.tape,hoff.output.trans hmem.off.output,Nat.le_trans hmem.off.size hoff.size,fun b hb hC=>(hsame b (Nat.lt_of_lt_of_le hb hmem.off.size) (fun h=>(hTown b h).elim hC fun h=>Nat.lt_irrefl _ (Nat.lt_of_lt_of_le hb h)) (fun h=>(hRBw b h).elim (fun h=>Nat.lt_irrefl _ (Nat.lt_of_lt_of_le hb h)) fun h=>hC (cx.hCR b h))).trans (hmem.off.block b hb hC)⟩
  im:=hmem'.im
  imb:=fun b o hh=>by
   rcases hib b o hh with h1 | h1 | h1
   ·exact hmem.imb b o h1
   ·exact .inr (.inl (Nat.le_trans hmem.off.size h1))
   ·exact .inr (hRBw b h1)
  im0:=fun b o hh=>hi b o (hmem.im0 b o hh)
  own:=hmem.own
  lt:=fun k b hk=>Nat.lt_of_lt_of_le (hmem.lt k b hk) hoff.size
  free:=fun k b o hk=>by
   cases hn:inN R k with
   | true=>exact hmem'.free k b o (hmb k b hn hk)
   | false=>exact(World.frozen?_of_block (a:=⟨b,o,none⟩) (hsame b (hmem.lt k b hk) (fun h=>by rw[hTb b k h hk] at hn;cases hn) fun h=>hRBb b k h hk)).trans (hmem.free k b o hk)
  nim:=fun k b o hk hh=>by
   cases hn:inN R k with
   | true=>exact hmem'.nim k b o (hmb k b hn hk) hh
   | false=>
    rcases hib b o hh with h1 | h1 | h1
    ·exact hmem.nim k b o hk h1
    ·have:=hmem.lt k b hk;omega
    ·exact hRBb b k h1 hk
  inj:=hmem.inj
  row:=fun g Rw hg=>by
   rcases h2r hg with⟨_,hg⟩ | ⟨hn,hg⟩
   ·exact hmem'.row g Rw hg
   ·obtain⟨xs,hx⟩:=hmem.row g Rw hg
    refine⟨xs,hx.1,?_⟩
    rcases hx.2 with h0 | ⟨g',cap,cur,e,h1,h2,h3⟩
    ·exact .inl h0
    ·refine .inr ⟨g',cap,cur,e,h1,?_,h3⟩
     have ho:Rw.hv.ownBlock=some g':=by rw[e];rfl
     rw[hsame g' (lt_of_block h2) (fun ht=>hTr g' g Rw ht hg ho) fun ht=>by rw[hRBr g' g Rw ht hg ho] at hn;cases hn];exact h2
  rIm:=fun g Rw b o hg ho hh=>by
   rcases h2r hg with⟨_,hg⟩ | ⟨hn,hg⟩
   ·exact hmem'.rIm g Rw b o hg ho hh
   ·rcases hib b o hh with h1 | h1 | h1
    ·exact hmem.rIm g Rw b o hg ho h1
    ·have:=hrlt g Rw b hg ho;omega
    ·rw[hRBr b g Rw h1 hg ho] at hn;cases hn
  rblk:=fun g Rw b k hg ho hk=>by
   rcases h2r hg with⟨_,hg⟩ | ⟨hn,hg⟩
   ·rcases hrown g Rw b hg ho with h1 | h1
    ·have:=hmem.lt k b hk;omega
    ·exact hRBb b k h1 hk
   ·exact hmem.rblk g Rw b k hg ho hk
  rinj:=fun g g' Rw Rw' b hg hg' ho ho'=>by
   rcases h2r hg with⟨hn,hg⟩ | ⟨hn,hg⟩ <;> rcases h2r hg' with⟨hn',hg'⟩ | ⟨hn',hg'⟩
   ·exact hmem'.rinj g g' Rw Rw' b hg hg' ho ho'
   ·rcases hrown g Rw b hg ho with h1 | h1
    ·have:=hrlt g' Rw' b hg' ho';omega
    ·rw[hRBr b g' Rw' h1 hg' ho'] at hn';cases hn'
   ·rcases hrown g' Rw' b hg' ho' with h1 | h1
    ·have:=hrlt g Rw b hg ho;omega
    ·rw[hRBr b g Rw h1 hg ho] at hn;cases hn
   ·exact hmem.rinj g g' Rw Rw' b hg hg' ho ho'
  fr:=fun k hk=>⟨(hmem.fr k hk).1,by
   cases hn:rowN R k with
   | true=>
    obtain⟨d,hm⟩:=of_rowsR hn
    obtain⟨Rw,q1,_⟩:=hRr _ _ hm
    rw[(hmem.fr k hk).2.1] at q1;cases q1
   | false=>simp[m2,hn,(hmem.fr k hk).2.1],(hmem.fr k hk).2.2⟩
  m0:=hmem.m0
  m0o:=hmem.m0o
  oown:=hmem.oown
  olt:=fun k b hk=>Nat.lt_of_lt_of_le (hmem.olt k b hk) hoff.size
  onim:=fun k b o hk hh=>by
   cases hn:inN R k with
   | true=>exact hmem'.onim k b o (hmo k b hn hk) hh
   | false=>
    rcases hib b o hh with h1 | h1 | h1
    ·exact hmem.onim k b o hk h1
    ·have:=hmem.olt k b hk;omega
    ·exact hRBo b k h1 hk
  oinj:=hmem.oinj
  oblk:=hmem.oblk
  orow:=fun k g Rw b hk hg ho=>by
   rcases h2r hg with⟨_,hg⟩ | ⟨hn,hg⟩
   ·rcases hrown g Rw b hg ho with h1 | h1
    ·have:=hmem.olt k b hk;omega
    ·exact hRBo b k h1 hk
   ·exact hmem.orow k g Rw b hk hg ho
  dis:=hmem.dis
  k0:=hmem.k0.trans (hki.weaken hmem.im0)
  rown:=fun g Rw b hg ho=>by
   rcases h2r hg with⟨_,hg⟩ | ⟨hn,hg⟩
   ·rcases hrown g Rw b hg ho with h1 | h1
    ·exact .inl (Nat.le_trans hmem.off.size h1)
    ·exact hRBw b h1
   ·exact hmem.rown g Rw b hg ho
  m0r:=hmem.m0r_le hle }
 have hg0:∀ k,get (dropT R σ) k=if touches R k then none else get σ k:=fun k=>by
  unfold dropT
  rw[get_filter (fun k=>!touches R k)]
  cases touches R k <;> rfl
 let keep:Key→Bool:=fun k=>match k with | .r g=>!rowN R g | _=>true
 have hg1:∀ k,get ((dropT R σ).filter fun p=>keep p.1) k=if keep k then get (dropT R σ) k else none:=fun k=>get_filter keep _ k
 have hst1:St cx Fr m2 Im' w' a ((dropT R σ).filter fun p=>keep p.1):=by
  refine⟨hmem2,hs0.df,hs0.nt,fun x d hx=>?_,fun k off d hx=>?_,fun g d hx=>?_,fun d hx=>?_,fun k d hx=>?_⟩
  ·rw[hg1,if_pos rfl,hg0] at hx;simp only[touches] at hx;exact hmono (hs0.tm x d hx)
  ·rw[hg1,if_pos rfl,hg0] at hx
   by_cases ht:touches R (.c k off)=true
   ·rw[if_pos ht] at hx;cases hx
   ·rw[if_neg ht] at hx
    obtain⟨b,u,q1,q2,q3⟩:=hs0.ce k off d hx
    refine⟨b,u,q1,?_,hmono q3⟩
    refine(World.cell?_of_block (a:=⟨b,off,none⟩) (hsame b (ltOfCell q2) (fun hb=>?_) fun hb=>hRBb b k hb q1)).trans q2
    rcases hb with⟨k',off',d',hm,hb⟩ | ⟨X,J,hm,hb⟩ | ⟨k',d',hm,hb⟩
    ·have:=hmem.inj k k' b q1 hb
     subst this
     exact ht (by simp only[touches,List.any_eq_true];exact⟨_,hm,by simp⟩)
    ·exact absurd hm (hnoj X J)
    ·exact hmem.oblk k' k b hb q1
  ·rw[hg1] at hx
   cases hn:rowN R g with
   | true=>simp[keep,hn] at hx
   | false=>
    rw[if_pos (by simp[keep,hn]),hg0] at hx;simp only[touches] at hx
    obtain⟨Rw,q1,q2⟩:=hs0.ro g d hx
    exact⟨Rw,by simp[m2,hn,q1],q2.mono (fun b hb=>hsame b (hmem.rlt q1 hb) (fun ht=>hTr b g Rw ht q1 hb) fun ht=>by rw[hRBr b g Rw ht q1 hb] at hn;cases hn) hle hki hi fun b o hb hh=>(hib b o hh).elim id fun h2=>h2.elim (fun h2=>absurd (hmem.rlt q1 hb) (Nat.not_lt.2 h2)) fun ht=>by rw[hRBr b g Rw ht q1 hb] at hn;cases hn⟩
  ·rw[hg1,if_pos rfl,hg0] at hx
   have ht:touches R .j=false:=by
    cases ht:touches R .j with
    | false=>rfl
    | true=>
     simp only[touches,List.any_eq_true] at ht
     obtain⟨⟨k,d'⟩,hp,hj⟩:=ht
     cases k <;> simp[isJ] at hj
     have:=(w2 _ hp).2;cases this
   rw[ht] at hx
   obtain⟨X,J,e,hX⟩:=hs0.jk d hx
   have hRX:∀ b,X b→¬ RB b:=fun b hb ⟨g2,R2,q1,q2,q3⟩=>hX.row b g2 R2 hb q2 q3
   have hxs:∀ b,X b→w'.heap[b]?=w.heap[b]?:=fun b hb=>hsame b (hX.lt b hb) (fun ht=>hTX b X J ht hX hb) (hRX b hb)
   refine⟨X,J,e,hX.stable _ hoff.size hxs,fun w2 hs2 hx2=>hX.stable w2 (Nat.le_trans hoff.size hs2) fun b hb=>(hx2 b hb).trans (hxs b hb),fun b hb=>Nat.lt_of_lt_of_le (hX.lt b hb) hoff.size,hX.own,fun b o hb hh=>?_,hX.blk,fun b g Rw hb hg ho=>?_,hX.obj⟩
   ·rcases hib b o hh with h1 | h1 | h1
    ·exact hX.nim b o hb h1
    ·have:=hX.lt b hb;omega
    ·exact hRX b hb h1
   ·rcases h2r hg with⟨_,hg⟩ | ⟨hn,hg⟩
    ·rcases hrown g Rw b hg ho with h1 | h1
     ·have:=hX.lt b hb;omega
     ·exact hRX b hb h1
    ·exact hX.row b g Rw hb hg ho
  ·rw[hg1,if_pos rfl,hg0] at hx
   by_cases ht:touches R (.o k)=true
   ·rw[if_pos ht] at hx;cases hx
   ·rw[if_neg ht] at hx
    obtain⟨b,q1,q2⟩:=hs0.ok k d hx
    refine⟨b,q1,q2.mono (hsame b (hmem.olt k b q1) (fun hT=>?_) fun hb=>hRBo b k hb q1) hle hki hi⟩
    rcases hT with⟨k',off',d',hm,hb'⟩ | ⟨X',J',hm,hb'⟩ | ⟨k',d',hm,hb'⟩
    ·exact hmem.oblk k k' b q1 hb'
    ·exact hnoj X' J' hm
    ·have:=hmem.oinj k k' b q1 hb'
     subst this
     exact ht (by simp only[touches,List.any_eq_true];exact⟨_,hm,by simp⟩)
 have hW:Holds cx m2 Im' w' W:=fun p hp=>by
  have hok:=w3 p hp
  have hg:=hq4 p hp
  obtain⟨key,d⟩:=p
  cases key with
  | c k off=>
   have hk:inN R k=true:=hok.2
   rcases hg with hg | ⟨d',hg,e,_⟩
   ·obtain⟨b,x,q1,q2,q3⟩:=hs.ce k off d hg
    exact⟨b,x,hm' k b hk q1,q2,hrel q3 hok.1⟩
   ·obtain⟨b,x,q1,q2,q3⟩:=hs.ce k off d' hg
    exact⟨b,x,hm' k b hk q1,q2,hrel (e _ _ _ _ q3) hok.1⟩
  | o k=>
   have hk:inN R k=true:=hok.2
   rcases hg with hg | ⟨d',hg,e,hf⟩
   ·obtain⟨b,q1,q2⟩:=hs.ok k d hg
    exact⟨b,hmo' k b hk q1,(q2.cut hok.1).mono rfl hcutle (KeepI.refl _ _) fun _ _ h=>h⟩
   ·exact hf.elim
  | r g=>
   have hk:rowN R g=true:=hok.2
   rcases hg with hg | ⟨d',hg,e,hf⟩
   ·obtain⟨Rw,q1,q2⟩:=hs.ro g d hg
    exact⟨Rw,by simp[m2,hk,q1],(q2.cut hok.1).mono (fun _ _=>rfl) hcutle (KeepI.refl _ _) (fun _ _ h=>h) fun _ _ _ h=>h⟩
   ·exact hf.elim
  | j=>cases hok.2
  | t x=>cases hok.2
 have hst2:=(hst1.putHolds hW).sub (σ':=puts (dropT R σ) W) fun k d hk=>by
  by_cases hW:∃ p∈W,p.1=k
  ·rw[←hk];exact get_puts_in W _ _ k hW
  ·have hW':∀ p∈W,p.1≠k:=fun p hp e=>hW ⟨p,hp,e⟩
   rw[get_puts_not W _ _ hW'] at hk ⊢
   rw[hg1,if_pos]
   ·exact hk
   ·cases k with
    | r g=>
     show (!rowN R g)=true
     cases hn:rowN R g with
     | false=>rfl
     | true=>
      have:=(w6 g (by unfold rowN at hn;rwa [List.contains_iff_mem] at hn)).2
      simp only[List.any_eq_true] at this
      obtain⟨p,hp,e⟩:=this
      exact absurd (Key.eq_iff.1 e) (hW' p hp)
    | _=>rfl
 have hfin:∃ v' m2 Im2,Ending.returned v=.returned v'∧St cx Fr m2 Im2 w' a (puts (dropT R σ) W)∧Rel m2 Im2 w' v' V:=
  ⟨v,m2,Im',rfl,hst2,hrel (hq3 _ _ _ _ r2) w4⟩
 rcases hq1 with rfl | rfl
 ·exact⟨hs.df,v,r1,hfin⟩
 ·exact⟨hs.df,v,r1,hfin⟩
def TP3_41:TI:=⟨4,true,[Value.slice none 0 0,Value.int IntKind.i64 0,Value.int IntKind.i64 0,Value.slice none 0 0],[(0,1,false),(1,2,true),(3,1,false)],none,64,6,none,false⟩
theorem TP3_41_ok:TypOk Tryz.prog 41 TP3_41:=by constructor <;> kernel_rfl
def TP3_59:TI:=⟨1,false,[Value.slice none 0 0],[],some 3,24,5,none,false⟩
theorem TP3_59_ok:TypOk Tryz.prog 59 TP3_59:=by constructor <;> kernel_rfl
def TP3_33:TI:=⟨1,false,[Value.slice none 0 0],[],some 44,24,5,none,false⟩
theorem TP3_33_ok:TypOk Tryz.prog 33 TP3_33:=by constructor <;> kernel_rfl
def TP3_171:TI:=⟨1,false,[Value.slice none 0 0],[],some 250,24,5,none,false⟩
theorem TP3_171_ok:TypOk Tryz.prog 171 TP3_171:=by constructor <;> kernel_rfl
def TP3_3:TI:=⟨1,false,[Value.int IntKind.i64 0],[],none,8,2,none,false⟩
theorem TP3_3_ok:TypOk Tryz.prog 3 TP3_3:=by constructor <;> kernel_rfl
def TP3_44:TI:=⟨2,true,[Value.slice none 0 0,Value.int IntKind.i64 0],[(0,1,false),(1,1,false)],none,32,6,none,false⟩
theorem TP3_44_ok:TypOk Tryz.prog 44 TP3_44:=by constructor <;> kernel_rfl
def TP3_39:TI:=⟨1,false,[Value.slice none 0 0],[],some 41,24,5,none,false⟩
theorem TP3_39_ok:TypOk Tryz.prog 39 TP3_39:=by constructor <;> kernel_rfl
def TP3_45:TI:=⟨1,false,[Value.int IntKind.i64 0],[],none,8,2,none,false⟩
theorem TP3_45_ok:TypOk Tryz.prog 45 TP3_45:=by constructor <;> kernel_rfl
def TP3_192:TI:=⟨1,false,[Value.slice none 0 0],[],some 33,24,5,none,false⟩
theorem TP3_192_ok:TypOk Tryz.prog 192 TP3_192:=by constructor <;> kernel_rfl
def TP3_38:TI:=⟨2,true,[Value.int IntKind.i64 0,Value.int IntKind.i64 0],[(0,1,false),(1,1,false)],none,16,6,none,true⟩
theorem TP3_38_ok:TypOk Tryz.prog 38 TP3_38:=by constructor <;> kernel_rfl
def TP3_250:TI:=⟨4,true,[Value.int IntKind.i64 0,Value.slice none 0 0,Value.slice none 0 0,Value.slice none 0 0],[(0,1,false),(1,1,false),(2,1,false),(3,1,false)],none,80,6,none,false⟩
theorem TP3_250_ok:TypOk Tryz.prog 250 TP3_250:=by constructor <;> kernel_rfl
def TP3:List (Nat×TI):=[(41,TP3_41),(59,TP3_59),(33,TP3_33),(171,TP3_171),(3,TP3_3),(44,TP3_44),(39,TP3_39),(45,TP3_45),(192,TP3_192),(38,TP3_38),(250,TP3_250)]
theorem TP3_ok:TabOk Tryz.prog TP3:=((((((((((((TabOk.nil _).cons TP3_250_ok).cons TP3_38_ok).cons TP3_192_ok).cons TP3_45_ok).cons TP3_39_ok).cons TP3_44_ok).cons TP3_3_ok).cons TP3_171_ok).cons TP3_33_ok).cons TP3_59_ok).cons TP3_41_ok)
def eUse (u:Pn.Use):List D:=[.v (.int .i64 u.mt),.sl 1 (eIs u.vars) none,.sl 2 (eTys u.binds) none,.sl 1 (eIs u.path) none]
def eUses (l:List Pn.Use):List (List D):=l.map eUse
theorem eUses_len (l:List Pn.Use):(eUses l).length=l.length:=List.length_map ..
theorem eUses_append (l r:List Pn.Use):eUses (l++r)=eUses l++eUses r:=List.map_append ..
@[simp] theorem eUses_ok (f g:Nat→Bool) (l:List Pn.Use):D.okss f g (eUses l)=true:=D.okss_map _ l fun u _=>by simp[eUse,D.oks,D.ok,eIs_ok,eTys_ok]
namespace Pn
theorem usess_app (ar:List Ty)(p:List Int):∀ (l r:List Tm) (k:Nat),usess (l++r) ar p k=if (usess l ar p k).2 then ((usess l ar p k).1++(usess r ar p (k+l.length)).1,(usess r ar p (k+l.length)).2) else ((usess l ar p k).1,false)
 | [],r,k=>by simp[usess]
 | t :: l,r,k=>by
  simp only[List.cons_append,usess]
  rw[usess_app ar p l r (k+1),show k+1+l.length=k+(t :: l).length by simp;omega]
  by_cases h:(uses t ar (p++[(k:Int)])).2=true
  ·simp only[h,if_true]
   by_cases h2:(usess l ar p (k+1)).2=true
   ·simp[h2]
   ·simp[h2]
  ·simp[h]
theorem usess_take (ar:List Ty)(p:List Int)(a:List Tm)(j:Nat)(hj:j<a.length)(h:(usess (a.take j) ar p 0).2=true):
  usess (a.take (j+1)) ar p 0=((usess (a.take j) ar p 0).1++(uses a[j] ar (p++[(j:Int)])).1,(uses a[j] ar (p++[(j:Int)])).2):=by
 rw[List.take_add_one,List.getElem?_eq_getElem hj]
 show usess (a.take j++[a[j]]) ar p 0=_
 rw[usess_app,if_pos h,List.length_take,Nat.min_eq_left (by omega),Nat.zero_add]
 simp only[usess]
 by_cases h2:(uses a[j] ar (p++[(j:Int)])).2=true
 ·simp[h2]
 ·simp[h2]
theorem usess_stop (ar:List Ty)(p:List Int)(a:List Tm)(j:Nat)(h:(usess (a.take j) ar p 0).2=false):usess a ar p 0=usess (a.take j) ar p 0:=by
 have h1:usess a ar p 0=usess (a.take j++a.drop j) ar p 0:=by rw[List.take_append_drop]
 rw[h1,usess_app,if_neg (by simp[h])]
 rw[←h]
theorem usess_len (ar:List Ty)(p:List Int):∀ (a:List Tm) (k:Nat) (_:∀ t∈a,∀ p,(uses t ar p).1.length≤t.full),(usess a ar p k).1.length≤Tm.fulls a
 | [],k,_=>by simp[usess,Tm.fulls]
 | t :: l,k,h=>by
  have h1:=h t (by simp) (p++[(k:Int)])
  have h2:=usess_len ar p l (k+1) fun t ht=>h t (by simp[ht])
  rw[usess,Tm.fulls]
  split
  ·simp;omega
  ·dsimp only;omega
theorem uses_len (t:Tm):∀ (ar:List Ty) (p:List Int),(uses t ar p).1.length≤t.full:=by
 induction t using Tm.ind with
 | h bs k i a ih=>
  intro ar p
  rw[uses_eq,Tm.full_eq]
  split
  ·split <;> simp
  ·have:=usess_len (ar++bs) p a 0 fun t ht p=>ih t ht _ p
   omega
end Pn
def usesV (l:List Pn.Use)(r:List Pn.Use×Bool):D:=if r.2 then .tu [.sl 4 (eUses (l++r.1)) (some 0),.v (.int .i64 0)] else .tu [.v (.slice none 0 0),.v (.int .i64 6)]
def UsesC (t:Tm):Prop:=∀ (ar:List Ty) (p:List Int) (l:List Pn.Use),Ty.sizes ar+t.full≤700000→p.length+t.full≤700000→l.length+t.full≤800000→t.Fit →
 CallG Tryz.prog 130 [.sl 4 (eUses l) (some 0),.ag (eTm t),.sl 2 (eTys ar) none,.sl 1 (eIs p) none] [(.r 0,.rw 250 4 l.length)] [(.r 0,.rw 250 4 (l++(Pn.uses t ar p).1).length)] (usesV l (Pn.uses t ar p))
set_option maxHeartbeats 4000000 in
theorem uses_body (t:Tm)(ih:∀ u∈t.args,UsesC u)(ar:List Ty)(p:List Int)(l:List Pn.Use)(h1:Ty.sizes ar+t.full≤700000)(h2:p.length+t.full≤700000)(h3:l.length+t.full≤800000)(hf:t.Fit)(c:Code)(hc:Tryz.f130.body=some c) 
  (cx:Cx) (hnt:cx.nt=71) (hn0:cx.n0≤1):DW Tryz.prog cx c (argsT 0 [.sl 4 (eUses l) (some 0),.ag (eTm t),.sl 2 (eTys ar) none,.sl 1 (eIs p) none] [(.r 0,.rw 250 4 l.length)]) 1 (RetOk TP3 [ResultVar.tmp 8,ResultVar.tmp 9] (usesV l (Pn.uses t ar p)) [(.r 0,.rw 250 4 (l++(Pn.uses t ar p).1).length)]):=by
 cases hc
 have hfl:=pflex_d t
 have hfu:=full_args t
 have hal:=fulls_len t.args
 have hbl:=Ty.le_sizes t.binds
 have har:=Ty.le_sizes ar
 have hcat:=concat_d [ar,t.binds] (by simp[lens];omega) (by simp)
 simp only[List.flatten_cons,List.flatten_nil,List.append_nil] at hcat
 have hva:=pvars_d t ((ar++t.binds).length:Nat) (by omega) hf
 have hue:Pn.uses t ar p=if t.kind=2 then (match Pn.varsL ((ar++t.binds).length:Nat) t.args [] with | some v=>([⟨t.index,v,ar++t.binds,p⟩],true) | none=>([],false)) else Pn.usess t.args (ar++t.binds) p 0:=by obtain⟨b,k,i,a⟩:=t;exact Pn.uses_eq ..
 have hs1:(Ty.mk [] 0).size=1:=by simp[Ty.size,Ty.sizes]
 have harr:=arrow_d (.mk [] 0) (ar++t.binds) (by rw[Ty.sizes_append];omega)
 have hclo:=clone_d p (by omega)
 have hcli:=clip_d p
 dsimp only[Ty.args,Ty.base] at harr
 rw[List.append_nil] at harr
 rw[eTm_eq] at hfl hva ⊢
 rw[eTy_eq,eTy_eq] at harr
 dsimp only[Ty.args,Ty.base,eTys] at harr
 refine dw_seq ?_;refine dwk [] TP3_ok hnt fun _ z9=>z9 _ _ ?_;refine dw_seq ?_;refine dwk [(18,.sl 1 (eTyss [ar,t.binds]) none)] TP3_ok hnt fun K hK=>?_;refine And.intro (VLe.untag _ _ _) ?_;refine dcl (hcat) ?_;refine hK _ _ ?_;clear hK K
 by_cases hk:t.kind=2
 ·rw[decide_eq_true hk] at hfl
  rw[if_pos hk] at hue;refine dw_seq ?_;refine dw_seq ?_;refine dwk [] TP3_ok hnt fun K hK=>?_;refine dcl (hfl) ?_;refine hK _ _ ?_;clear hK K;refine dw_cond (t:=true) rfl ?_;rw[if_pos rfl]
  have hvv:Pn.vars t ((ar++t.binds).length:Nat)=match Pn.varsL ((ar++t.binds).length:Nat) t.args [] with | some l=>(l,0) | none=>([],6):=by unfold Pn.vars;exact if_neg (by simp[hk];omega)
  rw[hvv] at hva
  cases hvl:Pn.varsL ((ar++t.binds).length:Nat) t.args [] with
  | none=>
   rw[hvl] at hva hue
   rw[hue]
   refine dw_seq ?_;refine dwk [(25,.v (.int .i64 (↑(ar++t.binds).length)))] TP3_ok hnt fun K hK=>?_;refine And.intro (dintE (by rw[eTys_len])) ?_;refine dcl (hva) ?_;refine hK _ _ ?_;clear hK K;refine dw_seq ?_;refine dw_seq ?_;refine dwk [(30,.v (.bool true))] TP3_ok hnt fun K hK=>?_;refine And.intro auT ?_;refine hK _ _ ?_;clear hK K;refine dw_cond (t:=true) rfl ?_;rw[if_pos rfl]
   refine dw_seq ?_;refine dwk [] TP3_ok hnt fun _ z9=>z9 _ _ ?_;refine dw_ret ?_
   exact reta rfl ((by refine And.intro ?_ trivial;simp[get,Key.eq,argsT]))
  | some v=>
   rw[hvl] at hva hue
   rw[hue]
   have hvlen:=Pn.varsL_len _ _ _ _ hvl
   refine dw_seq ?_;refine dwk [(25,.v (.int .i64 (↑(ar++t.binds).length)))] TP3_ok hnt fun K hK=>?_;refine And.intro (dintE (by rw[eTys_len])) ?_;refine dcl (hva) ?_;refine hK _ _ ?_;clear hK K;refine dw_seq ?_;refine dw_seq ?_;refine dwk [(30,.v (.bool false))] TP3_ok hnt fun K hK=>?_;refine And.intro auF ?_;refine hK _ _ ?_;clear hK K;refine dw_cond (t:=false) rfl ?_;rw[if_neg (by simp)]
   refine dw_skip ?_;refine dw_seq ?_;refine dwkD [(37,.ag [.sl 2 [] none,.v (.int .i64 0)]),(45,.sl 4 (eUses (l++[⟨t.index,v,ar++t.binds,p⟩])) (some 0))] TP3_ok hnt fun K hK=>?_;refine And.intro (auV) ?_;refine dcl (harr) ?_;refine dcl (hclo) ?_;refine And.intro (⟨by rw[eUses_len],by rw[eUses_len];simp;omega⟩) ?_;refine And.intro (VLe.of_eq (by rw[eUses_append];rfl)) ?_;refine hK _ _ (by kernel_rfl) ?_;clear hK K
   refine dw_ret ?_
   exact reta rfl ((by refine And.intro ?_ trivial;simp[get,Key.eq,eUses_len]))
 ·rw[decide_eq_false hk] at hfl
  rw[if_neg hk] at hue;refine dw_seq ?_;refine dw_seq ?_;refine dwk [] TP3_ok hnt fun K hK=>?_;refine dcl (hfl) ?_;refine hK _ _ ?_;clear hK K;refine dw_cond (t:=false) rfl ?_;rw[if_neg (by simp)];refine dw_skip ?_;refine dw_seq ?_;refine dw_seq ?_;refine dwk [(48,.v (.int .i64 (↑t.args.length)))] TP3_ok hnt fun K hK=>?_;refine And.intro (dintE (by rw[eTms_len])) ?_;refine hK _ _ ?_;clear hK K
  refine dw_block ?_
  refine dw_loop (ι:={ j:Nat // (Pn.usess (t.args.take j) (ar++t.binds) p 0).2=true }) (fun j=>[(.t 0,.sl 4 (eUses (l++(Pn.usess (t.args.take j.1) (ar++t.binds) p 0).1)) (some 0)),(.r 0,.rw 250 4 (l++(Pn.usess (t.args.take j.1) (ar++t.binds) p 0).1).length),(.t 2,.sl 2 (eTys (ar++t.binds)) none),(.t 3,.sl 1 (eIs p) none),(.t 47,.sl 4 (eTms t.args) none),(.t 48,.v (.int .i64 ↑t.args.length)),(.t 49,.v (.int .i64 ↑j.1))]) 1 (fun j=>t.args.length-j.1) (⟨0,rfl⟩) ((by simp only[List.take_zero,Pn.usess,List.append_nil];exact VS.toA)) fun j=>?_
  obtain⟨j,hj⟩:=j
  dsimp only
  by_cases hlt:j<t.args.length
  ·have hst:=Pn.usess_take (ar++t.binds) p t.args j hlt hj
   have hmem:=List.getElem_mem hlt
   have hfm:=full_mem hmem
   have hdl:=Pn.usess_len (ar++t.binds) p (t.args.take j) 0 fun t _ p=>Pn.uses_len t _ p
   have hft:=Tm.fulls_take t.args j hlt
   have hfj:=Tm.fulls_take_le t.args (j+1)
   obtain⟨done,hdone⟩:∃ d,(Pn.usess (t.args.take j) (ar++t.binds) p 0).1=d:=⟨_,rfl⟩
   have hih:=ih _ hmem (ar++t.binds) (p++[(j:Int)]) (l++done) (by rw[Ty.sizes_append];omega) (by simp;omega) (by rw[←hdone];simp;omega) (fit_args hf _ hmem)
   obtain⟨p2,hp2⟩:∃ q,p++[(j:Int)]=q:=⟨_,rfl⟩
   rw[hp2] at hst hih
   rw[hdone] at hst ⊢
   obtain⟨r,hr⟩:∃ r,Pn.uses t.args[j] (ar++t.binds) p2=r:=⟨_,rfl⟩
   rw[hr] at hst hih
   obtain⟨us,ok⟩:=r
   rw[eTm_eq] at hih
   unfold usesV at hih
   dsimp only at hst hih
   refine dw_seq ?_;refine dwk [(50,.v (.bool true))] TP3_ok hnt fun K hK=>?_;refine And.intro auT ?_;refine hK _ _ ?_;clear hK K;refine dw_seq ?_;refine dw_cond (t:=true) rfl ?_;rw[if_pos rfl];refine dw_skip ?_;refine dw_seq ?_;refine dw_block ?_;refine dw_seq ?_;refine dwk [(52,.q [.sl 2 (eTys t.args[j].binds) none,.v (.int .i64 t.args[j].kind),.v (.int .i64 t.args[j].index),.sl 4 (eTms t.args[j].args) none])] TP3_ok hnt fun K hK=>?_
   refine And.intro (elo (eTms_len t.args)) ?_;refine And.intro (elv (eTms_getD t.args j) (eTm_eq _)) ?_;refine hK _ _ ?_;clear hK K;refine dw_seq ?_;refine dwk [] TP3_ok hnt fun _ z9=>z9 _ _ ?_
   cases ok with
   | true=>
    rw[if_pos rfl] at hih;refine dw_seq ?_;refine dwkD [(62,.sl 1 (eIs p2) none)] TP3_ok hnt fun K hK=>?_;refine dcl (hcli) ?_;refine And.intro (⟨Nat.one_pos,by rw[eIs_len];simp;omega⟩) ?_;refine And.intro ((by rw[←hp2,eIs_append];exact VLe.untag _ _ _)) ?_;refine dcn (CallG.n (hih) _) ?_;refine hK _ _ (by kernel_rfl) ?_;clear hK K;refine dw_seq ?_;refine dwk [(67,.v (.bool false))] TP3_ok hnt fun K hK=>?_
    refine And.intro auF ?_;refine hK _ _ ?_;clear hK K;refine dw_cond (t:=false) rfl ?_;rw[if_neg (by simp)];refine dw_skip ?_;refine dwk [(69,.v (.int .i64 (↑(j+1))))] TP3_ok hnt fun K hK=>?_;refine And.intro auI ?_;refine hK _ _ ?_;clear hK K
    have hd2:(Pn.usess (t.args.take (j+1)) (ar++t.binds) p 0).1=done++us:=by rw[hst]
    have hd3:l++done++us=l++(Pn.usess (t.args.take (j+1)) (ar++t.binds) p 0).1:=by rw[hd2,List.append_assoc]
    rw[hd3]
    refine⟨⟨j+1,by rw[hst]⟩,by first | omega | (dsimp only;omega),VS.toA⟩
   | false=>
    rw[if_neg (by simp)] at hih
    have hwh:=Pn.usess_stop (ar++t.binds) p t.args (j+1) (by rw[hst])
    rw[hue,hwh,hst]
    refine dw_seq ?_;refine dwkD [(62,.sl 1 (eIs p2) none)] TP3_ok hnt fun K hK=>?_;refine dcl (hcli) ?_;refine And.intro (⟨Nat.one_pos,by rw[eIs_len];simp;omega⟩) ?_;refine And.intro ((by rw[←hp2,eIs_append];exact VLe.untag _ _ _)) ?_;refine dcn (CallG.n (hih) _) ?_;refine hK _ _ (by kernel_rfl) ?_;clear hK K;refine dw_seq ?_;refine dwk [(67,.v (.bool true))] TP3_ok hnt fun K hK=>?_
    refine And.intro auT ?_;refine hK _ _ ?_;clear hK K;refine dw_cond (t:=true) rfl ?_;rw[if_pos rfl];refine dw_seq ?_;refine dwk [] TP3_ok hnt fun _ z9=>z9 _ _ ?_;refine dw_ret ?_
    exact reta rfl ((by refine And.intro ?_ trivial;simp[get,Key.eq,List.append_assoc]))
  ·rw[List.take_of_length_le (by omega)] at hj ⊢
   rw[hue]
   unfold usesV
   rw[if_pos hj];refine dw_seq ?_;refine dwk [(50,.v (.bool false))] TP3_ok hnt fun K hK=>?_;refine And.intro auF ?_;refine hK _ _ ?_;clear hK K;refine dw_seq ?_;refine dw_cond (t:=false) rfl ?_;rw[if_neg (by simp)];refine dw_exit ?_;refine dw_seq ?_;refine dwk [] TP3_ok hnt fun _ z9=>z9 _ _ ?_;refine dw_ret ?_
   exact reta rfl
theorem uses_g:∀ t:Tm,UsesC t:=by
 intro t
 induction t using Tm.ind with
 | h bs k i a ih=>
  intro ar p l h1 h2 h3 hf
  refine callG_of_dw 1 71 [ResultVar.tmp 8,ResultVar.tmp 9] TP3_ok (by kernel_rfl) Tryz.func130 rfl Tryz.ntmps130 rfl (by simp) ?_ fun cx hnt hn0=>uses_body (.mk bs k i a) (fun u hu=>ih u hu) ar p l h1 h2 h3 hf _ rfl cx hnt (by omega)
  unfold usesV
  split <;> simp[wordsG,rowN,rowsR,gkey,Key.eq,D.ok,D.oks,D.okss,rnames,inN,eUses_ok,eTm_ok,eTys_ok,eIs_ok]
theorem uses_nil (t:Tm)(h1:t.full≤700000)(hf:t.Fit):PureC Tryz.prog 130 [.v (.slice none 0 0),.ag (eTm t),.v (.slice none 0 0),.v (.slice none 0 0)] (.tu [.sl 4 (if (Pn.uses t [] []).2 then eUses (Pn.uses t [] []).1 else []) none,.v (.int .i64 (if (Pn.uses t [] []).2 then 0 else 6))]):=by
 refine CallC.vle (args:=[.v (.slice none 0 0),.ag (eTm t),.sl 2 (eTys []) none,.sl 1 (eIs []) none]) ?_ (.cons (VLe.refl _) (.cons (VLe.refl _) (.cons (VLe.nil _) (.cons (VLe.nil _) .nil)))) (VLe.refl _)
 refine call_of_dw 0 71 [ResultVar.tmp 8,ResultVar.tmp 9] TP3_ok (by kernel_rfl) Tryz.func130 rfl Tryz.ntmps130 rfl (by simp) ?_ fun cx hnt hn0=>?_
 ·split <;> simp[wordsOk,D.ok,D.oks,D.okss,rnames,inN,ckey,eUses_ok,eTm_ok,eTys_ok,eIs_ok]
 ·have hb:=uses_body t (fun u _=>uses_g u) [] [] [] (by simp[Ty.sizes];omega) (by simp;omega) (by simp;omega) hf _ rfl cx hnt (by omega)
  refine DW.vs (VS.trans (VS.rowT (x:=0) (by rw[hnt];decide) 250 4 rfl) ?_) (DW.mono hb fun e σ N' h=>⟨h.1,?_,nofun⟩)
  ·exact(VS.toK (by omega) (by repeat first | exact trivial | refine And.intro (And.intro (by first | rfl | simp[D.ok,D.oks,D.okss,D.okm,upto,keyOk,eUses]) (by first | exact Or.inl rfl | exact Or.inr ⟨_,rfl,(by repeat first | exact VLe.refl _ | exact VLe.nil _ | exact VLe.untag _ _ _ | refine VLe.ag ?_ | refine VLe.tu ?_ | refine VLeL.cons ?_ ?_ | exact VLeL.nil),trivial⟩ | simp[get,Key.eq,eUses])) ?_))
  ·obtain⟨V',q1,q2⟩:=h.2.1
   refine⟨V',q1,q2.trans ?_⟩
   unfold usesV
   split
   ·exact VLe.tu (.cons (VLe.untag _ _ _) (.cons (VLe.refl _) .nil))
   ·exact VLe.tu (.cons (VLe.nil _) (.cons (VLe.refl _) .nil))
theorem is_d (t:Tm)(h1:t.full≤700000)(hf:t.Fit):PureC Tryz.prog 32 [.ag (eTm t)] (.v (.bool (Pn.uses t [] []).2)):=by
 have hu:=uses_nil t h1 hf
 have hU:PureC Tryz.prog 91 [.ag (eTm t)] (.tu [.sl 4 (if (Pn.uses t [] []).2 then eUses (Pn.uses t [] []).1 else []) none,.v (.int .i64 (if (Pn.uses t [] []).2 then 0 else 6))]):=by
  rw[eTm_eq] at hu ⊢
  refine call_of_dw 0 8 [ResultVar.tmp 2,ResultVar.tmp 3] TP3_ok (by kernel_rfl) Tryz.func91 rfl Tryz.ntmps91 rfl (by simp) ?dwords ?dbody
  case dwords=>simp[wordsOk,D.ok,D.oks,D.okss,rnames,inN,ckey,eUses_ok,eTms_ok,eTys_ok,apply_ite]
  case dbody=>
   intro cx hnt hn0
   refine dw_seq ?_;refine dwk [] TP3_ok hnt fun _ z9=>z9 _ _ ?_;refine dw_seq ?_;refine dwk [] TP3_ok hnt fun K hK=>?_;refine dcl (hu) ?_;refine hK _ _ ?_;clear hK K;refine dw_ret ?_
   exact reta rfl
 rw[eTm_eq] at hU ⊢
 cases h:(Pn.uses t [] []).2 with
 | true=>
  rw[h] at hU
  refine calldw 0 12 [ResultVar.tmp 2] TP3_ok Tryz.func32 rfl Tryz.ntmps32 rfl fun cx hnt hn0=>?_
  ·skip
   refine dw_seq ?_;refine dwk [] TP3_ok hnt fun _ z9=>z9 _ _ ?_;refine dw_seq ?_;refine dwk [] TP3_ok hnt fun K hK=>?_;refine dcl (hU) ?_;refine hK _ _ ?_;clear hK K;refine dw_seq ?_;refine dwk [(11,.v (.bool true))] TP3_ok hnt fun K hK=>?_;refine And.intro auT ?_;refine hK _ _ ?_;clear hK K;refine dw_ret ?_
   exact reta rfl
 | false=>
  rw[h] at hU
  refine calldw 0 12 [ResultVar.tmp 2] TP3_ok Tryz.func32 rfl Tryz.ntmps32 rfl fun cx hnt hn0=>?_
  ·skip
   refine dw_seq ?_;refine dwk [] TP3_ok hnt fun _ z9=>z9 _ _ ?_;refine dw_seq ?_;refine dwk [] TP3_ok hnt fun K hK=>?_;refine dcl (hU) ?_;refine hK _ _ ?_;clear hK K;refine dw_seq ?_;refine dwk [(11,.v (.bool false))] TP3_ok hnt fun K hK=>?_;refine And.intro auF ?_;refine hK _ _ ?_;clear hK K;refine dw_ret ?_
   exact reta rfl
theorem VLe.ps0 (n g:Nat):VLe (.sl n [] (some g)) (.ps g 0):=fun m Im w x h=>by
 cases h with
 | sl a c bl off n X l r h1 ha hc hn ho hr hg=>exact .ps a c g 0 (fun h=>absurd h (by omega)) (Nat.zero_le _) (hg g rfl)
section
variable {P:Program} {T:List (Nat×TI)} {cx:Cx} {Fr Fr':Nat→Prop} {m m':Mp} {Im Im':Nat→Nat→Prop} {w w':World} {a:Act} {σ σ' τ:List (Key×D)} {N N':Nat} {Q:Exit→List (Key×D)→Nat→Prop}
theorem VS.thaw {g E n:Nat}(h:get σ (.r g)=some (.rw E n 0)):VS cx σ N (put1 (.r g) (.rp E n []) σ) N:=fun m Im w a hs=>by
 obtain⟨R,hR,hro⟩:=hs.ro g _ h
 have e:=hro.rwi
 injection e with e1 e2 e3
 obtain⟨xs,hx⟩:=hs.mem.row g R hR
 have hxs:xs=[]:=by
  have:=hx.1
  rw[←e3,Nat.zero_mul] at this
  exact List.length_eq_zero_iff.1 this
 subst hxs
 refine⟨m,hs.putro hR ?_⟩
 rw[e1,e2]
 refine .rp (R:=R) [] [] (by rw[←e3];rfl) (fun i h=>absurd h (by simp)) hx (fun u h=>absurd h (by simp)) (fun i h=>absurd h (by simp)) fun b o hb hi=>?_
 have:=hs.mem.rIm g R b o hR hb hi
 rw[←e3,Nat.zero_mul] at this
 omega
theorem VS.rowPT {x:Nat}(hx:x<cx.nt)(E n:Nat)(h:get σ (.t x)=some (.v (.slice none 0 0))):VS cx σ N (put1 (.r N) (.rp E n []) (put1 (.t x) (.ps N 0) σ)) (N+1):=fun m Im w a hs=>by
 obtain⟨m',h'⟩:=((VS.rowT (N:=N) hx E n h).trans (VS.thaw (g:=N) (E:=E) (n:=n) (by rw[get_put1,if_pos (Key.eq_refl _)]))) m Im w a hs
 refine⟨m',{ h' with tm:=fun y d hy=>?_,ce:=fun k off d hy=>?_,ro:=fun g d hy=>?_,jk:=fun d hy=>?_,ok:=fun k d hy=>?_ }⟩
 ·rw[get_put1,if_neg (by simp[Key.eq]),get_put1] at hy
  by_cases e:Key.eq (.t x) (.t y)=true
  ·rw[if_pos e] at hy
   have:=Key.eq_iff.1 e;cases this
   cases hy
   exact VLe.ps0 n N _ _ _ _ (h'.tm x _ (by rw[get_put1,if_neg (by simp[Key.eq]),get_put1,if_neg (by simp[Key.eq]),get_put1,if_pos (Key.eq_refl _)]))
  ·rw[if_neg e] at hy
   exact h'.tm y d (by rw[get_put1,if_neg (by simp[Key.eq]),get_put1,if_neg (by simp[Key.eq]),get_put1,if_neg e];exact hy)
 ·rw[get_put1,if_neg (by simp[Key.eq]),get_put1,if_neg (by simp[Key.eq])] at hy
  exact h'.ce k off d (by rw[get_put1,if_neg (by simp[Key.eq]),get_put1,if_neg (by simp[Key.eq]),get_put1,if_neg (by simp[Key.eq])];exact hy)
 ·refine h'.ro g d ?_
  rw[get_put1] at hy ⊢
  split
  ·rename_i e;rw[if_pos e] at hy;exact hy
  ·rename_i e
   rw[if_neg e,get_put1,if_neg (by simp[Key.eq])] at hy
   rw[get_put1,if_neg e,get_put1,if_neg (by simp[Key.eq])];exact hy
 ·rw[get_put1,if_neg (by simp[Key.eq]),get_put1,if_neg (by simp[Key.eq])] at hy
  exact h'.jk d (by rw[get_put1,if_neg (by simp[Key.eq]),get_put1,if_neg (by simp[Key.eq]),get_put1,if_neg (by simp[Key.eq])];exact hy)
 ·rw[get_put1,if_neg (by simp[Key.eq]),get_put1,if_neg (by simp[Key.eq])] at hy
  exact h'.ok k d (by rw[get_put1,if_neg (by simp[Key.eq]),get_put1,if_neg (by simp[Key.eq]),get_put1,if_neg (by simp[Key.eq])];exact hy)
theorem St.freeze (h:St cx Fr m Im w a σ){g E n:Nat}{l:List (List D)}(hg:get σ (.r g)=some (.rp E n l)):
  ∃ Im',(∀ b o,Im b o→Im' b o)∧St cx Fr m Im' w a (put1 (.r g) (.rw E n l.length) σ)∧∀ x,Rel m Im w x (.ps g l.length)→Rel m Im' w x (.sl n l (some g)):=by
 obtain⟨R,hR,hro⟩:=h.ro g _ hg
 cases hro with
 | rp _ xs hl hn hown h1 hrr hni=>
 have hi:∀ b o,Im b o→Im b o∨(R.hv.ownBlock=some b∧o<R.len * R.n):=fun _ _ h=>.inl h
 have hmono:∀ {x d},Rel m Im w x d→Rel m (fun b o=>Im b o∨(R.hv.ownBlock=some b∧o<R.len * R.n)) w x d:=fun hx=>hx.mono (Mp.le.refl m) (KeepI.refl _ _) hi
 have hcell:∀ b o,R.hv.ownBlock=some b→o<R.len * R.n→∃ v,xs[o]?=some v∧w.cell? ⟨b,o,none⟩=some v:=fun b o hb ho=>by
  have hlt:o<xs.length:=by rw[hown.1];exact ho
  have:=hown.cells hb o _ (List.getElem?_eq_getElem hlt)
  rw[addr_add0] at this
  exact⟨_,List.getElem?_eq_getElem hlt,this⟩
 refine⟨fun b o=>Im b o∨(R.hv.ownBlock=some b∧o<R.len * R.n),hi,?_,fun x hx=>?_⟩
 ·have hs:St cx Fr m (fun b o=>Im b o∨(R.hv.ownBlock=some b∧o<R.len * R.n)) w a (σ.filter fun p=>!Key.eq (.r g) p.1):=by
   have hf:∀ k d,get (σ.filter fun p=>!Key.eq (.r g) p.1) k=some d→Key.eq (.r g) k=false∧get σ k=some d:=fun k d hk=>by
    rw[get_filter (fun k=>!Key.eq (.r g) k)] at hk
    split at hk
    ·rename_i e;exact⟨by simpa using e,hk⟩
    ·cases hk
   refine⟨{ h.mem with im:=?_,imb:=?_,im0:=?_,nim:=?_,rIm:=?_,onim:=?_ },h.df,h.nt,fun x d hx=>hmono (h.tm x d (hf _ _ hx).2),fun k off d hx=>?_,fun x d hx=>?_,fun d hd=>?_,fun k d hx=>?_⟩
   ·rintro b o (hh | ⟨hb,ho⟩)
    ·exact h.mem.im b o hh
    ·obtain⟨v,_,hv⟩:=hcell b o hb ho;exact⟨v,hv⟩
   ·rintro b o (hh | ⟨hb,ho⟩)
    ·exact h.mem.imb b o hh
    ·exact .inr (h.mem.rown g R b hR hb)
   ·intro b o hh;exact .inl (h.mem.im0 b o hh)
   ·rintro k b o hk (hh | ⟨hb,ho⟩)
    ·exact h.mem.nim k b o hk hh
    ·exact h.mem.rblk g R b k hR hb hk
   ·rintro x R0 b o hx hb0 (hh | ⟨hb,ho⟩)
    ·exact h.mem.rIm x R0 b o hx hb0 hh
    ·have:=h.mem.rinj x g R0 R b hx hR hb0 hb
     subst this
     rw[hR] at hx;cases hx;exact ho
   ·rintro k b o hk (hh | ⟨hb,ho⟩)
    ·exact h.mem.onim k b o hk hh
    ·exact h.mem.orow k g R b hk hR hb
   ·obtain⟨b,v,q1,q2,q3⟩:=h.ce k off d (hf _ _ hx).2
    exact⟨b,v,q1,q2,hmono q3⟩
   ·obtain⟨e,hx⟩:=hf _ _ hx
    obtain⟨R0,q1,q2⟩:=h.ro x d hx
    have hne:x≠g:=fun e2=>by subst e2;rw[Key.eq_refl] at e;cases e
    refine⟨R0,q1,q2.mono (fun _ _=>rfl) (Mp.le.refl m) (KeepI.refl _ _) hi ?_⟩
    rintro b o hb0 (hh | ⟨hb,ho⟩)
    ·exact hh
    ·exact absurd (h.mem.rinj x g R0 R b q1 hR hb0 hb) hne
   ·obtain⟨X,J,e,hX⟩:=h.jk d (hf _ _ hd).2
    refine⟨X,J,e,{ hX with nim:=?_ }⟩
    rintro b o hb (hh | ⟨hb2,ho⟩)
    ·exact hX.nim b o hb hh
    ·exact hX.row b g R hb hR hb2
   ·obtain⟨b,q1,q2⟩:=h.ok k d (hf _ _ hx).2
    exact⟨b,q1,q2.mono rfl (Mp.le.refl m) (KeepI.refl _ _) hi⟩
  have h2:=hs.putro hR (RoOk.rw (m:=m) (Im:=fun b o=>Im b o∨(R.hv.ownBlock=some b∧o<R.len * R.n)) (w:=w) (R:=R))
  rw[hl]
  refine h2.sub fun k d hk=>?_
  rw[get_put1] at hk ⊢
  split
  ·rename_i e;rw[if_pos e] at hk;exact hk
  ·rename_i e;rw[if_neg e] at hk
   rw[get_filter (fun k=>!Key.eq (.r g) k),if_pos (by simpa using e)];exact hk
 ·cases hx with
  | ps a0 c0 _ _ ha _ hh=>
  obtain⟨R0,p1,p2,p3⟩:=hh
  rw[hR] at p1;cases p1
  have hv:=p3 hl
  have hc:l.length≤maxLen∧l.length≤c0:=by
   rcases hown.2 with⟨e,h0⟩ | ⟨g',cap,cur,e,_,_,hnc,hcm,_⟩
   ·rw[hl,h0];omega
   ·rw[e] at hv;injection hv with _ _ q;rw[hl,←q];exact⟨by omega,hnc⟩
  have hij:∀ i j,i<l.length→j<R.n→i * R.n+j<R.len * R.n:=fun i j hi2 hj=>by
   have:(i+1) * R.n≤R.len * R.n:=Nat.mul_le_mul_right _ (by omega)
   rw[Nat.succ_mul] at this;omega
  have hgd:∀ i j,i<l.length→j<R.n→xs[i * R.n+j]?=some (xs.getD (i * R.n+j) undef):=fun i j hi2 hj=>by
   have:i * R.n+j<xs.length:=by rw[hown.1];exact hij i j hi2 hj
   rw[List.getD_eq_getElem?_getD,List.getElem?_eq_getElem this];rfl
  obtain⟨bl,hbl⟩:∃ bl,0<l.length→a0=some ⟨bl,0,none⟩:=by
   by_cases h0:0<l.length
   ·obtain⟨b,hb⟩:=ha h0;exact⟨b,fun _=>hb⟩
   ·exact⟨0,fun h=>absurd h h0⟩
  have hob:0<l.length→R.hv.ownBlock=some bl:=fun h0=>by rw[hv,hbl h0];rfl
  refine .sl a0 c0 bl 0 R.n (fun i j=>xs.getD (i * R.n+j) undef) l (some g) hc hbl (fun i j hi2 hj=>?_) hn (fun i j hi2 hj=>?_) (fun i hi2 j hj=>?_) fun r e=>?_
  ·have h0:=hob (by omega)
   obtain⟨v,q1,q2⟩:=hcell bl _ h0 (hij i j hi2 hj)
   rw[hgd i j hi2 hj] at q1;cases q1
   rw[Nat.zero_add]
   exact⟨q2,.inr ⟨h0,hij i j hi2 hj⟩⟩
  ·exact h1 _ (List.mem_of_getElem? (hgd i j hi2 hj))
  ·exact hmono (hrr i hi2 j hj)
  ·cases e;exact⟨R,hR,by omega,fun _=>hv⟩
theorem dw_freeze {c:Code}{x g E n len:Nat}{l:List (List D)}(hx:get σ (.t x)=some (.ps g len))(hg:get σ (.r g)=some (.rp E n l))(hl:l.length=len)(h:DW P cx c (put1 (.t x) (.sl n l (some g)) (put1 (.r g) (.rw E n l.length) σ)) N Q):DW P cx c σ N Q:=fun m Im w a hs=>by
 obtain⟨Im',hi,h2,h3⟩:=hs.freeze hg
 subst hl
 have hr:=h3 _ (hs.tm x _ hx)
 refine h m Im' w a { h2 with tm:=fun y d hy=>?_,ce:=fun k off d hy=>?_,ro:=fun k d hy=>?_,jk:=fun d hy=>?_,ok:=fun k d hy=>?_ }
 ·rw[get_put1] at hy
  by_cases e:Key.eq (.t x) (.t y)=true
  ·rw[if_pos e] at hy
   have:=Key.eq_iff.1 e;cases this
   cases hy;exact hr
  ·rw[if_neg e] at hy
   exact h2.tm y d hy
 ·rw[get_put1,if_neg (by simp[Key.eq])] at hy;exact h2.ce k off d hy
 ·rw[get_put1,if_neg (by simp[Key.eq])] at hy;exact h2.ro k d hy
 ·rw[get_put1,if_neg (by simp[Key.eq])] at hy;exact h2.jk d hy
 ·rw[get_put1,if_neg (by simp[Key.eq])] at hy;exact h2.ok k d hy
theorem cut_any (m m':Mp):(m.cut (fun _=>false) noR).le m':=⟨fun k b h=>by simp[Mp.cut] at h,fun g R h=>by simp[Mp.cut,noR] at h,fun k b h=>by simp[Mp.cut] at h⟩
theorem St.adopt {cx':Cx}{a':Act}(hs:St cx Fr m Im w a σ){nm:Nat}(hnm:Fr nm)(hs':St cx' Fr' m' Im' w' a' σ')(c3:cx'.w0=w)(c4:∀ b,¬ cx'.C b)(c5:cx'.Im0=Im){g:Nat}{R:RowM}{d:D}(hR:m'.row g=some R)(hro:RoOk m' Im' w' R d)(hd:d.ok (fun _=>false) noR=true):
  St cx (minus Fr nm) (m.setR nm R) Im' w' a (put1 (.r nm) d σ)∧m.le (m.setR nm R)∧KeepI Im w w'∧∀ b o,Im b o→Im' b o:=by
 have hbl:Below w.heap.size w w':=by
  have ho:=hs'.mem.off
  rw[c3] at ho
  exact⟨ho.os,ho.tape,ho.output,ho.size,fun b hb=>ho.block b hb (c4 b)⟩
 have hi:∀ b o,Im b o→Im' b o:=fun b o h=>hs'.mem.im0 b o (by rw[c5];exact h)
 have hib:∀ b o,Im' b o→Im b o∨w.heap.size≤b:=fun b o h=>by
  rcases hs'.mem.imb b o h with h1 | h1 | h1
  ·left;rw[c5] at h1;exact h1
  ·right;rw[c3] at h1;exact h1
  ·exact absurd (cx'.hCR b h1) (c4 b)
 have h1:=hs.below hbl hi hib hs'.mem.im
 have hle:m.le (m.setR nm R):=Mp.setR_le fun R0 h0=>by rw[(hs.mem.fr nm hnm).2.1] at h0;cases h0
 have hnew:∀ b,R.hv.ownBlock=some b→w.heap.size≤b:=fun b hb=>by
  rcases hs'.mem.rown g R b hR hb with h1 | h1
  ·rw[c3] at h1;exact h1
  ·exact absurd (cx'.hCR b h1) (c4 b)
 have hcase:∀ {x R0},(m.setR nm R).row x=some R0→(x=nm∧R0=R)∨(x≠nm∧m.row x=some R0):=fun {x R0} hx=>by
  by_cases e:x=nm
  ·left;simp[Mp.setR,e] at hx;exact⟨e,hx.symm⟩
  ·right;simp[Mp.setR,e] at hx;exact⟨e,hx⟩
 have hro2:RoOk (m.setR nm R) Im' w' R d:=(hro.cut hd).mono (fun _ _=>rfl) (cut_any _ _) (KeepI.refl _ _) (fun _ _ h=>h) fun _ _ _ h=>h
 refine⟨?_,hle,KeepI.below hbl,hi⟩
 refine⟨{ h1.mem with row:=?_,rIm:=?_,rblk:=?_,rinj:=?_,fr:=?_,rown:=?_,m0r:=hs.mem.m0r_le hle,orow:=?_ },h1.df,h1.nt,fun x d hx=>(h1.tm x d (by rw[get_put1,if_neg (by simp[Key.eq])] at hx;exact hx)).mono hle (KeepI.refl _ _) (fun _ _ h=>h),fun x off d hx=>?_,fun x d hx=>?_,fun d hd=>?_,fun x d hd=>?_⟩
 ·intro x R0 hx
  rcases hcase hx with⟨_,rfl⟩ | ⟨_,hx⟩
  ·exact hs'.mem.row g R0 hR
  ·exact h1.mem.row x R0 hx
 ·intro x R0 b o hx
  rcases hcase hx with⟨_,rfl⟩ | ⟨_,hx⟩
  ·exact hs'.mem.rIm g R0 b o hR
  ·exact h1.mem.rIm x R0 b o hx
 ·intro x R0 b k hx
  rcases hcase hx with⟨_,rfl⟩ | ⟨_,hx⟩
  ·intro e hk;have:=hs.mem.lt k _ hk;have:=hnew b e;omega
  ·exact h1.mem.rblk x R0 b k hx
 ·intro x y R0 R1 b hx hy ho ho'
  rcases hcase hx with⟨e1,e2⟩ | ⟨_,hx⟩ <;> rcases hcase hy with⟨e3,e4⟩ | ⟨_,hy⟩
  ·rw[e1,e3]
  ·rw[e2] at ho;have:=hnew b ho;have:=hs.mem.rlt hy ho';omega
  ·rw[e4] at ho';have:=hnew b ho';have:=hs.mem.rlt hx ho;omega
  ·exact h1.mem.rinj x y R0 R1 b hx hy ho ho'
 ·intro x hx;refine⟨(hs.mem.fr x hx.1).1,?_,(hs.mem.fr x hx.1).2.2⟩;simp[Mp.setR,hx.2,(hs.mem.fr x hx.1).2.1]
 ·intro x y R0 b hx hy
  rcases hcase hy with⟨_,rfl⟩ | ⟨_,hy⟩
  ·intro e;have:=hs.mem.olt x _ hx;have:=hnew b e;omega
  ·exact h1.mem.orow x y R0 b hx hy
 ·intro x R0 b hx ho
  rcases hcase hx with⟨_,rfl⟩ | ⟨_,hx⟩
  ·exact .inl (Nat.le_trans hs.mem.off.size (hnew b ho))
  ·exact h1.mem.rown x R0 b hx ho
 ·rw[get_put1,if_neg (by simp[Key.eq])] at hx
  obtain⟨c,v,q1,q2,q3⟩:=h1.ce x off d hx
  exact⟨c,v,q1,q2,q3.mono hle (KeepI.refl _ _) (fun _ _ h=>h)⟩
 ·rw[get_put1] at hx
  by_cases he:Key.eq (.r nm) (.r x)=true
  ·rw[if_pos he] at hx
   cases hx
   have:=Key.eq_iff.1 he
   cases this
   exact⟨R,by simp[Mp.setR],hro2⟩
  ·rw[if_neg he] at hx
   obtain⟨R0,q1,q2⟩:=h1.ro x d hx
   have hne:x≠nm:=fun e=>he (by rw[e];exact Key.eq_refl _)
   exact⟨R0,by simp[Mp.setR,hne,q1],q2.mono (fun _ _=>rfl) hle (KeepI.refl _ _) (fun _ _ h=>h) fun _ _ _ h=>h⟩
 ·rw[get_put1,if_neg (by simp[Key.eq])] at hd
  obtain⟨X,J,e,hX⟩:=h1.jk d hd
  obtain⟨X0,J0,e0,hX0⟩:=hs.jk d hd
  rw[e] at e0;cases e0
  refine⟨X,J,e,{ hX with row:=fun b x R0 hb hx ho=>?_ }⟩
  rcases hcase hx with⟨_,rfl⟩ | ⟨_,hx⟩
  ·have:=hX0.lt b hb;have:=hnew b ho;omega
  ·exact hX.row b x R0 hb hx ho
 ·rw[get_put1,if_neg (by simp[Key.eq])] at hd
  obtain⟨b,q1,q2⟩:=h1.ok x d hd
  exact⟨b,q1,q2.mono rfl hle (KeepI.refl _ _) fun _ _ h=>h⟩
theorem callRow_of_dw {f:FuncId}{fn:Func}{c:Code}{args:List D}{n E len:Nat}{l:List (List D)}(nt:Nat)(rs:List ResultVar)(hT:TabOk P T)(hen:entersB P f=true)(hf:P.funcs[f]?=some fn)(hb:fn.body=some c)(hnt:fn.ntmps=nt)(hrs:fn.results.toList=rs) 
  (hal:args.length≤nt) (ha:args.all (fun d=>d.ok (fun _=>false) noR)=true) (hlo:D.okss (fun _=>false) noR l=true)
  (h:∀ cx:Cx,cx.nt=nt→cx.n0=0→DW P cx c (argsT 0 args []) 0 (fun e σ _=>(e=.normal∨e=.ret)∧∃ g,resD T σ rs=some (.sl n l (some g))∧get σ (.r g)=some (.rw E n len))) (nm:Nat) :
  CallN P f args [] nm [(.r nm,.rw E n len)] (.sl n l (some nm)):=by
 refine⟨hen,fun cx Fr m Im w a σ vs hnm hs hargs _=>?_⟩
 refine calls_of_wp hf hb ?_
 obtain⟨cx',c1,c2,c3,c4,c5,hst⟩:=entry0 hs.mem hargs ha nt hal hnt
 refine Code.wp_mono (fun e a' w' ⟨σ',N',m',Im',⟨hq1,g,hq2,hq3⟩,hs'⟩=>?_) (h cx' c1 c2 _ Im w _ hst)
 obtain⟨v,r1,r2⟩:=resD_run (P:=P) (fn:=fn) hT hs' (by rw[hrs];exact hq2)
 obtain⟨R,hR,hro⟩:=hs'.ro g _ hq3
 obtain⟨s1,s2,s3,s4⟩:=hs.adopt hnm hs' c3 c4 c5 hR hro rfl
 have hv:Rel (m.setR nm R) Im' w' v (.sl n l (some nm)):=by
  cases r2 with
  | sl a0 c0 bl off n X l r h1 ha hc hn ho hr hg=>
   refine .sl a0 c0 bl off n X l (some nm) h1 ha hc hn ho (fun i hi j hj=>((hr i hi j hj).cut (D.oks_get (D.okss_get hlo i hi) j hj)).mono (cut_any _ _) (KeepI.refl _ _) fun _ _ h=>h) fun r e=>?_
   cases e
   obtain⟨R0,q1,q2,q3⟩:=hg g rfl
   rw[hR] at q1;cases q1
   exact⟨R,by simp[Mp.setR],q2,q3⟩
 have hfin:∃ v' m2 Im2,Ending.returned v=.returned v'∧St cx (minus Fr nm) m2 Im2 w' a (puts (dropT [] σ) [(.r nm,.rw E n len)])∧Rel m2 Im2 w' v' (.sl n l (some nm)):=by
  rw[dropT_nil]
  exact⟨v,_,Im',rfl,s1,hv⟩
 rcases hq1 with rfl | rfl
 ·exact⟨hs'.df,v,r1,hfin⟩
 ·exact⟨hs'.df,v,r1,hfin⟩
end
namespace So
variable {α:Type} {l l' r r':List (Int×α)}
def Srt (l:List (Int×α)):Prop:=l.Pairwise fun a b=>a.1≤b.1
def Same (l l':List (Int×α)):Prop:=∀ k:Int,l.filter (fun a=>a.1==k)=l'.filter (fun a=>a.1==k)
theorem Same.refl (l:List (Int×α)):Same l l:=fun _=>rfl
theorem Same.symm (h:Same l l'):Same l' l:=fun k=>(h k).symm
theorem Same.trans {l'':List (Int×α)}(h:Same l l')(h':Same l' l''):Same l l'':=fun k=>(h k).trans (h' k)
theorem Same.app (h:Same l l')(h':Same r r'):Same (l++r) (l'++r'):=fun k=>by rw[List.filter_append,List.filter_append,h k,h' k]
theorem Same.mem (h:Same l l'){x:Int×α}(hx:x∈l):x∈l':=by
 have:x∈l.filter (fun a=>a.1==x.1):=List.mem_filter.2 ⟨hx,by simp⟩
 rw[h x.1] at this
 exact(List.mem_filter.1 this).1
theorem Same.swap (h:∀ x∈l,∀ y∈r,x.1≠y.1):Same (l++r) (r++l):=fun k=>by
 rw[List.filter_append,List.filter_append]
 by_cases hl:l.filter (fun a=>a.1==k)=[]
 ·rw[hl];simp
 ·have hr:r.filter (fun a=>a.1==k)=[]:=by
   rw[List.filter_eq_nil_iff]
   intro y hy e
   obtain⟨x,hx⟩:=List.exists_mem_of_ne_nil _ hl
   have hx:=List.mem_filter.1 hx
   exact h x hx.1 y hy (by have e1:=hx.2;simp at e1 e;omega)
  rw[hr];simp
theorem srt_app:Srt (l++r)↔Srt l∧Srt r∧∀ a∈l,∀ b∈r,a.1≤b.1:=List.pairwise_append
theorem srt_nil:Srt ([]:List (Int×α)):=List.Pairwise.nil
theorem srt_one (x:Int×α):Srt [x]:=List.pairwise_singleton _ _
theorem uniq:∀ {l l':List (Int×α)},Srt l→Srt l'→Same l l'→l=l'
 | [],[],_,_,_=>rfl
 | [],y :: s,_,_,h=>by have:=h.symm.mem (x:=y) (by simp);cases this
 | x :: t,[],_,_,h=>by have:=h.mem (x:=x) (by simp);cases this
 | x :: t,y :: s,h1,h2,h=>by
  have a1:=List.pairwise_cons.1 h1
  have a2:=List.pairwise_cons.1 h2
  have e1:x.1≤y.1:=by
   rcases List.mem_cons.1 (h.symm.mem (x:=y) (by simp)) with e | e
   ·rw[e];exact Int.le_refl _
   ·exact a1.1 y e
  have e2:y.1≤x.1:=by
   rcases List.mem_cons.1 (h.mem (x:=x) (by simp)) with e | e
   ·rw[e];exact Int.le_refl _
   ·exact a2.1 x e
  have e3:y.1=x.1:=by omega
  have hx:=h x.1
  rw[List.filter_cons,List.filter_cons,if_pos (by simp),if_pos (by simp[e3])] at hx
  injection hx with q1 q2
  subst q1
  rw[uniq a1.2 a2.2 fun k=>by
   have hk:=h k
   rw[List.filter_cons,List.filter_cons] at hk
   split at hk
   ·injection hk
   ·exact hk]
def ins (x:Int×α):List (Int×α)→List (Int×α)
 | []=>[x]
 | y :: l=>if y.1≤x.1 then y :: ins x l else x :: y :: l
def ssr:List (Int×α)→List (Int×α)
 | []=>[]
 | x :: l=>ins x (ssr l)
def ss (l:List (Int×α)):List (Int×α):=ssr l.reverse
theorem ins_mem {x y:Int×α}:∀ {l:List (Int×α)},y∈ins x l↔y=x∨y∈l
 | []=>by simp[ins]
 | z :: l=>by
  rw[ins]
  split
  ·simp only[List.mem_cons,ins_mem (l:=l)]
   constructor
   ·rintro(h | h | h)
    ·exact .inr (.inl h)
    ·exact .inl h
    ·exact .inr (.inr h)
   ·rintro(h | h | h)
    ·exact .inr (.inl h)
    ·exact .inl h
    ·exact .inr (.inr h)
  ·simp only[List.mem_cons]
theorem ins_len (x:Int×α):∀ l:List (Int×α),(ins x l).length=l.length+1
 | []=>rfl
 | z :: l=>by rw[ins];split <;> simp[ins_len x l]
theorem ins_srt (x:Int×α):∀ {l:List (Int×α)},Srt l→Srt (ins x l)
 | [],_=>srt_one x
 | z :: l,h=>by
  have a:=List.pairwise_cons.1 h
  rw[ins]
  split
  ·rename_i hz
   refine List.pairwise_cons.2 ⟨fun y hy=>?_,ins_srt x a.2⟩
   rcases ins_mem.1 hy with rfl | hy
   ·exact hz
   ·exact a.1 y hy
  ·rename_i hz
   refine List.pairwise_cons.2 ⟨fun y hy=>?_,h⟩
   rcases List.mem_cons.1 hy with rfl | hy
   ·omega
   ·have:=a.1 y hy;omega
theorem ins_same (x:Int×α):∀ {l:List (Int×α)},Srt l→Same (ins x l) (l++[x])
 | [],_=>Same.refl _
 | z :: l,h=>by
  have a:=List.pairwise_cons.1 h
  rw[ins]
  split
  ·exact Same.app (l:=[z]) (l':=[z]) (Same.refl _) (ins_same x a.2)
  ·rename_i hz
   refine Same.swap (l:=[x]) (r:=z :: l) fun u hu y hy=>?_
   rw[List.mem_singleton] at hu
   subst hu
   rcases List.mem_cons.1 hy with rfl | hy
   ·omega
   ·have:=a.1 y hy;omega
theorem ssr_srt:∀ l:List (Int×α),Srt (ssr l)
 | []=>srt_nil
 | x :: l=>ins_srt x (ssr_srt l)
theorem ssr_same:∀ l:List (Int×α),Same (ssr l) l.reverse
 | []=>Same.refl _
 | x :: l=>by
  rw[ssr,List.reverse_cons]
  exact(ins_same x (ssr_srt l)).trans ((ssr_same l).app (Same.refl _))
theorem ssr_len:∀ l:List (Int×α),(ssr l).length=l.length
 | []=>rfl
 | x :: l=>by rw[ssr,ins_len,ssr_len l];rfl
theorem ss_srt (l:List (Int×α)):Srt (ss l):=ssr_srt _
theorem ss_same (l:List (Int×α)):Same (ss l) l:=by
 have:=ssr_same l.reverse
 rwa [List.reverse_reverse] at this
theorem ss_len (l:List (Int×α)):(ss l).length=l.length:=by rw[ss,ssr_len,List.length_reverse]
theorem ss_eq (h:Srt l')(h2:Same l' l):ss l=l':=uniq (ss_srt l) h ((ss_same l).trans h2.symm)
theorem ss_self (h:Srt l):ss l=l:=ss_eq h (Same.refl _)
theorem ss_cong (h:Same l l'):ss l=ss l':=ss_eq (ss_srt l') ((ss_same l').trans h.symm)
theorem ss_one (x:Int×α):ss [x]=[x]:=ss_self (srt_one x)
theorem ss_snoc {X S1 S2:List (Int×α)}{x:Int×α}(h:S1++S2=ss X)(h1:∀ s∈S1,s.1≤x.1)(h2:∀ s∈S2,x.1<s.1):ss (X++[x])=S1++x :: S2:=by
 have hs:=ss_srt X
 rw[←h] at hs
 have a:=srt_app.1 hs
 refine ss_eq (srt_app.2 ⟨a.1,List.pairwise_cons.2 ⟨fun s hs=>Int.le_of_lt (h2 s hs),a.2.1⟩,fun s hs y hy=>?_⟩) ?_
 ·rcases List.mem_cons.1 hy with rfl | hy
  ·exact h1 s hs
  ·exact a.2.2 s hs y hy
 ·refine Same.trans (l':=(S1++S2)++[x]) ?_ ?_
  ·rw[List.append_assoc]
   refine(Same.refl S1).app (Same.swap (l:=[x]) (r:=S2) fun u hu y hy=>?_)
   rw[List.mem_singleton] at hu
   subst hu
   have:=h2 y hy;omega
  ·rw[h];exact(ss_same X).app (Same.refl _)
theorem ss_cut {X1 X2 Y1 Y2:List (Int×α)}(hX:Srt (X1++X2))(hY:Srt (Y1++Y2))(h1:∀ x∈X1,∀ y∈Y2,x.1≤y.1)(h2:∀ y∈Y1,∀ x∈X2,y.1<x.1):ss (X1++X2++(Y1++Y2))=ss (X1++Y1)++ss (X2++Y2):=by
 have a:=srt_app.1 hX
 have b:=srt_app.1 hY
 refine ss_eq (srt_app.2 ⟨ss_srt _,ss_srt _,fun x hx y hy=>?_⟩) ?_
 ·rcases List.mem_append.1 ((ss_same _).mem hx) with hx | hx <;> rcases List.mem_append.1 ((ss_same _).mem hy) with hy | hy
  ·exact a.2.2 x hx y hy
  ·exact h1 x hx y hy
  ·exact Int.le_of_lt (h2 x hx y hy)
  ·exact b.2.2 x hx y hy
 ·refine((ss_same _).app (ss_same _)).trans ?_
  rw[List.append_assoc,List.append_assoc]
  refine(Same.refl X1).app ?_
  rw[←List.append_assoc,←List.append_assoc]
  refine Same.app ?_ (Same.refl Y2)
  exact Same.swap fun y hy x hx=>by have:=h2 y hy x hx;omega
inductive Ch (s:Nat):List (Int×α)→Prop where
 | last (l:List (Int×α)) (h:l.length≤s) (hs:Srt l):Ch s l
 | cons (c l:List (Int×α)) (hc:c.length=s) (hs:Srt c) (h:Ch s l):Ch s (c++l)
inductive Fu (s:Nat):List (Int×α)→Prop where
 | nil:Fu s []
 | cons (c l:List (Int×α)) (hc:c.length=s) (hs:Srt c) (h:Fu s l):Fu s (c++l)
theorem Fu.snoc {s:Nat}{P c:List (Int×α)}(h:Fu s P)(hc:c.length=s)(hs:Srt c):Fu s (P++c):=by
 induction h with
 | nil=>have:=Fu.cons c [] hc hs .nil;simpa using this
 | cons d l hd hsd h ih=>rw[List.append_assoc];exact .cons d _ hd hsd ih
theorem Fu.ch {s:Nat}{P Q:List (Int×α)}(h:Fu s P)(hQ:Ch s Q):Ch s (P++Q):=by
 induction h with
 | nil=>exact hQ
 | cons d l hd hsd h ih=>rw[List.append_assoc];exact .cons d _ hd hsd ih
theorem Ch.more {s:Nat}{Q:List (Int×α)}(h:Ch s Q)(hl:s<Q.length):∃ c l,Q=c++l∧c.length=s∧Srt c∧Ch s l:=by
 cases h with
 | last l h hs=>omega
 | cons c l hc hs h=>exact⟨c,l,rfl,hc,hs,h⟩
theorem Ch.one {s:Nat}{Q:List (Int×α)}(h:Ch s Q)(hl:Q.length≤s)(hs:0<s):Srt Q:=by
 cases h with
 | last l h hs=>exact hs
 | cons c l hc hsc h=>
  have:l=[]:=List.length_eq_zero_iff.1 (by simp at hl;omega)
  subst this;simpa using hsc
end So
theorem binds_mk' (b:List Ty)(k i:Int)(a:List Tm):(Tm.mk b k i a).binds=b:=rfl
theorem kind_mk' (b:List Ty)(k i:Int)(a:List Tm):(Tm.mk b k i a).kind=k:=rfl
theorem index_mk' (b:List Ty)(k i:Int)(a:List Tm):(Tm.mk b k i a).index=i:=rfl
theorem args_mkT (b:List Ty)(k i:Int)(a:List Tm):(Tm.mk b k i a).args=a:=rfl
namespace Pn
abbrev Spot:=Tm×List Ty×List Int
mutual
def subs:Tm→List Ty→List Int→List Spot
 | .mk bs k i a,ar,p=>(.mk bs k i a,ar++bs,p) :: subss a (ar++bs) p 0
def subss:List Tm→List Ty→List Int→Nat→List Spot
 | [],_,_,_=>[]
 | t :: l,ar,p,j=>subs t ar (p++[(j:Int)])++subss l ar p (j+1)
end
mutual
def rigB:Tm→Tm→Bool
 | .mk bs k i a,t=>decide (bs=t.binds)&&(decide (k=2)||((decide (k=t.kind)&&decide (i=t.index))&&(decide (a.length=t.args.length)&&rigBs a t.args)))
def rigBs:List Tm→List Tm→Bool
 | [],_=>true
 | p :: l,ts=>rigB p (ts.headD Tm.zero)&&rigBs l ts.tail
end
/-! several at once -/
def mayAll:List (Tm×Tm)→Int
 | []=>0
 | p :: l=>if may p.1=0 then mayAll l else may p.1
def walkL:List (Tm×Tm)→Bd→Option Bd
 | [],b=>some b
 | p :: l,b=>if (walk p.1 p.2 [] b).1 then walkL l (walk p.1 p.2 [] b).2 else none
def mAll (l:List (Tm×Tm)):Bd×Int:=if mayAll l=0 then (match walkL l [] with | some b=>(So.ss b,0) | none=>([],9)) else ([],mayAll l)
end Pn
def TSO_3:TI:=⟨1,false,[Value.int IntKind.i64 0],[],none,8,2,none,false⟩
theorem TSO_3_ok:TypOk Tryz.prog 3 TSO_3:=by constructor <;> kernel_rfl
def TSO_50:TI:=⟨1,false,[Value.slice none 0 0],[],some 79,24,5,none,false⟩
theorem TSO_50_ok:TypOk Tryz.prog 50 TSO_50:=by constructor <;> kernel_rfl
def TSO_79:TI:=⟨5,true,[Value.int IntKind.i64 0,Value.slice none 0 0,Value.int IntKind.i64 0,Value.int IntKind.i64 0,Value.slice none 0 0],[(0,1,false),(1,4,true)],none,72,6,none,false⟩
theorem TSO_79_ok:TypOk Tryz.prog 79 TSO_79:=by constructor <;> kernel_rfl
def TSO_222:TI:=⟨1,false,[Value.int IntKind.u64 0],[],none,8,2,none,false⟩
theorem TSO_222_ok:TypOk Tryz.prog 222 TSO_222:=by constructor <;> kernel_rfl
def TSO_204:TI:=⟨1,false,[Value.nilFunc],[],none,8,8,none,false⟩
theorem TSO_204_ok:TypOk Tryz.prog 204 TSO_204:=by constructor <;> kernel_rfl
def TSO_51:TI:=⟨1,false,[Value.slice none 0 0],[],some 79,24,5,none,false⟩
theorem TSO_51_ok:TypOk Tryz.prog 51 TSO_51:=by constructor <;> kernel_rfl
def TSO:List (Nat×TI):=[(3,TSO_3),(50,TSO_50),(79,TSO_79),(222,TSO_222),(204,TSO_204),(51,TSO_51)]
theorem TSO_ok:TabOk Tryz.prog TSO:=(((((((TabOk.nil _).cons TSO_51_ok).cons TSO_204_ok).cons TSO_222_ok).cons TSO_79_ok).cons TSO_50_ok).cons TSO_3_ok)
theorem at_ {α:Type}{P R L:List α}{x:α}{i:Nat}(h:L=P++x :: R)(hi:P.length=i):L[i]?=some x:=by subst h;subst hi;simp
theorem pl_ok {L:List (Int×Tm)}{n i:Nat}{x:Int×Tm}(hn:L.length=n)(h:L[i]?=some x):(ePairs L).length=n∧i<n∧((ePairs L).getD i []).length=5:=by
 have hi:i<L.length:=by
  rcases Nat.lt_or_ge i L.length with h' | h'
  ·exact h'
  ·rw[List.getElem?_eq_none h'] at h;cases h
 exact⟨by rw[ePairs_len,hn],by omega,by rw[ePairs_getD L i hi,ePair_eq];rfl⟩
theorem pl_eq {L:List (Int×Tm)}{i:Nat}{x:Int×Tm}(h:L[i]?=some x):VLe (.ag ((ePairs L).getD i [])) (.ag [.v (.int .i64 x.1),.sl 2 (eTys x.2.binds) none,.v (.int .i64 x.2.kind),.v (.int .i64 x.2.index),.sl 4 (eTms x.2.args) none]):=by
 have hi:i<L.length:=by
  rcases Nat.lt_or_ge i L.length with h' | h'
  ·exact h'
  ·rw[List.getElem?_eq_none h'] at h;cases h
 rw[List.getElem?_eq_getElem hi] at h
 cases h
 exact VLe.of_eq (by rw[ePairs_getD L i hi,ePair_eq])
theorem pl_lt {α:Type}{L:List α}{n i:Nat}{x:α}(hn:L.length=n)(h:L[i]?=some x):i<n:=by
 rcases Nat.lt_or_ge i L.length with h' | h'
 ·omega
 ·rw[List.getElem?_eq_none h'] at h;cases h
theorem rowPut5 (r:List D)(a b c d e:D):rowPut r 0 5 [a,b,c,d,e]=[a,b,c,d,e]:=if_pos ⟨rfl,rfl⟩
theorem eP_set (L:List (Int×Tm))(i:Nat)(x:Int×Tm)(r:List D):(ePairs L).set i (rowPut r 0 5 [.v (.int .i64 x.1),.sl 2 (eTys x.2.binds) none,.v (.int .i64 x.2.kind),.v (.int .i64 x.2.index),.sl 4 (eTms x.2.args) none])=ePairs (L.set i x):=by
 rw[rowPut5,←ePair_eq,ePairs,ePairs,List.map_set]
theorem set_two {α:Type}{P Q R:List α}{x y:α}{i j:Nat}(hi:P.length=i)(hj:i+1+Q.length=j):((P++x :: (Q++y :: R)).set i y).set j x=P++y :: (Q++x :: R):=by
 subst hi hj
 rw[List.set_append_right _ _ (Nat.le_refl _),Nat.sub_self,List.set_cons_zero,List.set_append_right _ _ (by omega),show P.length+1+Q.length-P.length=Q.length+1 by omega,List.set_cons_succ,List.set_append_right _ _ (Nat.le_refl _),Nat.sub_self,List.set_cons_zero]
theorem eP_swap {P Q R L L':List (Int×Tm)}{x y:Int×Tm}{i j:Nat}(hL:L=P++x :: (Q++y :: R))(hi:P.length=i)(hj:i+1+Q.length=j)(hL':L'=P++y :: (Q++x :: R)):
  ((ePairs L).set i (rowPut ((ePairs L).getD i []) 0 5 [.v (.int .i64 y.1),.sl 2 (eTys y.2.binds) none,.v (.int .i64 y.2.kind),.v (.int .i64 y.2.index),.sl 4 (eTms y.2.args) none])).set j (rowPut (((ePairs L).set i (rowPut ((ePairs L).getD i []) 0 5 [.v (.int .i64 y.1),.sl 2 (eTys y.2.binds) none,.v (.int .i64 y.2.kind),.v (.int .i64 y.2.index),.sl 4 (eTms y.2.args) none])).getD j []) 0 5 [.v (.int .i64 x.1),.sl 2 (eTys x.2.binds) none,.v (.int .i64 x.2.kind),.v (.int .i64 x.2.index),.sl 4 (eTms x.2.args) none])=ePairs L':=by
 rw[eP_set,eP_set,hL,hL',set_two hi hj]
theorem eP_swap' {P Q R L L':List (Int×Tm)}{x y:Int×Tm}{i j:Nat}(hL:L=P++x :: (Q++y :: R))(hi:P.length=i)(hj:i+1+Q.length=j)(hL':L'=P++y :: (Q++x :: R)):
  ((ePairs L).set j (rowPut ((ePairs L).getD j []) 0 5 [.v (.int .i64 x.1),.sl 2 (eTys x.2.binds) none,.v (.int .i64 x.2.kind),.v (.int .i64 x.2.index),.sl 4 (eTms x.2.args) none])).set i (rowPut (((ePairs L).set j (rowPut ((ePairs L).getD j []) 0 5 [.v (.int .i64 x.1),.sl 2 (eTys x.2.binds) none,.v (.int .i64 x.2.kind),.v (.int .i64 x.2.index),.sl 4 (eTms x.2.args) none])).getD i []) 0 5 [.v (.int .i64 y.1),.sl 2 (eTys y.2.binds) none,.v (.int .i64 y.2.kind),.v (.int .i64 y.2.index),.sl 4 (eTms y.2.args) none])=ePairs L':=by
 rw[eP_set,eP_set,hL,hL',List.set_comm _ _ (by omega),set_two hi hj]
theorem st_ok {L:List (Int×Tm)}{n i:Nat}{x:Int×Tm}(hn:L.length=n)(h:L[i]?=some x):(ePairs L).length=n∧i<n:=⟨(pl_ok hn h).1,(pl_ok hn h).2.1⟩
theorem st_ok2 {L:List (Int×Tm)}{n i j:Nat}{x:Int×Tm}{r:List D}(hn:L.length=n)(h:L[i]?=some x):((ePairs L).set j r).length=n∧i<n:=⟨by rw[List.length_set];exact(pl_ok hn h).1,(pl_ok hn h).2.1⟩
theorem swapR_d (A U M V Z:List (Int×Tm))(n a b k:Nat)(hn:(A++U++M++V++Z).length=n)(ha:A.length=a)(hb:a+U.length+M.length=b)(hk:U.length=k)(hv:V.length=k)(hM:n≤1000000):
  CallG Tryz.prog 206 [.ps 0 n,.v (.int .i64 ↑a),.v (.int .i64 ↑b),.v (.int .i64 ↑k),.fn 113 []] [(.r 0,.rp 79 5 (ePairs (A++U++M++V++Z)))] [(.r 0,.rp 79 5 (ePairs (A++V++M++U++Z)))] (.tu []):=by
 refine callG_of_dw 1 38 [] TSO_ok (by kernel_rfl) Tryz.func206 rfl Tryz.ntmps206 rfl (by simp) ?dwords ?dbody
 case dwords=>simp[wordsG,rowN,rowsR,gkey,Key.eq,D.ok,D.oks,D.okss,rnames,inN,ckey,ePairs_ok]
 case dbody=>
  intro cx hnt hn0
  refine dw_seq ?_;refine dwk [] TSO_ok hnt fun _ z9=>z9 _ _ ?_;refine dw_block ?_
  refine dw_loop (ι:={ p:List (Int×Tm)×List (Int×Tm)×List (Int×Tm)×List (Int×Tm) // p.1++p.2.1=U∧p.2.2.1++p.2.2.2=V∧p.1.length=p.2.2.1.length }) (fun p=>[(.t 0,.ps 0 n),(.t 1,.v (.int .i64 ↑a)),(.t 2,.v (.int .i64 ↑b)),(.t 3,.v (.int .i64 ↑k)),(.t 10,.v (.int .i64 ↑p.1.1.length)),(.r 0,.rp 79 5 (ePairs (A++p.1.2.2.1++p.1.2.1++M++p.1.1++p.1.2.2.2++Z)))]) 1 (fun p=>p.1.2.1.length) (⟨([],U,[],V),rfl,rfl,rfl⟩) ((VS.toK (by omega) (by repeat first | exact trivial | refine And.intro (And.intro (by first | rfl | simp[D.ok,D.oks,D.okss,D.okm,upto,keyOk,argsT]) (by first | exact Or.inl rfl | exact Or.inr ⟨_,rfl,(by repeat first | exact VLe.refl _ | exact VLe.nil _ | exact VLe.untag _ _ _ | refine VLe.ag ?_ | refine VLe.tu ?_ | refine VLeL.cons ?_ ?_ | exact VLeL.nil),trivial⟩ | simp[get,Key.eq,argsT])) ?_))) fun j=>?_
  obtain⟨⟨U1,U2,V1,V2⟩,hU,hV,hl⟩:=j
  dsimp only at hU hV hl ⊢
  obtain⟨L,hL⟩:∃ L,A++V1++U2++M++U1++V2++Z=L:=⟨_,rfl⟩
  have hnL:L.length=n:=by rw[←hL,←hn,←hU,←hV];simp;omega
  rw[hL]
  have hUl:U1.length+U2.length=k:=by rw[←hk,←hU];simp
  have hVl:V1.length+V2.length=k:=by rw[←hv,←hV];simp
  cases U2 with
  | nil=>
   have h0:V2=[]:=List.length_eq_zero_iff.1 (by simp at hUl;omega)
   subst h0
   simp only[List.append_nil] at hU hV
   subst hU hV
   simp only[List.append_nil] at hL
   rw[←hL]
   refine dw_seq ?_;refine dw_seq ?_;refine dwk [(13,.v (.bool false))] TSO_ok hnt fun K hK=>?_;refine And.intro auF ?_;refine hK _ _ ?_;clear hK K;refine dw_cond (t:=false) rfl ?_;rw[if_neg (by simp)];refine dw_exit ?_
   exact reta rfl
  | cons x U2=>
   cases V2 with
   | nil=>simp at hUl hVl;omega
   | cons y V2=>
    simp at hUl hVl
    have hx:L[a+U1.length]?=some x:=at_ (P:=A++V1) (R:=U2++M++U1++y :: V2++Z) (by rw[←hL];simp) (by simp;omega)
    have hy:L[b+U1.length]?=some y:=at_ (P:=A++V1++x :: U2++M++U1) (R:=V2++Z) (by rw[←hL];simp) (by simp;omega)
    have lx:=pl_lt hnL hx
    have ly:=pl_lt hnL hy
    refine dw_seq ?_;refine dw_seq ?_;refine dwk [(13,.v (.bool true))] TSO_ok hnt fun K hK=>?_;refine And.intro auT ?_;refine hK _ _ ?_;clear hK K;refine dw_cond (t:=true) rfl ?_;rw[if_pos rfl];refine dw_skip ?_;refine dw_seq ?_;refine dw_block ?_;refine dwkD [(19,.v (.int .i64 (↑(a+U1.length)))),(23,.v (.int .i64 (↑(b+U1.length)))),(27,.v (.int .i64 (↑(b+U1.length)))),(28,.pr 0 n 5 ((b+U1.length)) 0),(29,.ag [.v (.int .i64 y.1),.sl 2 (eTys y.2.binds) none,.v (.int .i64 y.2.kind),.v (.int .i64 y.2.index),.sl 4 (eTms y.2.args) none]),(33,.v (.int .i64 (↑(a+U1.length)))),(34,.pr 0 n 5 ((a+U1.length)) 0),(35,.ag [.v (.int .i64 x.1),.sl 2 (eTys x.2.binds) none,.v (.int .i64 x.2.kind),.v (.int .i64 x.2.index),.sl 4 (eTms x.2.args) none]),(36,.pr 0 n 5 ((a+U1.length)) 0),(37,.pr 0 n 5 ((b+U1.length)) 0)] TSO_ok hnt fun K hK=>?_
    refine And.intro auI ?_;refine And.intro auI ?_;refine And.intro auI ?_;refine And.intro (by constructor <;> omega) ?_;refine And.intro (by first | rfl | exact VLe.of_eq (by simp)) ?_;refine And.intro (pl_ok hnL hy) ?_;refine And.intro (pl_eq hy) ?_;refine And.intro auI ?_;refine And.intro (by constructor <;> omega) ?_;refine And.intro (by first | rfl | exact VLe.of_eq (by simp)) ?_;refine And.intro (pl_ok hnL hx) ?_
    refine And.intro (pl_eq hx) ?_;refine And.intro (by constructor <;> omega) ?_;refine And.intro (by first | rfl | exact VLe.of_eq (by simp)) ?_;refine And.intro (st_ok hnL hx) ?_;refine And.intro (by constructor <;> omega) ?_;refine And.intro (by first | rfl | exact VLe.of_eq (by simp)) ?_;refine And.intro (st_ok2 hnL hy) ?_;refine hK _ _ (by kernel_rfl) ?_;clear hK K
    rw[eP_swap (P:=A++V1) (Q:=U2++M++U1) (R:=V2++Z) (L':=A++(V1++[y])++U2++M++(U1++[x])++V2++Z) (by rw[←hL];simp) (by simp;omega) (by simp;omega) (by simp)]
    refine dwk [(15,.v (.int .i64 (↑(U1++[x]).length)))] TSO_ok hnt fun K hK=>?_;refine And.intro (dintE (by rw[IntWalk.i64_in _ (by omega)];simp)) ?_;refine hK _ _ ?_;clear hK K
    refine⟨⟨(U1++[x],U2,V1++[y],V2),by rw[←hU];simp,by rw[←hV];simp,by simp;omega⟩,by simp,VS.toA⟩
theorem cmpI_lt {a b:Int}:cmpI a b<0↔a<b:=by
 unfold cmpI
 split
 ·simp[*]
 ·split <;> simp[*]
theorem snoc_cases {α:Type}(l:List α):l=[]∨∃ L b,l=L++[b]:=by
 rcases List.eq_nil_or_concat l with h | ⟨L,b,h⟩
 ·exact .inl h
 ·exact .inr ⟨L,b,by rw[h,List.concat_eq_append]⟩
theorem rotate_d (A X Y Z:List (Int×Tm))(n a m b:Nat)(hn:(A++X++Y++Z).length=n)(ha:A.length=a)(hm:a+X.length=m)(hb:m+Y.length=b)(hX:0<X.length)(hY:0<Y.length)(hM:n≤1000000):
  CallG Tryz.prog 200 [.ps 0 n,.v (.int .i64 ↑a),.v (.int .i64 ↑m),.v (.int .i64 ↑b),.fn 113 []] [(.r 0,.rp 79 5 (ePairs (A++X++Y++Z)))] [(.r 0,.rp 79 5 (ePairs (A++Y++X++Z)))] (.tu []):=by
 have hbn:b≤n:=by simp at hn;omega
 refine callG_of_dw 1 58 [] TSO_ok (by kernel_rfl) Tryz.func200 rfl Tryz.ntmps200 rfl (by simp) ?dwords ?dbody
 case dwords=>simp[wordsG,rowN,rowsR,gkey,Key.eq,D.ok,D.oks,D.okss,rnames,inN,ckey,ePairs_ok]
 case dbody=>
  intro cx hnt hn0
  refine dw_seq ?_;refine dwk [(14,.v (.int .i64 (↑X.length)))] TSO_ok hnt fun K hK=>?_;refine And.intro auI ?_;refine hK _ _ ?_;clear hK K;refine dw_seq ?_;refine dwk [(17,.v (.int .i64 (↑Y.length)))] TSO_ok hnt fun K hK=>?_;refine And.intro auI ?_;refine hK _ _ ?_;clear hK K;refine dw_seq ?_;refine dw_block ?_
  refine dw_loop (ι:={ p:List (Int×Tm)×List (Int×Tm)×List (Int×Tm)×List (Int×Tm) // p.1++p.2.2.1++p.2.1++p.2.2.2=A++Y++X++Z∧p.1.length+p.2.1.length=m∧0<p.2.1.length∧0<p.2.2.1.length }) (fun p=>[(.t 0,.ps 0 n),(.t 2,.v (.int .i64 ↑m)),(.t 4,.fn 113 []),(.t 10,.v (.int .i64 ↑p.1.2.1.length)),(.t 11,.v (.int .i64 ↑p.1.2.2.1.length)),(.r 0,.rp 79 5 (ePairs (p.1.1++p.1.2.1++p.1.2.2.1++p.1.2.2.2)))]) 1 (fun p=>p.1.2.1.length+p.1.2.2.1.length) (⟨(A,X,Y,Z),rfl,by dsimp only;omega,hX,hY⟩) ((VS.toK (by omega) (by repeat first | exact trivial | refine And.intro (And.intro (by first | rfl | simp[D.ok,D.oks,D.okss,D.okm,upto,keyOk,argsT]) (by first | exact Or.inl rfl | exact Or.inr ⟨_,rfl,(by repeat first | exact VLe.refl _ | exact VLe.nil _ | exact VLe.untag _ _ _ | refine VLe.ag ?_ | refine VLe.tu ?_ | refine VLeL.cons ?_ ?_ | exact VLeL.nil),trivial⟩ | simp[get,Key.eq,argsT])) ?_))) fun j=>?_
  obtain⟨⟨P,X',Y',Q⟩,hs,hp,h1,h2⟩:=j
  dsimp only at hs hp h1 h2 ⊢
  have hnn:(P++X'++Y'++Q).length=n:=by
   have:=congrArg List.length hs
   simp at this hn ⊢;omega
  have hmn:m≤n:=by omega
  have hln:P.length+X'.length+Y'.length+Q.length=n:=by rw[←hnn];simp;omega
  by_cases hne:X'.length=Y'.length
  ·have hsw:=swapR_d P X' [] Y' Q n P.length m X'.length (by rw[List.append_nil];exact hnn) rfl (by simp;omega) rfl hne.symm hM
   rw[List.append_nil,List.append_nil,hs] at hsw
   refine dw_seq ?_;refine dw_seq ?_;refine dwk [(20,.v (.bool false))] TSO_ok hnt fun K hK=>?_;refine And.intro (bneF (by omega)) ?_;refine hK _ _ ?_;clear hK K;refine dw_cond (t:=false) rfl ?_;rw[if_neg (by simp)];refine dw_exit ?_;refine dwk [(53,.v (.int .i64 (↑P.length)))] TSO_ok hnt fun K hK=>?_;refine And.intro auI ?_;refine dcn (CallG.n (hsw) _) ?_;refine hK _ _ ?_;clear hK K
   exact reta rfl
  ·by_cases hgt:Y'.length<X'.length
   ·obtain⟨S,T,hST,hS⟩:∃ S T,X'=S++T∧S.length=Y'.length:=⟨X'.take Y'.length,X'.drop Y'.length,(List.take_append_drop _ _).symm,by simp;omega⟩
    have hL:P++X'++Y'++Q=P++S++T++Y'++Q:=by rw[hST];simp
    have hXl:X'.length=S.length+T.length:=by rw[hST];simp
    have hsw:=swapR_d P S T Y' Q n P.length m Y'.length (by rw[←hL];exact hnn) rfl (by omega) hS rfl hM
    rw[hL]
    refine dw_seq ?_;refine dw_seq ?_;refine dwk [(20,.v (.bool true))] TSO_ok hnt fun K hK=>?_;refine And.intro (bneT (by omega)) ?_;refine hK _ _ ?_;clear hK K;refine dw_cond (t:=true) rfl ?_;rw[if_pos rfl];refine dw_skip ?_;refine dw_block ?_;refine dw_seq ?_;refine dwk [(23,.v (.bool true))] TSO_ok hnt fun K hK=>?_;refine And.intro auT ?_;refine hK _ _ ?_;clear hK K;refine dw_cond (t:=true) rfl ?_
    rw[if_pos rfl];refine dw_seq ?_;refine dwk [(27,.v (.int .i64 (↑P.length)))] TSO_ok hnt fun K hK=>?_;refine And.intro auI ?_;refine dcn (CallG.n (hsw) _) ?_;refine hK _ _ ?_;clear hK K;refine dwk [(34,.v (.int .i64 (↑T.length)))] TSO_ok hnt fun K hK=>?_;refine And.intro auI ?_;refine hK _ _ ?_;clear hK K
    rw[←hS]
    refine⟨⟨(P++Y',T,S,Q),by rw[←hs,hST];simp,by simp;omega,by dsimp only;omega,by dsimp only;omega⟩,by first | omega | (dsimp only;omega),VS.toA⟩
   ·obtain⟨S,T,hST,hT⟩:∃ S T,Y'=S++T∧T.length=X'.length:=⟨Y'.take (Y'.length-X'.length),Y'.drop (Y'.length-X'.length),(List.take_append_drop _ _).symm,by simp;omega⟩
    have hL:P++X'++Y'++Q=P++X'++S++T++Q:=by rw[hST];simp
    have hYl:Y'.length=S.length+T.length:=by rw[hST];simp
    have hsw:=swapR_d P X' S T Q n P.length (m+S.length) X'.length (by rw[←hL];exact hnn) rfl (by omega) rfl hT hM
    rw[hL]
    refine dw_seq ?_;refine dw_seq ?_;refine dwk [(20,.v (.bool true))] TSO_ok hnt fun K hK=>?_;refine And.intro (bneT (by omega)) ?_;refine hK _ _ ?_;clear hK K;refine dw_cond (t:=true) rfl ?_;rw[if_pos rfl];refine dw_skip ?_;refine dw_block ?_;refine dw_seq ?_;refine dwk [(23,.v (.bool false))] TSO_ok hnt fun K hK=>?_;refine And.intro auF ?_;refine hK _ _ ?_;clear hK K;refine dw_cond (t:=false) rfl ?_
    rw[if_neg (by simp)];refine dw_seq ?_;refine dwk [(38,.v (.int .i64 (↑P.length))),(41,.v (.int .i64 (↑(m+Y'.length)))),(43,.v (.int .i64 (↑(m+S.length))))] TSO_ok hnt fun K hK=>?_;refine And.intro auI ?_;refine And.intro auI ?_;refine And.intro auI ?_;refine dcn (CallG.n (hsw) _) ?_;refine hK _ _ ?_;clear hK K;refine dwk [(49,.v (.int .i64 (↑S.length)))] TSO_ok hnt fun K hK=>?_
    refine And.intro auI ?_;refine hK _ _ ?_;clear hK K
    rw[←hT]
    refine⟨⟨(P,T,S,X'++Q),by rw[←hs,hST];simp,by dsimp only;omega,by dsimp only;omega,by dsimp only;omega⟩,by first | omega | (dsimp only;omega),VS.toA⟩
theorem insSort_d (A X Z:List (Int×Tm))(n a b:Nat)(hn:(A++X++Z).length=n)(ha:A.length=a)(hb:a+X.length=b)(hM:n≤1000000):
  CallG Tryz.prog 178 [.ps 0 n,.v (.int .i64 ↑a),.v (.int .i64 ↑b),.fn 113 []] [(.r 0,.rp 79 5 (ePairs (A++X++Z)))] [(.r 0,.rp 79 5 (ePairs (A++So.ss X++Z)))] (.tu []):=by
 have hln:A.length+X.length+Z.length=n:=by rw[←hn];simp;omega
 obtain⟨X1,X2,rfl,h0,hs⟩:∃ X1 X2,X=X1++X2∧(X2=[]∧b≤a+1∨a+1=a+X1.length∧0<X1.length)∧So.ss X1=X1:=by
  cases X with
  | nil=>exact⟨[],[],rfl,.inl ⟨rfl,by simp at hb;omega⟩,rfl⟩
  | cons x X=>exact⟨[x],X,rfl,.inr ⟨rfl,Nat.one_pos⟩,So.ss_one x⟩
 obtain⟨X,hXX⟩:∃ X,X1++X2=X:=⟨_,rfl⟩
 rw[hXX] at hb hln
 refine callG_of_dw 1 53 [] TSO_ok (by kernel_rfl) Tryz.func178 rfl Tryz.ntmps178 rfl (by simp) ?dwords ?dbody
 case dwords=>simp[wordsG,rowN,rowsR,gkey,Key.eq,D.ok,D.oks,D.okss,rnames,inN,ckey,ePairs_ok]
 case dbody=>
  intro cx hnt hn0
  refine dw_seq ?_;refine dwk [(11,.v (.int .i64 (↑(a+1))))] TSO_ok hnt fun K hK=>?_;refine And.intro auI ?_;refine hK _ _ ?_;clear hK K;refine dw_block ?_
  refine dw_loop (ι:={ p:List (Int×Tm)×List (Int×Tm)×Nat // p.1++p.2.1=X∧(p.2.1=[]∧b≤p.2.2∨p.2.2=a+p.1.length∧0<p.1.length) }) (fun p=>[(.t 0,.ps 0 n),(.t 1,.v (.int .i64 ↑a)),(.t 2,.v (.int .i64 ↑b)),(.t 3,.fn 113 []),(.t 8,.v (.int .i64 ↑p.1.2.2)),(.r 0,.rp 79 5 (ePairs (A++So.ss p.1.1++p.1.2.1++Z)))]) 1 (fun p=>p.1.2.1.length) (⟨(X1,X2,a+1),hXX,h0⟩) ((VS.toK (by omega) (by repeat first | exact trivial | refine And.intro (And.intro (by first | rfl | simp[D.ok,D.oks,D.okss,D.okm,upto,keyOk,argsT,hs]) (by first | exact Or.inl rfl | exact Or.inr ⟨_,rfl,(by repeat first | exact VLe.refl _ | exact VLe.nil _ | exact VLe.untag _ _ _ | refine VLe.ag ?_ | refine VLe.tu ?_ | refine VLeL.cons ?_ ?_ | exact VLeL.nil),trivial⟩ | simp[get,Key.eq,argsT,hs])) ?_))) fun j=>?_
  obtain⟨⟨Y1,Y2,i⟩,hY,hi⟩:=j
  dsimp only at hY hi ⊢
  have hYl:X.length=Y1.length+Y2.length:=by rw[←hY];simp
  cases Y2 with
  | nil=>
   have hib:b≤i:=by
    rcases hi with hi | hi
    ·exact hi.2
    ·rw[List.length_nil] at hYl;omega
   rw[List.append_nil] at hY ⊢
   subst hY
   rw[hXX]
   refine dw_seq ?_;refine dw_seq ?_;refine dwk [(14,.v (.bool false))] TSO_ok hnt fun K hK=>?_;refine And.intro auF ?_;refine hK _ _ ?_;clear hK K;refine dw_cond (t:=false) rfl ?_;rw[if_neg (by simp)];refine dw_exit ?_
   exact reta rfl
  | cons x Y2=>
   have hi2:i=a+Y1.length:=by
    rcases hi with hi | hi
    ·cases hi.1
    ·exact hi.1
   rw[List.length_cons] at hYl
   refine dw_seq ?_;refine dw_seq ?_;refine dwk [(14,.v (.bool true))] TSO_ok hnt fun K hK=>?_;refine And.intro auT ?_;refine hK _ _ ?_;clear hK K;refine dw_cond (t:=true) rfl ?_;rw[if_pos rfl];refine dw_skip ?_;refine dw_seq ?_;refine dw_block ?_;refine dw_seq ?_;refine dwk [(9,.v (.int .i64 ↑(a+(So.ss Y1).length)))] TSO_ok hnt fun K hK=>?_;refine And.intro (VLe.of_eq (by rw[So.ss_len,hi2])) ?_
   refine hK _ _ ?_;clear hK K;refine dw_block ?_
   refine dw_loop (ι:={ p:List (Int×Tm)×List (Int×Tm) // p.1++p.2=So.ss Y1∧∀ s∈p.2,x.1<s.1 }) (fun p=>[(.t 0,.ps 0 n),(.t 1,.v (.int .i64 ↑a)),(.t 2,.v (.int .i64 ↑b)),(.t 3,.fn 113 []),(.t 8,.v (.int .i64 ↑i)),(.t 9,.v (.int .i64 ↑(a+p.1.1.length))),(.r 0,.rp 79 5 (ePairs (A++p.1.1++x :: p.1.2++Y2++Z)))]) 1 (fun p=>p.1.1.length) (⟨(So.ss Y1,[]),by simp,by simp⟩) (VS.toA) fun j=>?_
   obtain⟨⟨S1,S2⟩,hS,hg⟩:=j
   dsimp only at hS hg ⊢
   have hSl:S1.length+S2.length=Y1.length:=by rw[←So.ss_len Y1,←hS];simp
   obtain⟨L,hL⟩:∃ L,A++S1++x :: S2++Y2++Z=L:=⟨_,rfl⟩
   have hnL:L.length=n:=by rw[←hL];simp;omega
   rw[hL]
   have hdone:∀ h1:(∀ s∈S1,s.1≤x.1),L=A++So.ss (Y1++[x])++Y2++Z:=fun h1=>by
    rw[So.ss_snoc hS h1 hg,←hL];simp
   rcases snoc_cases S1 with rfl | ⟨S,s,rfl⟩
   ·rw[hdone (by simp)]
    refine dw_seq ?_;refine dw_seq ?_;refine dwkD [(20,.v (.bool false))] TSO_ok hnt fun K hK=>?_;refine And.intro (by first | exact dfalse (by simp) | exact VLe.of_eq (by simp)) ?_;refine hK _ _ (by kernel_rfl) ?_;clear hK K;refine dw_cond (t:=false) rfl ?_;rw[if_neg (by simp)];refine dw_exit ?_;refine dwk [(16,.v (.int .i64 (↑(i+1))))] TSO_ok hnt fun K hK=>?_;refine And.intro (dintE (by rw[IntWalk.i64_in _ (by omega)];omega)) ?_
    refine hK _ _ ?_;clear hK K
    refine⟨⟨(Y1++[x],Y2,i+1),by rw[←hY];simp,.inr ⟨by simp;omega,by simp⟩⟩,by simp,VS.toA⟩
   ·have hj:a+(S++[s]).length=a+S.length+1:=by simp;omega
    rw[hj]
    simp at hSl
    have hx:L[a+S.length+1]?=some x:=at_ (P:=A++S++[s]) (R:=S2++Y2++Z) (by rw[←hL];simp) (by simp;omega)
    have hy:L[a+S.length]?=some s:=at_ (P:=A++S) (R:=x :: S2++Y2++Z) (by rw[←hL];simp) (by simp;omega)
    have lx:=pl_lt hnL hx
    have ho:=sorder_d x s
    rw[ePair_eq,ePair_eq] at ho
    by_cases hlt:x.1<s.1
    ·skip
     refine dw_seq ?_;refine dw_seq ?_;refine dwkD [(20,.v (.bool true)),(25,.pr 0 n 5 ((a+S.length+1)) 0),(26,.ag [.v (.int .i64 x.1),.sl 2 (eTys x.2.binds) none,.v (.int .i64 x.2.kind),.v (.int .i64 x.2.index),.sl 4 (eTms x.2.args) none]),(29,.v (.int .i64 (↑(a+S.length)))),(30,.pr 0 n 5 ((a+S.length)) 0),(31,.ag [.v (.int .i64 s.1),.sl 2 (eTys s.2.binds) none,.v (.int .i64 s.2.kind),.v (.int .i64 s.2.index),.sl 4 (eTms s.2.args) none]),(33,.v (.bool true))] TSO_ok hnt fun K hK=>?_
     refine And.intro (by first | exact dtrue (by simp;omega) | exact VLe.of_eq (by simp;omega)) ?_;refine And.intro (by constructor <;> omega) ?_;refine And.intro (by first | rfl | exact VLe.of_eq (by simp)) ?_;refine And.intro (pl_ok hnL hx) ?_;refine And.intro (pl_eq hx) ?_;refine And.intro auI ?_;refine And.intro (by constructor <;> omega) ?_;refine And.intro (by first | rfl | exact VLe.of_eq (by simp)) ?_
     refine And.intro (pl_ok hnL hy) ?_;refine And.intro (pl_eq hy) ?_;refine dcl (ho) ?_;refine And.intro (dtrue (cmpI_lt.2 hlt)) ?_;refine hK _ _ (by kernel_rfl) ?_;clear hK K;refine dw_cond (t:=true) rfl ?_;rw[if_pos rfl];refine dw_skip ?_;refine dw_seq ?_;refine dw_block ?_;refine dwkD [(41,.v (.int .i64 (↑(a+S.length)))),(44,.v (.int .i64 (↑(a+S.length)))),(45,.pr 0 n 5 ((a+S.length)) 0),(46,.ag [.v (.int .i64 s.1),.sl 2 (eTys s.2.binds) none,.v (.int .i64 s.2.kind),.v (.int .i64 s.2.index),.sl 4 (eTms s.2.args) none]),(49,.pr 0 n 5 ((a+S.length+1)) 0),(50,.ag [.v (.int .i64 x.1),.sl 2 (eTys x.2.binds) none,.v (.int .i64 x.2.kind),.v (.int .i64 x.2.index),.sl 4 (eTms x.2.args) none]),(51,.pr 0 n 5 ((a+S.length+1)) 0),(52,.pr 0 n 5 ((a+S.length)) 0)] TSO_ok hnt fun K hK=>?_
     refine And.intro auI ?_;refine And.intro auI ?_;refine And.intro (by constructor <;> omega) ?_;refine And.intro (by first | rfl | exact VLe.of_eq (by simp)) ?_;refine And.intro (pl_ok hnL hy) ?_;refine And.intro (pl_eq hy) ?_;refine And.intro (by constructor <;> omega) ?_;refine And.intro (by first | rfl | exact VLe.of_eq (by simp)) ?_;refine And.intro (pl_ok hnL hx) ?_;refine And.intro (pl_eq hx) ?_
     refine And.intro (by constructor <;> omega) ?_;refine And.intro (by first | rfl | exact VLe.of_eq (by simp)) ?_;refine And.intro (st_ok hnL hx) ?_;refine And.intro (by constructor <;> omega) ?_;refine And.intro (by first | rfl | exact VLe.of_eq (by simp)) ?_;refine And.intro (st_ok2 hnL hy) ?_;refine hK _ _ (by kernel_rfl) ?_;clear hK K
     rw[eP_swap' (P:=A++S) (Q:=[]) (R:=S2++Y2++Z) (L':=A++S++x :: (s :: S2)++Y2++Z) (by rw[←hL];simp) (by simp;omega) (by simp) (by simp)]
     refine dwk [(36,.v (.int .i64 (↑(a+S.length))))] TSO_ok hnt fun K hK=>?_;refine And.intro auI ?_;refine hK _ _ ?_;clear hK K
     refine⟨⟨(S,s :: S2),by rw[←hS];simp,fun u hu=>(List.mem_cons.1 hu).elim (fun e=>e ▸ hlt) (hg u)⟩,by simp,VS.toA⟩
    ·have hsrt:=So.ss_srt Y1
     rw[←hS] at hsrt
     have hall:∀ u∈S++[s],u.1≤x.1:=fun u hu=>by
      rcases List.mem_append.1 hu with hu | hu
      ·have:=(So.srt_app.1 (So.srt_app.1 hsrt).1).2.2 u hu s (by simp);omega
      ·rw[List.mem_singleton] at hu;subst hu;omega
     refine dw_seq ?_;refine dw_seq ?_;refine dwkD [(20,.v (.bool true)),(25,.pr 0 n 5 ((a+S.length+1)) 0),(26,.ag [.v (.int .i64 x.1),.sl 2 (eTys x.2.binds) none,.v (.int .i64 x.2.kind),.v (.int .i64 x.2.index),.sl 4 (eTms x.2.args) none]),(29,.v (.int .i64 (↑(a+S.length)))),(30,.pr 0 n 5 ((a+S.length)) 0),(31,.ag [.v (.int .i64 s.1),.sl 2 (eTys s.2.binds) none,.v (.int .i64 s.2.kind),.v (.int .i64 s.2.index),.sl 4 (eTms s.2.args) none]),(33,.v (.bool false))] TSO_ok hnt fun K hK=>?_
     refine And.intro (by first | exact dtrue (by simp;omega) | exact VLe.of_eq (by simp;omega)) ?_;refine And.intro (by constructor <;> omega) ?_;refine And.intro (by first | rfl | exact VLe.of_eq (by simp)) ?_;refine And.intro (pl_ok hnL hx) ?_;refine And.intro (pl_eq hx) ?_;refine And.intro auI ?_;refine And.intro (by constructor <;> omega) ?_;refine And.intro (by first | rfl | exact VLe.of_eq (by simp)) ?_
     refine And.intro (pl_ok hnL hy) ?_;refine And.intro (pl_eq hy) ?_;refine dcl (ho) ?_;refine And.intro (dfalse (fun h=>hlt (cmpI_lt.1 h))) ?_;refine hK _ _ (by kernel_rfl) ?_;clear hK K;refine dw_cond (t:=false) rfl ?_;rw[if_neg (by simp)]
     rw[hdone hall]
     refine dw_exit ?_;refine dwk [(16,.v (.int .i64 (↑(i+1))))] TSO_ok hnt fun K hK=>?_;refine And.intro auI ?_;refine hK _ _ ?_;clear hK K
     refine⟨⟨(Y1++[x],Y2,i+1),by rw[←hY];simp,.inr ⟨by simp;omega,by simp⟩⟩,by simp,VS.toA⟩
end Go.Proofs.YtflbnonbfmmchaaGreat
