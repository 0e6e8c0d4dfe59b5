/-
  Package lift, walked in the deep way: variables, each, term. Package lift, walked in the deep way: may, done, Over, Closed, Subst; spot.Close. The known answer of the laws of layer 12. Lists of pairs, there and back. Lists of pairs in the laws of layer 9: To, Few. Package subst's lists, walked in the deep way: Clone, Without, Set, Domain, Get. Package subst's lists, walked in the deep way: Set, Domain, Get, Equal; terms that are the same. Package subst's lists, walked in the deep way: Get, Equal. The document's lists of pairs, walked in the deep way: Sorted, Get, Without, Domain, Same. LiftSubsts, walked in the deep way. How large long forms are, and that their indexes fit. How large lifted terms are, and that their indexes fit. The document's Like. The document's Metas. The document's Metas, walked in the deep way. Which of two types is less: by size, by how many arguments, argument by argument, by base; and what that order promises. Which of two terms is less: the plain law. sign, cmp.Compare and cmp.Or of ints. The document's order of types. The document's order of terms. A context with more binders: the program's and the document's. term.is: whether a term is of a type. The document's Is: whether a term is of a type. The document's Depth, Right, Check; term.Check. The document's answer of layer 22: lifted, Over, Closed. What the members of a gathering yield: a list of standard shapes. term.HeadType, term.TypeOf. The document's TypeOf. Whether a world may be: the program's RightWorld and the document's. The laws' worlds: World, Small; the document's RightWorld. The contracts of heads and types once more, where all of memory may be read. Checks of substitutions: what is called, as deep contracts. term's TypeOf and Check, walked in the deep way. What rule.Typed and the document's Typed call, as deep contracts. Typed and Check: rule's and the document's. Check: rule's and the document's. The known answer of the laws of layer 17. RuleOwns, walked in the deep way.
-/
import Derived.Test.YtflbnonbfmmchaaGreatRowLiftImagesp6
import Derived.Test.YtflbnonbfmmchaaGreatRowLiftImagesp1
import Derived.Test.YtflbnonbfmmchaaGreatRowLiftImagesp7
import Derived.Test.YtflbnonbfmmchaaGreatRowLiftImagesp8
import Derived.Test.YtflbnonbfmmchaaGreatRowLiftImagesp5
import Derived.Test.YtflbnonbfmmchaaGreatRowLiftImagesp4
set_option maxRecDepth 100000
set_option maxHeartbeats 1000000
set_option linter.unusedVariables false
set_option linter.unusedSimpArgs false
namespace Go.Proofs.YtflbnonbfmmchaaGreat
open Go.RowKit
def TLI_41:TI:=⟨4,true,[Value.slice none 0 0,Value.int IntKind.i64 0,Value.int IntKind.i64 0,Value.slice none 0 0],[(0,1,false),(1,2,true),(3,1,false)],none,64,6,none,false⟩
theorem TLI_41_ok:TypOk Tryz.prog 41 TLI_41:=by constructor <;> kernel_rfl
def TLI_39:TI:=⟨1,false,[Value.slice none 0 0],[],some 41,24,5,none,false⟩
theorem TLI_39_ok:TypOk Tryz.prog 39 TLI_39:=by constructor <;> kernel_rfl
def TLI_3:TI:=⟨1,false,[Value.int IntKind.i64 0],[],none,8,2,none,false⟩
theorem TLI_3_ok:TypOk Tryz.prog 3 TLI_3:=by constructor <;> kernel_rfl
def TLI_33:TI:=⟨1,false,[Value.slice none 0 0],[],some 44,24,5,none,false⟩
theorem TLI_33_ok:TypOk Tryz.prog 33 TLI_33:=by constructor <;> kernel_rfl
def TLI_276:TI:=⟨1,false,[Value.slice none 0 0],[],some 39,24,5,none,false⟩
theorem TLI_276_ok:TypOk Tryz.prog 276 TLI_276:=by constructor <;> kernel_rfl
def TLI_226:TI:=⟨10,true,[Value.slice none 0 0,Value.int IntKind.i64 0,Value.int IntKind.i64 0,Value.slice none 0 0,Value.slice none 0 0,Value.int IntKind.i64 0,Value.int IntKind.i64 0,Value.slice none 0 0,Value.slice none 0 0,Value.slice none 0 0],[(0,9,true),(9,1,false)],none,176,6,none,false⟩
theorem TLI_226_ok:TypOk Tryz.prog 226 TLI_226:=by constructor <;> kernel_rfl
def TLI_44:TI:=⟨2,true,[Value.slice none 0 0,Value.int IntKind.i64 0],[(0,1,false),(1,1,false)],none,32,6,none,false⟩
theorem TLI_44_ok:TypOk Tryz.prog 44 TLI_44:=by constructor <;> kernel_rfl
def TLI_38:TI:=⟨2,true,[Value.int IntKind.i64 0,Value.int IntKind.i64 0],[(0,1,false),(1,1,false)],none,16,6,none,true⟩
theorem TLI_38_ok:TypOk Tryz.prog 38 TLI_38:=by constructor <;> kernel_rfl
def TLI_124:TI:=⟨1,false,[Value.nilFunc],[],none,8,8,none,false⟩
theorem TLI_124_ok:TypOk Tryz.prog 124 TLI_124:=by constructor <;> kernel_rfl
def TLI:List (Nat×TI):=[(41,TLI_41),(39,TLI_39),(3,TLI_3),(33,TLI_33),(276,TLI_276),(226,TLI_226),(44,TLI_44),(38,TLI_38),(124,TLI_124)]
theorem TLI_ok:TabOk Tryz.prog TLI:=((((((((((TabOk.nil _).cons TLI_124_ok).cons TLI_38_ok).cons TLI_44_ok).cons TLI_226_ok).cons TLI_276_ok).cons TLI_33_ok).cons TLI_3_ok).cons TLI_39_ok).cons TLI_41_ok)
/-! slices.Concat of terms -/
def eTmss (ls:List (List Tm)):List (List D):=ls.map fun l=>[.sl 4 (eTms l) none]
theorem eTmss_len (l:List (List Tm)):(eTmss l).length=l.length:=List.length_map ..
theorem eTmss_getD (l:List (List Tm))(i:Nat)(h:i<l.length):(eTmss l).getD i []=[.sl 4 (eTms l[i]) none]:=by
 rw[eTmss,List.getD_eq_getElem?_getD,List.getElem?_map,List.getElem?_eq_getElem h];rfl
@[simp] theorem eTmss_ok (f g:Nat→Bool) (l:List (List Tm)):D.okss f g (eTmss l)=true:=D.okss_map _ l fun l _=>by simp[D.oks,D.ok,eTms_ok]
set_option maxRecDepth 100000 in
set_option maxHeartbeats 400000 in
theorem growT_at (n:Nat)(m:Int)(w:World)(hnm:m=n)(hn:n≤1000000):
  Calls Tryz.prog 186 #[.slice none 0 0,.int .i64 m] w fun e w'=>∃ v,e=.returned v∧Below w.heap.size w w'∧(v=.slice none 0 0∨(v.ownBlock=some w.heap.size∧∃ g,v=.slice (some ⟨w.heap.size,0,none⟩) 0 g∧w'.ownsRow w.heap.size 41 4 v 0 [])):=by
 subst hnm
 obtain⟨i0,hi0,hz0,hz1,hz2⟩:=info_parts infoT
 by_cases h0:n=0
 ·subst h0
  go_enter Tryz.func186,Tryz.ntmps186
  go_wp2_with fail
  go_ret
  exact⟨_,rfl,Below.refl _ _,.inl rfl⟩
 ·have hr:∀ ty,(Builtin.append_ #[39,3] ty #[.slice none 0 0,.int .i64 (n:Int)]).run Tryz.prog w=_:=fun ty=>
   Lib.run_append_grow_zeros w 39 3 ty 41 i0 (.agg #[.slice none 0 0,.int .i64 0,.int .i64 0,.slice none 0 0]) .i64 .i64 Tryz.underlying39 Tryz.underlying3 hi0 hz0 none 0 0 [] (run_firstCells_none _ _ _ _ _) n (by omega) (by rw[hz1];decide) (by omega) (by omega) (by rw[hz2];omega) (by rw[hz2];exact growslice_fits (by omega) (by omega))
  have hr':∃ g,n≤g∧g≤maxLen∧∀ ty,(Builtin.append_ #[39,3] ty #[.slice none 0 0,.int .i64 (n:Int)]).run Tryz.prog w=.ok (.slice (some ⟨w.heap.size,0,none⟩) n g) (w.drew.alloc (.cells (Builtin.zeroCells (#[.slice none 0 0,.int .i64 0,.int .i64 0,.slice none 0 0]) n++Builtin.zeroCells (#[.slice none 0 0,.int .i64 0,.int .i64 0,.slice none 0 0]) (g-n)) 41)):=by
   refine⟨grownCap w n 0 41,grownCap_ge _ _ _ _,grownCap_le_maxLen _ _ _ _ (by unfold maxLen;omega),fun ty=>?_⟩
   have:=hr ty
   simpa[Value.cells] using this
  obtain⟨g,hg1,hg2,hg⟩:=hr'
  have hg2':=hg2
  clear hg2
  clear hr
  have hn0:0<(n:Int):=by omega
  have Hg:=Lib.hid hg;clear hg
  go_enter Tryz.func186,Tryz.ntmps186
  go_wp2_with (at_builtin;refine wpList_append_eq rfl _ _ _ _ _ rfl (Hg.out _) ?_)
  go_ret
  refine⟨_,rfl,(Below.refl _ _).drew.alloc (Nat.le_refl _) _,.inr ⟨rfl,g,rfl,rfl,.inr ⟨w.heap.size,g,_,rfl,Nat.le_refl _,heap_alloc_new w.drew _,Nat.zero_le _,hg2',?_,rfl⟩⟩⟩
  first | (simp[size_zeroCells];done) | (simp[size_zeroCells];omega)
theorem growT_d (n:Int)(h0:0≤n)(h1:n≤1000000)(nm:Nat):CallN Tryz.prog 186 [.v (.slice none 0 0),.v (.int .i64 n)] [] nm [(.r nm,.rw 41 4 0)] (.sl 4 [] (some nm)):=by
 refine⟨by kernel_rfl,fun cx Fr m Im w a σ vs hn hs hv _=>?_⟩
 match vs,hv with
 | [x,y],hv=>
  have:=rel_v.1 hv.1;subst this
  have:=rel_v.1 hv.2.1;subst this
  refine(growT_at n.toNat n w (by omega) (by omega)).mono ?_
  rintro e w' ⟨v,rfl,hb,hv⟩
  rw[dropT_nil]
  rcases hv with rfl | ⟨ho,g,rfl,hr⟩
  ·have hg:(m.setR nm ⟨.slice none 0 0,0,41,4⟩).row nm=some ⟨.slice none 0 0,0,41,4⟩:=by simp[Mp.setR]
   exact⟨_,_,Im,rfl,(hs.newRow hn 41 4).below0 hb,rel_nil hg⟩
  ·obtain⟨s1,s2⟩:=hs.rowMade hn (.slice (some ⟨w.heap.size,0,none⟩) 0 g) 41 4 hb ⟨hr.1,hr.2.imp id fun⟨g,cap,cur,q1,q2,q3⟩=>⟨g,cap,cur,q1,Nat.zero_le _,q3⟩⟩ ho
   refine⟨_,_,Im,rfl,s1,?_⟩
   exact .sl _ _ 0 0 4 (fun _ _=>undef) [] (some nm) ⟨Nat.zero_le _,Nat.zero_le _⟩ (fun h=>absurd h (by simp)) (fun i _ h=>absurd h (by simp)) (fun i h=>absurd h (by simp)) (fun i _ h=>absurd h (by simp)) (fun i h=>absurd h (by simp)) fun r e=>by
    cases e;exact⟨_,by simp[Mp.setR];rfl,Nat.le_refl _,fun _=>rfl⟩
def lensT:List (List Tm)→Nat
 | []=>0
 | l :: r=>l.length+lensT r
theorem lensT_take (ls:List (List Tm))(j:Nat)(h:j<ls.length):lensT (ls.take (j+1))=lensT (ls.take j)+ls[j].length:=by
 induction ls generalizing j with
 | nil=>simp at h
 | cons l r ih=>
  cases j with
  | zero=>simp[lensT]
  | succ j=>simp only[List.take_succ_cons,lensT,List.getElem_cons_succ];rw[ih j (by simpa using h)];omega
theorem lensT_flat (ls:List (List Tm)):ls.flatten.length=lensT ls:=by
 induction ls with
 | nil=>rfl
 | cons l r ih=>simp[lensT,ih]
theorem lensT_le (ls:List (List Tm))(j:Nat):lensT (ls.take j)≤lensT ls:=by
 induction ls generalizing j with
 | nil=>simp[lensT]
 | cons l r ih=>
  cases j with
  | zero=>simp[lensT]
  | succ j=>simp only[List.take_succ_cons,lensT];have:=ih j;omega
theorem flatT_take (ls:List (List Tm))(j:Nat)(h:j<ls.length):(ls.take (j+1)).flatten=(ls.take j).flatten++ls[j]:=by
 rw[List.take_add_one,List.getElem?_eq_getElem h,List.flatten_append];simp
set_option maxHeartbeats 1000000 in
theorem concatT_d (ls:List (List Tm))(hl:lensT ls≤900000)(hn:ls.length≤1000):PureC Tryz.prog 165 [.sl 1 (eTmss ls) none] (.sl 4 (eTms ls.flatten) none):=by
 refine calldw 0 36 [ResultVar.tmp 2] TLI_ok Tryz.func165 rfl Tryz.ntmps165 rfl fun cx hnt hn0=>?_
 ·skip
  refine dw_seq ?_;refine dwk [] TLI_ok hnt fun _ z9=>z9 _ _ ?_;refine dw_seq ?_;refine dwk [] TLI_ok hnt fun _ z9=>z9 _ _ ?_;refine dw_seq ?_;refine dw_seq ?_;refine dwk [(10,.v (.int .i64 (ls.length)))] TLI_ok hnt fun K hK=>?_;refine And.intro (dintE (by rw[eTmss_len])) ?_;refine hK _ _ ?_;clear hK K;refine dw_block ?_
  refine dw_loop (ι:=Nat) (fun j=>[(.t 0,.sl 1 (eTmss ls) none),(.t 9,.sl 1 (eTmss ls) none),(.t 10,.v (.int .i64 ls.length)),(.t 11,.v (.int .i64 (j:Int))),(.t 3,.v (.int .i64 (lensT (ls.take j):Nat)))]) 0 (fun j=>ls.length-j) (0) ((VS.toK (by omega) (by repeat first | exact trivial | refine And.intro (And.intro (by first | rfl | simp[D.ok,D.oks,D.okss,D.okm,upto,keyOk,lensT]) (by first | exact Or.inl rfl | exact Or.inr ⟨_,rfl,(by repeat first | exact VLe.refl _ | exact VLe.nil _ | exact VLe.untag _ _ _ | refine VLe.ag ?_ | refine VLe.tu ?_ | refine VLeL.cons ?_ ?_ | exact VLeL.nil),trivial⟩ | simp[get,Key.eq,lensT])) ?_))) fun j=>?_
  by_cases hlt:j<ls.length
  ·have h1:=lensT_take ls j hlt
   have h2:=lensT_le ls (j+1)
   refine dw_seq ?_;refine dwk [(12,.v (.bool true))] TLI_ok hnt fun K hK=>?_;refine And.intro auT ?_;refine hK _ _ ?_;clear hK K;refine dw_seq ?_;refine dw_cond (t:=true) rfl ?_;rw[if_pos rfl];refine dw_skip ?_;refine dw_seq ?_;refine dw_block ?_;refine dw_seq ?_;refine dwk [(13,.q [.sl 4 (eTms ls[j]) none])] TLI_ok hnt fun K hK=>?_;refine And.intro (⟨by omega,by rw[eTmss_len];omega⟩) ?_
   refine And.intro (VLe.of_eq (by rw[Int.toNat_natCast,eTmss_getD ls j hlt])) ?_;refine hK _ _ ?_;clear hK K;refine dw_seq ?_;refine dwk [(18,.v (.int .i64 (↑(lensT (ls.take (j+1))))))] TLI_ok hnt fun K hK=>?_;refine And.intro (dintE (by rw[eTms_len,IntWalk.i64_in _ (by omega)];omega)) ?_;refine hK _ _ ?_;clear hK K;refine dw_seq ?_;refine dwk [(20,.v (.bool false))] TLI_ok hnt fun K hK=>?_
   refine And.intro auF ?_;refine hK _ _ ?_;clear hK K;refine dw_cond (t:=false) rfl ?_;rw[if_neg (by simp)];refine dw_skip ?_;refine dwk [(22,.v (.int .i64 (↑(j+1))))] TLI_ok hnt fun K hK=>?_;refine And.intro auI ?_;refine hK _ _ ?_;clear hK K
   refine⟨j+1,by first | omega | (dsimp only;omega),VS.toA⟩
  ·have h3:ls.take j=ls:=List.take_of_length_le (by omega)
   have hg:=growT_d (lensT (ls.take j):Nat) (by omega) (by rw[h3];omega)
   rw[h3] at hg ⊢
   refine dw_seq ?_;refine dwk [(12,.v (.bool false))] TLI_ok hnt fun K hK=>?_;refine And.intro auF ?_;refine hK _ _ ?_;clear hK K;refine dw_seq ?_;refine dw_cond (t:=false) rfl ?_;rw[if_neg (by simp)];refine dw_exit ?_;refine dw_seq ?_;refine dwk [] TLI_ok hnt fun K hK=>?_;refine dcn (hg _) ?_;refine hK _ _ ?_;clear hK K;refine dw_seq ?_;refine dw_seq ?_;refine dwk [(26,.v (.int .i64 (ls.length)))] TLI_ok hnt fun K hK=>?_
   refine And.intro (dintE (by rw[eTmss_len])) ?_;refine hK _ _ ?_;clear hK K;refine dw_block ?_
   refine dw_loop (ι:=Nat) (fun j=>[(.t 25,.sl 1 (eTmss ls) none),(.t 26,.v (.int .i64 ls.length)),(.t 27,.v (.int .i64 (j:Int))),(.t 6,.sl 4 (eTms (ls.take j).flatten) (some 2)),(.r 2,.rw 41 4 (ls.take j).flatten.length)]) 3 (fun j=>ls.length-j) (0) (VS.toA) fun i=>?_
   by_cases hli:i<ls.length
   ·have h4:=lensT_take ls i hli
    have h5:=lensT_le ls (i+1)
    have h6:=flatT_take ls i hli
    have h7:=lensT_flat (ls.take i)
    refine dw_seq ?_;refine dwk [(28,.v (.bool true))] TLI_ok hnt fun K hK=>?_;refine And.intro auT ?_;refine hK _ _ ?_;clear hK K;refine dw_seq ?_;refine dw_cond (t:=true) rfl ?_;rw[if_pos rfl];refine dw_skip ?_;refine dw_seq ?_;refine dw_block ?_;refine dw_seq ?_;refine dwk [(29,.q [.sl 4 (eTms ls[i]) none])] TLI_ok hnt fun K hK=>?_;refine And.intro (⟨by omega,by rw[eTmss_len];omega⟩) ?_
    refine And.intro (VLe.of_eq (by rw[Int.toNat_natCast,eTmss_getD ls i hli])) ?_;refine hK _ _ ?_;clear hK K;refine dwk [(33,.sl 4 (eTms (ls.take (i+1)).flatten) (some 2))] TLI_ok hnt fun K hK=>?_;refine And.intro (⟨by rw[eTms_len],by rw[eTms_len,eTms_len,h7];omega⟩) ?_;refine And.intro (VLe.of_eq (by rw[h6,eTms_append])) ?_;refine hK _ _ ?_;clear hK K;refine dwk [(34,.v (.int .i64 (↑(i+1))))] TLI_ok hnt fun K hK=>?_
    refine And.intro auI ?_;refine hK _ _ ?_;clear hK K
    have h8:(eTms (ls.take i).flatten++eTms ls[i]).length=(ls.take (i+1)).flatten.length:=by rw[h6,←eTms_append,eTms_len]
    refine⟨i+1,by first | omega | (dsimp only;omega),(by try simp only[List.length_append,List.length_take,List.length_cons,List.length_nil,Nat.zero_add,h8];exact VS.toA)⟩
   ·have h9:ls.take i=ls:=List.take_of_length_le (by omega)
    rw[h9]
    refine dw_seq ?_;refine dwk [(28,.v (.bool false))] TLI_ok hnt fun K hK=>?_;refine And.intro auF ?_;refine hK _ _ ?_;clear hK K;refine dw_seq ?_;refine dw_cond (t:=false) rfl ?_;rw[if_neg (by simp)];refine dw_exit ?_;refine dw_seq ?_;refine dwk [] TLI_ok hnt fun _ z9=>z9 _ _ ?_;refine dw_ret ?_
    exact reta rfl
/-! variables -/
namespace Li
def vars (B:List Ty)(n:Int):List Tm:=B.mapIdx fun i b=>Ty.Eta b 0 (n+B.length-1-i)
theorem vars_len (B:List Ty)(n:Int):(vars B n).length=B.length:=List.length_mapIdx ..
theorem vars_get (B:List Ty)(n:Int)(j:Nat)(h:j<B.length):(vars B n)[j]'(by rw[vars_len];exact h)=Ty.Eta B[j] 0 (n+B.length-1-j):=by
 unfold vars;rw[List.getElem_mapIdx]
mutual
def lif (B:List Ty):Tm→Int→Tm
 | .mk b k i a,n=>.mk b k i ((if k=2 then vars B (n+b.length) else [])++lifs B a (n+b.length))
def lifs (B:List Ty):List Tm→Int→List Tm
 | [],_=>[]
 | t :: l,n=>lif B t n :: lifs B l n
end
theorem lif_eq (B b:List Ty)(k i:Int)(a:List Tm)(n:Int):lif B (.mk b k i a) n=.mk b k i ((if k=2 then vars B (n+b.length) else [])++lifs B a (n+b.length)):=by rw[lif]
theorem lifs_map (B:List Ty)(l:List Tm)(n:Int):lifs B l n=l.map (lif B · n):=by
 induction l with
 | nil=>rfl
 | cons t l ih=>rw[lifs,ih];rfl
theorem lifs_len (B:List Ty)(l:List Tm)(n:Int):(lifs B l n).length=l.length:=by rw[lifs_map,List.length_map]
theorem lifs_snoc (B:List Ty)(l:List Tm)(n:Int)(j:Nat)(h:j<l.length):eTms ((lifs B l n).take j)++[eTm (lif B l[j] n)]=eTms ((lifs B l n).take (j+1)):=by
 have h2:j<(lifs B l n).length:=by rw[lifs_len];exact h
 have:=eTms_snoc _ _ h2
 rw[←eTm_eq] at this
 rw[←this]
 congr 2
 simp only[lifs_map,List.getElem_map]
end Li
set_option maxHeartbeats 1000000 in
theorem lvars_d (L R:Tm)(M B:List Ty)(n:Int)(hn:0≤n∧n≤1000000)(hl:B.length≤1000)(hB:∀ b∈B,b.size≤1000):PureC Tryz.prog 166 [.ag [.sl 2 (eTys L.binds) none,.v (.int .i64 L.kind),.v (.int .i64 L.index),.sl 4 (eTms L.args) none,.sl 2 (eTys R.binds) none,.v (.int .i64 R.kind),.v (.int .i64 R.index),.sl 4 (eTms R.args) none,.sl 2 (eTys M) none,.sl 2 (eTys B) none],.v (.int .i64 n)] (.sl 4 (eTms (Li.vars B n)) none):=by
 refine calldw 0 34 [ResultVar.tmp 4] TLI_ok Tryz.func166 rfl Tryz.ntmps166 rfl fun cx hnt hn0=>?_
 ·skip
  refine dw_seq ?_;refine dwk [] TLI_ok hnt fun _ z9=>z9 _ _ ?_
  refine dw_cut (τ:=[(.t 1,.v (.int .i64 n)),(.t 2,.p 0 0),(.t 5,.v (.slice none 0 0)),(.c 0 0,.sl 2 (eTys L.binds) none),(.c 0 1,.v (.int .i64 L.kind)),(.c 0 2,.v (.int .i64 L.index)),(.c 0 3,.sl 4 (eTms L.args) none),(.c 0 4,.sl 2 (eTys R.binds) none),(.c 0 5,.v (.int .i64 R.kind)),(.c 0 6,.v (.int .i64 R.index)),(.c 0 7,.sl 4 (eTms R.args) none),(.c 0 8,.sl 2 (eTys M) none),(.c 0 9,.sl 2 (eTys B) none)]) (N1:=1) ?_ ?_
  ·skip
   refine dwk [] TLI_ok hnt fun _ z9=>z9 _ _ ?_
   exact cut_ok VS.toA
  ·refine DW.vs (VS.rowT (x:=5) (by rw[hnt];decide) 41 4 rfl) ?_
   refine dw_seq ?_;refine dwk [(11,.v (.int .i64 (↑B.length)))] TLI_ok hnt fun K hK=>?_;refine And.intro (dintE (by rw[eTys_len])) ?_;refine hK _ _ ?_;clear hK K;refine dw_seq ?_;refine dw_seq ?_;refine dwk [(14,.v (.int .i64 (↑B.length)))] TLI_ok hnt fun K hK=>?_;refine And.intro (dintE (by rw[eTys_len])) ?_;refine hK _ _ ?_;clear hK K;refine dw_block ?_
   refine dw_loop (ι:={ j:Nat // j≤B.length }) (fun j=>[(.t 1,.v (.int .i64 n)),(.t 6,.v (.int .i64 ↑B.length)),(.t 13,.sl 2 (eTys B) none),(.t 14,.v (.int .i64 ↑B.length)),(.t 15,.v (.int .i64 ↑j.1)),(.t 5,.sl 4 (eTms ((Li.vars B n).take j.1)) (some 1)),(.r 1,.rw 41 4 j.1)]) 2 (fun j=>B.length-j.1) (⟨0,Nat.zero_le _⟩) (VS.toA) fun j=>?_
   obtain⟨j,hj⟩:=j
   dsimp only
   by_cases hlt:j<B.length
   ·have hc:=teta_d B[j] 0 (n+B.length-1-j) (hB _ (List.getElem_mem hlt))
    rw[←Li.vars_get B n j hlt,eTm_eq,eTy_eq] at hc
    have hl0:=Li.vars_len B n
    have hsn:=eTms_snoc (Li.vars B n) j (by omega)
    have hl1:(eTms ((Li.vars B n).take j)).length=j:=by rw[eTms_len,List.length_take];omega
    have hl2:(eTms ((Li.vars B n).take (j+1))).length=j+1:=by rw[eTms_len,List.length_take];omega
    refine dw_seq ?_;refine dwk [(16,.v (.bool true))] TLI_ok hnt fun K hK=>?_;refine And.intro auT ?_;refine hK _ _ ?_;clear hK K;refine dw_seq ?_;refine dw_cond (t:=true) rfl ?_;rw[if_pos rfl];refine dw_skip ?_;refine dw_seq ?_;refine dw_block ?_;refine dw_seq ?_;refine dwk [(18,.q [.sl 2 (eTys B[j].args) none,.v (.int .i64 B[j].base)])] TLI_ok hnt fun K hK=>?_;refine And.intro (elo (eTys_len B)) ?_
    refine And.intro (elv (eTys_getD B j) (eTy_eq _)) ?_;refine hK _ _ ?_;clear hK K;refine dwk [(26,.v (.int .i64 ((n+B.length-1-j))))] TLI_ok hnt fun K hK=>?_;refine And.intro (dintE (by rw[IntWalk.i64_in (n+B.length) (by omega),IntWalk.i64_in (n+B.length-1) (by omega),IntWalk.i64_in _ (by omega)])) ?_;refine dcl (hc) ?_;refine And.intro (⟨by omega,by rw[hl1];simp;omega⟩) ?_
    refine hK _ _ ?_;clear hK K
    rw[hsn,hl2]
    refine dwk [(32,.v (.int .i64 (↑(j+1))))] TLI_ok hnt fun K hK=>?_;refine And.intro auI ?_;refine hK _ _ ?_;clear hK K
    refine⟨⟨j+1,hlt⟩,by first | omega | (dsimp only;omega),VS.toA⟩
   ·rw[List.take_of_length_le (by rw[Li.vars_len];omega)]
    refine dw_seq ?_;refine dwk [(16,.v (.bool false))] TLI_ok hnt fun K hK=>?_;refine And.intro auF ?_;refine hK _ _ ?_;clear hK K;refine dw_seq ?_;refine dw_cond (t:=false) rfl ?_;rw[if_neg (by simp)];refine dw_exit ?_;refine dw_seq ?_;refine dwk [] TLI_ok hnt fun _ z9=>z9 _ _ ?_;refine dw_ret ?_
    exact reta rfl
theorem lturn_d (L R:Tm)(M B:List Ty)(t:Tm)(n:Int)(hn:0≤n∧n≤1000000)(hl:B.length≤900)(hB:∀ b∈B,b.size≤1000)(ht:t.args.length≤800000):CallC Tryz.prog 164 [.ag (eTm t),.v (.int .i64 n),.p 0 0] [(.c 0 0,.sl 2 (eTys L.binds) none),(.c 0 1,.v (.int .i64 L.kind)),(.c 0 2,.v (.int .i64 L.index)),(.c 0 3,.sl 4 (eTms L.args) none),(.c 0 4,.sl 2 (eTys R.binds) none),(.c 0 5,.v (.int .i64 R.kind)),(.c 0 6,.v (.int .i64 R.index)),(.c 0 7,.sl 4 (eTms R.args) none),(.c 0 8,.sl 2 (eTys M) none),(.c 0 9,.sl 2 (eTys B) none)] [(.c 0 0,.sl 2 (eTys L.binds) none),(.c 0 1,.v (.int .i64 L.kind)),(.c 0 2,.v (.int .i64 L.index)),(.c 0 3,.sl 4 (eTms L.args) none),(.c 0 4,.sl 2 (eTys R.binds) none),(.c 0 5,.v (.int .i64 R.kind)),(.c 0 6,.v (.int .i64 R.index)),(.c 0 7,.sl 4 (eTms R.args) none),(.c 0 8,.sl 2 (eTys M) none),(.c 0 9,.sl 2 (eTys B) none)] (.ag (eTm (.mk t.binds t.kind t.index (Li.vars B n++t.args)))):=by
 have hv:=lvars_d L R M B n hn (by omega) hB
 have hcat:=concatT_d [Li.vars B n,t.args] (by simp[lensT,Li.vars_len];omega) (by simp)
 simp only[List.flatten_cons,List.flatten_nil,List.append_nil] at hcat
 rw[eTm_eq,eTm_eq]
 simp only[bindsT,kindT,indexT,argsTm]
 refine calldw 1 15 [ResultVar.cell 5 41] TLI_ok Tryz.func164 rfl Tryz.ntmps164 rfl fun cx hnt hn0=>?_
 ·skip
  refine dw_seq ?_;refine dwk [] TLI_ok hnt fun _ z9=>z9 _ _ ?_;refine dw_seq ?_;refine dwkD [(11,.sl 1 (eTmss [Li.vars B n,t.args]) none)] TLI_ok hnt fun K hK=>?_;refine dcl (hv) ?_;refine And.intro (VLe.untag _ _ _) ?_;refine dcl (hcat) ?_;refine hK _ _ (by kernel_rfl) ?_;clear hK K;refine dw_seq ?_;refine dwk [] TLI_ok hnt fun _ z9=>z9 _ _ ?_
  refine dw_ret ?_
  exact reta rfl
theorem leach_d (L R:Tm)(M B:List Ty)(hl:B.length≤900)(hB:∀ b∈B,b.size≤1000):∀ (t:Tm) (n:Int),0≤n→n+t.full≤700000→CallC Tryz.prog 163 [.ag (eTm t),.v (.int .i64 n),.fn 164 [.p 0 0]] [(.c 0 0,.sl 2 (eTys L.binds) none),(.c 0 1,.v (.int .i64 L.kind)),(.c 0 2,.v (.int .i64 L.index)),(.c 0 3,.sl 4 (eTms L.args) none),(.c 0 4,.sl 2 (eTys R.binds) none),(.c 0 5,.v (.int .i64 R.kind)),(.c 0 6,.v (.int .i64 R.index)),(.c 0 7,.sl 4 (eTms R.args) none),(.c 0 8,.sl 2 (eTys M) none),(.c 0 9,.sl 2 (eTys B) none)] [(.c 0 0,.sl 2 (eTys L.binds) none),(.c 0 1,.v (.int .i64 L.kind)),(.c 0 2,.v (.int .i64 L.index)),(.c 0 3,.sl 4 (eTms L.args) none),(.c 0 4,.sl 2 (eTys R.binds) none),(.c 0 5,.v (.int .i64 R.kind)),(.c 0 6,.v (.int .i64 R.index)),(.c 0 7,.sl 4 (eTms R.args) none),(.c 0 8,.sl 2 (eTys M) none),(.c 0 9,.sl 2 (eTys B) none)] (.ag (eTm (Li.lif B t n))):=by
 intro t
 induction t using Tm.ind with
 | h b k i a ih=>
 intro n h0 hz
 rw[Tm.full_eq] at hz
 have hbl:=Ty.le_sizes b
 have hal:=cFulls_len a
 have hfl:=pflex_d (.mk b k i a)
 obtain⟨n',hn⟩:∃ n':Int,n'=n+b.length:=⟨_,rfl⟩
 have htu:=lturn_d L R M B (.mk b k i (Li.lifs B a n')) n' (by omega) hl hB (by simp only[argsTm,Li.lifs_len];omega)
 rw[Li.lif_eq,←hn]
 obtain⟨v,hv⟩:∃ v,Li.vars B n'=v:=⟨_,rfl⟩
 have hl0:=Li.lifs_len B a n'
 have hsn:=Li.lifs_snoc B a n'
 obtain⟨r,hr⟩:∃ r,Li.lifs B a n'=r:=⟨_,rfl⟩
 rw[hr] at htu hsn hl0 ⊢
 rw[eTm_eq,eTm_eq] at htu
 rw[eTm_eq] at hfl
 rw[eTm_eq,eTm_eq]
 simp only[bindsT,kindT,indexT,argsTm] at htu hfl ⊢
 rw[hv] at htu ⊢
 have hfl:∀ c:Bool,decide (k=2)=c→PureC Tryz.prog 134 [.ag [.sl 2 (eTys b) none,.v (.int .i64 k),.v (.int .i64 i),.sl 4 (eTms a) none]] (.v (.bool c)):=fun c h=>h ▸ hfl
 clear hv hr
 refine calldw 1 44 [ResultVar.cell 6 41] TLI_ok Tryz.func163 rfl Tryz.ntmps163 rfl fun cx hnt hn0=>?_
 ·skip
  refine dw_seq ?_;refine dwk [] TLI_ok hnt fun _ z9=>z9 _ _ ?_;refine dw_seq ?_;refine dwk [(14,.v (.int .i64 (n')))] TLI_ok hnt fun K hK=>?_;refine And.intro (dintE (by rw[eTys_len,IntWalk.i64_in _ (by omega)];omega)) ?_;refine hK _ _ ?_;clear hK K;refine dw_seq ?_;refine dwk [] TLI_ok hnt fun _ z9=>z9 _ _ ?_
  refine DW.vs (VS.row (k:=14) (off:=3) 41 4 rfl) ?_
  refine dw_seq ?_;refine dw_seq ?_;refine dwk [(22,.v (.int .i64 (↑a.length)))] TLI_ok hnt fun K hK=>?_;refine And.intro (dintE (by rw[eTms_len])) ?_;refine hK _ _ ?_;clear hK K;refine dw_block ?_
  refine dw_loop (ι:={ j:Nat // j≤a.length }) (fun j=>[(.t 1,.v (.int .i64 n')),(.t 2,.fn 164 [.p 0 0]),(.t 3,.p 1 0),(.t 6,.p 2 0),(.t 7,.p 14 0),(.t 21,.sl 4 (eTms a) none),(.t 22,.v (.int .i64 ↑a.length)),(.t 23,.v (.int .i64 ↑j.1)),(.c 1 0,.sl 2 (eTys b) none),(.c 1 1,.v (.int .i64 k)),(.c 1 2,.v (.int .i64 i)),(.c 1 3,.sl 4 (eTms a) none),(.c 2 0,.v (.slice none 0 0)),(.c 2 1,.v (.int .i64 0)),(.c 2 2,.v (.int .i64 0)),(.c 2 3,.v (.slice none 0 0)),(.c 14 0,.sl 2 (eTys b) none),(.c 14 1,.v (.int .i64 k)),(.c 14 2,.v (.int .i64 i)),(.c 14 3,.sl 4 (eTms (r.take j.1)) (some 16)),(.r 16,.rw 41 4 j.1),(.c 0 0,.sl 2 (eTys L.binds) none),(.c 0 1,.v (.int .i64 L.kind)),(.c 0 2,.v (.int .i64 L.index)),(.c 0 3,.sl 4 (eTms L.args) none),(.c 0 4,.sl 2 (eTys R.binds) none),(.c 0 5,.v (.int .i64 R.kind)),(.c 0 6,.v (.int .i64 R.index)),(.c 0 7,.sl 4 (eTms R.args) none),(.c 0 8,.sl 2 (eTys M) none),(.c 0 9,.sl 2 (eTys B) none)]) 17 (fun j=>a.length-j.1) (⟨0,Nat.zero_le _⟩) (VS.toA) fun j=>?_
  obtain⟨j,hj⟩:=j
  dsimp only
  by_cases hlt:j<a.length
  ·have hmem:=List.getElem_mem hlt
   have hsz:=Tm.full_mem hmem
   have hc:=ih _ hmem n' (by omega) (by omega)
   have hs2:=hsn j hlt
   rw[eTm_eq,eTm_eq] at hc
   rw[eTm_eq] at hs2
   have hl1:(eTms (r.take j)).length=j:=by rw[eTms_len,List.length_take];omega
   have hl2:(eTms (r.take (j+1))).length=j+1:=by rw[eTms_len,List.length_take];omega
   refine dw_seq ?_;refine dwk [(24,.v (.bool true))] TLI_ok hnt fun K hK=>?_;refine And.intro auT ?_;refine hK _ _ ?_;clear hK K;refine dw_seq ?_;refine dw_cond (t:=true) rfl ?_;rw[if_pos rfl];refine dw_skip ?_;refine dw_seq ?_;refine dw_block ?_;refine dw_seq ?_;refine dwk [(25,.q [.sl 2 (eTys a[j].binds) none,.v (.int .i64 a[j].kind),.v (.int .i64 a[j].index),.sl 4 (eTms a[j].args) none])] TLI_ok hnt fun K hK=>?_
   refine And.intro (elo (eTms_len a)) ?_;refine And.intro (elv (eTms_getD a j) (eTm_eq _)) ?_;refine hK _ _ ?_;clear hK K;refine dwkD [] TLI_ok hnt fun K hK=>?_;refine dcl (hc) ?_;refine And.intro (⟨by omega,by rw[hl1];simp;omega⟩) ?_;refine hK _ _ (by kernel_rfl) ?_;clear hK K
   rw[hs2,hl2]
   refine dwk [(36,.v (.int .i64 (↑(j+1))))] TLI_ok hnt fun K hK=>?_;refine And.intro auI ?_;refine hK _ _ ?_;clear hK K
   refine⟨⟨j+1,hlt⟩,by first | omega | (dsimp only;omega),VS.toA⟩
  ·rw[List.take_of_length_le (by omega)]
   refine dw_seq ?_;refine dwk [(24,.v (.bool false))] TLI_ok hnt fun K hK=>?_;refine And.intro auF ?_;refine hK _ _ ?_;clear hK K;refine dw_seq ?_;refine dw_cond (t:=false) rfl ?_;rw[if_neg (by simp)]
   by_cases hk:k=2
   ·have hfl:=hfl _ (decide_eq_true hk)
    rw[if_pos hk];refine dw_exit ?_;refine dw_seq ?_;refine dw_seq ?_;refine dwk [] TLI_ok hnt fun K hK=>?_;refine dcl (hfl) ?_;refine hK _ _ ?_;clear hK K;refine dw_cond (t:=true) rfl ?_;rw[if_pos rfl];refine dw_seq ?_;refine dwk [(40,.ag [.sl 2 (eTys b) none,.v (.int .i64 k),.v (.int .i64 i),.sl 4 (eTms r) none])] TLI_ok hnt fun K hK=>?_;refine And.intro (auV) ?_;refine dcl (htu) ?_
    refine hK _ _ ?_;clear hK K;refine dw_ret ?_
    exact reta rfl
   ·have hfl:=hfl _ (decide_eq_false hk)
    rw[if_neg hk];refine dw_exit ?_;refine dw_seq ?_;refine dw_seq ?_;refine dwk [] TLI_ok hnt fun K hK=>?_;refine dcl (hfl) ?_;refine hK _ _ ?_;clear hK K;refine dw_cond (t:=false) rfl ?_;rw[if_neg (by simp)];refine dw_skip ?_;refine dw_seq ?_;refine dwk [] TLI_ok hnt fun _ z9=>z9 _ _ ?_;refine dw_ret ?_
    exact reta rfl
theorem lterm_d (L R:Tm)(M B:List Ty)(t:Tm)(hl:B.length≤900)(hB:∀ b∈B,b.size≤1000)(hz:t.full≤700000):PureC Tryz.prog 137 [.ag [.sl 2 (eTys L.binds) none,.v (.int .i64 L.kind),.v (.int .i64 L.index),.sl 4 (eTms L.args) none,.sl 2 (eTys R.binds) none,.v (.int .i64 R.kind),.v (.int .i64 R.index),.sl 4 (eTms R.args) none,.sl 2 (eTys M) none,.sl 2 (eTys B) none],.ag (eTm t)] (.ag (eTm (Li.lif B t 0))):=by
 have he:=leach_d L R M B hl hB t 0 (by omega) (by omega)
 rw[eTm_eq,eTm_eq] at he ⊢
 refine calldw 0 8 [ResultVar.cell 4 41] TLI_ok Tryz.func137 rfl Tryz.ntmps137 rfl fun cx hnt hn0=>?_
 ·skip
  refine dw_seq ?_;refine dwk [] TLI_ok hnt fun _ z9=>z9 _ _ ?_;refine dw_seq ?_;refine dwk [] TLI_ok hnt fun K hK=>?_;refine dcl (he) ?_;refine hK _ _ ?_;clear hK K;refine dw_ret ?_
  exact reta rfl
def TLB_86:TI:=⟨9,true,[Value.slice none 0 0,Value.int IntKind.i64 0,Value.int IntKind.i64 0,Value.slice none 0 0,Value.slice none 0 0,Value.int IntKind.i64 0,Value.int IntKind.i64 0,Value.slice none 0 0,Value.slice none 0 0],[(0,4,true),(4,4,true),(8,1,false)],none,152,6,none,false⟩
theorem TLB_86_ok:TypOk Tryz.prog 86 TLB_86:=by constructor <;> kernel_rfl
def TLB_41:TI:=⟨4,true,[Value.slice none 0 0,Value.int IntKind.i64 0,Value.int IntKind.i64 0,Value.slice none 0 0],[(0,1,false),(1,2,true),(3,1,false)],none,64,6,none,false⟩
theorem TLB_41_ok:TypOk Tryz.prog 41 TLB_41:=by constructor <;> kernel_rfl
def TLB_33:TI:=⟨1,false,[Value.slice none 0 0],[],some 44,24,5,none,false⟩
theorem TLB_33_ok:TypOk Tryz.prog 33 TLB_33:=by constructor <;> kernel_rfl
def TLB_226:TI:=⟨10,true,[Value.slice none 0 0,Value.int IntKind.i64 0,Value.int IntKind.i64 0,Value.slice none 0 0,Value.slice none 0 0,Value.int IntKind.i64 0,Value.int IntKind.i64 0,Value.slice none 0 0,Value.slice none 0 0,Value.slice none 0 0],[(0,9,true),(9,1,false)],none,176,6,none,false⟩
theorem TLB_226_ok:TypOk Tryz.prog 226 TLB_226:=by constructor <;> kernel_rfl
def TLB_3:TI:=⟨1,false,[Value.int IntKind.i64 0],[],none,8,2,none,false⟩
theorem TLB_3_ok:TypOk Tryz.prog 3 TLB_3:=by constructor <;> kernel_rfl
def TLB_44:TI:=⟨2,true,[Value.slice none 0 0,Value.int IntKind.i64 0],[(0,1,false),(1,1,false)],none,32,6,none,false⟩
theorem TLB_44_ok:TypOk Tryz.prog 44 TLB_44:=by constructor <;> kernel_rfl
def TLB_79:TI:=⟨5,true,[Value.int IntKind.i64 0,Value.slice none 0 0,Value.int IntKind.i64 0,Value.int IntKind.i64 0,Value.slice none 0 0],[(0,1,false),(1,4,true)],none,72,6,none,false⟩
theorem TLB_79_ok:TypOk Tryz.prog 79 TLB_79:=by constructor <;> kernel_rfl
def TLB_59:TI:=⟨1,false,[Value.slice none 0 0],[],some 3,24,5,none,false⟩
theorem TLB_59_ok:TypOk Tryz.prog 59 TLB_59:=by constructor <;> kernel_rfl
def TLB_50:TI:=⟨1,false,[Value.slice none 0 0],[],some 79,24,5,none,false⟩
theorem TLB_50_ok:TypOk Tryz.prog 50 TLB_50:=by constructor <;> kernel_rfl
def TLB_51:TI:=⟨1,false,[Value.slice none 0 0],[],some 79,24,5,none,false⟩
theorem TLB_51_ok:TypOk Tryz.prog 51 TLB_51:=by constructor <;> kernel_rfl
def TLB_180:TI:=⟨1,false,[Value.nilFunc],[],none,8,8,none,false⟩
theorem TLB_180_ok:TypOk Tryz.prog 180 TLB_180:=by constructor <;> kernel_rfl
def TLB_39:TI:=⟨1,false,[Value.slice none 0 0],[],some 41,24,5,none,false⟩
theorem TLB_39_ok:TypOk Tryz.prog 39 TLB_39:=by constructor <;> kernel_rfl
def TLB_45:TI:=⟨1,false,[Value.int IntKind.i64 0],[],none,8,2,none,false⟩
theorem TLB_45_ok:TypOk Tryz.prog 45 TLB_45:=by constructor <;> kernel_rfl
def TLB_192:TI:=⟨1,false,[Value.slice none 0 0],[],some 33,24,5,none,false⟩
theorem TLB_192_ok:TypOk Tryz.prog 192 TLB_192:=by constructor <;> kernel_rfl
def TLB:List (Nat×TI):=[(86,TLB_86),(41,TLB_41),(33,TLB_33),(226,TLB_226),(3,TLB_3),(44,TLB_44),(79,TLB_79),(59,TLB_59),(50,TLB_50),(51,TLB_51),(180,TLB_180),(39,TLB_39),(45,TLB_45),(192,TLB_192)]
theorem TLB_ok:TabOk Tryz.prog TLB:=(((((((((((((((TabOk.nil _).cons TLB_192_ok).cons TLB_45_ok).cons TLB_39_ok).cons TLB_180_ok).cons TLB_51_ok).cons TLB_50_ok).cons TLB_59_ok).cons TLB_79_ok).cons TLB_44_ok).cons TLB_3_ok).cons TLB_226_ok).cons TLB_33_ok).cons TLB_41_ok).cons TLB_86_ok)
theorem metas_d (l:List Tm)(hl:l.length≤9)(hz:∀ t∈l,t.full≤90000):PureC Tryz.prog 31 [.sl 4 (eTms l) none] (.sl 1 (eIs (sortU (metasL l))) none):=by
 refine pure_below (by kernel_rfl) fun m Im w vs hv=>?_
 match vs,hv with
 | [x],hv=>
  have hs:IsSl rpTm (fun _=>True) w x l:=(sl_of_rel (r:=rpTm) (e:=eTm) eTm_len (fun x t hx _=>tm_of_rel t hx) (by decide) (by rw[eTms_map] at hv;exact hv.1)).weaken (by decide) fun _ _ _=>trivial
  refine(metas6_k hs hl hz).mono ?_
  rintro e w' ⟨a,c,rfl,h1,h2⟩
  refine⟨_,rfl,h2,fun Im' _ hI=>?_⟩
  exact rel_of_sl (r:=rpInt) (e:=fun i=>[.v (.int .i64 i)]) (fun b o v hq hc=>hI b o v hq hc) (fun _=>rfl) (fun x a h=>by
   have:x=[.int .i64 a]:=h
   subst this;exact⟨.v _,trivial⟩) h1
/-! may -/
theorem lmay1_d (L R:Tm)(M B:List Ty)(x:Int)(hM:M.length≤900000):CallC Tryz.prog 162 [.v (.int .i64 x),.p 0 0] [(.c 0 0,.sl 2 (eTys L.binds) none),(.c 0 1,.v (.int .i64 L.kind)),(.c 0 2,.v (.int .i64 L.index)),(.c 0 3,.sl 4 (eTms L.args) none),(.c 0 4,.sl 2 (eTys R.binds) none),(.c 0 5,.v (.int .i64 R.kind)),(.c 0 6,.v (.int .i64 R.index)),(.c 0 7,.sl 4 (eTms R.args) none),(.c 0 8,.sl 2 (eTys M) none),(.c 0 9,.sl 2 (eTys B) none)] [(.c 0 0,.sl 2 (eTys L.binds) none),(.c 0 1,.v (.int .i64 L.kind)),(.c 0 2,.v (.int .i64 L.index)),(.c 0 3,.sl 4 (eTms L.args) none),(.c 0 4,.sl 2 (eTys R.binds) none),(.c 0 5,.v (.int .i64 R.kind)),(.c 0 6,.v (.int .i64 R.index)),(.c 0 7,.sl 4 (eTms R.args) none),(.c 0 8,.sl 2 (eTys M) none),(.c 0 9,.sl 2 (eTys B) none)] (.v (.bool (decide (x<0∨(M.length:Int)≤x)))):=by
 by_cases h0:x<0
 ·rw[decide_eq_true (.inl h0)]
  refine calldw 1 14 [ResultVar.tmp 3] TLB_ok Tryz.func162 rfl Tryz.ntmps162 rfl fun cx hnt hn0=>?_
  ·skip
   refine dw_seq ?_;refine dwk [] TLB_ok hnt fun _ z9=>z9 _ _ ?_;refine dw_seq ?_;refine dwk [(5,.v (.bool true))] TLB_ok hnt fun K hK=>?_;refine And.intro auT ?_;refine hK _ _ ?_;clear hK K;refine dw_ret ?_
   exact reta rfl
 ·have e:decide (x<0∨(M.length:Int)≤x)=decide ((M.length:Int)≤x):=by simp[h0]
  rw[e]
  refine calldw 1 14 [ResultVar.tmp 3] TLB_ok Tryz.func162 rfl Tryz.ntmps162 rfl fun cx hnt hn0=>?_
  ·skip
   refine dw_seq ?_;refine dwk [] TLB_ok hnt fun _ z9=>z9 _ _ ?_;refine dw_seq ?_;refine dwk [(5,.v (.bool false)),(12,.v (.bool (decide (↑M.length≤x))))] TLB_ok hnt fun K hK=>?_;refine And.intro auF ?_;refine And.intro (VLe.of_eq (by rw[eTys_len])) ?_;refine hK _ _ ?_;clear hK K;refine dw_ret ?_
   exact reta rfl
def fidx (P:Int→Bool)(l:List Int):Int:=match l.findIdx? P with | some i=>(i:Int) | none=>-1
theorem fidx_at {P:Int→Bool}{l:List Int}{i:Nat}(h:i<l.length)(h1:P l[i]=true)(h2:∀ j (h:j<l.length),j<i→P l[j]=false):fidx P l=i:=by
 have:l.findIdx? P=some i:=List.findIdx?_eq_some_iff_getElem.2 ⟨h,h1,fun j hj=>by rw[h2 j (by omega) hj];simp⟩
 rw[fidx,this]
theorem fidx_no {P:Int→Bool}{l:List Int}(h2:∀ j (h:j<l.length),P l[j]=false):fidx P l=-1:=by
 have:l.findIdx? P=none:=List.findIdx?_eq_none_iff.2 fun x hx=>by
  obtain⟨i,hi,rfl⟩:=List.getElem_of_mem hx
  exact h2 i hi
 rw[fidx,this]
theorem fidx_any (P:Int→Bool)(l:List Int):decide (fidx P l≥0)=l.any P:=by
 rw[fidx]
 cases h:l.findIdx? P with
 | some i=>
  obtain⟨h1,h2,_⟩:=List.findIdx?_eq_some_iff_getElem.1 h
  rw[List.any_eq_true.2 ⟨_,List.getElem_mem h1,h2⟩]
  simp
 | none=>
  rw[List.any_eq_false.2 fun x hx=>by simp[List.findIdx?_eq_none_iff.1 h x hx]]
  simp
theorem indexI_d (L R:Tm)(M B:List Ty)(hM:M.length≤900000)(l:List Int)(hl:l.length≤1000000):CallC Tryz.prog 133 [.sl 1 (eIs l) none,.fn 162 [.p 0 0]] [(.c 0 0,.sl 2 (eTys L.binds) none),(.c 0 1,.v (.int .i64 L.kind)),(.c 0 2,.v (.int .i64 L.index)),(.c 0 3,.sl 4 (eTms L.args) none),(.c 0 4,.sl 2 (eTys R.binds) none),(.c 0 5,.v (.int .i64 R.kind)),(.c 0 6,.v (.int .i64 R.index)),(.c 0 7,.sl 4 (eTms R.args) none),(.c 0 8,.sl 2 (eTys M) none),(.c 0 9,.sl 2 (eTys B) none)] [(.c 0 0,.sl 2 (eTys L.binds) none),(.c 0 1,.v (.int .i64 L.kind)),(.c 0 2,.v (.int .i64 L.index)),(.c 0 3,.sl 4 (eTms L.args) none),(.c 0 4,.sl 2 (eTys R.binds) none),(.c 0 5,.v (.int .i64 R.kind)),(.c 0 6,.v (.int .i64 R.index)),(.c 0 7,.sl 4 (eTms R.args) none),(.c 0 8,.sl 2 (eTys M) none),(.c 0 9,.sl 2 (eTys B) none)] (.v (.int .i64 (fidx (fun x=>decide (x<0∨(M.length:Int)≤x)) l))):=by
 obtain⟨P,hP⟩:∃ P:Int→Bool,(fun x=>decide (x<0∨(M.length:Int)≤x))=P:=⟨_,rfl⟩
 have hmay:∀ x,CallC Tryz.prog 162 [.v (.int .i64 x),.p 0 0] [(.c 0 0,.sl 2 (eTys L.binds) none),(.c 0 1,.v (.int .i64 L.kind)),(.c 0 2,.v (.int .i64 L.index)),(.c 0 3,.sl 4 (eTms L.args) none),(.c 0 4,.sl 2 (eTys R.binds) none),(.c 0 5,.v (.int .i64 R.kind)),(.c 0 6,.v (.int .i64 R.index)),(.c 0 7,.sl 4 (eTms R.args) none),(.c 0 8,.sl 2 (eTys M) none),(.c 0 9,.sl 2 (eTys B) none)] [(.c 0 0,.sl 2 (eTys L.binds) none),(.c 0 1,.v (.int .i64 L.kind)),(.c 0 2,.v (.int .i64 L.index)),(.c 0 3,.sl 4 (eTms L.args) none),(.c 0 4,.sl 2 (eTys R.binds) none),(.c 0 5,.v (.int .i64 R.kind)),(.c 0 6,.v (.int .i64 R.index)),(.c 0 7,.sl 4 (eTms R.args) none),(.c 0 8,.sl 2 (eTys M) none),(.c 0 9,.sl 2 (eTys B) none)] (.v (.bool (P x))):=fun x=>hP ▸ lmay1_d L R M B x hM
 rw[hP]
 clear hP
 refine calldw 1 19 [ResultVar.tmp 4] TLB_ok Tryz.func133 rfl Tryz.ntmps133 rfl fun cx hnt hn0=>?_
 ·skip
  refine dw_seq ?_;refine dwk [] TLB_ok hnt fun _ z9=>z9 _ _ ?_;refine dw_seq ?_;refine dw_seq ?_;refine dwk [(7,.v (.int .i64 (↑l.length)))] TLB_ok hnt fun K hK=>?_;refine And.intro (dintE (by rw[eIs_len])) ?_;refine hK _ _ ?_;clear hK K;refine dw_block ?_
  refine dw_loop (ι:={ j:Nat // ∀ i (h:i<l.length),i<j→P l[i]=false }) (fun j=>[(.t 0,.sl 1 (eIs l) none),(.t 1,.fn 162 [.p 0 0]),(.t 7,.v (.int .i64 ↑l.length)),(.t 8,.v (.int .i64 ↑j.1)),(.c 0 0,.sl 2 (eTys L.binds) none),(.c 0 1,.v (.int .i64 L.kind)),(.c 0 2,.v (.int .i64 L.index)),(.c 0 3,.sl 4 (eTms L.args) none),(.c 0 4,.sl 2 (eTys R.binds) none),(.c 0 5,.v (.int .i64 R.kind)),(.c 0 6,.v (.int .i64 R.index)),(.c 0 7,.sl 4 (eTms R.args) none),(.c 0 8,.sl 2 (eTys M) none),(.c 0 9,.sl 2 (eTys B) none)]) 1 (fun j=>l.length-j.1) (⟨0,fun i h1 h2=>by omega⟩) (VS.toA) fun j=>?_
  obtain⟨j,hj⟩:=j
  dsimp only
  by_cases hlt:j<l.length
  ·have hf:=hmay l[j]
   refine dw_seq ?_;refine dwk [(9,.v (.bool true))] TLB_ok hnt fun K hK=>?_;refine And.intro auT ?_;refine hK _ _ ?_;clear hK K;refine dw_seq ?_;refine dw_cond (t:=true) rfl ?_;rw[if_pos rfl];refine dw_skip ?_;refine dw_seq ?_;refine dw_block ?_;refine dw_seq ?_;refine dwk [] TLB_ok hnt fun _ z9=>z9 _ _ ?_
   cases he:P l[j] with
   | true=>
    rw[he] at hf
    rw[fidx_at hlt he hj]
    refine dw_seq ?_;refine dwk [(14,.q [.v (.int .i64 (l[j]))])] TLB_ok hnt fun K hK=>?_;refine And.intro (elo (eIs_len l)) ?_;refine And.intro (elv (eIs_getD l j) rfl) ?_;refine dcl (hf) ?_;refine hK _ _ ?_;clear hK K;refine dw_cond (t:=true) rfl ?_;rw[if_pos rfl];refine dw_seq ?_;refine dwk [] TLB_ok hnt fun _ z9=>z9 _ _ ?_;refine dw_ret ?_
    exact reta rfl
   | false=>
    rw[he] at hf
    refine dw_seq ?_;refine dwk [(14,.q [.v (.int .i64 (l[j]))])] TLB_ok hnt fun K hK=>?_;refine And.intro (elo (eIs_len l)) ?_;refine And.intro (elv (eIs_getD l j) rfl) ?_;refine dcl (hf) ?_;refine hK _ _ ?_;clear hK K;refine dw_cond (t:=false) rfl ?_;rw[if_neg (by simp)];refine dw_skip ?_;refine dwk [(18,.v (.int .i64 (↑(j+1))))] TLB_ok hnt fun K hK=>?_;refine And.intro auI ?_;refine hK _ _ ?_;clear hK K
    refine⟨⟨j+1,fun i h1 h2=>if e:i=j then by subst e;exact he else hj i h1 (by omega)⟩,by first | omega | (dsimp only;omega),VS.toA⟩
  ·rw[fidx_no fun i h=>hj i h (by omega)]
   refine dw_seq ?_;refine dwk [(9,.v (.bool false))] TLB_ok hnt fun K hK=>?_;refine And.intro auF ?_;refine hK _ _ ?_;clear hK K;refine dw_seq ?_;refine dw_cond (t:=false) rfl ?_;rw[if_neg (by simp)];refine dw_exit ?_;refine dw_seq ?_;refine dwk [] TLB_ok hnt fun _ z9=>z9 _ _ ?_;refine dw_ret ?_
   exact reta rfl
theorem containsI_d (L R:Tm)(M B:List Ty)(hM:M.length≤900000)(l:List Int)(hl:l.length≤1000000):CallC Tryz.prog 98 [.sl 1 (eIs l) none,.fn 162 [.p 0 0]] [(.c 0 0,.sl 2 (eTys L.binds) none),(.c 0 1,.v (.int .i64 L.kind)),(.c 0 2,.v (.int .i64 L.index)),(.c 0 3,.sl 4 (eTms L.args) none),(.c 0 4,.sl 2 (eTys R.binds) none),(.c 0 5,.v (.int .i64 R.kind)),(.c 0 6,.v (.int .i64 R.index)),(.c 0 7,.sl 4 (eTms R.args) none),(.c 0 8,.sl 2 (eTys M) none),(.c 0 9,.sl 2 (eTys B) none)] [(.c 0 0,.sl 2 (eTys L.binds) none),(.c 0 1,.v (.int .i64 L.kind)),(.c 0 2,.v (.int .i64 L.index)),(.c 0 3,.sl 4 (eTms L.args) none),(.c 0 4,.sl 2 (eTys R.binds) none),(.c 0 5,.v (.int .i64 R.kind)),(.c 0 6,.v (.int .i64 R.index)),(.c 0 7,.sl 4 (eTms R.args) none),(.c 0 8,.sl 2 (eTys M) none),(.c 0 9,.sl 2 (eTys B) none)] (.v (.bool (l.any fun x=>decide (x<0∨(M.length:Int)≤x)))):=by
 have hi:=indexI_d L R M B hM l hl
 rw[←fidx_any]
 refine calldw 1 9 [ResultVar.tmp 4] TLB_ok Tryz.func98 rfl Tryz.ntmps98 rfl fun cx hnt hn0=>?_
 ·skip
  refine dw_seq ?_;refine dwk [] TLB_ok hnt fun _ z9=>z9 _ _ ?_;refine dw_seq ?_;refine dwk [] TLB_ok hnt fun K hK=>?_;refine dcl (hi) ?_;refine hK _ _ ?_;clear hK K;refine dw_ret ?_
  exact reta rfl
namespace Li
def lo (t:Tm):Bool:=decide ((t.looses 0).foldl looseL 0>0)
def rt (t:Tm):Bool:=decide (t.size≤5000∧t.depth≤60)
def may (L R:Tm)(M B:List Ty):Int:=
 if (lo L||lo R)=true then 1
 else if ((sortU (metasL [L,R])).any fun x=>decide (x<0∨(M.length:Int)≤x))=true then 10
 else if (decide ((B.length:Int)>900)||(!rt L || !rt R))=true then 2 else 0
def done (p:Pr):Pr×Int:=if (rt p.l&&rt p.r)=true then (p,0) else (.z,2)
def cl (t:Tm)(B:List Ty):Tm:=.mk (B++t.binds) t.kind t.index t.args
def arr (B:List Ty)(t:Ty):Ty:=.mk (B++t.args) t.base
def up (p:Pr)(B:List Ty):Pr:=⟨lif B p.l 0,lif B p.r 0,p.m.map (arr B)⟩
def over (p:Pr)(B:List Ty):Pr×Int:=if may p.l p.r p.m B≠0 then (.z,may p.l p.r p.m B) else done (up p B)
def clP (p:Pr)(B:List Ty):Pr:=⟨cl p.l B,cl p.r B,p.m⟩
def closed (p:Pr)(B:List Ty):Pr×Int:=if (over p B).2≠0 then (.z,(over p B).2) else done (clP (over p B).1 B)
def cls (l:List (Int×Tm))(B:List Ty):List (Int×Tm):=l.map fun p=>(p.1,cl p.2 B)
end Li
theorem nodup_le:∀ (l m:List Int),l.Nodup→(∀ x∈l,x∈m)→l.length≤m.length
 | [],m,_,_=>Nat.zero_le _
 | x :: l,m,h1,h2=>by
  have hx:=h2 x (by simp)
  have:=nodup_le l (m.erase x) (List.nodup_cons.1 h1).2 fun y hy=>(List.mem_erase_of_ne fun e=>(List.nodup_cons.1 h1).1 (by rw[←e];exact hy)).2 (h2 y (by simp[hy]))
  rw[List.length_erase_of_mem hx] at this
  have:=List.length_pos_of_mem hx
  simp;omega
theorem sortU_len (l:List Int):(sortU l).length≤l.length:=
 nodup_le _ _ ((sortU_spec l).1.imp fun h=>by omega) fun x h=>((sortU_spec l).2 x).1 h
set_option maxHeartbeats 1000000 in
theorem lmay_d (L R:Tm)(M B:List Ty)(hL:L.full≤90000∧L.Fit)(hR:R.full≤90000∧R.Fit)(hM:M.length≤900000):PureC Tryz.prog 136 [.ag [.sl 2 (eTys L.binds) none,.v (.int .i64 L.kind),.v (.int .i64 L.index),.sl 4 (eTms L.args) none,.sl 2 (eTys R.binds) none,.v (.int .i64 R.kind),.v (.int .i64 R.index),.sl 4 (eTms R.args) none,.sl 2 (eTys M) none,.sl 2 (eTys B) none]] (.v (.int .i64 (Li.may L R M B))):=by
 have l1:=loose_d L (by omega) hL.2
 have l2:=loose_d R (by omega) hR.2
 have hm:=metas_d [L,R] (by simp) (by simp;omega)
 have hc:=containsI_d L R M B hM (sortU (metasL [L,R])) (by
  have h1:=metasL_len [L,R] 90000 (by simp;omega)
  have h2:=sortU_len (metasL [L,R])
  simp at h1;omega)
 have r1:=right_d L (by omega)
 have r2:=right_d R (by omega)
 rw[show eTms [L,R]=[eTm L,eTm R] from rfl] at hm
 rw[eTm_eq] at l1 l2 r1 r2
 rw[eTm_eq L,eTm_eq R] at hm
 have d1:Li.lo L=decide ((L.looses 0).foldl looseL 0>0):=rfl
 have d2:Li.lo R=decide ((R.looses 0).foldl looseL 0>0):=rfl
 rw[show decide (L.size≤5000∧L.depth≤60)=Li.rt L from rfl] at r1
 rw[show decide (R.size≤5000∧R.depth≤60)=Li.rt R from rfl] at r2
 unfold Li.may
 generalize (L.looses 0).foldl looseL 0=x at l1 d1
 generalize (R.looses 0).foldl looseL 0=y at l2 d2
 generalize ((sortU (metasL [L,R])).any fun x=>decide (x<0∨(M.length:Int)≤x))=c at hc
 rw[d1,d2]
 by_cases hx:x>0
 ·rw[decide_eq_true hx,Bool.true_or,if_pos rfl]
  refine calldw 0 46 [ResultVar.tmp 2] TLB_ok Tryz.func136 rfl Tryz.ntmps136 rfl fun cx hnt hn0=>?_
  ·skip
   refine dw_seq ?_;refine dwk [] TLB_ok hnt fun _ z9=>z9 _ _ ?_;refine dw_seq ?_;refine dw_block ?_;refine dw_seq ?_;refine dwk [(8,.v (.bool true))] TLB_ok hnt fun K hK=>?_;refine dcl (l1) ?_;refine And.intro auT ?_;refine hK _ _ ?_;clear hK K;refine dw_cond (t:=true) rfl ?_;rw[if_pos rfl];refine dw_seq ?_;refine dwk [] TLB_ok hnt fun _ z9=>z9 _ _ ?_
   refine dw_ret ?_
   exact reta rfl
 ·rw[decide_eq_false hx,Bool.false_or]
  by_cases hy:y>0
  ·rw[decide_eq_true hy,if_pos rfl]
   refine calldw 0 46 [ResultVar.tmp 2] TLB_ok Tryz.func136 rfl Tryz.ntmps136 rfl fun cx hnt hn0=>?_
   ·skip
    refine dw_seq ?_;refine dwk [] TLB_ok hnt fun _ z9=>z9 _ _ ?_;refine dw_seq ?_;refine dw_block ?_;refine dw_seq ?_;refine dwk [(8,.v (.bool false)),(14,.v (.bool true))] TLB_ok hnt fun K hK=>?_;refine dcl (l1) ?_;refine And.intro auF ?_;refine dcl (l2) ?_;refine And.intro auT ?_;refine hK _ _ ?_;clear hK K;refine dw_cond (t:=true) rfl ?_;rw[if_pos rfl]
    refine dw_seq ?_;refine dwk [] TLB_ok hnt fun _ z9=>z9 _ _ ?_;refine dw_ret ?_
    exact reta rfl
  ·rw[decide_eq_false hy,if_neg (by simp)]
   cases c with
   | true=>
    rw[if_pos rfl]
    refine calldw 0 46 [ResultVar.tmp 2] TLB_ok Tryz.func136 rfl Tryz.ntmps136 rfl fun cx hnt hn0=>?_
    ·skip
     refine dw_seq ?_;refine dwk [] TLB_ok hnt fun _ z9=>z9 _ _ ?_;refine dw_seq ?_;refine dw_block ?_;refine dw_seq ?_;refine dwk [(8,.v (.bool false)),(14,.v (.bool false))] TLB_ok hnt fun K hK=>?_;refine dcl (l1) ?_;refine And.intro auF ?_;refine dcl (l2) ?_;refine And.intro auF ?_;refine hK _ _ ?_;clear hK K;refine dw_cond (t:=false) rfl ?_;rw[if_neg (by simp)]
     refine dw_seq ?_;refine dwk [(23,.sl 4 [[.sl 2 (eTys L.binds) none,.v (.int .i64 L.kind),.v (.int .i64 L.index),.sl 4 (eTms L.args) none],[.sl 2 (eTys R.binds) none,.v (.int .i64 R.kind),.v (.int .i64 R.index),.sl 4 (eTms R.args) none]] none)] TLB_ok hnt fun K hK=>?_;refine And.intro (VLe.untag _ _ _) ?_;refine dcl (hm) ?_;refine dcl (hc) ?_;refine hK _ _ ?_;clear hK K;refine dw_cond (t:=true) rfl ?_
     rw[if_pos rfl];refine dw_seq ?_;refine dwk [] TLB_ok hnt fun _ z9=>z9 _ _ ?_;refine dw_ret ?_
     exact reta rfl
   | false=>
    rw[if_neg (by simp)]
    by_cases hb:(B.length:Int)>900
    ·rw[decide_eq_true hb,Bool.true_or,if_pos rfl]
     refine calldw 0 46 [ResultVar.tmp 2] TLB_ok Tryz.func136 rfl Tryz.ntmps136 rfl fun cx hnt hn0=>?_
     ·skip
      refine dw_seq ?_;refine dwk [] TLB_ok hnt fun _ z9=>z9 _ _ ?_;refine dw_seq ?_;refine dw_block ?_;refine dw_seq ?_;refine dwk [(8,.v (.bool false)),(14,.v (.bool false))] TLB_ok hnt fun K hK=>?_;refine dcl (l1) ?_;refine And.intro auF ?_;refine dcl (l2) ?_;refine And.intro auF ?_;refine hK _ _ ?_;clear hK K;refine dw_cond (t:=false) rfl ?_;rw[if_neg (by simp)]
      refine dw_seq ?_;refine dwk [(23,.sl 4 [[.sl 2 (eTys L.binds) none,.v (.int .i64 L.kind),.v (.int .i64 L.index),.sl 4 (eTms L.args) none],[.sl 2 (eTys R.binds) none,.v (.int .i64 R.kind),.v (.int .i64 R.index),.sl 4 (eTms R.args) none]] none)] TLB_ok hnt fun K hK=>?_;refine And.intro (VLe.untag _ _ _) ?_;refine dcl (hm) ?_;refine dcl (hc) ?_;refine hK _ _ ?_;clear hK K;refine dw_cond (t:=false) rfl ?_
      rw[if_neg (by simp)];refine dw_seq ?_;refine dwk [(31,.v (.bool true))] TLB_ok hnt fun K hK=>?_;refine And.intro (by first | exact dtrue (by rw[eTys_len];omega) | exact VLe.of_eq (by rw[eTys_len];omega)) ?_;refine hK _ _ ?_;clear hK K;refine dw_cond (t:=true) rfl ?_;rw[if_pos rfl];refine dw_seq ?_;refine dwk [] TLB_ok hnt fun _ z9=>z9 _ _ ?_;refine dw_ret ?_
      exact reta rfl
    ·rw[decide_eq_false hb,Bool.false_or]
     cases hr1:Li.rt L with
     | false=>
      rw[hr1] at r1
      simp only[Bool.not_false,Bool.true_or,if_true]
      refine calldw 0 46 [ResultVar.tmp 2] TLB_ok Tryz.func136 rfl Tryz.ntmps136 rfl fun cx hnt hn0=>?_
      ·skip
       refine dw_seq ?_;refine dwk [] TLB_ok hnt fun _ z9=>z9 _ _ ?_;refine dw_seq ?_;refine dw_block ?_;refine dw_seq ?_;refine dwk [(8,.v (.bool false)),(14,.v (.bool false))] TLB_ok hnt fun K hK=>?_;refine dcl (l1) ?_;refine And.intro auF ?_;refine dcl (l2) ?_;refine And.intro auF ?_;refine hK _ _ ?_;clear hK K;refine dw_cond (t:=false) rfl ?_;rw[if_neg (by simp)]
       refine dw_seq ?_;refine dwk [(23,.sl 4 [[.sl 2 (eTys L.binds) none,.v (.int .i64 L.kind),.v (.int .i64 L.index),.sl 4 (eTms L.args) none],[.sl 2 (eTys R.binds) none,.v (.int .i64 R.kind),.v (.int .i64 R.index),.sl 4 (eTms R.args) none]] none)] TLB_ok hnt fun K hK=>?_;refine And.intro (VLe.untag _ _ _) ?_;refine dcl (hm) ?_;refine dcl (hc) ?_;refine hK _ _ ?_;clear hK K;refine dw_cond (t:=false) rfl ?_
       rw[if_neg (by simp)];refine dw_seq ?_;refine dwk [(31,.v (.bool false))] TLB_ok hnt fun K hK=>?_;refine And.intro (by first | exact dfalse (by rw[eTys_len];omega) | exact VLe.of_eq (by rw[eTys_len];omega)) ?_;refine dcl (r1) ?_;refine hK _ _ ?_;clear hK K;refine dw_cond (t:=true) rfl ?_;rw[if_pos rfl];refine dw_seq ?_;refine dwk [] TLB_ok hnt fun _ z9=>z9 _ _ ?_
       refine dw_ret ?_
       exact reta rfl
     | true=>
      rw[hr1] at r1
      cases hr2:Li.rt R with
      | false=>
       rw[hr2] at r2
       simp only[Bool.not_false,Bool.or_true,if_true]
       refine calldw 0 46 [ResultVar.tmp 2] TLB_ok Tryz.func136 rfl Tryz.ntmps136 rfl fun cx hnt hn0=>?_
       ·skip
        refine dw_seq ?_;refine dwk [] TLB_ok hnt fun _ z9=>z9 _ _ ?_;refine dw_seq ?_;refine dw_block ?_;refine dw_seq ?_;refine dwk [(8,.v (.bool false)),(14,.v (.bool false))] TLB_ok hnt fun K hK=>?_;refine dcl (l1) ?_;refine And.intro auF ?_;refine dcl (l2) ?_;refine And.intro auF ?_;refine hK _ _ ?_;clear hK K;refine dw_cond (t:=false) rfl ?_;rw[if_neg (by simp)]
        refine dw_seq ?_;refine dwk [(23,.sl 4 [[.sl 2 (eTys L.binds) none,.v (.int .i64 L.kind),.v (.int .i64 L.index),.sl 4 (eTms L.args) none],[.sl 2 (eTys R.binds) none,.v (.int .i64 R.kind),.v (.int .i64 R.index),.sl 4 (eTms R.args) none]] none)] TLB_ok hnt fun K hK=>?_;refine And.intro (VLe.untag _ _ _) ?_;refine dcl (hm) ?_;refine dcl (hc) ?_;refine hK _ _ ?_;clear hK K;refine dw_cond (t:=false) rfl ?_
        rw[if_neg (by simp)];refine dw_seq ?_;refine dwk [(31,.v (.bool false))] TLB_ok hnt fun K hK=>?_;refine And.intro (by first | exact dfalse (by rw[eTys_len];omega) | exact VLe.of_eq (by rw[eTys_len];omega)) ?_;refine dcl (r1) ?_;refine dcl (r2) ?_;refine hK _ _ ?_;clear hK K;refine dw_cond (t:=true) rfl ?_;rw[if_pos rfl];refine dw_seq ?_;refine dwk [] TLB_ok hnt fun K hK=>?_
        refine hK _ _ ?_;clear hK K;refine dw_ret ?_
        exact reta rfl
      | true=>
       rw[hr2] at r2
       simp only[Bool.not_true,Bool.or_false,Bool.false_eq_true,if_false]
       refine calldw 0 46 [ResultVar.tmp 2] TLB_ok Tryz.func136 rfl Tryz.ntmps136 rfl fun cx hnt hn0=>?_
       ·skip
        refine dw_seq ?_;refine dwk [] TLB_ok hnt fun _ z9=>z9 _ _ ?_;refine dw_seq ?_;refine dw_block ?_;refine dw_seq ?_;refine dwk [(8,.v (.bool false)),(14,.v (.bool false))] TLB_ok hnt fun K hK=>?_;refine dcl (l1) ?_;refine And.intro auF ?_;refine dcl (l2) ?_;refine And.intro auF ?_;refine hK _ _ ?_;clear hK K;refine dw_cond (t:=false) rfl ?_;rw[if_neg (by simp)]
        refine dw_seq ?_;refine dwk [(23,.sl 4 [[.sl 2 (eTys L.binds) none,.v (.int .i64 L.kind),.v (.int .i64 L.index),.sl 4 (eTms L.args) none],[.sl 2 (eTys R.binds) none,.v (.int .i64 R.kind),.v (.int .i64 R.index),.sl 4 (eTms R.args) none]] none)] TLB_ok hnt fun K hK=>?_;refine And.intro (VLe.untag _ _ _) ?_;refine dcl (hm) ?_;refine dcl (hc) ?_;refine hK _ _ ?_;clear hK K;refine dw_cond (t:=false) rfl ?_
        rw[if_neg (by simp)];refine dw_seq ?_;refine dwk [(31,.v (.bool false))] TLB_ok hnt fun K hK=>?_;refine And.intro (by first | exact dfalse (by rw[eTys_len];omega) | exact VLe.of_eq (by rw[eTys_len];omega)) ?_;refine dcl (r1) ?_;refine dcl (r2) ?_;refine hK _ _ ?_;clear hK K;refine dw_cond (t:=false) rfl ?_;rw[if_neg (by simp)];refine dw_skip ?_;refine dw_seq ?_;refine dwk [] TLB_ok hnt fun K hK=>?_
        refine hK _ _ ?_;clear hK K;refine dw_ret ?_
        exact reta rfl
/-! done -/
theorem ldone_d (L R:Tm)(M:List Ty)(hL:L.full≤4400000∧L.Fit∧(Li.rt L=true→L.full≤900000))(hR:R.full≤4400000∧R.Fit∧(Li.rt R=true→R.full≤900000))(hM:Ty.sizes M≤800000):PureC Tryz.prog 103 [.ag (ePr ⟨L,R,M⟩)] (.tu [.ag (ePr (Li.done ⟨L,R,M⟩).1),.v (.int .i64 (Li.done ⟨L,R,M⟩).2)]):=by
 have r1:=right_d L hL.1
 have r2:=right_d R hR.1
 have c1:=fun h=>copyW_d L (hL.2.2 h) hL.2.1
 have c2:=fun h=>copyW_d R (hR.2.2 h) hR.2.1
 have ha:=arrow_d (.mk [] 0) M (by rw[ty_size];simp[Ty.sizes];omega)
 rw[show decide (L.size≤5000∧L.depth≤60)=Li.rt L from rfl] at r1
 rw[show decide (R.size≤5000∧R.depth≤60)=Li.rt R from rfl] at r2
 rw[eTm_eq] at r1 r2 c1 c2
 simp only[eTy_eq,args_mk',base_mk',List.append_nil] at ha
 rw[ePr_eq]
 unfold Li.done
 dsimp only
 cases hr1:Li.rt L with
 | false=>
  rw[hr1] at r1
  simp only[Bool.false_and,Bool.false_eq_true,if_false]
  rw[ePr_z]
  refine calldw 0 27 [ResultVar.cell 2 86,ResultVar.tmp 3] TLB_ok Tryz.func103 rfl Tryz.ntmps103 rfl fun cx hnt hn0=>?_
  ·skip
   refine dw_seq ?_;refine dwk [] TLB_ok hnt fun _ z9=>z9 _ _ ?_;refine dw_seq ?_;refine dw_seq ?_;refine dwk [] TLB_ok hnt fun K hK=>?_;refine dcl (r1) ?_;refine hK _ _ ?_;clear hK K;refine dw_cond (t:=true) rfl ?_;rw[if_pos rfl];refine dw_seq ?_;refine dwk [] TLB_ok hnt fun _ z9=>z9 _ _ ?_;refine dw_ret ?_
   exact reta rfl
 | true=>
  rw[hr1] at r1
  cases hr2:Li.rt R with
  | false=>
   rw[hr2] at r2
   simp only[Bool.and_false,Bool.false_eq_true,if_false]
   rw[ePr_z]
   refine calldw 0 27 [ResultVar.cell 2 86,ResultVar.tmp 3] TLB_ok Tryz.func103 rfl Tryz.ntmps103 rfl fun cx hnt hn0=>?_
   ·skip
    refine dw_seq ?_;refine dwk [] TLB_ok hnt fun _ z9=>z9 _ _ ?_;refine dw_seq ?_;refine dw_seq ?_;refine dwk [] TLB_ok hnt fun K hK=>?_;refine dcl (r1) ?_;refine dcl (r2) ?_;refine hK _ _ ?_;clear hK K;refine dw_cond (t:=true) rfl ?_;rw[if_pos rfl];refine dw_seq ?_;refine dwk [] TLB_ok hnt fun _ z9=>z9 _ _ ?_;refine dw_ret ?_
    exact reta rfl
  | true=>
   rw[hr2] at r2
   have c1:=c1 hr1
   have c2:=c2 hr2
   simp only[Bool.and_true,if_true]
   rw[ePr_eq]
   refine calldw 0 27 [ResultVar.cell 2 86,ResultVar.tmp 3] TLB_ok Tryz.func103 rfl Tryz.ntmps103 rfl fun cx hnt hn0=>?_
   ·skip
    refine dw_seq ?_;refine dwk [] TLB_ok hnt fun _ z9=>z9 _ _ ?_;refine dw_seq ?_;refine dw_seq ?_;refine dwk [] TLB_ok hnt fun K hK=>?_;refine dcl (r1) ?_;refine dcl (r2) ?_;refine hK _ _ ?_;clear hK K;refine dw_cond (t:=false) rfl ?_;rw[if_neg (by simp)];refine dw_skip ?_;refine dw_seq ?_;refine dwkD [(21,.ag [.sl 2 (eTys []) none,.v (.int .i64 0)])] TLB_ok hnt fun K hK=>?_
    refine dcl (c1) ?_;refine dcl (c2) ?_;refine And.intro (auV) ?_;refine dcl (ha) ?_;refine hK _ _ (by kernel_rfl) ?_;clear hK K;refine dw_ret ?_
    exact reta rfl
/-! Close -/
theorem lclose_d (t:Tm)(B:List Ty)(hz:Ty.sizes B+t.full≤900000)(hf:(Li.cl t B).Fit):PureC Tryz.prog 46 [.ag (eTm t),.sl 2 (eTys B) none] (.ag (eTm (Li.cl t B))):=by
 have hfl:=full_args t
 have h1:=Ty.le_sizes B
 have h2:=Ty.le_sizes t.binds
 have hcat:=concat_d [B,t.binds] (by simp[lens];omega) (by simp)
 simp only[List.flatten_cons,List.flatten_nil,List.append_nil] at hcat
 have hc:=copyW_d (Li.cl t B) (by unfold Li.cl;rw[Tm.full_eq,Ty.sizes_append];omega) hf
 unfold Li.cl at hc ⊢
 rw[eTm_eq,eTm_eq] at *
 simp only[bindsT,kindT,indexT,argsTm] at hc ⊢
 refine calldw 0 13 [ResultVar.cell 4 41] TLB_ok Tryz.func46 rfl Tryz.ntmps46 rfl fun cx hnt hn0=>?_
 ·skip
  refine dw_seq ?_;refine dwk [] TLB_ok hnt fun _ z9=>z9 _ _ ?_;refine dw_seq ?_;refine dwk [(8,.sl 1 (eTyss [B,t.binds]) none)] TLB_ok hnt fun K hK=>?_;refine And.intro (VLe.untag _ _ _) ?_;refine dcl (hcat) ?_;refine hK _ _ ?_;clear hK K;refine dw_seq ?_;refine dwk [] TLB_ok hnt fun K hK=>?_;refine dcl (hc) ?_;refine hK _ _ ?_;clear hK K;refine dw_ret ?_
  exact reta rfl
/-! Subst -/
theorem cls_len (l:List (Int×Tm))(B:List Ty):(Li.cls l B).length=l.length:=by unfold Li.cls;rw[List.length_map]
theorem cls_snoc (l:List (Int×Tm))(B:List Ty)(k:Nat)(h:k<l.length):ePairs ((Li.cls l B).take k)++[[.v (.int .i64 l[k].1),.sl 2 (eTys (Li.cl l[k].2 B).binds) none,.v (.int .i64 (Li.cl l[k].2 B).kind),.v (.int .i64 (Li.cl l[k].2 B).index),.sl 4 (eTms (Li.cl l[k].2 B).args) none]]=ePairs ((Li.cls l B).take (k+1)):=by
 have h2:k<(Li.cls l B).length:=by rw[cls_len];exact h
 rw[List.take_add_one,List.getElem?_eq_getElem h2,Option.toList_some]
 show _=List.map ePair ((Li.cls l B).take k++[(Li.cls l B)[k]])
 rw[List.map_append]
 simp only[Li.cls,List.getElem_map]
 rfl
theorem lsubst_d (l:List (Int×Tm))(B:List Ty)(hl:l.length≤100000)(hp:∀ p∈l,Ty.sizes B+p.2.full≤80000∧(Li.cl p.2 B).Fit):PureC Tryz.prog 45 [.sl 5 (ePairs l) none,.sl 2 (eTys B) none] (.tu (if Sb.right l then [.sl 5 (if Sb.right (So.ss (Li.cls l B)) then ePairs (So.ss (Li.cls l B)) else []) none,.v (.int .i64 (if Sb.right (So.ss (Li.cls l B)) then 0 else 1))] else [.sl 5 [] none,.v (.int .i64 1)])):=by
 have hr:=sright_d l (by omega)
 have ho:=sOf_d (Li.cls l B) (by rw[cls_len];omega) (fun p hq=>by
  obtain⟨q,hq2,rfl⟩:=List.mem_map.1 hq
  refine⟨?_,(hp q hq2).2⟩
  have:=full_args q.2
  have:=(hp q hq2).1
  show (Tm.mk _ _ _ _).full≤_
  rw[Tm.full_eq,Ty.sizes_append];omega)
 have hxo:∀ f g,D.okss f g (if Sb.right (So.ss (Li.cls l B)) then ePairs (So.ss (Li.cls l B)) else [])=true:=fun f g=>by split <;> simp[ePairs_ok,D.okss]
 generalize (if Sb.right (So.ss (Li.cls l B)) then ePairs (So.ss (Li.cls l B)) else [])=x at ho hxo ⊢
 generalize (if Sb.right (So.ss (Li.cls l B)) then (0:Int) else 1)=y at ho ⊢
 cases hr0:Sb.right l with
 | false=>
  rw[hr0] at hr
  rw[if_neg (by simp)]
  refine calldw 0 33 [ResultVar.tmp 4,ResultVar.tmp 5] TLB_ok Tryz.func45 rfl Tryz.ntmps45 rfl fun cx hnt hn0=>?_
  ·skip
   refine dw_seq ?_;refine dwk [] TLB_ok hnt fun _ z9=>z9 _ _ ?_;refine dw_seq ?_;refine dw_seq ?_;refine dwk [] TLB_ok hnt fun K hK=>?_;refine dcl (hr) ?_;refine hK _ _ ?_;clear hK K;refine dw_cond (t:=true) rfl ?_;rw[if_pos rfl];refine dw_seq ?_;refine dwk [] TLB_ok hnt fun _ z9=>z9 _ _ ?_;refine dw_ret ?_
   exact reta rfl
 | true=>
  rw[hr0] at hr
  rw[if_pos rfl]
  refine call_of_dw 0 33 [ResultVar.tmp 4,ResultVar.tmp 5] TLB_ok (by kernel_rfl) Tryz.func45 rfl Tryz.ntmps45 rfl (by simp) ?dwords ?dbody
  case dwords=>simp[wordsOk,D.ok,D.oks,D.okss,rnames,inN,ckey,ePairs_ok,eTys_ok,hxo]
  case dbody=>
   intro cx hnt hn0
   refine dw_seq ?_;refine dwk [] TLB_ok hnt fun _ z9=>z9 _ _ ?_;refine dw_seq ?_;refine dw_seq ?_;refine dwk [] TLB_ok hnt fun K hK=>?_;refine dcl (hr) ?_;refine hK _ _ ?_;clear hK K;refine dw_cond (t:=false) rfl ?_;rw[if_neg (by simp)];refine dw_skip ?_;refine dw_seq ?_;refine dwk [] TLB_ok hnt fun _ z9=>z9 _ _ ?_
   refine DW.vs (VS.rowT (x:=6) (by rw[hnt];decide) 79 5 rfl) ?_
   refine dw_seq ?_;refine dw_seq ?_;refine dwk [(13,.v (.int .i64 (↑l.length)))] TLB_ok hnt fun K hK=>?_;refine And.intro (dintE (by rw[ePairs_len])) ?_;refine hK _ _ ?_;clear hK K;refine dw_block ?_
   refine dw_loop (ι:={ k:Nat // k≤l.length }) (fun k=>[(.t 1,.sl 2 (eTys B) none),(.t 12,.sl 5 (ePairs l) none),(.t 13,.v (.int .i64 ↑l.length)),(.t 14,.v (.int .i64 ↑k.1)),(.t 6,.sl 5 (ePairs ((Li.cls l B).take k.1)) (some 6)),(.r 6,.rw 79 5 k.1)]) 7 (fun k=>l.length-k.1) (⟨0,Nat.zero_le _⟩) (VS.toA) fun k=>?_
   obtain⟨k,hk⟩:=k
   dsimp only
   by_cases hlt:k<l.length
   ·have hc:=lclose_d l[k].2 B (by have:=(hp _ (List.getElem_mem hlt)).1;omega) (hp _ (List.getElem_mem hlt)).2
    rw[eTm_eq,eTm_eq] at hc
    have hsn:=cls_snoc l B k hlt
    have hcl:=cls_len l B
    have hl1:(ePairs ((Li.cls l B).take k)).length=k:=by rw[ePairs_len,List.length_take];omega
    have hl2:(ePairs ((Li.cls l B).take (k+1))).length=k+1:=by rw[ePairs_len,List.length_take];omega
    refine dw_seq ?_;refine dwk [(15,.v (.bool true))] TLB_ok hnt fun K hK=>?_;refine And.intro auT ?_;refine hK _ _ ?_;clear hK K;refine dw_seq ?_;refine dw_cond (t:=true) rfl ?_;rw[if_pos rfl];refine dw_skip ?_;refine dw_seq ?_;refine dw_block ?_;refine dw_seq ?_;refine dwk [(16,.q [.v (.int .i64 l[k].1),.sl 2 (eTys l[k].2.binds) none,.v (.int .i64 l[k].2.kind),.v (.int .i64 l[k].2.index),.sl 4 (eTms l[k].2.args) none])] TLB_ok hnt fun K hK=>?_
    refine And.intro (elo (ePairs_len l)) ?_;refine And.intro (elv (ePairs_getD l k) (ePair_eq _)) ?_;refine hK _ _ ?_;clear hK K;refine dwkD [] TLB_ok hnt fun K hK=>?_;refine dcl (hc) ?_;refine And.intro (⟨by omega,by rw[hl1];simp;omega⟩) ?_;refine hK _ _ (by kernel_rfl) ?_;clear hK K
    rw[hsn,hl2]
    refine dwk [(28,.v (.int .i64 (↑(k+1))))] TLB_ok hnt fun K hK=>?_;refine And.intro auI ?_;refine hK _ _ ?_;clear hK K
    refine⟨⟨k+1,by omega⟩,by first | omega | (dsimp only;omega),VS.toA⟩
   ·rw[List.take_of_length_le (by rw[cls_len];omega)]
    refine dw_seq ?_;refine dwk [(15,.v (.bool false))] TLB_ok hnt fun K hK=>?_;refine And.intro auF ?_;refine hK _ _ ?_;clear hK K;refine dw_seq ?_;refine dw_cond (t:=false) rfl ?_;rw[if_neg (by simp)];refine dw_exit ?_;refine dw_seq ?_;refine dwk [(29,.sl 5 (ePairs (Li.cls l B)) none)] TLB_ok hnt fun K hK=>?_;refine And.intro (VLe.untag _ _ _) ?_;refine dcl (ho) ?_;refine hK _ _ ?_;clear hK K
    refine dw_ret ?_
    exact reta rfl
/-! Over, Closed -/
theorem arrs_snoc (B:List Ty)(M:List Ty)(j:Nat)(h:j<M.length):eTys ((M.map (Li.arr B)).take j)++[[.sl 2 (eTys (Li.arr B M[j]).args) none,.v (.int .i64 (Li.arr B M[j]).base)]]=eTys ((M.map (Li.arr B)).take (j+1)):=by
 have h2:j<(M.map (Li.arr B)).length:=by rw[List.length_map];exact h
 rw[←eTys_snoc _ j h2,List.getElem_map]
set_option maxHeartbeats 1000000 in
theorem lover_d (L R:Tm)(M B:List Ty)(hL:L.full≤90000∧L.Fit)(hR:R.full≤90000∧R.Fit)(hM:∀ m∈M,Ty.sizes B+m.size≤900000)(hMl:M.length≤900000)(hB:∀ b∈B,b.size≤1000) 
  (hu:Li.may L R M B=0→((Li.lif B L 0).full≤4400000∧(Li.lif B L 0).Fit∧(Li.rt (Li.lif B L 0)=true→(Li.lif B L 0).full≤900000))∧((Li.lif B R 0).full≤4400000∧(Li.lif B R 0).Fit∧(Li.rt (Li.lif B R 0)=true→(Li.lif B R 0).full≤900000))∧Ty.sizes (M.map (Li.arr B))≤800000):PureC Tryz.prog 102 [.ag (ePr ⟨L,R,M⟩),.sl 2 (eTys B) none] (.tu [.ag (ePr (Li.over ⟨L,R,M⟩ B).1),.v (.int .i64 (Li.over ⟨L,R,M⟩ B).2)]):=by
 have hm:=lmay_d L R M B hL hR hMl
 unfold Li.over
 dsimp only
 rw[ePr_eq]
 by_cases h0:Li.may L R M B=0
 ·obtain⟨u1,u2,u3⟩:=hu h0
  rw[h0] at hm
  rw[if_neg (fun h=>h h0)]
  have hbl:B.length≤900:=by
   unfold Li.may at h0
   split at h0
   ·cases h0
   ·split at h0
    ·cases h0
    ·split at h0
     ·cases h0
     ·rename_i hn
      simp only[Bool.or_eq_true,not_or,decide_eq_true_eq] at hn
      omega
  have t1:=lterm_d L R M B L hbl hB (by omega)
  have t2:=lterm_d L R M B R hbl hB (by omega)
  have hd:=ldone_d (Li.lif B L 0) (Li.lif B R 0) (M.map (Li.arr B)) u1 u2 u3
  unfold Li.up
  dsimp only
  have hwl:(M.map (Li.arr B)).length=M.length:=List.length_map ..
  have hwg:=arrs_snoc B M
  generalize Li.lif B L 0=L' at t1 hd ⊢
  generalize Li.lif B R 0=R' at t2 hd ⊢
  generalize M.map (Li.arr B)=W at hd hwl hwg ⊢
  generalize hz:Li.done ⟨L',R',W⟩=z at hd ⊢
  obtain⟨⟨zl,zr,zm⟩,ze⟩:=z
  rw[eTm_eq,eTm_eq] at t1 t2
  dsimp only at hd ⊢
  rw[ePr_eq,ePr_eq] at hd
  rw[ePr_eq]
  refine calldw 0 49 [ResultVar.cell 4 86,ResultVar.tmp 5] TLB_ok Tryz.func102 rfl Tryz.ntmps102 rfl fun cx hnt hn0=>?_
  ·skip
   refine dw_seq ?_;refine dwk [] TLB_ok hnt fun _ z9=>z9 _ _ ?_;refine dw_seq ?_;refine dwk [] TLB_ok hnt fun _ z9=>z9 _ _ ?_;refine dw_seq ?_;refine dw_seq ?_;refine dwk [] TLB_ok hnt fun K hK=>?_;refine dcl (hm) ?_;refine hK _ _ ?_;clear hK K;refine dw_seq ?_;refine dwk [] TLB_ok hnt fun _ z9=>z9 _ _ ?_;refine dw_cond (t:=false) rfl ?_
   rw[if_neg (by simp)];refine dw_skip ?_;refine dw_seq ?_;refine dwkD [] TLB_ok hnt fun K hK=>?_;refine dcl (t1) ?_;refine dcl (t2) ?_;refine hK _ _ (by kernel_rfl) ?_;clear hK K
   refine DW.vs (VS.row (k:=22) (off:=8) 44 2 rfl) ?_
   refine dw_seq ?_;refine dw_seq ?_;refine dwk [(31,.v (.int .i64 (↑M.length)))] TLB_ok hnt fun K hK=>?_;refine And.intro (dintE (by rw[eTys_len])) ?_;refine hK _ _ ?_;clear hK K;refine dw_block ?_
   refine dw_loop (ι:={ j:Nat // j≤M.length }) (fun j=>[(.t 1,.sl 2 (eTys B) none),(.t 4,.p 1 0),(.t 8,.p 22 0),(.t 30,.sl 2 (eTys M) none),(.t 31,.v (.int .i64 ↑M.length)),(.t 32,.v (.int .i64 ↑j.1)),(.c 1 0,.v (.slice none 0 0)),(.c 1 1,.v (.int .i64 0)),(.c 1 2,.v (.int .i64 0)),(.c 1 3,.v (.slice none 0 0)),(.c 1 4,.v (.slice none 0 0)),(.c 1 5,.v (.int .i64 0)),(.c 1 6,.v (.int .i64 0)),(.c 1 7,.v (.slice none 0 0)),(.c 1 8,.v (.slice none 0 0)),(.c 22 0,.sl 2 (eTys L'.binds) none),(.c 22 1,.v (.int .i64 L'.kind)),(.c 22 2,.v (.int .i64 L'.index)),(.c 22 3,.sl 4 (eTms L'.args) none),(.c 22 4,.sl 2 (eTys R'.binds) none),(.c 22 5,.v (.int .i64 R'.kind)),(.c 22 6,.v (.int .i64 R'.index)),(.c 22 7,.sl 4 (eTms R'.args) none),(.c 22 8,.sl 2 (eTys (W.take j.1)) (some 24)),(.r 24,.rw 44 2 j.1)]) 25 (fun j=>M.length-j.1) (⟨0,Nat.zero_le _⟩) (VS.toA) fun j=>?_
   obtain⟨j,hj⟩:=j
   dsimp only
   by_cases hlt:j<M.length
   ·have hc:=arrow_d M[j] B (hM _ (List.getElem_mem hlt))
    have hsn:=hwg j hlt
    rw[show Ty.mk (B++M[j].args) M[j].base=Li.arr B M[j] from rfl,eTy_eq,eTy_eq] at hc
    have hl1:(eTys (W.take j)).length=j:=by rw[eTys_len,List.length_take];omega
    have hl2:(eTys (W.take (j+1))).length=j+1:=by rw[eTys_len,List.length_take];omega
    refine dw_seq ?_;refine dwk [(33,.v (.bool true))] TLB_ok hnt fun K hK=>?_;refine And.intro auT ?_;refine hK _ _ ?_;clear hK K;refine dw_seq ?_;refine dw_cond (t:=true) rfl ?_;rw[if_pos rfl];refine dw_skip ?_;refine dw_seq ?_;refine dw_block ?_;refine dw_seq ?_;refine dwk [(34,.q [.sl 2 (eTys M[j].args) none,.v (.int .i64 M[j].base)])] TLB_ok hnt fun K hK=>?_;refine And.intro (elo (eTys_len M)) ?_
    refine And.intro (elv (eTys_getD M j) (eTy_eq _)) ?_;refine hK _ _ ?_;clear hK K;refine dwkD [] TLB_ok hnt fun K hK=>?_;refine dcl (hc) ?_;refine And.intro (⟨by omega,by rw[hl1];simp;omega⟩) ?_;refine hK _ _ (by kernel_rfl) ?_;clear hK K
    rw[hsn,hl2]
    refine dwk [(44,.v (.int .i64 (↑(j+1))))] TLB_ok hnt fun K hK=>?_;refine And.intro auI ?_;refine hK _ _ ?_;clear hK K
    refine⟨⟨j+1,hlt⟩,by first | omega | (dsimp only;omega),VS.toA⟩
   ·rw[List.take_of_length_le (by omega)]
    refine dw_seq ?_;refine dwk [(33,.v (.bool false))] TLB_ok hnt fun K hK=>?_;refine And.intro auF ?_;refine hK _ _ ?_;clear hK K;refine dw_seq ?_;refine dw_cond (t:=false) rfl ?_;rw[if_neg (by simp)];refine dw_exit ?_;refine dw_seq ?_;refine dwk [(45,.ag [.sl 2 (eTys L'.binds) none,.v (.int .i64 L'.kind),.v (.int .i64 L'.index),.sl 4 (eTms L'.args) none,.sl 2 (eTys R'.binds) none,.v (.int .i64 R'.kind),.v (.int .i64 R'.index),.sl 4 (eTms R'.args) none,.sl 2 (eTys W) none])] TLB_ok hnt fun K hK=>?_
    refine And.intro (auV) ?_;refine dcl (hd) ?_;refine hK _ _ ?_;clear hK K;refine dw_ret ?_
    exact reta rfl
 ·rw[if_pos h0,ePr_z]
  generalize Li.may L R M B=e at hm h0 ⊢
  refine calldw 0 49 [ResultVar.cell 4 86,ResultVar.tmp 5] TLB_ok Tryz.func102 rfl Tryz.ntmps102 rfl fun cx hnt hn0=>?_
  ·skip
   refine dw_seq ?_;refine dwk [] TLB_ok hnt fun _ z9=>z9 _ _ ?_;refine dw_seq ?_;refine dwk [] TLB_ok hnt fun _ z9=>z9 _ _ ?_;refine dw_seq ?_;refine dw_seq ?_;refine dwk [] TLB_ok hnt fun K hK=>?_;refine dcl (hm) ?_;refine hK _ _ ?_;clear hK K;refine dw_seq ?_;refine dwk [(17,.v (.bool true))] TLB_ok hnt fun K hK=>?_;refine And.intro (bneT h0) ?_
   refine hK _ _ ?_;clear hK K;refine dw_cond (t:=true) rfl ?_;rw[if_pos rfl];refine dw_seq ?_;refine dwk [] TLB_ok hnt fun _ z9=>z9 _ _ ?_;refine dw_ret ?_
   exact reta rfl
set_option maxHeartbeats 1000000 in
theorem lclosed_d (L R:Tm)(M B:List Ty)(hL:L.full≤90000∧L.Fit)(hR:R.full≤90000∧R.Fit)(hM:∀ m∈M,Ty.sizes B+m.size≤900000)(hMl:M.length≤900000)(hB:∀ b∈B,b.size≤1000) 
  (hu:Li.may L R M B=0→((Li.lif B L 0).full≤4400000∧(Li.lif B L 0).Fit∧(Li.rt (Li.lif B L 0)=true→(Li.lif B L 0).full≤900000))∧((Li.lif B R 0).full≤4400000∧(Li.lif B R 0).Fit∧(Li.rt (Li.lif B R 0)=true→(Li.lif B R 0).full≤900000))∧Ty.sizes (M.map (Li.arr B))≤800000)
  (hv:(Li.over ⟨L,R,M⟩ B).2=0→∀ p,(Li.over ⟨L,R,M⟩ B).1=p→(Ty.sizes B+p.l.full≤500000∧(Li.cl p.l B).Fit)∧(Ty.sizes B+p.r.full≤500000∧(Li.cl p.r B).Fit)∧Ty.sizes p.m≤800000):PureC Tryz.prog 44 [.ag (ePr ⟨L,R,M⟩),.sl 2 (eTys B) none] (.tu [.ag (ePr (Li.closed ⟨L,R,M⟩ B).1),.v (.int .i64 (Li.closed ⟨L,R,M⟩ B).2)]):=by
 have ho:=lover_d L R M B hL hR hM hMl hB hu
 unfold Li.closed
 generalize Li.over ⟨L,R,M⟩ B=o at ho hv ⊢
 obtain⟨⟨ol,or,om⟩,oe⟩:=o
 dsimp only at ho hv ⊢
 rw[ePr_eq,ePr_eq] at ho
 rw[ePr_eq]
 by_cases h0:oe=0
 ·obtain⟨⟨u1,u2⟩,⟨u3,u4⟩,u5⟩:=hv h0 _ rfl
  dsimp only at u1 u2 u3 u4 u5
  subst h0
  rw[if_neg (by simp)]
  have c1:=lclose_d ol B (by omega) u2
  have c2:=lclose_d or B (by omega) u4
  have f1:=full_args ol
  have f2:=full_args or
  have hd:=ldone_d (Li.cl ol B) (Li.cl or B) om ⟨by unfold Li.cl;rw[Tm.full_eq,Ty.sizes_append];omega,u2,fun _=>by unfold Li.cl;rw[Tm.full_eq,Ty.sizes_append];omega⟩ ⟨by unfold Li.cl;rw[Tm.full_eq,Ty.sizes_append];omega,u4,fun _=>by unfold Li.cl;rw[Tm.full_eq,Ty.sizes_append];omega⟩ u5
  unfold Li.clP
  dsimp only
  generalize Li.cl ol B=L' at c1 hd ⊢
  generalize Li.cl or B=R' at c2 hd ⊢
  generalize Li.done ⟨L',R',om⟩=z at hd ⊢
  obtain⟨⟨zl,zr,zm⟩,ze⟩:=z
  rw[eTm_eq,eTm_eq] at c1 c2
  dsimp only at hd ⊢
  rw[ePr_eq,ePr_eq] at hd
  rw[ePr_eq]
  refine calldw 0 32 [ResultVar.cell 4 86,ResultVar.tmp 5] TLB_ok Tryz.func44 rfl Tryz.ntmps44 rfl fun cx hnt hn0=>?_
  ·skip
   refine dw_seq ?_;refine dwk [] TLB_ok hnt fun _ z9=>z9 _ _ ?_;refine dw_seq ?_;refine dwk [] TLB_ok hnt fun K hK=>?_;refine dcl (ho) ?_;refine hK _ _ ?_;clear hK K;refine dw_seq ?_;refine dw_seq ?_;refine dwk [] TLB_ok hnt fun _ z9=>z9 _ _ ?_;refine dw_cond (t:=false) rfl ?_;rw[if_neg (by simp)];refine dw_skip ?_;refine dw_seq ?_;refine dwkD [] TLB_ok hnt fun K hK=>?_
   refine dcl (c1) ?_;refine dcl (c2) ?_;refine hK _ _ (by kernel_rfl) ?_;clear hK K;refine dw_seq ?_;refine dwk [] TLB_ok hnt fun K hK=>?_;refine dcl (hd) ?_;refine hK _ _ ?_;clear hK K;refine dw_ret ?_
   exact reta rfl
 ·rw[if_pos h0,ePr_z]
  refine calldw 0 32 [ResultVar.cell 4 86,ResultVar.tmp 5] TLB_ok Tryz.func44 rfl Tryz.ntmps44 rfl fun cx hnt hn0=>?_
  ·skip
   refine dw_seq ?_;refine dwk [] TLB_ok hnt fun _ z9=>z9 _ _ ?_;refine dw_seq ?_;refine dwk [] TLB_ok hnt fun K hK=>?_;refine dcl (ho) ?_;refine hK _ _ ?_;clear hK K;refine dw_seq ?_;refine dw_seq ?_;refine dwk [(15,.v (.bool true))] TLB_ok hnt fun K hK=>?_;refine And.intro (bneT h0) ?_;refine hK _ _ ?_;clear hK K;refine dw_cond (t:=true) rfl ?_;rw[if_pos rfl]
   refine dw_seq ?_;refine dwk [] TLB_ok hnt fun _ z9=>z9 _ _ ?_;refine dw_ret ?_
   exact reta rfl
/-! the examples -/
def mb (i:Int):Tm:=.mk [] 0 i []
def mc (i:Int)(l:List Tm):Tm:=.mk [] 1 i l
theorem fit_mk {b:List Ty}{k i:Int}{a:List Tm}(h1:-1000≤i)(h2:i≤1000)(h:∀ t∈a,t.Fit):(Tm.mk b k i a).Fit:=Tm.fit_iff.2 ⟨by omega,by omega,h⟩
theorem fit0 (k i:Int)(h1:-1000≤i)(h2:i≤1000)(b:List Ty):(Tm.mk b k i []).Fit:=fit_mk h1 h2 nofun
theorem fit1 {k i:Int}{b:List Ty}{t:Tm}(h1:-1000≤i)(h2:i≤1000)(h:t.Fit):(Tm.mk b k i [t]).Fit:=fit_mk h1 h2 fun u hu=>by rw[List.mem_singleton] at hu;subst hu;exact h
theorem ePairs_take (l:List (Int×Tm))(j:Nat)(h:j<l.length):ePairs (l.take (j+1))=ePairs (l.take j)++[ePair l[j]]:=by
 unfold ePairs;rw[List.take_succ_eq_append_getElem h,List.map_append];rfl
def TL10_3:TI:=⟨1,false,[Value.int IntKind.i64 0],[],none,8,2,none,false⟩
theorem TL10_3_ok:TypOk Tryz.prog 3 TL10_3:=by constructor <;> kernel_rfl
def TL10_67:TI:=⟨1,false,[Value.slice none 0 0],[],some 156,24,5,none,false⟩
theorem TL10_67_ok:TypOk Tryz.prog 67 TL10_67:=by constructor <;> kernel_rfl
def TL10_156:TI:=⟨5,true,[Value.int IntKind.i64 0,Value.slice none 0 0,Value.int IntKind.i64 0,Value.int IntKind.i64 0,Value.slice none 0 0],[(0,1,false),(1,4,true)],none,72,6,none,false⟩
theorem TL10_156_ok:TypOk Tryz.prog 156 TL10_156:=by constructor <;> kernel_rfl
def TL10_29:TI:=⟨4,true,[Value.slice none 0 0,Value.int IntKind.i64 0,Value.int IntKind.i64 0,Value.slice none 0 0],[(0,1,false),(1,2,true),(3,1,false)],none,64,6,none,false⟩
theorem TL10_29_ok:TypOk Tryz.prog 29 TL10_29:=by constructor <;> kernel_rfl
def TL10_27:TI:=⟨1,false,[Value.slice none 0 0],[],some 29,24,5,none,false⟩
theorem TL10_27_ok:TypOk Tryz.prog 27 TL10_27:=by constructor <;> kernel_rfl
def TL10_51:TI:=⟨1,false,[Value.slice none 0 0],[],some 79,24,5,none,false⟩
theorem TL10_51_ok:TypOk Tryz.prog 51 TL10_51:=by constructor <;> kernel_rfl
def TL10_79:TI:=⟨5,true,[Value.int IntKind.i64 0,Value.slice none 0 0,Value.int IntKind.i64 0,Value.int IntKind.i64 0,Value.slice none 0 0],[(0,1,false),(1,4,true)],none,72,6,none,false⟩
theorem TL10_79_ok:TypOk Tryz.prog 79 TL10_79:=by constructor <;> kernel_rfl
def TL10:List (Nat×TI):=[(3,TL10_3),(67,TL10_67),(156,TL10_156),(29,TL10_29),(27,TL10_27),(51,TL10_51),(79,TL10_79)]
theorem TL10_ok:TabOk Tryz.prog TL10:=((((((((TabOk.nil _).cons TL10_79_ok).cons TL10_51_ok).cons TL10_27_ok).cons TL10_29_ok).cons TL10_156_ok).cons TL10_67_ok).cons TL10_3_ok)
theorem to6_d (t:Tm)(h:t.full≤900000):PureC Tryz.prog 13 [.ag (eTm t)] (.ag (eTm t)):=to6D_d t h
set_option maxHeartbeats 1000000 in
theorem to9_d (l:List (Int×Tm))(hl:l.length≤9223372036854775807)(hf:∀ p∈l.take 10,p.2.full≤900000):PureC Tryz.prog 27 [.sl 5 (ePairs l) none] (.sl 5 (ePairs (l.take 10)) none):=by
 refine call_of_dw 0 31 [ResultVar.tmp 2] TL10_ok (by kernel_rfl) Tryz.func27 rfl Tryz.ntmps27 rfl (by simp) ?dwords ?dbody
 case dwords=>simp[wordsOk,D.ok,D.oks,rnames,ePairs_ok]
 case dbody=>
  intro cx hnt hn0
  refine dw_seq ?_;refine dwk [] TL10_ok hnt fun _ z9=>z9 _ _ ?_;refine dw_seq ?_;refine dwk [] TL10_ok hnt fun _ z9=>z9 _ _ ?_;refine dw_seq (dw_seq ?_);refine dwk [] TL10_ok hnt fun _ z9=>z9 _ _ ?_;refine dw_block ?_
  refine dw_loop (ι:={ j:Nat // j≤10 }) (fun j=>(.t 0,.sl 5 (ePairs l) none) :: (.t 4,.v (.int .i64 (j.1:Int))) :: (.t 3,.sl 5 (ePairs (l.take j.1)) (some 3)) :: (.r 3,.rw 79 5 (l.take j.1).length) :: []) 4 (fun j=>l.length-j.1) ⟨0,by decide⟩ (VS.trans (VS.rowT (x:=3) (by rw[hnt];decide) 79 5 rfl) VS.toA) fun j=>?_
  obtain⟨j,hj⟩:=j
  dsimp only
  refine dw_seq (dw_seq ?_)
  have end_:¬ (j<l.length∧j<10)→l.take j=l.take 10:=fun h=>by
   by_cases h1:j<10
   ·have:l.length≤j:=by omega
    rw[List.take_of_length_le this,List.take_of_length_le (by omega)]
   ·rw[show j=10 by omega]
  by_cases hlt:j<l.length
  ·by_cases h10:j<10
   ·have hjt:l[j]∈l.take 10:=by
     have:j<(l.take 10).length:=by rw[List.length_take];omega
     have h2:(l.take 10)[j]=l[j]:=by simp
     rw[←h2];exact List.getElem_mem this
    have ho:=to6_d l[j].2 (hf _ hjt)
    rw[eTm_eq] at ho
    have hq:(ePairs l).getD (j:Int).toNat []=[.v (.int .i64 l[j].1),.sl 2 (eTys l[j].2.binds) none,.v (.int .i64 l[j].2.kind),.v (.int .i64 l[j].2.index),.sl 4 (eTms l[j].2.args) none]:=by rw[Int.toNat_natCast,ePairs_getD l j hlt,ePair_eq]
    have hb:(0:Int)≤(j:Int)∧(j:Int)<((ePairs l).length:Int):=⟨by omega,by rw[ePairs_len];omega⟩
    refine dwk [(8,.v (.bool true)),(11,.v (.bool true))] TL10_ok hnt fun K hK=>?_;refine And.intro (dtrue (by rw[ePairs_len];omega)) ?_;refine And.intro (dtrue (by omega)) ?_;refine hK _ _ ?_;clear hK K;refine dw_cond (t:=true) rfl ?_;rw[if_pos rfl];refine dw_skip ?_;refine dw_seq (dw_block ?_);refine dwkD [(18,.q [.v (.int .i64 l[j].1),.sl 2 (eTys l[j].2.binds) none,.v (.int .i64 l[j].2.kind),.v (.int .i64 l[j].2.index),.sl 4 (eTms l[j].2.args) none]),(23,.q [.v (.int .i64 l[j].1),.sl 2 (eTys l[j].2.binds) none,.v (.int .i64 l[j].2.kind),.v (.int .i64 l[j].2.index),.sl 4 (eTms l[j].2.args) none]),(29,.sl 5 (ePairs (l.take (j+1))) (some 3))] TL10_ok hnt fun K hK=>?_
    refine And.intro (hb) ?_;refine And.intro (VLe.of_eq (by rw[hq])) ?_;refine And.intro (hb) ?_;refine And.intro (VLe.of_eq (by rw[hq])) ?_;refine dcl (ho) ?_;refine And.intro (⟨by rw[ePairs_len],by rw[ePairs_len,List.length_take];simp;omega⟩) ?_;refine And.intro (VLe.of_eq (by rw[ePairs_take l j hlt,ePair_eq])) ?_;refine hK _ _ (by kernel_rfl) ?_;clear hK K;refine dwk [(14,.v (.int .i64 ((j+1:Nat):Int)))] TL10_ok hnt fun K hK=>?_
    refine And.intro (dintE (by rw[IntWalk.i64_in _ (by omega)];omega)) ?_;refine hK _ _ ?_;clear hK K
    have hl2:(l.take (j+1)).length=j+1:=by rw[List.length_take];omega
    have hl3:(ePairs (l.take j)).length=j:=by rw[ePairs_len,List.length_take];omega
    refine⟨⟨j+1,by omega⟩,by dsimp only;omega,?_⟩
    rw[hl2]
    exact(by try simp only[List.length_append,List.length_take,List.length_cons,List.length_nil,Nat.zero_add,hl3];exact VS.toA)
   ·skip
    refine dwk [(8,.v (.bool true)),(11,.v (.bool false))] TL10_ok hnt fun K hK=>?_;refine And.intro (dtrue (by rw[ePairs_len];omega)) ?_;refine And.intro (dfalse (by omega)) ?_;refine hK _ _ ?_;clear hK K;refine dw_cond (t:=false) rfl ?_;rw[if_neg (by simp)];refine dw_exit ?_;refine dw_seq ?_
    rw[end_ (fun h=>h10 h.2)]
    refine dwk [] TL10_ok hnt fun _ z9=>z9 _ _ ?_;refine dw_ret ?_
    exact retv (N:=0) (.inr rfl) rfl (by repeat first | exact VLe.refl _ | exact VLe.nil _ | exact VLe.untag _ _ _ | refine VLe.ag ?_ | refine VLe.tu ?_ | refine VLeL.cons ?_ ?_ | exact VLeL.nil) trivial
  ·skip
   refine dwk [(8,.v (.bool false))] TL10_ok hnt fun K hK=>?_;refine And.intro (dfalse (by rw[ePairs_len];omega)) ?_;refine hK _ _ ?_;clear hK K;refine dw_cond (t:=false) rfl ?_;rw[if_neg (by simp)];refine dw_exit ?_;refine dw_seq ?_
   rw[end_ (fun h=>hlt h.1)]
   refine dwk [] TL10_ok hnt fun _ z9=>z9 _ _ ?_;refine dw_ret ?_
   exact retv (N:=0) (.inr rfl) rfl (by repeat first | exact VLe.refl _ | exact VLe.nil _ | exact VLe.untag _ _ _ | refine VLe.ag ?_ | refine VLe.tu ?_ | refine VLeL.cons ?_ ?_ | exact VLeL.nil) trivial
def few9 (l:List (Int×Tm)):Bool:=(l.take 10).all fun p=>fewB p.2&&lowB p.2
set_option maxHeartbeats 1000000 in
theorem few9_d (l:List (Int×Tm))(hl:l.length≤9223372036854775807)(hw:∀ p∈l.take 10,fewB p.2=true→Wide p.2):PureC Tryz.prog 25 [.sl 5 (ePairs l) none] (.v (.bool (few9 l))):=by
 refine call_of_dw 0 32 [ResultVar.tmp 2] TL10_ok (by kernel_rfl) Tryz.func25 rfl Tryz.ntmps25 rfl (by simp) ?dwords ?dbody
 case dwords=>simp[wordsOk,D.ok,D.oks,rnames,ePairs_ok]
 case dbody=>
  intro cx hnt hn0
  refine dw_seq ?_;refine dwk [] TL10_ok hnt fun _ z9=>z9 _ _ ?_;refine dw_seq (dw_seq ?_);refine dwk [] TL10_ok hnt fun _ z9=>z9 _ _ ?_;refine dw_block ?_
  refine dw_loop (ι:={ j:Nat // j≤10∧∀ i (h:i<l.length),i<j→(fewB l[i].2&&lowB l[i].2)=true }) (fun j=>[(.t 0,.sl 5 (ePairs l) none),(.t 3,.v (.int .i64 (j.1:Int)))]) 1 (fun j=>l.length-j.1) ⟨0,by decide,fun i h1 h2=>by omega⟩ VS.toA fun j=>?_
  obtain⟨j,hj10,hj⟩:=j
  dsimp only
  refine dw_seq (dw_seq ?_)
  have end_:¬ (j<l.length∧j<10)→few9 l=true:=fun h=>by
   unfold few9
   rw[List.all_eq_true]
   intro p hp
   obtain⟨i,hi,rfl⟩:=List.getElem_of_mem hp
   rw[List.length_take] at hi
   have:=hj i (by omega) (by omega)
   simpa using this
  by_cases hlt:j<l.length
  ·by_cases h10:j<10
   ·have hjt:l[j]∈l.take 10:=by
     have:j<(l.take 10).length:=by rw[List.length_take];omega
     have h2:(l.take 10)[j]=l[j]:=by simp
     rw[←h2];exact List.getElem_mem this
    have hF:=lawFew_d [l[j].2] (by simp)
    have hq:(ePairs l).getD (j:Int).toNat []=[.v (.int .i64 l[j].1),.sl 2 (eTys l[j].2.binds) none,.v (.int .i64 l[j].2.kind),.v (.int .i64 l[j].2.index),.sl 4 (eTms l[j].2.args) none]:=by rw[Int.toNat_natCast,ePairs_getD l j hlt,ePair_eq]
    have hb:(0:Int)≤(j:Int)∧(j:Int)<((ePairs l).length:Int):=⟨by omega,by rw[ePairs_len];omega⟩
    have hs:∀ g,VLe (.sl 4 [[.sl 2 (eTys l[j].2.binds) none,.v (.int .i64 l[j].2.kind),.v (.int .i64 l[j].2.index),.sl 4 (eTms l[j].2.args) none]] g) (.sl 4 (eTms [l[j].2]) none):=fun g=>by
     rw[eTms,eTms,eTm_eq];exact VLe.untag _ _ _
    refine dwk [(7,.v (.bool true)),(10,.v (.bool true))] TL10_ok hnt fun K hK=>?_;refine And.intro (dtrue (by rw[ePairs_len];omega)) ?_;refine And.intro (dtrue (by omega)) ?_;refine hK _ _ ?_;clear hK K;refine dw_cond (t:=true) rfl ?_;rw[if_pos rfl];refine dw_skip ?_;refine dw_seq (dw_block (dw_seq ?_))
    cases hf:fewB l[j].2 with
    | false=>
     have hn:few9 l=false:=by
      unfold few9;rw[List.all_eq_false];exact⟨l[j],hjt,by rw[hf];simp⟩
     rw[hn]
     simp only[List.all_cons,List.all_nil,Bool.and_true,hf] at hF
     refine dwk [(16,.q [.v (.int .i64 l[j].1),.sl 2 (eTys l[j].2.binds) none,.v (.int .i64 l[j].2.kind),.v (.int .i64 l[j].2.index),.sl 4 (eTms l[j].2.args) none]),(19,.sl 4 (eTms [l[j].2]) none)] TL10_ok hnt fun K hK=>?_;refine And.intro (hb) ?_;refine And.intro (VLe.of_eq (by rw[hq])) ?_;refine And.intro (hs _) ?_;refine dcl (hF) ?_;refine hK _ _ ?_;clear hK K;refine dw_cond (t:=true) rfl ?_
     rw[if_pos rfl];refine dw_seq ?_;refine dwk [] TL10_ok hnt fun _ z9=>z9 _ _ ?_;refine dw_ret ?_
     exact retv (N:=0) (.inr rfl) rfl (VLe.refl _) trivial
    | true=>
     have hL:=low_d [l[j].2] (by simp) (fun t ht=>by simp at ht;subst ht;exact hw _ hjt hf)
     simp only[List.all_cons,List.all_nil,Bool.and_true,hf] at hF
     simp only[lowsB,Bool.and_true] at hL
     cases hlo:lowB l[j].2 with
     | false=>
      have hn:few9 l=false:=by
       unfold few9;rw[List.all_eq_false];exact⟨l[j],hjt,by rw[hlo];simp⟩
      rw[hn]
      rw[hlo] at hL
      refine dwk [(16,.q [.v (.int .i64 l[j].1),.sl 2 (eTys l[j].2.binds) none,.v (.int .i64 l[j].2.kind),.v (.int .i64 l[j].2.index),.sl 4 (eTms l[j].2.args) none]),(19,.sl 4 (eTms [l[j].2]) none),(25,.q [.v (.int .i64 l[j].1),.sl 2 (eTys l[j].2.binds) none,.v (.int .i64 l[j].2.kind),.v (.int .i64 l[j].2.index),.sl 4 (eTms l[j].2.args) none]),(28,.sl 4 (eTms [l[j].2]) none)] TL10_ok hnt fun K hK=>?_
      refine And.intro (hb) ?_;refine And.intro (VLe.of_eq (by rw[hq])) ?_;refine And.intro (hs _) ?_;refine dcl (hF) ?_;refine And.intro (hb) ?_;refine And.intro (VLe.of_eq (by rw[hq])) ?_;refine And.intro (hs _) ?_;refine dcl (hL) ?_;refine hK _ _ ?_;clear hK K;refine dw_cond (t:=true) rfl ?_;rw[if_pos rfl];refine dw_seq ?_;refine dwk [] TL10_ok hnt fun _ z9=>z9 _ _ ?_
      refine dw_ret ?_
      exact retv (N:=0) (.inr rfl) rfl (VLe.refl _) trivial
     | true=>
      rw[hlo] at hL
      refine dwk [(16,.q [.v (.int .i64 l[j].1),.sl 2 (eTys l[j].2.binds) none,.v (.int .i64 l[j].2.kind),.v (.int .i64 l[j].2.index),.sl 4 (eTms l[j].2.args) none]),(19,.sl 4 (eTms [l[j].2]) none),(25,.q [.v (.int .i64 l[j].1),.sl 2 (eTys l[j].2.binds) none,.v (.int .i64 l[j].2.kind),.v (.int .i64 l[j].2.index),.sl 4 (eTms l[j].2.args) none]),(28,.sl 4 (eTms [l[j].2]) none)] TL10_ok hnt fun K hK=>?_
      refine And.intro (hb) ?_;refine And.intro (VLe.of_eq (by rw[hq])) ?_;refine And.intro (hs _) ?_;refine dcl (hF) ?_;refine And.intro (hb) ?_;refine And.intro (VLe.of_eq (by rw[hq])) ?_;refine And.intro (hs _) ?_;refine dcl (hL) ?_;refine hK _ _ ?_;clear hK K;refine dw_cond (t:=false) rfl ?_;rw[if_neg (by simp)];refine dw_skip ?_;refine dwk [(13,.v (.int .i64 ((j+1:Nat):Int)))] TL10_ok hnt fun K hK=>?_
      refine And.intro (dintE (by rw[IntWalk.i64_in _ (by omega)];omega)) ?_;refine hK _ _ ?_;clear hK K
      refine⟨⟨j+1,by omega,fun i h1 h2=>?_⟩,by dsimp only;omega,VS.toA⟩
      by_cases he:i=j
      ·subst he;rw[hf,hlo];rfl
      ·exact hj i h1 (by omega)
   ·rw[end_ (fun h=>h10 h.2)]
    refine dwk [(7,.v (.bool true)),(10,.v (.bool false))] TL10_ok hnt fun K hK=>?_;refine And.intro (dtrue (by rw[ePairs_len];omega)) ?_;refine And.intro (dfalse (by omega)) ?_;refine hK _ _ ?_;clear hK K;refine dw_cond (t:=false) rfl ?_;rw[if_neg (by simp)];refine dw_exit ?_;refine dw_seq ?_;refine dwk [] TL10_ok hnt fun _ z9=>z9 _ _ ?_;refine dw_ret ?_
    exact retv (N:=0) (.inr rfl) rfl (VLe.refl _) trivial
  ·rw[end_ (fun h=>hlt h.1)]
   refine dwk [(7,.v (.bool false))] TL10_ok hnt fun K hK=>?_;refine And.intro (dfalse (by rw[ePairs_len];omega)) ?_;refine hK _ _ ?_;clear hK K;refine dw_cond (t:=false) rfl ?_;rw[if_neg (by simp)];refine dw_exit ?_;refine dw_seq ?_;refine dwk [] TL10_ok hnt fun _ z9=>z9 _ _ ?_;refine dw_ret ?_
   exact retv (N:=0) (.inr rfl) rfl (VLe.refl _) trivial
def TSQ_79:TI:=⟨5,true,[Value.int IntKind.i64 0,Value.slice none 0 0,Value.int IntKind.i64 0,Value.int IntKind.i64 0,Value.slice none 0 0],[(0,1,false),(1,4,true)],none,72,6,none,false⟩
theorem TSQ_79_ok:TypOk Tryz.prog 79 TSQ_79:=by constructor <;> kernel_rfl
def TSQ_41:TI:=⟨4,true,[Value.slice none 0 0,Value.int IntKind.i64 0,Value.int IntKind.i64 0,Value.slice none 0 0],[(0,1,false),(1,2,true),(3,1,false)],none,64,6,none,false⟩
theorem TSQ_41_ok:TypOk Tryz.prog 41 TSQ_41:=by constructor <;> kernel_rfl
def TSQ_51:TI:=⟨1,false,[Value.slice none 0 0],[],some 79,24,5,none,false⟩
theorem TSQ_51_ok:TypOk Tryz.prog 51 TSQ_51:=by constructor <;> kernel_rfl
def TSQ_3:TI:=⟨1,false,[Value.int IntKind.i64 0],[],none,8,2,none,false⟩
theorem TSQ_3_ok:TypOk Tryz.prog 3 TSQ_3:=by constructor <;> kernel_rfl
def TSQ_59:TI:=⟨1,false,[Value.slice none 0 0],[],some 3,24,5,none,false⟩
theorem TSQ_59_ok:TypOk Tryz.prog 59 TSQ_59:=by constructor <;> kernel_rfl
def TSQ_174:TI:=⟨1,false,[Value.pointer none],[],none,8,4,none,false⟩
theorem TSQ_174_ok:TypOk Tryz.prog 174 TSQ_174:=by constructor <;> kernel_rfl
def TSQ_153:TI:=⟨1,false,[Value.nilFunc],[],none,8,8,none,false⟩
theorem TSQ_153_ok:TypOk Tryz.prog 153 TSQ_153:=by constructor <;> kernel_rfl
def TSQ:List (Nat×TI):=[(79,TSQ_79),(41,TSQ_41),(51,TSQ_51),(3,TSQ_3),(59,TSQ_59),(174,TSQ_174),(153,TSQ_153)]
theorem TSQ_ok:TabOk Tryz.prog TSQ:=((((((((TabOk.nil _).cons TSQ_153_ok).cons TSQ_174_ok).cons TSQ_59_ok).cons TSQ_3_ok).cons TSQ_51_ok).cons TSQ_41_ok).cons TSQ_79_ok)
def getP (l:List (Int×Tm))(m:Int):Option (Int×Tm):=(idxOf m l).bind fun i=>l[i]?
def getT (l:List (Int×Tm))(m:Int):Tm×Bool:=match getP l m with
 | some p=>(p.2,true)
 | none=>(.mk [] 0 0 [],false)
theorem getP_mem {l:List (Int×Tm)}{m:Int}{p:Int×Tm}(h:getP l m=some p):p∈l:=by
 unfold getP at h
 cases hi:idxOf m l with
 | none=>rw[hi] at h;cases h
 | some i=>rw[hi] at h;exact List.mem_of_getElem? h
theorem sget_d (l:List (Int×Tm))(hl:l.length≤1000000)(ht:∀ p∈l,p.2.full≤80000∧p.2.Fit)(m:Int):PureC Tryz.prog 33 [.sl 5 (ePairs l) none,.v (.int .i64 m)] (.tu [.ag (eTm (getT l m).1),.v (.bool (getT l m).2)]):=by
 have hf:=sfind_d l hl m
 have hg:getP l m=(idxOf m l).bind fun i=>l[i]?:=rfl
 rw[←hg] at hf
 cases h:getP l m with
 | none=>
  rw[h] at hf
  have e:getT l m=(.mk [] 0 0 [],false):=by unfold getT;rw[h]
  rw[e,eTm_eq]
  dsimp only[Tm.binds,Tm.kind,Tm.index,Tm.args,eTys,eTms] at hf ⊢
  refine calldw 0 18 [ResultVar.cell 4 41,ResultVar.tmp 5] TSQ_ok Tryz.func33 rfl Tryz.ntmps33 rfl fun cx hnt hn0=>?_
  ·skip
   refine dw_seq ?_;refine dwk [] TSQ_ok hnt fun _ z9=>z9 _ _ ?_;refine dw_seq ?_;refine dwk [] TSQ_ok hnt fun K hK=>?_;refine dcl (hf) ?_;refine hK _ _ ?_;clear hK K;refine dw_seq ?_;refine dw_seq ?_;refine dwk [] TSQ_ok hnt fun _ z9=>z9 _ _ ?_;refine dw_cond (t:=true) rfl ?_;rw[if_pos rfl];refine dw_seq ?_;refine dwk [] TSQ_ok hnt fun K hK=>?_
   refine hK _ _ ?_;clear hK K;refine dw_ret ?_
   exact reta rfl
 | some p=>
  rw[h] at hf
  have e:getT l m=(p.2,true):=by unfold getT;rw[h]
  have hp:=ht p (getP_mem h)
  have hc:=copy_d p.2 hp.1 hp.2
  rw[e,eTm_eq]
  rw[eTm_eq] at hc
  dsimp only at hf ⊢
  rw[ePair_eq] at hf
  refine calldw 0 18 [ResultVar.cell 4 41,ResultVar.tmp 5] TSQ_ok Tryz.func33 rfl Tryz.ntmps33 rfl fun cx hnt hn0=>?_
  ·skip
   refine dw_seq ?_;refine dwk [] TSQ_ok hnt fun _ z9=>z9 _ _ ?_;refine dw_seq ?_;refine dwk [] TSQ_ok hnt fun K hK=>?_;refine dcl (hf) ?_;refine hK _ _ ?_;clear hK K;refine dw_seq ?_;refine dw_seq ?_;refine dwk [] TSQ_ok hnt fun _ z9=>z9 _ _ ?_;refine dw_cond (t:=false) rfl ?_;rw[if_neg (by simp)];refine dw_skip ?_;refine dw_seq ?_;refine dwk [] TSQ_ok hnt fun K hK=>?_
   refine dcl (hc) ?_;refine hK _ _ ?_;clear hK K;refine dw_ret ?_
   exact reta rfl
def TLS_41:TI:=⟨4,true,[Value.slice none 0 0,Value.int IntKind.i64 0,Value.int IntKind.i64 0,Value.slice none 0 0],[(0,1,false),(1,2,true),(3,1,false)],none,64,6,none,false⟩
theorem TLS_41_ok:TypOk Tryz.prog 41 TLS_41:=by constructor <;> kernel_rfl
def TLS_86:TI:=⟨9,true,[Value.slice none 0 0,Value.int IntKind.i64 0,Value.int IntKind.i64 0,Value.slice none 0 0,Value.slice none 0 0,Value.int IntKind.i64 0,Value.int IntKind.i64 0,Value.slice none 0 0,Value.slice none 0 0],[(0,4,true),(4,4,true),(8,1,false)],none,152,6,none,false⟩
theorem TLS_86_ok:TypOk Tryz.prog 86 TLS_86:=by constructor <;> kernel_rfl
def TLS_33:TI:=⟨1,false,[Value.slice none 0 0],[],some 44,24,5,none,false⟩
theorem TLS_33_ok:TypOk Tryz.prog 33 TLS_33:=by constructor <;> kernel_rfl
def TLS_39:TI:=⟨1,false,[Value.slice none 0 0],[],some 41,24,5,none,false⟩
theorem TLS_39_ok:TypOk Tryz.prog 39 TLS_39:=by constructor <;> kernel_rfl
def TLS_3:TI:=⟨1,false,[Value.int IntKind.i64 0],[],none,8,2,none,false⟩
theorem TLS_3_ok:TypOk Tryz.prog 3 TLS_3:=by constructor <;> kernel_rfl
def TLS_44:TI:=⟨2,true,[Value.slice none 0 0,Value.int IntKind.i64 0],[(0,1,false),(1,1,false)],none,32,6,none,false⟩
theorem TLS_44_ok:TypOk Tryz.prog 44 TLS_44:=by constructor <;> kernel_rfl
def TLS_38:TI:=⟨2,true,[Value.int IntKind.i64 0,Value.int IntKind.i64 0],[(0,1,false),(1,1,false)],none,16,6,none,true⟩
theorem TLS_38_ok:TypOk Tryz.prog 38 TLS_38:=by constructor <;> kernel_rfl
def TLS_45:TI:=⟨1,false,[Value.int IntKind.i64 0],[],none,8,2,none,false⟩
theorem TLS_45_ok:TypOk Tryz.prog 45 TLS_45:=by constructor <;> kernel_rfl
def TLS:List (Nat×TI):=[(41,TLS_41),(86,TLS_86),(33,TLS_33),(39,TLS_39),(3,TLS_3),(44,TLS_44),(38,TLS_38),(45,TLS_45)]
theorem TLS_ok:TabOk Tryz.prog TLS:=(((((((((TabOk.nil _).cons TLS_45_ok).cons TLS_38_ok).cons TLS_44_ok).cons TLS_3_ok).cons TLS_39_ok).cons TLS_33_ok).cons TLS_86_ok).cons TLS_41_ok)
/-! the example -/
namespace Li
def kA:Ty:=.mk [] 0
def kX:Tm:=.mk [] 2 0 []
def kC:Tm:=.mk [] 1 0 [kX]
def kB:Tm:=.mk [] 0 0 []
def kP:Pr:=⟨.mk [kA] 1 0 [.mk [] 2 0 [kB]],.mk [kA] 2 0 [kB],[.mk [kA] 0]⟩
theorem kSort:sortU [0,0]=[0]:=(sortU_twice [0]).trans (by unfold sortU;rw[List.mergeSort_singleton];rfl)
theorem kMay:may kC kX [kA] [kA]=0:=by unfold may;rw[show metasL [kC,kX]=[0,0] by decide +kernel,kSort];decide +kernel
theorem kOver:over ⟨kC,kX,[kA]⟩ [kA]=(⟨.mk [] 1 0 [.mk [] 2 0 [kB]],.mk [] 2 0 [kB],[.mk [kA] 0]⟩,0):=by unfold over;rw[if_neg (fun h=>h kMay)];kernel_rfl
theorem kClosed:closed ⟨kC,kX,[kA]⟩ [kA]=(kP,0):=by unfold closed;rw[kOver];kernel_rfl
end Li
theorem lexample_d:PureC Tryz.prog 44 [.ag [.sl 2 [] none,.v (.int .i64 1),.v (.int .i64 0),.sl 4 (eTms [Li.kX]) none,.sl 2 [] none,.v (.int .i64 2),.v (.int .i64 0),.sl 4 [] none,.sl 2 (eTys [Li.kA]) none],.sl 2 (eTys [Li.kA]) none] (.tu [.ag [.sl 2 (eTys [Li.kA]) none,.v (.int .i64 1),.v (.int .i64 0),.sl 4 (eTms [.mk [] 2 0 [Li.kB]]) none,.sl 2 (eTys [Li.kA]) none,.v (.int .i64 2),.v (.int .i64 0),.sl 4 (eTms [Li.kB]) none,.sl 2 (eTys [.mk [Li.kA] 0]) none],.v (.int .i64 0)]):=by
 have h:=lclosed_d Li.kC Li.kX [Li.kA] [Li.kA] ⟨by decide,fit1 (by decide) (by decide) (fit0 _ _ (by decide) (by decide) _)⟩ ⟨by decide,fit0 _ _ (by decide) (by decide) _⟩ (by decide) (by decide) (by decide)
  (fun _=>⟨⟨by decide,fit1 (by decide) (by decide) (fit1 (by decide) (by decide) (fit0 _ _ (by decide) (by decide) _)),fun _=>by decide⟩,⟨by decide,fit1 (by decide) (by decide) (fit0 _ _ (by decide) (by decide) _),fun _=>by decide⟩,by decide⟩)
  (fun _ p hp=>by
   rw[Li.kOver] at hp
   subst hp
   exact⟨⟨by decide,fit1 (by decide) (by decide) (fit1 (by decide) (by decide) (fit0 _ _ (by decide) (by decide) _))⟩,⟨by decide,fit1 (by decide) (by decide) (fit0 _ _ (by decide) (by decide) _)⟩,by decide⟩)
 rw[Li.kClosed] at h
 exact h
theorem kOf0_d:PureC Tryz.prog 56 [.v (.int .i64 0),.v (.slice none 0 0)] (.ag [.sl 2 [] none,.v (.int .i64 0)]):=CallC.vle (kOf_d 0 [] (by simp[Ty.sizes])) (.cons (VLe.refl _) (.cons (VLe.nil _) .nil)) (VLe.refl _)
set_option maxHeartbeats 2000000 in
theorem known22_d:PureC Tryz.prog 43 [] (.v (.bool true)):=by
 have ho:=kOf0_d
 have hc:=lexample_d
 refine calldw 0 78 [ResultVar.tmp 0] TLS_ok Tryz.func43 rfl Tryz.ntmps43 rfl fun cx hnt hn0=>?_
 ·skip
  refine dw_seq ?_;refine dwk [] TLS_ok hnt fun _ z9=>z9 _ _ ?_;refine dw_seq ?_;refine dwk [] TLS_ok hnt fun K hK=>?_;refine dcl (ho) ?_;refine hK _ _ ?_;clear hK K;refine dw_seq ?_;refine dwk [] TLS_ok hnt fun _ z9=>z9 _ _ ?_;refine dw_seq ?_;refine dwk [(10,.ag (eTm Li.kX)),(11,.sl 4 (eTms [Li.kX]) none),(14,.ag (eTy Li.kA)),(15,.sl 2 (eTys [Li.kA]) none)] TLS_ok hnt fun K hK=>?_
  refine And.intro (auV) ?_;refine And.intro (VLe.untag _ _ _) ?_;refine And.intro (auV) ?_;refine And.intro (VLe.untag _ _ _) ?_;refine hK _ _ ?_;clear hK K;refine dw_seq ?_;refine dwk [(18,.ag [.sl 2 [] none,.v (.int .i64 1),.v (.int .i64 0),.sl 4 (eTms [Li.kX]) none,.sl 2 [] none,.v (.int .i64 2),.v (.int .i64 0),.sl 4 [] none,.sl 2 (eTys [Li.kA]) none]),(19,.ag (eTy Li.kA)),(20,.sl 2 (eTys [Li.kA]) none)] TLS_ok hnt fun K hK=>?_
  refine And.intro (auV) ?_;refine And.intro (auV) ?_;refine And.intro (VLe.untag _ _ _) ?_;refine dcl (hc) ?_;refine hK _ _ ?_;clear hK K;refine dw_seq ?_;refine dwk [(25,.v (.bool true)),(29,.v (.int .i64 (1))),(30,.v (.bool true)),(35,.q [.sl 2 (eTys [Li.kA]) none,.v (.int .i64 0)]),(38,.v (.int .i64 (1))),(39,.v (.bool true)),(45,.v (.int .i64 (1))),(46,.v (.bool true)),(52,.v (.int .i64 (1))),(53,.v (.bool true)),(59,.q [.sl 2 [] none,.v (.int .i64 2),.v (.int .i64 0),.sl 4 (eTms [Li.kB]) none]),(62,.v (.int .i64 (1))),(63,.v (.bool true)),(69,.q [.sl 2 [] none,.v (.int .i64 2),.v (.int .i64 0),.sl 4 (eTms [Li.kB]) none]),(72,.q [.sl 2 [] none,.v (.int .i64 0),.v (.int .i64 0),.sl 4 [] none])] TLS_ok hnt fun K hK=>?_
  refine And.intro (VLe.refl _) ?_;refine And.intro (dintE (by rfl)) ?_;refine And.intro (VLe.refl _) ?_;refine And.intro (⟨by decide,by decide⟩) ?_;refine And.intro (VLe.of_eq rfl) ?_;refine And.intro (dintE (by rfl)) ?_;refine And.intro (VLe.refl _) ?_;refine And.intro (dintE (by rfl)) ?_;refine And.intro (VLe.refl _) ?_;refine And.intro (dintE (by rfl)) ?_;refine And.intro (VLe.refl _) ?_
  refine And.intro (⟨by decide,by decide⟩) ?_;refine And.intro (VLe.of_eq rfl) ?_;refine And.intro (dintE (by rfl)) ?_;refine And.intro (VLe.refl _) ?_;refine And.intro (⟨by decide,by decide⟩) ?_;refine And.intro (VLe.of_eq rfl) ?_;refine And.intro (⟨by decide,by decide⟩) ?_;refine And.intro (VLe.of_eq rfl) ?_;refine hK _ _ ?_;clear hK K;refine dw_ret ?_
  exact reta rfl
/-! the law -/
theorem sizes_le22 {l:List Ty}{n:Nat}(h:∀ t∈l,t.size≤n):Ty.sizes l≤l.length * n:=by
 induction l with
 | nil=>simp[Ty.sizes]
 | cons t l ih=>
  have h1:=h t (by simp)
  have h2:=ih fun u hu=>h u (by simp[hu])
  rw[Ty.sizes,List.length_cons,Nat.add_mul];omega
theorem full_etas {l:List Ty}(h:∀ t∈l,∀ k i,(Ty.eta t k i).full≤t.size * t.size):Tm.fulls (Ty.etas l)≤Ty.sizes l * Ty.sizes l:=by
 induction l with
 | nil=>simp[Ty.etas,Tm.fulls]
 | cons t l ih=>
  have h1:=h t (by simp) 0 (l.length:Nat)
  have h2:=ih fun u hu=>h u (by simp[hu])
  simp only[Ty.etas,Tm.fulls,Ty.sizes]
  have e:(t.size+Ty.sizes l) * (t.size+Ty.sizes l)=t.size * t.size+Ty.sizes l * Ty.sizes l+2 * (t.size * Ty.sizes l):=by
   rw[Nat.add_mul,Nat.mul_add,Nat.mul_add,Nat.mul_comm (Ty.sizes l) t.size];omega
  rw[e];omega
theorem full_eta (t:Ty):∀ k i,(Ty.eta t k i).full≤t.size * t.size:=by
 induction t using Ty.ind with
 | h l b ih=>
  intro k i
  have h:=full_etas ih
  rw[Ty.eta_eq,Tm.full_eq,Ty.size_eq]
  have e:(Ty.sizes l+1) * (Ty.sizes l+1)=Ty.sizes l * Ty.sizes l+2 * Ty.sizes l+1:=by
   rw[Nat.add_mul,Nat.mul_add];omega
  rw[e];omega
theorem fit_etas {l:List Ty}(h:∀ t∈l,∀ k i,(k=0→0≤i∧i≤1000000)→(k≠0→-9223372036854775808≤i∧i≤9223372036854775807)→(Ty.eta t k i).Fit)(hl:l.length≤1000000):∀ t∈Ty.etas l,t.Fit:=by
 induction l with
 | nil=>simp[Ty.etas]
 | cons t l ih=>
  intro u hu
  simp only[Ty.etas,List.mem_cons] at hu
  simp only[List.length_cons] at hl
  rcases hu with rfl | hu
  ·exact h t (by simp) 0 _ (fun _=>by omega) (fun h=>absurd rfl h)
  ·exact ih (fun u hu=>h u (by simp[hu])) (by omega) u hu
theorem fit_eta (t:Ty)(hs:t.size≤1000000):∀ k i,(k=0→0≤i∧i≤1000000)→(k≠0→-9223372036854775808≤i∧i≤9223372036854775807)→(Ty.eta t k i).Fit:=by
 induction t using Ty.ind with
 | h l b ih=>
  intro k i h1 h2
  have hl:=Ty.le_sizes l
  rw[Ty.size_eq] at hs
  rw[Ty.eta_eq,Tm.fit_iff]
  refine⟨?_,?_,fit_etas (fun t ht k i=>ih t ht (by have:=Ty.size_mem ht;omega) k i) (by omega)⟩
  ·by_cases hk:k=0
   ·rw[if_pos hk];have:=h1 hk;omega
   ·rw[if_neg hk];exact(h2 hk).1
  ·by_cases hk:k=0
   ·rw[if_pos hk];have:=h1 hk;omega
   ·rw[if_neg hk];exact(h2 hk).2
theorem fit_Eta (t:Ty)(hs:t.size≤60)(k i:Int)(hi:-9223372036854775808≤i∧i≤9223372036854775807):(Ty.Eta t k i).Fit:=by
 unfold Ty.Eta
 by_cases hc:k=0∧(i<0∨1000<i)
 ·rw[if_pos hc];simp[Tm.zero,Tm.fit_iff]
 ·rw[if_neg hc];exact fit_eta t (by omega) k i (fun hk=>by omega) (fun _=>hi)
theorem full_Eta (t:Ty)(hs:t.size≤60)(k i:Int):(Ty.Eta t k i).full≤3600:=by
 unfold Ty.Eta
 split
 ·simp[Tm.zero,Tm.full,Tm.fulls,Ty.sizes]
 ·have h:=full_eta t k i
  have:t.size * t.size≤60 * 60:=Nat.mul_le_mul hs hs
  omega
namespace Li
theorem wide_list {l:List Tm}{m:Nat}(h:∀ t∈l,t.full≤m * t.size):Tm.fulls l≤m * Tm.sizes l:=by
 induction l with
 | nil=>simp[Tm.fulls]
 | cons t l ih=>
  have h1:=h t (by simp)
  have h2:=ih fun u hu=>h u (by simp[hu])
  simp only[Tm.fulls,Tm.sizes]
  rw[Nat.mul_add];omega
theorem full_list {l:List Tm}{m:Nat}(h:∀ t∈l,t.full≤m):Tm.fulls l≤m * l.length:=by
 induction l with
 | nil=>simp[Tm.fulls]
 | cons t l ih=>
  have h1:=h t (by simp)
  have h2:=ih fun u hu=>h u (by simp[hu])
  simp only[Tm.fulls,List.length_cons]
  rw[Nat.mul_add];omega
theorem wide_etas {l:List Ty}{m:Nat}(h:∀ t∈l,∀ k i,(Ty.eta t k i).full≤m * (Ty.eta t k i).size):Tm.fulls (Ty.etas l)≤m * Tm.sizes (Ty.etas l):=by
 induction l with
 | nil=>simp[Ty.etas,Tm.fulls]
 | cons t l ih=>
  have h1:=h t (by simp) 0 (l.length:Nat)
  have h2:=ih fun u hu=>h u (by simp[hu])
  simp only[Ty.etas,Tm.fulls,Tm.sizes]
  rw[Nat.mul_add];omega
theorem wide_eta {m:Nat}(t:Ty):t.size≤m→∀ k i,(Ty.eta t k i).full≤m * (Ty.eta t k i).size:=by
 induction t using Ty.ind with
 | h l b ih=>
  intro hs k i
  rw[Ty.size_eq] at hs
  have h:=wide_etas (m:=m) fun t ht=>ih t ht (by have:=Ty.size_mem ht;omega)
  rw[Ty.eta_eq,Tm.full_eq,Tm.size_eq,Nat.mul_add];omega
theorem wide_Eta (t:Ty)(hs:t.size≤60)(k i:Int):(Ty.Eta t k i).full≤60 * (Ty.Eta t k i).size:=by
 unfold Ty.Eta
 split
 ·simp[Tm.zero,Tm.full,Tm.fulls,Tm.size,Tm.sizes,Ty.sizes]
 ·exact wide_eta t hs k i
theorem vars_mem {B:List Ty}{n:Int}{u:Tm}(h:u∈vars B n):∃ (j:Nat) (hj:j<B.length),u=Ty.Eta B[j] 0 (n+B.length-1-j):=by
 obtain⟨j,hj,rfl⟩:=List.getElem_of_mem h
 have hj2:j<B.length:=by rw[vars_len] at hj;exact hj
 exact⟨j,hj2,vars_get B n j hj2⟩
theorem lif_wide {B:List Ty}(hB:∀ b∈B,b.size≤60):∀ (t:Tm) (n:Int),(lif B t n).full≤60 * (lif B t n).size+t.full:=by
 intro t
 induction t using Tm.ind with
 | h b k i a ih=>
 intro n
 have key:∀ (l:List Tm) (m:Int),(∀ t∈l,∀ n,(lif B t n).full≤60 * (lif B t n).size+t.full)→Tm.fulls (lifs B l m)≤60 * Tm.sizes (lifs B l m)+Tm.fulls l:=by
  intro l m
  induction l with
  | nil=>intro _;simp[lifs,Tm.fulls]
  | cons t l ihl=>
   intro h
   have h1:=h t (by simp) m
   have h2:=ihl fun u hu=>h u (by simp[hu])
   rw[lifs]
   simp only[Tm.fulls,Tm.sizes]
   rw[Nat.mul_add];omega
 have h1:=key a (n+b.length) ih
 have h2:Tm.fulls (if k=2 then vars B (n+b.length) else [])≤60 * Tm.sizes (if k=2 then vars B (n+b.length) else []):=by
  split
  ·refine wide_list fun u hu=>?_
   obtain⟨j,hj,rfl⟩:=vars_mem hu
   exact wide_Eta _ (hB _ (List.getElem_mem hj)) _ _
  ·simp[Tm.fulls]
 rw[lif_eq,Tm.full_eq,Tm.size_eq,Tm.full_eq,Tm.fulls_append,Tm.sizes_append]
 rw[Nat.mul_add,Nat.mul_add];omega
theorem lif_full {B:List Ty}(hB:∀ b∈B,b.size≤60)(hl:B.length≤8):∀ (t:Tm) (n:Int),(lif B t n).full≤28801 * t.full:=by
 intro t
 induction t using Tm.ind with
 | h b k i a ih=>
 intro n
 have key:∀ (l:List Tm) (m:Int),(∀ t∈l,∀ n,(lif B t n).full≤28801 * t.full)→Tm.fulls (lifs B l m)≤28801 * Tm.fulls l:=by
  intro l m
  induction l with
  | nil=>intro _;simp[lifs,Tm.fulls]
  | cons t l ihl=>
   intro h
   have h1:=h t (by simp) m
   have h2:=ihl fun u hu=>h u (by simp[hu])
   rw[lifs]
   simp only[Tm.fulls]
   rw[Nat.mul_add];omega
 have h1:=key a (n+b.length) ih
 have h2:Tm.fulls (if k=2 then vars B (n+b.length) else [])≤28800:=by
  split
  ·have:=full_list (l:=vars B (n+b.length)) (m:=3600) fun u hu=>by
    obtain⟨j,hj,rfl⟩:=vars_mem hu
    exact full_Eta _ (hB _ (List.getElem_mem hj)) _ _
   rw[vars_len] at this;omega
  ·simp[Tm.fulls]
 rw[lif_eq,Tm.full_eq,Tm.full_eq,Tm.fulls_append]
 rw[Nat.mul_add,Nat.mul_add];omega
theorem lif_fit {B:List Ty}(hB:∀ b∈B,b.size≤60)(hl:B.length≤1000):∀ (t:Tm) (n:Int),0≤n→n+t.full≤1000000→t.Fit→(lif B t n).Fit:=by
 intro t
 induction t using Tm.ind with
 | h b k i a ih=>
 intro n h0 hz hf
 rw[Tm.full_eq] at hz
 have hbl:=Ty.le_sizes b
 obtain⟨f1,f2,f3⟩:=Tm.fit_iff.1 hf
 rw[lif_eq]
 refine Tm.fit_iff.2 ⟨f1,f2,fun u hu=>?_⟩
 rcases List.mem_append.1 hu with hu | hu
 ·split at hu
  ·obtain⟨j,hj,rfl⟩:=vars_mem hu
   exact fit_Eta _ (hB _ (List.getElem_mem hj)) _ _ (by omega)
  ·cases hu
 ·rw[lifs_map] at hu
  obtain⟨t,ht,rfl⟩:=List.mem_map.1 hu
  have hsz:=Tm.full_mem ht
  exact ih t ht _ (by omega) (by omega) (f3 t ht)
end Li
def eHs (l:List (Int×Int)):List (List D):=l.map fun h=>[.v (.int .i64 h.1),.v (.int .i64 h.2)]
@[simp] theorem eHs_ok (f g:Nat→Bool) (l:List (Int×Int)):D.okss f g (eHs l)=true:=D.okss_map _ l fun _ _=>rfl
def sgn (x y:Int):Int:=if x<y then -1 else if y<x then 1 else 0
def orl (a b:Int):Int:=if a=0 then b else a
@[simp] theorem orl_zero (b:Int):orl 0 b=b:=by simp[orl]
@[simp] theorem orl_zero_right (a:Int):orl a 0=a:=by unfold orl;split <;> simp_all
namespace Ty
mutual
def cmp:Ty→Ty→Int
 | .mk l b,.mk l' b'=>orl (orl (orl (sgn (Ty.sizes l+1:Nat) (Ty.sizes l'+1:Nat)) (sgn (l.length:Nat) (l'.length:Nat))) (cmps l l')) (sgn b b')
def cmps:List Ty→List Ty→Int
 | [],_=>0
 | _ :: _,[]=>0
 | t :: l,u :: l'=>orl (cmp t u) (cmps l l')
end
@[simp] theorem cmps_nil (l:List Ty):cmps [] l=0:=by rw[cmps]
end Ty
namespace Tm
def cmpB (l l':List Ty):Int:=orl (sgn (l.length:Nat) (l'.length:Nat)) (Ty.cmps l l')
mutual
def cmp:Tm→Tm→Int
 | .mk b k i a,.mk b' k' i' a'=>orl (sgn (Tm.sizes a+1:Nat) (Tm.sizes a'+1:Nat)) (orl (cmpB b b') (orl (sgn k k') (orl (sgn i i') (orl (sgn (a.length:Nat) (a'.length:Nat)) (cmps a a')))))
def cmps:List Tm→List Tm→Int
 | [],_=>0
 | _ :: _,[]=>0
 | t :: l,u :: l'=>orl (cmp t u) (cmps l l')
end
@[simp] theorem cmps_nil (l:List Tm):cmps [] l=0:=by rw[cmps]
end Tm
namespace Ty
end Ty
set_option maxRecDepth 100000 in
theorem size6_r:∀ t:Tm,∀ {F:Nat→Prop} {w0:World} {b k i a:Value} (_:IsTm F w0 b k i a t) (w:World),t.size≤1000000→Keep F w0 w→Calls Tryz.prog 93 #[.agg #[b,k,i,a]] w (RetI t.size w):=Tm.ind fun binds k0 i0 args ih=>by
 intro F w0 b k i a ht w hsz hw
 obtain⟨pa,pc,qa,qc,rfl,rfl,rfl,rfl⟩:=ht.shape
 simp only[Tm.binds,Tm.kind,Tm.index,Tm.args] at ht ⊢
 obtain⟨_,_,_,hsl⟩:=ht.inv
 simp only[Tm.args] at hsl
 obtain⟨_,hm,bl,off,PA,A,PN,PC,N',C,Kd,Ix,ha,h1,h2,h3,h4,h5⟩:=sl_cells6 hsl
 clear ht hsl hm
 have hlen:args.length≤1000000:=by have:=Tm.len_sizes args;rw[Tm.size_eq] at hsz;omega
 have Hsz:Hid (∀ i (h:i<args.length),args[i].size≤1000000∧Tm.sizes (args.take i)+args[i].size≤1000000):=fun i h=>by
  have:=Tm.sizes_take args i h;have:=Tm.sizes_take_le args (i+1);rw[Tm.size_eq] at hsz;omega
 have Hend:Hid ((Tm.mk binds k0 i0 args).size=Tm.sizes args+1):=Tm.size_eq _ _ _ _
 have Hih:=Lib.hid ih;clear ih hsz
 go_enter Tryz.func93,Tryz.ntmps93
 go_wp2_with fail
 go_loopw [3,4] (fun x i wr=>∃ k:Nat,i=.int .i64 k∧x=.int .i64 ((Tm.sizes (args.take k):Int)+1)∧k≤args.length∧Below w.heap.size w wr∧Blk wr w.heap.size #[.slice pa binds.length pc,.int .i64 k0,.int .i64 i0,.slice qa args.length qc] 29) (fun _ i _=>args.length-(intOf i).toNat)
 case atStart=>exact⟨0,rfl,rfl,by omega,(Below.refl _ _).alloc (Nat.le_refl _) _,Blk.new _ _ _ rfl⟩
 case round=>
  obtain⟨k,rfl,rfl,hk,hb,hbox⟩:=hrel
  have c0:wr.cell? ⟨w.heap.size,3,none⟩=some (.slice qa args.length qc):=hbox.cell rfl
  have hlt0:=hbox.lt
  by_cases hlt:k<args.length
  ·obtain⟨rfl,hF⟩:=ha (by omega)
   have e1:=(hw.below hb) _ _ _ hF (h1 k hlt)
   have e2:=(hw.below hb) _ _ _ hF (h2 k hlt)
   have e3:=(hw.below hb) _ _ _ hF (h3 k hlt)
   have e4:=(hw.below hb) _ _ _ hF (h4 k hlt)
   have hs:Tm.sizes (args.take k)≤1000000∧args[k].size≤1000000:=by have:=Hsz.out k hlt;omega
   go_wp2_with fail
   refine(Hih.out _ (List.getElem_mem hlt) (h5 k hlt) _ (Hsz.out k hlt).1 (hw.below hb)).mono ?_
   rintro e w1 ⟨rfl,hb1⟩
   go_wp2_with fail
   go_roundw
   case rel=>exact⟨k+1,by go_num,by rw[Tm.sizes_take _ _ hlt];go_num,by omega,hb.trans (hb1.mono (by omega)),hbox.below hb1⟩
   case measure=>simp[intOf];omega
  ·go_wp2_with fail
   go_ret
   refine⟨?_,hb⟩
   rw[Hend.out,List.take_of_length_le (by omega)];rfl
theorem IsSl.bel {α:Type}{r:Rp α}{F:Nat→Prop}{w w':World}{v:Value}{l:List α}(h:IsSl r F w v l)(hb:Below w.heap.size w w'):IsSl r F w' v l:=h.keep ((Keep.refl _ _).below hb)
def checkCode (C M:List Ty)(t:Tm)(X:List Ty)(u:Ty)(c:Int):Prop:=(¬ (t.size≤5000∧t.depth≤60)∧c=2)∨((t.size≤5000∧t.depth≤60)∧¬ IsOf C M t X u∧c=5)∨((t.size≤5000∧t.depth≤60)∧IsOf C M t X u∧c=0)
namespace Li
def bad (M:List Ty)(x:Int):Bool:=decide (x<0∨(M.length:Int)≤x)
end Li
def RightTy (bases:Int)(t:Ty):Prop:=t.size≤1000∧t.depth≤60∧Ty.Low bases t
set_option maxRecDepth 100000 in
theorem rightWorld1_k {F:Nat→Prop}{w:World}{s d:Value}{t:Ty}{b:Int}{B:Nat}(ht:IsTy F w s d t)(hz:t.size≤400000)(hB:w.cell? ⟨B,0,none⟩=some (.int .i64 b)):
  Calls Tryz.prog 59 #[.agg #[s,d],.pointer (some ⟨B,0,none⟩)] w (RetB (¬ RightTy b t) w):=by
 have Hr:=Lib.hid fun(w':World) (hb:Below w.heap.size w w')=>right_k (ht.bel hb) b (by omega)
 obtain⟨a,c,rfl,rfl⟩:=ht.shape
 clear ht
 obtain⟨n1,hn1⟩:∃ n,t.args.length=n:=⟨_,rfl⟩
 obtain⟨n2,hn2⟩:∃ n,t.base=n:=⟨_,rfl⟩
 rw[hn1,hn2] at Hr ⊢
 clear hn1 hn2
 have hl:=Keep.lt hB
 go_enter Tryz.func59,Tryz.ntmps59
 go_wp2_with fail
 have hb1:Below w.heap.size w (w.alloc (.cells #[.slice a n1 c,.int .i64 n2] 44)):=(Below.refl _ _).alloc (Nat.le_refl _) _
 refine(Hr.out _ hb1).mono ?_
 intro e w2 h
 obtain⟨r,Hq,rfl,hb2⟩:=of_retB' h
 clear h
 go_wp2_with fail
 go_ret
 exact⟨_,by have:=Hq.out;unfold RightTy;cases r <;> simp_all,rfl,hb1.trans (hb2.mono hb1.size)⟩
set_option maxRecDepth 100000 in
theorem indexFunc_k {G F:Nat→Prop}{w:World}{v:Value}{l:List Ty}{b:Int}{B:Nat}(h:IsSl2 rpTy G F w v l)(hz:∀ t∈l,t.size≤400000)(hB:w.cell? ⟨B,0,none⟩=some (.int .i64 b)):
  Calls Tryz.prog 108 #[v,.func (.func 59) #[] #[.pointer (some ⟨B,0,none⟩)]] w fun e w'=>∃ i:Int,Hid (0≤i↔∃ t∈l,¬ RightTy b t)∧e=.returned (.int .i64 i)∧Below w.heap.size w w':=by
 obtain⟨a,c,rfl⟩:=h.shape
 have Hat:=Lib.hid (sl_at h)
 have hl:(l.length:Int)≤9223372036854775807:=by obtain⟨_,_,_,_,_,_,hm,_⟩:=h;unfold maxLen at hm;omega
 clear h
 have Hz:=Lib.hid hz;clear hz
 go_enter Tryz.func108,Tryz.ntmps108
 go_wp2_with fail
 go_loopw [5,8] (fun _ i wr=>∃ k:Nat,i=.int .i64 k∧k≤l.length∧Hid (∀ m (h:m<l.length),m<k→RightTy b l[m])∧Below w.heap.size w wr) (fun _ i _=>l.length-(intOf i).toNat)
 case atStart=>exact⟨0,rfl,by omega,fun m _ h=>absurd h (by omega),Below.refl _ _⟩
 case round=>
  obtain⟨k,rfl,hk,hrel,hb⟩:=hrel
  by_cases hlt:k<l.length
  ·obtain⟨bl,off,A,N,C,Bb,rfl,_,e1,e2,hT⟩:=Hat.out k hlt
   have hkx:Keep (fun _=>True) w wr:=(Keep.refl _ _).below hb
   have e1:=hkx _ _ _ trivial e1
   have e2:=hkx _ _ _ trivial e2
   have HT:=Lib.hid (hT.bel hb);clear hT
   have i1:(k:Int)<(l.length:Int):=by omega
   have HB:=Lib.hid (hkx _ _ _ trivial hB)
   clear hkx
   go_wp2_with fail
   refine(rightWorld1_k HT.out (Hz.out _ (List.getElem_mem hlt)) HB.out).mono ?_
   intro e w2 h
   obtain⟨r,Hq,rfl,hb2⟩:=of_retB' h
   clear h e1 e2
   cases r
   ·have Hq2:=Lib.hid (no_of Hq.out)
    go_wp2_with fail
    go_roundw
    case rel=>exact⟨k+1,by go_num,by omega,fun m h hm=>by
     by_cases hmk:m<k
     ·exact hrel.out m h hmk
     ·obtain rfl:m=k:=by omega
      exact Classical.not_not.1 Hq2.out,hb.trans (hb2.mono hb.size)⟩
    case measure=>simp[intOf];omega
   ·have Hq2:=Lib.hid (yes_of Hq.out)
    go_wp2_with fail
    go_ret
    exact⟨_,⟨fun _=>⟨_,List.getElem_mem hlt,Hq2.out⟩,fun _=>by omega⟩,rfl,hb.trans (hb2.mono hb.size)⟩
  ·go_wp2_with fail
   go_ret
   refine⟨_,⟨fun h=>absurd h (by omega),fun⟨t,ht,hn⟩=>?_⟩,rfl,hb⟩
   obtain⟨m,hm,rfl⟩:=List.getElem_of_mem ht
   exact absurd (hrel.out m hm (by omega)) hn
set_option maxRecDepth 100000 in
theorem containsFunc_k {G F:Nat→Prop}{w:World}{v:Value}{l:List Ty}{b:Int}{B:Nat}(h:IsSl2 rpTy G F w v l)(hz:∀ t∈l,t.size≤400000)(hB:w.cell? ⟨B,0,none⟩=some (.int .i64 b)):
  Calls Tryz.prog 57 #[v,.func (.func 59) #[] #[.pointer (some ⟨B,0,none⟩)]] w (RetB (∃ t∈l,¬ RightTy b t) w):=by
 have Hi:=Lib.hid (indexFunc_k h hz hB)
 obtain⟨a,c,rfl⟩:=h.shape
 clear h hz hB
 go_enter Tryz.func57,Tryz.ntmps57
 go_wp2_with fail
 refine Hi.out.mono ?_
 rintro e w1 ⟨i,hi,rfl,hb⟩
 go_wp2_with fail
 go_ret
 exact⟨_,by rw[←hi.out];simp,rfl,hb⟩
def RightWd (b:Int)(C M:List Ty):Prop:=C.length+M.length≤1000∧∀ t∈C++M,RightTy b t
set_option maxRecDepth 100000 in
set_option maxHeartbeats 1000000 in
theorem RightWorld_k {F:Nat→Prop}{w:World}{b:Int}{cv mv:Value}{C M:List Ty}(hc:IsSl rpTy F w cv C)(hm:IsSl rpTy F w mv M)(hz:∀ t∈C++M,t.size≤400000):
  Calls Tryz.prog 15 #[.agg #[.int .i64 b,cv,mv]] w (RetB (RightWd b C M) w):=by
 obtain⟨ca,cc,rfl⟩:=hc.shape
 obtain⟨ma,mc,rfl⟩:=hm.shape
 have hlc:(C.length:Int)≤9223372036854775807:=by obtain⟨_,_,_,_,_,_,h,_⟩:=hc;unfold maxLen at h;omega
 have hlm:(M.length:Int)≤9223372036854775807:=by obtain⟨_,_,_,_,_,_,h,_⟩:=hm;unfold maxLen at h;omega
 have Hc:=Lib.hid hc;have Hm:=Lib.hid hm;have Hz:=Lib.hid hz
 clear hc hm hz
 by_cases g1:(1000:Int)<(C.length:Int)
 ·skip
  go_enter Tryz.func15,Tryz.ntmps15
  go_wp2_with fail
  go_ret
  exact⟨false,by unfold RightWd;simp;omega,rfl,(Below.refl _ _).alloc (Nat.le_refl _) _⟩
 have hq:IntKind.i64.wrap (1000-(C.length:Int))=1000-(C.length:Int):=IntWalk.i64_in _ (by omega)
 by_cases g2:1000-(C.length:Int)<(M.length:Int)
 ·skip
  go_enter Tryz.func15,Tryz.ntmps15
  go_wp2_with fail
  go_ret
  exact⟨false,by unfold RightWd;simp;omega,rfl,(Below.refl _ _).alloc (Nat.le_refl _) _⟩
 go_enter Tryz.func15,Tryz.ntmps15
 go_wp2_with fail
 obtain⟨w2,hw2⟩:∃ w2,(w.alloc (.cells #[.int .i64 b,.slice ca C.length cc,.slice ma M.length mc] 35)).alloc (.cells #[.slice ca C.length cc,.slice ma M.length mc] 33)=w2:=⟨_,rfl⟩
 have B2:Below w.heap.size w w2:=by rw[←hw2];exact((Below.refl _ _).alloc (Nat.le_refl _) _).alloc (by simp) _
 have x0:Blk w2 w.heap.size #[.int .i64 b,.slice ca C.length cc,.slice ma M.length mc] 35:=by rw[←hw2];exact(Blk.new _ _ _ rfl).alloc _
 have x1:Blk w2 (w.heap.size+1) #[.slice ca C.length cc,.slice ma M.length mc] 33:=by rw[←hw2];exact Blk.new _ _ _ (by simp)
 rw[hw2]
 clear hw2
 refine(concat_any2 x1 (IsSl2.of (Hc.out.bel B2)) (IsSl2.of (Hm.out.bel B2)) (by omega)).mono ?_
 rintro e w3 ⟨a3,c3,rfl,hT,hb3⟩
 have HT:=Lib.hid hT;clear hT
 have x0':=x0.below hb3
 have B3:=B2.trans (hb3.mono B2.size)
 obtain⟨Y,hY⟩:∃ Y,C++M=Y:=⟨_,rfl⟩
 have HY:=Lib.hid hY
 rw[hY] at HT Hz ⊢
 clear hY
 go_wp2_with fail
 refine(containsFunc_k HT.out Hz.out (x0'.cell rfl)).mono ?_
 intro e w4 h
 obtain⟨r,Hq,rfl,hb4⟩:=of_retB' h
 clear h
 go_wp2_with fail
 go_ret
 refine⟨_,?_,rfl,B3.trans (hb4.mono B3.size)⟩
 have h2:(r=true↔∃ t∈Y,¬ RightTy b t):=Hq.out
 have h3:C.length+M.length≤1000:=by omega
 unfold RightWd
 rw[HY.out]
 cases r
 ·simp only[Bool.not_false,true_iff]
  refine⟨h3,fun t ht=>Classical.not_not.1 fun hn=>?_⟩
  exact absurd (h2.2 ⟨t,ht,hn⟩) (by simp)
 ·simp only[Bool.not_true,Bool.false_eq_true,false_iff]
  rintro⟨_,h⟩
  obtain⟨t,ht,hn⟩:=h2.1 rfl
  exact hn (h t ht)
section
variable {w:World} {b:Int} {cv mv xv tb tk ti ta s ub:Value} {C M X:List Ty} {t:Tm} {u:Ty}
end
theorem headTy_mem {C M X:List Ty}{k i:Int}{t:Ty}(h:headTy C M X k i=some t):t∈(C++M)++X:=by
 unfold headTy at h
 simp only[List.mem_append]
 split at h
 ·cases h
 split at h
 ·exact .inr (by have:=List.mem_of_getElem? h;simpa using this)
 split at h
 ·exact .inl (.inl (List.mem_of_getElem? h))
 split at h
 ·exact .inl (.inr (List.mem_of_getElem? h))
 ·cases h
theorem isTrue {F:Nat→Prop}{w:World}{v:Value}{l:List Ty}(h:IsSl rpTy F w v l):IsSl rpTy (fun _=>True) w v l:=h.weaken (by decide) fun _ _ _=>trivial
theorem slTy9 {m:Mp}{Im:Nat→Nat→Prop}{w:World}{v:Value}{l:List Ty}(h:Rel m Im w v (.sl 2 (eTys l) none)):IsSl rpTy (fun _=>True) w v l:=
 isTrue (sl_of_rel (r:=rpTy) (e:=eTy) eTy_len (fun x t hx _=>ty_of_rel t hx) (by decide) (by rw[eTys_map] at h;exact h))
theorem agWorld {m:Mp}{Im:Nat→Nat→Prop}{w:World}{x:Value}{b:Int}{C M:List Ty}(h:Rel m Im w x (.ag [.v (.int .i64 b),.sl 2 (eTys C) none,.sl 2 (eTys M) none])):∃ cv mv,x=.agg #[.int .i64 b,cv,mv]∧IsSl rpTy (fun _=>True) w cv C∧IsSl rpTy (fun _=>True) w mv M:=by
 obtain⟨cs,rfl,hr⟩:=rel_ag.1 h
 match cs,hr with
 | [x,y,z],hr=>
  have:=rel_v.1 hr.1;subst this
  exact⟨y,z,rfl,slTy9 hr.2.1,slTy9 hr.2.2.1⟩
def chkL (code:Tm→Ty→Int)(M:List Ty):List (Int×Tm)→Int
 | []=>0
 | p :: l=>match headTy [] M [] 2 p.1 with
  | none=>10
  | some u=>if code p.2 u≠0 then code p.2 u else chkL code M l
theorem tyZ_eq:eTy tyZ=[.sl 2 [] none,.v (.int .i64 0)]:=rfl
def TRT6_44:TI:=⟨2,true,[Value.slice none 0 0,Value.int IntKind.i64 0],[(0,1,false),(1,1,false)],none,32,6,none,false⟩
theorem TRT6_44_ok:TypOk Tryz.prog 44 TRT6_44:=by constructor <;> kernel_rfl
def TRT6_33:TI:=⟨1,false,[Value.slice none 0 0],[],some 44,24,5,none,false⟩
theorem TRT6_33_ok:TypOk Tryz.prog 33 TRT6_33:=by constructor <;> kernel_rfl
def TRT6_3:TI:=⟨1,false,[Value.int IntKind.i64 0],[],none,8,2,none,false⟩
theorem TRT6_3_ok:TypOk Tryz.prog 3 TRT6_3:=by constructor <;> kernel_rfl
def TRT6_41:TI:=⟨4,true,[Value.slice none 0 0,Value.int IntKind.i64 0,Value.int IntKind.i64 0,Value.slice none 0 0],[(0,1,false),(1,2,true),(3,1,false)],none,64,6,none,false⟩
theorem TRT6_41_ok:TypOk Tryz.prog 41 TRT6_41:=by constructor <;> kernel_rfl
def TRT6_35:TI:=⟨3,true,[Value.int IntKind.i64 0,Value.slice none 0 0,Value.slice none 0 0],[(0,1,false),(1,1,false),(2,1,false)],none,56,6,none,false⟩
theorem TRT6_35_ok:TypOk Tryz.prog 35 TRT6_35:=by constructor <;> kernel_rfl
def TRT6_38:TI:=⟨2,true,[Value.int IntKind.i64 0,Value.int IntKind.i64 0],[(0,1,false),(1,1,false)],none,16,6,none,true⟩
theorem TRT6_38_ok:TypOk Tryz.prog 38 TRT6_38:=by constructor <;> kernel_rfl
def TRT6_39:TI:=⟨1,false,[Value.slice none 0 0],[],some 41,24,5,none,false⟩
theorem TRT6_39_ok:TypOk Tryz.prog 39 TRT6_39:=by constructor <;> kernel_rfl
def TRT6_192:TI:=⟨1,false,[Value.slice none 0 0],[],some 33,24,5,none,false⟩
theorem TRT6_192_ok:TypOk Tryz.prog 192 TRT6_192:=by constructor <;> kernel_rfl
def TRT6_144:TI:=⟨1,false,[Value.nilFunc],[],none,8,8,none,false⟩
theorem TRT6_144_ok:TypOk Tryz.prog 144 TRT6_144:=by constructor <;> kernel_rfl
def TRT6:List (Nat×TI):=[(44,TRT6_44),(33,TRT6_33),(3,TRT6_3),(41,TRT6_41),(35,TRT6_35),(38,TRT6_38),(39,TRT6_39),(192,TRT6_192),(144,TRT6_144)]
theorem TRT6_ok:TabOk Tryz.prog TRT6:=((((((((((TabOk.nil _).cons TRT6_144_ok).cons TRT6_192_ok).cons TRT6_39_ok).cons TRT6_38_ok).cons TRT6_35_ok).cons TRT6_41_ok).cons TRT6_3_ok).cons TRT6_33_ok).cons TRT6_44_ok)
def tyOf (C M:List Ty)(t:Tm):Option Ty:=(headTy C M ([]++t.binds) t.kind t.index).map fun h=>.mk t.binds h.base
theorem isOf_no {C M X:List Ty}{b:List Ty}{k i:Int}{a:List Tm}{u:Ty}(h:∀ x,headTy C M (X++b) k i=some x→b=u.args→x.base=u.base→x.args.length=a.length→False):¬ IsOf C M (.mk b k i a) X u:=fun hi=>by
 obtain⟨h1,x,h2,h3,h4⟩:=isOf_mk.1 hi
 exact h x h2 h1 h3 (isOfs_iff.1 h4).1
theorem within_d (l r:List Ty)(h:l.length+r.length≤800000):PureC Tryz.prog 55 [.sl 2 (eTys l) none,.sl 2 (eTys r) none] (.sl 2 (eTys (l++r)) none):=by
 have hcat:=concat_d [l,r] (by simp[lens];omega) (by simp)
 simp only[List.flatten_cons,List.flatten_nil,List.append_nil] at hcat
 refine calldw 0 9 [ResultVar.tmp 4] TRT6_ok Tryz.func55 rfl Tryz.ntmps55 rfl fun cx hnt hn0=>?_
 ·skip
  refine dw_seq ?_;refine dwk [] TRT6_ok hnt fun _ z9=>z9 _ _ ?_;refine dw_seq ?_;refine dwk [(7,.sl 1 (eTyss [l,r]) none)] TRT6_ok hnt fun K hK=>?_;refine And.intro (VLe.untag _ _ _) ?_;refine dcl (hcat) ?_;refine hK _ _ ?_;clear hK K;refine dw_ret ?_
  exact reta rfl
set_option maxHeartbeats 2000000 in
theorem theadA_d (b:Int)(C M X:List Ty)(k i:Int)(hi:i≤9223372036854775807)(hC:C.length≤1000000)(hM:M.length≤1000000)(hX:X.length≤1000000):PureC Tryz.prog 54 [.ag [.v (.int .i64 b),.sl 2 (eTys C) none,.sl 2 (eTys M) none],.sl 2 (eTys X) none,.ag [.v (.int .i64 k),.v (.int .i64 i)]] (.tu [.ag (eTy ((headTy C M X k i).getD tyZ)),.v (.bool (headTy C M X k i).isSome)]):=by
 by_cases k1:k=1
 ·skip
  subst k1
  by_cases hn:i<0
  ·rw[headTy_neg hn]
   simp only[Option.getD_none,Option.isSome_none]
   rw[tyZ_eq]
   refine calldw 0 51 [ResultVar.cell 6 44,ResultVar.tmp 7] TRT6_ok Tryz.func54 rfl Tryz.ntmps54 rfl fun cx hnt hn0=>?_
   ·skip
    refine dw_seq ?_;refine dwk [] TRT6_ok hnt fun _ z9=>z9 _ _ ?_;refine dw_seq ?_;refine dwk [] TRT6_ok hnt fun _ z9=>z9 _ _ ?_;refine dw_seq ?_;refine dwk [] TRT6_ok hnt fun _ z9=>z9 _ _ ?_;refine dw_seq ?_;refine dw_seq ?_;refine dwk [] TRT6_ok hnt fun _ z9=>z9 _ _ ?_;refine dw_block ?_;refine dw_seq ?_
    refine dwk [(21,.v (.bool true))] TRT6_ok hnt fun K hK=>?_;refine And.intro (VLe.refl _) ?_;refine hK _ _ ?_;clear hK K;refine dw_cond (t:=true) rfl ?_;rw[if_pos rfl];refine dwkD [] TRT6_ok hnt fun K hK=>?_;refine hK _ _ (by kernel_rfl) ?_;clear hK K;refine dw_seq ?_;refine dw_seq ?_;refine dwk [(39,.v (.bool true))] TRT6_ok hnt fun K hK=>?_;refine And.intro auT ?_;refine hK _ _ ?_;clear hK K
    refine dw_cond (t:=true) rfl ?_;rw[if_pos rfl];refine dw_seq ?_;refine dwk [] TRT6_ok hnt fun _ z9=>z9 _ _ ?_;refine dw_ret ?_
    exact reta rfl
  ·obtain⟨n,rfl⟩:=Int.eq_ofNat_of_zero_le (Int.not_lt.1 hn)
   rw[headTy_1]
   by_cases hl:n<C.length
   ·rw[List.getElem?_eq_getElem hl]
    simp only[Option.getD_some,Option.isSome_some]
    rw[eTy_eq]
    refine calldw 0 51 [ResultVar.cell 6 44,ResultVar.tmp 7] TRT6_ok Tryz.func54 rfl Tryz.ntmps54 rfl fun cx hnt hn0=>?_
    ·skip
     refine dw_seq ?_;refine dwk [] TRT6_ok hnt fun _ z9=>z9 _ _ ?_;refine dw_seq ?_;refine dwk [] TRT6_ok hnt fun _ z9=>z9 _ _ ?_;refine dw_seq ?_;refine dwk [] TRT6_ok hnt fun _ z9=>z9 _ _ ?_;refine dw_seq ?_;refine dw_seq ?_;refine dwk [] TRT6_ok hnt fun _ z9=>z9 _ _ ?_;refine dw_block ?_;refine dw_seq ?_
     refine dwk [(21,.v (.bool true))] TRT6_ok hnt fun K hK=>?_;refine And.intro (VLe.refl _) ?_;refine hK _ _ ?_;clear hK K;refine dw_cond (t:=true) rfl ?_;rw[if_pos rfl];refine dwkD [] TRT6_ok hnt fun K hK=>?_;refine hK _ _ (by kernel_rfl) ?_;clear hK K;refine dw_seq ?_;refine dw_seq ?_;refine dwk [(39,.v (.bool false)),(43,.v (.int .i64 (↑C.length))),(44,.v (.bool false))] TRT6_ok hnt fun K hK=>?_
     refine And.intro auF ?_;refine And.intro (dintE (by rw[eTys_len])) ?_;refine And.intro auF ?_;refine hK _ _ ?_;clear hK K;refine dw_cond (t:=false) rfl ?_;rw[if_neg (by simp)];refine dw_skip ?_;refine dw_seq ?_;refine dwk [(49,.q [.sl 2 (eTys C[n].args) none,.v (.int .i64 C[n].base)])] TRT6_ok hnt fun K hK=>?_;refine And.intro (elo (eTys_len C)) ?_;refine And.intro (elv (eTys_getD C n) (eTy_eq _)) ?_
     refine hK _ _ ?_;clear hK K;refine dw_ret ?_
     exact reta rfl
   ·rw[List.getElem?_eq_none (by omega)]
    simp only[Option.getD_none,Option.isSome_none]
    rw[tyZ_eq]
    refine calldw 0 51 [ResultVar.cell 6 44,ResultVar.tmp 7] TRT6_ok Tryz.func54 rfl Tryz.ntmps54 rfl fun cx hnt hn0=>?_
    ·skip
     refine dw_seq ?_;refine dwk [] TRT6_ok hnt fun _ z9=>z9 _ _ ?_;refine dw_seq ?_;refine dwk [] TRT6_ok hnt fun _ z9=>z9 _ _ ?_;refine dw_seq ?_;refine dwk [] TRT6_ok hnt fun _ z9=>z9 _ _ ?_;refine dw_seq ?_;refine dw_seq ?_;refine dwk [] TRT6_ok hnt fun _ z9=>z9 _ _ ?_;refine dw_block ?_;refine dw_seq ?_
     refine dwk [(21,.v (.bool true))] TRT6_ok hnt fun K hK=>?_;refine And.intro (VLe.refl _) ?_;refine hK _ _ ?_;clear hK K;refine dw_cond (t:=true) rfl ?_;rw[if_pos rfl];refine dwkD [] TRT6_ok hnt fun K hK=>?_;refine hK _ _ (by kernel_rfl) ?_;clear hK K;refine dw_seq ?_;refine dw_seq ?_;refine dwk [(39,.v (.bool false)),(43,.v (.int .i64 (↑C.length))),(44,.v (.bool true))] TRT6_ok hnt fun K hK=>?_
     refine And.intro auF ?_;refine And.intro (dintE (by rw[eTys_len])) ?_;refine And.intro auT ?_;refine hK _ _ ?_;clear hK K;refine dw_cond (t:=true) rfl ?_;rw[if_pos rfl];refine dw_seq ?_;refine dwk [] TRT6_ok hnt fun _ z9=>z9 _ _ ?_;refine dw_ret ?_
     exact reta rfl
 by_cases k2:k=2
 ·skip
  subst k2
  by_cases hn:i<0
  ·rw[headTy_neg hn]
   simp only[Option.getD_none,Option.isSome_none]
   rw[tyZ_eq]
   refine calldw 0 51 [ResultVar.cell 6 44,ResultVar.tmp 7] TRT6_ok Tryz.func54 rfl Tryz.ntmps54 rfl fun cx hnt hn0=>?_
   ·skip
    refine dw_seq ?_;refine dwk [] TRT6_ok hnt fun _ z9=>z9 _ _ ?_;refine dw_seq ?_;refine dwk [] TRT6_ok hnt fun _ z9=>z9 _ _ ?_;refine dw_seq ?_;refine dwk [] TRT6_ok hnt fun _ z9=>z9 _ _ ?_;refine dw_seq ?_;refine dw_seq ?_;refine dwk [] TRT6_ok hnt fun _ z9=>z9 _ _ ?_;refine dw_block ?_;refine dw_seq ?_
    refine dwk [(21,.v (.bool false))] TRT6_ok hnt fun K hK=>?_;refine And.intro (VLe.refl _) ?_;refine hK _ _ ?_;clear hK K;refine dw_cond (t:=false) rfl ?_;rw[if_neg (by simp)];refine dw_seq ?_;refine dwk [(27,.v (.bool true))] TRT6_ok hnt fun K hK=>?_;refine And.intro (VLe.refl _) ?_;refine hK _ _ ?_;clear hK K;refine dw_cond (t:=true) rfl ?_;rw[if_pos rfl];refine dwkD [] TRT6_ok hnt fun K hK=>?_
    refine hK _ _ (by kernel_rfl) ?_;clear hK K;refine dw_seq ?_;refine dw_seq ?_;refine dwk [(39,.v (.bool true))] TRT6_ok hnt fun K hK=>?_;refine And.intro auT ?_;refine hK _ _ ?_;clear hK K;refine dw_cond (t:=true) rfl ?_;rw[if_pos rfl];refine dw_seq ?_;refine dwk [] TRT6_ok hnt fun _ z9=>z9 _ _ ?_;refine dw_ret ?_
    exact reta rfl
  ·obtain⟨n,rfl⟩:=Int.eq_ofNat_of_zero_le (Int.not_lt.1 hn)
   rw[headTy_2]
   by_cases hl:n<M.length
   ·rw[List.getElem?_eq_getElem hl]
    simp only[Option.getD_some,Option.isSome_some]
    rw[eTy_eq]
    refine calldw 0 51 [ResultVar.cell 6 44,ResultVar.tmp 7] TRT6_ok Tryz.func54 rfl Tryz.ntmps54 rfl fun cx hnt hn0=>?_
    ·skip
     refine dw_seq ?_;refine dwk [] TRT6_ok hnt fun _ z9=>z9 _ _ ?_;refine dw_seq ?_;refine dwk [] TRT6_ok hnt fun _ z9=>z9 _ _ ?_;refine dw_seq ?_;refine dwk [] TRT6_ok hnt fun _ z9=>z9 _ _ ?_;refine dw_seq ?_;refine dw_seq ?_;refine dwk [] TRT6_ok hnt fun _ z9=>z9 _ _ ?_;refine dw_block ?_;refine dw_seq ?_
     refine dwk [(21,.v (.bool false))] TRT6_ok hnt fun K hK=>?_;refine And.intro (VLe.refl _) ?_;refine hK _ _ ?_;clear hK K;refine dw_cond (t:=false) rfl ?_;rw[if_neg (by simp)];refine dw_seq ?_;refine dwk [(27,.v (.bool true))] TRT6_ok hnt fun K hK=>?_;refine And.intro (VLe.refl _) ?_;refine hK _ _ ?_;clear hK K;refine dw_cond (t:=true) rfl ?_;rw[if_pos rfl];refine dwkD [] TRT6_ok hnt fun K hK=>?_
     refine hK _ _ (by kernel_rfl) ?_;clear hK K;refine dw_seq ?_;refine dw_seq ?_;refine dwk [(39,.v (.bool false)),(43,.v (.int .i64 (↑M.length))),(44,.v (.bool false))] TRT6_ok hnt fun K hK=>?_;refine And.intro auF ?_;refine And.intro (dintE (by rw[eTys_len])) ?_;refine And.intro auF ?_;refine hK _ _ ?_;clear hK K;refine dw_cond (t:=false) rfl ?_;rw[if_neg (by simp)];refine dw_skip ?_
     refine dw_seq ?_;refine dwk [(49,.q [.sl 2 (eTys M[n].args) none,.v (.int .i64 M[n].base)])] TRT6_ok hnt fun K hK=>?_;refine And.intro (elo (eTys_len M)) ?_;refine And.intro (elv (eTys_getD M n) (eTy_eq _)) ?_;refine hK _ _ ?_;clear hK K;refine dw_ret ?_
     exact reta rfl
   ·rw[List.getElem?_eq_none (by omega)]
    simp only[Option.getD_none,Option.isSome_none]
    rw[tyZ_eq]
    refine calldw 0 51 [ResultVar.cell 6 44,ResultVar.tmp 7] TRT6_ok Tryz.func54 rfl Tryz.ntmps54 rfl fun cx hnt hn0=>?_
    ·skip
     refine dw_seq ?_;refine dwk [] TRT6_ok hnt fun _ z9=>z9 _ _ ?_;refine dw_seq ?_;refine dwk [] TRT6_ok hnt fun _ z9=>z9 _ _ ?_;refine dw_seq ?_;refine dwk [] TRT6_ok hnt fun _ z9=>z9 _ _ ?_;refine dw_seq ?_;refine dw_seq ?_;refine dwk [] TRT6_ok hnt fun _ z9=>z9 _ _ ?_;refine dw_block ?_;refine dw_seq ?_
     refine dwk [(21,.v (.bool false))] TRT6_ok hnt fun K hK=>?_;refine And.intro (VLe.refl _) ?_;refine hK _ _ ?_;clear hK K;refine dw_cond (t:=false) rfl ?_;rw[if_neg (by simp)];refine dw_seq ?_;refine dwk [(27,.v (.bool true))] TRT6_ok hnt fun K hK=>?_;refine And.intro (VLe.refl _) ?_;refine hK _ _ ?_;clear hK K;refine dw_cond (t:=true) rfl ?_;rw[if_pos rfl];refine dwkD [] TRT6_ok hnt fun K hK=>?_
     refine hK _ _ (by kernel_rfl) ?_;clear hK K;refine dw_seq ?_;refine dw_seq ?_;refine dwk [(39,.v (.bool false)),(43,.v (.int .i64 (↑M.length))),(44,.v (.bool true))] TRT6_ok hnt fun K hK=>?_;refine And.intro auF ?_;refine And.intro (dintE (by rw[eTys_len])) ?_;refine And.intro auT ?_;refine hK _ _ ?_;clear hK K;refine dw_cond (t:=true) rfl ?_;rw[if_pos rfl];refine dw_seq ?_;refine dwk [] TRT6_ok hnt fun K hK=>?_
     refine hK _ _ ?_;clear hK K;refine dw_ret ?_
     exact reta rfl
 by_cases k0:k=0
 ·subst k0
  by_cases hn:i<0
  ·rw[headTy_neg hn]
   simp only[Option.getD_none,Option.isSome_none]
   rw[tyZ_eq]
   refine calldw 0 51 [ResultVar.cell 6 44,ResultVar.tmp 7] TRT6_ok Tryz.func54 rfl Tryz.ntmps54 rfl fun cx hnt hn0=>?_
   ·skip
    refine dw_seq ?_;refine dwk [] TRT6_ok hnt fun _ z9=>z9 _ _ ?_;refine dw_seq ?_;refine dwk [] TRT6_ok hnt fun _ z9=>z9 _ _ ?_;refine dw_seq ?_;refine dwk [] TRT6_ok hnt fun _ z9=>z9 _ _ ?_;refine dw_seq ?_;refine dw_seq ?_;refine dwk [] TRT6_ok hnt fun _ z9=>z9 _ _ ?_;refine dw_block ?_;refine dw_seq ?_
    refine dwk [(21,.v (.bool false))] TRT6_ok hnt fun K hK=>?_;refine And.intro (VLe.refl _) ?_;refine hK _ _ ?_;clear hK K;refine dw_cond (t:=false) rfl ?_;rw[if_neg (by simp)];refine dw_seq ?_;refine dwk [(27,.v (.bool false))] TRT6_ok hnt fun K hK=>?_;refine And.intro (VLe.refl _) ?_;refine hK _ _ ?_;clear hK K;refine dw_cond (t:=false) rfl ?_;rw[if_neg (by simp)];refine dw_seq ?_
    refine dwk [(33,.v (.bool true))] TRT6_ok hnt fun K hK=>?_;refine And.intro (VLe.refl _) ?_;refine hK _ _ ?_;clear hK K;refine dw_cond (t:=true) rfl ?_;rw[if_pos rfl];refine dw_seq ?_;refine dwk [(36,.v (.bool true))] TRT6_ok hnt fun K hK=>?_;refine And.intro auT ?_;refine hK _ _ ?_;clear hK K;refine dw_cond (t:=true) rfl ?_;rw[if_pos rfl];refine dw_seq ?_;refine dwk [] TRT6_ok hnt fun K hK=>?_
    refine hK _ _ ?_;clear hK K;refine dw_ret ?_
    exact reta rfl
  ·obtain⟨n,rfl⟩:=Int.eq_ofNat_of_zero_le (Int.not_lt.1 hn)
   rw[headTy_0]
   by_cases hl:n<X.length
   ·have hx:X.length-1-n<X.length:=by omega
    rw[List.getElem?_reverse (by omega),List.getElem?_eq_getElem hx]
    simp only[Option.getD_some,Option.isSome_some]
    rw[eTy_eq]
    have hg:(eTys X).getD ((X.length:Int)-1-(n:Int)).toNat []=[.sl 2 (eTys (X[X.length-1-n]).args) none,.v (.int .i64 (X[X.length-1-n]).base)]:=by rw[show ((X.length:Int)-1-(n:Int)).toNat=X.length-1-n by omega,eTys_getD X _ hx,eTy_eq]
    refine calldw 0 51 [ResultVar.cell 6 44,ResultVar.tmp 7] TRT6_ok Tryz.func54 rfl Tryz.ntmps54 rfl fun cx hnt hn0=>?_
    ·skip
     refine dw_seq ?_;refine dwk [] TRT6_ok hnt fun _ z9=>z9 _ _ ?_;refine dw_seq ?_;refine dwk [] TRT6_ok hnt fun _ z9=>z9 _ _ ?_;refine dw_seq ?_;refine dwk [(12,.v (.int .i64 (↑X.length))),(13,.v (.int .i64 ((↑X.length-1)))),(16,.v (.int .i64 ((↑X.length-1 - ↑n))))] TRT6_ok hnt fun K hK=>?_;refine And.intro (dintE (by rw[eTys_len])) ?_
     refine And.intro auI ?_;refine And.intro auI ?_;refine hK _ _ ?_;clear hK K;refine dw_seq ?_;refine dw_seq ?_;refine dwk [] TRT6_ok hnt fun _ z9=>z9 _ _ ?_;refine dw_block ?_;refine dw_seq ?_;refine dwk [(21,.v (.bool false))] TRT6_ok hnt fun K hK=>?_;refine And.intro (VLe.refl _) ?_;refine hK _ _ ?_;clear hK K;refine dw_cond (t:=false) rfl ?_;rw[if_neg (by simp)]
     refine dw_seq ?_;refine dwk [(27,.v (.bool false))] TRT6_ok hnt fun K hK=>?_;refine And.intro (VLe.refl _) ?_;refine hK _ _ ?_;clear hK K;refine dw_cond (t:=false) rfl ?_;rw[if_neg (by simp)];refine dw_seq ?_;refine dwk [(33,.v (.bool true))] TRT6_ok hnt fun K hK=>?_;refine And.intro (VLe.refl _) ?_;refine hK _ _ ?_;clear hK K;refine dw_cond (t:=true) rfl ?_;rw[if_pos rfl]
     refine dw_seq ?_;refine dwk [(36,.v (.bool false))] TRT6_ok hnt fun K hK=>?_;refine And.intro auF ?_;refine hK _ _ ?_;clear hK K;refine dw_cond (t:=false) rfl ?_;rw[if_neg (by simp)];refine dw_skip ?_;refine dw_seq ?_;refine dw_seq ?_;refine dwk [(39,.v (.bool false)),(43,.v (.int .i64 (↑X.length))),(44,.v (.bool false))] TRT6_ok hnt fun K hK=>?_;refine And.intro auF ?_;refine And.intro (dintE (by rw[eTys_len])) ?_
     refine And.intro auF ?_;refine hK _ _ ?_;clear hK K;refine dw_cond (t:=false) rfl ?_;rw[if_neg (by simp)];refine dw_skip ?_;refine dw_seq ?_;refine dwk [(49,.q [.sl 2 (eTys (X[X.length-1-n]).args) none,.v (.int .i64 (X[X.length-1-n]).base)])] TRT6_ok hnt fun K hK=>?_;refine And.intro (⟨by omega,by rw[eTys_len];omega⟩) ?_;refine And.intro (VLe.of_eq (by rw[hg])) ?_;refine hK _ _ ?_;clear hK K
     refine dw_ret ?_
     exact reta rfl
   ·rw[List.getElem?_eq_none (by simp;omega)]
    simp only[Option.getD_none,Option.isSome_none]
    rw[tyZ_eq]
    refine calldw 0 51 [ResultVar.cell 6 44,ResultVar.tmp 7] TRT6_ok Tryz.func54 rfl Tryz.ntmps54 rfl fun cx hnt hn0=>?_
    ·skip
     refine dw_seq ?_;refine dwk [] TRT6_ok hnt fun _ z9=>z9 _ _ ?_;refine dw_seq ?_;refine dwk [] TRT6_ok hnt fun _ z9=>z9 _ _ ?_;refine dw_seq ?_;refine dwk [(12,.v (.int .i64 (↑X.length))),(13,.v (.int .i64 ((↑X.length-1)))),(16,.v (.int .i64 ((↑X.length-1 - ↑n))))] TRT6_ok hnt fun K hK=>?_;refine And.intro (dintE (by rw[eTys_len])) ?_
     refine And.intro auI ?_;refine And.intro auI ?_;refine hK _ _ ?_;clear hK K;refine dw_seq ?_;refine dw_seq ?_;refine dwk [] TRT6_ok hnt fun _ z9=>z9 _ _ ?_;refine dw_block ?_;refine dw_seq ?_;refine dwk [(21,.v (.bool false))] TRT6_ok hnt fun K hK=>?_;refine And.intro (VLe.refl _) ?_;refine hK _ _ ?_;clear hK K;refine dw_cond (t:=false) rfl ?_;rw[if_neg (by simp)]
     refine dw_seq ?_;refine dwk [(27,.v (.bool false))] TRT6_ok hnt fun K hK=>?_;refine And.intro (VLe.refl _) ?_;refine hK _ _ ?_;clear hK K;refine dw_cond (t:=false) rfl ?_;rw[if_neg (by simp)];refine dw_seq ?_;refine dwk [(33,.v (.bool true))] TRT6_ok hnt fun K hK=>?_;refine And.intro (VLe.refl _) ?_;refine hK _ _ ?_;clear hK K;refine dw_cond (t:=true) rfl ?_;rw[if_pos rfl]
     refine dw_seq ?_;refine dwk [(36,.v (.bool false))] TRT6_ok hnt fun K hK=>?_;refine And.intro auF ?_;refine hK _ _ ?_;clear hK K;refine dw_cond (t:=false) rfl ?_;rw[if_neg (by simp)];refine dw_skip ?_;refine dw_seq ?_;refine dw_seq ?_;refine dwk [(39,.v (.bool true))] TRT6_ok hnt fun K hK=>?_;refine And.intro auT ?_;refine hK _ _ ?_;clear hK K;refine dw_cond (t:=true) rfl ?_
     rw[if_pos rfl];refine dw_seq ?_;refine dwk [] TRT6_ok hnt fun _ z9=>z9 _ _ ?_;refine dw_ret ?_
     exact reta rfl
 ·rw[headTy_o k0 k1 k2]
  simp only[Option.getD_none,Option.isSome_none]
  rw[tyZ_eq]
  refine calldw 0 51 [ResultVar.cell 6 44,ResultVar.tmp 7] TRT6_ok Tryz.func54 rfl Tryz.ntmps54 rfl fun cx hnt hn0=>?_
  ·skip
   refine dw_seq ?_;refine dwk [] TRT6_ok hnt fun _ z9=>z9 _ _ ?_;refine dw_seq ?_;refine dwk [] TRT6_ok hnt fun _ z9=>z9 _ _ ?_;refine dw_seq ?_;refine dwk [] TRT6_ok hnt fun _ z9=>z9 _ _ ?_;refine dw_seq ?_;refine dw_seq ?_;refine dwk [] TRT6_ok hnt fun _ z9=>z9 _ _ ?_;refine dw_block ?_;refine dw_seq ?_
   refine dwk [(21,.v (.bool false))] TRT6_ok hnt fun K hK=>?_;refine And.intro (beqF k1) ?_;refine hK _ _ ?_;clear hK K;refine dw_cond (t:=false) rfl ?_;rw[if_neg (by simp)];refine dw_seq ?_;refine dwk [(27,.v (.bool false))] TRT6_ok hnt fun K hK=>?_;refine And.intro (beqF k2) ?_;refine hK _ _ ?_;clear hK K;refine dw_cond (t:=false) rfl ?_;rw[if_neg (by simp)];refine dw_seq ?_
   refine dwk [(33,.v (.bool false))] TRT6_ok hnt fun K hK=>?_;refine And.intro (beqF k0) ?_;refine hK _ _ ?_;clear hK K;refine dw_cond (t:=false) rfl ?_;rw[if_neg (by simp)];refine dw_seq ?_;refine dwk [] TRT6_ok hnt fun _ z9=>z9 _ _ ?_;refine dw_ret ?_
   exact reta rfl
theorem ttype_d (b:Int)(C M:List Ty)(t:Tm)(hi:t.index≤9223372036854775807)(hC:C.length≤1000000)(hM:M.length≤1000000)(hz:t.full≤780000):
  PureC Tryz.prog 14 [.ag [.v (.int .i64 b),.sl 2 (eTys C) none,.sl 2 (eTys M) none],.v (.slice none 0 0),.ag (eTm t)] (.tu [.ag (eTy ((tyOf C M t).getD tyZ)),.v (.int .i64 (if (tyOf C M t).isSome then 0 else 10))]):=by
 have hbl:=Ty.le_sizes t.binds
 have hfl:=full_args t
 have hbe:PureC Tryz.prog 55 [.v (.slice none 0 0),.sl 2 (eTys t.binds) none] (.sl 2 (eTys ([]++t.binds)) none):=CallC.vle (within_d [] t.binds (by simp;omega)) (.cons (VLe.nil _) (.cons (VLe.refl _) .nil)) (VLe.refl _)
 have hh:=theadA_d b C M ([]++t.binds) t.kind t.index hi hC hM (by simp;omega)
 unfold tyOf
 obtain⟨o,ho⟩:∃ o,headTy C M ([]++t.binds) t.kind t.index=o:=⟨_,rfl⟩
 obtain⟨X,hX⟩:∃ X,[]++t.binds=X:=⟨_,rfl⟩
 rw[hX] at hh hbe ho ⊢
 rw[ho] at hh ⊢
 rw[eTm_eq]
 cases o with
 | none=>
  simp only[Option.map_none,Option.getD_none,Option.isSome_none,Bool.false_eq_true,if_false] at hh ⊢
  rw[tyZ_eq] at hh ⊢
  refine calldw 0 29 [ResultVar.cell 6 44,ResultVar.tmp 7] TRT6_ok Tryz.func14 rfl Tryz.ntmps14 rfl fun cx hnt hn0=>?_
  ·skip
   refine dw_seq ?_;refine dwk [] TRT6_ok hnt fun _ z9=>z9 _ _ ?_;refine dw_seq ?_;refine dwkD [] TRT6_ok hnt fun K hK=>?_;refine dcl (hbe) ?_;refine dcl (hh) ?_;refine hK _ _ (by kernel_rfl) ?_;clear hK K;refine dw_seq ?_;refine dw_seq ?_;refine dwk [] TRT6_ok hnt fun _ z9=>z9 _ _ ?_;refine dw_cond (t:=true) rfl ?_;rw[if_pos rfl];refine dw_seq ?_
   refine dwk [] TRT6_ok hnt fun _ z9=>z9 _ _ ?_;refine dw_ret ?_
   exact reta rfl
 | some h=>
  simp only[Option.map_some,Option.getD_some,Option.isSome_some,if_true] at hh ⊢
  have hk:=kOf_d h.base t.binds (by omega)
  rw[eTy_eq] at hh hk ⊢
  simp only[args_mk',base_mk'] at hk ⊢
  refine calldw 0 29 [ResultVar.cell 6 44,ResultVar.tmp 7] TRT6_ok Tryz.func14 rfl Tryz.ntmps14 rfl fun cx hnt hn0=>?_
  ·skip
   refine dw_seq ?_;refine dwk [] TRT6_ok hnt fun _ z9=>z9 _ _ ?_;refine dw_seq ?_;refine dwkD [] TRT6_ok hnt fun K hK=>?_;refine dcl (hbe) ?_;refine dcl (hh) ?_;refine hK _ _ (by kernel_rfl) ?_;clear hK K;refine dw_seq ?_;refine dw_seq ?_;refine dwk [] TRT6_ok hnt fun _ z9=>z9 _ _ ?_;refine dw_cond (t:=false) rfl ?_;rw[if_neg (by simp)]
   refine dw_skip ?_;refine dw_seq ?_;refine dwk [] TRT6_ok hnt fun K hK=>?_;refine dcl (hk) ?_;refine hK _ _ ?_;clear hK K;refine dw_ret ?_
   exact reta rfl
set_option maxHeartbeats 4000000 in
theorem tisX_d (b:Int)(C M:List Ty)(hC:C.length≤1000000)(hM:M.length≤1000000):∀ (t:Tm) (X:List Ty) (u:Ty) (c:Bool),(c=true↔IsOf C M t X u)→X.length+t.full≤780000→t.Fit →
  PureC Tryz.prog 62 [.ag [.v (.int .i64 b),.sl 2 (eTys C) none,.sl 2 (eTys M) none],.sl 2 (eTys X) none,.ag (eTm t),.ag (eTy u)] (.v (.bool c)):=by
 intro t
 induction t using Tm.ind with
 | h bs k i a ih=>
 intro X u c hc hz hf
 obtain⟨_,f2,f3⟩:=Tm.fit_iff.1 hf
 rw[Tm.full_eq] at hz
 have hal:=cFulls_len a
 have hbl:=Ty.le_sizes bs
 have hbe:=within_d X bs (by omega)
 have hh:=theadA_d b C M (X++bs) k i f2 hC hM (by simp;omega)
 obtain⟨o,ho⟩:∃ o,headTy C M (X++bs) k i=o:=⟨_,rfl⟩
 obtain⟨Y,hY⟩:∃ Y,X++bs=Y:=⟨_,rfl⟩
 have hYl:Y.length=X.length+bs.length:=by rw[←hY];simp
 have hty:=eqTys_d bs u.args 69 rfl
 have no:∀ (h:∀ x,headTy C M (X++bs) k i=some x→bs=u.args→x.base=u.base→x.args.length=a.length→False),c=false:=fun h=>by
  rw[Bool.eq_false_iff];exact fun hc1=>isOf_no h (hc.1 hc1)
 rw[ho] at hh no
 rw[eTm_eq,eTy_eq]
 simp only[bindsT,kindT,indexT,argsTm]
 rw[hY] at hbe hh
 by_cases hb:bs=u.args
 ·rw[decide_eq_true hb] at hty
  cases o with
  | none=>
   simp only[Option.getD_none,Option.isSome_none] at hh
   rw[tyZ_eq] at hh
   rw[no (fun x h=>by cases h)]
   refine calldw 0 69 [ResultVar.tmp 8] TRT6_ok Tryz.func62 rfl Tryz.ntmps62 rfl fun cx hnt hn0=>?_
   ·skip
    refine dw_seq ?_;refine dwk [] TRT6_ok hnt fun _ z9=>z9 _ _ ?_;refine dw_seq ?_;refine dw_seq ?_;refine dwk [] TRT6_ok hnt fun K hK=>?_;refine dcl (hty) ?_;refine hK _ _ ?_;clear hK K;refine dw_cond (t:=false) rfl ?_;rw[if_neg (by simp)];refine dw_skip ?_;refine dw_seq ?_;refine dwk [] TRT6_ok hnt fun K hK=>?_;refine dcl (hbe) ?_;refine hK _ _ ?_;clear hK K
    refine dw_seq ?_;refine dwk [] TRT6_ok hnt fun K hK=>?_;refine dcl (hh) ?_;refine hK _ _ ?_;clear hK K;refine dw_seq ?_;refine dw_seq ?_;refine dwk [] TRT6_ok hnt fun _ z9=>z9 _ _ ?_;refine dw_cond (t:=true) rfl ?_;rw[if_pos rfl];refine dw_seq ?_;refine dwk [] TRT6_ok hnt fun _ z9=>z9 _ _ ?_;refine dw_ret ?_
    exact reta rfl
  | some h=>
  simp only[Option.getD_some,Option.isSome_some] at hh
  rw[eTy_eq] at hh
  by_cases hbs:h.base=u.base
  ·by_cases hln:h.args.length=a.length
   ·have hIff:c=true↔∀ j (h1:j<a.length) (h2:j<h.args.length),IsOf C M a[j] Y h.args[j]:=by
     rw[hc,isOf_mk,hY]
     constructor
     ·rintro⟨_,x,h2,_,h4⟩ j j1 j2
      rw[←hY,ho] at h2;cases h2
      exact(isOfs_iff.1 h4).2 j j1 j2
     ·intro hall
      exact⟨hb,h,by rw[←hY,ho],hbs,isOfs_iff.2 ⟨hln,hall⟩⟩
    have hI:∀ j (h1:j<a.length) (h2:j<h.args.length) (d:Bool),(d=true↔IsOf C M a[j] Y h.args[j])→PureC Tryz.prog 62 [.ag [.v (.int .i64 b),.sl 2 (eTys C) none,.sl 2 (eTys M) none],.sl 2 (eTys Y) none,.ag (eTm a[j]),.ag (eTy h.args[j])] (.v (.bool d)):=fun j h1 h2 d hd=>ih _ (List.getElem_mem h1) Y _ d hd (by have:=Tm.full_mem (List.getElem_mem h1);omega) (f3 _ (List.getElem_mem h1))
    clear ih no hc
    refine calldw 0 69 [ResultVar.tmp 8] TRT6_ok Tryz.func62 rfl Tryz.ntmps62 rfl fun cx hnt hn0=>?_
    ·skip
     refine dw_seq ?_;refine dwk [] TRT6_ok hnt fun _ z9=>z9 _ _ ?_;refine dw_seq ?_;refine dw_seq ?_;refine dwk [] TRT6_ok hnt fun K hK=>?_;refine dcl (hty) ?_;refine hK _ _ ?_;clear hK K;refine dw_cond (t:=false) rfl ?_;rw[if_neg (by simp)];refine dw_skip ?_;refine dw_seq ?_;refine dwk [] TRT6_ok hnt fun K hK=>?_;refine dcl (hbe) ?_;refine hK _ _ ?_;clear hK K
     refine dw_seq ?_;refine dwk [] TRT6_ok hnt fun K hK=>?_;refine dcl (hh) ?_;refine hK _ _ ?_;clear hK K;refine dw_seq ?_;refine dw_seq ?_;refine dwk [(39,.v (.bool false)),(44,.v (.int .i64 (↑h.args.length))),(47,.v (.int .i64 (↑a.length))),(48,.v (.bool false))] TRT6_ok hnt fun K hK=>?_;refine And.intro (bneF hbs) ?_;refine And.intro (dintE (by rw[eTys_len])) ?_;refine And.intro (dintE (by rw[eTms_len])) ?_
     refine And.intro (bneF (by omega)) ?_;refine hK _ _ ?_;clear hK K;refine dw_cond (t:=false) rfl ?_;rw[if_neg (by simp)];refine dw_skip ?_;refine dw_seq ?_;refine dw_seq ?_;refine dwk [(52,.v (.int .i64 (↑a.length)))] TRT6_ok hnt fun K hK=>?_;refine And.intro (dintE (by rw[eTms_len])) ?_;refine hK _ _ ?_;clear hK K;refine dw_block ?_
     refine dw_loop (ι:={ j:Nat // ∀ i (h1:i<a.length) (h2:i<h.args.length),i<j→IsOf C M a[i] Y h.args[i] }) (fun j=>[(.t 4,.p 0 0),(.t 6,.p 1 0),(.t 7,.p 2 0),(.t 9,.sl 2 (eTys Y) none),(.t 10,.p 23 0),(.t 51,.sl 4 (eTms a) none),(.t 52,.v (.int .i64 ↑a.length)),(.t 53,.v (.int .i64 ↑j.1)),(.c 0 0,.v (.int .i64 b)),(.c 0 1,.sl 2 (eTys C) none),(.c 0 2,.sl 2 (eTys M) none),(.c 23 0,.sl 2 (eTys h.args) none),(.c 23 1,.v (.int .i64 h.base))]) 24 (fun j=>a.length-j.1) (⟨0,fun i h1 h2 h3=>by omega⟩) (VS.toA) fun j=>?_
     obtain⟨j,hj⟩:=j
     dsimp only
     by_cases hlt:j<a.length
     ·have hlt2:j<h.args.length:=by omega
      by_cases hio:IsOf C M a[j] Y h.args[j]
      ·have hi:=hI j hlt hlt2 true (by simp[hio])
       rw[eTm_eq,eTy_eq] at hi
       refine dw_seq ?_;refine dwk [(54,.v (.bool true))] TRT6_ok hnt fun K hK=>?_;refine And.intro auT ?_;refine hK _ _ ?_;clear hK K;refine dw_seq ?_;refine dw_cond (t:=true) rfl ?_;rw[if_pos rfl];refine dw_skip ?_;refine dw_seq ?_;refine dw_block ?_;refine dw_seq ?_;refine dwk [(56,.q [.sl 2 (eTys a[j].binds) none,.v (.int .i64 a[j].kind),.v (.int .i64 a[j].index),.sl 4 (eTms a[j].args) none])] TRT6_ok hnt fun K hK=>?_
       refine And.intro (elo (eTms_len a)) ?_;refine And.intro (elv (eTms_getD a j) (eTm_eq _)) ?_;refine hK _ _ ?_;clear hK K;refine dw_seq ?_;refine dwkD [(64,.q [.sl 2 (eTys h.args[j].args) none,.v (.int .i64 h.args[j].base)])] TRT6_ok hnt fun K hK=>?_;refine And.intro (elo (eTys_len h.args)) ?_;refine And.intro (elv (eTys_getD h.args j) (eTy_eq _)) ?_;refine dcl (hi) ?_;refine hK _ _ (by kernel_rfl) ?_;clear hK K
       refine dw_cond (t:=false) rfl ?_;rw[if_neg (by simp)];refine dw_skip ?_;refine dwk [(68,.v (.int .i64 (↑(j+1))))] TRT6_ok hnt fun K hK=>?_;refine And.intro auI ?_;refine hK _ _ ?_;clear hK K
       refine⟨⟨j+1,fun q h1 h2 h3=>if e:q=j then by subst e;exact hio else hj q h1 h2 (by omega)⟩,by first | omega | (dsimp only;omega),VS.toA⟩
      ·have hi:=hI j hlt hlt2 false (by simp[hio])
       rw[eTm_eq,eTy_eq] at hi
       have hcf:c=false:=by rw[Bool.eq_false_iff];exact fun h1=>hio (hIff.1 h1 j hlt hlt2)
       rw[hcf]
       refine dw_seq ?_;refine dwk [(54,.v (.bool true))] TRT6_ok hnt fun K hK=>?_;refine And.intro auT ?_;refine hK _ _ ?_;clear hK K;refine dw_seq ?_;refine dw_cond (t:=true) rfl ?_;rw[if_pos rfl];refine dw_skip ?_;refine dw_seq ?_;refine dw_block ?_;refine dw_seq ?_;refine dwk [(56,.q [.sl 2 (eTys a[j].binds) none,.v (.int .i64 a[j].kind),.v (.int .i64 a[j].index),.sl 4 (eTms a[j].args) none])] TRT6_ok hnt fun K hK=>?_
       refine And.intro (elo (eTms_len a)) ?_;refine And.intro (elv (eTms_getD a j) (eTm_eq _)) ?_;refine hK _ _ ?_;clear hK K;refine dw_seq ?_;refine dwkD [(64,.q [.sl 2 (eTys h.args[j].args) none,.v (.int .i64 h.args[j].base)])] TRT6_ok hnt fun K hK=>?_;refine And.intro (elo (eTys_len h.args)) ?_;refine And.intro (elv (eTys_getD h.args j) (eTy_eq _)) ?_;refine dcl (hi) ?_;refine hK _ _ (by kernel_rfl) ?_;clear hK K
       refine dw_cond (t:=true) rfl ?_;rw[if_pos rfl];refine dw_seq ?_;refine dwk [] TRT6_ok hnt fun _ z9=>z9 _ _ ?_;refine dw_ret ?_
       exact reta rfl
     ·rw[hIff.2 fun q h1 h2=>hj q h1 h2 (by omega)]
      refine dw_seq ?_;refine dwk [(54,.v (.bool false))] TRT6_ok hnt fun K hK=>?_;refine And.intro auF ?_;refine hK _ _ ?_;clear hK K;refine dw_seq ?_;refine dw_cond (t:=false) rfl ?_;rw[if_neg (by simp)];refine dw_exit ?_;refine dw_seq ?_;refine dwk [] TRT6_ok hnt fun _ z9=>z9 _ _ ?_;refine dw_ret ?_
      exact reta rfl
   ·rw[no (fun x h1 _ _ h4=>by cases h1;exact hln h4)]
    refine calldw 0 69 [ResultVar.tmp 8] TRT6_ok Tryz.func62 rfl Tryz.ntmps62 rfl fun cx hnt hn0=>?_
    ·skip
     refine dw_seq ?_;refine dwk [] TRT6_ok hnt fun _ z9=>z9 _ _ ?_;refine dw_seq ?_;refine dw_seq ?_;refine dwk [] TRT6_ok hnt fun K hK=>?_;refine dcl (hty) ?_;refine hK _ _ ?_;clear hK K;refine dw_cond (t:=false) rfl ?_;rw[if_neg (by simp)];refine dw_skip ?_;refine dw_seq ?_;refine dwk [] TRT6_ok hnt fun K hK=>?_;refine dcl (hbe) ?_;refine hK _ _ ?_;clear hK K
     refine dw_seq ?_;refine dwk [] TRT6_ok hnt fun K hK=>?_;refine dcl (hh) ?_;refine hK _ _ ?_;clear hK K;refine dw_seq ?_;refine dw_seq ?_;refine dwk [(39,.v (.bool false)),(44,.v (.int .i64 (↑h.args.length))),(47,.v (.int .i64 (↑a.length))),(48,.v (.bool true))] TRT6_ok hnt fun K hK=>?_;refine And.intro (bneF hbs) ?_;refine And.intro (dintE (by rw[eTys_len])) ?_;refine And.intro (dintE (by rw[eTms_len])) ?_
     refine And.intro (bneT (by omega)) ?_;refine hK _ _ ?_;clear hK K;refine dw_cond (t:=true) rfl ?_;rw[if_pos rfl];refine dw_seq ?_;refine dwk [] TRT6_ok hnt fun _ z9=>z9 _ _ ?_;refine dw_ret ?_
     exact reta rfl
  ·rw[no (fun x h1 _ h3 _=>by cases h1;exact hbs h3)]
   refine calldw 0 69 [ResultVar.tmp 8] TRT6_ok Tryz.func62 rfl Tryz.ntmps62 rfl fun cx hnt hn0=>?_
   ·skip
    refine dw_seq ?_;refine dwk [] TRT6_ok hnt fun _ z9=>z9 _ _ ?_;refine dw_seq ?_;refine dw_seq ?_;refine dwk [] TRT6_ok hnt fun K hK=>?_;refine dcl (hty) ?_;refine hK _ _ ?_;clear hK K;refine dw_cond (t:=false) rfl ?_;rw[if_neg (by simp)];refine dw_skip ?_;refine dw_seq ?_;refine dwk [] TRT6_ok hnt fun K hK=>?_;refine dcl (hbe) ?_;refine hK _ _ ?_;clear hK K
    refine dw_seq ?_;refine dwk [] TRT6_ok hnt fun K hK=>?_;refine dcl (hh) ?_;refine hK _ _ ?_;clear hK K;refine dw_seq ?_;refine dw_seq ?_;refine dwk [(39,.v (.bool true))] TRT6_ok hnt fun K hK=>?_;refine And.intro (bneT hbs) ?_;refine hK _ _ ?_;clear hK K;refine dw_cond (t:=true) rfl ?_;rw[if_pos rfl];refine dw_seq ?_;refine dwk [] TRT6_ok hnt fun _ z9=>z9 _ _ ?_
    refine dw_ret ?_
    exact reta rfl
 ·rw[decide_eq_false hb] at hty
  rw[no (fun x _ h2 _ _=>hb h2)]
  refine calldw 0 69 [ResultVar.tmp 8] TRT6_ok Tryz.func62 rfl Tryz.ntmps62 rfl fun cx hnt hn0=>?_
  ·skip
   refine dw_seq ?_;refine dwk [] TRT6_ok hnt fun _ z9=>z9 _ _ ?_;refine dw_seq ?_;refine dw_seq ?_;refine dwk [] TRT6_ok hnt fun K hK=>?_;refine dcl (hty) ?_;refine hK _ _ ?_;clear hK K;refine dw_cond (t:=true) rfl ?_;rw[if_pos rfl];refine dw_seq ?_;refine dwk [] TRT6_ok hnt fun _ z9=>z9 _ _ ?_;refine dw_ret ?_
   exact reta rfl
theorem tcheckX_d (b:Int)(C M X:List Ty)(t:Tm)(u:Ty)(c:Int)(hC:C.length≤1000000)(hM:M.length≤1000000)(hc:checkCode C M t X u c)(hz:X.length+t.full≤780000)(hf:t.Fit):
  PureC Tryz.prog 16 [.ag [.v (.int .i64 b),.sl 2 (eTys C) none,.sl 2 (eTys M) none],.sl 2 (eTys X) none,.ag (eTm t),.ag (eTy u)] (.v (.int .i64 c)):=by
 have hr:=right_d t (by omega)
 have hi:=fun d hd=>tisX_d b C M hC hM t X u d hd hz hf
 rw[eTm_eq,eTy_eq] at hi
 rw[eTm_eq] at hr
 rw[eTm_eq,eTy_eq]
 rcases hc with⟨h1,rfl⟩ | ⟨h1,h2,rfl⟩ | ⟨h1,h2,rfl⟩
 ·rw[decide_eq_false h1] at hr
  refine calldw 0 20 [ResultVar.tmp 8] TRT6_ok Tryz.func16 rfl Tryz.ntmps16 rfl fun cx hnt hn0=>?_
  ·skip
   refine dw_seq ?_;refine dwk [] TRT6_ok hnt fun _ z9=>z9 _ _ ?_;refine dw_seq ?_;refine dw_block ?_;refine dw_seq ?_;refine dwk [] TRT6_ok hnt fun K hK=>?_;refine dcl (hr) ?_;refine hK _ _ ?_;clear hK K;refine dw_cond (t:=true) rfl ?_;rw[if_pos rfl];refine dw_seq ?_;refine dwk [] TRT6_ok hnt fun _ z9=>z9 _ _ ?_;refine dw_ret ?_
   exact reta rfl
 ·rw[decide_eq_true h1] at hr
  have hi:=hi false (by simp[h2])
  refine calldw 0 20 [ResultVar.tmp 8] TRT6_ok Tryz.func16 rfl Tryz.ntmps16 rfl fun cx hnt hn0=>?_
  ·skip
   refine dw_seq ?_;refine dwk [] TRT6_ok hnt fun _ z9=>z9 _ _ ?_;refine dw_seq ?_;refine dw_block ?_;refine dw_seq ?_;refine dwk [] TRT6_ok hnt fun K hK=>?_;refine dcl (hr) ?_;refine hK _ _ ?_;clear hK K;refine dw_cond (t:=false) rfl ?_;rw[if_neg (by simp)];refine dw_seq ?_;refine dwk [] TRT6_ok hnt fun K hK=>?_;refine dcl (hi) ?_;refine hK _ _ ?_;clear hK K
   refine dw_cond (t:=true) rfl ?_;rw[if_pos rfl];refine dw_seq ?_;refine dwk [] TRT6_ok hnt fun _ z9=>z9 _ _ ?_;refine dw_ret ?_
   exact reta rfl
 ·rw[decide_eq_true h1] at hr
  have hi:=hi true (by simp[h2])
  refine calldw 0 20 [ResultVar.tmp 8] TRT6_ok Tryz.func16 rfl Tryz.ntmps16 rfl fun cx hnt hn0=>?_
  ·skip
   refine dw_seq ?_;refine dwk [] TRT6_ok hnt fun _ z9=>z9 _ _ ?_;refine dw_seq ?_;refine dw_block ?_;refine dw_seq ?_;refine dwk [] TRT6_ok hnt fun K hK=>?_;refine dcl (hr) ?_;refine hK _ _ ?_;clear hK K;refine dw_cond (t:=false) rfl ?_;rw[if_neg (by simp)];refine dw_seq ?_;refine dwk [] TRT6_ok hnt fun K hK=>?_;refine dcl (hi) ?_;refine hK _ _ ?_;clear hK K
   refine dw_cond (t:=false) rfl ?_;rw[if_neg (by simp)];refine dw_skip ?_;refine dw_seq ?_;refine dwk [] TRT6_ok hnt fun _ z9=>z9 _ _ ?_;refine dw_ret ?_
   exact reta rfl
theorem tcheck_d (b:Int)(C M:List Ty)(t:Tm)(u:Ty)(c:Int)(hC:C.length≤1000000)(hM:M.length≤1000000)(hc:checkCode C M t [] u c)(hz:t.full≤780000)(hfit:t.Fit):
  PureC Tryz.prog 16 [.ag [.v (.int .i64 b),.sl 2 (eTys C) none,.sl 2 (eTys M) none],.v (.slice none 0 0),.ag (eTm t),.ag (eTy u)] (.v (.int .i64 c)):=
 CallC.vle (tcheckX_d b C M [] t u c hC hM hc (by simp;omega) hfit) (.cons (VLe.refl _) (.cons (VLe.nil _) (.cons (VLe.refl _) (.cons (VLe.refl _) .nil)))) (VLe.refl _)
theorem tworld_d (b:Int)(C M:List Ty)(c:Bool)(hc:c=true↔RightWd b C M)(hz:∀ t∈C++M,t.size≤400000):PureC Tryz.prog 15 [.ag [.v (.int .i64 b),.sl 2 (eTys C) none,.sl 2 (eTys M) none]] (.v (.bool c)):=by
 refine pure_below (by kernel_rfl) fun m Im w vs hv=>?_
 match vs,hv with
 | [x1],hv=>
  obtain⟨cv,mv,rfl,h1,h2⟩:=agWorld hv.1
  refine(RightWorld_k h1 h2 hz).mono ?_
  rintro e w' ⟨c',hc',rfl,hb⟩
  have:c'=c:=by rw[Bool.eq_iff_iff,hc',hc]
  subst this
  exact⟨_,rfl,hb,fun _ _ _=>.v _⟩
def TRF_41:TI:=⟨4,true,[Value.slice none 0 0,Value.int IntKind.i64 0,Value.int IntKind.i64 0,Value.slice none 0 0],[(0,1,false),(1,2,true),(3,1,false)],none,64,6,none,false⟩
theorem TRF_41_ok:TypOk Tryz.prog 41 TRF_41:=by constructor <;> kernel_rfl
def TRF_35:TI:=⟨3,true,[Value.int IntKind.i64 0,Value.slice none 0 0,Value.slice none 0 0],[(0,1,false),(1,1,false),(2,1,false)],none,56,6,none,false⟩
theorem TRF_35_ok:TypOk Tryz.prog 35 TRF_35:=by constructor <;> kernel_rfl
def TRF_86:TI:=⟨9,true,[Value.slice none 0 0,Value.int IntKind.i64 0,Value.int IntKind.i64 0,Value.slice none 0 0,Value.slice none 0 0,Value.int IntKind.i64 0,Value.int IntKind.i64 0,Value.slice none 0 0,Value.slice none 0 0],[(0,4,true),(4,4,true),(8,1,false)],none,152,6,none,false⟩
theorem TRF_86_ok:TypOk Tryz.prog 86 TRF_86:=by constructor <;> kernel_rfl
def TRF_3:TI:=⟨1,false,[Value.int IntKind.i64 0],[],none,8,2,none,false⟩
theorem TRF_3_ok:TypOk Tryz.prog 3 TRF_3:=by constructor <;> kernel_rfl
def TRF_59:TI:=⟨1,false,[Value.slice none 0 0],[],some 3,24,5,none,false⟩
theorem TRF_59_ok:TypOk Tryz.prog 59 TRF_59:=by constructor <;> kernel_rfl
def TRF_33:TI:=⟨1,false,[Value.slice none 0 0],[],some 44,24,5,none,false⟩
theorem TRF_33_ok:TypOk Tryz.prog 33 TRF_33:=by constructor <;> kernel_rfl
def TRF_44:TI:=⟨2,true,[Value.slice none 0 0,Value.int IntKind.i64 0],[(0,1,false),(1,1,false)],none,32,6,none,false⟩
theorem TRF_44_ok:TypOk Tryz.prog 44 TRF_44:=by constructor <;> kernel_rfl
def TRF_39:TI:=⟨1,false,[Value.slice none 0 0],[],some 41,24,5,none,false⟩
theorem TRF_39_ok:TypOk Tryz.prog 39 TRF_39:=by constructor <;> kernel_rfl
def TRF_45:TI:=⟨1,false,[Value.int IntKind.i64 0],[],none,8,2,none,false⟩
theorem TRF_45_ok:TypOk Tryz.prog 45 TRF_45:=by constructor <;> kernel_rfl
def TRF_180:TI:=⟨1,false,[Value.nilFunc],[],none,8,8,none,false⟩
theorem TRF_180_ok:TypOk Tryz.prog 180 TRF_180:=by constructor <;> kernel_rfl
def TRF_38:TI:=⟨2,true,[Value.int IntKind.i64 0,Value.int IntKind.i64 0],[(0,1,false),(1,1,false)],none,16,6,none,true⟩
theorem TRF_38_ok:TypOk Tryz.prog 38 TRF_38:=by constructor <;> kernel_rfl
def TRF:List (Nat×TI):=[(41,TRF_41),(35,TRF_35),(86,TRF_86),(3,TRF_3),(59,TRF_59),(33,TRF_33),(44,TRF_44),(39,TRF_39),(45,TRF_45),(180,TRF_180),(38,TRF_38)]
theorem TRF_ok:TabOk Tryz.prog TRF:=((((((((((((TabOk.nil _).cons TRF_38_ok).cons TRF_180_ok).cons TRF_45_ok).cons TRF_39_ok).cons TRF_44_ok).cons TRF_33_ok).cons TRF_59_ok).cons TRF_3_ok).cons TRF_86_ok).cons TRF_35_ok).cons TRF_41_ok)
namespace Ru
structure Good (b:Int) (C:List Ty) (p:Li.Pr):Prop where
 w:RightWd b C p.m
 l:Li.rt p.l=true
 r:Li.rt p.r=true
 u:∃ u,tyOf C p.m p.l=some u∧u.args=[]∧IsOf C p.m p.l [] u∧IsOf C p.m p.r [] u
end Ru
theorem ruclos_d (b:Int)(C M:List Ty)(u:Ty)(t:Tm)(c:Int)(hC:C.length≤1000000)(hM:M.length≤1000000)(hc:checkCode C M t [] u c)(hz:t.full≤90000)(hf:t.Fit):
  CallC Tryz.prog 97 [.ag (eTm t),.p 10 0,.p 34 0] [(.c 10 0,.v (.int .i64 b)),(.c 10 1,.sl 2 (eTys C) none),(.c 10 2,.sl 2 (eTys M) none),(.c 34 0,.sl 2 (eTys u.args) none),(.c 34 1,.v (.int .i64 u.base))] [(.c 10 0,.v (.int .i64 b)),(.c 10 1,.sl 2 (eTys C) none),(.c 10 2,.sl 2 (eTys M) none),(.c 34 0,.sl 2 (eTys u.args) none),(.c 34 1,.v (.int .i64 u.base))] (.v (.bool (decide (c=0)))):=by
 have h:=tcheck_d b C M t u c hC hM hc (by omega) hf
 rw[eTm_eq,eTy_eq] at h
 rw[eTm_eq]
 refine calldw 35 10 [ResultVar.tmp 4] TRF_ok Tryz.func97 rfl Tryz.ntmps97 rfl fun cx hnt hn0=>?_
 ·skip
  refine dw_seq ?_;refine dwk [] TRF_ok hnt fun _ z9=>z9 _ _ ?_;refine dw_seq ?_;refine dwk [(9,.v (.bool (decide (c=0))))] TRF_ok hnt fun K hK=>?_;refine dcl (h) ?_;refine And.intro (VLe.of_eq (by by_cases h:c=0 <;> simp[h])) ?_;refine hK _ _ ?_;clear hK K;refine dw_ret ?_
  exact reta rfl
theorem checkYes {C M:List Ty}{t:Tm}{u:Ty}(h1:Li.rt t=true)(h2:IsOf C M t [] u):checkCode C M t [] u 0:=by
 unfold Li.rt at h1;rw[decide_eq_true_eq] at h1
 exact .inr (.inr ⟨h1,h2,rfl⟩)
theorem checkNo {C M:List Ty}{t:Tm}{u:Ty}(h1:Li.rt t=true)(h2:¬ IsOf C M t [] u):checkCode C M t [] u 5:=by
 unfold Li.rt at h1;rw[decide_eq_true_eq] at h1
 exact .inr (.inl ⟨h1,h2,rfl⟩)
namespace Ru
def ms (t:Tm):List Int:=sortU (metasL [t])
def chk (p:Li.Pr):Int:=if p.l.kind≠1 then 6 else if (Pn.uses p.l [] []).2=false then 6 else if ((ms p.r).any fun x=>!((ms p.l).contains x))=true then 7 else 0
end Ru
namespace Ru
def kA:Ty:=.mk [] 0
def kC:List Ty:=[.mk [kA,kA] 0,.mk [kA] 0]
end Ru
namespace Ru
def rg:Nat→List Int
 | 0=>[]
 | n+1=>rg n++[(n:Int)]
end Ru
end Go.Proofs.YtflbnonbfmmchaaGreat
