/-
  Package subst, walked in the deep way: Apply. Package subst, walked in the deep way: through, Apply. What forms grow to where terms are put for variables: no more heads than units that are spent; plain. What is asked of the forms on the way of subst.Apply holds with small budgets; plain. The type of a head: the program's and the document's. The type of a head: the document's. Whether a term is of a type: the plain law. Terms put for variables keep types; plain. Variables' long forms put for variables are a renaming; plain. Terms put for variables, and for metavariables, functions without errors; how they stand to each other; plain. Variables' long forms put for variables are a renaming: by units that are left; plain. Variables' long forms put for variables are a renaming: a variable's long form gives what is put for it; plain. Terms, walked in the deep way: Equal, Eta, Var; the document's Same, Eta, Var. term.Loose. Package pattern, walked in the deep way: what is small. Deep values: a function that hands back a new map. Package pattern, walked in the deep way: Flex, Vars, places, types. Package pattern, walked in the deep way: places, types. The laws' helpers of layers 8 and 9: Low, Of. Package pattern, walked in the deep way: turned, Take. Package pattern, walked in the deep way: Take.
-/
import Derived.Test.YtflbnonbfmmchaaGreatRowSubstKeepsp5
import Derived.Test.YtflbnonbfmmchaaGreatRowSubstKeepsp1
import Derived.Deep.QuietTactic
import Derived.BigQuiet
import Derived.WalkSmall
import Derived.Test.YtflbnonbfmmchaaGreatRowSubstKeepsp4
set_option maxRecDepth 100000
set_option maxHeartbeats 1000000
set_option linter.unusedVariables false
set_option linter.unusedSimpArgs false
namespace Go.Proofs.YtflbnonbfmmchaaGreat
open Go.RowKit
def TS2_41:TI:=⟨4,true,[Value.slice none 0 0,Value.int IntKind.i64 0,Value.int IntKind.i64 0,Value.slice none 0 0],[(0,1,false),(1,2,true),(3,1,false)],none,64,6,none,false⟩
theorem TS2_41_ok:TypOk Tryz.prog 41 TS2_41:=by constructor <;> kernel_rfl
def TS2_123:TI:=⟨3,true,[Value.pointer none,Value.slice none 0 0,Value.int IntKind.i64 0],[(0,1,false),(1,1,false),(2,1,false)],none,40,6,none,false⟩
theorem TS2_123_ok:TypOk Tryz.prog 123 TS2_123:=by constructor <;> kernel_rfl
def TS2_45:TI:=⟨1,false,[Value.int IntKind.i64 0],[],none,8,2,none,false⟩
theorem TS2_45_ok:TypOk Tryz.prog 45 TS2_45:=by constructor <;> kernel_rfl
def TS2_3:TI:=⟨1,false,[Value.int IntKind.i64 0],[],none,8,2,none,false⟩
theorem TS2_3_ok:TypOk Tryz.prog 3 TS2_3:=by constructor <;> kernel_rfl
def TS2_39:TI:=⟨1,false,[Value.slice none 0 0],[],some 41,24,5,none,false⟩
theorem TS2_39_ok:TypOk Tryz.prog 39 TS2_39:=by constructor <;> kernel_rfl
def TS2_33:TI:=⟨1,false,[Value.slice none 0 0],[],some 44,24,5,none,false⟩
theorem TS2_33_ok:TypOk Tryz.prog 33 TS2_33:=by constructor <;> kernel_rfl
def TS2_56:TI:=⟨1,false,[Value.pointer none],[],none,8,4,none,false⟩
theorem TS2_56_ok:TypOk Tryz.prog 56 TS2_56:=by constructor <;> kernel_rfl
def TS2_38:TI:=⟨2,true,[Value.int IntKind.i64 0,Value.int IntKind.i64 0],[(0,1,false),(1,1,false)],none,16,6,none,true⟩
theorem TS2_38_ok:TypOk Tryz.prog 38 TS2_38:=by constructor <;> kernel_rfl
def TS2_51:TI:=⟨1,false,[Value.slice none 0 0],[],some 79,24,5,none,false⟩
theorem TS2_51_ok:TypOk Tryz.prog 51 TS2_51:=by constructor <;> kernel_rfl
def TS2_121:TI:=⟨1,false,[Value.pointer none],[],none,8,4,none,false⟩
theorem TS2_121_ok:TypOk Tryz.prog 121 TS2_121:=by constructor <;> kernel_rfl
def TS2_79:TI:=⟨5,true,[Value.int IntKind.i64 0,Value.slice none 0 0,Value.int IntKind.i64 0,Value.int IntKind.i64 0,Value.slice none 0 0],[(0,1,false),(1,4,true)],none,72,6,none,false⟩
theorem TS2_79_ok:TypOk Tryz.prog 79 TS2_79:=by constructor <;> kernel_rfl
def TS2_174:TI:=⟨1,false,[Value.pointer none],[],none,8,4,none,false⟩
theorem TS2_174_ok:TypOk Tryz.prog 174 TS2_174:=by constructor <;> kernel_rfl
def TS2_44:TI:=⟨2,true,[Value.slice none 0 0,Value.int IntKind.i64 0],[(0,1,false),(1,1,false)],none,32,6,none,false⟩
theorem TS2_44_ok:TypOk Tryz.prog 44 TS2_44:=by constructor <;> kernel_rfl
def TS2:List (Nat×TI):=[(41,TS2_41),(123,TS2_123),(45,TS2_45),(3,TS2_3),(39,TS2_39),(33,TS2_33),(56,TS2_56),(38,TS2_38),(51,TS2_51),(121,TS2_121),(79,TS2_79),(174,TS2_174),(44,TS2_44)]
theorem TS2_ok:TabOk Tryz.prog TS2:=((((((((((((((TabOk.nil _).cons TS2_44_ok).cons TS2_174_ok).cons TS2_79_ok).cons TS2_121_ok).cons TS2_51_ok).cons TS2_38_ok).cons TS2_56_ok).cons TS2_33_ok).cons TS2_39_ok).cons TS2_3_ok).cons TS2_45_ok).cons TS2_123_ok).cons TS2_41_ok)
def swE (l:List (Int×Tm))(s:Nm.St):List (Key×D):=[(.c 0 0,.o 1),(.c 0 1,.sl 5 (ePairs l) none),(.c 0 2,.v (.int .i64 s.e)),(.o 1,.ob (BudJ s.left s.dry))]
theorem replaced_d (l:List (Int×Tm))(t u:Tm)(s:Nm.St)(h0:0≤s.left)(h1:s.left≤1000000000)(hu:Wide u)(ha:∀ a∈t.args,Wide a) 
  (ho:u.binds.length=t.args.length→(Nm.put 100001 u t.args ⟨s.left,s.dry,0,0⟩).2.e=0→DoneOk (Nm.put 100001 u t.args ⟨s.left,s.dry,0,0⟩).1) (he:s.e=0) :
  CallC Tryz.prog 115 [.p 0 0,.ag (eTm t),.ag (eTm u)] (swE l s) (swE l (Sb.replaced t u s).2) (.ag (eTm (Sb.replaced t u s).1)):=by
 have hP:=Put_d u t.args s.left s.dry h0 h1 hu ha
 obtain⟨left,dry,count,er⟩:=s
 dsimp only at he h0 h1 ho hP
 subst he
 obtain⟨bs,k,i,a⟩:=t
 dsimp only[Tm.args] at ho hP ha
 obtain⟨p,hp⟩:∃ p,Sb.replaced (.mk bs k i a) u ⟨left,dry,count,0⟩=p:=⟨_,rfl⟩
 rw[hp]
 have hpd:=hp.symm
 clear hp
 have hp1:u.binds.length≠a.length→p=(Nm.tz,⟨left,dry,count,1⟩):=fun h=>hpd.trans (if_pos h)
 have hp2:u.binds.length=a.length→p=if (Nm.Put u a left dry).2.e≠0 then (Nm.tz,⟨(Nm.Put u a left dry).2.left,(Nm.Put u a left dry).2.dry,count,(Nm.Put u a left dry).2.e⟩) else (.mk bs (Nm.Put u a left dry).1.kind (Nm.Put u a left dry).1.index (Nm.Put u a left dry).1.args,⟨(Nm.Put u a left dry).2.left,(Nm.Put u a left dry).2.dry,count,0⟩):=fun h=>hpd.trans (if_neg (fun h'=>h' h))
 clear hpd
 obtain⟨ub,uk,ui,ua⟩:=u
 rw[eTm_eq,eTm_eq (.mk ub uk ui ua)]
 dsimp only[Tm.binds] at hp1 hp2 ho
 refine call_of_dw 2 42 [ResultVar.cell 6 41] TS2_ok (by kernel_rfl) Tryz.func115 rfl Tryz.ntmps115 rfl (by simp) ?dwords ?dbody
 case dwords=>simp[wordsOk,swE,D.ok,D.oks,rnames,inN,ckey,eTm_ok,eTms_ok,eTys_ok,ePairs_ok]
 case dbody=>
  intro cx hnt hn0
  dsimp only[Tm.binds,Tm.kind,Tm.index,Tm.args]
  refine dw_seq ?_;refine dwk [] TS2_ok hnt fun _ z9=>z9 _ _ ?_;refine dw_seq (dw_seq ?_)
  by_cases hl:ub.length=a.length
  ·have hpd:=hp2 hl
   have hP:=hP (ho hl)
   obtain⟨r,hr⟩:∃ r,Nm.Put (.mk ub uk ui ua) a left dry=r:=⟨_,rfl⟩
   rw[hr] at hP hpd
   clear hr
   obtain⟨rt,rs⟩:=r
   dsimp only at hP hpd
   rw[eTm_eq,eTm_eq rt] at hP
   refine dwk [(15,.v (.bool false))] TS2_ok hnt fun K hK=>?_;refine And.intro (VLe.of_eq (by simp[eTys_len,eTms_len,hl])) ?_;refine hK _ _ ?_;clear hK K;refine dw_cond (t:=false) rfl ?_;rw[if_neg (by simp)];refine dw_skip ?_;refine dw_seq ?_;refine dwkD [] TS2_ok hnt fun K hK=>?_;refine dcl (hP) ?_;refine hK _ _ (by kernel_rfl) ?_;clear hK K;refine dw_seq (dw_seq ?_)
   by_cases hre:rs.e=0
   ·rw[if_neg (by simp[hre])] at hpd
    subst hpd
    refine dwk [(32,.v (.bool false))] TS2_ok hnt fun K hK=>?_;refine And.intro (VLe.of_eq (by simp[hre])) ?_;refine hK _ _ ?_;clear hK K;refine dw_cond (t:=false) rfl ?_;rw[if_neg (by simp)];refine dw_skip ?_;refine dw_seq ?_;refine dwk [] TS2_ok hnt fun _ z9=>z9 _ _ ?_;refine dw_seq ?_;refine dwk [] TS2_ok hnt fun _ z9=>z9 _ _ ?_;refine dw_ret ?_
    rw[eTm_eq]
    exact retv (N:=0) (.inr rfl) rfl (by repeat first | exact VLe.refl _ | exact VLe.nil _ | exact VLe.untag _ _ _ | refine VLe.ag ?_ | refine VLe.tu ?_ | refine VLeL.cons ?_ ?_ | exact VLeL.nil) (by repeat first | exact trivial | refine And.intro rfl ?_)
   ·rw[if_pos hre] at hpd
    subst hpd
    refine dwk [(32,.v (.bool true))] TS2_ok hnt fun K hK=>?_;refine And.intro (VLe.of_eq (by simp[hre])) ?_;refine hK _ _ ?_;clear hK K;refine dw_cond (t:=true) rfl ?_;rw[if_pos rfl];refine dw_seq ?_;refine dwk [] TS2_ok hnt fun _ z9=>z9 _ _ ?_;refine dw_seq ?_;refine dwk [] TS2_ok hnt fun _ z9=>z9 _ _ ?_;refine dw_ret ?_
    rw[tz_eq]
    exact retv (N:=0) (.inr rfl) rfl (by repeat first | exact VLe.refl _ | exact VLe.nil _ | exact VLe.untag _ _ _ | refine VLe.ag ?_ | refine VLe.tu ?_ | refine VLeL.cons ?_ ?_ | exact VLeL.nil) (by repeat first | exact trivial | refine And.intro rfl ?_)
  ·have hpd:=hp1 hl
   subst hpd
   refine dwk [(15,.v (.bool true))] TS2_ok hnt fun K hK=>?_;refine And.intro (VLe.of_eq (by simp[eTys_len,eTms_len];omega)) ?_;refine hK _ _ ?_;clear hK K;refine dw_cond (t:=true) rfl ?_;rw[if_pos rfl];refine dw_seq ?_;refine dwk [] TS2_ok hnt fun _ z9=>z9 _ _ ?_;refine dw_seq ?_;refine dwk [] TS2_ok hnt fun _ z9=>z9 _ _ ?_;refine dw_ret ?_
   rw[tz_eq]
   exact retv (N:=0) (.inr rfl) rfl (by repeat first | exact VLe.refl _ | exact VLe.nil _ | exact VLe.untag _ _ _ | refine VLe.ag ?_ | refine VLe.tu ?_ | refine VLeL.cons ?_ ?_ | exact VLeL.nil) (by repeat first | exact trivial | refine And.intro rfl ?_)
def repOk (l:List (Int×Tm))(k i ins:Int)(q:List Tm×Nm.St):Prop:=k=2→q.2.e=0→∀ u,Sb.find l i=some u →
 Wide u∧Wide (Nm.lift ins u 0)∧(∀ a∈q.1,Wide a)∧((Nm.lift ins u 0).binds.length=q.1.length→(Nm.put 100001 (Nm.lift ins u 0) q.1 ⟨q.2.left,q.2.dry,0,0⟩).2.e=0→DoneOk (Nm.put 100001 (Nm.lift ins u 0) q.1 ⟨q.2.left,q.2.dry,0,0⟩).1)
mutual
def thOk (l:List (Int×Tm)):Tm→Int→Nm.St→Prop
 | .mk b k i a,ins,s=>s.e=0→(Nm.spend s).1=true→thOks l a (Nm.wr (ins+b.length)) (Nm.spend s).2∧repOk l k i (Nm.wr (ins+b.length)) (Sb.throughs l a (Nm.wr (ins+b.length)) (Nm.spend s).2)
def thOks (l:List (Int×Tm)):List Tm→Int→Nm.St→Prop
 | [],_,_=>True
 | t :: r,ins,s=>thOk l t ins s∧thOks l r ins (Sb.through l t ins s).2
end
def InR (s:Nm.St):Prop:=0≤s.left∧s.left≤1000000000
theorem spend_in {s:Nm.St}(h:InR s):InR (Nm.spend s).2:=by
 unfold InR at *
 unfold Nm.spend
 split
 ·exact⟨Int.le_refl _,by show (0:Int)≤1000000000;decide⟩
 ·rename_i hc;dsimp only;omega
theorem done_in {p:Tm×Nm.St}(h:InR p.2):InR (Nm.done p).2:=by
 unfold Nm.done
 dsimp only
 have:InR (if p.2.e=0∧¬ (p.1.size≤5000∧p.1.depth≤60) then Nm.fail p.2 2 else p.2):=by
  split
  ·unfold Nm.fail;split <;> exact h
  ·exact h
 generalize (if p.2.e=0∧¬ (p.1.size≤5000∧p.1.depth≤60) then Nm.fail p.2 2 else p.2)=s at this ⊢
 split <;> exact this
theorem Put_in {t:Tm}{xs:List Tm}{left:Int}{dry:Bool}(h:0≤left∧left≤1000000000):InR (Nm.Put t xs left dry).2:=
 done_in (putW_wk (through_wk 100001) t xs ⟨left,dry,0,0⟩ ⟨h,⟨Int.le_refl 0,(by decide:(0:Int)≤100001)⟩,fun _=>(by decide:(0:Int)≤100000)⟩).left
theorem replaced_in {t u:Tm}{s:Nm.St}(h:InR s):InR (Sb.replaced t u s).2:=by
 unfold Sb.replaced
 dsimp only
 split
 ·exact h
 ·have:=Put_in (t:=u) (xs:=t.args) (dry:=s.dry) h
  split <;> exact this
theorem seqM_in {g:Tm→Nm.St→Tm×Nm.St}:∀ (l:List Tm) (hg:∀ t∈l,∀ s,InR s→InR (g t s).2) (s:Nm.St),InR s→InR (Nm.seqM g l s).2
 | [],_,_,h=>h
 | t :: l,hg,s,h=>seqM_in l (fun u hu=>hg u (by simp[hu])) _ (hg t (by simp) s h)
theorem through_in (l:List (Int×Tm)):∀ (t:Tm) (ins:Int) (s:Nm.St),InR s→InR (Sb.through l t ins s).2:=by
 intro t
 induction t using Tm.ind with
 | h bs k i a ih=>
  intro ins s h
  rw[Sb.through]
  dsimp only
  rw[Sb.throughs_seq]
  have hq:=seqM_in (g:=fun t s=>Sb.through l t (Nm.wr (ins+bs.length)) s) a (fun t ht s hs=>ih t ht _ s hs) _ (spend_in h)
  split
  ·exact h
  ·split
   ·exact spend_in h
   ·split
    ·exact hq
    ·split
     ·exact hq
     ·exact replaced_in hq
theorem thOks_at (l:List (Int×Tm))(ins:Int):∀ (a:List Tm) (s:Nm.St),thOks l a ins s→∀ j (h:j<a.length),thOk l a[j] ins (Nm.seqM (fun t s=>Sb.through l t ins s) (a.take j) s).2
 | t :: a,s,h,0,_=>by rw[thOks] at h;exact h.1
 | t :: a,s,h,j+1,hj=>by
  rw[thOks] at h
  exact thOks_at l ins a _ h.2 j (by simpa using hj)
theorem Sb_find_idx (l:List (Int×Tm))(m:Int):Sb.find l m=((idxOf m l).bind fun i=>l[i]?).map (·.2):=by
 rw[find_idx]
 cases idxOf m l <;> rfl
def sthE (l:List (Int×Tm))(s:Nm.St)(bs:List Ty)(k i:Int)(a:List Tm)(ins:Int):List (Key×D):=
  [(.t 0,.p 0 0),(.t 2,.v (.int .i64 ins)),(.t 4,.p 2 0),(.t 6,.p 3 0),(.t 7,.p 26 0),(.c 2 0,.sl 2 (eTys bs) none),(.c 2 1,.v (.int .i64 k)),(.c 2 2,.v (.int .i64 i)),(.c 2 3,.sl 4 (eTms a) none),
   (.c 3 0,.v (.slice none 0 0)),(.c 3 1,.v (.int .i64 0)),(.c 3 2,.v (.int .i64 0)),(.c 3 3,.v (.slice none 0 0)),(.c 26 0,.sl 2 (eTys bs) none),(.c 26 1,.v (.int .i64 k)),(.c 26 2,.v (.int .i64 i)),
   (.c 0 0,.o 1),(.c 0 1,.sl 5 (ePairs l) none),(.c 0 2,.v (.int .i64 s.e)),(.o 1,.ob (BudJ s.left s.dry))]
set_option maxHeartbeats 4000000 in
theorem sthr_d (l:List (Int×Tm))(hl:l.length≤1000000):∀ (t:Tm) (_:Wide t) (ins:Int) (s:Nm.St),InR s→thOk l t ins s →
  CallC Tryz.prog 65 [.p 0 0,.ag (eTm t),.v (.int .i64 ins)] (swE l s) (swE l (Sb.through l t ins s).2) (.ag (eTm (Sb.through l t ins s).1)):=by
 intro t
 induction t using Tm.ind with
 | h bs k i a ih=>
 intro ht ins s hs hok
 obtain⟨w1,w2,w3⟩:=ht.inv
 obtain⟨p,hp⟩:∃ p,Sb.through l (.mk bs k i a) ins s=p:=⟨_,rfl⟩
 rw[Sb.through,Sb.throughs_seq] at hp
 rw[thOk,Sb.throughs_seq] at hok
 obtain⟨m,hm⟩:∃ m,Nm.wr (ins+(bs.length:Int))=m:=⟨_,rfl⟩
 rw[hm] at hp hok
 have hp':Sb.through l (.mk bs k i a) ins s=p:=by rw[←hp,Sb.through,Sb.throughs_seq,hm]
 rw[hp',eTm_eq]
 have hpd:=hp.symm
 dsimp only at hpd
 clear hp hp'
 have hsp:=spend_d 1 s hs.1 hs.2
 have hsi:=spend_in hs
 have hse:=(Nm.spend_keeps s).2
 obtain⟨g,hg⟩:∃ g:Tm→Nm.St→Tm×Nm.St,(fun t s=>Sb.through l t m s)=g:=⟨_,rfl⟩
 have hat:=thOks_at l m a (Nm.spend s).2
 rw[hg] at hpd hok hat
 obtain⟨left,dry,count,er⟩:=s
 dsimp only at hsp hsi hse hpd hok hat
 refine call_of_dw 2 86 [ResultVar.cell 6 41] TS2_ok (by kernel_rfl) Tryz.func65 rfl Tryz.ntmps65 rfl (by simp) ?dwords ?dbody
 case dwords=>simp[wordsOk,swE,D.ok,D.oks,rnames,inN,ckey,eTm_ok,eTms_ok,eTys_ok,ePairs_ok]
 case dbody=>
  intro cx hnt hn0
  dsimp only[Tm.binds,Tm.kind,Tm.index,Tm.args]
  refine dw_seq ?_;refine dwk [] TS2_ok hnt fun _ z9=>z9 _ _ ?_;refine dw_seq (dw_seq ?_)
  by_cases he:er=0
  ·subst he
   refine dwk [(15,.v (.bool false))] TS2_ok hnt fun K hK=>?_;refine And.intro (VLe.refl _) ?_;refine hK _ _ ?_;clear hK K;refine dw_cond (t:=false) rfl ?_;rw[if_neg (by simp)];refine dw_skip ?_;rw[if_neg (by simp)] at hpd;refine dw_seq (dw_seq ?_)
   obtain⟨sp,hspq⟩:∃ sp,Nm.spend ⟨left,dry,count,0⟩=sp:=⟨_,rfl⟩
   rw[hspq] at hsp hsi hse hpd hok hat
   clear hspq
   obtain⟨b,s1⟩:=sp
   dsimp only at hsp hsi hse hpd hok hat
   cases b with
   | false=>
    rw[if_pos rfl] at hpd
    subst hpd
    refine dwk [] TS2_ok hnt fun K hK=>?_;refine dcl (hsp) ?_;refine hK _ _ ?_;clear hK K;refine dw_cond (t:=true) rfl ?_;rw[if_pos rfl];refine dw_seq ?_;refine dwk [] TS2_ok hnt fun _ z9=>z9 _ _ ?_;refine dw_seq ?_;refine dwk [] TS2_ok hnt fun _ z9=>z9 _ _ ?_;refine dw_ret ?_
    rw[tz_eq]
    exact retv (N:=0) (.inr rfl) rfl (by repeat first | exact VLe.refl _ | exact VLe.nil _ | exact VLe.untag _ _ _ | refine VLe.ag ?_ | refine VLe.tu ?_ | refine VLeL.cons ?_ ?_ | exact VLeL.nil) (by repeat first | exact trivial | refine And.intro rfl ?_)
   | true=>
    rw[if_neg (by simp)] at hpd
    obtain⟨hok1,hok2⟩:=hok rfl rfl
    have hat:=hat hok1
    clear hok hok1
    refine dwk [] TS2_ok hnt fun K hK=>?_;refine dcl (hsp) ?_;refine hK _ _ ?_;clear hK K;refine dw_cond (t:=false) rfl ?_;rw[if_neg (by simp)];refine dw_skip ?_;refine dw_seq ?_;refine dwk [(31,.v (.int .i64 m))] TS2_ok hnt fun K hK=>?_;refine And.intro (VLe.of_eq (by rw[eTys_len,←wr_wrap,hm])) ?_;refine hK _ _ ?_;clear hK K
    refine dw_cut (τ:=(.c 26 3,.v (.slice none 0 0)) :: sthE l ⟨s1.left,s1.dry,s1.count,0⟩ bs k i a m) (N1:=27) ?_ ?_
    ·skip
     refine dwk [] TS2_ok hnt fun _ z9=>z9 _ _ ?_
     exact cut_ok VS.toA
    ·have hs1:(⟨s1.left,s1.dry,s1.count,0⟩:Nm.St)=s1:=by rw[←hse]
     rw[hs1]
     dsimp only[sthE]
     refine dw_seq ?_;refine dw_seq ?_;refine dwk [(39,.v (.int .i64 a.length))] TS2_ok hnt fun K hK=>?_;refine And.intro (dintE (by rw[eTms_len])) ?_;refine hK _ _ ?_;clear hK K;refine dw_block ?_
     refine dw_loop (ι:=Nat) (fun j=>(.t 38,.sl 4 (eTms a) none) :: (.t 39,.v (.int .i64 a.length)) :: (.t 40,.v (.int .i64 j)) :: (.c 26 3,.sl 4 (eTms (Nm.seqM g (a.take j) s1).1) (some 31)) :: (.r 31,.rw 41 4 j) :: sthE l (Nm.seqM g (a.take j) s1).2 bs k i a m) 32 (fun j=>a.length-j) 0 (VS.trans (VS.row (k:=26) (off:=3) 41 4 rfl) VS.toA) fun j=>?_
     dsimp only[sthE]
     have hst:InR (Nm.seqM g (a.take j) s1).2:=seqM_in _ (fun t _ s h=>by rw[←hg];exact through_in l t m s h) _ hsi
     have hll:(Nm.seqM g (a.take j) s1).1.length=(a.take j).length:=Nm.seqM_length ..
     refine dw_seq ?_
     by_cases hlt:j<a.length
     ·have hcon:=ih a[j] (List.getElem_mem hlt) (w3 _ (List.getElem_mem hlt)) m (Nm.seqM g (a.take j) s1).2 hst (hat j hlt)
      have hg2:Sb.through l a[j] m (Nm.seqM g (a.take j) s1).2=g a[j] (Nm.seqM g (a.take j) s1).2:=by rw[←hg]
      rw[hg2] at hcon
      have hsq:=Nm.seqM_take g a j hlt s1
      rw[eTm_eq,eTm_eq] at hcon
      refine dwk [(41,.v (.bool true))] TS2_ok hnt fun K hK=>?_;refine And.intro (dtrue (by omega)) ?_;refine hK _ _ ?_;clear hK K;refine dw_seq (dw_cond (t:=true) rfl ?_);rw[if_pos rfl];refine dw_skip (dw_seq (dw_block (dw_seq ?_)));refine dwk [(42,.q [.sl 2 (eTys a[j].binds) none,.v (.int .i64 a[j].kind),.v (.int .i64 a[j].index),.sl 4 (eTms a[j].args) none])] TS2_ok hnt fun K hK=>?_
      refine And.intro (⟨by omega,by rw[eTms_len];omega⟩) ?_;refine And.intro (VLe.of_eq (by rw[Int.toNat_natCast,eTms_getD a j hlt,eTm_eq])) ?_;refine hK _ _ ?_;clear hK K;refine dwkD [(51,.sl 4 (eTms (Nm.seqM g (a.take (j+1)) s1).1) (some 31))] TS2_ok hnt fun K hK=>?_;refine dcl (hcon) ?_;refine And.intro (⟨by rw[eTms_len,hll,List.length_take];omega,by rw[eTms_len,hll,List.length_take];simp;omega⟩) ?_
      refine And.intro (VLe.of_eq (by rw[hsq,eTms_append,eTms,eTms,eTm_eq (g a[j] _).1])) ?_;refine hK _ _ (by kernel_rfl) ?_;clear hK K;refine dwk [(53,.v (.int .i64 ((j+1:Nat):Int)))] TS2_ok hnt fun K hK=>?_;refine And.intro (dintE (by rw[IntWalk.i64_in _ (by omega)];omega)) ?_;refine hK _ _ ?_;clear hK K
      refine⟨j+1,by omega,?_⟩
      have hl2:(eTms (Nm.seqM g (a.take j) s1).1).length=j:=by rw[eTms_len,hll,List.length_take];omega
      rw[hsq]
      exact(by try simp only[List.length_append,List.length_take,List.length_cons,List.length_nil,Nat.zero_add,hl2];exact VS.toA)
     ·rw[List.take_of_length_le (by omega)] at hst hll ⊢
      obtain⟨q,hq⟩:∃ q,Nm.seqM g a s1=q:=⟨_,rfl⟩
      rw[hq] at hst hll hpd hok2 ⊢
      clear hq
      obtain⟨as',s2⟩:=q
      dsimp only at hst hll hpd hok2 ⊢
      have hen:=eTms_len as'
      obtain⟨left,dry,count,er⟩:=s2
      dsimp only at hst hpd hok2 ⊢
      refine dwk [(41,.v (.bool false))] TS2_ok hnt fun K hK=>?_;refine And.intro (dfalse (by omega)) ?_;refine hK _ _ ?_;clear hK K;refine dw_seq (dw_cond (t:=false) rfl ?_);rw[if_neg (by simp)];refine dw_exit ?_;refine dw_seq ?_;refine dw_seq ?_
      by_cases hk:k≠2
      ·rw[if_pos (.inl hk)] at hpd
       subst hpd
       refine dwk [(57,.v (.bool true))] TS2_ok hnt fun K hK=>?_;refine And.intro (VLe.of_eq (by simp[hk])) ?_;refine hK _ _ ?_;clear hK K;refine dw_cond (t:=true) rfl ?_;rw[if_pos rfl];refine dw_seq ?_;refine dwk [] TS2_ok hnt fun _ z9=>z9 _ _ ?_;refine dw_ret ?_
       rw[eTm_eq]
       exact retv (N:=0) (.inr rfl) rfl (by repeat first | exact VLe.refl _ | exact VLe.nil _ | exact VLe.untag _ _ _ | refine VLe.ag ?_ | refine VLe.tu ?_ | refine VLeL.cons ?_ ?_ | exact VLeL.nil) (by repeat first | exact trivial | refine And.intro rfl ?_)
      ·have hk:k=2:=by simpa using hk
       by_cases her:er≠0
       ·rw[if_pos (.inr her)] at hpd
        subst hpd
        refine dwk [(57,.v (.bool false)),(63,.v (.bool true))] TS2_ok hnt fun K hK=>?_;refine And.intro (VLe.of_eq (by simp[hk])) ?_;refine And.intro (VLe.of_eq (by simp[her])) ?_;refine hK _ _ ?_;clear hK K;refine dw_cond (t:=true) rfl ?_;rw[if_pos rfl];refine dw_seq ?_;refine dwk [] TS2_ok hnt fun _ z9=>z9 _ _ ?_;refine dw_ret ?_
        rw[eTm_eq]
        exact retv (N:=0) (.inr rfl) rfl (by repeat first | exact VLe.refl _ | exact VLe.nil _ | exact VLe.untag _ _ _ | refine VLe.ag ?_ | refine VLe.tu ?_ | refine VLeL.cons ?_ ?_ | exact VLeL.nil) (by repeat first | exact trivial | refine And.intro rfl ?_)
       ·have her:er=0:=by simpa using her
        rw[if_neg (fun h=>h.elim (fun h=>h hk) fun h=>h her)] at hpd
        subst her
        have hok2:=hok2 hk rfl
        have hfind:=sfind_d l hl i
        rw[Sb_find_idx] at hpd hok2
        refine dwk [(57,.v (.bool false)),(63,.v (.bool false))] TS2_ok hnt fun K hK=>?_;refine And.intro (VLe.of_eq (by simp[hk])) ?_;refine And.intro (VLe.refl _) ?_;refine hK _ _ ?_;clear hK K;refine dw_cond (t:=false) rfl ?_;rw[if_neg (by simp)];refine dw_skip ?_;refine dw_seq ?_
        cases hx:(idxOf i l).bind fun i=>l[i]? with
        | none=>
         rw[hx] at hfind hpd
         dsimp only at hfind
         simp only[Option.map_none] at hpd
         subst hpd
         refine dwkD [] TS2_ok hnt fun K hK=>?_;refine dcl (hfind) ?_;refine hK _ _ (by kernel_rfl) ?_;clear hK K;refine dw_seq (dw_seq ?_);refine dwk [] TS2_ok hnt fun _ z9=>z9 _ _ ?_;refine dw_cond (t:=true) rfl ?_;rw[if_pos rfl];refine dw_seq ?_;refine dwk [] TS2_ok hnt fun _ z9=>z9 _ _ ?_;refine dw_ret ?_
         rw[eTm_eq]
         exact retv (N:=0) (.inr rfl) rfl (by repeat first | exact VLe.refl _ | exact VLe.nil _ | exact VLe.untag _ _ _ | refine VLe.ag ?_ | refine VLe.tu ?_ | refine VLeL.cons ?_ ?_ | exact VLeL.nil) (by repeat first | exact trivial | refine And.intro rfl ?_)
        | some pr=>
         rw[hx] at hfind hpd hok2
         simp only[Option.map_some] at hpd hok2
         obtain⟨o1,o2,o3,o4⟩:=hok2 pr.2 rfl
         have hgr:=grown_d pr.2 o1 m 0
         obtain⟨v,hv⟩:∃ v,Nm.lift m pr.2 0=v:=⟨_,rfl⟩
         rw[hv] at hpd hgr o2 o4
         have hrep:=replaced_d l (.mk bs k i as') v ⟨left,dry,count,0⟩ hst.1 hst.2 o2 o3 o4 rfl
         rw[←hpd] at hrep
         dsimp only at hfind
         rw[ePair_eq] at hfind
         rw[eTm_eq,eTm_eq] at hgr
         rw[eTm_eq,eTm_eq,eTm_eq] at hrep
         refine dwkD [] TS2_ok hnt fun K hK=>?_;refine dcl (hfind) ?_;refine hK _ _ (by kernel_rfl) ?_;clear hK K;refine dw_seq (dw_seq ?_);refine dwk [] TS2_ok hnt fun _ z9=>z9 _ _ ?_;refine dw_cond (t:=false) rfl ?_;rw[if_neg (by simp)];refine dw_skip ?_;refine dw_seq ?_;refine dwkD [(78,.ag [.sl 2 (eTys bs) none,.v (.int .i64 k),.v (.int .i64 i),.sl 4 (eTms as') none])] TS2_ok hnt fun K hK=>?_
         refine And.intro (auV) ?_;refine dcl (hgr) ?_;refine dcl (hrep) ?_;refine hK _ _ (by kernel_rfl) ?_;clear hK K;refine dw_ret ?_
         rw[eTm_eq]
         exact retv (N:=0) (.inr rfl) rfl (by repeat first | exact VLe.refl _ | exact VLe.nil _ | exact VLe.untag _ _ _ | refine VLe.ag ?_ | refine VLe.tu ?_ | refine VLeL.cons ?_ ?_ | exact VLeL.nil) (by repeat first | exact trivial | refine And.intro rfl ?_)
  ·rw[if_pos he] at hpd
   subst hpd
   refine dwk [(15,.v (.bool true))] TS2_ok hnt fun K hK=>?_;refine And.intro (VLe.of_eq (by simp[he])) ?_;refine hK _ _ ?_;clear hK K;refine dw_cond (t:=true) rfl ?_;rw[if_pos rfl];refine dw_seq ?_;refine dwk [] TS2_ok hnt fun _ z9=>z9 _ _ ?_;refine dw_ret ?_
   rw[tz_eq]
   exact retv (N:=0) (.inr rfl) rfl (by repeat first | exact VLe.refl _ | exact VLe.nil _ | exact VLe.untag _ _ _ | refine VLe.ag ?_ | refine VLe.tu ?_ | refine VLeL.cons ?_ ?_ | exact VLeL.nil) (by repeat first | exact trivial | refine And.intro rfl ?_)
inductive Bnd (B:Nat):Tm→Prop where
 | mk (b:List Ty) (k i:Int) (a:List Tm):Ty.sizes b≤B→-9223372036854775808≤i∧i≤9223372036854775807→(∀ u∈a,Bnd B u)→Bnd B (.mk b k i a)
namespace Bnd
variable {B:Nat}
theorem inv {b:List Ty}{k i:Int}{a:List Tm}(h:Bnd B (.mk b k i a)):Ty.sizes b≤B∧(-9223372036854775808≤i∧i≤9223372036854775807)∧∀ u∈a,Bnd B u:=by
 cases h with
 | mk _ _ _ _ h1 h2 h3=>exact⟨h1,h2,h3⟩
theorem parts {t:Tm}(h:Bnd B t):Ty.sizes t.binds≤B∧(-9223372036854775808≤t.index∧t.index≤9223372036854775807)∧∀ u∈t.args,Bnd B u:=by
 obtain⟨b,k,i,a⟩:=t;exact h.inv
theorem fit (t:Tm):Bnd B t→t.Fit:=by
 induction t using Tm.ind with
 | h b k i a ih=>
  intro h
  obtain⟨_,h2,h3⟩:=h.inv
  exact Tm.fit_iff.2 ⟨h2.1,h2.2,fun u hu=>ih u hu (h3 u hu)⟩
theorem fulls_of {l:List Tm}(h:∀ t∈l,t.full≤t.size * (B+1)):Tm.fulls l≤Tm.sizes l * (B+1):=by
 induction l with
 | nil=>simp[Tm.fulls,Tm.sizes]
 | cons t l ih=>
  have h1:=h t (by simp)
  have h2:=ih fun u hu=>h u (by simp[hu])
  simp only[Tm.fulls,Tm.sizes]
  rw[Nat.add_mul];omega
theorem full (t:Tm):Bnd B t→t.full≤t.size * (B+1):=by
 induction t using Tm.ind with
 | h b k i a ih=>
  intro h
  obtain⟨h1,_,h3⟩:=h.inv
  have:=fulls_of fun u hu=>ih u hu (h3 u hu)
  rw[Tm.full_eq,Tm.size_eq,Nat.add_mul];omega
theorem of_full (t:Tm):t.full≤B→t.Fit→Bnd B t:=by
 induction t using Tm.ind with
 | h b k i a ih=>
  intro h hf
  rw[Tm.full_eq] at h
  obtain⟨f1,f2,f3⟩:=Tm.fit_iff.1 hf
  exact .mk _ _ _ _ (by omega) ⟨f1,f2⟩ fun u hu=>ih u hu (by have:=Tm.full_mem hu;omega) (f3 u hu)
theorem wr_in (x:Int):-9223372036854775808≤Nm.wr x∧Nm.wr x≤9223372036854775807:=wf_i64 (wrap64_wf x)
theorem lift (t:Tm)(y ins:Int):Bnd B t→Bnd B (Nm.lift y t ins):=by
 induction t using Tm.ind generalizing ins with
 | h b k i a ih=>
  intro h
  obtain⟨h1,h2,h3⟩:=h.inv
  rw[Nm.lift_eq,Nm.lifts_map]
  refine .mk _ _ _ _ h1 (by split;exact wr_in _;exact h2) fun u hu=>?_
  obtain⟨v,hv,rfl⟩:=List.mem_map.1 hu
  exact ih v hv _ (h3 v hv)
theorem grown {t:Tm}(h:Bnd B t)(y:Int):Bnd B (Nm.grown t y):=by
 unfold Nm.grown;split
 ·exact h
 ·exact lift t y 0 h
theorem tz:Bnd B Nm.tz:=.mk _ _ _ _ (by simp[Ty.sizes]) (by decide) fun u h=>by cases h
theorem body {t:Tm}(h:Bnd B t):Bnd B (.mk [] t.kind t.index t.args):=.mk _ _ _ _ (by simp[Ty.sizes]) h.parts.2.1 h.parts.2.2
theorem drop_sizes (l:List Ty)(n:Nat):Ty.sizes (l.drop n)≤Ty.sizes l:=by
 have:=Ty.sizes_append (l.take n) (l.drop n)
 rw[List.take_append_drop] at this;omega
theorem getD {xs:List Tm}(h:∀ x∈xs,Bnd B x)(j:Nat):Bnd B (xs.getD j Nm.tz):=by
 rw[List.getD_eq_getElem?_getD]
 by_cases hj:j<xs.length
 ·rw[List.getElem?_eq_getElem hj];exact h _ (List.getElem_mem hj)
 ·rw[List.getElem?_eq_none (by omega)];exact tz
theorem wide (t:Tm):Bnd B t→t.size≤100000→B≤100000→Wide t:=by
 induction t using Tm.ind with
 | h b k i a ih=>
  intro h hs hB
  obtain⟨h1,_,h3⟩:=h.inv
  rw[Tm.size_eq] at hs
  refine .mk _ _ _ _ (by have:=Ty.le_sizes b;omega) (by have:=Tm.len_sizes a;omega) fun u hu=>ih u hu (h3 u hu) (by have:=Tm.size_mem hu;omega) hB
end Bnd
namespace Nm
theorem unit_left {s:St}(h:(unit s).1=true):(unit s).2.left=s.left-1:=by
 unfold unit at h ⊢
 split
 ·rename_i he;rw[if_pos he] at h;cases h
 ·rename_i he
  rw[if_neg he] at h
  split
  ·rename_i hc;rw[if_pos hc] at h;cases h
  ·rename_i hc
   rw[if_neg hc] at h
   have hsp:∀ p,spend s=p→p.1=true→p.2.left=s.left-1:=fun p hp h1=>by
    unfold spend at hp
    split at hp
    ·subst hp;cases h1
    ·subst hp;rfl
   generalize hp:spend s=p at h ⊢
   obtain⟨ok,s'⟩:=p
   cases ok
   ·cases h
   ·exact hsp (true,s') hp rfl
def Gr (B f:Nat)(t:Tm)(s:St)(p:Tm×St):Prop:=p.2.e=0→s.e=0∧(p.1.size:Int)+p.2.left≤s.left∧Bnd B p.1
def Fu (f:Nat)(s:St):Prop:=s.e=0→100001-s.count≤f
theorem seqM_grow {B f:Nat}{g:Tm→St→Tm×St}:∀ (l:List Tm) (hg:∀ t∈l,∀ s,WkOk s→Fu f s→Gr B f t s (g t s)) (hw:∀ t s,WkOk s→WkOk (g t s).2) (hc:∀ t s,s.count≤(g t s).2.count) (s:St),WkOk s→Fu f s →
  (seqM g l s).2.e=0→s.e=0∧(Tm.sizes (seqM g l s).1:Int)+(seqM g l s).2.left≤s.left∧∀ u∈(seqM g l s).1,Bnd B u
 | [],_,_,_,s,_,_,h=>⟨h,by simp[seqM,Tm.sizes],fun u hu=>by cases hu⟩
 | t :: l,hg,hw,hc,s,hs,hf,h=>by
  have h1:=hg t (by simp) s hs hf
  have h2:=seqM_grow l (fun u hu=>hg u (by simp[hu])) hw hc (g t s).2 (hw t s hs) (fun e=>by
   have:=hf (h1 e).1
   have:=hc t s
   omega) h
  have h3:=h1 h2.1
  refine⟨h3.1,?_,fun u hu=>?_⟩
  ·simp only[seqM,Tm.sizes]
   have:=h2.2.1
   have:=h3.2.1
   omega
  ·rcases List.mem_cons.1 hu with rfl | hu
   ·exact h3.2.2
   ·exact h2.2.2 u hu
theorem fail_ne (s:St):(fail s 1).e≠0:=by
 unfold fail;split
 ·show (1:Int)≠0;decide
 ·assumption
def GrThr (B f:Nat)(thr:Thr):Prop:=∀ xs n t ins s,WkOk s→Fu f s→(∀ x∈xs,Bnd B x)→Bnd B t→Gr B f t s (thr xs n t ins s)
theorem putW_grow {B f:Nat}{thr:Thr}(h:GrThr B f thr){t:Tm}{xs:List Tm}{s:St}(hs:WkOk s)(hf:Fu f s)(ht:Bnd B t)(hx:∀ x∈xs,Bnd B x):Gr B f t s (putW thr t xs s):=by
 unfold putW
 split
 ·intro e;exact absurd e (fail_ne s)
 ·intro e
  have h1:=h xs t.binds.length (.mk [] t.kind t.index t.args) 0 s hs hf hx ht.body e
  refine⟨h1.1,?_,?_⟩
  ·have hsz:(Tm.mk (t.binds.drop xs.length) (thr xs t.binds.length (.mk [] t.kind t.index t.args) 0 s).1.kind (thr xs t.binds.length (.mk [] t.kind t.index t.args) 0 s).1.index (thr xs t.binds.length (.mk [] t.kind t.index t.args) 0 s).1.args).size=(thr xs t.binds.length (.mk [] t.kind t.index t.args) 0 s).1.size:=by
    generalize (thr xs t.binds.length (.mk [] t.kind t.index t.args) 0 s).1=r
    obtain⟨b,k,i,a⟩:=r
    rw[Tm.size_eq,Tm.size_eq];rfl
   dsimp only
   rw[hsz];exact h1.2.1
  ·have hr:=h1.2.2.parts
   exact .mk _ _ _ _ (Nat.le_trans (Bnd.drop_sizes _ _) ht.parts.1) hr.2.1 hr.2.2
theorem hit_grow {B f:Nat}{thr:Thr}(h:GrThr B f thr){xs:List Tm}{n:Nat}{t:Tm}{ins:Int}{args:List Tm}{s:St}(hs:WkOk s)(hf:Fu f s)(ht:Bnd B t)(hx:∀ x∈xs,Bnd B x)(ha:∀ a∈args,Bnd B a):
  (hit thr xs n t ins args s).2.e=0→s.e=0∧((hit thr xs n t ins args s).1.size:Int)+(hit thr xs n t ins args s).2.left≤s.left+Tm.sizes args+1∧Bnd B (hit thr xs n t ins args s).1:=by
 obtain⟨t1,t2,t3⟩:=ht.parts
 unfold hit
 split
 ·intro e;exact⟨e,by dsimp only;rw[Tm.size_eq];omega,.mk _ _ _ _ t1 t2 ha⟩
 ·dsimp only
  split
  ·intro e;exact⟨e,by dsimp only;rw[Tm.size_eq];omega,.mk _ _ _ _ t1 t2 ha⟩
  ·split
   ·intro e;exact⟨e,by dsimp only;rw[Tm.size_eq];omega,.mk _ _ _ _ t1 (Bnd.wr_in _) ha⟩
   ·split
    ·intro e;exact absurd e (fail_ne s)
    ·intro e
     have hu:Bnd B (grown (xs.getD ((n:Int)-1-wr (t.index-ins)).toNat tz) (wr (wr (ins+n)-xs.length))):=(Bnd.getD hx _).grown _
     have h1:=putW_grow h hs hf hu ha e
     refine⟨h1.1,?_,?_⟩
     ·have h2:=h1.2.1
      generalize (putW thr (grown (xs.getD ((n:Int)-1-wr (t.index-ins)).toNat tz) (wr (wr (ins+n)-xs.length))) args s)=r at h2 ⊢
      obtain⟨⟨b,k,i,a⟩,s'⟩:=r
      dsimp only at h2 ⊢
      rw[Tm.size_eq] at h2 ⊢
      show ((Tm.sizes a+1:Nat):Int)+s'.left≤_
      omega
     ·have h2:=h1.2.2.parts
      exact .mk _ _ _ _ t1 h2.2.1 h2.2.2
theorem through_grow (B:Nat):∀ f,GrThr B f (through f)
 | 0=>fun xs n t ins s hs hf _ _ e=>by
  have e':s.e=0:=e
  have h1:=hf e'
  have h2:=hs.e0 e'
  omega
 | f+1=>fun xs n t ins s hs hf hx ht=>by
  have ih:=through_grow B f
  intro e
  unfold through at e ⊢
  dsimp only at e ⊢
  by_cases hu:(unit s).1=true
  ·rw[if_pos hu] at e ⊢
   obtain⟨u1,u2,u3⟩:=(unit_count s).2 hu
   have ul:=unit_left hu
   have hw:=unit_wk hs
   have hf1:Fu f (unit s).2:=fun _=>by have:=hf u2;omega
   have hq:=seqM_grow (B:=B) (f:=f) (g:=fun a s=>through f xs n a (wr (ins+t.binds.length)) s) t.args (fun u hu s hs hf=>ih xs n u _ s hs hf hx (ht.parts.2.2 u hu)) (fun u s h=>through_wk f _ _ _ _ _ h) (fun u s=>through_count f _ _ _ _ _) (unit s).2 hw hf1
   have hqw:=seqM_wk (g:=fun a s=>through f xs n a (wr (ins+t.binds.length)) s) (fun u s h=>through_wk f _ _ _ _ _ h) t.args _ hw
   have hqc:=seqM_count (g:=fun a s=>through f xs n a (wr (ins+t.binds.length)) s) (fun u s=>through_count f _ _ _ _ _) t.args (unit s).2
   generalize seqM (fun a s=>through f xs n a (wr (ins+t.binds.length)) s) t.args (unit s).2=q at e hq hqw hqc ⊢
   by_cases hqe:q.2.e=0
   ·have hq:=hq hqe
    have h1:=hit_grow ih (xs:=xs) (n:=n) (t:=t) (ins:=wr (ins+t.binds.length)) (args:=q.1) (s:=q.2) hqw (fun _=>by have:=hf1 u3;omega) ht hx hq.2.2 e
    exact⟨u2,by have:=h1.2.1;have:=hq.2.1;omega,h1.2.2⟩
   ·exfalso
    have hx2:∀ p,hit (through f) xs n t (wr (ins+t.binds.length)) q.1 q.2=p→p.2.e=0→q.2.e=0:=fun p hp hpe=>by
     unfold hit at hp
     split at hp
     ·subst hp;exact hpe
     ·dsimp only at hp
      split at hp
      ·subst hp;exact hpe
      ·split at hp
       ·subst hp;exact hpe
       ·split at hp
        ·subst hp;exact absurd hpe (fail_ne _)
        ·subst hp
         unfold putW at hpe
         rw[if_pos (.inl hqe)] at hpe
         exact absurd hpe (fail_ne _)
    exact hqe (hx2 _ rfl e)
  ·rw[if_neg hu] at e
   exfalso
   have:(unit s).1=false:=by simpa using hu
   have h2:∀ p,unit s=p→p.1=false→p.2.e≠0:=fun p hp h1=>by
    unfold unit at hp
    split at hp
    ·subst hp;assumption
    ·split at hp
     ·subst hp;show (2:Int)≠0;decide
     ·generalize spend s=r at hp
      obtain⟨ok,s'⟩:=r
      cases ok
      ·subst hp;show (11:Int)≠0;decide
      ·subst hp;cases h1
   exact h2 _ rfl this e
end Nm
namespace Sb
variable {B:Nat}
theorem find_mem {l:List (Int×Tm)}{i:Int}{u:Tm}(h:find l i=some u):∃ p∈l,p.2=u:=by
 unfold find at h
 cases hf:l.find? (fun p=>p.1==i) with
 | none=>rw[hf] at h;cases h
 | some p=>rw[hf] at h;cases h;exact⟨p,List.mem_of_find?_eq_some hf,rfl⟩
theorem Put_grow {u:Tm}{xs:List Tm}{left:Int}{dry:Bool}(h0:0≤left∧left≤1000000000)(hu:Bnd B u)(hx:∀ x∈xs,Bnd B x):
  (Nm.Put u xs left dry).2.e=0→((Nm.Put u xs left dry).1.size:Int)+(Nm.Put u xs left dry).2.left≤left∧Bnd B (Nm.Put u xs left dry).1:=by
 have h1:=Nm.putW_grow (Nm.through_grow B 100001) (t:=u) (xs:=xs) (s:=⟨left,dry,0,0⟩) ⟨h0,⟨Int.le_refl 0,(by decide:(0:Int)≤100001)⟩,fun _=>(by decide:(0:Int)≤100000)⟩ (fun _=>by show (100001:Int)-0≤((100001:Nat):Int);decide) hu hx
 unfold Nm.Put Nm.done
 dsimp only
 show _
 have h2:Nm.put 100001 u xs ⟨left,dry,0,0⟩=Nm.putW (Nm.through 100001) u xs ⟨left,dry,0,0⟩:=rfl
 rw[h2]
 generalize Nm.putW (Nm.through 100001) u xs ⟨left,dry,0,0⟩=p at h1
 intro e
 have key:p.2.e=0∧(p.1.size≤5000∧p.1.depth≤60):=by
  by_cases hc:p.2.e=0∧¬ (p.1.size≤5000∧p.1.depth≤60)
  ·exfalso
   rw[if_pos hc] at e
   have hf:(Nm.fail p.2 2).e=2:=by unfold Nm.fail;rw[if_pos hc.1]
   rw[if_pos (by rw[hf];decide)] at e
   rw[hf] at e;cases e
  ·rw[if_neg hc] at e
   by_cases hp:p.2.e=0
   ·exact⟨hp,by
     by_cases h5:p.1.size≤5000∧p.1.depth≤60
     ·exact h5
     ·exact absurd ⟨hp,h5⟩ hc⟩
   ·rw[if_pos hp] at e;exact absurd e hp
 have hc:¬ (p.2.e=0∧¬ (p.1.size≤5000∧p.1.depth≤60)):=fun h=>h.2 key.2
 rw[if_neg hc,if_neg (fun h=>h key.1)]
 have h3:=h1 key.1
 exact⟨h3.2.1,h3.2.2⟩
theorem seq_grow {g:Tm→Nm.St→Tm×Nm.St}:∀ (a:List Tm) (hg:∀ t∈a,∀ s,InR s→(g t s).2.e=0→s.e=0∧((g t s).1.size:Int)+(g t s).2.left≤s.left∧Bnd B (g t s).1) (hi:∀ t∈a,∀ s,InR s→InR (g t s).2) (s:Nm.St),InR s →
  (Nm.seqM g a s).2.e=0→s.e=0∧(Tm.sizes (Nm.seqM g a s).1:Int)+(Nm.seqM g a s).2.left≤s.left∧∀ u∈(Nm.seqM g a s).1,Bnd B u
 | [],_,_,s,_,h=>⟨h,by simp[Nm.seqM,Tm.sizes],fun u hu=>by cases hu⟩
 | t :: a,hg,hi,s,hs,h=>by
  have h2:=seq_grow a (fun u hu=>hg u (by simp[hu])) (fun u hu=>hi u (by simp[hu])) (g t s).2 (hi t (by simp) s hs) h
  have h3:=hg t (by simp) s hs h2.1
  refine⟨h3.1,?_,fun u hu=>?_⟩
  ·simp only[Nm.seqM,Tm.sizes]
   have:=h2.2.1
   have:=h3.2.1
   omega
  ·rcases List.mem_cons.1 hu with rfl | hu
   ·exact h3.2.2
   ·exact h2.2.2 u hu
theorem spend_ok {s:Nm.St}(h:(Nm.spend s).1=true):(Nm.spend s).2.left=s.left-1∧(Nm.spend s).2.e=s.e:=by
 unfold Nm.spend at h ⊢
 split
 ·rename_i hc;rw[if_pos hc] at h;cases h
 ·exact⟨rfl,rfl⟩
theorem grow (l:List (Int×Tm))(hl:∀ p∈l,Bnd B p.2):∀ t:Tm,Bnd B t→∀ (ins:Int) (s:Nm.St),InR s→(through l t ins s).2.e=0→s.e=0∧((through l t ins s).1.size:Int)+(through l t ins s).2.left≤s.left∧Bnd B (through l t ins s).1:=by
 intro t
 induction t using Tm.ind with
 | h b k i a ih=>
  intro ht ins s hs
  obtain⟨t1,t2,t3⟩:=ht.inv
  rw[through]
  dsimp only
  split
  ·intro e;exact absurd e (by assumption)
  ·rename_i he
   have he0:s.e=0:=by omega
   split
   ·intro e;cases e
   ·rename_i hsp
    have hsp:(Nm.spend s).1=true:=by simpa using hsp
    obtain⟨s1,s2⟩:=spend_ok hsp
    rw[throughs_seq]
    have hin:=spend_in hs
    have hq:=seq_grow (B:=B) (g:=fun t s=>through l t (Nm.wr (ins+b.length)) s) a (fun u hu s hs=>ih u hu (t3 u hu) _ s hs) (fun u hu s hs=>through_in l u _ s hs) (Nm.spend s).2 hin
    have hqi:=seqM_in (g:=fun t s=>through l t (Nm.wr (ins+b.length)) s) a (fun u hu s hs=>through_in l u _ s hs) _ hin
    generalize Nm.seqM (fun t s=>through l t (Nm.wr (ins+b.length)) s) a (Nm.spend s).2=q at hq hqi ⊢
    have plain:q.2.e=0→s.e=0∧((Tm.mk b k i q.1).size:Int)+q.2.left≤s.left∧Bnd B (.mk b k i q.1):=fun e=>by
     have h1:=hq e
     refine⟨he0,?_,.mk _ _ _ _ t1 t2 h1.2.2⟩
     rw[Tm.size_eq]
     have:=h1.2.1
     omega
    split
    ·exact plain
    ·rename_i hk
     have hqe:q.2.e=0:=by
      by_cases h:q.2.e=0
      ·exact h
      ·exact absurd (.inr h) hk
     have h1:=hq hqe
     split
     ·exact plain
     ·rename_i u hu
      obtain⟨p,hp,rfl⟩:=find_mem hu
      unfold replaced
      split
      ·intro e;cases e
      ·dsimp only
       have hP:=Put_grow (B:=B) (u:=Nm.lift (Nm.wr (ins+b.length)) p.2 0) (xs:=q.1) (left:=q.2.left) (dry:=q.2.dry) hqi (Bnd.lift _ _ _ (hl p hp)) h1.2.2
       have harg:(Tm.mk b k i q.1).args=q.1:=rfl
       rw[harg]
       generalize Nm.Put (Nm.lift (Nm.wr (ins+b.length)) p.2 0) q.1 q.2.left q.2.dry=r at hP
       split
       ·rename_i hr;intro e;exact absurd e hr
       ·rename_i hr
        have hr0:r.2.e=0:=by omega
        obtain⟨h2,h3⟩:=hP hr0
        intro _
        obtain⟨⟨rb,rk,ri,rg⟩,rs⟩:=r
        dsimp only at h2 h3 ⊢
        have hp3:=h3.inv
        rw[Tm.size_eq] at h2
        have h4:=h1.2.1
        refine⟨he0,?_,.mk _ _ _ _ t1 hp3.2.1 hp3.2.2⟩
        show (((Tm.sizes rg+1:Nat)):Int)+rs.left≤s.left
        omega
theorem put_grow {u:Tm}{xs:List Tm}{left:Int}{dry:Bool}(h0:0≤left∧left≤1000000000)(hu:Bnd B u)(hx:∀ x∈xs,Bnd B x):
  (Nm.put 100001 u xs ⟨left,dry,0,0⟩).2.e=0→((Nm.put 100001 u xs ⟨left,dry,0,0⟩).1.size:Int)≤left∧Bnd B (Nm.put 100001 u xs ⟨left,dry,0,0⟩).1:=fun e=>by
 have hw:WkOk ⟨left,dry,0,0⟩:=⟨h0,⟨Int.le_refl 0,(by decide:(0:Int)≤100001)⟩,fun _=>(by decide:(0:Int)≤100000)⟩
 have h1:=Nm.putW_grow (Nm.through_grow B 100001) (t:=u) (xs:=xs) hw (fun _=>by show (100001:Int)-0≤((100001:Nat):Int);decide) hu hx e
 have h2:=(putW_wk (through_wk 100001) u xs _ hw).left.1
 have h3:=h1.2.1
 have h4:Nm.put 100001 u xs ⟨left,dry,0,0⟩=Nm.putW (Nm.through 100001) u xs ⟨left,dry,0,0⟩:=rfl
 rw[h4]
 exact⟨by dsimp only at h3;omega,h1.2.2⟩
theorem done_ok {L:Nat}(hLB:L * (B+1)≤4400000)(hB:B≤170){t:Tm}(h:Bnd B t)(hs:t.size≤L):DoneOk t:=by
 have h1:=Bnd.full t h
 have h2:t.size * (B+1)≤L * (B+1):=Nat.mul_le_mul_right _ hs
 refine⟨by omega,fun h3=>⟨?_,Bnd.fit t h⟩⟩
 have h4:t.size * (B+1)≤5000 * 171:=Nat.mul_le_mul h3.1 (by omega)
 omega
theorem size_mem' {t:Tm}{l:List Tm}(h:t∈l):t.size≤Tm.sizes l:=Tm.size_mem h
theorem th_ok (L:Nat)(hLB:L * (B+1)≤4400000)(hB:B≤170)(hL:L≤100000)(l:List (Int×Tm))(hl:∀ p∈l,Bnd B p.2∧Wide p.2):∀ t:Tm,Bnd B t→∀ (ins:Int) (s:Nm.St),InR s→(s.e=0→s.left≤L)→thOk l t ins s:=by
 have hl1:∀ p∈l,Bnd B p.2:=fun p hp=>(hl p hp).1
 intro t
 induction t using Tm.ind with
 | h b k i a ih=>
  intro ht ins s hs hle
  obtain⟨t1,t2,t3⟩:=ht.inv
  rw[thOk]
  intro he hsp
  obtain⟨s1,s2⟩:=spend_ok hsp
  have hin:=spend_in hs
  have hle0:=hle he
  constructor
  ·have key:∀ (a:List Tm),(∀ u∈a,Bnd B u)→(∀ u∈a,∀ ins s,InR s→(s.e=0→s.left≤L)→thOk l u ins s)→∀ (ins:Int) (s:Nm.St),InR s→(s.e=0→s.left≤L)→thOks l a ins s:=by
    intro a
    induction a with
    | nil=>intro _ _ ins s _ _;rw[thOks];trivial
    | cons u a ih2=>
     intro hb h ins s hs hle
     rw[thOks]
     refine⟨h u (by simp) ins s hs hle,ih2 (fun v hv=>hb v (by simp[hv])) (fun v hv=>h v (by simp[hv])) ins _ (through_in l u ins s hs) fun e=>?_⟩
     have h1:=grow l hl1 u (hb u (by simp)) ins s hs e
     have:=hle h1.1
     have:=h1.2.1
     omega
   exact key a t3 (fun u hu ins s=>ih u hu (t3 u hu) ins s) _ _ hin (fun _=>by omega)
  ·intro hk hqe u hu
   obtain⟨p,hp,rfl⟩:=find_mem hu
   rw[throughs_seq] at hqe ⊢
   have hq:=seq_grow (B:=B) (g:=fun t s=>through l t (Nm.wr (ins+b.length)) s) a (fun u hu s hs=>grow l hl1 u (t3 u hu) _ s hs) (fun u hu s hs=>through_in l u _ s hs) (Nm.spend s).2 hin
   have hqi:=seqM_in (g:=fun t s=>through l t (Nm.wr (ins+b.length)) s) a (fun u hu s hs=>through_in l u _ s hs) _ hin
   generalize Nm.seqM (fun t s=>through l t (Nm.wr (ins+b.length)) s) a (Nm.spend s).2=q at hqe hq hqi ⊢
   have h1:=hq hqe
   have hsz:=h1.2.1
   have hl0:=hqi.1
   refine⟨(hl p hp).2,(hl p hp).2.lift _ _,fun x hx=>Bnd.wide x (h1.2.2 x hx) (by have:=size_mem' hx;omega) (by omega),fun _ hpe=>?_⟩
   have h2:=put_grow (B:=B) (dry:=q.2.dry) hqi (Bnd.lift _ (Nm.wr (ins+b.length)) 0 (hl p hp).1) h1.2.2 hpe
   exact done_ok hLB hB h2.2 (by have:=h2.1;omega)
theorem apply_ok (L:Nat)(hLB:L * (B+1)≤4400000)(hB:B≤170)(hL:L≤100000)(l:List (Int×Tm))(hl:∀ p∈l,Bnd B p.2∧Wide p.2)(t:Tm)(ht:Bnd B t)(left:Int)(h0:0≤left∧left≤L)(dry:Bool):
  thOk l t 0 ⟨left,dry,0,0⟩∧((through l t 0 ⟨left,dry,0,0⟩).2.e=0→DoneOk (through l t 0 ⟨left,dry,0,0⟩).1):=by
 have hin:InR ⟨left,dry,0,0⟩:=⟨h0.1,by show left≤1000000000;omega⟩
 refine⟨th_ok L hLB hB hL l hl t ht 0 _ hin (fun _=>h0.2),fun e=>?_⟩
 have h1:=grow l (fun p hp=>(hl p hp).1) t ht 0 _ hin e
 have h2:=(through_in l t 0 _ hin).1
 have h3:=h1.2.1
 exact done_ok hLB hB h1.2.2 (by dsimp only at h3;omega)
end Sb
def headTy (C M X:List Ty)(k i:Int):Option Ty:=
 if i<0 then none else if k=0 then X.reverse[i.toNat]? else if k=1 then C[i.toNat]? else if k=2 then M[i.toNat]? else none
theorem headTy_neg {C M X:List Ty}{k i:Int}(h:i<0):headTy C M X k i=none:=by rw[headTy,if_pos h]
theorem headTy_0 {C M X:List Ty}(i:Nat):headTy C M X 0 i=X.reverse[i]?:=by rw[headTy,if_neg (by omega),if_pos rfl];rfl
theorem headTy_1 {C M X:List Ty}(i:Nat):headTy C M X 1 i=C[i]?:=by rw[headTy,if_neg (by omega),if_neg (by decide),if_pos rfl];rfl
theorem headTy_2 {C M X:List Ty}(i:Nat):headTy C M X 2 i=M[i]?:=by rw[headTy,if_neg (by omega),if_neg (by decide),if_neg (by decide),if_pos rfl];rfl
theorem headTy_o {C M X:List Ty}{k i:Int}(h0:k≠0)(h1:k≠1)(h2:k≠2):headTy C M X k i=none:=by
 rw[headTy,if_neg h0,if_neg h1,if_neg h2];split <;> rfl
def tyZ:Ty:=.mk [] 0
theorem isTy_zero (F:Nat→Prop)(w:World):IsTy F w (.slice none 0 0) (.int .i64 0) tyZ:=isTy_mk (isSl_nil rpTy F w) 0
def HeadPost (F:Nat→Prop)(o:Option Ty)(w:World)(e:Ending)(w':World):Prop:=∃ s b,e=.returned (.tuple #[.agg #[s,b],.bool o.isSome])∧IsTy F w' s b (o.getD tyZ)∧Below w.heap.size w w'
theorem sl_at {G F:Nat→Prop}{w:World}{a:Option Addr}{n c:Nat}{l:List Ty}(h:IsSl2 rpTy G F w (.slice a n c) l)(j:Nat)(hj:j<l.length):∃ bl off A N C B,a=some ⟨bl,off,none⟩∧G bl ∧
  w.cell? ⟨bl,off+j * 2,none⟩=some (.slice A N C)∧w.cell? ⟨bl,off+j * 2+1,none⟩=some (.int .i64 B)∧IsTy F w (.slice A N C) (.int .i64 B) l[j]:=by
 obtain⟨a',c',bl,off,X,hv,_,ha,h1,h2⟩:=h
 cases hv
 obtain⟨ha,hG⟩:=ha (by omega)
 obtain⟨s,b,hx,ht⟩:=h2 j hj
 obtain⟨sa,sc,rfl,rfl⟩:=ht.shape
 exact⟨bl,off,_,_,_,_,ha,hG,h1 j 0 _ hj (by rw[hx];rfl),h1 j 1 _ hj (by rw[hx];rfl),ht⟩
theorem head_end0 {F:Nat→Prop}{w w3:World}{o:Option Ty}(B3:Below w.heap.size w w3)(ho:o=none):
  HeadPost F o w (.returned (.tuple #[.agg #[.slice none 0 0,.int .i64 0],.bool false])) w3:=by
 subst ho
 exact⟨_,_,rfl,isTy_zero _ _,B3⟩
theorem head_end {F:Nat→Prop}{w w3:World}{A B:Value}{t:Ty}{o:Option Ty}{p:Nat}(hF:∀ q,F q→q<w.heap.size)(hp:w.heap.size≤p)(B3:Below w.heap.size w w3)(ht:IsTy F w A B t)(ho:o.getD tyZ=t)(b:Bool)(hb:b=o.isSome):
  HeadPost F o w (.returned (.tuple #[.agg #[A,B],.bool b])) ((w3.setCell ⟨p,0,none⟩ A).setCell ⟨p,1,none⟩ B):=by
 subst hb ho
 have hn:¬ F p:=fun h=>by have:=hF p h;omega
 exact⟨_,_,rfl,ht.keep ((((Keep.refl _ _).below B3).setCell _ _ hn).setCell _ _ hn),(B3.setCell (by simp;omega) _).setCell (by simp;omega) _⟩
set_option maxRecDepth 100000 in
set_option maxHeartbeats 4000000 in
theorem headType_k {F:Nat→Prop}{w:World}{b:Int}{cv mv xv:Value}{C M X:List Ty}(hF:∀ q,F q→q<w.heap.size)(hc:IsSl rpTy F w cv C)(hm:IsSl rpTy F w mv M)(hx:IsSl2 rpTy (fun _=>True) F w xv X)(k i:Int)(hi:i≤9223372036854775807):
  Calls Tryz.prog 54 #[.agg #[.int .i64 b,cv,mv],xv,.agg #[.int .i64 k,.int .i64 i]] w (HeadPost F (headTy C M X k i) w):=by
 obtain⟨ca,cc,rfl⟩:=hc.shape
 obtain⟨ma,mc,rfl⟩:=hm.shape
 obtain⟨xa,xc,rfl⟩:=hx.shape
 have Hxl:Hid ((X.length:Int)≤9223372036854775807):=by obtain⟨_,_,_,_,_,_,h,_⟩:=hx;unfold maxLen at h;show _≤_;omega
 have Hc:=Lib.hid (sl_at (IsSl2.of hc));have Hm:=Lib.hid (sl_at (IsSl2.of hm));have Hx:=Lib.hid (sl_at hx)
 have hF:=Lib.hid hF
 clear hc hm hx
 obtain⟨o,ho⟩:∃ o,headTy C M X k i=o:=⟨_,rfl⟩
 have Ho:=Lib.hid ho
 rw[ho]
 clear ho
 by_cases k1:k=1
 ·subst k1
  go_enter Tryz.func54,Tryz.ntmps54
  go_wp2_with fail
  obtain⟨w3,hw3⟩:∃ w3,((w.alloc (.cells #[.int .i64 b,.slice ca C.length cc,.slice ma M.length mc] 35)).alloc (.cells #[.int .i64 1,.int .i64 i] 38)).alloc (.cells #[.slice none 0 0,.int .i64 0] 44)=w3:=⟨_,rfl⟩
  have B_w3:Below w.heap.size w w3:=by rw[←hw3];exact(((Below.refl _ _).alloc (Nat.le_refl _) _).alloc (by simp) _).alloc (by simp;omega) _
  have x0_w3:Blk w3 w.heap.size #[.int .i64 b,.slice ca C.length cc,.slice ma M.length mc] 35:=by rw[←hw3];exact((Blk.new _ _ _ rfl).alloc _).alloc _
  have x1_w3:Blk w3 (w.heap.size+1) #[.int .i64 1,.int .i64 i] 38:=by rw[←hw3];exact(Blk.new _ _ _ (by simp)).alloc _
  have x2_w3:Blk w3 (w.heap.size+1+1) #[.slice none 0 0,.int .i64 0] 44:=by rw[←hw3];exact Blk.new _ _ _ (by simp)
  rw[hw3]
  clear hw3
  have cx00:w3.cell? ⟨w.heap.size,0,none⟩=some (.int .i64 b):=x0_w3.cell rfl
  have cx01:w3.cell? ⟨w.heap.size,1,none⟩=some (.slice ca C.length cc):=x0_w3.cell rfl
  have cx02:w3.cell? ⟨w.heap.size,2,none⟩=some (.slice ma M.length mc):=x0_w3.cell rfl
  have lx0:=x0_w3.lt
  have cx10:w3.cell? ⟨w.heap.size+1,0,none⟩=some (.int .i64 1):=x1_w3.cell rfl
  have cx11:w3.cell? ⟨w.heap.size+1,1,none⟩=some (.int .i64 i):=x1_w3.cell rfl
  have lx1:=x1_w3.lt
  have cx20:w3.cell? ⟨w.heap.size+1+1,0,none⟩=some (.slice none 0 0):=x2_w3.cell rfl
  have cx21:w3.cell? ⟨w.heap.size+1+1,1,none⟩=some (.int .i64 0):=x2_w3.cell rfl
  have lx2:=x2_w3.lt
  go_quiet (fail)
  clear cx00 cx01 cx02 lx0 cx10 cx11 lx1 cx20 cx21 lx2
  obtain⟨w5,hw5⟩:∃ x,w3.drewN nq=x:=⟨_,rfl⟩
  rw[hw5]
  have hbx:Below w3.heap.size w3 w5:=by rw[←hw5];exact below_drewN (Below.refl _ _) _
  clear hw5
  have x0_w5:=x0_w3.below hbx
  have x1_w5:=x1_w3.below hbx
  have x2_w5:=x2_w3.below hbx
  have B_w5:=B_w3.trans (hbx.mono B_w3.size)
  clear x0_w3 x1_w3 x2_w3 B_w3 hbx
  have c0:w5.cell? ⟨w.heap.size+1+1,0,none⟩=some (.slice none 0 0):=x2_w5.cell rfl
  have c1:w5.cell? ⟨w.heap.size+1+1,1,none⟩=some (.int .i64 0):=x2_w5.cell rfl
  have f0:=x2_w5.free 0
  have f1:=x2_w5.free 1
  by_cases i0:i<0
  ·go_wp2_with fail
   have z0_0:=((x2_w5).set 0 (.slice none 0 0)).cell (i:=0) (v:=.slice none 0 0) rfl
   have z0_1:=(((x2_w5).set 0 (.slice none 0 0)).set 1 (.int .i64 0)).cell (i:=0) (v:=.slice none 0 0) rfl
   have z1_1:=(((x2_w5).set 0 (.slice none 0 0)).set 1 (.int .i64 0)).cell (i:=1) (v:=.int .i64 0) rfl
   refine bodyPost_ret (v:=.tuple #[.agg #[.slice none 0 0,.int .i64 0],.bool false]) (by simp[results,Tryz.results54,go_sem,z0_0,z0_1,z1_1]) rfl ?_
   clear z0_0 z0_1 z1_1
   exact head_end hF.out (by omega) B_w5 (isTy_zero _ _) (by rw[←Ho.out,headTy_neg i0];rfl) _ (by rw[←Ho.out,headTy_neg i0];rfl)
  obtain⟨j,rfl⟩:∃ j:Nat,i=(j:Int):=⟨i.toNat,by omega⟩
  by_cases i1:j<C.length
  ·skip
   obtain⟨bl,off,A,N,Cc,Bb,rfl,_,e1,e2,hT⟩:=Hc.out j i1
   have e1:w5.cell? ⟨bl,off+j * 2,none⟩=some (.slice A N Cc):=((Keep.refl (fun _=>True) _).below B_w5) _ _ _ trivial e1
   have e2:w5.cell? ⟨bl,off+j * 2+1,none⟩=some (.int .i64 Bb):=((Keep.refl (fun _=>True) _).below B_w5) _ _ _ trivial e2
   have HT:=Lib.hid hT;clear hT
   have l0:=Keep.lt e1
   go_wp2_with fail
   have z0_0:=((x2_w5).set 0 (.slice A N Cc)).cell (i:=0) (v:=.slice A N Cc) rfl
   have z0_1:=(((x2_w5).set 0 (.slice A N Cc)).set 1 (.int .i64 Bb)).cell (i:=0) (v:=.slice A N Cc) rfl
   have z1_1:=(((x2_w5).set 0 (.slice A N Cc)).set 1 (.int .i64 Bb)).cell (i:=1) (v:=.int .i64 Bb) rfl
   refine bodyPost_ret (v:=.tuple #[.agg #[.slice A N Cc,.int .i64 Bb],.bool true]) (by simp[results,Tryz.results54,go_sem,z0_0,z0_1,z1_1]) rfl ?_
   clear z0_0 z0_1 z1_1
   exact head_end hF.out (by omega) B_w5 HT.out (by rw[←Ho.out,headTy_1,List.getElem?_eq_getElem i1];rfl) _ (by rw[←Ho.out,headTy_1,List.getElem?_eq_getElem i1];rfl)
  ·go_wp2_with fail
   have z0_0:=((x2_w5).set 0 (.slice none 0 0)).cell (i:=0) (v:=.slice none 0 0) rfl
   have z0_1:=(((x2_w5).set 0 (.slice none 0 0)).set 1 (.int .i64 0)).cell (i:=0) (v:=.slice none 0 0) rfl
   have z1_1:=(((x2_w5).set 0 (.slice none 0 0)).set 1 (.int .i64 0)).cell (i:=1) (v:=.int .i64 0) rfl
   refine bodyPost_ret (v:=.tuple #[.agg #[.slice none 0 0,.int .i64 0],.bool false]) (by simp[results,Tryz.results54,go_sem,z0_0,z0_1,z1_1]) rfl ?_
   clear z0_0 z0_1 z1_1
   exact head_end hF.out (by omega) B_w5 (isTy_zero _ _) (by rw[←Ho.out,headTy_1,List.getElem?_eq_none (by omega)];rfl) _ (by rw[←Ho.out,headTy_1,List.getElem?_eq_none (by omega)];rfl)
 by_cases k2:k=2
 ·subst k2
  go_enter Tryz.func54,Tryz.ntmps54
  go_wp2_with fail
  obtain⟨w3,hw3⟩:∃ w3,((w.alloc (.cells #[.int .i64 b,.slice ca C.length cc,.slice ma M.length mc] 35)).alloc (.cells #[.int .i64 2,.int .i64 i] 38)).alloc (.cells #[.slice none 0 0,.int .i64 0] 44)=w3:=⟨_,rfl⟩
  have B_w3:Below w.heap.size w w3:=by rw[←hw3];exact(((Below.refl _ _).alloc (Nat.le_refl _) _).alloc (by simp) _).alloc (by simp;omega) _
  have x0_w3:Blk w3 w.heap.size #[.int .i64 b,.slice ca C.length cc,.slice ma M.length mc] 35:=by rw[←hw3];exact((Blk.new _ _ _ rfl).alloc _).alloc _
  have x1_w3:Blk w3 (w.heap.size+1) #[.int .i64 2,.int .i64 i] 38:=by rw[←hw3];exact(Blk.new _ _ _ (by simp)).alloc _
  have x2_w3:Blk w3 (w.heap.size+1+1) #[.slice none 0 0,.int .i64 0] 44:=by rw[←hw3];exact Blk.new _ _ _ (by simp)
  rw[hw3]
  clear hw3
  have cx00:w3.cell? ⟨w.heap.size,0,none⟩=some (.int .i64 b):=x0_w3.cell rfl
  have cx01:w3.cell? ⟨w.heap.size,1,none⟩=some (.slice ca C.length cc):=x0_w3.cell rfl
  have cx02:w3.cell? ⟨w.heap.size,2,none⟩=some (.slice ma M.length mc):=x0_w3.cell rfl
  have lx0:=x0_w3.lt
  have cx10:w3.cell? ⟨w.heap.size+1,0,none⟩=some (.int .i64 2):=x1_w3.cell rfl
  have cx11:w3.cell? ⟨w.heap.size+1,1,none⟩=some (.int .i64 i):=x1_w3.cell rfl
  have lx1:=x1_w3.lt
  have cx20:w3.cell? ⟨w.heap.size+1+1,0,none⟩=some (.slice none 0 0):=x2_w3.cell rfl
  have cx21:w3.cell? ⟨w.heap.size+1+1,1,none⟩=some (.int .i64 0):=x2_w3.cell rfl
  have lx2:=x2_w3.lt
  go_quiet (fail)
  clear cx00 cx01 cx02 lx0 cx10 cx11 lx1 cx20 cx21 lx2
  obtain⟨w5,hw5⟩:∃ x,w3.drewN nq=x:=⟨_,rfl⟩
  rw[hw5]
  have hbx:Below w3.heap.size w3 w5:=by rw[←hw5];exact below_drewN (Below.refl _ _) _
  clear hw5
  have x0_w5:=x0_w3.below hbx
  have x1_w5:=x1_w3.below hbx
  have x2_w5:=x2_w3.below hbx
  have B_w5:=B_w3.trans (hbx.mono B_w3.size)
  clear x0_w3 x1_w3 x2_w3 B_w3 hbx
  have c0:w5.cell? ⟨w.heap.size+1+1,0,none⟩=some (.slice none 0 0):=x2_w5.cell rfl
  have c1:w5.cell? ⟨w.heap.size+1+1,1,none⟩=some (.int .i64 0):=x2_w5.cell rfl
  have f0:=x2_w5.free 0
  have f1:=x2_w5.free 1
  by_cases i0:i<0
  ·go_wp2_with fail
   have z0_0:=((x2_w5).set 0 (.slice none 0 0)).cell (i:=0) (v:=.slice none 0 0) rfl
   have z0_1:=(((x2_w5).set 0 (.slice none 0 0)).set 1 (.int .i64 0)).cell (i:=0) (v:=.slice none 0 0) rfl
   have z1_1:=(((x2_w5).set 0 (.slice none 0 0)).set 1 (.int .i64 0)).cell (i:=1) (v:=.int .i64 0) rfl
   refine bodyPost_ret (v:=.tuple #[.agg #[.slice none 0 0,.int .i64 0],.bool false]) (by simp[results,Tryz.results54,go_sem,z0_0,z0_1,z1_1]) rfl ?_
   clear z0_0 z0_1 z1_1
   exact head_end hF.out (by omega) B_w5 (isTy_zero _ _) (by rw[←Ho.out,headTy_neg i0];rfl) _ (by rw[←Ho.out,headTy_neg i0];rfl)
  obtain⟨j,rfl⟩:∃ j:Nat,i=(j:Int):=⟨i.toNat,by omega⟩
  by_cases i1:j<M.length
  ·skip
   obtain⟨bl,off,A,N,Cc,Bb,rfl,_,e1,e2,hT⟩:=Hm.out j i1
   have e1:w5.cell? ⟨bl,off+j * 2,none⟩=some (.slice A N Cc):=((Keep.refl (fun _=>True) _).below B_w5) _ _ _ trivial e1
   have e2:w5.cell? ⟨bl,off+j * 2+1,none⟩=some (.int .i64 Bb):=((Keep.refl (fun _=>True) _).below B_w5) _ _ _ trivial e2
   have HT:=Lib.hid hT;clear hT
   have l0:=Keep.lt e1
   go_wp2_with fail
   have z0_0:=((x2_w5).set 0 (.slice A N Cc)).cell (i:=0) (v:=.slice A N Cc) rfl
   have z0_1:=(((x2_w5).set 0 (.slice A N Cc)).set 1 (.int .i64 Bb)).cell (i:=0) (v:=.slice A N Cc) rfl
   have z1_1:=(((x2_w5).set 0 (.slice A N Cc)).set 1 (.int .i64 Bb)).cell (i:=1) (v:=.int .i64 Bb) rfl
   refine bodyPost_ret (v:=.tuple #[.agg #[.slice A N Cc,.int .i64 Bb],.bool true]) (by simp[results,Tryz.results54,go_sem,z0_0,z0_1,z1_1]) rfl ?_
   clear z0_0 z0_1 z1_1
   exact head_end hF.out (by omega) B_w5 HT.out (by rw[←Ho.out,headTy_2,List.getElem?_eq_getElem i1];rfl) _ (by rw[←Ho.out,headTy_2,List.getElem?_eq_getElem i1];rfl)
  ·go_wp2_with fail
   have z0_0:=((x2_w5).set 0 (.slice none 0 0)).cell (i:=0) (v:=.slice none 0 0) rfl
   have z0_1:=(((x2_w5).set 0 (.slice none 0 0)).set 1 (.int .i64 0)).cell (i:=0) (v:=.slice none 0 0) rfl
   have z1_1:=(((x2_w5).set 0 (.slice none 0 0)).set 1 (.int .i64 0)).cell (i:=1) (v:=.int .i64 0) rfl
   refine bodyPost_ret (v:=.tuple #[.agg #[.slice none 0 0,.int .i64 0],.bool false]) (by simp[results,Tryz.results54,go_sem,z0_0,z0_1,z1_1]) rfl ?_
   clear z0_0 z0_1 z1_1
   exact head_end hF.out (by omega) B_w5 (isTy_zero _ _) (by rw[←Ho.out,headTy_2,List.getElem?_eq_none (by omega)];rfl) _ (by rw[←Ho.out,headTy_2,List.getElem?_eq_none (by omega)];rfl)
 by_cases k0:k=0
 ·subst k0
  by_cases i0:i<0
  ·skip
   go_enter Tryz.func54,Tryz.ntmps54
   go_wp2_with fail
   obtain⟨w3,hw3⟩:∃ w3,((w.alloc (.cells #[.int .i64 b,.slice ca C.length cc,.slice ma M.length mc] 35)).alloc (.cells #[.int .i64 0,.int .i64 i] 38)).alloc (.cells #[.slice none 0 0,.int .i64 0] 44)=w3:=⟨_,rfl⟩
   have B_w3:Below w.heap.size w w3:=by rw[←hw3];exact(((Below.refl _ _).alloc (Nat.le_refl _) _).alloc (by simp) _).alloc (by simp;omega) _
   have x0_w3:Blk w3 w.heap.size #[.int .i64 b,.slice ca C.length cc,.slice ma M.length mc] 35:=by rw[←hw3];exact((Blk.new _ _ _ rfl).alloc _).alloc _
   have x1_w3:Blk w3 (w.heap.size+1) #[.int .i64 0,.int .i64 i] 38:=by rw[←hw3];exact(Blk.new _ _ _ (by simp)).alloc _
   have x2_w3:Blk w3 (w.heap.size+1+1) #[.slice none 0 0,.int .i64 0] 44:=by rw[←hw3];exact Blk.new _ _ _ (by simp)
   rw[hw3]
   clear hw3
   have c0:w3.cell? ⟨w.heap.size+1+1,0,none⟩=some (.slice none 0 0):=x2_w3.cell rfl
   have c1:w3.cell? ⟨w.heap.size+1+1,1,none⟩=some (.int .i64 0):=x2_w3.cell rfl
   have f0:=x2_w3.free 0
   have f1:=x2_w3.free 1
   go_wp2_with fail
   refine bodyPost_ret (v:=.tuple #[.agg #[.slice none 0 0,.int .i64 0],.bool false]) (by simp[results,Tryz.results54,go_sem,c0,c1]) rfl ?_
   exact head_end0 B_w3 (by rw[←Ho.out,headTy_neg i0])
  obtain⟨j,rfl⟩:∃ j:Nat,i=(j:Int):=⟨i.toNat,by omega⟩
  have hq0:IntKind.i64.wrap ((X.length:Int)-1)=(X.length:Int)-1:=IntWalk.i64_in _ (by have:=Hxl.out;omega)
  have hq1:IntKind.i64.wrap ((X.length:Int)-1-j)=(X.length:Int)-1-j:=IntWalk.i64_in _ (by have:=Hxl.out;omega)
  by_cases i1:j<X.length
  ·obtain⟨m,hm⟩:∃ m:Nat,X.length-1-j=m:=⟨_,rfl⟩
   have i2:m<X.length:=by omega
   have hq2:IntKind.i64.wrap ((X.length:Int)-1-j)=(m:Int):=by rw[hq1];omega
   clear hq1
   have Hm2:=Lib.hid hm;have Hi1:=Lib.hid i1
   have i6:decide ((m:Int)<0)=false:=by simp
   clear hm i1
   go_enter Tryz.func54,Tryz.ntmps54
   go_wp2_with fail
   obtain⟨w3,hw3⟩:∃ w3,((w.alloc (.cells #[.int .i64 b,.slice ca C.length cc,.slice ma M.length mc] 35)).alloc (.cells #[.int .i64 0,.int .i64 (j:Int)] 38)).alloc (.cells #[.slice none 0 0,.int .i64 0] 44)=w3:=⟨_,rfl⟩
   have B_w3:Below w.heap.size w w3:=by rw[←hw3];exact(((Below.refl _ _).alloc (Nat.le_refl _) _).alloc (by simp) _).alloc (by simp;omega) _
   have x0_w3:Blk w3 w.heap.size #[.int .i64 b,.slice ca C.length cc,.slice ma M.length mc] 35:=by rw[←hw3];exact((Blk.new _ _ _ rfl).alloc _).alloc _
   have x1_w3:Blk w3 (w.heap.size+1) #[.int .i64 0,.int .i64 (j:Int)] 38:=by rw[←hw3];exact(Blk.new _ _ _ (by simp)).alloc _
   have x2_w3:Blk w3 (w.heap.size+1+1) #[.slice none 0 0,.int .i64 0] 44:=by rw[←hw3];exact Blk.new _ _ _ (by simp)
   rw[hw3]
   clear hw3
   have c0:w3.cell? ⟨w.heap.size+1+1,0,none⟩=some (.slice none 0 0):=x2_w3.cell rfl
   have c1:w3.cell? ⟨w.heap.size+1+1,1,none⟩=some (.int .i64 0):=x2_w3.cell rfl
   have f0:=x2_w3.free 0
   have f1:=x2_w3.free 1
   obtain⟨bl,off,A,N,Cc,Bb,rfl,_,e1,e2,hT⟩:=Hx.out m i2
   have e1:w3.cell? ⟨bl,off+m * 2,none⟩=some (.slice A N Cc):=((Keep.refl (fun _=>True) _).below B_w3) _ _ _ trivial e1
   have e2:w3.cell? ⟨bl,off+m * 2+1,none⟩=some (.int .i64 Bb):=((Keep.refl (fun _=>True) _).below B_w3) _ _ _ trivial e2
   have HT:=Lib.hid hT;clear hT
   have l0:=Keep.lt e1
   go_wp2_with fail
   clear hq0 hq2 i6 hi
   go_simp
   have i4:(0:Int)≤(m:Int):=by omega
   go_wp2_with fail
   have z0_0:=((x2_w3).set 0 (.slice A N Cc)).cell (i:=0) (v:=.slice A N Cc) rfl
   have z0_1:=(((x2_w3).set 0 (.slice A N Cc)).set 1 (.int .i64 Bb)).cell (i:=0) (v:=.slice A N Cc) rfl
   have z1_1:=(((x2_w3).set 0 (.slice A N Cc)).set 1 (.int .i64 Bb)).cell (i:=1) (v:=.int .i64 Bb) rfl
   refine bodyPost_ret (v:=.tuple #[.agg #[.slice A N Cc,.int .i64 Bb],.bool true]) (by simp[results,Tryz.results54,go_sem,z0_0,z0_1,z1_1]) rfl ?_
   clear z0_0 z0_1 z1_1
   exact head_end hF.out (by omega) B_w3 HT.out (by rw[←Ho.out,headTy_0,List.getElem?_reverse Hi1.out,Hm2.out,List.getElem?_eq_getElem i2];rfl) _ (by rw[←Ho.out,headTy_0,List.getElem?_reverse Hi1.out,Hm2.out,List.getElem?_eq_getElem i2];rfl)
  ·have i3:(X.length:Int)-1-j<0:=by omega
   go_enter Tryz.func54,Tryz.ntmps54
   go_wp2_with fail
   obtain⟨w3,hw3⟩:∃ w3,((w.alloc (.cells #[.int .i64 b,.slice ca C.length cc,.slice ma M.length mc] 35)).alloc (.cells #[.int .i64 0,.int .i64 (j:Int)] 38)).alloc (.cells #[.slice none 0 0,.int .i64 0] 44)=w3:=⟨_,rfl⟩
   have B_w3:Below w.heap.size w w3:=by rw[←hw3];exact(((Below.refl _ _).alloc (Nat.le_refl _) _).alloc (by simp) _).alloc (by simp;omega) _
   have x0_w3:Blk w3 w.heap.size #[.int .i64 b,.slice ca C.length cc,.slice ma M.length mc] 35:=by rw[←hw3];exact((Blk.new _ _ _ rfl).alloc _).alloc _
   have x1_w3:Blk w3 (w.heap.size+1) #[.int .i64 0,.int .i64 (j:Int)] 38:=by rw[←hw3];exact(Blk.new _ _ _ (by simp)).alloc _
   have x2_w3:Blk w3 (w.heap.size+1+1) #[.slice none 0 0,.int .i64 0] 44:=by rw[←hw3];exact Blk.new _ _ _ (by simp)
   rw[hw3]
   clear hw3
   have c0:w3.cell? ⟨w.heap.size+1+1,0,none⟩=some (.slice none 0 0):=x2_w3.cell rfl
   have c1:w3.cell? ⟨w.heap.size+1+1,1,none⟩=some (.int .i64 0):=x2_w3.cell rfl
   have f0:=x2_w3.free 0
   have f1:=x2_w3.free 1
   go_wp2_with fail
   refine bodyPost_ret (v:=.tuple #[.agg #[.slice none 0 0,.int .i64 0],.bool false]) (by simp[results,Tryz.results54,go_sem,c0,c1]) rfl ?_
   exact head_end0 B_w3 (by rw[←Ho.out,headTy_0,List.getElem?_eq_none (by simp;omega)])
 have g0:(k==0)=false:=by simpa using k0
 have g1:(k==1)=false:=by simpa using k1
 have g2:(k==2)=false:=by simpa using k2
 go_enter Tryz.func54,Tryz.ntmps54
 go_wp2_with fail
 obtain⟨w3,hw3⟩:∃ w3,((w.alloc (.cells #[.int .i64 b,.slice ca C.length cc,.slice ma M.length mc] 35)).alloc (.cells #[.int .i64 k,.int .i64 i] 38)).alloc (.cells #[.slice none 0 0,.int .i64 0] 44)=w3:=⟨_,rfl⟩
 have B_w3:Below w.heap.size w w3:=by rw[←hw3];exact(((Below.refl _ _).alloc (Nat.le_refl _) _).alloc (by simp) _).alloc (by simp;omega) _
 have x0_w3:Blk w3 w.heap.size #[.int .i64 b,.slice ca C.length cc,.slice ma M.length mc] 35:=by rw[←hw3];exact((Blk.new _ _ _ rfl).alloc _).alloc _
 have x1_w3:Blk w3 (w.heap.size+1) #[.int .i64 k,.int .i64 i] 38:=by rw[←hw3];exact(Blk.new _ _ _ (by simp)).alloc _
 have x2_w3:Blk w3 (w.heap.size+1+1) #[.slice none 0 0,.int .i64 0] 44:=by rw[←hw3];exact Blk.new _ _ _ (by simp)
 rw[hw3]
 clear hw3
 have c0:w3.cell? ⟨w.heap.size+1+1,0,none⟩=some (.slice none 0 0):=x2_w3.cell rfl
 have c1:w3.cell? ⟨w.heap.size+1+1,1,none⟩=some (.int .i64 0):=x2_w3.cell rfl
 have f0:=x2_w3.free 0
 have f1:=x2_w3.free 1
 go_wp2_with fail
 refine bodyPost_ret (v:=.tuple #[.agg #[.slice none 0 0,.int .i64 0],.bool false]) (by simp[results,Tryz.results54,go_sem,c0,c1]) rfl ?_
 exact head_end0 B_w3 (by rw[←Ho.out,headTy_o k0 k1 k2])
mutual
def IsOf (C M:List Ty):Tm→List Ty→Ty→Prop
 | .mk b k i a,X,u=>b=u.args∧∃ h,headTy C M (X++b) k i=some h∧h.base=u.base∧IsOfs C M a (X++b) h.args
def IsOfs (C M:List Ty):List Tm→List Ty→List Ty→Prop
 | [],_,[]=>True
 | [],_,_ :: _=>False
 | _ :: _,_,[]=>False
 | t :: l,X,u :: l'=>IsOf C M t X u∧IsOfs C M l X l'
end
theorem isOf_mk {C M:List Ty}{b:List Ty}{k i:Int}{a:List Tm}{X:List Ty}{u:Ty}:IsOf C M (.mk b k i a) X u↔b=u.args∧∃ h,headTy C M (X++b) k i=some h∧h.base=u.base∧IsOfs C M a (X++b) h.args:=by rw[IsOf]
theorem isOfs_iff {C M:List Ty}{X:List Ty}:∀ {l:List Tm} {l':List Ty},IsOfs C M l X l'↔l'.length=l.length∧∀ i (h:i<l.length) (h':i<l'.length),IsOf C M l[i] X l'[i]
 | [],[]=>by simp[IsOfs]
 | [],_ :: _=>by simp[IsOfs]
 | _ :: _,[]=>by simp[IsOfs]
 | t :: l,u :: l'=>by
  rw[IsOfs,isOfs_iff]
  constructor
  ·rintro⟨h1,h2,h3⟩
   refine⟨by simp[h2],fun i h h'=>?_⟩
   cases i with
   | zero=>exact h1
   | succ i=>exact h3 i (by simpa using h) (by simpa using h')
  ·rintro⟨h1,h2⟩
   exact⟨h2 0 (by simp) (by simp),by simpa using h1,fun i h h'=>h2 (i+1) (by simpa using h) (by simpa using h')⟩
section
variable {C M:List Ty}
theorem headTy_ctx {X X':List Ty}{k i:Int}(hk:k≠0):headTy C M X k i=headTy C M X' k i:=by
 unfold headTy
 by_cases h:i<0
 ·rw[if_pos h,if_pos h]
 ·rw[if_neg h,if_neg h,if_neg hk,if_neg hk]
theorem rev_app (X W:List Ty)(n:Nat):(X++W).reverse[n]?=if n<W.length then W.reverse[n]? else X.reverse[n-W.length]?:=by
 rw[List.reverse_append,List.getElem?_append,List.length_reverse]
theorem isOfs_map {g:Tm→Tm}{X X':List Ty}:∀ {l:List Tm} {l':List Ty},IsOfs C M l X l'→(∀ t∈l,∀ u,IsOf C M t X u→IsOf C M (g t) X' u)→IsOfs C M (l.map g) X' l'
 | [],[],_,_=>by rw[List.map_nil,IsOfs];trivial
 | [],_ :: _,h,_=>by rw[IsOfs] at h;exact h.elim
 | _ :: _,[],h,_=>by rw[IsOfs] at h;exact h.elim
 | t :: l,u :: l',h,hg=>by
  rw[IsOfs] at h
  rw[List.map_cons,IsOfs]
  exact⟨hg t (by simp) u h.1,isOfs_map h.2 fun v hv=>hg v (by simp[hv])⟩
theorem isOfs_len {X:List Ty}{l:List Tm}{l':List Ty}(h:IsOfs C M l X l'):l'.length=l.length:=(isOfs_iff.1 h).1
theorem wr_id {x:Int}(h0:-9223372036854775808≤x)(h1:x≤9223372036854775807):Nm.wr x=x:=by
 show wrap64 x=x
 unfold wrap64;omega
theorem lift_isOf (t:Tm):∀ (X Y Z:List Ty) (u:Ty),(X.length:Int)+Y.length+Z.length+t.full≤9000000000000→IsOf C M t (X++Z) u→IsOf C M (Nm.lift Y.length t Z.length) (X++Y++Z) u:=by
 induction t using Tm.ind with
 | h b k i a ih=>
  intro X Y Z u hz ht
  rw[Tm.full_eq] at hz
  have hbl:=Ty.le_sizes b
  obtain⟨rfl,h,h1,h2,h3⟩:=isOf_mk.1 ht
  have hw:Nm.wr (Z.length+u.args.length)=((Z++u.args).length:Nat):=by rw[List.length_append,wr_id (by omega) (by omega)];simp
  rw[Nm.lift_eq,Nm.lifts_map,hw]
  clear hw
  refine isOf_mk.2 ⟨rfl,h,?_,h2,?_⟩
  ·by_cases hk:k=0
   ·subst hk
    by_cases hi:i<0
    ·rw[headTy_neg hi] at h1;cases h1
    ·obtain⟨n,rfl⟩:∃ n:Nat,i=n:=⟨i.toNat,by omega⟩
     rw[headTy_0,List.append_assoc,rev_app] at h1
     by_cases hn:n<(Z++u.args).length
     ·rw[if_neg (by rintro⟨_,h⟩;omega),headTy_0,List.append_assoc,rev_app,if_pos hn]
      rw[if_pos hn] at h1;exact h1
     ·rw[if_neg hn] at h1
      have hlt:n-(Z++u.args).length<X.length:=by
       have:=(List.getElem?_eq_some_iff.1 h1).1
       rwa [List.length_reverse] at this
      have hsum:(Z++u.args).length=Z.length+u.args.length:=List.length_append
      rw[if_pos ⟨rfl,by omega⟩,wr_id (by omega) (by omega),show (n:Int)+Y.length=((n+Y.length:Nat):Int) by omega,headTy_0,List.append_assoc,rev_app,if_neg (by omega),rev_app,if_neg (by omega)]
      rw[←h1]
      congr 1
      omega
   ·rw[if_neg (fun h=>hk h.1),headTy_ctx (X':=X++Z++u.args) hk];exact h1
  ·rw[List.append_assoc] at h3 ⊢
   exact isOfs_map h3 fun v hv w hw=>ih v hv X Y (Z++u.args) w (by
    have:=Tm.full_mem hv
    rw[List.length_append];omega) hw
theorem grown_isOf {t:Tm}{X Y:List Ty}{u:Ty}(hz:(X.length:Int)+Y.length+t.full≤9000000000000)(h:IsOf C M t X u):IsOf C M (Nm.grown t Y.length) (X++Y) u:=by
 unfold Nm.grown
 split
 ·rename_i h0
  have:Y=[]:=List.length_eq_zero_iff.1 (by omega)
  subst this
  rw[List.append_nil];exact h
 ·have:=lift_isOf t X Y [] u (by simp;omega) (by rw[List.append_nil];exact h)
  rw[List.append_nil] at this;exact this
end
namespace Nm
def Kp (s:St)(p:Tm×St)(Q:Tm→Prop):Prop:=(s.e≠1→p.2.e≠1)∧(p.2.e=0→s.e=0∧Q p.1)
theorem unit_false {s:St}(h:(unit s).1≠true):(unit s).2.e≠0∧(s.e≠1→(unit s).2.e≠1):=by
 have hb:(unit s).1=false:=by simpa using h
 have h2:∀ p,unit s=p→p.1=false→p.2.e≠0∧(s.e≠1→p.2.e≠1):=fun p hp h1=>by
  unfold unit at hp
  split at hp
  ·subst hp;exact⟨by assumption,fun h=>h⟩
  ·split at hp
   ·subst hp;exact⟨by show (2:Int)≠0;decide,fun _=>by show (2:Int)≠1;decide⟩
   ·generalize spend s=r at hp
    obtain⟨ok,s'⟩:=r
    cases ok
    ·subst hp;exact⟨by show (11:Int)≠0;decide,fun _=>by show (11:Int)≠1;decide⟩
    ·subst hp;cases h1
 exact h2 _ rfl hb
theorem fail_e {s:St}(h:s.e≠0):(fail s 1).e=s.e:=by unfold fail;rw[if_neg h]
variable {C M:List Ty} {B:Nat}
theorem seqM_keeps {f:Nat}{g:Tm→St→Tm×St}{X X':List Ty}:∀ (l:List Tm) (us:List Ty) (hg:∀ t∈l,∀ u s,WkOk s→Fu f s→IsOf C M t X u→Kp s (g t s) fun r=>IsOf C M r X' u) (hw:∀ t s,WkOk s→WkOk (g t s).2) (hc:∀ t s,s.count≤(g t s).2.count) (s:St),WkOk s→Fu f s →
  IsOfs C M l X us→(s.e≠1→(seqM g l s).2.e≠1)∧((seqM g l s).2.e=0→s.e=0∧IsOfs C M (seqM g l s).1 X' us)
 | [],[],_,_,_,s,_,_,_=>⟨fun h=>h,fun h=>⟨h,by rw[seqM,IsOfs];trivial⟩⟩
 | [],_ :: _,_,_,_,s,_,_,h=>by rw[IsOfs] at h;exact h.elim
 | _ :: _,[],_,_,_,s,_,_,h=>by rw[IsOfs] at h;exact h.elim
 | t :: l,u :: us,hg,hw,hc,s,hs,hf,h=>by
  rw[IsOfs] at h
  have h1:=hg t (by simp) u s hs hf h.1
  have h2:=seqM_keeps l us (fun v hv=>hg v (by simp[hv])) hw hc (g t s).2 (hw t s hs) (fun e=>by
   have:=hf (h1.2 e).1
   have:=hc t s
   omega) h.2
  refine⟨fun e=>h2.1 (h1.1 e),fun e=>?_⟩
  have h3:=h2.2 e
  have h4:=h1.2 h3.1
  exact⟨h4.1,by rw[seqM,IsOfs];exact⟨h4.2,h3.2⟩⟩
theorem bnd_aux {x p z b B K N s:Nat}(h:x+p+z+(K+(2 * B+2))≤N)(h1:b≤s)(h2:s≤B):x+p+(z+b)+K≤N:=by omega
set_option maxHeartbeats 4000000 in
theorem through_keeps (C M:List Ty)(B:Nat):∀ (f:Nat) (xs:List Tm) (n:Nat) (t:Tm) (ins:Int) (s:St) (X P Z:List Ty) (u:Ty),WkOk s→Fu f s→(∀ x∈xs,Bnd B x)→Bnd B t→(∀ x∈xs,x.full≤8000000000000)→B≤5000→xs.length≤P.length→n=P.length→ins=(Z.length:Nat) →
  X.length+P.length+Z.length+(2 * B+2) * f≤800000000→IsOfs C M xs X (P.take xs.length)→IsOf C M t (X++P++Z) u→Kp s (through f xs n t ins s) fun r=>IsOf C M r (X++P.drop xs.length++Z) u:=by
 intro f
 induction f with
 | zero=>
  intro xs n t ins s X P Z u hs hf _ _ _ _ _ _ _ _ _ _
  exact⟨fun h=>h,fun e=>by
   have e':s.e=0:=e
   have h1:=hf e'
   have h2:=hs.e0 e'
   omega⟩
 | succ f ih=>
  intro xs n t ins s X P Z u hs hf hx ht hxf hB hm hn hins hb hxt htt
  subst hn;subst hins
  unfold through
  dsimp only
  by_cases hu:(unit s).1=true
  rotate_left
  ·rw[if_neg hu]
   have h1:=unit_false hu
   exact⟨h1.2,fun e=>absurd e h1.1⟩
  rw[if_pos hu]
  obtain⟨u1,u2,u3⟩:=(unit_count s).2 hu
  have hw:=unit_wk hs
  have hf1:Fu f (unit s).2:=fun _=>by have:=hf u2;omega
  obtain⟨b,k,i,a⟩:=t
  obtain⟨t1,t2,t3⟩:=ht.inv
  obtain⟨hbu,h,hh,hbase,hargs⟩:=isOf_mk.1 htt
  have hbl:=Ty.le_sizes b
  have hmul:(2 * B+2) * (f+1)=(2 * B+2) * f+(2 * B+2):=by rw[Nat.mul_add];omega
  rw[hmul] at hb
  obtain⟨K,hK⟩:∃ K,(2 * B+2) * f=K:=⟨_,rfl⟩
  rw[hK] at hb
  have hZb:(Z++b).length=Z.length+b.length:=List.length_append
  have hwr:wr ((Z.length:Nat)+(Tm.mk b k i a).binds.length)=(((Z++b).length:Nat):Int):=by
   show wr ((Z.length:Nat)+(b.length:Nat))=_
   rw[wr_id (by omega) (by omega),hZb];omega
  rw[hwr]
  clear hwr
  show Kp s (hit (through f) xs P.length (.mk b k i a) ((Z++b).length:Nat) (seqM (fun a s=>through f xs P.length a ((Z++b).length:Nat) s) a (unit s).2).1 (seqM (fun a s=>through f xs P.length a ((Z++b).length:Nat) s) a (unit s).2).2) _
  have hassoc:X++P++Z++b=X++P++(Z++b):=List.append_assoc ..
  have hb2:X.length+P.length+(Z++b).length+(2 * B+2) * f≤800000000:=by rw[hK,hZb];exact bnd_aux hb hbl t1
  rw[hassoc] at hh hargs
  have hq:=seqM_keeps (C:=C) (M:=M) (f:=f) (g:=fun a s=>through f xs P.length a ((Z++b).length:Nat) s) (X:=X++P++(Z++b)) (X':=X++P.drop xs.length++(Z++b)) a h.args
   (fun v hv w s hs hf hw=>ih xs P.length v _ s X P (Z++b) w hs hf hx (t3 v hv) hxf hB hm rfl rfl hb2 hxt hw) (fun u s h=>through_wk f _ _ _ _ _ h) (fun u s=>through_count f _ _ _ _ _) (unit s).2 hw hf1 hargs
  have hgr:=seqM_grow (B:=B) (f:=f) (g:=fun a s=>through f xs P.length a ((Z++b).length:Nat) s) a (fun u hu s hs hf=>through_grow B f xs P.length u _ s hs hf hx (t3 u hu)) (fun u s h=>through_wk f _ _ _ _ _ h) (fun u s=>through_count f _ _ _ _ _) (unit s).2 hw hf1
  have hqw:=seqM_wk (g:=fun a s=>through f xs P.length a ((Z++b).length:Nat) s) (fun u s h=>through_wk f _ _ _ _ _ h) a _ hw
  have hqc:=seqM_count (g:=fun a s=>through f xs P.length a ((Z++b).length:Nat) s) (fun u s=>through_count f _ _ _ _ _) a (unit s).2
  have hql:=seqM_length (fun a s=>through f xs P.length a ((Z++b).length:Nat) s) a (unit s).2
  generalize seqM (fun a s=>through f xs P.length a ((Z++b).length:Nat) s) a (unit s).2=q at hq hgr hqw hqc hql ⊢
  have hq1:s.e≠1→q.2.e≠1:=fun _=>hq.1 (by omega)
  have stays:∀ i':Int,headTy C M (X++P.drop xs.length++(Z++b)) k i'=some h→Kp s (.mk b k i' q.1,q.2) fun r=>IsOf C M r (X++P.drop xs.length++Z) u:=fun i' hi'=>
   ⟨hq1,fun e=>⟨u2,isOf_mk.2 ⟨hbu,h,by rw[List.append_assoc];exact hi',hbase,by rw[List.append_assoc];exact(hq.2 e).2⟩⟩⟩
  unfold hit
  have hdl:(P.drop xs.length).length=P.length-xs.length:=List.length_drop
  show Kp s (if k≠0∨i<(((Z++b).length:Nat):Int) then _ else _) _
  by_cases hc1:k≠0∨i<(((Z++b).length:Nat):Int)
  ·rw[if_pos hc1]
   refine stays i ?_
   by_cases hk:k=0
   ·subst hk
    have hi:i<(((Z++b).length:Nat):Int):=by rcases hc1 with h | h;exact absurd rfl h;exact h
    by_cases h0:i<0
    ·rw[headTy_neg h0] at hh;cases hh
    ·obtain⟨n,rfl⟩:∃ n:Nat,i=n:=⟨i.toNat,by omega⟩
     rw[headTy_0,rev_app,if_pos (by omega)] at hh ⊢;exact hh
   ·rw[headTy_ctx (X':=X++P++(Z++b)) hk];exact hh
  ·rw[if_neg hc1]
   have hk:k=0:=by
    by_cases h:k=0
    ·exact h
    ·exact absurd (.inl h) hc1
   have hi:(((Z++b).length:Nat):Int)≤i:=by
    by_cases h:i<(((Z++b).length:Nat):Int)
    ·exact absurd (.inr h) hc1
    ·omega
   subst hk
   obtain⟨n,rfl⟩:∃ n:Nat,i=n:=⟨i.toNat,by omega⟩
   obtain⟨d,hd⟩:∃ d,n=(Z++b).length+d:=⟨n-(Z++b).length,by omega⟩
   rw[headTy_0,rev_app,if_neg (by omega),show n-(Z++b).length=d by omega,rev_app] at hh
   have hdlt:d<X.length+P.length:=by
    by_cases hdp:d<P.length
    ·omega
    ·rw[if_neg hdp] at hh
     have:=(List.getElem?_eq_some_iff.1 hh).1
     rw[List.length_reverse] at this;omega
   have hwd:wr ((Tm.mk b 0 (n:Int) a).index-(((Z++b).length:Nat):Int))=(d:Int):=by
    show wr ((n:Int)-(((Z++b).length:Nat):Int))=_
    rw[wr_id (by omega) (by omega)];omega
   dsimp only
   rw[hwd]
   clear hwd
   by_cases hc2:(d:Int)<(P.length:Int)-xs.length
   ·rw[if_pos hc2]
    refine stays n ?_
    rw[headTy_0,rev_app,if_neg (by omega),show n-(Z++b).length=d by omega,rev_app,if_pos (by omega)]
    rw[if_pos (by omega)] at hh
    have e1:P=P.take xs.length++P.drop xs.length:=(List.take_append_drop ..).symm
    rw[e1,rev_app,if_pos (by omega)] at hh
    exact hh
   ·rw[if_neg hc2]
    by_cases hc3:(P.length:Int)≤(d:Int)
    ·rw[if_pos hc3]
     have hwn:wr ((Tm.mk b 0 (n:Int) a).index-xs.length)=((n-xs.length:Nat):Int):=by
      show wr ((n:Int)-xs.length)=_
      rw[wr_id (by omega) (by omega)];omega
     rw[hwn]
     clear hwn
     refine stays _ ?_
     rw[if_neg (by omega)] at hh
     rw[headTy_0,rev_app,if_neg (by omega),rev_app,if_neg (by omega),←hh]
     congr 1
     omega
    ·rw[if_neg hc3]
     rw[if_pos (by omega)] at hh
     obtain⟨j,hj⟩:∃ j,j=P.length-1-d:=⟨_,rfl⟩
     have hjm:j<xs.length:=by omega
     have hjP:j<P.length:=by omega
     have hPj:P[j]=h:=by
      rw[List.getElem?_reverse (by omega),←hj,List.getElem?_eq_getElem hjP] at hh
      exact Option.some.inj hh
     have hgd:xs.getD ((P.length:Int)-1-(d:Int)).toNat tz=xs[j]:=by
      rw[show ((P.length:Int)-1-(d:Int)).toNat=j by omega,List.getD_eq_getElem?_getD,List.getElem?_eq_getElem hjm];rfl
     have hxj:IsOf C M xs[j] X h:=by
      have h1:=(isOfs_iff.1 hxt).2 j hjm (by rw[List.length_take];omega)
      rw[List.getElem_take,hPj] at h1;exact h1
     have hYl:(P.drop xs.length++(Z++b)).length=P.length-xs.length+(Z++b).length:=by rw[List.length_append,hdl]
     have hwg:wr (wr ((((Z++b).length:Nat):Int)+P.length)-xs.length)=((P.drop xs.length++(Z++b)).length:Nat):=by
      rw[wr_id (x:=(((Z++b).length:Nat):Int)+P.length) (by omega) (by omega),wr_id (by omega) (by omega),hYl];omega
     rw[hgd,hwg]
     clear hgd hwg
     have hxm:xs[j]∈xs:=List.getElem_mem hjm
     have hu1:=grown_isOf (Y:=P.drop xs.length++(Z++b)) (by have:=hxf _ hxm;omega) hxj
     have hub:=(hx _ hxm).grown ((P.drop xs.length++(Z++b)).length:Nat)
     generalize grown xs[j] ((P.drop xs.length++(Z++b)).length:Nat)=v at hu1 hub ⊢
     obtain⟨vb,vk,vi,va⟩:=v
     obtain⟨v1,v2,v3⟩:=hub.inv
     obtain⟨hvb,h',hvh,hvbase,hvargs⟩:=isOf_mk.1 hu1
     have hal:=isOfs_len hargs
     have hvl:=Ty.le_sizes vb
     have hlen:vb.length=q.1.length:=by rw[hvb,hal,hql]
     show Kp s (if vb.length≠q.1.length then _ else _) _
     rw[if_neg (fun h=>h hlen)]
     unfold putW
     dsimp only
     by_cases hqe:q.2.e=0
     rotate_left
     ·rw[if_pos (.inl hqe)]
      refine⟨fun e=>?_,fun e=>?_⟩
      ·show (fail q.2 1).e≠1
       rw[fail_e hqe];exact hq1 e
      ·have e':(fail q.2 1).e=0:=e
       rw[fail_e hqe] at e';exact absurd e' hqe
     rw[if_neg (show ¬ (q.2.e≠0∨q.1.length>(Tm.mk vb vk vi va).binds.length) from fun h=>h.elim (fun h=>h hqe) fun h=>by have h':q.1.length>vb.length:=h;omega)]
     have hqa:=(hq.2 hqe).2
     have hqg:=hgr hqe
     have hX':X++(P.drop xs.length++(Z++b))=X++P.drop xs.length++(Z++b):=(List.append_assoc ..).symm
     rw[hX'] at hvh hvargs
     have hXl:(X++P.drop xs.length++(Z++b)).length=X.length+(P.length-xs.length)+(Z++b).length:=by rw[List.length_append,List.length_append,hdl]
     have hi2:=ih q.1 vb.length (.mk [] vk vi va) 0 q.2 (X++P.drop xs.length++(Z++b)) vb [] (.mk [] h.base) hqw (fun _=>by have:=hf1 u3;omega) hqg.2.2 (.mk _ _ _ _ (by simp[Ty.sizes]) v2 v3)
      (fun x hx=>by
       have h1:=Bnd.full x (hqg.2.2 x hx)
       have h2:x.size≤1000000000:=by
        have:=Tm.size_mem hx
        have:=hqg.2.1
        have:=hw.left.2
        have:=hqw.left.1
        omega
       have h3:x.size * (B+1)≤1000000000 * 5001:=Nat.mul_le_mul h2 (by omega)
       omega) hB (by omega) rfl rfl (by rw[hXl];simp only[List.length_nil];omega) (by rw[List.take_of_length_le (by omega),hvb];exact hqa)
      (by rw[List.append_nil];exact isOf_mk.2 ⟨rfl,h',by rw[List.append_nil];exact hvh,hvbase,by rw[List.append_nil];exact hvargs⟩)
     have hdr:vb.drop q.1.length=[]:=List.drop_of_length_le (by omega)
     rw[hdr,List.append_nil,List.append_nil] at hi2
     show Kp s (Tm.mk b (through f q.1 vb.length (.mk [] vk vi va) 0 q.2).1.kind (through f q.1 vb.length (.mk [] vk vi va) 0 q.2).1.index (through f q.1 vb.length (.mk [] vk vi va) 0 q.2).1.args,(through f q.1 vb.length (.mk [] vk vi va) 0 q.2).2) _
     generalize through f q.1 vb.length (.mk [] vk vi va) 0 q.2=r at hi2 ⊢
     obtain⟨⟨rb,rk,ri,ra⟩,rs⟩:=r
     refine⟨fun e=>hi2.1 (hq1 e),fun e=>⟨u2,?_⟩⟩
     obtain⟨hrb,h2,hrh,hrbase,hrargs⟩:=isOf_mk.1 (hi2.2 e).2
     have hrb:rb=[]:=hrb
     subst hrb
     rw[List.append_nil] at hrh hrargs
     exact isOf_mk.2 ⟨hbu,h2,by rw[List.append_assoc];exact hrh,hrbase.trans hbase,by rw[List.append_assoc];exact hrargs⟩
end Nm
inductive Nar (B:Nat):Tm→Prop where
 | mk (b:List Ty) (k i:Int) (a:List Tm):Ty.sizes b≤B→(∀ u∈a,Nar B u)→Nar B (.mk b k i a)
theorem Nar.inv {B:Nat}{b:List Ty}{k i:Int}{a:List Tm}(h:Nar B (.mk b k i a)):Ty.sizes b≤B∧∀ u∈a,Nar B u:=by
 cases h with
 | mk _ _ _ _ h1 h2=>exact⟨h1,h2⟩
mutual
def Rn (f:Nat→Nat):Tm→Nat→Tm
 | .mk b k i a,z=>.mk b k (if k=0∧((z+b.length:Nat):Int)≤i then ((z+b.length+f (i-((z+b.length:Nat):Int)).toNat:Nat):Int) else i) (Rns f a (z+b.length))
def Rns (f:Nat→Nat):List Tm→Nat→List Tm
 | [],_=>[]
 | t :: l,z=>Rn f t z :: Rns f l z
end
theorem Rn_eq (f:Nat→Nat)(b:List Ty)(k i:Int)(a:List Tm)(z:Nat):Rn f (.mk b k i a) z=.mk b k (if k=0∧((z+b.length:Nat):Int)≤i then ((z+b.length+f (i-((z+b.length:Nat):Int)).toNat:Nat):Int) else i) (a.map fun t=>Rn f t (z+b.length)):=by
 have h:∀ l:List Tm,Rns f l (z+b.length)=l.map fun t=>Rn f t (z+b.length):=by
  intro l
  induction l with
  | nil=>rfl
  | cons t l ih=>rw[Rns,ih];rfl
 rw[Rn,h]
theorem Rn_nar {B:Nat}(f:Nat→Nat)(t:Tm):∀ z,Nar B t→Nar B (Rn f t z):=by
 induction t using Tm.ind with
 | h b k i a ih=>
  intro z h
  rw[Rn_eq]
  refine .mk _ _ _ _ h.inv.1 fun u hu=>?_
  obtain⟨v,hv,rfl⟩:=List.mem_map.1 hu
  exact ih v hv _ (h.inv.2 v hv)
theorem Rn_full (f:Nat→Nat)(t:Tm):∀ z,(Rn f t z).full=t.full:=by
 induction t using Tm.ind with
 | h b k i a ih=>
  intro z
  rw[Rn_eq,Tm.full_eq,Tm.full_eq]
  have key:∀ l:List Tm,(∀ t∈l,t∈a)→Tm.fulls (l.map fun t=>Rn f t (z+b.length))=Tm.fulls l:=by
   intro l
   induction l with
   | nil=>intro _;rfl
   | cons t l ihl=>
    intro hl
    rw[List.map_cons,Tm.fulls,Tm.fulls,ih t (hl t (by simp)),ihl fun u hu=>hl u (by simp[hu])]
  rw[key a fun t h=>h]
section
variable {C M:List Ty}
theorem Rn_isOf (f:Nat→Nat)(t:Tm):∀ (X Y Z:List Ty) (u:Ty),(∀ d h,Y.reverse[d]?=some h→X.reverse[f d]?=some h)→IsOf C M t (Y++Z) u→IsOf C M (Rn f t Z.length) (X++Z) u:=by
 induction t using Tm.ind with
 | h b k i a ih=>
  intro X Y Z u hf ht
  obtain⟨rfl,h,h1,h2,h3⟩:=isOf_mk.1 ht
  rw[Rn_eq]
  have hzl:(Z++u.args).length=Z.length+u.args.length:=List.length_append
  rw[List.append_assoc] at h1 h3
  refine isOf_mk.2 ⟨rfl,h,?_,h2,?_⟩
  ·rw[List.append_assoc]
   by_cases hk:k=0
   ·subst hk
    by_cases hi:i<0
    ·rw[headTy_neg hi] at h1;cases h1
    ·obtain⟨n,rfl⟩:∃ n:Nat,i=n:=⟨i.toNat,by omega⟩
     rw[headTy_0,rev_app] at h1
     by_cases hn:n<(Z++u.args).length
     ·rw[if_neg (by rintro⟨_,h⟩;omega),headTy_0,rev_app,if_pos hn]
      rw[if_pos hn] at h1;exact h1
     ·rw[if_neg hn] at h1
      rw[if_pos ⟨rfl,by omega⟩,headTy_0,rev_app,if_neg (by omega)]
      rw[show Z.length+u.args.length+f ((n:Int)-((Z.length+u.args.length:Nat):Int)).toNat-(Z++u.args).length=f (n-(Z++u.args).length) by
       rw[show ((n:Int)-((Z.length+u.args.length:Nat):Int)).toNat=n-(Z++u.args).length by omega];omega]
      exact hf _ _ h1
   ·rw[if_neg (fun h=>hk h.1),headTy_ctx (X':=Y++(Z++u.args)) hk];exact h1
  ·rw[List.append_assoc,←hzl]
   exact isOfs_map h3 fun v hv w hw=>ih v hv X Y (Z++u.args) w hf hw
theorem Rn_id (f:Nat→Nat)(t:Tm):∀ (z:Nat),(∀ d,f d=d)→Rn f t z=t:=by
 induction t using Tm.ind with
 | h b k i a ih=>
  intro z hf
  rw[Rn_eq]
  congr 1
  ·split
   ·rename_i h;rw[hf];omega
   ·rfl
  ·have:a.map (fun t=>Rn f t (z+b.length))=a.map fun t=>t:=List.map_congr_left fun t ht=>ih t ht _ hf
   rw[this,List.map_id']
theorem lift_Rn (t:Tm)(y:Nat):∀ (X Z:List Ty) (u:Ty),(X.length:Int)+y+Z.length+t.full≤9000000000000→IsOf C M t (X++Z) u→Nm.lift y t Z.length=Rn (· + y) t Z.length:=by
 induction t using Tm.ind with
 | h b k i a ih=>
  intro X Z u hz ht
  rw[Tm.full_eq] at hz
  have hbl:=Ty.le_sizes b
  obtain⟨rfl,h,h1,h2,h3⟩:=isOf_mk.1 ht
  rw[List.append_assoc] at h1 h3
  have hzl:(Z++u.args).length=Z.length+u.args.length:=List.length_append
  have hw:Nm.wr (Z.length+u.args.length)=((Z.length+u.args.length:Nat):Int):=by rw[wr_id (by omega) (by omega)];omega
  rw[Nm.lift_eq,Nm.lifts_map,hw,Rn_eq]
  congr 1
  ·by_cases hc:k=0∧((Z.length+u.args.length:Nat):Int)≤i
   ·rw[if_pos hc,if_pos hc]
    obtain⟨rfl,hi⟩:=hc
    obtain⟨n,rfl⟩:∃ n:Nat,i=n:=⟨i.toNat,by omega⟩
    rw[headTy_0] at h1
    have hlt:=(List.getElem?_eq_some_iff.1 h1).1
    rw[List.length_reverse,List.length_append] at hlt
    rw[wr_id (by omega) (by omega)];omega
   ·rw[if_neg hc,if_neg hc]
  ·refine List.map_congr_left fun v hv=>?_
   obtain⟨j,hj,rfl⟩:=List.getElem_of_mem hv
   have hl:=isOfs_len h3
   have:=Tm.full_mem (List.getElem_mem hj)
   have hr:=ih a[j] hv X (Z++u.args) _ (by omega) ((isOfs_iff.1 h3).2 j hj (by omega))
   rw[hzl] at hr
   exact hr
theorem grown_Rn {t:Tm}{y:Nat}{X:List Ty}{u:Ty}(hz:(X.length:Int)+y+t.full≤9000000000000)(h:IsOf C M t X u):Nm.grown t y=Rn (· + y) t 0:=by
 unfold Nm.grown
 split
 ·rename_i h0
  have:y=0:=by omega
  subst this
  exact(Rn_id _ _ _ fun _=>rfl).symm
 ·exact lift_Rn t y X [] u (by simp;omega) (by rw[List.append_nil];exact h)
end
theorem Rn_back (m:Nat)(f:Nat→Nat)(hf:∀ d,f d=if d<m then d else d-m)(t:Tm):∀ z,Rn f (Rn (· + m) t (m+z)) z=t:=by
 induction t using Tm.ind with
 | h b k i a ih=>
  intro z
  obtain⟨i',hi'⟩:∃ i',(if k=0∧((m+z+b.length:Nat):Int)≤i then ((m+z+b.length+(· + m) (i-((m+z+b.length:Nat):Int)).toNat:Nat):Int) else i)=i':=⟨_,rfl⟩
  rw[Rn_eq,hi',Rn_eq]
  dsimp only at hi'
  congr 1
  ·by_cases hk:k=0
   ·subst hk
    by_cases h1:((m+z+b.length:Nat):Int)≤i
    ·rw[if_pos ⟨rfl,h1⟩] at hi'
     rw[if_pos ⟨rfl,by omega⟩,hf]
     split <;> omega
    ·rw[if_neg (fun h=>h1 h.2)] at hi'
     subst hi'
     by_cases h2:((z+b.length:Nat):Int)≤i
     ·rw[if_pos ⟨rfl,h2⟩,hf]
      split <;> omega
     ·rw[if_neg (fun h=>h2 h.2)]
   ·rw[if_neg (fun h=>hk h.1)] at hi'
    rw[if_neg (fun h=>hk h.1)];exact hi'.symm
  ·rw[List.map_map]
   have:a.map ((fun t=>Rn f t (z+b.length)) ∘ fun t=>Rn (· + m) t (m+z+b.length))=a.map fun t=>t:=List.map_congr_left fun t ht=>by
    show Rn f (Rn (· + m) t (m+z+b.length)) (z+b.length)=t
    rw[Nat.add_assoc]
    exact ih t ht _
   rw[this,List.map_id']
namespace Hs
inductive Img where
 | v (d:Nat)
 | t (x:Tm)
def jk:Tm:=.mk [] 1 (-1) []
def wb (b:List Ty)(t:Tm):Tm:=.mk b t.kind t.index t.args
def bo (t:Tm):Tm:=.mk [] t.kind t.index t.args
mutual
def HW (P:Tm→List Tm→Tm)(ρ:Nat→Img):Tm→Nat→Tm
 | .mk b k i a,z=>if k=0∧((z+b.length:Nat):Int)≤i then (match ρ (i-((z+b.length:Nat):Int)).toNat with
   | .v d=>.mk b 0 ((z+b.length+d:Nat):Int) (HWs P ρ a (z+b.length))
   | .t x=>wb b (P (Rn (· + (z+b.length)) x 0) (HWs P ρ a (z+b.length))))
  else .mk b k i (HWs P ρ a (z+b.length))
def HWs (P:Tm→List Tm→Tm)(ρ:Nat→Img):List Tm→Nat→List Tm
 | [],_=>[]
 | t :: l,z=>HW P ρ t z :: HWs P ρ l z
end
theorem HWs_map (P:Tm→List Tm→Tm)(ρ:Nat→Img)(z:Nat):∀ l:List Tm,HWs P ρ l z=l.map fun t=>HW P ρ t z
 | []=>by rw[HWs];rfl
 | t :: l=>by rw[HWs,HWs_map P ρ z l];rfl
theorem HW_out (P:Tm→List Tm→Tm)(ρ:Nat→Img)(b:List Ty)(k i:Int)(a:List Tm)(z:Nat)(h:¬ (k=0∧((z+b.length:Nat):Int)≤i)):HW P ρ (.mk b k i a) z=.mk b k i (a.map fun t=>HW P ρ t (z+b.length)):=by
 rw[HW,if_neg h,HWs_map]
theorem HW_v (P:Tm→List Tm→Tm)(ρ:Nat→Img)(b:List Ty)(d e:Nat)(a:List Tm)(z:Nat)(h:ρ d=.v e):HW P ρ (.mk b 0 ((z+b.length+d:Nat):Int) a) z=.mk b 0 ((z+b.length+e:Nat):Int) (a.map fun t=>HW P ρ t (z+b.length)):=by
 rw[HW,if_pos ⟨rfl,by omega⟩,HWs_map,show (((z+b.length+d:Nat):Int)-((z+b.length:Nat):Int)).toNat=d by omega,h]
theorem HW_t (P:Tm→List Tm→Tm)(ρ:Nat→Img)(b:List Ty)(d:Nat)(x:Tm)(a:List Tm)(z:Nat)(h:ρ d=.t x):HW P ρ (.mk b 0 ((z+b.length+d:Nat):Int) a) z=wb b (P (Rn (· + (z+b.length)) x 0) (a.map fun t=>HW P ρ t (z+b.length))):=by
 rw[HW,if_pos ⟨rfl,by omega⟩,HWs_map,show (((z+b.length+d:Nat):Int)-((z+b.length:Nat):Int)).toNat=d by omega,h]
theorem cases_ix (b:List Ty)(k i:Int)(z:Nat):(¬ (k=0∧((z+b.length:Nat):Int)≤i))∨(k=0∧∃ d:Nat,i=((z+b.length+d:Nat):Int)):=by
 by_cases h:k=0∧((z+b.length:Nat):Int)≤i
 ·exact .inr ⟨h.1,(i-((z+b.length:Nat):Int)).toNat,by omega⟩
 ·exact .inl h
theorem Rn_out (f:Nat→Nat)(b:List Ty)(k i:Int)(a:List Tm)(z:Nat)(h:¬ (k=0∧((z+b.length:Nat):Int)≤i)):Rn f (.mk b k i a) z=.mk b k i (a.map fun t=>Rn f t (z+b.length)):=by
 rw[Rn_eq,if_neg h]
theorem Rn_v (f:Nat→Nat)(b:List Ty)(d:Nat)(a:List Tm)(z:Nat):Rn f (.mk b 0 ((z+b.length+d:Nat):Int) a) z=.mk b 0 ((z+b.length+f d:Nat):Int) (a.map fun t=>Rn f t (z+b.length)):=by
 rw[Rn_eq,if_pos ⟨rfl,by omega⟩,show (((z+b.length+d:Nat):Int)-((z+b.length:Nat):Int)).toNat=d by omega]
theorem Rn_wb (f:Nat→Nat)(b:List Ty)(w:Tm)(z:Nat):Rn f (wb b w) z=wb b (Rn f (bo w) (z+b.length)):=by
 unfold wb bo
 rw[Rn_eq,Rn_eq];rfl
theorem Rn_bo (f:Nat→Nat)(w:Tm)(z:Nat):bo (Rn f w z)=Rn f (bo w) (z+w.binds.length):=by
 obtain⟨b,k,i,a⟩:=w
 unfold bo
 rw[Rn_eq,Rn_eq];rfl
theorem Rn_binds (f:Nat→Nat)(w:Tm)(z:Nat):(Rn f w z).binds=w.binds:=by
 obtain⟨b,k,i,a⟩:=w
 rw[Rn_eq];rfl
def up (n:Nat)(r:Nat→Nat)(d:Nat):Nat:=if d<n then d else n+r (d-n)
theorem Rn_up (r:Nat→Nat)(n:Nat)(t:Tm):∀ z,Rn r t (z+n)=Rn (up n r) t z:=by
 induction t using Tm.ind with
 | h b k i a ih=>
  intro z
  have ha:(a.map fun t=>Rn r t (z+n+b.length))=a.map fun t=>Rn (up n r) t (z+b.length):=List.map_congr_left fun t ht=>by rw[←ih t ht];congr 1;omega
  rcases cases_ix b k i z with h | ⟨rfl,d,rfl⟩
  ·rw[Rn_out _ _ _ _ _ _ h,Rn_out _ _ _ _ _ _ (by rintro⟨h1,h2⟩;exact h ⟨h1,by omega⟩),ha]
  ·rw[Rn_v,←ha]
   by_cases hd:d<n
   ·rw[Rn_out _ _ _ _ _ _ (by rintro⟨h1,h2⟩;omega)]
    unfold up;rw[if_pos hd]
   ·rw[show ((z+b.length+d:Nat):Int)=((z+n+b.length+(d-n):Nat):Int) by omega,Rn_v]
    unfold up;rw[if_neg hd]
    congr 1;omega
theorem Rn_Rn (r q:Nat→Nat)(t:Tm):∀ z,Rn r (Rn q t z) z=Rn (fun d=>r (q d)) t z:=by
 induction t using Tm.ind with
 | h b k i a ih=>
  intro z
  have ha:((a.map fun t=>Rn q t (z+b.length)).map fun t=>Rn r t (z+b.length))=a.map fun t=>Rn (fun d=>r (q d)) t (z+b.length):=by
   rw[List.map_map];exact List.map_congr_left fun t ht=>ih t ht _
  rcases cases_ix b k i z with h | ⟨rfl,d,rfl⟩
  ·rw[Rn_out _ _ _ _ _ _ h,Rn_out _ _ _ _ _ _ h,Rn_out _ _ _ _ _ _ h,ha]
  ·rw[Rn_v,Rn_v,Rn_v,ha]
theorem Rn_comm (r:Nat→Nat)(m:Nat)(x:Tm):Rn r (Rn (· + m) x 0) m=Rn (· + m) (Rn r x 0) 0:=by
 have:=Rn_up r m (Rn (· + m) x 0) 0
 rw[Nat.zero_add] at this
 rw[this,Rn_Rn,Rn_Rn]
 congr 1
 funext d
 unfold up
 rw[if_neg (by omega),show d+m-m=d by omega];omega
theorem Rn_ext {r q:Nat→Nat}(h:∀ d,r d=q d)(t:Tm)(z:Nat):Rn r t z=Rn q t z:=by rw[show r=q from funext h]
theorem HW_Rn (P:Tm→List Tm→Tm)(ρ:Nat→Img)(r:Nat→Nat)(t:Tm):∀ z,HW P ρ (Rn r t z) z=HW P (fun d=>ρ (r d)) t z:=by
 induction t using Tm.ind with
 | h b k i a ih=>
  intro z
  have ha:((a.map fun t=>Rn r t (z+b.length)).map fun t=>HW P ρ t (z+b.length))=a.map fun t=>HW P (fun d=>ρ (r d)) t (z+b.length):=by
   rw[List.map_map];exact List.map_congr_left fun t ht=>ih t ht _
  rcases cases_ix b k i z with h | ⟨rfl,d,rfl⟩
  ·rw[Rn_out _ _ _ _ _ _ h,HW_out _ _ _ _ _ _ _ h,HW_out _ _ _ _ _ _ _ h,ha]
  ·rw[Rn_v]
   cases hr:ρ (r d) with
   | v e=>rw[HW_v _ _ _ _ e _ _ hr,HW_v _ (fun d=>ρ (r d)) _ _ e _ _ hr,ha]
   | t x=>rw[HW_t _ _ _ _ x _ _ hr,HW_t _ (fun d=>ρ (r d)) _ _ x _ _ hr,ha]
theorem HW_var (P:Tm→List Tm→Tm)(ρ:Nat→Img)(r:Nat→Nat)(hr:∀ d,ρ d=.v (r d))(t:Tm):∀ z,HW P ρ t z=Rn r t z:=by
 induction t using Tm.ind with
 | h b k i a ih=>
  intro z
  have ha:(a.map fun t=>HW P ρ t (z+b.length))=a.map fun t=>Rn r t (z+b.length):=List.map_congr_left fun t ht=>ih t ht _
  rcases cases_ix b k i z with h | ⟨rfl,d,rfl⟩
  ·rw[Rn_out _ _ _ _ _ _ h,HW_out _ _ _ _ _ _ _ h,ha]
  ·rw[Rn_v,HW_v _ _ _ _ _ _ _ (hr d),ha]
theorem HW_ext {P:Tm→List Tm→Tm}{ρ σ:Nat→Img}(h:∀ d,ρ d=σ d)(t:Tm)(z:Nat):HW P ρ t z=HW P σ t z:=by rw[show ρ=σ from funext h]
theorem HW_wb (P:Tm→List Tm→Tm)(ρ:Nat→Img)(b:List Ty)(w:Tm)(z:Nat):HW P ρ (wb b w) z=wb b (HW P ρ (bo w) (z+b.length)):=by
 unfold bo
 obtain⟨b',k,i,a⟩:=w
 show HW P ρ (.mk b k i a) z=wb b (HW P ρ (.mk [] k i a) (z+b.length))
 rcases cases_ix b k i z with h | ⟨rfl,d,rfl⟩
 ·rw[HW_out _ _ _ _ _ _ _ h,HW_out _ _ _ _ _ _ _ (by rintro⟨h1,h2⟩;exact h ⟨h1,by simpa using h2⟩)];rfl
 ·have e:((z+b.length+d:Nat):Int)=((z+b.length+([]:List Ty).length+d:Nat):Int):=by simp
  cases hr:ρ d with
  | v e'=>rw[HW_v _ _ _ _ e' _ _ hr,e,HW_v _ _ _ _ e' _ _ hr];rfl
  | t x=>rw[HW_t _ _ _ _ x _ _ hr,e,HW_t _ _ _ _ x _ _ hr];rfl
theorem HW_bo (P:Tm→List Tm→Tm)(ρ:Nat→Img)(w:Tm)(z:Nat):bo (HW P ρ w z)=bo (HW P ρ (bo w) (z+w.binds.length)):=by
 obtain⟨b,k,i,a⟩:=w
 have h:=HW_wb P ρ b (.mk [] k i a) z
 have e:HW P ρ (.mk b k i a) z=wb b (HW P ρ (.mk [] k i a) (z+b.length)):=h
 rw[e];rfl
theorem HW_binds (P:Tm→List Tm→Tm)(ρ:Nat→Img)(w:Tm)(z:Nat):(HW P ρ w z).binds=w.binds:=by
 obtain⟨b,k,i,a⟩:=w
 rw[HW]
 split
 ·split <;> rfl
 ·rfl
def upI (m:Nat)(ρ:Nat→Img)(d:Nat):Img:=if d<m then .v d else match ρ (d-m) with
 | .v e=>.v (m+e)
 | .t x=>.t (Rn (· + m) x 0)
theorem upI_low {m:Nat}{ρ:Nat→Img}{d:Nat}(h:d<m):upI m ρ d=.v d:=by unfold upI;rw[if_pos h]
theorem upI_v {m:Nat}{ρ:Nat→Img}{d e:Nat}(h:m≤d)(hr:ρ (d-m)=.v e):upI m ρ d=.v (m+e):=by unfold upI;rw[if_neg (by omega),hr]
theorem upI_t {m:Nat}{ρ:Nat→Img}{d:Nat}{x:Tm}(h:m≤d)(hr:ρ (d-m)=.t x):upI m ρ d=.t (Rn (· + m) x 0):=by unfold upI;rw[if_neg (by omega),hr]
theorem HW_up (P:Tm→List Tm→Tm)(ρ:Nat→Img)(m:Nat)(t:Tm):∀ z,HW P ρ t (z+m)=HW P (upI m ρ) t z:=by
 induction t using Tm.ind with
 | h b k i a ih=>
  intro z
  have ha:(a.map fun t=>HW P ρ t (z+m+b.length))=a.map fun t=>HW P (upI m ρ) t (z+b.length):=List.map_congr_left fun t ht=>by rw[←ih t ht];congr 1;omega
  rcases cases_ix b k i z with h | ⟨rfl,d,rfl⟩
  ·rw[HW_out _ _ _ _ _ _ _ h,HW_out _ _ _ _ _ _ _ (by rintro⟨h1,h2⟩;exact h ⟨h1,by omega⟩),ha]
  ·by_cases hd:d<m
   ·rw[HW_out _ _ _ _ _ _ _ (by rintro⟨h1,h2⟩;omega),HW_v _ _ _ _ _ _ _ (upI_low hd),ha]
   ·have e:((z+b.length+d:Nat):Int)=((z+m+b.length+(d-m):Nat):Int):=by omega
    cases hr:ρ (d-m) with
    | v e'=>
     rw[HW_v _ _ _ _ _ _ _ (upI_v (by omega) hr),e,HW_v _ _ _ _ _ _ _ hr,ha]
     congr 1;omega
    | t x=>
     rw[HW_t _ _ _ _ _ _ _ (upI_t (by omega) hr),e,HW_t _ _ _ _ _ _ _ hr,ha,Rn_Rn]
     congr 2
     exact Rn_ext (fun d=>by omega) _ _
def sg (xs:List Tm)(d:Nat):Img:=if d<xs.length then .t (xs.getD (xs.length-1-d) jk) else .v (d-xs.length)
def pt (h:(Nat→Img)→Tm→Nat→Tm)(x:Tm)(xs:List Tm):Tm:=if x.binds.length≠xs.length then jk else bo (h (sg xs) (bo x) 0)
def H:Nat→(Nat→Img)→Tm→Nat→Tm
 | 0=>HW fun _ _=>jk
 | f+1=>HW (pt (H f))
def PF:Nat→Tm→List Tm→Tm
 | 0=>fun _ _=>jk
 | f+1=>pt (H f)
theorem H_is (f:Nat):H f=HW (PF f):=by cases f <;> rfl
theorem pt_jk (P:Tm→List Tm→Tm)(ρ:Nat→Img)(z:Nat):HW P ρ jk z=jk:=by
 unfold jk
 rw[HW_out _ _ _ _ _ _ _ (by rintro⟨h,_⟩;exact absurd h (by decide))];rfl
theorem rn_jk (r:Nat→Nat)(z:Nat):Rn r jk z=jk:=by
 unfold jk
 rw[Rn_out _ _ _ _ _ _ (by rintro⟨h,_⟩;exact absurd h (by decide))];rfl
theorem PF_bo (f:Nat)(x:Tm)(xs:List Tm):bo (PF f x xs)=PF f x xs:=by
 cases f with
 | zero=>rfl
 | succ f=>
  show bo (pt (H f) x xs)=pt (H f) x xs
  unfold pt
  split <;> rfl
theorem sg_map (g:Tm→Tm)(hg:g jk=jk)(xs:List Tm)(d:Nat):sg (xs.map g) d=if d<xs.length then .t (g (xs.getD (xs.length-1-d) jk)) else .v (d-xs.length):=by
 unfold sg
 rw[List.length_map]
 split
 ·rw[List.getD_eq_getElem?_getD,List.getElem?_map,List.getD_eq_getElem?_getD]
  cases xs[xs.length-1-d]? with
  | none=>show Img.t jk=Img.t (g jk);rw[hg]
  | some x=>rfl
 ·rfl
def rnI (r:Nat→Nat):Img→Img
 | .v d=>.v (r d)
 | .t x=>.t (Rn r x 0)
theorem sg_low {xs:List Tm}{d:Nat}(h:d<xs.length):sg xs d=.t (xs.getD (xs.length-1-d) jk):=by unfold sg;rw[if_pos h]
theorem sg_high {xs:List Tm}{d:Nat}(h:xs.length≤d):sg xs d=.v (d-xs.length):=by unfold sg;rw[if_neg (by omega)]
theorem sgm_low {g:Tm→Tm}(hg:g jk=jk){xs:List Tm}{d:Nat}(h:d<xs.length):sg (xs.map g) d=.t (g (xs.getD (xs.length-1-d) jk)):=by rw[sg_map g hg,if_pos h]
theorem sgm_high {g:Tm→Tm}(hg:g jk=jk){xs:List Tm}{d:Nat}(h:xs.length≤d):sg (xs.map g) d=.v (d-xs.length):=by rw[sg_map g hg,if_neg (by omega)]
theorem rnH_of {P:Tm→List Tm→Tm}(hb:∀ x xs,bo (P x xs)=P x xs)(hP:∀ (r:Nat→Nat) (x:Tm) (xs:List Tm) (m:Nat),Rn r (P x xs) m=P (Rn r x m) (xs.map fun t=>Rn r t m))(r:Nat→Nat)(ρ:Nat→Img)(t:Tm):∀ z,Rn r (HW P ρ t z) z=HW P (fun d=>rnI r (ρ d)) t z:=by
 induction t using Tm.ind with
 | h b k i a ih=>
  intro z
  have ha:((a.map fun t=>HW P ρ t (z+b.length)).map fun t=>Rn r t (z+b.length))=a.map fun t=>HW P (fun d=>rnI r (ρ d)) t (z+b.length):=by
   rw[List.map_map];exact List.map_congr_left fun t ht=>ih t ht _
  rcases cases_ix b k i z with h | ⟨rfl,d,rfl⟩
  ·rw[HW_out _ _ _ _ _ _ _ h,HW_out _ _ _ _ _ _ _ h,Rn_out _ _ _ _ _ _ h,ha]
  ·cases hr:ρ d with
   | v e=>rw[HW_v _ _ _ _ e _ _ hr,HW_v _ (fun d=>rnI r (ρ d)) _ _ (r e) _ _ (by rw[hr];rfl),Rn_v,ha]
   | t x=>rw[HW_t _ _ _ _ x _ _ hr,HW_t _ (fun d=>rnI r (ρ d)) _ _ (Rn r x 0) _ _ (by rw[hr];rfl),Rn_wb,hb,hP,ha,Rn_comm]
theorem rnP_of {h:(Nat→Img)→Tm→Nat→Tm}{P:Tm→List Tm→Tm}(hh:h=HW P)(hr:∀ (r:Nat→Nat) (ρ:Nat→Img) (t:Tm) (z:Nat),Rn r (h ρ t z) z=h (fun d=>rnI r (ρ d)) t z)(r:Nat→Nat)(x:Tm)(xs:List Tm)(m:Nat):Rn r (pt h x xs) m=pt h (Rn r x m) (xs.map fun t=>Rn r t m):=by
 unfold pt
 rw[Rn_binds,List.length_map]
 by_cases hn:x.binds.length≠xs.length
 ·rw[if_pos hn,if_pos hn,rn_jk]
 ·rw[if_neg hn,if_neg hn]
  have hn:x.binds.length=xs.length:=by omega
  have e1:bo (Rn r (h (sg xs) (bo x) 0) m)=Rn r (bo (h (sg xs) (bo x) 0)) m:=by
   rw[Rn_bo,hh,HW_binds];rfl
  rw[←e1,Rn_bo r x m,hn]
  have e2:=Rn_up r m (h (sg xs) (bo x) 0) 0
  rw[Nat.zero_add] at e2
  rw[e2,hr]
  have e3:=Rn_up r (m+xs.length) (bo x) 0
  rw[Nat.zero_add] at e3
  rw[e3]
  rw[hh,HW_Rn]
  congr 1
  refine HW_ext (fun d=>?_) _ _
  by_cases hd:d<xs.length
  ·rw[sg_low hd]
   have e4:up (m+xs.length) r d=d:=by unfold up;rw[if_pos (by omega)]
   rw[e4,sgm_low (rn_jk _ _) hd]
   show Img.t (Rn (up m r) _ 0)=_
   rw[←Rn_up,Nat.zero_add]
  ·rw[sg_high (by omega)]
   show Img.v (up m r (d-xs.length))=_
   have e5:xs.length≤up (m+xs.length) r d:=by unfold up;split <;> omega
   rw[sgm_high (rn_jk _ _) e5]
   congr 1
   unfold up
   by_cases h1:d<m+xs.length
   ·rw[if_pos h1,if_pos (by omega)]
   ·rw[if_neg h1,if_neg (by omega),show d-xs.length-m=d-(m+xs.length) by omega];omega
theorem rn_P:∀ (f:Nat) (r:Nat→Nat) (x:Tm) (xs:List Tm) (m:Nat),Rn r (PF f x xs) m=PF f (Rn r x m) (xs.map fun t=>Rn r t m)
 | 0,r,x,xs,m=>rn_jk _ _
 | f+1,r,x,xs,m=>rnP_of (H_is f) (fun r ρ t z=>by rw[H_is f];exact rnH_of (PF_bo f) (rn_P f) r ρ t z) r x xs m
theorem rn_H (f:Nat)(r:Nat→Nat)(ρ:Nat→Img)(t:Tm)(z:Nat):Rn r (H f ρ t z) z=H f (fun d=>rnI r (ρ d)) t z:=by
 rw[H_is f];exact rnH_of (PF_bo f) (rn_P f) r ρ t z
theorem HW_lift (f m:Nat)(θ:Nat→Img)(x:Tm):H f θ (Rn (· + m) x 0) m=Rn (· + m) (H f θ x 0) 0:=by
 rw[rn_H,H_is f]
 have e:=HW_up (PF f) θ m (Rn (· + m) x 0) 0
 rw[Nat.zero_add] at e
 rw[e,HW_Rn]
 refine HW_ext (fun d=>?_) _ _
 cases hr:θ d with
 | v e'=>rw[upI_v (by omega) (by rw[show d+m-m=d by omega];exact hr)];show Img.v (m+e')=Img.v (e'+m);rw[Nat.add_comm]
 | t y=>rw[upI_t (by omega) (by rw[show d+m-m=d by omega];exact hr)];rfl
def Sq (f g:Nat)(ρ θ ρ' θ':Nat→Img):Prop:=∀ d,(∃ k l k',θ d=.v k∧ρ k=.v l∧ρ' d=.v k'∧θ' k'=.v l)∨(∃ k x,θ d=.v k∧ρ k=.t (H g θ' x 0)∧ρ' d=.t x)∨(∃ y k',θ d=.t y∧ρ' d=.v k'∧θ' k'=.t (H f ρ y 0))
theorem sq_sg {f g n:Nat}(ρ:Nat→Img)(xs:List Tm)(hn:xs.length=n):Sq f g ρ (sg xs) (upI n ρ) (sg (xs.map fun t=>H f ρ t 0)):=by
 subst hn
 intro d
 have hj:(fun t=>H f ρ t 0) jk=jk:=by rw[H_is f];exact pt_jk _ _ _
 by_cases hd:d<xs.length
 ·exact .inr (.inr ⟨_,d,sg_low hd,upI_low hd,sgm_low hj hd⟩)
 ·cases hr:ρ (d-xs.length) with
  | v l=>exact .inl ⟨d-xs.length,l,xs.length+l,sg_high (by omega),hr,upI_v (by omega) hr,by rw[sgm_high hj (by omega)];congr 1;omega⟩
  | t x=>
   refine .inr (.inl ⟨_,_,sg_high (by omega),?_,upI_t (by omega) hr⟩)
   rw[hr,H_is g,HW_Rn,HW_var _ _ (fun d=>d) (fun d=>by rw[sgm_high hj (by omega)];congr 1;omega),Rn_id _ _ _ fun _=>rfl]
theorem put_of {f g m:Nat}(ρ:Nat→Img)(Y:Tm)(xs:List Tm)(hW:∀ g',g=g'+1→∀ (t:Tm) (z:Nat) (ρ θ ρ' θ':Nat→Img),Sq f g' ρ θ ρ' θ'→H f ρ (H g' θ t z) z=H g' θ' (H f ρ' t z) z):
  H f ρ (PF g Y xs) m=PF g (H f ρ Y m) (xs.map fun t=>H f ρ t m):=by
 cases g with
 | zero=>rw[H_is f];exact pt_jk _ _ _
 | succ g=>
  have hW:=hW g rfl
  show H f ρ (pt (H g) Y xs) m=pt (H g) (H f ρ Y m) (xs.map fun t=>H f ρ t m)
  unfold pt
  have hb:(H f ρ Y m).binds=Y.binds:=by rw[H_is f,HW_binds]
  rw[hb,List.length_map]
  by_cases hn:Y.binds.length≠xs.length
  ·rw[if_pos hn,if_pos hn,H_is f,pt_jk]
  ·rw[if_neg hn,if_neg hn]
   have hn:Y.binds.length=xs.length:=by omega
   have hm:∀ w,H f ρ w m=H f (upI m ρ) w 0:=fun w=>by
    have:=HW_up (PF f) ρ m w 0
    rw[Nat.zero_add] at this
    rw[H_is f,this]
   have hwb:(H g (sg xs) (bo Y) 0).binds=[]:=by rw[H_is g,HW_binds];rfl
   have e1:H f ρ (bo (H g (sg xs) (bo Y) 0)) m=bo (H f ρ (H g (sg xs) (bo Y) 0) m):=by
    have h1:∀ w:Tm,w.binds=[]→bo w=w:=fun w hw=>by obtain⟨b,k,i,a⟩:=w;have hw:b=[]:=hw;subst hw;rfl
    have h2:=h1 (H f ρ (H g (sg xs) (bo Y) 0) m) (by rw[H_is f,HW_binds];exact hwb)
    rw[h1 _ hwb,h2]
   rw[e1,hm,hW (bo Y) 0 _ _ _ _ (sq_sg (f:=f) (g:=g) (n:=xs.length) (upI m ρ) xs rfl)]
   have e2:(xs.map fun t=>H f ρ t m)=xs.map fun t=>H f (upI m ρ) t 0:=List.map_congr_left fun t _=>hm t
   rw[e2]
   have e3:bo (H f ρ Y m)=H f (upI xs.length (upI m ρ)) (bo Y) 0:=by
    have h2:=HW_up (PF f) (upI m ρ) xs.length (bo Y) 0
    have h3:=HW_up (PF f) ρ m (bo Y) xs.length
    rw[Nat.zero_add] at h2
    rw[H_is f,HW_bo,←h2,←h3,hn,Nat.add_comm m]
    have h1:∀ w:Tm,w.binds=[]→bo w=w:=fun w hw=>by obtain⟨b,k,i,a⟩:=w;have hw:b=[]:=hw;subst hw;rfl
    exact h1 _ (by rw[HW_binds];rfl)
   rw[e3]
theorem sq_H:∀ (N f g:Nat),f+g≤N→∀ (t:Tm) (z:Nat) (ρ θ ρ' θ':Nat→Img),Sq f g ρ θ ρ' θ'→H f ρ (H g θ t z) z=H g θ' (H f ρ' t z) z
 | N,f,g,hN,t=>by
  have hput:∀ (ρ:Nat→Img) (Y:Tm) (xs:List Tm) (m:Nat),H f ρ (PF g Y xs) m=PF g (H f ρ Y m) (xs.map fun t=>H f ρ t m):=fun ρ Y xs m=>put_of ρ Y xs fun g' hg'=>by
   match N,hN with
   | 0,hN=>omega
   | N+1,hN=>exact fun t z ρ θ ρ' θ' h=>sq_H N f g' (by omega) t z ρ θ ρ' θ' h
  have hput2:∀ (ρ:Nat→Img) (Y:Tm) (xs:List Tm) (m:Nat),H g ρ (PF f Y xs) m=PF f (H g ρ Y m) (xs.map fun t=>H g ρ t m):=fun ρ Y xs m=>put_of ρ Y xs fun f' hf'=>by
   match N,hN with
   | 0,hN=>omega
   | N+1,hN=>exact fun t z ρ θ ρ' θ' h=>sq_H N g f' (by omega) t z ρ θ ρ' θ' h
  induction t using Tm.ind with
  | h b k i a ih=>
   intro z ρ θ ρ' θ' hs
   have ha:((a.map fun t=>H g θ t (z+b.length)).map fun t=>H f ρ t (z+b.length))=(a.map fun t=>H f ρ' t (z+b.length)).map fun t=>H g θ' t (z+b.length):=by
    rw[List.map_map,List.map_map];exact List.map_congr_left fun t ht=>ih t ht _ _ _ _ _ hs
   have hwb:∀ (q:Nat) (ρ:Nat→Img) (b:List Ty) (w:Tm) (z:Nat),bo w=w→H q ρ (wb b w) z=wb b (H q ρ w (z+b.length)):=fun q ρ b w z hw=>by rw[H_is q,HW_wb,hw]
   rcases cases_ix b k i z with h | ⟨rfl,d,rfl⟩
   ·rw[H_is f,H_is g,HW_out _ _ _ _ _ _ _ h,HW_out _ _ _ _ _ _ _ h,HW_out _ _ _ _ _ _ _ h,HW_out _ _ _ _ _ _ _ h,←H_is f,←H_is g,ha]
   ·rcases hs d with⟨k,l,k',h1,h2,h3,h4⟩ | ⟨k,x,h1,h2,h3⟩ | ⟨y,k',h1,h2,h3⟩
    ·rw[H_is f,H_is g,HW_v _ _ _ _ _ _ _ h1,HW_v _ _ _ _ _ _ _ h3,HW_v _ _ _ _ _ _ _ h2,HW_v _ _ _ _ _ _ _ h4,←H_is f,←H_is g,ha]
    ·have e1:H g θ (.mk b 0 ((z+b.length+d:Nat):Int) a) z=.mk b 0 ((z+b.length+k:Nat):Int) (a.map fun t=>H g θ t (z+b.length)):=by rw[H_is g];exact HW_v _ _ _ _ _ _ _ h1
     have e2:H f ρ' (.mk b 0 ((z+b.length+d:Nat):Int) a) z=wb b (PF f (Rn (· + (z+b.length)) x 0) (a.map fun t=>H f ρ' t (z+b.length))):=by rw[H_is f];exact HW_t _ _ _ _ _ _ _ h3
     have e3:H f ρ (.mk b 0 ((z+b.length+k:Nat):Int) (a.map fun t=>H g θ t (z+b.length))) z=wb b (PF f (Rn (· + (z+b.length)) (H g θ' x 0) 0) ((a.map fun t=>H g θ t (z+b.length)).map fun t=>H f ρ t (z+b.length))):=by
      rw[H_is f];exact HW_t _ _ _ _ _ _ _ h2
     rw[e1,e2,e3,ha,hwb g _ _ _ _ (PF_bo f _ _),hput2,HW_lift]
    ·have e1:H g θ (.mk b 0 ((z+b.length+d:Nat):Int) a) z=wb b (PF g (Rn (· + (z+b.length)) y 0) (a.map fun t=>H g θ t (z+b.length))):=by rw[H_is g];exact HW_t _ _ _ _ _ _ _ h1
     have e2:H f ρ' (.mk b 0 ((z+b.length+d:Nat):Int) a) z=.mk b 0 ((z+b.length+k':Nat):Int) (a.map fun t=>H f ρ' t (z+b.length)):=by rw[H_is f];exact HW_v _ _ _ _ _ _ _ h2
     have e3:H g θ' (.mk b 0 ((z+b.length+k':Nat):Int) (a.map fun t=>H f ρ' t (z+b.length))) z=wb b (PF g (Rn (· + (z+b.length)) (H f ρ y 0) 0) ((a.map fun t=>H f ρ' t (z+b.length)).map fun t=>H g θ' t (z+b.length))):=by
      rw[H_is g];exact HW_t _ _ _ _ _ _ _ h3
     rw[e1,e2,e3,←ha,hwb f _ _ _ _ (PF_bo g _ _),hput,HW_lift]
 termination_by N=>N
theorem put_H (f g m:Nat)(ρ:Nat→Img)(Y:Tm)(xs:List Tm):H f ρ (PF g Y xs) m=PF g (H f ρ Y m) (xs.map fun t=>H f ρ t m):=
 put_of ρ Y xs fun g' _ t z ρ θ ρ' θ' h=>sq_H (f+g') f g' (Nat.le_refl _) t z ρ θ ρ' θ' h
end Hs
namespace Nm
theorem seqM_to {f:Nat}{g:Tm→St→Tm×St}(hw:∀ t s,WkOk s→WkOk (g t s).2)(hc:∀ t s,s.count≤(g t s).2.count):∀ (l ys:List Tm),ys.length=l.length→(∀ j (h:j<l.length) (h':j<ys.length) s,WkOk s→Fu f s→(g l[j] s).2.e=0→s.e=0∧(g l[j] s).1=ys[j])→∀ s,WkOk s→Fu f s→(seqM g l s).2.e=0→s.e=0∧(seqM g l s).1=ys
 | [],ys,hl,_,s,_,_,he=>⟨he,by
   have:ys=[]:=List.length_eq_zero_iff.1 hl
   rw[this,seqM]⟩
 | _ :: _,[],hl,_,s,_,_,_=>by simp at hl
 | t :: l,y :: ys,hl,hg,s,hs,hf,he=>by
  have h1:=hg 0 (by simp) (by simp) s hs hf
  have h2:=seqM_to hw hc l ys (by simpa using hl) (fun j h h' s hs hf he=>hg (j+1) (by simp;omega) (by simp;omega) s hs hf he) (g t s).2 (hw t s hs) (fun e=>by
   have:=hf (h1 e).1
   have:=hc t s
   omega) he
  have h3:=h1 h2.1
  refine⟨h3.1,?_⟩
  show (g t s).1 :: (seqM g l (g t s).2).1=_
  rw[h2.2]
  have:(g t s).1=y:=h3.2
  rw[this]
theorem hit_e {thr:Thr}{xs:List Tm}{n:Nat}{t:Tm}{ins:Int}{args:List Tm}{s:St}(he:(hit thr xs n t ins args s).2.e=0):s.e=0:=by
 by_cases h:s.e=0
 ·exact h
 ·unfold hit at he
  split at he
  ·exact he
  ·dsimp only at he
   split at he
   ·exact he
   ·split at he
    ·exact he
    ·split at he
     ·exact absurd he (fail_ne s)
     ·unfold putW at he
      rw[if_pos (.inl h)] at he
      exact absurd he (fail_ne s)
theorem thr_step {f:Nat}{xs:List Tm}{n:Nat}{b:List Ty}{k i:Int}{a:List Tm}{ins m:Int}{s:St}(hs:WkOk s)(hf:Fu (f+1) s)(hm:wr (ins+b.length)=m)(he:(through (f+1) xs n (.mk b k i a) ins s).2.e=0):
  s.e=0∧WkOk (unit s).2∧Fu f (unit s).2∧through (f+1) xs n (.mk b k i a) ins s=hit (through f) xs n (.mk b k i a) m (seqM (fun a s=>through f xs n a m s) a (unit s).2).1 (seqM (fun a s=>through f xs n a m s) a (unit s).2).2 ∧
   (seqM (fun a s=>through f xs n a m s) a (unit s).2).2.e=0:=by
 have hX:through (f+1) xs n (.mk b k i a) ins s=if (unit s).1=true then hit (through f) xs n (.mk b k i a) m (seqM (fun a s=>through f xs n a m s) a (unit s).2).1 (seqM (fun a s=>through f xs n a m s) a (unit s).2).2 else (tz,(unit s).2):=by
  rw[←hm];rfl
 rw[hX] at he ⊢
 by_cases hu:(unit s).1=true
 ·rw[if_pos hu] at he ⊢
  obtain⟨u1,u2,u3⟩:=(unit_count s).2 hu
  exact⟨u2,unit_wk hs,fun _=>by have:=hf u2;omega,rfl,hit_e he⟩
 ·rw[if_neg hu] at he
  exact absurd he (unit_false hu).1
theorem hit_low {thr:Thr}{xs:List Tm}{n:Nat}{b:List Ty}{k i:Int}{a:List Tm}{ins:Int}{args:List Tm}{s:St}(h:k≠0∨i<ins):hit thr xs n (.mk b k i a) ins args s=(.mk b k i args,s):=by
 unfold hit
 exact if_pos h
theorem hit_out {thr:Thr}{xs:List Tm}{b:List Ty}{a:List Tm}{ins d:Nat}{args:List Tm}{s:St}(hd:xs.length≤d)(hb:ins+d+xs.length≤9000000000000000000):hit thr xs xs.length (.mk b 0 ((ins+d:Nat):Int) a) ((ins:Nat):Int) args s=(.mk b 0 ((ins+(d-xs.length):Nat):Int) args,s):=by
 unfold hit
 have hw:wr ((Tm.mk b 0 ((ins+d:Nat):Int) a).index-((ins:Nat):Int))=(d:Int):=by
  show wr (((ins+d:Nat):Int)-((ins:Nat):Int))=_
  rw[wr_id (by omega) (by omega)];omega
 have hw2:wr ((Tm.mk b 0 ((ins+d:Nat):Int) a).index-(xs.length:Nat))=((ins+(d-xs.length):Nat):Int):=by
  show wr (((ins+d:Nat):Int)-(xs.length:Nat))=_
  rw[wr_id (by omega) (by omega)];omega
 rw[if_neg (show ¬ ((Tm.mk b 0 ((ins+d:Nat):Int) a).kind≠0∨(Tm.mk b 0 ((ins+d:Nat):Int) a).index<((ins:Nat):Int)) from fun h=>h.elim (fun h=>h rfl) (fun h=>by have h:((ins+d:Nat):Int)<((ins:Nat):Int):=h;omega))]
 dsimp only
 rw[hw,if_neg (by omega),if_pos (by omega),hw2]
 rfl
theorem hit_in {thr:Thr}{xs:List Tm}{b:List Ty}{a:List Tm}{ins d:Nat}{args:List Tm}{s:St}(hd:d<xs.length)(hb:ins+d+xs.length≤9000000000000000000){x:Tm}(hx:xs[xs.length-1-d]'(by omega)=x) 
  (he:(hit thr xs xs.length (.mk b 0 ((ins+d:Nat):Int) a) ((ins:Nat):Int) args s).2.e=0) :
  s.e=0∧(grown x ins).binds.length=args.length∧(thr args args.length (.mk [] (grown x ins).kind (grown x ins).index (grown x ins).args) 0 s).2.e=0 ∧
   (hit thr xs xs.length (.mk b 0 ((ins+d:Nat):Int) a) ((ins:Nat):Int) args s).1=.mk b (thr args args.length (.mk [] (grown x ins).kind (grown x ins).index (grown x ins).args) 0 s).1.kind (thr args args.length (.mk [] (grown x ins).kind (grown x ins).index (grown x ins).args) 0 s).1.index (thr args args.length (.mk [] (grown x ins).kind (grown x ins).index (grown x ins).args) 0 s).1.args:=by
 have hs:=hit_e he
 have hw:wr ((Tm.mk b 0 ((ins+d:Nat):Int) a).index-((ins:Nat):Int))=(d:Int):=by
  show wr (((ins+d:Nat):Int)-((ins:Nat):Int))=_
  rw[wr_id (by omega) (by omega)];omega
 have hw2:wr (wr (((ins:Nat):Int)+(xs.length:Nat))-(xs.length:Nat))=(ins:Int):=by
  rw[wr_id (x:=((ins:Nat):Int)+(xs.length:Nat)) (by omega) (by omega),wr_id (by omega) (by omega)];omega
 have hg:xs.getD (((xs.length:Nat):Int)-1-(d:Int)).toNat tz=x:=by
  rw[show (((xs.length:Nat):Int)-1-(d:Int)).toNat=xs.length-1-d by omega,List.getD_eq_getElem?_getD,List.getElem?_eq_getElem (by omega),Option.getD_some];exact hx
 unfold hit at he ⊢
 rw[if_neg (show ¬ ((Tm.mk b 0 ((ins+d:Nat):Int) a).kind≠0∨(Tm.mk b 0 ((ins+d:Nat):Int) a).index<((ins:Nat):Int)) from fun h=>h.elim (fun h=>h rfl) (fun h=>by have h:((ins+d:Nat):Int)<((ins:Nat):Int):=h;omega))] at he ⊢
 dsimp only at he ⊢
 rw[hw,if_neg (by omega),if_neg (by omega),hg,hw2] at he ⊢
 by_cases hl:(grown x ins).binds.length≠args.length
 ·rw[if_pos hl] at he;exact absurd he (fail_ne s)
 ·rw[if_neg hl] at he ⊢
  have hl:(grown x ins).binds.length=args.length:=by omega
  unfold putW at he ⊢
  rw[if_neg (fun h=>h.elim (fun h=>h hs) fun h=>by omega)] at he ⊢
  rw[hl] at he ⊢
  exact⟨hs,rfl,he,rfl⟩
def ph (m:Nat)(w:Nat→Nat)(d:Nat):Nat:=if d<m then w (m-1-d) else d-m
variable {C M:List Ty}
structure Sx (C M:List Ty) (B f:Nat):Prop where
 c:∀ (xs:List Tm) (n:Nat) (T:Ty) (i ins:Nat) (s:St),WkOk s→Fu f s→T.size≤B→i<ins→ins+(2 * B+2) * f≤800000000→(through f xs n (Ty.eta T 0 i) (ins:Nat) s).2.e=0→s.e=0∧(through f xs n (Ty.eta T 0 i) (ins:Nat) s).1=Ty.eta T 0 i
 a:∀ (xs:List Tm) (P:List Ty) (w:Nat→Nat) (X Z:List Ty) (t:Tm) (u:Ty) (s:St),WkOk s→Fu f s→Nar B t→t.full≤8000000000000→xs.length=P.length→(∀ j (h:j<xs.length) (h':j<P.length),xs[j]=Ty.eta P[j] 0 (w j:Nat)∧X.reverse[w j]?=some P[j])→(∀ T∈P,T.size≤B) →
  X.length+P.length+Z.length+(2 * B+2) * f≤800000000→IsOf C M t (X++P++Z) u→(through f xs xs.length t (Z.length:Nat) s).2.e=0→s.e=0∧(through f xs xs.length t (Z.length:Nat) s).1=Rn (ph xs.length w) t Z.length
 b:∀ (xs:List Tm) (P X:List Ty) (j:Nat) (h:j<xs.length) (h':j<P.length) (s:St),WkOk s→Fu f s→(∀ x∈xs,Nar B x)→(∀ x∈xs,x.full≤8000000000000)→IsOfs C M xs X P→X.length+P.length+(2 * B+2) * f≤800000000 →
  (through f xs xs.length (Ty.eta P[j] 0 (xs.length-1-j:Nat)) 0 s).2.e=0→s.e=0∧(through f xs xs.length (Ty.eta P[j] 0 (xs.length-1-j:Nat)) 0 s).1=xs[j]
 h:∀ (xs:List Tm) (P X:List Ty) (d:Nat) (s:St),WkOk s→Fu f s→(∀ x∈xs,Nar B x)→(∀ x∈xs,x.full≤8000000000000)→IsOfs C M xs X P→X.length+P.length+(2 * B+2) * f≤800000000→d≤800000000 →
  (through f xs xs.length (.mk [] 0 ((xs.length+d:Nat):Int) (Ty.etas P)) 0 s).2.e=0→s.e=0∧(through f xs xs.length (.mk [] 0 ((xs.length+d:Nat):Int) (Ty.etas P)) 0 s).1=.mk [] 0 d xs
theorem fu_zero {s:St}(hs:WkOk s)(hf:Fu 0 s)(e:s.e=0):False:=by
 have h1:=hf e
 have h2:=hs.e0 e
 omega
theorem etas_nth {P:List Ty}{j:Nat}(h:j<(Ty.etas P).length):(Ty.etas P)[j]=Ty.eta (P[j]'(by rw[Ty.etas_len] at h;exact h)) 0 (P.length-1-j:Nat):=by
 rw[Ty.etas_len] at h
 rw[Ty.etas_get P j h,show (P.length:Int)-1-j=((P.length-1-j:Nat):Int) by omega]
theorem size_le {l:List Ty}{j:Nat}(h:j<l.length):l[j].size≤Ty.sizes l:=ty_mem (List.getElem_mem h)
theorem size_le2:∀ {l:List Ty} {j:Nat} (h:j<l.length),l[j].size+l.length≤Ty.sizes l+1
 | t :: l,0,_=>by
  have:=Ty.le_sizes l
  simp only[Ty.sizes,List.length_cons,List.getElem_cons_zero];omega
 | t :: l,j+1,h=>by
  have h1:=size_le2 (l:=l) (j:=j) (by simpa using h)
  have h2:1≤t.size:=by obtain⟨a,b⟩:=t;rw[ty_size];omega
  simp only[Ty.sizes,List.length_cons,List.getElem_cons_succ];omega
theorem sx_c {B f:Nat}(hB:B≤5000)(ih:Sx C M B f)(xs:List Tm)(n:Nat)(T:Ty)(i ins:Nat)(s:St)(hs:WkOk s)(hf:Fu (f+1) s)(hT:T.size≤B)(hi:i<ins)(hz:ins+(2 * B+2) * (f+1)≤800000000)(he:(through (f+1) xs n (Ty.eta T 0 i) (ins:Nat) s).2.e=0):
  s.e=0∧(through (f+1) xs n (Ty.eta T 0 i) (ins:Nat) s).1=Ty.eta T 0 i:=by
 obtain⟨a,b⟩:=T
 have hts:=ty_size a b
 have hal:=Ty.le_sizes a
 have hmul:(2 * B+2) * (f+1)=(2 * B+2) * f+(2 * B+2):=by rw[Nat.mul_add];omega
 rw[hmul] at hz
 rw[Ty.eta_eq,if_pos rfl] at he ⊢
 have hw:wr (((ins:Nat):Int)+a.length)=((ins+a.length:Nat):Int):=by rw[wr_id (by omega) (by omega)];omega
 obtain⟨s0,s1,s2,s3,s4⟩:=thr_step hs hf hw he
 clear hw
 rw[s3,hit_low (.inr (by omega))]
 refine⟨s0,?_⟩
 have hq:=(seqM_to (f:=f) (g:=fun v s=>through f xs n v ((ins+a.length:Nat):Int) s) (fun v s h=>through_wk f _ _ _ _ _ h) (fun v s=>through_count f _ _ _ _ _) (Ty.etas a) (Ty.etas a) rfl (fun j h _ s hs hf he=>by
  have hj:j<a.length:=by rw[Ty.etas_len] at h;exact h
  have:=size_le hj
  rw[etas_nth h] at he ⊢
  exact ih.c xs n a[j] _ _ s hs hf (by omega) (by omega) (by omega) he) _ s1 s2 s4).2
 show Tm.mk a 0 _ _=_
 rw[hq]
theorem sx_h {B f:Nat}(hB:B≤5000)(ih:Sx C M B f)(xs:List Tm)(P X:List Ty)(d:Nat)(s:St)(hs:WkOk s)(hf:Fu (f+1) s)(hn:∀ x∈xs,Nar B x)(hxf:∀ x∈xs,x.full≤8000000000000)(hx:IsOfs C M xs X P)(hz:X.length+P.length+(2 * B+2) * (f+1)≤800000000)(hd:d≤800000000) 
  (he:(through (f+1) xs xs.length (.mk [] 0 ((xs.length+d:Nat):Int) (Ty.etas P)) 0 s).2.e=0):s.e=0∧(through (f+1) xs xs.length (.mk [] 0 ((xs.length+d:Nat):Int) (Ty.etas P)) 0 s).1=.mk [] 0 d xs:=by
 have hl:=isOfs_len hx
 have hmul:(2 * B+2) * (f+1)=(2 * B+2) * f+(2 * B+2):=by rw[Nat.mul_add];omega
 rw[hmul] at hz
 have hw:wr ((0:Int)+(([]:List Ty).length:Nat))=((0:Nat):Int):=by rw[wr_id (by simp) (by simp)];simp
 obtain⟨s0,s1,s2,s3,s4⟩:=thr_step hs hf hw he
 clear hw
 have ho:=fun args s=>hit_out (thr:=through f) (xs:=xs) (b:=[]) (a:=Ty.etas P) (ins:=0) (d:=xs.length+d) (args:=args) (s:=s) (by omega) (by omega)
 rw[show 0+(xs.length+d)=xs.length+d by omega] at ho
 rw[s3,ho]
 refine⟨s0,?_⟩
 have hq:=(seqM_to (f:=f) (g:=fun v s=>through f xs xs.length v ((0:Nat):Int) s) (fun v s h=>through_wk f _ _ _ _ _ h) (fun v s=>through_count f _ _ _ _ _) (Ty.etas P) xs (by rw[Ty.etas_len];exact hl.symm) (fun j h h' s hs hf he=>by
  have hj:j<P.length:=by rw[Ty.etas_len] at h;exact h
  rw[etas_nth h,show P.length-1-j=xs.length-1-j by omega] at he ⊢
  exact ih.b xs P X j h' hj s hs hf hn hxf hx (by omega) he) _ s1 s2 s4).2
 dsimp only
 rw[hq,show 0+(xs.length+d-xs.length)=d by omega]
theorem lift_eta_low (y:Int)(T:Ty):∀ (i z:Nat),i<z→z+T.size≤9000000000000000000→lift y (Ty.eta T 0 i) z=Ty.eta T 0 i:=by
 induction T using Ty.ind with
 | h a b ih=>
  intro i z hi hz
  have hts:=ty_size a b
  have hal:=Ty.le_sizes a
  rw[Ty.eta_eq,if_pos rfl,lift_eq,lifts_map,wr_id (by omega) (by omega),if_neg (by rintro⟨_,h⟩;omega)]
  congr 1
  refine List.ext_getElem (by simp) fun j h1 h2=>?_
  have hj:j<a.length:=by rw[Ty.etas_len] at h2;exact h2
  have:=size_le2 hj
  rw[List.getElem_map,etas_nth h2,show ((z:Nat):Int)+(a.length:Nat)=((z+a.length:Nat):Int) by omega]
  exact ih _ (List.getElem_mem hj) _ _ (by omega) (by omega)
theorem grown_eta (T:Ty)(i y:Nat)(hz:i+y+T.size≤9000000000000000000):grown (Ty.eta T 0 i) y=Ty.eta T 0 ((i+y:Nat):Int):=by
 unfold grown
 split
 ·rename_i h;rw[show i+y=i by omega]
 ·obtain⟨a,b⟩:=T
  have hts:=ty_size a b
  have hal:=Ty.le_sizes a
  rw[Ty.eta_eq,if_pos rfl,lift_eq,lifts_map,wr_id (x:=0+(a.length:Nat)) (by omega) (by omega),if_pos ⟨rfl,by omega⟩,wr_id (by omega) (by omega),Ty.eta_eq,if_pos rfl]
  congr 1
  ·omega
  ·refine List.ext_getElem (by simp) fun j h1 h2=>?_
   have hj:j<a.length:=by rw[Ty.etas_len] at h2;exact h2
   have:=size_le2 hj
   rw[List.getElem_map,etas_nth h2,show (0:Int)+(a.length:Nat)=((a.length:Nat):Int) by omega]
   exact lift_eta_low _ _ _ _ (by omega) (by omega)
set_option maxHeartbeats 4000000 in
theorem sx_a {B f:Nat}(hB:B≤5000)(ih:Sx C M B f)(xs:List Tm)(P:List Ty)(w:Nat→Nat)(X Z:List Ty)(t:Tm)(u:Ty)(s:St)(hs:WkOk s)(hf:Fu (f+1) s)(ht:Nar B t)(hfull:t.full≤8000000000000)(hl:xs.length=P.length) 
  (hx:∀ j (h:j<xs.length) (h':j<P.length),xs[j]=Ty.eta P[j] 0 (w j:Nat)∧X.reverse[w j]?=some P[j]) (hP:∀ T∈P,T.size≤B)
  (hz:X.length+P.length+Z.length+(2 * B+2) * (f+1)≤800000000) (htt:IsOf C M t (X++P++Z) u) (he:(through (f+1) xs xs.length t (Z.length:Nat) s).2.e=0) :
  s.e=0∧(through (f+1) xs xs.length t (Z.length:Nat) s).1=Rn (ph xs.length w) t Z.length:=by
 obtain⟨b,k,i,a⟩:=t
 obtain⟨t1,t2⟩:=ht.inv
 obtain⟨hbu,h,hh,hbase,hargs⟩:=isOf_mk.1 htt
 have hbl:=Ty.le_sizes b
 have hmul:(2 * B+2) * (f+1)=(2 * B+2) * f+(2 * B+2):=by rw[Nat.mul_add];omega
 rw[hmul] at hz
 obtain⟨K,hK⟩:∃ K,(2 * B+2) * f=K:=⟨_,rfl⟩
 rw[hK] at hz
 clear hmul
 have hZb:(Z++b).length=Z.length+b.length:=List.length_append
 have hw:wr (((Z.length:Nat):Int)+b.length)=(((Z++b).length:Nat):Int):=by rw[wr_id (by omega) (by omega),hZb];omega
 rw[List.append_assoc (X++P) Z b] at hh hargs
 rw[Tm.full_eq] at hfull
 have hz2:X.length+P.length+(Z++b).length+(2 * B+2) * f≤800000000:=by rw[hK,hZb];exact bnd_aux hz hbl t1
 obtain⟨s0,s1,s2,s3,s4⟩:=thr_step hs hf hw he
 clear hw
 have hal:=isOfs_len hargs
 have hq2:=seqM_to (f:=f) (g:=fun v s=>through f xs xs.length v (((Z++b).length:Nat):Int) s) (fun v s h=>through_wk f _ _ _ _ _ h) (fun v s=>through_count f _ _ _ _ _) a (a.map fun v=>Rn (ph xs.length w) v (Z++b).length) (by simp) (fun j h h' s hs hf he=>by
  have:=Tm.full_mem (List.getElem_mem h)
  rw[List.getElem_map]
  exact ih.a xs P w X (Z++b) a[j] _ s hs hf (t2 _ (List.getElem_mem h)) (by omega) hl hx hP hz2 ((isOfs_iff.1 hargs).2 j h (by omega)) he) _ s1 s2 s4
 have hqw:=seqM_wk (g:=fun v s=>through f xs xs.length v (((Z++b).length:Nat):Int) s) (fun u s h=>through_wk f _ _ _ _ _ h) a _ s1
 have hqc:=seqM_count (g:=fun v s=>through f xs xs.length v (((Z++b).length:Nat):Int) s) (fun u s=>through_count f _ _ _ _ _) a (unit s).2
 clear hz2
 obtain⟨u0,hq⟩:=hq2
 have s2:=s2 u0
 rw[s3] at he ⊢
 generalize seqM (fun v s=>through f xs xs.length v (((Z++b).length:Nat):Int) s) a (unit s).2=q at he hq hqw hqc s4 ⊢
 rw[hq] at he ⊢
 clear hq s3
 refine⟨s0,?_⟩
 rw[Rn_eq,←hZb]
 have hmap:∀ d h,(X++P).reverse[d]?=some h→X.reverse[ph xs.length w d]?=some h:=fun d h hd=>by
  rw[rev_app] at hd
  unfold ph
  by_cases hlt:d<P.length
  ·rw[if_pos hlt,List.getElem?_reverse hlt] at hd
   rw[if_pos (by omega),hl]
   obtain⟨h1,h2⟩:=List.getElem?_eq_some_iff.1 hd
   rw[←h2]
   exact(hx _ (by omega) h1).2
  ·rw[if_neg hlt] at hd
   rw[if_neg (by omega),hl];exact hd
 by_cases hc1:k≠0∨i<(((Z++b).length:Nat):Int)
 ·have hc2:¬ (k=0∧(((Z++b).length:Nat):Int)≤i):=fun h2=>hc1.elim (fun h=>h h2.1) fun h=>absurd h2.2 (Int.not_le.2 h)
  rw[hit_low hc1,if_neg hc2]
 ·have hk:k=0:=by
   by_cases h:k=0
   ·exact h
   ·exact absurd (.inl h) hc1
  have hi:(((Z++b).length:Nat):Int)≤i:=by
   by_cases h:i<(((Z++b).length:Nat):Int)
   ·exact absurd (.inr h) hc1
   ·omega
  subst hk
  rw[if_pos ⟨rfl,hi⟩]
  obtain⟨d,rfl⟩:∃ d:Nat,i=(((Z++b).length+d:Nat):Int):=⟨(i-(((Z++b).length:Nat):Int)).toNat,by omega⟩
  rw[show ((((Z++b).length+d:Nat):Int)-(((Z++b).length:Nat):Int)).toNat=d by omega]
  rw[headTy_0,rev_app,if_neg (by omega),show (Z++b).length+d-(Z++b).length=d by omega] at hh
  have hdl:=(List.getElem?_eq_some_iff.1 hh).1
  rw[List.length_reverse,List.length_append] at hdl
  by_cases hd:d<xs.length
  ·have hj:xs.length-1-d<xs.length:=by omega
   have hj':xs.length-1-d<P.length:=by omega
   obtain⟨x1,x2⟩:=hx _ hj hj'
   have hPh:P[xs.length-1-d]=h:=by
    have:=hmap d h hh
    unfold ph at this
    rw[if_pos hd,x2] at this
    exact Option.some.inj this
   have hwl:=(List.getElem?_eq_some_iff.1 x2).1
   rw[List.length_reverse] at hwl
   have hsz:=hP _ (List.getElem_mem hj')
   rw[hPh] at x1 hsz
   obtain⟨_,e1,e2,e3⟩:=hit_in hd (by omega) x1 he
   rw[e3]
   clear e3 he
   rw[grown_eta _ _ _ (by omega)] at e1 e2 ⊢
   obtain⟨A,hb⟩:=h
   rw[Ty.eta_eq,if_pos rfl] at e1 e2 ⊢
   dsimp only[Tm.binds,Tm.kind,Tm.index,Tm.args,Ty.args] at e1 e2 hargs ⊢
   have hqt:IsOfs C M (a.map fun v=>Rn (ph xs.length w) v (Z++b).length) (X++(Z++b)) A:=isOfs_map hargs fun v hv w' hw'=>Rn_isOf _ v X (X++P) (Z++b) w' hmap hw'
   have hqn:∀ x∈a.map fun v=>Rn (ph xs.length w) v (Z++b).length,Nar B x:=fun x hx=>by
    obtain⟨v,hv,rfl⟩:=List.mem_map.1 hx
    exact Rn_nar _ _ _ (t2 v hv)
   have hqf:∀ x∈a.map fun v=>Rn (ph xs.length w) v (Z++b).length,x.full≤8000000000000:=fun x hx=>by
    obtain⟨v,hv,rfl⟩:=List.mem_map.1 hx
    have:=Tm.full_mem hv
    rw[Rn_full];omega
   generalize (a.map fun v=>Rn (ph xs.length w) v (Z++b).length)=r at e1 e2 hqt hqn hqf ⊢
   have hAr:A.length=r.length:=e1
   have hXZ:(X++(Z++b)).length=X.length+(Z++b).length:=List.length_append
   have hAs:=ty_size A hb
   have hAl:=Ty.le_sizes A
   rw[show ((w (xs.length-1-d)+(Z++b).length:Nat):Int)+(A.length:Nat)=((r.length+(w (xs.length-1-d)+(Z++b).length):Nat):Int) by omega] at e2 ⊢
   have hr:=(ih.h r A (X++(Z++b)) (w (xs.length-1-d)+(Z++b).length) q.2 hqw (fun _=>by omega) hqn hqf hqt (by rw[hK];omega) (by omega) e2).2
   rw[hr]
   show Tm.mk b 0 ((w (xs.length-1-d)+(Z++b).length:Nat):Int) r=_
   unfold ph
   rw[if_pos hd,Nat.add_comm]
  ·have hd:xs.length≤d:=by omega
   rw[hit_out hd (by omega)]
   unfold ph
   rw[if_neg (by omega)]
end Nm
namespace Nm
variable {C M:List Ty}
set_option maxHeartbeats 4000000 in
theorem sx_b {B f:Nat}(hB:B≤5000)(ih:Sx C M B f)(xs:List Tm)(P X:List Ty)(j:Nat)(h:j<xs.length)(h':j<P.length)(s:St)(hs:WkOk s)(hf:Fu (f+1) s)(hn:∀ x∈xs,Nar B x)(hxf:∀ x∈xs,x.full≤8000000000000)(hx:IsOfs C M xs X P)(hz:X.length+P.length+(2 * B+2) * (f+1)≤800000000) 
  (he:(through (f+1) xs xs.length (Ty.eta P[j] 0 (xs.length-1-j:Nat)) 0 s).2.e=0):s.e=0∧(through (f+1) xs xs.length (Ty.eta P[j] 0 (xs.length-1-j:Nat)) 0 s).1=xs[j]:=by
 have hl:=isOfs_len hx
 have hmul:(2 * B+2) * (f+1)=(2 * B+2) * f+(2 * B+2):=by rw[Nat.mul_add];omega
 rw[hmul] at hz
 obtain⟨K,hK⟩:∃ K,(2 * B+2) * f=K:=⟨_,rfl⟩
 rw[hK] at hz
 clear hmul
 have hxj:=(isOfs_iff.1 hx).2 j h h'
 have hnj:=hn _ (List.getElem_mem h)
 have hfj:=hxf _ (List.getElem_mem h)
 obtain⟨x,hxx⟩:∃ x,xs[j]=x:=⟨_,rfl⟩
 rw[hxx] at hxj hnj hfj ⊢
 obtain⟨T,hT⟩:∃ T,P[j]=T:=⟨_,rfl⟩
 rw[hT] at hxj he ⊢
 obtain⟨a,b⟩:=T
 rw[Ty.eta_eq,if_pos rfl] at he ⊢
 have hxb:x.binds=a:=by obtain⟨xb,xk,xi,xa⟩:=x;exact(isOf_mk.1 hxj).1
 have has:Ty.sizes a≤B:=by rw[←hxb];obtain⟨xb,xk,xi,xa⟩:=x;exact hnj.inv.1
 have hal:=Ty.le_sizes a
 have hw:wr ((0:Int)+a.length)=((a.length:Nat):Int):=by rw[wr_id (by omega) (by omega)];omega
 obtain⟨s0,s1,s2,s3,s4⟩:=thr_step hs hf hw he
 clear hw
 have hq:=(seqM_to (f:=f) (g:=fun v s=>through f xs xs.length v ((a.length:Nat):Int) s) (fun v s h=>through_wk f _ _ _ _ _ h) (fun v s=>through_count f _ _ _ _ _) (Ty.etas a) (Ty.etas a) rfl (fun i h _ s hs hf he=>by
  have hi:i<a.length:=by rw[Ty.etas_len] at h;exact h
  have:=size_le hi
  rw[etas_nth h] at he ⊢
  exact ih.c xs xs.length a[i] _ _ s hs hf (by omega) (by omega) (by rw[hK];omega) he) _ s1 s2 s4)
 have hqw:=seqM_wk (g:=fun v s=>through f xs xs.length v ((a.length:Nat):Int) s) (fun u s h=>through_wk f _ _ _ _ _ h) (Ty.etas a) _ s1
 have hqc:=seqM_count (g:=fun v s=>through f xs xs.length v ((a.length:Nat):Int) s) (fun u s=>through_count f _ _ _ _ _) (Ty.etas a) (unit s).2
 obtain⟨u0,hq⟩:=hq
 have s2:=s2 u0
 rw[s3] at he ⊢
 generalize seqM (fun v s=>through f xs xs.length v ((a.length:Nat):Int) s) (Ty.etas a) (unit s).2=q at he hq hqw hqc s4 ⊢
 rw[hq] at he ⊢
 rw[show (((xs.length-1-j:Nat):Int)+(a.length:Nat))=((a.length+(xs.length-1-j):Nat):Int) by omega] at he ⊢
 obtain⟨_,e1,e2,e3⟩:=hit_in (x:=x) (by omega) (by omega) (by rw[←hxx];congr 1;omega) he
 rw[e3]
 refine⟨s0,?_⟩
 clear e3 he
 have hg:=grown_Rn (y:=a.length) (by omega) hxj
 have hgt:=grown_isOf (Y:=a) (by omega) hxj
 rw[hg] at e1 e2 hgt ⊢
 obtain⟨xb,xk,xi,xa⟩:=x
 have hxb:xb=a:=hxb
 subst hxb
 have hbk:=Rn_back xb.length (ph xb.length fun i=>xb.length-1-i) (fun d=>by
  unfold ph;dsimp only;split <;> omega) (.mk [] xk xi xa) 0
 have hrn:Rn (· + xb.length) (.mk [] xk xi xa) (xb.length+0)=.mk [] (Rn (· + xb.length) (.mk xb xk xi xa) 0).kind (Rn (· + xb.length) (.mk xb xk xi xa) 0).index (Rn (· + xb.length) (.mk xb xk xi xa) 0).args:=by
  rw[Rn_eq,Rn_eq]
  simp only[Tm.kind,Tm.index,Tm.args,List.length_nil,Nat.add_zero,Nat.zero_add]
 rw[hrn] at hbk
 have hfull:(Tm.mk [] (Rn (· + xb.length) (.mk xb xk xi xa) 0).kind (Rn (· + xb.length) (.mk xb xk xi xa) 0).index (Rn (· + xb.length) (.mk xb xk xi xa) 0).args).full≤8000000000000:=by
  rw[←hrn,Rn_full]
  rw[Tm.full_eq] at hfj ⊢
  simp only[Ty.sizes];omega
 have hnar:Nar B (Tm.mk [] (Rn (· + xb.length) (.mk xb xk xi xa) 0).kind (Rn (· + xb.length) (.mk xb xk xi xa) 0).index (Rn (· + xb.length) (.mk xb xk xi xa) 0).args):=by
  rw[←hrn]
  exact Rn_nar _ _ _ (.mk _ _ _ _ (by simp[Ty.sizes]) hnj.inv.2)
 have hrb:(Rn (· + xb.length) (.mk xb xk xi xa) 0).binds=xb:=by rw[Rn_eq];rfl
 generalize Rn (· + xb.length) (.mk xb xk xi xa) 0=v at hgt e2 hbk hfull hnar hrb ⊢
 obtain⟨vb,vk,vi,va⟩:=v
 have hrb:vb=xb:=hrb
 subst hrb
 obtain⟨_,h1,hh1,hh2,hh3⟩:=isOf_mk.1 hgt
 have hr:=ih.a (Ty.etas vb) vb (fun i=>vb.length-1-i) (X++vb) [] (.mk [] vk vi va) (.mk [] b) q.2 hqw (fun _=>by omega) hnar hfull (Ty.etas_len _) (fun i h1 h2=>⟨etas_nth h1,by
  rw[rev_app,if_pos (by omega),List.getElem?_reverse (by omega),List.getElem?_eq_getElem (by omega)]
  congr 2;omega⟩) (fun T hT=>Nat.le_trans (ty_mem hT) has) (by rw[hK,List.length_append];simp only[List.length_nil];omega) (by rw[List.append_nil];exact isOf_mk.2 ⟨rfl,h1,by rw[List.append_nil];exact hh1,hh2,by rw[List.append_nil];exact hh3⟩) e2
 have hr2:=hr.2
 rw[Ty.etas_len] at hr2
 simp only[List.length_nil] at hr2
 have hr3:=hr2.trans hbk
 show Tm.mk vb _ _ _=Tm.mk vb xk xi xa
 rw[Ty.etas_len]
 have hr3:(through f (Ty.etas vb) vb.length (.mk [] vk vi va) 0 q.2).1=.mk [] xk xi xa:=hr3
 show Tm.mk vb (through f (Ty.etas vb) vb.length (.mk [] vk vi va) 0 q.2).1.kind (through f (Ty.etas vb) vb.length (.mk [] vk vi va) 0 q.2).1.index (through f (Ty.etas vb) vb.length (.mk [] vk vi va) 0 q.2).1.args=_
 rw[hr3];rfl
theorem sx (C M:List Ty){B:Nat}(hB:B≤5000):∀ f,Sx C M B f
 | 0=>by
  refine⟨?_,?_,?_,?_⟩
  ·intro xs n T i ins s hs hf _ _ _ he;exact(fu_zero hs hf he).elim
  ·intro xs P w X Z t u s hs hf _ _ _ _ _ _ _ he;exact(fu_zero hs hf he).elim
  ·intro xs P X j h h' s hs hf _ _ _ _ he;exact(fu_zero hs hf he).elim
  ·intro xs P X d s hs hf _ _ _ _ _ he;exact(fu_zero hs hf he).elim
 | f+1=>by
  have ih:=sx C M hB f
  exact⟨sx_c hB ih,sx_a hB ih,sx_b hB ih,sx_h hB ih⟩
end Nm
def TTM_41:TI:=⟨4,true,[Value.slice none 0 0,Value.int IntKind.i64 0,Value.int IntKind.i64 0,Value.slice none 0 0],[(0,1,false),(1,2,true),(3,1,false)],none,64,6,none,false⟩
theorem TTM_41_ok:TypOk Tryz.prog 41 TTM_41:=by constructor <;> kernel_rfl
def TTM_38:TI:=⟨2,true,[Value.int IntKind.i64 0,Value.int IntKind.i64 0],[(0,1,false),(1,1,false)],none,16,6,none,true⟩
theorem TTM_38_ok:TypOk Tryz.prog 38 TTM_38:=by constructor <;> kernel_rfl
def TTM_3:TI:=⟨1,false,[Value.int IntKind.i64 0],[],none,8,2,none,false⟩
theorem TTM_3_ok:TypOk Tryz.prog 3 TTM_3:=by constructor <;> kernel_rfl
def TTM_39:TI:=⟨1,false,[Value.slice none 0 0],[],some 41,24,5,none,false⟩
theorem TTM_39_ok:TypOk Tryz.prog 39 TTM_39:=by constructor <;> kernel_rfl
def TTM_33:TI:=⟨1,false,[Value.slice none 0 0],[],some 44,24,5,none,false⟩
theorem TTM_33_ok:TypOk Tryz.prog 33 TTM_33:=by constructor <;> kernel_rfl
def TTM_44:TI:=⟨2,true,[Value.slice none 0 0,Value.int IntKind.i64 0],[(0,1,false),(1,1,false)],none,32,6,none,false⟩
theorem TTM_44_ok:TypOk Tryz.prog 44 TTM_44:=by constructor <;> kernel_rfl
def TTM_144:TI:=⟨1,false,[Value.nilFunc],[],none,8,8,none,false⟩
theorem TTM_144_ok:TypOk Tryz.prog 144 TTM_144:=by constructor <;> kernel_rfl
def TTM_58:TI:=⟨1,false,[Value.nilFunc],[],none,8,8,none,false⟩
theorem TTM_58_ok:TypOk Tryz.prog 58 TTM_58:=by constructor <;> kernel_rfl
def TTM:List (Nat×TI):=[(41,TTM_41),(38,TTM_38),(3,TTM_3),(39,TTM_39),(33,TTM_33),(44,TTM_44),(144,TTM_144),(58,TTM_58)]
theorem TTM_ok:TabOk Tryz.prog TTM:=(((((((((TabOk.nil _).cons TTM_58_ok).cons TTM_144_ok).cons TTM_44_ok).cons TTM_33_ok).cons TTM_39_ok).cons TTM_3_ok).cons TTM_38_ok).cons TTM_41_ok)
theorem bindsT (b:List Ty)(k i:Int)(a:List Tm):(Tm.mk b k i a).binds=b:=rfl
theorem kindT (b:List Ty)(k i:Int)(a:List Tm):(Tm.mk b k i a).kind=k:=rfl
theorem indexT (b:List Ty)(k i:Int)(a:List Tm):(Tm.mk b k i a).index=i:=rfl
theorem argsTm (b:List Ty)(k i:Int)(a:List Tm):(Tm.mk b k i a).args=a:=rfl
theorem eqTmsA (l r:List Tm)(h:∀ t∈l,∀ u,PureC Tryz.prog 20 [.ag (eTm t),.ag (eTm u)] (.v (.bool (decide (t=u))))):PureC Tryz.prog 70 [.sl 4 (eTms l) none,.sl 4 (eTms r) none,.fn 20 []] (.v (.bool (decide (l=r)))):=CallC.lens fun hlen=>by
 have hl:l.length≤9223372036854775807:=by have:=hlen _ (List.mem_cons_self ..);simp only[slOk,sl1,eTms_len] at this;exact this
 by_cases hlr:l.length=r.length
 ·skip
  refine calldw 0 32 [ResultVar.tmp 6] TTM_ok Tryz.func70 rfl Tryz.ntmps70 rfl fun cx hnt hn0=>?_
  ·skip
   refine dw_seq ?_;refine dwk [] TTM_ok hnt fun _ z9=>z9 _ _ ?_;refine dw_seq ?_;refine dw_seq ?_;refine dwk [(11,.v (.int .i64 (↑l.length))),(13,.v (.int .i64 (↑r.length))),(14,.v (.bool false))] TTM_ok hnt fun K hK=>?_;refine And.intro (dintE (by rw[eTms_len])) ?_;refine And.intro (dintE (by rw[eTms_len])) ?_;refine And.intro (bneF (by omega)) ?_;refine hK _ _ ?_;clear hK K
   refine dw_cond (t:=false) rfl ?_;rw[if_neg (by simp)];refine dw_skip ?_;refine dw_seq ?_;refine dw_seq ?_;refine dwk [(16,.v (.int .i64 (↑l.length)))] TTM_ok hnt fun K hK=>?_;refine And.intro (dintE (by rw[eTms_len])) ?_;refine hK _ _ ?_;clear hK K;refine dw_block ?_
   refine dw_loop (ι:={ j:Nat // l.take j=r.take j }) (fun j=>[(.t 1,.sl 4 (eTms r) none),(.t 2,.fn 20 []),(.t 15,.sl 4 (eTms l) none),(.t 16,.v (.int .i64 ↑l.length)),(.t 17,.v (.int .i64 ↑j.1))]) 0 (fun j=>l.length-j.1) (⟨0,rfl⟩) (VS.toA) fun j=>?_
   obtain⟨j,hj⟩:=j
   dsimp only
   by_cases hlt:j<l.length
   ·have hlt2:j<r.length:=by omega
    have hq:=h l[j] (List.getElem_mem hlt) r[j]
    rw[eTm_eq,eTm_eq] at hq
    by_cases he:l[j]=r[j]
    ·rw[decide_eq_true he] at hq
     refine dw_seq ?_;refine dwk [(18,.v (.bool true))] TTM_ok hnt fun K hK=>?_;refine And.intro auT ?_;refine hK _ _ ?_;clear hK K;refine dw_seq ?_;refine dw_cond (t:=true) rfl ?_;rw[if_pos rfl];refine dw_skip ?_;refine dw_seq ?_;refine dw_block ?_;refine dw_seq ?_;refine dwk [(20,.q [.sl 2 (eTys l[j].binds) none,.v (.int .i64 l[j].kind),.v (.int .i64 l[j].index),.sl 4 (eTms l[j].args) none])] TTM_ok hnt fun K hK=>?_
     refine And.intro (elo (eTms_len l)) ?_;refine And.intro (elv (eTms_getD l j) (eTm_eq _)) ?_;refine hK _ _ ?_;clear hK K;refine dw_seq ?_;refine dwk [(24,.q [.sl 2 (eTys r[j].binds) none,.v (.int .i64 r[j].kind),.v (.int .i64 r[j].index),.sl 4 (eTms r[j].args) none])] TTM_ok hnt fun K hK=>?_;refine And.intro (elo (eTms_len r)) ?_;refine And.intro (elv (eTms_getD r j) (eTm_eq _)) ?_;refine hK _ _ ?_;clear hK K
     refine dw_seq ?_;refine dwk [] TTM_ok hnt fun K hK=>?_;refine dcl (hq) ?_;refine hK _ _ ?_;clear hK K;refine dw_cond (t:=false) rfl ?_;rw[if_neg (by simp)];refine dw_skip ?_;refine dwk [(31,.v (.int .i64 (↑(j+1))))] TTM_ok hnt fun K hK=>?_;refine And.intro auI ?_;refine hK _ _ ?_;clear hK K
     refine⟨⟨j+1,take_succ_eq hj hlt hlt2 he⟩,by first | omega | (dsimp only;omega),VS.toA⟩
    ·rw[decide_eq_false he] at hq
     rw[decide_eq_false (ne_at hlt hlt2 he)]
     refine dw_seq ?_;refine dwk [(18,.v (.bool true))] TTM_ok hnt fun K hK=>?_;refine And.intro auT ?_;refine hK _ _ ?_;clear hK K;refine dw_seq ?_;refine dw_cond (t:=true) rfl ?_;rw[if_pos rfl];refine dw_skip ?_;refine dw_seq ?_;refine dw_block ?_;refine dw_seq ?_;refine dwk [(20,.q [.sl 2 (eTys l[j].binds) none,.v (.int .i64 l[j].kind),.v (.int .i64 l[j].index),.sl 4 (eTms l[j].args) none])] TTM_ok hnt fun K hK=>?_
     refine And.intro (elo (eTms_len l)) ?_;refine And.intro (elv (eTms_getD l j) (eTm_eq _)) ?_;refine hK _ _ ?_;clear hK K;refine dw_seq ?_;refine dwk [(24,.q [.sl 2 (eTys r[j].binds) none,.v (.int .i64 r[j].kind),.v (.int .i64 r[j].index),.sl 4 (eTms r[j].args) none])] TTM_ok hnt fun K hK=>?_;refine And.intro (elo (eTms_len r)) ?_;refine And.intro (elv (eTms_getD r j) (eTm_eq _)) ?_;refine hK _ _ ?_;clear hK K
     refine dw_seq ?_;refine dwk [] TTM_ok hnt fun K hK=>?_;refine dcl (hq) ?_;refine hK _ _ ?_;clear hK K;refine dw_cond (t:=true) rfl ?_;rw[if_pos rfl];refine dw_seq ?_;refine dwk [] TTM_ok hnt fun _ z9=>z9 _ _ ?_;refine dw_ret ?_
     exact reta rfl
   ·rw[decide_eq_true (eq_of_take hj (by omega) (by omega))]
    refine dw_seq ?_;refine dwk [(18,.v (.bool false))] TTM_ok hnt fun K hK=>?_;refine And.intro auF ?_;refine hK _ _ ?_;clear hK K;refine dw_seq ?_;refine dw_cond (t:=false) rfl ?_;rw[if_neg (by simp)];refine dw_exit ?_;refine dw_seq ?_;refine dwk [] TTM_ok hnt fun _ z9=>z9 _ _ ?_;refine dw_ret ?_
    exact reta rfl
 ·rw[decide_eq_false (fun e=>hlr (by rw[e]))]
  refine calldw 0 32 [ResultVar.tmp 6] TTM_ok Tryz.func70 rfl Tryz.ntmps70 rfl fun cx hnt hn0=>?_
  ·skip
   refine dw_seq ?_;refine dwk [] TTM_ok hnt fun _ z9=>z9 _ _ ?_;refine dw_seq ?_;refine dw_seq ?_;refine dwk [(11,.v (.int .i64 (↑l.length))),(13,.v (.int .i64 (↑r.length))),(14,.v (.bool true))] TTM_ok hnt fun K hK=>?_;refine And.intro (dintE (by rw[eTms_len])) ?_;refine And.intro (dintE (by rw[eTms_len])) ?_;refine And.intro (bneT (by omega)) ?_;refine hK _ _ ?_;clear hK K
   refine dw_cond (t:=true) rfl ?_;rw[if_pos rfl];refine dw_seq ?_;refine dwk [] TTM_ok hnt fun _ z9=>z9 _ _ ?_;refine dw_ret ?_
   exact reta rfl
theorem tm_ext {t u:Tm}:t=u↔(t.kind=u.kind∧t.index=u.index)∧t.binds=u.binds∧t.args=u.args:=by
 obtain⟨b,k,i,a⟩:=t
 obtain⟨b',k',i',a'⟩:=u
 simp only[bindsT,kindT,indexT,argsTm,Tm.mk.injEq]
 exact⟨fun⟨h1,h2,h3,h4⟩=>⟨⟨h2,h3⟩,h1,h4⟩,fun⟨⟨h1,h2⟩,h3,h4⟩=>⟨h3,h1,h2,h4⟩⟩
theorem equal2_d:∀ t u:Tm,PureC Tryz.prog 20 [.ag (eTm t),.ag (eTm u)] (.v (.bool (decide (t=u)))):=by
 intro t
 induction t using Tm.ind with
 | h b k i a ih=>
 intro u
 have hq:=eqTmsA a u.args ih
 have hb:=eqTys_d b u.binds 69 rfl
 rw[eTm_eq,eTm_eq]
 simp only[bindsT,kindT,indexT,argsTm]
 by_cases h1:k=u.kind∧i=u.index
 ·by_cases h2:b=u.binds
  ·rw[show decide (Tm.mk b k i a=u)=decide (a=u.args) by rw[Bool.eq_iff_iff,decide_eq_true_iff,decide_eq_true_iff,tm_ext];simp[bindsT,kindT,indexT,argsTm,h1,h2]]
   rw[decide_eq_true h2] at hb
   refine calldw 0 24 [ResultVar.tmp 4] TTM_ok Tryz.func20 rfl Tryz.ntmps20 rfl fun cx hnt hn0=>?_
   ·skip
    refine dw_seq ?_;refine dwk [] TTM_ok hnt fun _ z9=>z9 _ _ ?_;refine dw_seq ?_;refine dwk [(9,.v (.bool true))] TTM_ok hnt fun K hK=>?_;refine And.intro (VLe.of_eq (by congr 2;simp[h1])) ?_;refine dcl (hb) ?_;refine dcl (hq) ?_;refine hK _ _ ?_;clear hK K;refine dw_ret ?_
    exact reta rfl
  ·rw[show decide (Tm.mk b k i a=u)=false from decide_eq_false fun e=>h2 (by rw[←e];rfl)]
   rw[decide_eq_false h2] at hb
   refine calldw 0 24 [ResultVar.tmp 4] TTM_ok Tryz.func20 rfl Tryz.ntmps20 rfl fun cx hnt hn0=>?_
   ·skip
    refine dw_seq ?_;refine dwk [] TTM_ok hnt fun _ z9=>z9 _ _ ?_;refine dw_seq ?_;refine dwk [(9,.v (.bool true))] TTM_ok hnt fun K hK=>?_;refine And.intro (VLe.of_eq (by congr 2;simp[h1])) ?_;refine dcl (hb) ?_;refine hK _ _ ?_;clear hK K;refine dw_ret ?_
    exact reta rfl
 ·rw[show decide (Tm.mk b k i a=u)=false from decide_eq_false fun e=>h1 (by rw[←e];exact⟨rfl,rfl⟩)]
  refine calldw 0 24 [ResultVar.tmp 4] TTM_ok Tryz.func20 rfl Tryz.ntmps20 rfl fun cx hnt hn0=>?_
  ·skip
   refine dw_seq ?_;refine dwk [] TTM_ok hnt fun _ z9=>z9 _ _ ?_;refine dw_seq ?_;refine dwk [(9,.v (.bool false))] TTM_ok hnt fun K hK=>?_;refine And.intro (VLe.of_eq (by congr 2;by_cases h3:k=u.kind <;> by_cases h4:i=u.index <;> simp_all)) ?_;refine hK _ _ ?_;clear hK K;refine dw_ret ?_
   exact reta rfl
/-! long forms -/
theorem eTms_snoc (l:List Tm)(j:Nat)(h:j<l.length):eTms (l.take j)++[[.sl 2 (eTys l[j].binds) none,.v (.int .i64 l[j].kind),.v (.int .i64 l[j].index),.sl 4 (eTms l[j].args) none]]=eTms (l.take (j+1)):=by
 rw[←eTm_eq,List.take_add_one,List.getElem?_eq_getElem h,Option.toList_some,eTms_map,eTms_map,List.map_append];rfl
end Go.Proofs.YtflbnonbfmmchaaGreat
namespace Go.Proofs.YtflbnonbfmmchaaGreat
open Go.RowKit Go.Shelf
attribute [local go_sem] Oper.semAt_some
def looseL (n x:Int):Int:=if (if x>1000 then 1000 else x)+1>n then (if x>1000 then 1000 else x)+1 else n
end Go.Proofs.YtflbnonbfmmchaaGreat
namespace Go.Proofs.YtflbnonbfmmchaaGreat
open Go.RowKit
/-! ints -/
def eIs (l:List Int):List (List D):=l.map fun i=>[.v (.int .i64 i)]
theorem eIs_len (l:List Int):(eIs l).length=l.length:=List.length_map ..
theorem eIs_append (l r:List Int):eIs (l++r)=eIs l++eIs r:=List.map_append ..
theorem eIs_getD (l:List Int)(i:Nat)(h:i<l.length):(eIs l).getD i []=[.v (.int .i64 l[i])]:=by
 rw[eIs,List.getD_eq_getElem?_getD,List.getElem?_map,List.getElem?_eq_getElem h];rfl
@[simp] theorem eIs_ok (f g:Nat→Bool) (l:List Int):D.okss f g (eIs l)=true:=D.okss_map _ l fun _ _=>rfl
theorem cut_none (m:Mp):(m.cut (fun _=>false) noR).le m00:=⟨fun k b h=>by simp[Mp.cut] at h,fun g R h=>by simp[Mp.cut,noR] at h,fun k b h=>by simp[Mp.cut] at h⟩
theorem entry0 {cx:Cx}{Fr:Nat→Prop}{m:Mp}{Im:Nat→Nat→Prop}{w:World}{vs:List Value}{args:List D}(hm:MemOk cx Fr m Im w)(hr:RelL m Im w vs args)(ha:args.all (fun d=>d.ok (fun _=>false) noR)=true)(nt:Nat)(hnt:args.length≤nt){n:Nat}(hn:n=nt):
  ∃ cx':Cx,cx'.nt=nt∧cx'.n0=0∧cx'.w0=w∧(∀ b,¬ cx'.C b)∧cx'.Im0=Im∧St cx' (fun k=>0≤k) m00 Im w { tmps:=vs.toArray++Array.replicate (n-vs.toArray.size) undef,defers:=[] } (argsT 0 args []):=by
 subst hn
 have hvl:vs.length=args.length:=(relL_iff.1 hr).1
 refine⟨{ w0:=w,C:=fun _=>False,Im0:=Im,m0:=m00,nt:=n,n0:=0,h0:=(fun k b hk=>by cases hk),h0o:=(fun k b hk=>by cases hk) },rfl,rfl,rfl,fun _ h=>h,rfl,?_⟩
 refine⟨{
  off:=Off.refl _ _,im:=hm.im,imb:=fun b o h=>.inl h,im0:=fun b o h=>h
  own:=fun k b hk=>by cases hk
  lt:=fun k b hk=>by cases hk
  free:=fun k b o hk=>by cases hk
  nim:=fun k b o hk=>by cases hk
  inj:=fun k k' b hk=>by cases hk
  row:=fun g R hg=>by cases hg
  k0:=KeepI.refl _ _
  rown:=fun g R b hg=>by cases hg
  m0r:=fun g R hg=>by cases hg
  rIm:=fun g R b o hg=>by cases hg
  rblk:=fun g R b k hg=>by cases hg
  rinj:=fun g g' R R' b hg=>by cases hg
  fr:=fun k hk=>⟨rfl,rfl,rfl⟩
  m0:=fun k b hk=>by cases hk
  m0o:=fun k b hk=>by cases hk
  oown:=fun k b hk=>by cases hk
  olt:=fun k b hk=>by cases hk
  onim:=fun k b o hk=>by cases hk
  oinj:=fun k k' b hk=>by cases hk
  oblk:=fun k k' b hk=>by cases hk
  orow:=fun k g R b hk=>by cases hk
  dis:=fun k b hk=>by cases hk },rfl,by simp[hvl];omega,fun x d hx=>?_,fun k off d hx=>?_,fun g d hx=>?_,fun d hx=>?_,fun k d hx=>?_⟩
 ·rcases get_argsT args 0 x hx with⟨j,h1,h2⟩ | hx
  ·have hj:j<args.length:=by
    rcases Nat.lt_or_ge j args.length with h' | h'
    ·exact h'
    ·rw[List.getElem?_eq_none h'] at h2;cases h2
   rw[List.getElem?_eq_getElem hj] at h2
   cases h2
   have hr:=(relL_iff.1 hr).2 j hj
   have hx':x=j:=by omega
   subst hx'
   have:(vs.toArray++Array.replicate (n-vs.toArray.size) undef).getD x undef=vs.getD x undef:=by
    have hx2:x<vs.length:=by omega
    rw[Array.getD_eq_getD_getElem?,Array.getElem?_append_left (by simpa using hx2),List.getD_eq_getElem?_getD]
    simp
   show Rel _ _ _ ((vs.toArray++Array.replicate (n-vs.toArray.size) undef).getD x undef) _
   rw[this]
   exact(hr.cut (List.all_eq_true.1 ha _ (List.getElem_mem hj))).mono (cut_none m) (KeepI.refl _ _) fun _ _ h=>h
  ·cases hx
 ·rw[get_argsN (fun x=>by simp) args 0] at hx;cases hx
 ·rw[get_argsN (fun x=>by simp) args 0] at hx;cases hx
 ·rw[get_argsN (fun x=>by simp) args 0] at hx;cases hx
 ·rw[get_argsN (fun x=>by simp) args 0] at hx;cases hx
def eMp (l:List (Int×Value)):List (Int×D):=l.map fun p=>(p.1,.v p.2)
theorem full_mem {l:List Tm}{t:Tm}(h:t∈l):t.full≤Tm.fulls l:=by
 induction l with
 | nil=>cases h
 | cons u l ih=>
  simp only[Tm.fulls]
  rcases List.mem_cons.1 h with rfl | h
  ·omega
  ·have:=ih h;omega
theorem full_args (t:Tm):t.full=Ty.sizes t.binds+Tm.fulls t.args+1:=by obtain⟨b,k,i,a⟩:=t;exact Tm.full_eq ..
namespace Pn
end Pn
def eMet (l:List Int):List (Int×D):=l.map fun i=>(i,.v (.bool true))
theorem okm_map {f g:Nat→Bool}{α:Type}(e:α→Int×D)(l:List α)(h:∀ x∈l,(e x).2.ok f g=true):D.okm f g (l.map e)=true:=by
 induction l with
 | nil=>rfl
 | cons x l ih=>
  have h1:=h x (by simp)
  have h2:=ih fun y hy=>h y (by simp[hy])
  simp only[List.map_cons]
  generalize e x=p at h1 ⊢
  obtain⟨i,d⟩:=p
  simp only[D.okm,Bool.and_eq_true];exact⟨h1,h2⟩
@[simp] theorem eMet_ok (f g:Nat→Bool) (l:List Int):D.okm f g (eMet l)=true:=okm_map _ l fun _ _=>rfl
namespace Pn
def atL:List Int→Nat→List (Int×Value)
 | [],_=>[]
 | v :: l,k=>(v,.int .i64 k) :: atL l (k+1)
end Pn
@[simp] theorem atL_ok (f g:Nat→Bool) (l:List Int) (k:Nat):D.okm f g (eMp (Pn.atL l k))=true:=okm_map _ _ fun _ _=>rfl
def TL8_27:TI:=⟨1,false,[Value.slice none 0 0],[],some 29,24,5,none,false⟩
theorem TL8_27_ok:TypOk Tryz.prog 27 TL8_27:=by constructor <;> kernel_rfl
def TL8_3:TI:=⟨1,false,[Value.int IntKind.i64 0],[],none,8,2,none,false⟩
theorem TL8_3_ok:TypOk Tryz.prog 3 TL8_3:=by constructor <;> kernel_rfl
def TL8_29:TI:=⟨4,true,[Value.slice none 0 0,Value.int IntKind.i64 0,Value.int IntKind.i64 0,Value.slice none 0 0],[(0,1,false),(1,2,true),(3,1,false)],none,64,6,none,false⟩
theorem TL8_29_ok:TypOk Tryz.prog 29 TL8_29:=by constructor <;> kernel_rfl
def TL8_26:TI:=⟨2,true,[Value.int IntKind.i64 0,Value.int IntKind.i64 0],[(0,1,false),(1,1,false)],none,16,6,none,true⟩
theorem TL8_26_ok:TypOk Tryz.prog 26 TL8_26:=by constructor <;> kernel_rfl
def TL8:List (Nat×TI):=[(27,TL8_27),(3,TL8_3),(29,TL8_29),(26,TL8_26)]
theorem TL8_ok:TabOk Tryz.prog TL8:=(((((TabOk.nil _).cons TL8_26_ok).cons TL8_29_ok).cons TL8_3_ok).cons TL8_27_ok)
mutual
def lowB:Tm→Bool
 | .mk _ k i a=>!(decide (k=0)&&decide (900000<i))&&lowsB a
def lowsB:List Tm→Bool
 | []=>true
 | t :: l=>lowB t&&lowsB l
end
theorem lowsB_all:∀ l:List Tm,lowsB l=l.all lowB
 | []=>rfl
 | t :: l=>by rw[lowsB,lowsB_all l];rfl
theorem lowB_eq (t:Tm):lowB t=(!(decide (t.kind=0)&&decide (900000<t.index))&&lowsB t.args):=by cases t;rfl
theorem all_false {l:List Tm}{j:Nat}(h:j<l.length)(hf:lowB l[j]=false):lowsB l=false:=by
 rw[lowsB_all,List.all_eq_false];exact⟨l[j],List.getElem_mem h,by rw[hf];simp⟩
set_option maxHeartbeats 1000000 in
theorem low_list (l:List Tm)(hl:l.length≤1000000)(ih:∀ t∈l,PureC Tryz.prog 78 [.sl 4 (eTms t.args) none] (.v (.bool (lowsB t.args)))):PureC Tryz.prog 78 [.sl 4 (eTms l) none] (.v (.bool (lowsB l))):=by
 refine call_of_dw 0 35 [ResultVar.tmp 2] TL8_ok (by kernel_rfl) Tryz.func78 rfl Tryz.ntmps78 rfl (by simp) ?dwords ?dbody
 case dwords=>simp[wordsOk,D.ok,D.oks,rnames,eTms_ok]
 case dbody=>
  intro cx hnt hn0
  refine dw_seq ?_;refine dwk [] TL8_ok hnt fun _ z9=>z9 _ _ ?_;refine dw_seq (dw_seq ?_);refine dwk [] TL8_ok hnt fun _ z9=>z9 _ _ ?_;refine dw_block ?_
  refine dw_loop (ι:={ j:Nat // ∀ i (h:i<l.length),i<j→lowB l[i]=true }) (fun j=>[(.t 0,.sl 4 (eTms l) none),(.t 3,.v (.int .i64 (j.1:Int)))]) 1 (fun j=>l.length-j.1) ⟨0,fun i h1 h2=>by omega⟩ VS.toA fun j=>?_
  obtain⟨j,hj⟩:=j
  dsimp only
  refine dw_seq (dw_seq ?_)
  by_cases hlt:j<l.length
  ·have hi:=ih l[j] (List.getElem_mem hlt)
   have hlo:=lowB_eq l[j]
   refine dwk [(7,.v (.bool true))] TL8_ok hnt fun K hK=>?_;refine And.intro (dtrue (by rw[eTms_len];omega)) ?_;refine hK _ _ ?_;clear hK K;refine dw_cond (t:=true) rfl ?_;rw[if_pos rfl];refine dw_skip ?_;refine dw_seq (dw_block (dw_seq ?_))
   have hq:(eTms l).getD (j:Int).toNat []=[.sl 2 (eTys l[j].binds) none,.v (.int .i64 l[j].kind),.v (.int .i64 l[j].index),.sl 4 (eTms l[j].args) none]:=by rw[Int.toNat_natCast,eTms_getD l j hlt,eTm_eq]
   have hb:(0:Int)≤(j:Int)∧(j:Int)<((eTms l).length:Int):=⟨by omega,by rw[eTms_len];omega⟩
   have hret:lowB l[j]=false→∀ σ N,DW Tryz.prog cx (.ret) σ N (RetOk TL8 [ResultVar.tmp 2] (.v (.bool (lowsB l))) [])→True:=fun _ _ _ _=>trivial
   by_cases hk:l[j].kind=0
   ·by_cases hx:900000<l[j].index
    ·have hf:lowsB l=false:=all_false hlt (by rw[hlo];simp[hk,hx])
     rw[hf]
     refine dwk [(12,.q [.sl 2 (eTys l[j].binds) none,.v (.int .i64 l[j].kind),.v (.int .i64 l[j].index),.sl 4 (eTms l[j].args) none]),(16,.v (.bool true)),(20,.q [.sl 2 (eTys l[j].binds) none,.v (.int .i64 l[j].kind),.v (.int .i64 l[j].index),.sl 4 (eTms l[j].args) none]),(24,.v (.bool true))] TL8_ok hnt fun K hK=>?_;refine And.intro (hb) ?_;refine And.intro (VLe.of_eq (by rw[hq])) ?_
     refine And.intro (VLe.of_eq (by simp[hk])) ?_;refine And.intro (hb) ?_;refine And.intro (VLe.of_eq (by rw[hq])) ?_;refine And.intro (dtrue hx) ?_;refine hK _ _ ?_;clear hK K;refine dw_cond (t:=true) rfl ?_;rw[if_pos rfl];refine dw_seq ?_;refine dwk [] TL8_ok hnt fun _ z9=>z9 _ _ ?_;refine dw_ret ?_
     exact retv (N:=0) (.inr rfl) rfl (VLe.refl _) trivial
    ·cases hla:lowsB l[j].args with
     | false=>
      have hf:lowsB l=false:=all_false hlt (by rw[hlo,hla];simp)
      rw[hf]
      rw[hla] at hi
      refine dwk [(12,.q [.sl 2 (eTys l[j].binds) none,.v (.int .i64 l[j].kind),.v (.int .i64 l[j].index),.sl 4 (eTms l[j].args) none]),(16,.v (.bool true)),(20,.q [.sl 2 (eTys l[j].binds) none,.v (.int .i64 l[j].kind),.v (.int .i64 l[j].index),.sl 4 (eTms l[j].args) none]),(24,.v (.bool false)),(29,.q [.sl 2 (eTys l[j].binds) none,.v (.int .i64 l[j].kind),.v (.int .i64 l[j].index),.sl 4 (eTms l[j].args) none])] TL8_ok hnt fun K hK=>?_
      refine And.intro (hb) ?_;refine And.intro (VLe.of_eq (by rw[hq])) ?_;refine And.intro (VLe.of_eq (by simp[hk])) ?_;refine And.intro (hb) ?_;refine And.intro (VLe.of_eq (by rw[hq])) ?_;refine And.intro (dfalse hx) ?_;refine And.intro (hb) ?_;refine And.intro (VLe.of_eq (by rw[hq])) ?_;refine dcl (hi) ?_;refine hK _ _ ?_;clear hK K;refine dw_cond (t:=true) rfl ?_;rw[if_pos rfl];refine dw_seq ?_
      refine dwk [] TL8_ok hnt fun _ z9=>z9 _ _ ?_;refine dw_ret ?_
      exact retv (N:=0) (.inr rfl) rfl (VLe.refl _) trivial
     | true=>
      rw[hla] at hi
      refine dwk [(12,.q [.sl 2 (eTys l[j].binds) none,.v (.int .i64 l[j].kind),.v (.int .i64 l[j].index),.sl 4 (eTms l[j].args) none]),(16,.v (.bool true)),(20,.q [.sl 2 (eTys l[j].binds) none,.v (.int .i64 l[j].kind),.v (.int .i64 l[j].index),.sl 4 (eTms l[j].args) none]),(24,.v (.bool false)),(29,.q [.sl 2 (eTys l[j].binds) none,.v (.int .i64 l[j].kind),.v (.int .i64 l[j].index),.sl 4 (eTms l[j].args) none])] TL8_ok hnt fun K hK=>?_
      refine And.intro (hb) ?_;refine And.intro (VLe.of_eq (by rw[hq])) ?_;refine And.intro (VLe.of_eq (by simp[hk])) ?_;refine And.intro (hb) ?_;refine And.intro (VLe.of_eq (by rw[hq])) ?_;refine And.intro (dfalse hx) ?_;refine And.intro (hb) ?_;refine And.intro (VLe.of_eq (by rw[hq])) ?_;refine dcl (hi) ?_;refine hK _ _ ?_;clear hK K;refine dw_cond (t:=false) rfl ?_;rw[if_neg (by simp)]
      refine dw_skip ?_;refine dwk [(9,.v (.int .i64 ((j+1:Nat):Int)))] TL8_ok hnt fun K hK=>?_;refine And.intro (dintE (by rw[IntWalk.i64_in _ (by omega)];omega)) ?_;refine hK _ _ ?_;clear hK K
      refine⟨⟨j+1,fun i h1 h2=>?_⟩,by dsimp only;omega,VS.toA⟩
      by_cases he:i=j
      ·subst he;rw[hlo,hla];simp[hx]
      ·exact hj i h1 (by omega)
   ·cases hla:lowsB l[j].args with
    | false=>
     have hf:lowsB l=false:=all_false hlt (by rw[hlo,hla];simp)
     rw[hf]
     rw[hla] at hi
     refine dwk [(12,.q [.sl 2 (eTys l[j].binds) none,.v (.int .i64 l[j].kind),.v (.int .i64 l[j].index),.sl 4 (eTms l[j].args) none]),(16,.v (.bool false)),(29,.q [.sl 2 (eTys l[j].binds) none,.v (.int .i64 l[j].kind),.v (.int .i64 l[j].index),.sl 4 (eTms l[j].args) none])] TL8_ok hnt fun K hK=>?_;refine And.intro (hb) ?_;refine And.intro (VLe.of_eq (by rw[hq])) ?_;refine And.intro (VLe.of_eq (by simp[hk])) ?_
     refine And.intro (hb) ?_;refine And.intro (VLe.of_eq (by rw[hq])) ?_;refine dcl (hi) ?_;refine hK _ _ ?_;clear hK K;refine dw_cond (t:=true) rfl ?_;rw[if_pos rfl];refine dw_seq ?_;refine dwk [] TL8_ok hnt fun _ z9=>z9 _ _ ?_;refine dw_ret ?_
     exact retv (N:=0) (.inr rfl) rfl (VLe.refl _) trivial
    | true=>
     rw[hla] at hi
     refine dwk [(12,.q [.sl 2 (eTys l[j].binds) none,.v (.int .i64 l[j].kind),.v (.int .i64 l[j].index),.sl 4 (eTms l[j].args) none]),(16,.v (.bool false)),(29,.q [.sl 2 (eTys l[j].binds) none,.v (.int .i64 l[j].kind),.v (.int .i64 l[j].index),.sl 4 (eTms l[j].args) none])] TL8_ok hnt fun K hK=>?_;refine And.intro (hb) ?_;refine And.intro (VLe.of_eq (by rw[hq])) ?_;refine And.intro (VLe.of_eq (by simp[hk])) ?_
     refine And.intro (hb) ?_;refine And.intro (VLe.of_eq (by rw[hq])) ?_;refine dcl (hi) ?_;refine hK _ _ ?_;clear hK K;refine dw_cond (t:=false) rfl ?_;rw[if_neg (by simp)];refine dw_skip ?_;refine dwk [(9,.v (.int .i64 ((j+1:Nat):Int)))] TL8_ok hnt fun K hK=>?_;refine And.intro (dintE (by rw[IntWalk.i64_in _ (by omega)];omega)) ?_;refine hK _ _ ?_;clear hK K
     refine⟨⟨j+1,fun i h1 h2=>?_⟩,by dsimp only;omega,VS.toA⟩
     by_cases he:i=j
     ·subst he;rw[hlo,hla];simp[hk]
     ·exact hj i h1 (by omega)
  ·have hf:lowsB l=true:=by
    rw[lowsB_all,List.all_eq_true]
    intro t ht
    obtain⟨i,hi,rfl⟩:=List.getElem_of_mem ht
    exact hj i hi (by omega)
   rw[hf]
   refine dwk [(7,.v (.bool false))] TL8_ok hnt fun K hK=>?_;refine And.intro (dfalse (by rw[eTms_len];omega)) ?_;refine hK _ _ ?_;clear hK K;refine dw_cond (t:=false) rfl ?_;rw[if_neg (by simp)];refine dw_exit ?_;refine dw_seq ?_;refine dwk [] TL8_ok hnt fun _ z9=>z9 _ _ ?_;refine dw_ret ?_
   exact retv (N:=0) (.inr rfl) rfl (VLe.refl _) trivial
theorem low_args:∀ (t:Tm),Wide t→PureC Tryz.prog 78 [.sl 4 (eTms t.args) none] (.v (.bool (lowsB t.args))):=by
 intro t
 induction t using Tm.ind with
 | h bs k i a ih=>
  intro hw
  obtain⟨_,w2,w3⟩:=hw.inv
  exact low_list a (by omega) fun u hu=>ih u hu (w3 u hu)
theorem low_d (l:List Tm)(hl:l.length≤1000000)(hw:∀ t∈l,Wide t):PureC Tryz.prog 78 [.sl 4 (eTms l) none] (.v (.bool (lowsB l))):=low_list l hl fun t ht=>low_args t (hw t ht)
theorem wide_full:∀ t:Tm,t.full≤100000→Wide t:=by
 intro t
 induction t using Tm.ind with
 | h bs k i a ih=>
  intro h
  rw[Tm.full_eq] at h
  have h1:=Ty.le_sizes bs
  have key:∀ l:List Tm,l.length≤Tm.fulls l∧∀ u∈l,u.full≤Tm.fulls l:=by
   intro l
   induction l with
   | nil=>exact⟨by simp,nofun⟩
   | cons t l ihl=>
    have ht:1≤t.full:=by obtain⟨_,_,_,_⟩:=t;rw[Tm.full_eq];omega
    simp only[Tm.fulls,List.length_cons]
    refine⟨by omega,fun u hu=>?_⟩
    rcases List.mem_cons.1 hu with rfl | hu
    ·omega
    ·have:=ihl.2 u hu;omega
  have h2:=key a
  exact .mk _ _ _ _ (by omega) (by omega) fun t ht=>ih t ht (by have:=h2.2 t ht;omega)
namespace Pn
end Pn
namespace Pn
end Pn
end Go.Proofs.YtflbnonbfmmchaaGreat
