/-
  What is kept where terms are put for variables: counts grow, no term gets wider. Package norm, walked in the deep way: terms put for variables. term.Shift: what its closures do. Indexes that grow: what Shift is in plain Lean. Types and terms can be told apart; patterns in plain Lean. Types, walked in the deep way: Equal, Copy, Arrow; the document's Same, Arrow. Contracts of before, as deep ones; term.Copy. Loops over an iterator that writes cells of its own between two rounds. term.each: all terms within, each ahead of its arguments: what the iterator hands to a loop's body. term.Size, term.Depth, term.Right, term.Loose: what the loops over all terms within hand back. term.Right. term.Equal, and slices.EqualFunc with it. Contracts of before, as deep ones. Deep contracts, as ones of before. Package norm, walked in the deep way: through. Package norm, walked in the deep way: Put. Package subst, walked in the deep way. The readings of a row's arguments that are pairs, and what was opened, told as deep values. Terms, walked in the deep way: Equal, Eta, Var; the document's Same, Eta, Var. term.Loose.
-/
import Derived.Test.YtclihnccilkohaaGreatRowAuditChainsp4
import Derived.Laws.EntriesVeiled
import Derived.Test.YtclihnccilkohaaGreatRowAuditChainsp1
import Derived.RangeFuncWrites
set_option maxRecDepth 100000
set_option maxHeartbeats 1000000
set_option linter.unusedVariables false
set_option linter.unusedSimpArgs false
namespace Go.Proofs.YtclihnccilkohaaGreat
namespace Nm
theorem spend_keeps (s:St):(spend s).2.count=s.count∧(spend s).2.e=s.e:=by unfold spend;split <;> exact⟨rfl,rfl⟩
theorem fail_count (s:St)(c:Int):(fail s c).count=s.count:=by unfold fail;split <;> rfl
theorem unit_count (s:St):s.count≤(unit s).2.count∧((unit s).1=true→(unit s).2.count=s.count+1∧s.e=0∧(unit s).2.e=0):=by
 unfold unit
 split
 ·exact⟨Int.le_refl _,fun h=>by cases h⟩
 ·rename_i he
  split
  ·exact⟨by dsimp only;omega,fun h=>by cases h⟩
  ·have h1:=spend_keeps s
   generalize spend s=p at h1
   obtain⟨ok,s'⟩:=p
   cases ok
   ·exact⟨by dsimp only at h1 ⊢;omega,fun h=>by cases h⟩
   ·dsimp only at h1 ⊢
    exact⟨by omega,fun _=>⟨by omega,by omega,by omega⟩⟩
theorem seqM_count {g:Tm→St→Tm×St}(hg:∀ t s,s.count≤(g t s).2.count)(l:List Tm)(s:St):s.count≤(seqM g l s).2.count:=by
 induction l generalizing s with
 | nil=>exact Int.le_refl _
 | cons t l ih=>exact Int.le_trans (hg t s) (ih _)
theorem putW_count {thr:Thr}(h:∀ xs n t ins s,s.count≤(thr xs n t ins s).2.count)(t:Tm)(xs:List Tm)(s:St):s.count≤(putW thr t xs s).2.count:=by
 unfold putW
 split
 ·rw[fail_count];exact Int.le_refl _
 ·exact h _ _ _ _ _
theorem hit_count {thr:Thr}(h:∀ xs n t ins s,s.count≤(thr xs n t ins s).2.count)(xs:List Tm)(n:Nat)(t:Tm)(ins:Int)(args:List Tm)(s:St):s.count≤(hit thr xs n t ins args s).2.count:=by
 unfold hit
 split
 ·exact Int.le_refl _
 ·dsimp only
  split
  ·exact Int.le_refl _
  ·split
   ·exact Int.le_refl _
   ·split
    ·rw[fail_count];exact Int.le_refl _
    ·exact putW_count h _ _ _
theorem through_count (f:Nat):∀ xs n t ins s,s.count≤(through f xs n t ins s).2.count:=by
 induction f with
 | zero=>intro xs n t ins s;exact Int.le_refl _
 | succ f ih=>
  intro xs n t ins s
  unfold through
  dsimp only
  split
  ·exact Int.le_trans (unit_count s).1 (Int.le_trans (seqM_count (fun t s=>ih _ _ _ _ _) _ _) (hit_count ih _ _ _ _ _ _))
  ·exact(unit_count s).1
theorem wide_tz:Wide tz:=.mk _ _ _ _ (by simp) (by simp) fun t h=>by cases h
theorem wide_parts {t:Tm}(h:Wide t):t.binds.length≤100000∧t.args.length≤100000∧∀ u∈t.args,Wide u:=by
 cases t with
 | mk b k i a=>exact h.inv
theorem seqM_wide {g:Tm→St→Tm×St}(hg:∀ t s,Wide t→Wide (g t s).1)(l:List Tm)(h:∀ t∈l,Wide t)(s:St):∀ t∈(seqM g l s).1,Wide t:=by
 induction l generalizing s with
 | nil=>intro t ht;cases ht
 | cons u l ih=>
  intro t ht
  rcases List.mem_cons.1 ht with rfl | ht
  ·exact hg _ _ (h u (by simp))
  ·exact ih (fun t ht=>h t (by simp[ht])) _ t ht
theorem grown_wide {t:Tm}(h:Wide t)(y:Int):Wide (grown t y):=by
 unfold grown;split
 ·exact h
 ·exact h.lift y 0
def ThrWide (thr:Thr):Prop:=∀ xs n t ins s,Wide t→(∀ a∈xs,Wide a)→Wide (thr xs n t ins s).1
theorem putW_wide {thr:Thr}(h:ThrWide thr){t:Tm}{xs:List Tm}(ht:Wide t)(ha:∀ a∈xs,Wide a)(s:St):Wide (putW thr t xs s).1:=by
 unfold putW
 split
 ·exact wide_tz
 ·obtain⟨h1,h2,h3⟩:=wide_parts ht
  have hr:=h xs t.binds.length (.mk [] t.kind t.index t.args) 0 s (.mk _ _ _ _ (by simp) h2 h3) ha
  obtain⟨r1,r2,r3⟩:=wide_parts hr
  exact .mk _ _ _ _ (by rw[List.length_drop];omega) r2 r3
theorem hit_wide {thr:Thr}(h:ThrWide thr){xs:List Tm}{n:Nat}{t:Tm}{ins:Int}{args:List Tm}(ht:Wide t)(ha:∀ a∈xs,Wide a)(hl:args.length≤100000)(hw:∀ a∈args,Wide a)(s:St):Wide (hit thr xs n t ins args s).1:=by
 obtain⟨h1,h2,h3⟩:=wide_parts ht
 unfold hit
 split
 ·exact .mk _ _ _ _ h1 hl hw
 ·dsimp only
  split
  ·exact .mk _ _ _ _ h1 hl hw
  ·split
   ·exact .mk _ _ _ _ h1 hl hw
   ·split
    ·exact wide_tz
    ·have hu:∀ j,Wide (xs.getD j tz):=fun j=>by
      rw[List.getD_eq_getElem?_getD]
      by_cases hj:j<xs.length
      ·rw[List.getElem?_eq_getElem hj];exact ha _ (List.getElem_mem hj)
      ·rw[List.getElem?_eq_none (by omega)];exact wide_tz
     have hr:=putW_wide h (grown_wide (hu ((n:Int)-1-wr (t.index-ins)).toNat) (wr (wr (ins+n)-xs.length))) hw s
     obtain⟨r1,r2,r3⟩:=wide_parts hr
     exact .mk _ _ _ _ h1 r2 r3
theorem through_wide (f:Nat):ThrWide (through f):=by
 induction f with
 | zero=>intro xs n t ins s _ _;exact wide_tz
 | succ f ih=>
  intro xs n t ins s ht ha
  obtain⟨h1,h2,h3⟩:=wide_parts ht
  unfold through
  dsimp only
  split
  ·exact hit_wide ih ht ha (by rw[seqM_length];exact h2) (seqM_wide (fun t s ht=>ih _ _ _ _ _ ht ha) _ h3 _) _
  ·exact wide_tz
end Nm
end Go.Proofs.YtclihnccilkohaaGreat
namespace Go.Proofs.YtclihnccilkohaaGreat
open Go.RowKit
def TN2_62:TI:=⟨4,true,[Value.slice none 0 0,Value.int IntKind.i64 0,Value.int IntKind.i64 0,Value.slice none 0 0],[(0,1,false),(1,2,true),(3,1,false)],none,64,6,none,false⟩
theorem TN2_62_ok:TypOk Tryz.prog 62 TN2_62:=by constructor <;> kernel_rfl
def TN2_3:TI:=⟨1,false,[Value.int IntKind.i64 0],[],none,8,2,none,false⟩
theorem TN2_3_ok:TypOk Tryz.prog 3 TN2_3:=by constructor <;> kernel_rfl
def TN2_60:TI:=⟨1,false,[Value.slice none 0 0],[],some 62,24,5,none,false⟩
theorem TN2_60_ok:TypOk Tryz.prog 60 TN2_60:=by constructor <;> kernel_rfl
def TN2_320:TI:=⟨3,true,[Value.pointer none,Value.slice none 0 0,Value.int IntKind.i64 0],[(0,1,false),(1,1,false),(2,1,false)],none,40,6,none,false⟩
theorem TN2_320_ok:TypOk Tryz.prog 320 TN2_320:=by constructor <;> kernel_rfl
def TN2_41:TI:=⟨1,false,[Value.slice none 0 0],[],some 106,24,5,none,false⟩
theorem TN2_41_ok:TypOk Tryz.prog 41 TN2_41:=by constructor <;> kernel_rfl
def TN2_59:TI:=⟨2,true,[Value.int IntKind.i64 0,Value.int IntKind.i64 0],[(0,1,false),(1,1,false)],none,16,6,none,true⟩
theorem TN2_59_ok:TypOk Tryz.prog 59 TN2_59:=by constructor <;> kernel_rfl
def TN2_303:TI:=⟨1,false,[Value.pointer none],[],none,8,4,none,false⟩
theorem TN2_303_ok:TypOk Tryz.prog 303 TN2_303:=by constructor <;> kernel_rfl
def TN2_50:TI:=⟨1,false,[Value.int IntKind.i64 0],[],none,8,2,none,false⟩
theorem TN2_50_ok:TypOk Tryz.prog 50 TN2_50:=by constructor <;> kernel_rfl
def TN2_305:TI:=⟨3,true,[Value.pointer none,Value.int IntKind.i64 0,Value.int IntKind.i64 0],[(0,1,false),(1,1,false),(2,1,false)],none,24,6,none,false⟩
theorem TN2_305_ok:TypOk Tryz.prog 305 TN2_305:=by constructor <;> kernel_rfl
def TN2_106:TI:=⟨2,true,[Value.slice none 0 0,Value.int IntKind.i64 0],[(0,1,false),(1,1,false)],none,32,6,none,false⟩
theorem TN2_106_ok:TypOk Tryz.prog 106 TN2_106:=by constructor <;> kernel_rfl
def TN2:List (Nat×TI):=[(62,TN2_62),(3,TN2_3),(60,TN2_60),(320,TN2_320),(41,TN2_41),(59,TN2_59),(303,TN2_303),(50,TN2_50),(305,TN2_305),(106,TN2_106)]
theorem TN2_ok:TabOk Tryz.prog TN2:=(((((((((((TabOk.nil _).cons TN2_106_ok).cons TN2_305_ok).cons TN2_50_ok).cons TN2_303_ok).cons TN2_59_ok).cons TN2_41_ok).cons TN2_320_ok).cons TN2_60_ok).cons TN2_3_ok).cons TN2_62_ok)
theorem spend_wk {s:Nm.St}(h:WkOk s):0≤(Nm.spend s).2.left∧(Nm.spend s).2.left≤1000000000:=by
 have:=h.left
 unfold Nm.spend
 split
 ·exact⟨Int.le_refl _,by show (0:Int)≤1000000000;decide⟩
 ·rename_i hc;dsimp only;omega
theorem fail_wk {s:Nm.St}(h:WkOk s)(c:Int)(hc:c≠0):WkOk (Nm.fail s c):=by
 unfold Nm.fail
 split
 ·exact⟨h.left,h.count,fun e=>absurd e hc⟩
 ·exact h
theorem unit_wk {s:Nm.St}(h:WkOk s):WkOk (Nm.unit s).2:=by
 have h1:=h.count
 have h3:=spend_wk h
 have h4:=Nm.spend_keeps s
 unfold Nm.unit
 split
 ·exact h
 ·rename_i he
  have he:s.e=0:=by simpa using he
  have h2:=h.e0 he
  split
  ·rename_i hc
   exact⟨h.left,⟨by dsimp only;omega,by dsimp only;omega⟩,fun e=>by cases e⟩
  ·rename_i hc
   split <;> rename_i hs <;> rw[hs] at h3 h4 <;> simp only at h3 h4 <;> refine⟨h3,⟨by dsimp only;omega,by dsimp only;omega⟩,fun e=>by dsimp only;omega⟩
theorem seqM_wk {g:Tm→Nm.St→Tm×Nm.St}(hg:∀ t s,WkOk s→WkOk (g t s).2):∀ (l:List Tm) (s:Nm.St),WkOk s→WkOk (Nm.seqM g l s).2
 | [],_,h=>h
 | t :: l,s,h=>seqM_wk hg l _ (hg t s h)
theorem putW_wk {thr:Nm.Thr}(ht:∀ xs n t ins s,WkOk s→WkOk (thr xs n t ins s).2)(t:Tm)(xs:List Tm)(s:Nm.St)(h:WkOk s):WkOk (Nm.putW thr t xs s).2:=by
 unfold Nm.putW
 split
 ·exact fail_wk h 1 (by decide)
 ·exact ht _ _ _ _ _ h
theorem hit_wk {thr:Nm.Thr}(ht:∀ xs n t ins s,WkOk s→WkOk (thr xs n t ins s).2)(xs:List Tm)(n:Nat)(t:Tm)(ins:Int)(args:List Tm)(s:Nm.St)(h:WkOk s):WkOk (Nm.hit thr xs n t ins args s).2:=by
 unfold Nm.hit
 dsimp only
 repeat' split
 all_goals first | exact h | exact fail_wk h 1 (by decide) | exact putW_wk ht _ _ _ h
theorem through_wk (f:Nat):∀ xs n t ins s,WkOk s→WkOk (Nm.through f xs n t ins s).2:=by
 induction f with
 | zero=>intro xs n t ins s h;exact h
 | succ f ih=>
  intro xs n t ins s h
  unfold Nm.through
  dsimp only
  split
  ·exact hit_wk ih _ _ _ _ _ _ (seqM_wk (fun t s h=>ih _ _ _ _ _ h) _ _ (unit_wk h))
  ·exact unit_wk h
def ThrD (f:Nat):Prop:=∀ (s:Nm.St) (xs:List Tm) (n:Nat) (t:Tm) (ins:Int),WkOk s→(s.e=0→100001-s.count≤f)→Wide t→(∀ a∈xs,Wide a)→xs.length≤n→n≤100000 →
 CallC Tryz.prog 202 [.ag [.p 0 0,.sl 4 (eTms xs) none,.v (.int .i64 n)],.ag (eTm t),.v (.int .i64 ins)] (wkE s) (wkE (Nm.through f xs n t ins s).2) (.ag (eTm (Nm.through f xs n t ins s).1))
theorem tz_eq:eTm Nm.tz=[.sl 2 [] none,.v (.int .i64 0),.v (.int .i64 0),.sl 4 [] none]:=rfl
theorem retv {T:List (Nat×TI)}{rs:List ResultVar}{V V':D}{W σ:List (Key×D)}{e:Exit}{N:Nat}(he:e=.normal∨e=.ret)(h1:resD T σ rs=some V')(hv:VLe V' V)(h2:kW σ W):RetOk T rs V W e σ N:=⟨he,⟨V',h1,hv⟩,kW_all h2⟩
theorem reta {T:List (Nat×TI)}{rs:List ResultVar}{V V':D}{W σ:List (Key×D)}{e:Exit}(h1:resD T σ rs=some V')(h2:kW σ W:=by repeat first | exact trivial | refine And.intro rfl ?_)(hv:VLe V' V:=by repeat first | exact VLe.refl _ | exact VLe.nil _ | exact VLe.untag _ _ _ | refine VLe.ag ?_ | refine VLe.tu ?_ | refine VLeL.cons ?_ ?_ | exact VLeL.nil)(he:e=.normal∨e=.ret:=by first | exact .inr rfl | exact .inl rfl):RetOk T rs V W e σ 0:=retv he h1 hv h2
set_option maxHeartbeats 1000000 in
theorem put_dd {f:Nat}(hthr:ThrD f)(s:Nm.St)(hs:WkOk s)(hf:s.e=0→100001-s.count≤f)(t:Tm)(xs:List Tm)(ht:Wide t)(hx:∀ a∈xs,Wide a):
  CallC Tryz.prog 193 [.p 0 0,.ag (eTm t),.sl 4 (eTms xs) none] (wkE s) (wkE (Nm.put f t xs s).2) (.ag (eTm (Nm.put f t xs s).1)):=by
 obtain⟨bs,k,i,a⟩:=t
 obtain⟨w1,w2,w3⟩:=ht.inv
 obtain⟨p,hp⟩:∃ p,Nm.put f (.mk bs k i a) xs s=p:=⟨_,rfl⟩
 rw[hp,eTm_eq]
 refine call_of_dw 2 45 [ResultVar.cell 6 62] TN2_ok (by kernel_rfl) Tryz.func193 rfl Tryz.ntmps193 rfl (by simp) ?dwords ?dbody
 case dwords=>simp[wordsOk,wkE,D.ok,D.oks,rnames,inN,ckey,eTm_ok,eTms_ok,eTys_ok]
 case dbody=>
  intro cx hnt hn0
  obtain⟨left,dry,count,er⟩:=s
  dsimp only[wkE,Tm.binds,Tm.kind,Tm.index,Tm.args]
  refine dw_seq ?_;refine dwk [] TN2_ok hnt fun _ z9=>z9 _ _ ?_;refine dw_seq (dw_seq ?_)
  by_cases hc:er≠0∨xs.length>bs.length
  ·have hp2:p=(Nm.tz,Nm.fail ⟨left,dry,count,er⟩ 1):=by
    rw[←hp];unfold Nm.put Nm.putW;exact if_pos hc
   have hfl:=fail_d ⟨left,dry,count,er⟩ 1
   by_cases he:er=0
   ·have hl:xs.length>bs.length:=hc.resolve_left (fun h=>h he)
    refine dwk [(13,.v (.bool false)),(20,.v (.bool true))] TN2_ok hnt fun K hK=>?_;refine And.intro (VLe.of_eq (by simp[he])) ?_;refine And.intro (dtrue (by rw[eTms_len,eTys_len];omega)) ?_;refine hK _ _ ?_;clear hK K;refine dw_cond (t:=true) rfl ?_;rw[if_pos rfl];refine dw_seq ?_;refine dwk [] TN2_ok hnt fun K hK=>?_;refine dcl (hfl) ?_;refine hK _ _ ?_;clear hK K;refine dw_seq ?_
    refine dwk [] TN2_ok hnt fun _ z9=>z9 _ _ ?_;refine dw_ret ?_
    rw[hp2,tz_eq]
    exact retv (N:=0) (.inr rfl) rfl (by repeat first | exact VLe.refl _ | exact VLe.nil _ | exact VLe.untag _ _ _ | refine VLe.ag ?_ | refine VLe.tu ?_ | refine VLeL.cons ?_ ?_ | exact VLeL.nil) (by repeat first | exact trivial | refine And.intro rfl ?_)
   ·skip
    refine dwk [(13,.v (.bool true))] TN2_ok hnt fun K hK=>?_;refine And.intro (VLe.of_eq (by simp[he])) ?_;refine hK _ _ ?_;clear hK K;refine dw_cond (t:=true) rfl ?_;rw[if_pos rfl];refine dw_seq ?_;refine dwk [] TN2_ok hnt fun K hK=>?_;refine dcl (hfl) ?_;refine hK _ _ ?_;clear hK K;refine dw_seq ?_;refine dwk [] TN2_ok hnt fun _ z9=>z9 _ _ ?_;refine dw_ret ?_
    rw[hp2,tz_eq]
    exact retv (N:=0) (.inr rfl) rfl (by repeat first | exact VLe.refl _ | exact VLe.nil _ | exact VLe.untag _ _ _ | refine VLe.ag ?_ | refine VLe.tu ?_ | refine VLeL.cons ?_ ?_ | exact VLeL.nil) (by repeat first | exact trivial | refine And.intro rfl ?_)
  ·have he:er=0:=Decidable.byContradiction fun h=>hc (.inl h)
   have hl:xs.length≤bs.length:=by
    rcases Nat.lt_or_ge bs.length xs.length with h | h
    ·exact absurd (.inr h) hc
    ·exact h
   obtain⟨r,hr⟩:∃ r,Nm.through f xs bs.length (.mk [] k i a) 0 ⟨left,dry,count,er⟩=r:=⟨_,rfl⟩
   have hp2:p=(.mk (bs.drop xs.length) r.1.kind r.1.index r.1.args,r.2):=by
    rw[←hp,←hr];unfold Nm.put Nm.putW;exact if_neg hc
   have hcon:=hthr ⟨left,dry,count,er⟩ xs bs.length (.mk [] k i a) 0 hs hf (.mk _ _ _ _ (by simp) w2 w3) hx hl w1
   rw[hr,eTm_eq,eTm_eq] at hcon
   dsimp only[wkE,Tm.binds,Tm.kind,Tm.index,Tm.args,eTys] at hcon
   refine dwk [(13,.v (.bool false)),(20,.v (.bool false))] TN2_ok hnt fun K hK=>?_;refine And.intro (VLe.of_eq (by simp[he])) ?_;refine And.intro (dfalse (by rw[eTms_len,eTys_len];omega)) ?_;refine hK _ _ ?_;clear hK K;refine dw_cond (t:=false) rfl ?_;rw[if_neg (by simp)];refine dw_skip ?_;refine dw_seq ?_;refine dwk [(29,.v (.int .i64 bs.length))] TN2_ok hnt fun K hK=>?_;refine And.intro (dintE (by rw[eTys_len])) ?_
   refine hK _ _ ?_;clear hK K;refine dw_seq ?_;refine dwk [(36,.ag [.sl 2 [] none,.v (.int .i64 k),.v (.int .i64 i),.sl 4 (eTms a) none])] TN2_ok hnt fun K hK=>?_;refine And.intro (auV) ?_;refine dcl (hcon) ?_;refine hK _ _ ?_;clear hK K;refine dw_seq ?_;refine dwk [(42,.sl 2 (eTys (bs.drop xs.length)) none)] TN2_ok hnt fun K hK=>?_;refine And.intro (⟨by omega,by rw[eTms_len,eTys_len];omega⟩) ?_
   refine And.intro (VLe.of_eq (by simp[eTms_len,eTys_map,List.take_of_length_le])) ?_;refine hK _ _ ?_;clear hK K;refine dw_seq ?_;refine dwk [] TN2_ok hnt fun _ z9=>z9 _ _ ?_;refine dw_ret ?_
   rw[hp2,eTm_eq]
   exact retv (N:=0) (.inr rfl) rfl (VLe.refl _) (by repeat first | exact trivial | refine And.intro rfl ?_)
def argBad (b f x:Int):Prop:=f≤x∧b<0∧(b=-9223372036854775808∨x-f < -b)
def longBad (b f x:Int):Prop:=f≤x∧((1000<b)∨(0≤b∧1000-b<x)∨(b<0∧1000<x+b))
instance (b f x:Int):Decidable (argBad b f x):=by unfold argBad;infer_instance
instance (b f x:Int):Decidable (longBad b f x):=by unfold longBad;infer_instance
namespace Tm
mutual
def looses:Tm→Int→List Int
 | .mk b k i a,n=>(if k=0∧n+(b.length:Nat)≤i then [i-(n+(b.length:Nat))] else [])++loosess a (n+(b.length:Nat))
def loosess:List Tm→Int→List Int
 | [],_=>[]
 | t :: l,n=>looses t n++loosess l n
end
mutual
def mapl (v:Int→Int):Tm→Int→Tm
 | .mk b k i a,n=>.mk b k (if k=0∧n+(b.length:Nat)≤i then n+(b.length:Nat)+v (i-(n+(b.length:Nat))) else i) (mapls v a (n+(b.length:Nat)))
def mapls (v:Int→Int):List Tm→Int→List Tm
 | [],_=>[]
 | t :: l,n=>mapl v t n :: mapls v l n
end
section
variable {σ:Type} (g:σ→Int→σ) (v:Int→Int)
end
end Tm
def grow (b f x:Int):Int:=if x<f then x else x+b
def shiftCode (b f:Int)(l:List Int):Int:=if ∃ x∈l,argBad b f x then 1 else if ∃ x∈l,longBad b f x then 2 else 0
def Tm.shift (t:Tm)(b f:Int):Tm×Int:=
 if f<0 then (Tm.zero,1) else if shiftCode b f (t.looses 0)=0 then (t.mapl (grow b f) 0,0) else (Tm.zero,shiftCode b f (t.looses 0))
mutual
def Ty.eqb:Ty→Ty→Bool
 | .mk a b,.mk c d=>Ty.eqbs a c&&decide (b=d)
def Ty.eqbs:List Ty→List Ty→Bool
 | [],[]=>true
 | x :: l,y :: r=>Ty.eqb x y&&Ty.eqbs l r
 | _,_=>false
end
theorem Ty.eqbs_iff {l:List Ty}(h:∀ t∈l,∀ u,Ty.eqb t u=true↔t=u):∀ r,Ty.eqbs l r=true↔l=r:=by
 induction l with
 | nil=>intro r;cases r <;> simp[Ty.eqbs]
 | cons t l ih=>
  intro r
  cases r with
  | nil=>simp[Ty.eqbs]
  | cons u r=>simp[Ty.eqbs,h t (by simp) u,ih (fun t ht=>h t (by simp[ht])) r]
theorem Ty.eqb_iff (t:Ty):∀ u,Ty.eqb t u=true↔t=u:=by
 induction t using Ty.ind with
 | h a b ih=>
  intro u
  obtain⟨c,d⟩:=u
  simp[Ty.eqb,Ty.eqbs_iff ih c]
instance:DecidableEq Ty:=fun t u=>decidable_of_iff _ (Ty.eqb_iff t u)
mutual
def Tm.eqb:Tm→Tm→Bool
 | .mk b k i a,.mk c m j d=>decide (b=c)&&(decide (k=m)&&(decide (i=j)&&Tm.eqbs a d))
def Tm.eqbs:List Tm→List Tm→Bool
 | [],[]=>true
 | x :: l,y :: r=>Tm.eqb x y&&Tm.eqbs l r
 | _,_=>false
end
theorem Tm.eqbs_iff {l:List Tm}(h:∀ t∈l,∀ u,Tm.eqb t u=true↔t=u):∀ r,Tm.eqbs l r=true↔l=r:=by
 induction l with
 | nil=>intro r;cases r <;> simp[Tm.eqbs]
 | cons t l ih=>
  intro r
  cases r with
  | nil=>simp[Tm.eqbs]
  | cons u r=>simp[Tm.eqbs,h t (by simp) u,ih (fun t ht=>h t (by simp[ht])) r]
theorem Tm.eqb_iff (t:Tm):∀ u,Tm.eqb t u=true↔t=u:=by
 induction t using Tm.ind with
 | h b k i a ih=>
  intro u
  obtain⟨c,m,j,d⟩:=u
  simp[Tm.eqb,Tm.eqbs_iff ih d]
instance:DecidableEq Tm:=fun t u=>decidable_of_iff _ (Tm.eqb_iff t u)
def longB (t:Tm):Bool:=decide (t.args=Ty.etas t.binds)&&(!decide (t.kind=0)||decide ((t.binds.length:Int)≤t.index))
namespace Pn
def isVar (n:Int)(acc:List Int)(a:Tm):Bool:=longB a&&(decide (a.kind=0)&&(decide (a.headIx<n) && !acc.contains a.headIx))
def varsL (n:Int):List Tm→List Int→Option (List Int)
 | [],acc=>some acc
 | a :: l,acc=>if isVar n acc a then varsL n l (acc++[a.headIx]) else none
def vars (t:Tm)(n:Int):List Int×Int:=if t.kind≠2∨n<0 then ([],1) else match varsL n t.args [] with
 | some l=>(l,0)
 | none=>([],6)
structure Use where
 mt:Int
 vars:List Int
 binds:List Ty
 path:List Int
mutual
def uses:Tm→List Ty→List Int→List Use×Bool
 | .mk bs k i a,ar,p=>if k=2 then (match varsL ((ar++bs).length:Nat) a [] with | some v=>([⟨i,v,ar++bs,p⟩],true) | none=>([],false)) else usess a (ar++bs) p 0
def usess:List Tm→List Ty→List Int→Nat→List Use×Bool
 | [],_,_,_=>([],true)
 | t :: l,ar,p,j=>if (uses t ar (p++[(j:Int)])).2 then ((uses t ar (p++[(j:Int)])).1++(usess l ar p (j+1)).1,(usess l ar p (j+1)).2) else ((uses t ar (p++[(j:Int)])).1,false)
end
def may (p:Tm):Int:=if p.looses 0≠[] then 1 else if (uses p [] []).2=false then 6 else 0
def mayL (n:Int):List Int→List Int→Bool
 | [],_=>true
 | v :: l,acc=>decide (0≤v)&&(decide (v<n)&&(!acc.contains v&&mayL n l (acc++[v])))
def mayV (n:Int)(vs:List Int):Bool:=mayL n vs []
def ix (v:Int):List Int→Option Nat
 | []=>none
 | u :: l=>if u=v then some 0 else (ix v l).map (· + 1)
def go (n:Int)(vs:List Int)(d:Int):Int:=if n≤d then d-n+vs.length else (vs.length:Int)-1-(match ix d vs with | some k=>(k:Int) | none=>0)
mutual
def tk (n:Int)(vs:List Int):Tm→Int→Tm
 | .mk bs k i a,ins=>.mk bs k (if k=0∧ins+(bs.length:Nat)≤i then ins+(bs.length:Nat)+go n vs (i-(ins+(bs.length:Nat))) else i) (tks n vs a (ins+(bs.length:Nat)))
def tks (n:Int)(vs:List Int):List Tm→Int→List Tm
 | [],_=>[]
 | t :: l,ins=>tk n vs t ins :: tks n vs l ins
end
mutual
def tkB (n:Int)(vs:List Int):Tm→Int→Bool
 | .mk bs k i a,ins=>(!(decide (k=0)&&decide (ins+(bs.length:Nat)≤i)&&(decide (i-(ins+(bs.length:Nat))<n)&&(ix (i-(ins+(bs.length:Nat))) vs).isNone)))&&tkBs n vs a (ins+(bs.length:Nat))
def tkBs (n:Int)(vs:List Int):List Tm→Int→Bool
 | [],_=>true
 | t :: l,ins=>tkB n vs t ins&&tkBs n vs l ins
end
def types (binds:List Ty)(vs:List Int):List Ty:=vs.map fun v=>binds.getD ((binds.length:Int)-1-v).toNat (.mk [] 0)
def take (t:Tm)(binds:List Ty)(vs:List Int):Tm×Int:=if mayV binds.length vs then (if tkB binds.length vs t 0 then (.mk (types binds vs++t.binds) (tk binds.length vs t 0).kind (tk binds.length vs t 0).index (tk binds.length vs t 0).args,0) else (Tm.zero,9)) else (Tm.zero,1)
abbrev Bd:=List (Int×Tm)
def bfind (b:Bd)(m:Int):Option Tm:=(b.find? fun p=>p.1==m).map (·.2)
def bput (b:Bd)(m:Int)(t:Tm):Bool×Bd:=match bfind b m with
 | some u=>(decide (t=u),b)
 | none=>(true,b++[(m,t)])
def flex (b:Bd)(p t:Tm)(ar:List Ty):Bool×Bd:=match varsL ar.length p.args [] with
 | none=>(false,b)
 | some v=>if (take (.mk [] t.kind t.index t.args) ar v).2=0 then bput b p.index (take (.mk [] t.kind t.index t.args) ar v).1 else (false,b)
mutual
def walk:Tm→Tm→List Ty→Bd→Bool×Bd
 | .mk bs k i a,t,ar,b=>if bs≠t.binds then (false,b) else if k=2 then flex b (.mk bs k i a) t (ar++bs) else if (k≠t.kind∨i≠t.index)∨a.length≠t.args.length then (false,b) else walks a t.args (ar++bs) b
def walks:List Tm→List Tm→List Ty→Bd→Bool×Bd
 | [],_,_,b=>(true,b)
 | p :: l,ts,ar,b=>if (walk p (ts.headD Tm.zero) ar b).1 then walks l ts.tail ar (walk p (ts.headD Tm.zero) ar b).2 else (walk p (ts.headD Tm.zero) ar b)
end
end Pn
def TTY_106:TI:=⟨2,true,[Value.slice none 0 0,Value.int IntKind.i64 0],[(0,1,false),(1,1,false)],none,32,6,none,false⟩
theorem TTY_106_ok:TypOk Tryz.prog 106 TTY_106:=by constructor <;> kernel_rfl
def TTY_3:TI:=⟨1,false,[Value.int IntKind.i64 0],[],none,8,2,none,false⟩
theorem TTY_3_ok:TypOk Tryz.prog 3 TTY_3:=by constructor <;> kernel_rfl
def TTY_41:TI:=⟨1,false,[Value.slice none 0 0],[],some 106,24,5,none,false⟩
theorem TTY_41_ok:TypOk Tryz.prog 41 TTY_41:=by constructor <;> kernel_rfl
def TTY_104:TI:=⟨2,true,[Value.slice none 0 0,Value.int IntKind.i64 0],[(0,1,false),(1,1,false)],none,32,6,none,false⟩
theorem TTY_104_ok:TypOk Tryz.prog 104 TTY_104:=by constructor <;> kernel_rfl
def TTY_22:TI:=⟨1,false,[Value.slice none 0 0],[],some 104,24,5,none,false⟩
theorem TTY_22_ok:TypOk Tryz.prog 22 TTY_22:=by constructor <;> kernel_rfl
def TTY_217:TI:=⟨1,false,[Value.slice none 0 0],[],some 41,24,5,none,false⟩
theorem TTY_217_ok:TypOk Tryz.prog 217 TTY_217:=by constructor <;> kernel_rfl
def TTY_71:TI:=⟨1,false,[Value.slice none 0 0],[],some 3,24,5,none,false⟩
theorem TTY_71_ok:TypOk Tryz.prog 71 TTY_71:=by constructor <;> kernel_rfl
def TTY_143:TI:=⟨1,false,[Value.nilFunc],[],none,8,8,none,false⟩
theorem TTY_143_ok:TypOk Tryz.prog 143 TTY_143:=by constructor <;> kernel_rfl
def TTY:List (Nat×TI):=[(106,TTY_106),(3,TTY_3),(41,TTY_41),(104,TTY_104),(22,TTY_22),(217,TTY_217),(71,TTY_71),(143,TTY_143)]
theorem TTY_ok:TabOk Tryz.prog TTY:=(((((((((TabOk.nil _).cons TTY_143_ok).cons TTY_71_ok).cons TTY_217_ok).cons TTY_22_ok).cons TTY_104_ok).cons TTY_41_ok).cons TTY_3_ok).cons TTY_106_ok)
theorem CallC.vle {P:Program}{f:FuncId}{args args':List D}{R W:List (Key×D)}{V V':D}(h:CallC P f args R W V)(ha:VLeL args' args)(hv:VLe V V'):CallC P f args' R W V':=by
 refine⟨h.1,fun cx Fr m Im w vs hm hr hR=>(h.2 cx Fr m Im w vs hm ?_ hR).mono ?_⟩
 ·rw[relL_iff] at hr ⊢
  refine⟨hr.1.trans ha.1,fun i hi=>?_⟩
  have hi':i<args'.length:=by rw[ha.1];exact hi
  exact ha.2 i hi' hi m Im w _ (hr.2 i hi')
 ·rintro e w' ⟨v,Im',rfl,h1,h2,h3,h4,h5,h6,h7⟩
  exact⟨v,Im',rfl,h1,h2,h3,h4,h5,hv _ _ _ _ h6,h7⟩
def eTyss (ls:List (List Ty)):List (List D):=ls.map fun l=>[.sl 2 (eTys l) none]
theorem eTyss_len (l:List (List Ty)):(eTyss l).length=l.length:=List.length_map ..
theorem eTyss_getD (l:List (List Ty))(i:Nat)(h:i<l.length):(eTyss l).getD i []=[.sl 2 (eTys l[i]) none]:=by
 rw[eTyss,List.getD_eq_getElem?_getD,List.getElem?_map,List.getElem?_eq_getElem h];rfl
@[simp] theorem eTyss_ok (f g:Nat→Bool) (l:List (List Ty)):D.okss f g (eTyss l)=true:=D.okss_map _ l fun l _=>by simp[D.oks,D.ok,eTys_ok]
theorem bneT {a b:Int}(h:a≠b):VLe (.v (.bool (a != b))) (.v (.bool true)):=VLe.of_eq (by simp[h])
theorem bneF {a b:Int}(h:a=b):VLe (.v (.bool (a != b))) (.v (.bool false)):=VLe.of_eq (by simp[h])
theorem beqT {a b:Int}(h:a=b):VLe (.v (.bool (a==b))) (.v (.bool true)):=VLe.of_eq (by simp[h])
theorem beqF {a b:Int}(h:a≠b):VLe (.v (.bool (a==b))) (.v (.bool false)):=VLe.of_eq (by simp[h])
theorem eq_of_take {α:Type}{l r:List α}{j:Nat}(h:l.take j=r.take j)(h1:l.length≤j)(h2:r.length≤j):l=r:=by
 rwa [List.take_of_length_le h1,List.take_of_length_le h2] at h
theorem take_succ_eq {α:Type}{l r:List α}{j:Nat}(h:l.take j=r.take j)(h1:j<l.length)(h2:j<r.length)(he:l[j]=r[j]):l.take (j+1)=r.take (j+1):=by
 rw[List.take_add_one,List.take_add_one,h,List.getElem?_eq_getElem h1,List.getElem?_eq_getElem h2,he]
theorem ne_at {α:Type}{l r:List α}{j:Nat}(h1:j<l.length)(h2:j<r.length)(he:l[j]≠r[j]):l≠r:=fun e=>he (by subst e;rfl)
def sl1:D→Prop
 | .sl _ l _=>l.length≤9223372036854775807
 | _=>True
def slOk:D→Prop
 | .ag cs=>∀ c∈cs,sl1 c
 | d=>sl1 d
theorem Rel.sl1 {m:Mp}{Im:Nat→Nat→Prop}{w:World}{x:Value}{d:D}(h:Rel m Im w x d):sl1 d:=by
 cases h with
 | sl a c bl off n X l g h1 ha hc hn ho hr hg=>exact h1.1
 | _=>trivial
theorem Rel.slOk {m:Mp}{Im:Nat→Nat→Prop}{w:World}{x:Value}{d:D}(h:Rel m Im w x d):slOk d:=by
 cases d with
 | ag cs=>
  cases h with
  | ag vs l hn hr=>
   intro c hc
   obtain⟨i,hi,rfl⟩:=List.getElem_of_mem hc
   exact(hr i hi).sl1
 | _=>exact h.sl1
theorem CallC.lens {P:Program}{f:FuncId}{args:List D}{R W:List (Key×D)}{V:D}(h:(∀ d∈args,slOk d)→CallC P f args R W V)(hen:entersB P f=true:=by kernel_rfl):CallC P f args R W V:=by
 refine⟨hen,fun cx Fr m Im w vs hm hr hR=>?_⟩
 refine(h fun d hd=>?_).2 cx Fr m Im w vs hm hr hR
 obtain⟨i,hi,rfl⟩:=List.getElem_of_mem hd
 exact((relL_iff.1 hr).2 i hi).slOk
theorem eqTysA (l r:List Ty)(h:∀ t∈l,∀ u,PureC Tryz.prog 67 [.ag (eTy t),.ag (eTy u)] (.v (.bool (decide (t=u))))):PureC Tryz.prog 66 [.sl 2 (eTys l) none,.sl 2 (eTys r) none,.fn 67 []] (.v (.bool (decide (l=r)))):=CallC.lens fun hlen=>by
 have hl:l.length≤9223372036854775807:=by have:=hlen _ (List.mem_cons_self ..);simp only[slOk,sl1,eTys_len] at this;exact this
 by_cases hlr:l.length=r.length
 ·skip
  refine calldw 0 32 [ResultVar.tmp 6] TTY_ok Tryz.func66 rfl Tryz.ntmps66 rfl fun cx hnt hn0=>?_
  ·skip
   refine dw_seq ?_;refine dwk [] TTY_ok hnt fun _ z9=>z9 _ _ ?_;refine dw_seq ?_;refine dw_seq ?_;refine dwk [(11,.v (.int .i64 (↑l.length))),(13,.v (.int .i64 (↑r.length))),(14,.v (.bool false))] TTY_ok hnt fun K hK=>?_;refine And.intro (dintE (by rw[eTys_len])) ?_;refine And.intro (dintE (by rw[eTys_len])) ?_;refine And.intro (bneF (by omega)) ?_;refine hK _ _ ?_;clear hK K
   refine dw_cond (t:=false) rfl ?_;rw[if_neg (by simp)];refine dw_skip ?_;refine dw_seq ?_;refine dw_seq ?_;refine dwk [(16,.v (.int .i64 (↑l.length)))] TTY_ok hnt fun K hK=>?_;refine And.intro (dintE (by rw[eTys_len])) ?_;refine hK _ _ ?_;clear hK K;refine dw_block ?_
   refine dw_loop (ι:={ j:Nat // l.take j=r.take j }) (fun j=>[(.t 1,.sl 2 (eTys r) none),(.t 2,.fn 67 []),(.t 15,.sl 2 (eTys l) none),(.t 16,.v (.int .i64 ↑l.length)),(.t 17,.v (.int .i64 ↑j.1))]) 0 (fun j=>l.length-j.1) (⟨0,rfl⟩) (VS.toA) fun j=>?_
   obtain⟨j,hj⟩:=j
   dsimp only
   by_cases hlt:j<l.length
   ·have hlt2:j<r.length:=by omega
    have hq:=h l[j] (List.getElem_mem hlt) r[j]
    rw[eTy_eq,eTy_eq] at hq
    by_cases he:l[j]=r[j]
    ·rw[decide_eq_true he] at hq
     refine dw_seq ?_;refine dwk [(18,.v (.bool true))] TTY_ok hnt fun K hK=>?_;refine And.intro auT ?_;refine hK _ _ ?_;clear hK K;refine dw_seq ?_;refine dw_cond (t:=true) rfl ?_;rw[if_pos rfl];refine dw_skip ?_;refine dw_seq ?_;refine dw_block ?_;refine dw_seq ?_;refine dwk [(20,.q [.sl 2 (eTys l[j].args) none,.v (.int .i64 l[j].base)])] TTY_ok hnt fun K hK=>?_;refine And.intro (elo (eTys_len l)) ?_
     refine And.intro (elv (eTys_getD l j) (eTy_eq _)) ?_;refine hK _ _ ?_;clear hK K;refine dw_seq ?_;refine dwk [(24,.q [.sl 2 (eTys r[j].args) none,.v (.int .i64 r[j].base)])] TTY_ok hnt fun K hK=>?_;refine And.intro (elo (eTys_len r)) ?_;refine And.intro (elv (eTys_getD r j) (eTy_eq _)) ?_;refine hK _ _ ?_;clear hK K;refine dw_seq ?_;refine dwk [] TTY_ok hnt fun K hK=>?_;refine dcl (hq) ?_
     refine hK _ _ ?_;clear hK K;refine dw_cond (t:=false) rfl ?_;rw[if_neg (by simp)];refine dw_skip ?_;refine dwk [(31,.v (.int .i64 (↑(j+1))))] TTY_ok hnt fun K hK=>?_;refine And.intro auI ?_;refine hK _ _ ?_;clear hK K
     refine⟨⟨j+1,take_succ_eq hj hlt hlt2 he⟩,by first | omega | (dsimp only;omega),VS.toA⟩
    ·rw[decide_eq_false he] at hq
     rw[decide_eq_false (ne_at hlt hlt2 he)]
     refine dw_seq ?_;refine dwk [(18,.v (.bool true))] TTY_ok hnt fun K hK=>?_;refine And.intro auT ?_;refine hK _ _ ?_;clear hK K;refine dw_seq ?_;refine dw_cond (t:=true) rfl ?_;rw[if_pos rfl];refine dw_skip ?_;refine dw_seq ?_;refine dw_block ?_;refine dw_seq ?_;refine dwk [(20,.q [.sl 2 (eTys l[j].args) none,.v (.int .i64 l[j].base)])] TTY_ok hnt fun K hK=>?_;refine And.intro (elo (eTys_len l)) ?_
     refine And.intro (elv (eTys_getD l j) (eTy_eq _)) ?_;refine hK _ _ ?_;clear hK K;refine dw_seq ?_;refine dwk [(24,.q [.sl 2 (eTys r[j].args) none,.v (.int .i64 r[j].base)])] TTY_ok hnt fun K hK=>?_;refine And.intro (elo (eTys_len r)) ?_;refine And.intro (elv (eTys_getD r j) (eTy_eq _)) ?_;refine hK _ _ ?_;clear hK K;refine dw_seq ?_;refine dwk [] TTY_ok hnt fun K hK=>?_;refine dcl (hq) ?_
     refine hK _ _ ?_;clear hK K;refine dw_cond (t:=true) rfl ?_;rw[if_pos rfl];refine dw_seq ?_;refine dwk [] TTY_ok hnt fun _ z9=>z9 _ _ ?_;refine dw_ret ?_
     exact reta rfl
   ·rw[decide_eq_true (eq_of_take hj (by omega) (by omega))]
    refine dw_seq ?_;refine dwk [(18,.v (.bool false))] TTY_ok hnt fun K hK=>?_;refine And.intro auF ?_;refine hK _ _ ?_;clear hK K;refine dw_seq ?_;refine dw_cond (t:=false) rfl ?_;rw[if_neg (by simp)];refine dw_exit ?_;refine dw_seq ?_;refine dwk [] TTY_ok hnt fun _ z9=>z9 _ _ ?_;refine dw_ret ?_
    exact reta rfl
 ·rw[decide_eq_false (fun e=>hlr (by rw[e]))]
  refine calldw 0 32 [ResultVar.tmp 6] TTY_ok Tryz.func66 rfl Tryz.ntmps66 rfl fun cx hnt hn0=>?_
  ·skip
   refine dw_seq ?_;refine dwk [] TTY_ok hnt fun _ z9=>z9 _ _ ?_;refine dw_seq ?_;refine dw_seq ?_;refine dwk [(11,.v (.int .i64 (↑l.length))),(13,.v (.int .i64 (↑r.length))),(14,.v (.bool true))] TTY_ok hnt fun K hK=>?_;refine And.intro (dintE (by rw[eTys_len])) ?_;refine And.intro (dintE (by rw[eTys_len])) ?_;refine And.intro (bneT (by omega)) ?_;refine hK _ _ ?_;clear hK K
   refine dw_cond (t:=true) rfl ?_;rw[if_pos rfl];refine dw_seq ?_;refine dwk [] TTY_ok hnt fun _ z9=>z9 _ _ ?_;refine dw_ret ?_
   exact reta rfl
theorem keq_d:∀ t u:Ty,PureC Tryz.prog 67 [.ag (eTy t),.ag (eTy u)] (.v (.bool (decide (t=u)))):=by
 intro t
 induction t using Ty.ind with
 | h a b ih=>
 intro u
 have hq:=eqTysA a u.args ih
 rw[eTy_eq,eTy_eq]
 simp only[args_mk',base_mk']
 by_cases hb:b=u.base
 ·have e:decide (Ty.mk a b=u)=decide (a=u.args):=by
   obtain⟨c,d⟩:=u
   rw[Bool.eq_iff_iff,decide_eq_true_iff,decide_eq_true_iff,base_mk'] at *
   subst hb
   simp[args_mk']
  rw[e]
  refine calldw 0 17 [ResultVar.tmp 4] TTY_ok Tryz.func67 rfl Tryz.ntmps67 rfl fun cx hnt hn0=>?_
  ·skip
   refine dw_seq ?_;refine dwk [] TTY_ok hnt fun _ z9=>z9 _ _ ?_;refine dw_seq ?_;refine dwk [(9,.v (.bool true))] TTY_ok hnt fun K hK=>?_;refine And.intro (beqT hb) ?_;refine dcl (hq) ?_;refine hK _ _ ?_;clear hK K;refine dw_ret ?_
   exact reta rfl
 ·have e:decide (Ty.mk a b=u)=false:=decide_eq_false fun e=>hb (by rw[←e];rfl)
  rw[e]
  refine calldw 0 17 [ResultVar.tmp 4] TTY_ok Tryz.func67 rfl Tryz.ntmps67 rfl fun cx hnt hn0=>?_
  ·skip
   refine dw_seq ?_;refine dwk [] TTY_ok hnt fun _ z9=>z9 _ _ ?_;refine dw_seq ?_;refine dwk [(9,.v (.bool false))] TTY_ok hnt fun K hK=>?_;refine And.intro (beqF hb) ?_;refine hK _ _ ?_;clear hK K;refine dw_ret ?_
   exact reta rfl
theorem eqTys_d (l r:List Ty)(f:FuncId)(hf:f=67):PureC Tryz.prog 66 [.sl 2 (eTys l) none,.sl 2 (eTys r) none,.fn f []] (.v (.bool (decide (l=r)))):=by
 subst hf
 exact eqTysA l r fun t _=>keq_d t
theorem ty_mem {a:List Ty}{t:Ty}(h:t∈a):t.size≤Ty.sizes a:=by
 induction a with
 | nil=>cases h
 | cons u a ih=>
  simp only[Ty.sizes]
  rcases List.mem_cons.1 h with rfl | h
  ·omega
  ·have:=ih h;omega
theorem ty_size (a:List Ty)(b:Int):(Ty.mk a b).size=Ty.sizes a+1:=by simp[Ty.size]
theorem eTys_snoc (l:List Ty)(j:Nat)(h:j<l.length):eTys (l.take j)++[[.sl 2 (eTys l[j].args) none,.v (.int .i64 l[j].base)]]=eTys (l.take (j+1)):=by
 rw[List.take_add_one,List.getElem?_eq_getElem h,Option.toList_some,eTys_append,eTys,eTys,eTy_eq]
theorem kcopied_d:∀ t:Ty,t.size≤1000000→PureC Tryz.prog 77 [.ag (eTy t)] (.ag (eTy t)):=by
 intro t
 induction t using Ty.ind with
 | h a b ih=>
 intro hz
 rw[ty_size] at hz
 have hal:=Ty.le_sizes a
 rw[eTy_eq]
 simp only[args_mk',base_mk']
 refine calldw 0 25 [ResultVar.cell 2 106] TTY_ok Tryz.func77 rfl Tryz.ntmps77 rfl fun cx hnt hn0=>?_
 ·skip
  refine dw_seq ?_;refine dwk [] TTY_ok hnt fun _ z9=>z9 _ _ ?_;refine dw_seq ?_;refine dwk [] TTY_ok hnt fun _ z9=>z9 _ _ ?_;refine dw_seq ?_;refine dw_seq ?_;refine dwk [(11,.v (.int .i64 (↑a.length)))] TTY_ok hnt fun K hK=>?_;refine And.intro (dintE (by rw[eTys_len])) ?_;refine hK _ _ ?_;clear hK K
  refine DW.vs (VS.row (k:=5) (off:=0) 106 2 rfl) ?_
  refine dw_block ?_
  refine dw_loop (ι:={ j:Nat // j≤a.length }) (fun j=>[(.t 2,.p 1 0),(.t 3,.p 5 0),(.t 10,.sl 2 (eTys a) none),(.t 11,.v (.int .i64 ↑a.length)),(.t 12,.v (.int .i64 ↑j.1)),(.c 1 0,.v (.slice none 0 0)),(.c 1 1,.v (.int .i64 0)),(.c 5 0,.sl 2 (eTys (a.take j.1)) (some 11)),(.c 5 1,.v (.int .i64 b)),(.r 11,.rw 106 2 j.1)]) 12 (fun j=>a.length-j.1) (⟨0,Nat.zero_le _⟩) (VS.toA) fun j=>?_
  obtain⟨j,hj⟩:=j
  dsimp only
  by_cases hlt:j<a.length
  ·have hmem:=ty_mem (List.getElem_mem hlt)
   have hih:=ih a[j] (List.getElem_mem hlt) (by omega)
   have hsn:=eTys_snoc a j hlt
   have hlq:(eTys (a.take j)).length=j:=by rw[eTys_len,List.length_take];omega
   rw[eTy_eq] at hih
   refine dw_seq ?_;refine dwk [(13,.v (.bool true))] TTY_ok hnt fun K hK=>?_;refine And.intro auT ?_;refine hK _ _ ?_;clear hK K;refine dw_seq ?_;refine dw_cond (t:=true) rfl ?_;rw[if_pos rfl];refine dw_skip ?_;refine dw_seq ?_;refine dw_block ?_;refine dw_seq ?_;refine dwk [(14,.q [.sl 2 (eTys a[j].args) none,.v (.int .i64 a[j].base)])] TTY_ok hnt fun K hK=>?_;refine And.intro (elo (eTys_len a)) ?_
   refine And.intro (elv (eTys_getD a j) (eTy_eq _)) ?_;refine hK _ _ ?_;clear hK K;refine dwkD [(21,.sl 2 (eTys (a.take (j+1))) (some 11))] TTY_ok hnt fun K hK=>?_;refine dcl (hih) ?_;refine And.intro (⟨by rw[hlq],by rw[hlq];simp;omega⟩) ?_;refine And.intro (VLe.of_eq (by rw[hsn])) ?_;refine hK _ _ (by kernel_rfl) ?_;clear hK K;refine dwk [(23,.v (.int .i64 (↑(j+1))))] TTY_ok hnt fun K hK=>?_
   refine And.intro auI ?_;refine hK _ _ ?_;clear hK K
   refine⟨⟨j+1,by omega⟩,by first | omega | (dsimp only;omega),(by try simp only[List.length_append,List.length_take,List.length_cons,List.length_nil,Nat.zero_add,hlq];exact VS.toA)⟩
  ·rw[List.take_of_length_le (by omega)]
   refine dw_seq ?_;refine dwk [(13,.v (.bool false))] TTY_ok hnt fun K hK=>?_;refine And.intro auF ?_;refine hK _ _ ?_;clear hK K;refine dw_seq ?_;refine dw_cond (t:=false) rfl ?_;rw[if_neg (by simp)];refine dw_exit ?_;refine dw_seq ?_;refine dwk [] TTY_ok hnt fun _ z9=>z9 _ _ ?_;refine dw_ret ?_
   exact reta rfl
set_option maxRecDepth 100000 in
set_option maxHeartbeats 400000 in
theorem grow_at (n:Nat)(m:Int)(w:World)(hnm:m=n)(hn:n≤1000000):
  Calls Tryz.prog 129 #[.slice none 0 0,.int .i64 m] w fun e w'=>∃ v,e=.returned v∧Below w.heap.size w w'∧(v=.slice none 0 0∨(v.ownBlock=some w.heap.size∧∃ g,v=.slice (some ⟨w.heap.size,0,none⟩) 0 g∧w'.ownsRow w.heap.size 106 2 v 0 [])):=by
 subst hnm
 obtain⟨i0,hi0,hz0,hz1,hz2⟩:=info_parts infoK
 by_cases h0:n=0
 ·subst h0
  go_enter Tryz.func129,Tryz.ntmps129
  go_wp2_with fail
  go_ret
  exact⟨_,rfl,Below.refl _ _,.inl rfl⟩
 ·have hr:∀ ty,(Builtin.append_ #[41,3] ty #[.slice none 0 0,.int .i64 (n:Int)]).run Tryz.prog w=_:=fun ty=>
   Lib.run_append_grow_zeros w 41 3 ty 106 i0 (.agg #[.slice none 0 0,.int .i64 0]) .i64 .i64 Tryz.underlying41 Tryz.underlying3 hi0 hz0 none 0 0 [] (run_firstCells_none _ _ _ _ _) n (by omega) (by rw[hz1];decide) (by omega) (by omega) (by rw[hz2];omega) (by rw[hz2];exact growslice_fits (by omega) (by omega))
  have hr':∃ g,n≤g∧g≤maxLen∧∀ ty,(Builtin.append_ #[41,3] ty #[.slice none 0 0,.int .i64 (n:Int)]).run Tryz.prog w=.ok (.slice (some ⟨w.heap.size,0,none⟩) n g) (w.drew.alloc (.cells (Builtin.zeroCells (#[.slice none 0 0,.int .i64 0]) n++Builtin.zeroCells (#[.slice none 0 0,.int .i64 0]) (g-n)) 106)):=by
   refine⟨grownCap w n 0 106,grownCap_ge _ _ _ _,grownCap_le_maxLen _ _ _ _ (by unfold maxLen;omega),fun ty=>?_⟩
   have:=hr ty
   simpa[Value.cells] using this
  obtain⟨g,hg1,hg2,hg⟩:=hr'
  have hg2':=hg2
  clear hg2
  clear hr
  have hn0:0<(n:Int):=by omega
  have Hg:=Lib.hid hg;clear hg
  go_enter Tryz.func129,Tryz.ntmps129
  go_wp2_with (at_builtin;refine wpList_append_eq rfl _ _ _ _ _ rfl (Hg.out _) ?_)
  go_ret
  refine⟨_,rfl,(Below.refl _ _).drew.alloc (Nat.le_refl _) _,.inr ⟨rfl,g,rfl,rfl,.inr ⟨w.heap.size,g,_,rfl,Nat.le_refl _,heap_alloc_new w.drew _,Nat.zero_le _,hg2',?_,rfl⟩⟩⟩
  first | (simp[size_zeroCells];done) | (simp[size_zeroCells];omega)
theorem grow_d (n:Int)(h0:0≤n)(h1:n≤1000000)(nm:Nat):CallN Tryz.prog 129 [.v (.slice none 0 0),.v (.int .i64 n)] [] nm [(.r nm,.rw 106 2 0)] (.sl 2 [] (some nm)):=by
 refine⟨by kernel_rfl,fun cx Fr m Im w a σ vs hn hs hv _=>?_⟩
 match vs,hv with
 | [x,y],hv=>
  have:=rel_v.1 hv.1;subst this
  have:=rel_v.1 hv.2.1;subst this
  refine(grow_at n.toNat n w (by omega) (by omega)).mono ?_
  rintro e w' ⟨v,rfl,hb,hv⟩
  rw[dropT_nil]
  rcases hv with rfl | ⟨ho,g,rfl,hr⟩
  ·have hg:(m.setR nm ⟨.slice none 0 0,0,106,2⟩).row nm=some ⟨.slice none 0 0,0,106,2⟩:=by simp[Mp.setR]
   exact⟨_,_,Im,rfl,(hs.newRow hn 106 2).below0 hb,rel_nil hg⟩
  ·obtain⟨s1,s2⟩:=hs.rowMade hn (.slice (some ⟨w.heap.size,0,none⟩) 0 g) 106 2 hb ⟨hr.1,hr.2.imp id fun⟨g,cap,cur,q1,q2,q3⟩=>⟨g,cap,cur,q1,Nat.zero_le _,q3⟩⟩ ho
   refine⟨_,_,Im,rfl,s1,?_⟩
   exact .sl _ _ 0 0 2 (fun _ _=>undef) [] (some nm) ⟨Nat.zero_le _,Nat.zero_le _⟩ (fun h=>absurd h (by simp)) (fun i _ h=>absurd h (by simp)) (fun i h=>absurd h (by simp)) (fun i _ h=>absurd h (by simp)) (fun i h=>absurd h (by simp)) fun r e=>by
    cases e;exact⟨_,by simp[Mp.setR];rfl,Nat.le_refl _,fun _=>rfl⟩
def lens:List (List Ty)→Nat
 | []=>0
 | l :: r=>l.length+lens r
theorem lens_take (ls:List (List Ty))(j:Nat)(h:j<ls.length):lens (ls.take (j+1))=lens (ls.take j)+ls[j].length:=by
 induction ls generalizing j with
 | nil=>simp at h
 | cons l r ih=>
  cases j with
  | zero=>simp[lens]
  | succ j=>simp only[List.take_succ_cons,lens,List.getElem_cons_succ];rw[ih j (by simpa using h)];omega
theorem lens_flat (ls:List (List Ty)):ls.flatten.length=lens ls:=by
 induction ls with
 | nil=>rfl
 | cons l r ih=>simp[lens,ih]
theorem lens_le (ls:List (List Ty))(j:Nat):lens (ls.take j)≤lens ls:=by
 induction ls generalizing j with
 | nil=>simp[lens]
 | cons l r ih=>
  cases j with
  | zero=>simp[lens]
  | succ j=>simp only[List.take_succ_cons,lens];have:=ih j;omega
theorem flat_take (ls:List (List Ty))(j:Nat)(h:j<ls.length):(ls.take (j+1)).flatten=(ls.take j).flatten++ls[j]:=by
 rw[List.take_add_one,List.getElem?_eq_getElem h,List.flatten_append];simp
set_option maxHeartbeats 1000000 in
theorem concat_d (ls:List (List Ty))(hl:lens ls≤900000)(hn:ls.length≤1000):PureC Tryz.prog 105 [.sl 1 (eTyss ls) none] (.sl 2 (eTys ls.flatten) none):=by
 refine calldw 0 36 [ResultVar.tmp 2] TTY_ok Tryz.func105 rfl Tryz.ntmps105 rfl fun cx hnt hn0=>?_
 ·skip
  refine dw_seq ?_;refine dwk [] TTY_ok hnt fun _ z9=>z9 _ _ ?_;refine dw_seq ?_;refine dwk [] TTY_ok hnt fun _ z9=>z9 _ _ ?_;refine dw_seq ?_;refine dw_seq ?_;refine dwk [(10,.v (.int .i64 (ls.length)))] TTY_ok hnt fun K hK=>?_;refine And.intro (dintE (by rw[eTyss_len])) ?_;refine hK _ _ ?_;clear hK K;refine dw_block ?_
  refine dw_loop (ι:=Nat) (fun j=>[(.t 0,.sl 1 (eTyss ls) none),(.t 9,.sl 1 (eTyss ls) none),(.t 10,.v (.int .i64 ls.length)),(.t 11,.v (.int .i64 (j:Int))),(.t 3,.v (.int .i64 (lens (ls.take j):Nat)))]) 0 (fun j=>ls.length-j) (0) ((VS.toK (by omega) (by repeat first | exact trivial | refine And.intro (And.intro (by first | rfl | simp[D.ok,D.oks,D.okss,D.okm,upto,keyOk,lens]) (by first | exact Or.inl rfl | exact Or.inr ⟨_,rfl,(by repeat first | exact VLe.refl _ | exact VLe.nil _ | exact VLe.untag _ _ _ | refine VLe.ag ?_ | refine VLe.tu ?_ | refine VLeL.cons ?_ ?_ | exact VLeL.nil),trivial⟩ | simp[get,Key.eq,lens])) ?_))) fun j=>?_
  by_cases hlt:j<ls.length
  ·have h1:=lens_take ls j hlt
   have h2:=lens_le ls (j+1)
   refine dw_seq ?_;refine dwk [(12,.v (.bool true))] TTY_ok hnt fun K hK=>?_;refine And.intro auT ?_;refine hK _ _ ?_;clear hK K;refine dw_seq ?_;refine dw_cond (t:=true) rfl ?_;rw[if_pos rfl];refine dw_skip ?_;refine dw_seq ?_;refine dw_block ?_;refine dw_seq ?_;refine dwk [(13,.q [.sl 2 (eTys ls[j]) none])] TTY_ok hnt fun K hK=>?_;refine And.intro (⟨by omega,by rw[eTyss_len];omega⟩) ?_
   refine And.intro (VLe.of_eq (by rw[Int.toNat_natCast,eTyss_getD ls j hlt])) ?_;refine hK _ _ ?_;clear hK K;refine dw_seq ?_;refine dwk [(18,.v (.int .i64 (↑(lens (ls.take (j+1))))))] TTY_ok hnt fun K hK=>?_;refine And.intro (dintE (by rw[eTys_len,IntWalk.i64_in _ (by omega)];omega)) ?_;refine hK _ _ ?_;clear hK K;refine dw_seq ?_;refine dwk [(20,.v (.bool false))] TTY_ok hnt fun K hK=>?_
   refine And.intro auF ?_;refine hK _ _ ?_;clear hK K;refine dw_cond (t:=false) rfl ?_;rw[if_neg (by simp)];refine dw_skip ?_;refine dwk [(22,.v (.int .i64 (↑(j+1))))] TTY_ok hnt fun K hK=>?_;refine And.intro auI ?_;refine hK _ _ ?_;clear hK K
   refine⟨j+1,by first | omega | (dsimp only;omega),VS.toA⟩
  ·have h3:ls.take j=ls:=List.take_of_length_le (by omega)
   have hg:=grow_d (lens (ls.take j):Nat) (by omega) (by rw[h3];omega)
   rw[h3] at hg ⊢
   refine dw_seq ?_;refine dwk [(12,.v (.bool false))] TTY_ok hnt fun K hK=>?_;refine And.intro auF ?_;refine hK _ _ ?_;clear hK K;refine dw_seq ?_;refine dw_cond (t:=false) rfl ?_;rw[if_neg (by simp)];refine dw_exit ?_;refine dw_seq ?_;refine dwk [] TTY_ok hnt fun K hK=>?_;refine dcn (hg _) ?_;refine hK _ _ ?_;clear hK K;refine dw_seq ?_;refine dw_seq ?_;refine dwk [(26,.v (.int .i64 (ls.length)))] TTY_ok hnt fun K hK=>?_
   refine And.intro (dintE (by rw[eTyss_len])) ?_;refine hK _ _ ?_;clear hK K;refine dw_block ?_
   refine dw_loop (ι:=Nat) (fun j=>[(.t 25,.sl 1 (eTyss ls) none),(.t 26,.v (.int .i64 ls.length)),(.t 27,.v (.int .i64 (j:Int))),(.t 6,.sl 2 (eTys (ls.take j).flatten) (some 2)),(.r 2,.rw 106 2 (ls.take j).flatten.length)]) 3 (fun j=>ls.length-j) (0) (VS.toA) fun i=>?_
   by_cases hli:i<ls.length
   ·have h4:=lens_take ls i hli
    have h5:=lens_le ls (i+1)
    have h6:=flat_take ls i hli
    have h7:=lens_flat (ls.take i)
    refine dw_seq ?_;refine dwk [(28,.v (.bool true))] TTY_ok hnt fun K hK=>?_;refine And.intro auT ?_;refine hK _ _ ?_;clear hK K;refine dw_seq ?_;refine dw_cond (t:=true) rfl ?_;rw[if_pos rfl];refine dw_skip ?_;refine dw_seq ?_;refine dw_block ?_;refine dw_seq ?_;refine dwk [(29,.q [.sl 2 (eTys ls[i]) none])] TTY_ok hnt fun K hK=>?_;refine And.intro (⟨by omega,by rw[eTyss_len];omega⟩) ?_
    refine And.intro (VLe.of_eq (by rw[Int.toNat_natCast,eTyss_getD ls i hli])) ?_;refine hK _ _ ?_;clear hK K;refine dwk [(33,.sl 2 (eTys (ls.take (i+1)).flatten) (some 2))] TTY_ok hnt fun K hK=>?_;refine And.intro (⟨by rw[eTys_len],by rw[eTys_len,eTys_len,h7];omega⟩) ?_;refine And.intro (VLe.of_eq (by rw[h6,eTys_append])) ?_;refine hK _ _ ?_;clear hK K;refine dwk [(34,.v (.int .i64 (↑(i+1))))] TTY_ok hnt fun K hK=>?_
    refine And.intro auI ?_;refine hK _ _ ?_;clear hK K
    have h8:(eTys (ls.take i).flatten++eTys ls[i]).length=(ls.take (i+1)).flatten.length:=by rw[h6,←eTys_append,eTys_len]
    refine⟨i+1,by first | omega | (dsimp only;omega),(by try simp only[List.length_append,List.length_take,List.length_cons,List.length_nil,Nat.zero_add,h8];exact VS.toA)⟩
   ·have h9:ls.take i=ls:=List.take_of_length_le (by omega)
    rw[h9]
    refine dw_seq ?_;refine dwk [(28,.v (.bool false))] TTY_ok hnt fun K hK=>?_;refine And.intro auF ?_;refine hK _ _ ?_;clear hK K;refine dw_seq ?_;refine dw_cond (t:=false) rfl ?_;rw[if_neg (by simp)];refine dw_exit ?_;refine dw_seq ?_;refine dwk [] TTY_ok hnt fun _ z9=>z9 _ _ ?_;refine dw_ret ?_
    exact reta rfl
theorem arrow_d (t:Ty)(l:List Ty)(hl:Ty.sizes l+t.size≤900000):PureC Tryz.prog 127 [.ag (eTy t),.sl 2 (eTys l) none] (.ag (eTy (.mk (l++t.args) t.base))):=by
 have h1:=Ty.le_sizes l
 have h2:t.size=Ty.sizes t.args+1:=by obtain⟨a,b⟩:=t;exact ty_size a b
 have h3:=Ty.le_sizes t.args
 have hcat:=concat_d [l,t.args] (by simp[lens];omega) (by simp)
 simp only[List.flatten_cons,List.flatten_nil,List.append_nil] at hcat
 have hco:=kcopied_d (.mk (l++t.args) t.base) (by rw[ty_size,Ty.sizes_append];omega)
 rw[eTy_eq] at hco ⊢
 rw[eTy_eq]
 simp only[args_mk',base_mk'] at hco ⊢
 refine calldw 0 14 [ResultVar.cell 4 106] TTY_ok Tryz.func127 rfl Tryz.ntmps127 rfl fun cx hnt hn0=>?_
 ·skip
  refine dw_seq ?_;refine dwk [] TTY_ok hnt fun _ z9=>z9 _ _ ?_;refine dw_seq ?_;refine dwkD [(8,.sl 1 (eTyss [l,t.args]) none)] TTY_ok hnt fun K hK=>?_;refine And.intro (VLe.untag _ _ _) ?_;refine dcl (hcat) ?_;refine dcl (hco) ?_;refine hK _ _ (by kernel_rfl) ?_;clear hK K;refine dw_ret ?_
  exact reta rfl
theorem kOf_d (b:Int)(l:List Ty)(hl:Ty.sizes l≤900000):PureC Tryz.prog 41 [.v (.int .i64 b),.sl 2 (eTys l) none] (.ag (eTy (.mk l b))):=by
 have hco:=kcopied_d (.mk l b) (by rw[ty_size];omega)
 rw[eTy_eq] at hco ⊢
 simp only[args_mk',base_mk'] at hco ⊢
 refine calldw 0 9 [ResultVar.cell 4 106] TTY_ok Tryz.func41 rfl Tryz.ntmps41 rfl fun cx hnt hn0=>?_
 ·skip
  refine dw_seq ?_;refine dwk [] TTY_ok hnt fun _ z9=>z9 _ _ ?_;refine dw_seq ?_;refine dwk [] TTY_ok hnt fun K hK=>?_;refine dcl (hco) ?_;refine hK _ _ ?_;clear hK K;refine dw_ret ?_
  exact reta rfl
theorem pure_below {P:Program}{f:FuncId}(hf:entersB P f=true){ds:List D}{V:D} 
  (h:∀ (m:Mp) (Im:Nat→Nat→Prop) (w:World) (vs:List Value),RelL m Im w vs ds→Calls P f vs.toArray w fun e w'=>∃ v,e=.returned v∧Below w.heap.size w w'∧∀ Im':Nat→Nat→Prop,(∀ b o,Im b o→Im' b o)→(∀ b o v,w.heap.size≤b→w'.cell? ⟨b,o,none⟩=some v→Im' b o)→Rel m Im' w' v V):PureC P f ds V:=by
 refine⟨hf,fun cx Fr m Im w vs hmem hargs _=>(h m Im w vs hargs).mono ?_⟩
 rintro e w' ⟨v,rfl,hb,hr⟩
 refine⟨v,fun b o=>Im b o∨(w.heap.size≤b∧∃ v,w'.cell? ⟨b,o,none⟩=some v),rfl,⟨hb.os,hb.tape,hb.output,hb.size,fun b hl _=>hb.block b hl⟩,fun b o h=>.inl h,fun b o h=>h.imp id fun h=>h.1,fun b o hi=>?_,fun k b o hk=>?_,hr _ (fun b o h=>.inl h) fun b o v h1 h2=>.inr ⟨h1,v,h2⟩,nofun⟩
 ·rcases hi with hi | hi
  ·obtain⟨v,hv⟩:=hmem.im b o hi
   exact⟨v,(hb.cell (p:=⟨b,o,none⟩) (ltOfCell hv)).trans hv⟩
  ·exact hi.2
 ·exact(World.frozen?_of_block (a:=⟨b,o,none⟩) (hb.block b (hmem.lt k b hk))).trans (hmem.free k b o hk)
theorem agTm {m:Mp}{Im:Nat→Nat→Prop}{w:World}{x:Value}{t:Tm}(h:Rel m Im w x (.ag (eTm t))):∃ b k i a,x=.agg #[b,k,i,a]∧IsTm (blkI Im) w b k i a t:=by
 obtain⟨cs,rfl,hr⟩:=rel_ag.1 h
 obtain⟨b,k,i,a,rfl,ht⟩:=tm_of_rel t hr
 exact⟨b,k,i,a,rfl,ht⟩
def TCP_62:TI:=⟨4,true,[Value.slice none 0 0,Value.int IntKind.i64 0,Value.int IntKind.i64 0,Value.slice none 0 0],[(0,1,false),(1,2,true),(3,1,false)],none,64,6,none,false⟩
theorem TCP_62_ok:TypOk Tryz.prog 62 TCP_62:=by constructor <;> kernel_rfl
def TCP_3:TI:=⟨1,false,[Value.int IntKind.i64 0],[],none,8,2,none,false⟩
theorem TCP_3_ok:TypOk Tryz.prog 3 TCP_3:=by constructor <;> kernel_rfl
def TCP_60:TI:=⟨1,false,[Value.slice none 0 0],[],some 62,24,5,none,false⟩
theorem TCP_60_ok:TypOk Tryz.prog 60 TCP_60:=by constructor <;> kernel_rfl
def TCP_59:TI:=⟨2,true,[Value.int IntKind.i64 0,Value.int IntKind.i64 0],[(0,1,false),(1,1,false)],none,16,6,none,true⟩
theorem TCP_59_ok:TypOk Tryz.prog 59 TCP_59:=by constructor <;> kernel_rfl
def TCP_41:TI:=⟨1,false,[Value.slice none 0 0],[],some 106,24,5,none,false⟩
theorem TCP_41_ok:TypOk Tryz.prog 41 TCP_41:=by constructor <;> kernel_rfl
def TCP_106:TI:=⟨2,true,[Value.slice none 0 0,Value.int IntKind.i64 0],[(0,1,false),(1,1,false)],none,32,6,none,false⟩
theorem TCP_106_ok:TypOk Tryz.prog 106 TCP_106:=by constructor <;> kernel_rfl
def TCP_206:TI:=⟨1,false,[Value.nilFunc],[],none,8,8,none,false⟩
theorem TCP_206_ok:TypOk Tryz.prog 206 TCP_206:=by constructor <;> kernel_rfl
def TCP:List (Nat×TI):=[(62,TCP_62),(3,TCP_3),(60,TCP_60),(59,TCP_59),(41,TCP_41),(106,TCP_106),(206,TCP_206)]
theorem TCP_ok:TabOk Tryz.prog TCP:=((((((((TabOk.nil _).cons TCP_206_ok).cons TCP_106_ok).cons TCP_41_ok).cons TCP_59_ok).cons TCP_60_ok).cons TCP_3_ok).cons TCP_62_ok)
theorem cEms_snoc (l:List Tm)(j:Nat)(h:j<l.length):eTms (l.take j)++[[.sl 2 (eTys l[j].binds) none,.v (.int .i64 l[j].kind),.v (.int .i64 l[j].index),.sl 4 (eTms l[j].args) none]]=eTms (l.take (j+1)):=by
 rw[←eTm_eq,List.take_add_one,List.getElem?_eq_getElem h,Option.toList_some,eTms_map,eTms_map,List.map_append];rfl
theorem copy1_d (x:Int):PureC Tryz.prog 119 [.v (.int .i64 x)] (.v (.int .i64 x)):=by
 refine calldw 0 4 [ResultVar.tmp 2] TCP_ok Tryz.func119 rfl Tryz.ntmps119 rfl fun cx hnt hn0=>?_
 ·skip
  refine dw_seq ?_;refine dwk [] TCP_ok hnt fun _ z9=>z9 _ _ ?_;refine dw_seq ?_;refine dwk [] TCP_ok hnt fun _ z9=>z9 _ _ ?_;refine dw_ret ?_
  exact reta rfl
theorem cFulls_len (l:List Tm):l.length≤Tm.fulls l:=by
 induction l with
 | nil=>simp
 | cons u l ih=>
  have:1≤u.full:=by obtain⟨b,k,i,a⟩:=u;rw[Tm.full_eq];omega
  simp only[List.length_cons,Tm.fulls];omega
theorem turnedD_d:∀ t:Tm,∀ ins:Int,0≤ins→ins+t.full≤900000→t.Fit→PureC Tryz.prog 118 [.ag (eTm t),.v (.int .i64 ins),.fn 119 []] (.ag (eTm t)):=by
 intro t
 induction t using Tm.ind with
 | h bs k i ar ih=>
  intro ins h0 hz hft
  rw[Tm.full_eq] at hz
  have hbl:=Ty.le_sizes bs
  obtain⟨hi0,hi1,_⟩:=Tm.fit_iff.1 hft
  have hs1:(Ty.mk [] 0).size=1:=by simp[Ty.size,Ty.sizes]
  have harr:=arrow_d (.mk [] 0) bs (by omega)
  dsimp only[Ty.args,Ty.base] at harr
  rw[List.append_nil,eTy_eq,eTy_eq] at harr
  dsimp only[Ty.args,Ty.base,eTys] at harr
  have hal:=cFulls_len ar
  rw[eTm_eq]
  dsimp only[Tm.binds,Tm.kind,Tm.index,Tm.args]
  obtain⟨n,hn⟩:∃ n:Int,n=ins+bs.length:=⟨_,rfl⟩
  refine calldw 0 63 [ResultVar.cell 6 62] TCP_ok Tryz.func118 rfl Tryz.ntmps118 rfl fun cx hnt hn0=>?_
  ·skip
   refine dw_seq ?_;refine dwk [] TCP_ok hnt fun _ z9=>z9 _ _ ?_;refine dw_seq ?_;refine dwk [(14,.v (.int .i64 (n)))] TCP_ok hnt fun K hK=>?_;refine And.intro (dintE (by rw[eTys_len,IntWalk.i64_in _ (by omega)];omega)) ?_;refine hK _ _ ?_;clear hK K;refine dw_seq ?_;refine dwkD [(15,.ag [.sl 2 [] none,.v (.int .i64 0)])] TCP_ok hnt fun K hK=>?_;refine And.intro (auV) ?_
   refine dcl (harr) ?_;refine hK _ _ (by kernel_rfl) ?_;clear hK K
   refine dw_cut (τ:=[(.t 1,.v (.int .i64 n)),(.t 2,.fn 119 []),(.t 3,.p 0 0),(.t 6,.p 1 0),(.t 7,.p 16 0),(.c 0 0,.sl 2 (eTys bs) none),(.c 0 1,.v (.int .i64 k)),(.c 0 2,.v (.int .i64 i)),(.c 0 3,.sl 4 (eTms ar) none),(.c 1 0,.v (.slice none 0 0)),(.c 1 1,.v (.int .i64 0)),(.c 1 2,.v (.int .i64 0)),(.c 1 3,.v (.slice none 0 0)),(.c 16 0,.sl 2 (eTys bs) none),(.c 16 1,.v (.int .i64 k)),(.c 16 2,.v (.int .i64 i)),(.c 16 3,.v (.slice none 0 0))]) (N1:=17) ?_ ?_
   ·by_cases hk:k=0
    ·by_cases hge:i≥n
     ·have hc1:=copy1_d (i-n)
      refine dw_seq ?_;refine dwk [(26,.v (.bool true)),(32,.v (.bool true))] TCP_ok hnt fun K hK=>?_;refine And.intro (VLe.of_eq (by simp[hk])) ?_;refine And.intro auT ?_;refine hK _ _ ?_;clear hK K;refine dw_cond (t:=true) rfl ?_;rw[if_pos rfl];refine dwk [(40,.v (.int .i64 ((i-n)))),(42,.v (.int .i64 (i)))] TCP_ok hnt fun K hK=>?_;refine And.intro (dintE (by exact IntWalk.i64_in _ (by omega))) ?_
      refine dcl (hc1) ?_;refine And.intro (dintE (by (rw[show n+(i-n)=i by omega];exact IntWalk.i64_in _ (by omega)))) ?_;refine hK _ _ ?_;clear hK K
      exact cut_ok VS.toA
     ·skip
      refine dw_seq ?_;refine dwk [(26,.v (.bool true)),(32,.v (.bool false))] TCP_ok hnt fun K hK=>?_;refine And.intro (VLe.of_eq (by simp[hk])) ?_;refine And.intro auF ?_;refine hK _ _ ?_;clear hK K;refine dw_cond (t:=false) rfl ?_;rw[if_neg (by simp)];refine dw_skip ?_
      exact cut_ok VS.toA
    ·skip
     refine dw_seq ?_;refine dwk [(26,.v (.bool false))] TCP_ok hnt fun K hK=>?_;refine And.intro (VLe.of_eq (by simp[hk])) ?_;refine hK _ _ ?_;clear hK K;refine dw_cond (t:=false) rfl ?_;rw[if_neg (by simp)];refine dw_skip ?_
     exact cut_ok VS.toA
   ·refine DW.vs (VS.row (k:=16) (off:=3) 62 4 rfl) ?_
    refine dw_seq ?_;refine dw_seq ?_;refine dwk [(47,.v (.int .i64 (↑ar.length)))] TCP_ok hnt fun K hK=>?_;refine And.intro (dintE (by rw[eTms_len])) ?_;refine hK _ _ ?_;clear hK K;refine dw_block ?_
    refine dw_loop (ι:={ j:Nat // j≤ar.length }) (fun j=>[(.t 1,.v (.int .i64 n)),(.t 2,.fn 119 []),(.t 6,.p 1 0),(.t 7,.p 16 0),(.t 46,.sl 4 (eTms ar) none),(.t 47,.v (.int .i64 ↑ar.length)),(.t 48,.v (.int .i64 ↑j.1)),(.c 1 0,.v (.slice none 0 0)),(.c 1 1,.v (.int .i64 0)),(.c 1 2,.v (.int .i64 0)),(.c 1 3,.v (.slice none 0 0)),(.c 16 0,.sl 2 (eTys bs) none),(.c 16 1,.v (.int .i64 k)),(.c 16 2,.v (.int .i64 i)),(.c 16 3,.sl 4 (eTms (ar.take j.1)) (some 17)),(.r 17,.rw 62 4 j.1)]) 18 (fun j=>ar.length-j.1) (⟨0,Nat.zero_le _⟩) (VS.toA) fun j=>?_
    obtain⟨j,hj⟩:=j
    dsimp only
    by_cases hlt:j<ar.length
    ·have hmem:=List.getElem_mem hlt
     have hsz:=Tm.full_mem hmem
     have hc:=ih _ hmem n (by omega) (by omega) ((Tm.fit_iff.1 hft).2.2 _ hmem)
     rw[eTm_eq] at hc
     have hl1:(eTms (ar.take j)).length=j:=by rw[eTms_len,List.length_take];omega
     have hl2:(eTms (ar.take (j+1))).length=j+1:=by rw[eTms_len,List.length_take];omega
     refine dw_seq ?_;refine dwk [(49,.v (.bool true))] TCP_ok hnt fun K hK=>?_;refine And.intro auT ?_;refine hK _ _ ?_;clear hK K;refine dw_seq ?_;refine dw_cond (t:=true) rfl ?_;rw[if_pos rfl];refine dw_skip ?_;refine dw_seq ?_;refine dw_block ?_;refine dw_seq ?_;refine dwk [(50,.q [.sl 2 (eTys ar[j].binds) none,.v (.int .i64 ar[j].kind),.v (.int .i64 ar[j].index),.sl 4 (eTms ar[j].args) none])] TCP_ok hnt fun K hK=>?_
     refine And.intro (elo (eTms_len ar)) ?_;refine And.intro (elv (eTms_getD ar j) (eTm_eq _)) ?_;refine hK _ _ ?_;clear hK K;refine dwkD [] TCP_ok hnt fun K hK=>?_;refine dcl (hc) ?_;refine And.intro (⟨by omega,by rw[hl1];simp;omega⟩) ?_;refine hK _ _ (by kernel_rfl) ?_;clear hK K
     rw[cEms_snoc ar j hlt,hl2]
     refine dwk [(61,.v (.int .i64 (↑(j+1))))] TCP_ok hnt fun K hK=>?_;refine And.intro auI ?_;refine hK _ _ ?_;clear hK K
     refine⟨⟨j+1,hlt⟩,by first | omega | (dsimp only;omega),VS.toA⟩
    ·rw[List.take_of_length_le (by omega)]
     refine dw_seq ?_;refine dwk [(49,.v (.bool false))] TCP_ok hnt fun K hK=>?_;refine And.intro auF ?_;refine hK _ _ ?_;clear hK K;refine dw_seq ?_;refine dw_cond (t:=false) rfl ?_;rw[if_neg (by simp)];refine dw_exit ?_;refine dw_seq ?_;refine dwk [] TCP_ok hnt fun _ z9=>z9 _ _ ?_;refine dw_ret ?_
     exact reta rfl
theorem copyW_d (t:Tm)(hsz:t.full≤900000)(hfit:t.Fit):PureC Tryz.prog 96 [.ag (eTm t)] (.ag (eTm t)):=by
 have h:=turnedD_d t 0 (Int.le_refl _) (by omega) hfit
 rw[eTm_eq] at h ⊢
 refine calldw 0 5 [ResultVar.cell 2 62] TCP_ok Tryz.func96 rfl Tryz.ntmps96 rfl fun cx hnt hn0=>?_
 ·skip
  refine dw_seq ?_;refine dwk [] TCP_ok hnt fun _ z9=>z9 _ _ ?_;refine dw_seq ?_;refine dwk [] TCP_ok hnt fun K hK=>?_;refine dcl (h) ?_;refine hK _ _ ?_;clear hK K;refine dw_ret ?_
  exact reta rfl
def Mild {β:Type}(Ok:Obj→Prop)(B:Nat)(J:β→World→Prop):Prop:=
 ∀ s W W' row,J s W→W.grownBy W' row→(∀ r,row=some r→B≤r∧∃ o:Obj,W.heap[r]?=some o∧Ok o)→J s W'
section
variable {β:Type} {Ok:Obj→Prop} {B:Nat} {I I':β→World→Prop}
theorem Mild.and (h:Mild Ok B I)(h':Mild Ok B I'):Mild Ok B (fun s W=>I s W∧I' s W):=fun s W W' row hs hg hr=>⟨h s W W' row hs.1 hg hr,h' s W W' row hs.2 hg hr⟩
theorem Mild.alloc (h:Mild Ok B I){s:β}{W:World}(hs:I s W)(o:Obj):I s (W.alloc o):=h s W _ none hs (World.grownBy_alloc W o none) (fun r e=>by cases e)
theorem Mild.put (h:Mild Ok B I)(hOk:∀ o:Obj,o.isCells=false→Ok o){s:β}{W:World}(hs:I s W){l:Nat}{o:Obj}(o':Obj)(hl:W.heap[l]?=some o)(ho:o.isCells=false)(hB:B≤l):I s (W.putObj l o'):=
 h s W _ _ hs (grownBy_putObj' W l o') (fun r e=>by cases e;exact⟨hB,o,hl,hOk o ho⟩)
theorem Mild.up {B':Nat}(h:Mild Ok B I)(hB:B≤B'):Mild Ok B' I:=fun s W W' row hs hg hr=>h s W W' row hs hg fun r e=>⟨Nat.le_trans hB (hr r e).1,(hr r e).2⟩
theorem mild_block {k:Nat}{o:Obj}(hk:k<B):Mild Ok B (fun(_:β) W=>W.heap[k]?=some o):=fun _ W _ row hs hg hr=>(hg.block k (Array.getElem?_eq_some_iff.1 hs).1 (fun e=>by have:=(hr k e.symm).1;omega)).trans hs
theorem mild_below {n0:Nat}{w0:World}(hn:n0≤w0.heap.size)(hB:n0≤B):Mild Ok B (fun(_:β) W=>Below n0 w0 W):=fun _ _ _ _ hs hg hr=>hs.grown hg (Nat.le_trans hn hs.size) (fun k e=>Nat.le_trans hB (hr k e).1)
end
def SeqSoft {α:Type}(Ok:Obj→Prop)(F:Fence)(n:Nat)(P:Program)(g:Nat)(lb:Array Value)(encs:α→Array Value)(Kp:World→World→Prop)(S Sp:List α→Prop)(N:Nat)(w:World):Prop:=
 ∀ (l:Nat) (J Jx:List α→World→Prop) (W:World),Below w.heap.size w W→Mild Ok W.heap.size J→Mild Ok W.heap.size Jx →
  (∀ pre x V,J pre V→pre.length<N→YieldAt F (n-1) P l (encs x) V fun e V'=>(e=.returned (.bool true)∧J (pre++[x]) V'∧Kp V V')∨(e=.returned (.bool false)∧Jx (pre++[x]) V')) →
  J [] W→CallsIn F n P g (#[.func (.yield l) #[] #[]]++lb) W fun e W'=>(∃ v,e=.returned v)∧((∃ xs,S xs∧J xs W')∨(∃ pre,Sp pre∧Jx pre W'))
theorem range_softA {Ok : Obj → Prop} (hOk : ∀ o : Obj, o.isCells = false → Ok o) {F : Fence} {n : Nat} {P : Program} {α : Type} {g : Operand} {ps : Array Tmp} {assign body : Code} {Q : Exit → Act → World → Prop} {a : Act} {w : World}
    (hro : F.round = none) (hn : 1 ≤ n) {gf : Nat} {lb : Array Value} (hg : a.eval g = .func (.func gf) #[] lb) (hF : F.fn gf) (eg : ∀ args w, (callFunc gf args).run P w = .ok (.enter gf args) w)
    {encs : α → Array Value} {Kp : World → World → Prop} {S Sp : List α → Prop} {N : Nat} {w0 : World} (hseq : SeqSoft Ok F (n - 1) P gf lb encs Kp S Sp N w0)
    (hKt : ∀ {X Y Z : World}, Kp X Y → Kp Y Z → Kp X Z) (hKb : ∀ (W : World) (l : Nat) (o o' : Obj), w.heap.size ≤ l → W.heap[l]? = some o → o.isCells = false → o.isWalk = false → Kp W (W.putObj l o')) (hw0 : Below w0.heap.size w0 w) (hps : ∀ x, (encs x).size = ps.size)
    (I : List α → World → Prop) (Ix : Code → List α → World → Prop) (hI : Mild Ok w.heap.size I) (hIx : ∀ c, Mild Ok w.heap.size (Ix c)) (h0 : I [] w) (Ra : α → Act → World → Prop) (hRa : ∀ x a' W l (o o' : Obj), w.heap.size ≤ l → W.heap[l]? = some o → o.isCells = false → Ra x a' W → Ra x a' (W.putObj l o'))
    (hassign : ∀ (l : Nat) (pre : List α) (x : α) (W : World) (K : Act → World → Prop), I pre W → (∀ a' W', KeepsFrom w.heap.size W W' → Kp W W' → I pre W' → Ra x a' W' → K a' W') →
      assign.wpIn (F.inRound l) (n - 1 - 1) P (Exit.then K (fun _ _ _ => False)) { tmps := (ps.zip (encs x)).foldl (fun t (p, v) => t.setIfInBounds p v) a.tmps, defers := [] } W)
    (hbody : ∀ (l : Nat) (pre : List α) (x : α) (a' : Act) (W : World), I pre W → pre.length < N → Ra x a' W → body.wpIn (F.inRound l) (n - 1 - 1) P (ownPostG w.heap.size Kp I Ix (pre ++ [x]) W) a' W)
    (hdone : ∀ (D : Nat) (xs : List α) (W : World), w.heap.size ≤ D → S xs → I xs W → W.heap[D]? = some (.deferred (some [])) → Q .normal { a with defers := { target := .collected D, args := #[] } :: a.defers } W)
    (hstop : ∀ (D : Nat) (c : Code) (pre : List α) (W : World), w.heap.size ≤ D → Sp pre → Ix c pre W → W.heap[D]? = some (.deferred (some [])) → c.wpIn F n P Q { a with defers := { target := .collected D, args := #[] } :: a.defers } W) :
    (Code.rangeFunc g ps assign body).wpIn F n P Q a w := by
  refine wpIn_rangeFunc fun fn hfn => ?_
  rw [hro]
  let L : LoopState → Option Code → Obj := fun st pe => .loop { state := st, pending := pe, fn, tmps := a.tmps, params := ps, assign, body, defers := w.heap.size }
  let D : Obj := .deferred (some [])
  obtain ⟨W1, hW1⟩ : ∃ W1, (w.alloc D).alloc (L .ready none) = W1 := ⟨_, rfl⟩
  have hz : W1.heap.size = w.heap.size + 2 := by rw [← hW1]; simp
  have hL : W1.heap[w.heap.size + 1]? = some (L .ready none) := by rw [← hW1]; have h := World.alloc_heap_new (w.alloc D) (L .ready none); rwa [World.size_alloc] at h
  have hD : W1.heap[w.heap.size]? = some D := by rw [← hW1]; exact (Below.heap_alloc _ _ _ (by simp)).trans (World.alloc_heap_new w D)
  refine ⟨w.heap.size + 1, [{ target := .collected w.heap.size, args := #[] }], W1, { target := .fn (.func gf) lb, args := #[.func (.yield (w.heap.size + 1)) #[] #[]] }, W1, gf,
    #[.func (.yield (w.heap.size + 1)) #[] #[]] ++ lb, W1, by rw [← hW1]; exact run_enterLoop_outer _ _ _ _ _, by simp only [resolve, hg]; simp [go_sem], ?_, by simp [invoke, go_sem, eg], fun _ => hn, ?_⟩
  · intro f' hf'; simp [Target.leads] at hf'; subst hf'; exact hF
  have up : ∀ {β : Type} {J : β → World → Prop}, Mild Ok w.heap.size J → Mild Ok W1.heap.size J := fun h => h.up (by omega)
  have m1 : ∀ (o : Obj), Mild Ok W1.heap.size (fun (_ : List α) W => W.heap[w.heap.size + 1]? = some o) := fun o => mild_block (by omega)
  have m0 : Mild Ok W1.heap.size (fun (_ : List α) W => W.heap[w.heap.size]? = some D) := mild_block (by omega)
  refine (hseq (w.heap.size + 1)
    (fun pre W => I pre W ∧ W.heap[w.heap.size + 1]? = some (L .ready none) ∧ W.heap[w.heap.size]? = some D)
    (fun pre W => ∃ c, Ix c pre W ∧ W.heap[w.heap.size + 1]? = some (L .done (some c)) ∧ W.heap[w.heap.size]? = some D) W1
    (by rw [← hW1]; exact hw0.trans ((((Below.refl _ w).alloc (Nat.le_refl _) _).alloc (by simp) _).mono hw0.size))
    ((up hI).and ((m1 _).and m0)) (fun s A B row ⟨c, h1, h2, h3⟩ hgr hr => ⟨c, up (hIx c) s A B row h1 hgr hr, m1 _ s A B row h2 hgr hr, m0 s A B row h3 hgr hr⟩)
    ?_ ⟨by rw [← hW1]; exact hI.alloc (hI.alloc h0 _) _, hL, hD⟩).mono ?_
  · -- a round
    rintro pre x V0 ⟨hi0, hl0, hd0⟩ hlen
    refine ⟨fn, _, assign, body, run_yield (P := P) (args := encs x) hl0 (hps x), roundIn_of_wpIn hfn (hassign _ pre x V0 _ hi0 fun a' V hkf hkp0 hi hra => ?_)⟩
    have hl := hkf.same _ _ (by omega) hl0 rfl
    have hd := hkf.same _ _ (Nat.le_refl _) hd0 rfl
    have hlt : w.heap.size + 1 < V.heap.size := (Array.getElem?_eq_some_iff.1 hl).1
    refine ⟨_, run_beginRound hl rfl, ?_⟩
    obtain ⟨V2, hV2⟩ : ∃ V2, V.putObj (w.heap.size + 1) (L .busy none) = V2 := ⟨_, rfl⟩
    have hl2 : V2.heap[w.heap.size + 1]? = some (L .busy none) := by rw [← hV2]; exact World.putObj_heap_same hlt
    have hd2 : V2.heap[w.heap.size]? = some D := by rw [← hV2]; exact (World.putObj_heap_other (by omega)).trans hd
    have hk2 : Kp V0 V2 := by rw [← hV2]; exact hKt hkp0 (hKb _ _ _ _ (by omega) hl rfl rfl)
    have hi2 : I pre V2 := by rw [← hV2]; exact hI.put hOk hi _ hl rfl (by omega)
    have hra2 : Ra x a' V2 := by rw [← hV2]; exact hRa _ _ _ _ _ _ (by omega) hl rfl hra
    show Code.wpIn _ _ _ _ _ _ (V.putObj (w.heap.size + 1) (L .busy none))
    rw [hV2]
    clear hV2 hl hd hi hlt
    refine wpIn_mono (hbody _ pre x a' V2 hi2 hlen hra2) ?_
    have fin : ∀ (jump : Option Code) (V3 : World), KeepsFrom w.heap.size V2 V3 → V3.heap[w.heap.size + 1]? = some (L .busy none) ∧ ∃ V4, V4 = V3.putObj (w.heap.size + 1) (L (if jump.isNone then .ready else .done) jump) ∧
        (Instr.endRound (w.heap.size + 1) jump).run P V3 = .ok (.bool jump.isNone) V4 ∧ V4.heap[w.heap.size + 1]? = some (L (if jump.isNone then .ready else .done) jump) ∧ V4.heap[w.heap.size]? = some D := fun jump V3 hk => by
      have h1 := hk.same _ _ (by omega) hl2 rfl
      exact ⟨h1, _, rfl, run_endRound (P := P) jump h1, World.putObj_heap_same (Array.getElem?_eq_some_iff.1 h1).1, (World.putObj_heap_other (by omega)).trans (hk.same _ _ (Nat.le_refl _) hd2 rfl)⟩
    have out : ∀ (c : Code) (V3 : World), KeepsFrom w.heap.size V2 V3 → Ix c (pre ++ [x]) V3 → ∃ r V4, (Instr.endRound (w.heap.size + 1) (some c)).run P V3 = .ok r V4 ∧ (Ending.returned r = .returned (.bool false) ∧ ∃ c, Ix c (pre ++ [x]) V4 ∧ V4.heap[w.heap.size + 1]? = some (L .done (some c)) ∧ V4.heap[w.heap.size]? = some D) := fun c V3 hk hi => by
      obtain ⟨h3, V4, rfl, hr, h4, h5⟩ := fin (some c) V3 hk
      exact ⟨_, _, hr, rfl, c, (hIx c).put hOk hi _ h3 rfl (by omega), h4, h5⟩
    rintro e a3 V3 hp
    cases e with
    | normal =>
      obtain ⟨hk, hkp, hi⟩ := hp
      obtain ⟨h3, V4, rfl, hr, h4, h5⟩ := fin none V3 hk
      exact ⟨_, _, hr, .inl ⟨rfl, ⟨hI.put hOk hi _ h3 rfl (by omega), h4, h5⟩, hKt (hKt hk2 hkp) (hKb _ _ _ _ (by omega) h3 rfl rfl)⟩⟩
    | ret => obtain ⟨r, V4, hr, h⟩ := out .ret V3 hp.1 hp.2; exact ⟨r, V4, hr, .inr h⟩
    | exit id => obtain ⟨r, V4, hr, h⟩ := out (.exit id) V3 hp.1 hp.2; exact ⟨r, V4, hr, .inr h⟩
    | goto t => obtain ⟨r, V4, hr, h⟩ := out (.goto t) V3 hp.1 hp.2; exact ⟨r, V4, hr, .inr h⟩
    | panic ch => exact hp.elim
    | outgrown => exact hp.elim
  · -- behind the iterator
    rintro e W2 ⟨⟨v, rfl⟩, ⟨xs, hS, hi, hl, hd⟩ | ⟨pre, hSp, c, hi, hl, hd⟩⟩
    · exact ⟨none, _, run_endLoop (P := P) hl (by simp), hdone _ xs _ (Nat.le_refl _) hS (hI.put hOk hi _ hl rfl (by omega)) ((World.putObj_heap_other (by omega)).trans hd)⟩
    · exact ⟨some c, _, run_endLoop (P := P) hl (by simp), hstop _ c pre _ (Nat.le_refl _) hSp ((hIx c).put hOk hi _ hl rfl (by omega)) ((World.putObj_heap_other (by omega)).trans hd)⟩
end Go.Proofs.YtclihnccilkohaaGreat
namespace Go.Proofs.YtclihnccilkohaaGreat
open Go.RowKit Go.Shelf
attribute [local go_sem] Oper.semAt_some
namespace Tm
mutual
def pre:Tm→Nat→Nat→List (Nat×Nat×Tm)
 | .mk b k i a,s,d=>(s+b.length,d,.mk b k i a) :: pres a (s+b.length) (d+1)
def pres:List Tm→Nat→Nat→List (Nat×Nat×Tm)
 | [],_,_=>[]
 | t :: l,s,d=>pre t s d++pres l s d
end
theorem pre_eq (b:List Ty)(k i:Int)(a:List Tm)(s d:Nat):pre (.mk b k i a) s d=(s+b.length,d,.mk b k i a) :: pres a (s+b.length) (d+1):=by rw[pre]
theorem pres_append (l r:List Tm)(s d:Nat):pres (l++r) s d=pres l s d++pres r s d:=by
 induction l with
 | nil=>simp[pres]
 | cons t l ih=>simp[pres,ih]
theorem pres_take (l:List Tm)(i s d:Nat)(h:i<l.length):pres (l.take (i+1)) s d=pres (l.take i) s d++pre l[i] s d:=by
 rw[List.take_succ_eq_append_getElem h,pres_append];simp[pres]
theorem pres_take_le (l:List Tm)(i s d:Nat):pres (l.take i) s d <+: pres l s d:=by
 conv=>rhs;rw[←List.take_append_drop i l]
 rw[pres_append];exact List.prefix_append _ _
theorem pres_length_of {l:List Tm}(h:∀ t∈l,∀ s d,(pre t s d).length=t.size):∀ s d,(pres l s d).length=sizes l:=by
 induction l with
 | nil=>intro s d;simp[pres,sizes]
 | cons t l ih=>intro s d;simp[pres,sizes,h t (by simp) s d,ih (fun u hu=>h u (by simp[hu])) s d]
theorem pre_length (t:Tm):∀ s d,(pre t s d).length=t.size:=by
 induction t using Tm.ind with
 | h b k i a ih=>intro s d;simp[pre_eq,size_eq,pres_length_of ih]
theorem pres_length (l:List Tm)(s d:Nat):(pres l s d).length=sizes l:=pres_length_of (fun t _=>pre_length t) s d
end Tm
structure Hit6 (F:Nat→Prop) (w:World) where
 s:Nat
 d:Nat
 pb:Option Addr
 cb:Nat
 pa:Option Addr
 ca:Nat
 t:Tm
 ok:IsTm F w (.slice pb t.binds.length cb) (.int .i64 t.kind) (.int .i64 t.index) (.slice pa t.args.length ca) t
def Hit6.key {F:Nat→Prop}{w:World}(x:Hit6 F w):Nat×Nat×Tm:=(x.s,x.d,x.t)
def Hit6.enc {F:Nat→Prop}{w:World}(x:Hit6 F w):Array Value:=#[.agg #[.int .i64 x.s,.int .i64 x.d],.agg #[.slice x.pb x.t.binds.length x.cb,.int .i64 x.t.kind,.int .i64 x.t.index,.slice x.pa x.t.args.length x.ca]]
def DownPost6 {F:Nat→Prop}{w0:World}(G:Nat→TypeId→Prop)(J Jx:List (Hit6 F w0)→World→Prop)(pre:List (Hit6 F w0))(l:List (Nat×Nat×Tm))(W:World)(e:Ending)(W':World):Prop:=
 (e=.returned (.bool true)∧KeepC G W W'∧∃ xs,xs.map Hit6.key=l∧J (pre++xs) W')∨(e=.returned (.bool false)∧∃ xs,xs.map Hit6.key <+: l∧Jx (pre++xs) W')
def SpotOk (o:Obj):Prop:=o.isCells=false∨∃ cs fr,o=.cells cs 149 fr
theorem KeepC.setNew {G:Nat→TypeId→Prop}{A B:World}(h:KeepC G A B)(p:Addr)(u:Value)(hp:A.heap.size≤p.block):KeepC G A (B.setCell p u):=
 ⟨by simpa using h.size,fun k cs t fr hk hc=>by
  have hlt:k<A.heap.size:=(Array.getElem?_eq_some_iff.1 hc).1
  exact(Below.heap_setCell _ _ _ _ (fun e=>by omega)).trans (h.cells k cs t fr hk hc)⟩
theorem Mild.setSpot {β:Type}{B:Nat}{J:β→World→Prop}(h:Mild SpotOk B J){s:β}{W:World}(hs:J s W){n i:Nat}{cs:Array Value}(u:Value)(hb:Blk W n cs 149)(hB:B≤n):J s (W.setCell ⟨n,i,none⟩ u):=
 h s W _ (some n) hs ⟨rfl,rfl,rfl,by simp,fun k _ hk=>Below.heap_setCell _ _ _ _ (fun e=>hk (by rw[e]))⟩ (fun r e=>by cases e;exact⟨hB,_,hb,.inr ⟨_,_,rfl⟩⟩)
set_option maxRecDepth 100000 in
set_option maxHeartbeats 1000000 in
theorem down6_k {F:Nat→Prop}{w0:World}(G:Nat→TypeId→Prop)(hGF:∀ k t,F k→k<w0.heap.size→G k t)(l N B0:Nat)(hN0:N≤36000000)(J Jx:List (Hit6 F w0)→World→Prop)(hJ:Mild SpotOk B0 J) 
  (hY:∀ m pre x W,J pre W→pre.length<N→YieldAt Fence.wide m Tryz.prog l (Hit6.enc x) W fun e W'=>
   (e=.returned (.bool true)∧J (pre++[x]) W'∧KeepC G W W')∨(e=.returned (.bool false)∧Jx (pre++[x]) W')) :
  ∀ t:Tm,∀ {b k i a:Value} (_:IsTm F w0 b k i a t) (n s d:Nat) (si di:Int) (pre:List (Hit6 F w0)) (W:World),si=s→di=d→(∀ k t,W.heap.size≤k→t≠3→G k t)→B0≤W.heap.size→Keep F w0 W→J pre W→pre.length+t.size≤N→d+t.depth≤36000000→s+t.full≤36000000 →
   CallsIn Fence.wide n Tryz.prog 99 #[.agg #[b,k,i,a],.agg #[.int .i64 si,.int .i64 di],.func (.yield l) #[] #[]] W (DownPost6 G J Jx pre (t.pre s d) W):=Tm.ind fun binds k0 i0 args ih=>by
 intro b k i a ht nn s d si di pre W hsi hdi hG hB0 hw hJ0 hN hd hs
 subst hsi hdi
 obtain⟨pa,pc,qa,qc,rfl,rfl,rfl,rfl⟩:=ht.shape
 simp only[Tm.binds,Tm.kind,Tm.index,Tm.args] at ht ⊢
 obtain⟨_,_,_,hsl⟩:=ht.inv
 simp only[Tm.args] at hsl
 obtain⟨_,hm,bl,off,PA,A,PN,PC,N',C,Kd,Ix,ha,h1,h2,h3,h4,h5⟩:=sl_cells6 hsl
 have hdd:∀ k:Nat,(Fence.wide.depth.isSome=true→1≤k):=fun k h=>by cases h
 have hlen:args.length≤36000000:=by have:=Tm.len_sizes args;rw[Tm.size_eq] at hN;omega
 have hbl:s+binds.length≤36000000:=by have:=Ty.le_sizes binds;rw[Tm.full_eq] at hs;omega
 have hq1:IntKind.i64.wrap ((s:Int)+(binds.length:Int))=(s:Int)+(binds.length:Int):=IntWalk.i64_in _ (by omega)
 have hdb:(d:Int)≤36000000:=by omega
 have hq2:IntKind.i64.wrap ((d:Int)+1)=(d:Int)+1:=IntWalk.i64_in _ (by omega)
 obtain⟨W1,hW1⟩:∃ W1,(W.alloc (.cells #[.slice pa binds.length pc,.int .i64 k0,.int .i64 i0,.slice qa args.length qc] 62)).alloc (.cells #[.int .i64 ((s:Int)+(binds.length:Int)),.int .i64 d] 149)=W1:=⟨_,rfl⟩
 have hJ1:J pre W1:=by rw[←hW1];exact hJ.alloc (hJ.alloc hJ0 _) _
 have xt:Blk W1 W.heap.size #[.slice pa binds.length pc,.int .i64 k0,.int .i64 i0,.slice qa args.length qc] 62:=by rw[←hW1];exact(Blk.new _ _ _ rfl).alloc _
 have xs:Blk W1 (W.heap.size+1) #[.int .i64 ((s:Int)+(binds.length:Int)),.int .i64 d] 149:=by rw[←hW1];exact Blk.new _ _ _ (by simp)
 have hz1:W1.heap.size=W.heap.size+2:=by rw[←hW1];simp
 have hk0:KeepC G W W1:=by rw[←hW1];exact((KeepC.refl G W).alloc _).alloc _
 obtain⟨X,hX⟩:∃ X:Hit6 F w0,X=⟨s+binds.length,d,pa,pc,qa,qc,.mk binds k0 i0 args,ht⟩:=⟨_,rfl⟩
 have hkey:X.key=(s+binds.length,d,.mk binds k0 i0 args):=by rw[hX];rfl
 obtain⟨fn,tmps,assign,body,hy,hR⟩:=hY (nn-1) pre X W1 hJ1 (by have:=Tm.size_pos (.mk binds k0 i0 args);omega)
 have henc:X.enc=#[.agg #[.int .i64 ((s:Int)+(binds.length:Int)),.int .i64 d],.agg #[.slice pa binds.length pc,.int .i64 k0,.int .i64 i0,.slice qa args.length qc]]:=by rw[hX];simp[Hit6.enc,Tm.binds,Tm.kind,Tm.index,Tm.args]
 rw[henc] at hy
 clear hX henc ht hsl
 refine callsIn_of_wp Tryz.func99 rfl trivial ?_ rfl
 simp only[Tryz.ntmps99,List.size_toArray,List.length_cons,List.length_nil,Nat.reduceAdd,Nat.reduceSub,Array.replicate_succ,Array.replicate_zero,List.push_toArray,List.append_toArray,List.nil_append,List.cons_append]
 have c0:W1.cell? ⟨W.heap.size,0,none⟩=some (.slice pa binds.length pc):=xt.cell rfl
 have c1:W1.cell? ⟨W.heap.size,1,none⟩=some (.int .i64 k0):=xt.cell rfl
 have c2:W1.cell? ⟨W.heap.size,2,none⟩=some (.int .i64 i0):=xt.cell rfl
 have c3:W1.cell? ⟨W.heap.size,3,none⟩=some (.slice qa args.length qc):=xt.cell rfl
 have s0:W1.cell? ⟨W.heap.size+1,0,none⟩=some (.int .i64 ((s:Int)+(binds.length:Int))):=xs.cell rfl
 have s1:W1.cell? ⟨W.heap.size+1,1,none⟩=some (.int .i64 d):=xs.cell rfl
 gi_wp2_with fail
 clear hW1
 refine⟨hdd _,hR.mono ?_⟩
 clear c0 c1 c2 c3 s0 s1
 rintro e W2 (⟨rfl,hJ2,hk1⟩ | ⟨rfl,hx1⟩)
 rotate_left
 ·gi_wp2_with fail
  go_ret
  exact .inr ⟨rfl,[X],⟨Tm.pres args (s+binds.length) (d+1),by simp[hkey,Tm.pre_eq]⟩,hx1⟩
 have yt:Blk W2 W.heap.size _ _:=hk1.blk xt (hG _ _ (Nat.le_refl _) (by decide))
 have ys:Blk W2 (W.heap.size+1) _ _:=hk1.blk xs (hG _ _ (by omega) (by decide))
 have c0:W2.cell? ⟨W.heap.size,0,none⟩=some (.slice pa binds.length pc):=yt.cell rfl
 have c1:W2.cell? ⟨W.heap.size,1,none⟩=some (.int .i64 k0):=yt.cell rfl
 have c2:W2.cell? ⟨W.heap.size,2,none⟩=some (.int .i64 i0):=yt.cell rfl
 have c3:W2.cell? ⟨W.heap.size,3,none⟩=some (.slice qa args.length qc):=yt.cell rfl
 have s1:W2.cell? ⟨W.heap.size+1,1,none⟩=some (.int .i64 d):=ys.cell rfl
 have f1:=ys.free 1
 gi_wp2_with fail
 obtain⟨W3,hW3⟩:∃ W3,W2.setCell ⟨W.heap.size+1,1,none⟩ (.int .i64 ((d:Int)+1))=W3:=⟨_,rfl⟩
 have hJ3:J (pre++[X]) W3:=by rw[←hW3];exact hJ.setSpot hJ2 _ ys (by omega)
 have hk3:KeepC G W W3:=by rw[←hW3];exact(hk0.trans hk1).setNew _ _ (by simp)
 have xt3:Blk W3 W.heap.size #[.slice pa binds.length pc,.int .i64 k0,.int .i64 i0,.slice qa args.length qc] 62:=by rw[←hW3];exact yt.far _ _ (by simp)
 have xs3:Blk W3 (W.heap.size+1) #[.int .i64 ((s:Int)+(binds.length:Int)),.int .i64 ((d:Int)+1)] 149:=by rw[←hW3];exact ys.set 1 _
 try rw[hW3]
 clear hW3 c0 c1 c2 c3 s1 f1 hJ2 hk1 yt ys hk0 xt xs hJ1 hR hy hY hz1
 have Hih:=Lib.hid ih;clear ih
 have HG:=Lib.hid hG;clear hG
 have HN:=Lib.hid hN;clear hN
 have Hd:=Lib.hid hd;clear hd
 have Hs:=Lib.hid hs;clear hs
 gi_loopw [8,28] (fun _ i wr=>∃ (k:Nat) (xs:List (Hit6 F w0)),i=.int .i64 k∧k≤args.length∧Hid (xs.map Hit6.key=Tm.pres (args.take k) (s+binds.length) (d+1))∧J (pre++[X]++xs) wr∧KeepC G W wr ∧
   Blk wr W.heap.size #[.slice pa binds.length pc,.int .i64 k0,.int .i64 i0,.slice qa args.length qc] 62∧Blk wr (W.heap.size+1) #[.int .i64 ((s:Int)+(binds.length:Int)),.int .i64 ((d:Int)+1)] 149) (fun _ i _=>args.length-(intOf i).toNat)
 case atStart=>exact⟨0,[],rfl,by omega,by simp[Hid,Tm.pres],by simpa using hJ3,hk3,xt3,xs3⟩
 case round=>
  clear hJ3 hk3 xt3 xs3
  obtain⟨k,xs,rfl,hk,hxs,hJr,hkr,hbt,hbs⟩:=hrel
  have Hkr:=Lib.hid hkr
  have HJr:=Lib.hid hJr;clear hJr
  have hsz:=hkr.size
  have hsb:=hbs.lt
  have s0:wr.cell? ⟨W.heap.size+1,0,none⟩=some (.int .i64 ((s:Int)+(binds.length:Int))):=hbs.cell rfl
  have s1:wr.cell? ⟨W.heap.size+1,1,none⟩=some (.int .i64 ((d:Int)+1)):=hbs.cell rfl
  by_cases hlt:k<args.length
  ·obtain⟨rfl,hF⟩:=ha (by omega)
   have hKp:Keep F w0 wr:=hkr.keep' hw hGF
   have e1:=hKp _ _ _ hF (h1 k hlt)
   have e2:=hKp _ _ _ hF (h2 k hlt)
   have e3:=hKp _ _ _ hF (h3 k hlt)
   have e4:=hKp _ _ _ hF (h4 k hlt)
   have hs1:=Lib.hid (Tm.sizes_take args k hlt)
   have hs2:=Lib.hid (Tm.sizes_take_le args (k+1))
   have hl:Hid (xs.length=Tm.sizes (args.take k)):=by
    show _=_
    have:=congrArg List.length hxs.out
    rw[List.length_map] at this
    rw[this,Tm.pres_length]
   have hz:pre.length+1+xs.length+args[k].size≤N:=by have:=HN.out;have:=hl.out;have:=hs1.out;have:=hs2.out;rw[Tm.size_eq] at *;omega
   gi_wp2_with fail
   refine⟨trivial,hdd _,(Hih.out args[k] (List.getElem_mem hlt) (h5 k hlt) (nn-1) (s+binds.length) (d+1) ((s:Int)+(binds.length:Int)) ((d:Int)+1) (pre++[X]++xs) _ (by omega) (by omega) (fun q t hq ht=>HG.out q t (by simp at hq;omega) ht) (by simp;omega) (hKp.alloc _) (hJ.alloc HJr.out _) (by simp;omega) ?_ ?_).mono ?_⟩
   ·have:=Hd.out;have:=Tm.depth_mem (List.getElem_mem hlt);rw[Tm.depth_eq] at *;omega
   ·have:=Hs.out;have:=Tm.full_mem (List.getElem_mem hlt);have:=Ty.le_sizes binds;rw[Tm.full_eq] at *;omega
   rintro e W2 (⟨rfl,hk2,ys,hys,hJ2⟩ | ⟨rfl,ys,hys,hx2⟩)
   ·have HJ2:=Lib.hid hJ2;clear hJ2
    have Hys:=Lib.hid hys;clear hys
    have hbt2:=hk2.blk (hbt.alloc _) (HG.out _ _ (Nat.le_refl _) (by decide))
    have hbs2:=hk2.blk (hbs.alloc _) (HG.out _ _ (by omega) (by decide))
    gi_wp2_with fail
    go_roundw
    case rel=>exact⟨k+1,xs++ys,by go_num,by omega,by show _=_;rw[List.map_append,hxs.out,Hys.out,Tm.pres_take _ _ _ _ hlt],by rw[←List.append_assoc];exact HJ2.out,(Hkr.out.alloc _).trans hk2,hbt2,hbs2⟩
    case measure=>simp[intOf];omega
   ·have Hys:=Lib.hid hys;clear hys
    have Hx2:=Lib.hid hx2;clear hx2
    gi_wp2_with fail
    go_ret
    refine .inr ⟨rfl,X :: (xs++ys),?_,by simpa using Hx2.out⟩
    obtain⟨r,hr⟩:=Hys.out
    have hp:=Tm.pres_take args k (s+binds.length) (d+1) hlt
    rw[←hr] at hp
    obtain⟨q,hq⟩:=Tm.pres_take_le args (k+1) (s+binds.length) (d+1)
    refine⟨r++q,?_⟩
    simp only[Tm.pre_eq,List.map_cons,List.map_append,hkey,List.cons_append]
    rw[←hq,hp,←hxs.out]
    simp
  ·gi_wp2_with fail
   go_ret
   refine .inl ⟨rfl,Hkr.out,X :: xs,?_,by simpa using HJr.out⟩
   have h:=hxs.out
   rw[List.take_of_length_le (by omega)] at h
   simp[Tm.pre_eq,hkey,←h]
theorem each61_k {F:Nat→Prop}{w0:World}(G:Nat→TypeId→Prop)(hGF:∀ k t,F k→k<w0.heap.size→G k t)(l:Nat)(J Jx:List (Hit6 F w0)→World→Prop) 
  {b k i a:Value} {t:Tm} (ht:IsTm F w0 b k i a t) (hsz:t.full≤17100000) (n:Nat) (W:World) (hJ:Mild SpotOk W.heap.size J)
  (hY:∀ pre x V,J pre V→pre.length<t.size→YieldAt Fence.wide (n-1) Tryz.prog l (Hit6.enc x) V fun e W'=>
   (e=.returned (.bool true)∧J (pre++[x]) W'∧KeepC G V W')∨(e=.returned (.bool false)∧Jx (pre++[x]) W'))
  (hG:∀ k t,W.heap.size≤k→t≠3→G k t) (hw:Keep F w0 W) (Bt:Nat) (c0:W.cell? ⟨Bt,0,none⟩=some b) (c1:W.cell? ⟨Bt,1,none⟩=some k) (c2:W.cell? ⟨Bt,2,none⟩=some i) (c3:W.cell? ⟨Bt,3,none⟩=some a) (h0:J [] W) :
  CallsIn Fence.wide n Tryz.prog 98 #[.func (.yield l) #[] #[],.pointer (some ⟨Bt,0,none⟩)] W fun e W'=>(∃ v,e=.returned v) ∧
   ((∃ ys,List.map Hit6.key ys=t.pre 0 1∧J ys W')∨(∃ pre,List.map Hit6.key pre <+: t.pre 0 1∧Jx pre W')):=by
 have hdd:∀ k:Nat,(Fence.wide.depth.isSome=true→1≤k):=fun k h=>by cases h
 have hf:=Tm.size_le_full t
 have hp:=Lib.hid (down6_k G hGF l t.size W.heap.size (by omega) J Jx hJ (fun m pre x V hj hl=>yield_any rfl m (hY pre x V hj hl)) t ht (n-1) 0 1 0 1 [] W rfl rfl hG (Nat.le_refl _) hw h0 (by simp) (by have:=Tm.depth_le_size t;omega) (by omega))
 clear hG hY
 obtain⟨pa,pc,qa,qc,rfl,rfl,rfl,rfl⟩:=ht.shape
 refine callsIn_of_wp Tryz.func98 rfl trivial ?_ rfl
 simp only[Tryz.ntmps98,List.size_toArray,List.length_cons,List.length_nil,Nat.reduceAdd,Nat.reduceSub,Array.replicate_succ,Array.replicate_zero,List.push_toArray,List.append_toArray,List.nil_append,List.cons_append]
 gi_wp2_with fail
 refine⟨trivial,hdd _,hp.out.mono ?_⟩
 rintro e W1 (⟨rfl,hk,ys,hys,hJ1⟩ | ⟨rfl,ys,hys,hx⟩)
 ·have A1:=Lib.hid hys;clear hys
  gi_wp2_with fail
  go_end0
  exact⟨⟨_,rfl⟩,.inl ⟨ys,A1.out,by simpa using hJ1⟩⟩
 ·have A1:=Lib.hid hys;clear hys
  gi_wp2_with fail
  go_end0
  exact⟨⟨_,rfl⟩,.inr ⟨ys,A1.out,by simpa using hx⟩⟩
theorem each6_soft {F:Nat→Prop}{w0:World}(G:Nat→TypeId→Prop)(hGF:∀ k t,F k→k<w0.heap.size→G k t){b k i a:Value}{t:Tm}(ht:IsTm F w0 b k i a t)(hsz:t.full≤17100000)(n:Nat) 
  (w:World) (hG:∀ k t,w.heap.size≤k→t≠3→G k t) (hw:Keep F w0 w) (Bt:Nat) (hB:Blk w Bt #[b,k,i,a] 62) :
  SeqSoft SpotOk Fence.wide n Tryz.prog 98 #[.pointer (some ⟨Bt,0,none⟩)] (Hit6.enc (F:=F) (w:=w0)) (KeepC G) (fun ys=>ys.map Hit6.key=t.pre 0 1) (fun p=>p.map Hit6.key <+: t.pre 0 1) t.size w:=
 fun l J Jx W hW hJ _ hY h0=>by
  have hB':=hB.below hW
  exact each61_k G hGF l J Jx ht hsz n W hJ hY (fun k t hk ht=>hG k t (Nat.le_trans hW.size hk) ht) (hw.below hW) Bt (hB'.cell rfl) (hB'.cell rfl) (hB'.cell rfl) (hB'.cell rfl) h0
theorem each6_k (b k i a:Value)(n:Nat)(w:World)(hs:∃ p m c,b=.slice p m c)(hk:∃ x,k=.int .i64 x)(hi:∃ x,i=.int .i64 x)(ha:∃ p m c,a=.slice p m c):
  CallsIn Fence.wide n Tryz.prog 69 #[.agg #[b,k,i,a]] w fun e w'=>e=.returned (.func (.func 98) #[] #[.pointer (some ⟨w.heap.size,0,none⟩)])∧w'=w.alloc (.cells #[b,k,i,a] 62):=by
 obtain⟨pb,mb,cb,rfl⟩:=hs
 obtain⟨kx,rfl⟩:=hk
 obtain⟨ix,rfl⟩:=hi
 obtain⟨pa,ma,ca,rfl⟩:=ha
 refine callsIn_of_wp Tryz.func69 rfl trivial ?_ rfl
 simp only[Tryz.ntmps69,List.size_toArray,List.length_cons,List.length_nil,Nat.reduceAdd,Nat.reduceSub,Array.replicate_succ,Array.replicate_zero,List.push_toArray,List.append_toArray,List.nil_append,List.cons_append]
 gi_wp2_with fail
 go_ret
 exact⟨rfl,rfl⟩
end Go.Proofs.YtclihnccilkohaaGreat
namespace Go.Proofs.YtclihnccilkohaaGreat
open Go.RowKit Go.Shelf
attribute [local go_sem] Oper.semAt_some
theorem spot_int {W:World}{n:Nat}{cs:Array Value}{T:TypeId}(hT:T≠149){W':World}{B:Nat}{row:Option Nat}(h:Blk W n cs T)(hg:W.grownBy W' row)(hr:∀ r,row=some r→B≤r∧∃ o:Obj,W.heap[r]?=some o∧SpotOk o):Blk W' n cs T:=
 h.grown hg fun e=>by
  obtain⟨_,o,ho,h'⟩:=hr _ e
  have hb:W.heap[n]?=_:=h
  rw[hb] at ho;cases ho
  rcases h' with h' | ⟨cs',fr,h'⟩
  ·simp[Obj.isCells] at h'
  ·cases h';exact hT rfl
theorem mild_blk {β:Type}{n B:Nat}{T:TypeId}(hT:T≠149)(f:β→Array Value):Mild SpotOk B (fun s W=>Blk W n (f s) T):=fun _ _ _ _ hs hg hr=>spot_int hT hs hg hr
end Go.Proofs.YtclihnccilkohaaGreat
namespace Go.Proofs.YtclihnccilkohaaGreat
open Go.RowKit Go.Shelf
attribute [local go_sem] Oper.semAt_some
namespace Tm
theorem pres_depth_of {l:List Tm}(h:∀ t∈l,∀ s d m,(∀ p∈pre t s d,p.2.1≤m)↔d+t.depth≤m+1):∀ s d m,d≤m+1→((∀ p∈pres l s d,p.2.1≤m)↔d+depths l≤m+1):=by
 intro s d m hd
 induction l with
 | nil=>simp[pres,depths,hd]
 | cons t l ih=>
  have h1:=h t (by simp) s d m
  have h2:=ih (fun u hu=>h u (by simp[hu]))
  simp only[pres,depths,List.mem_append]
  constructor
  ·intro h3
   have a:=h1.1 fun p hp=>h3 p (.inl hp)
   have b:=h2.1 fun p hp=>h3 p (.inr hp)
   omega
  ·intro h3 p hp
   rcases hp with hp | hp
   ·exact h1.2 (by omega) p hp
   ·exact h2.2 (by omega) p hp
theorem pre_depth (t:Tm):∀ s d m,(∀ p∈pre t s d,p.2.1≤m)↔d+t.depth≤m+1:=by
 induction t using Tm.ind with
 | h b k i a ih=>
  intro s d m
  have h:=pres_depth_of ih (s+b.length) (d+1) m
  rw[pre_eq,depth_eq]
  simp only[List.mem_cons,forall_eq_or_imp]
  constructor
  ·rintro⟨h1,h2⟩
   have:=(h (by omega)).1 h2
   omega
  ·intro h1
   exact⟨by omega,(h (by omega)).2 (by omega)⟩
end Tm
set_option maxRecDepth 100000 in
set_option maxHeartbeats 2000000 in
theorem right6_k {F:Nat→Prop}{w:World}{b k i a:Value}{t:Tm}(ht:IsTm F w b k i a t)(hsz:t.full≤17100000):Calls Tryz.prog 34 #[.agg #[b,k,i,a]] w (RetB (t.size≤5000∧t.depth≤60) w):=by
 refine(callsIn_wide (n:=9)).1 ?_
 have Ht:=Lib.hid (ht.weaken (F':=fun _=>True) fun _ _ _=>trivial)
 obtain⟨pa,pc,qa,qc,rfl,rfl,rfl,rfl⟩:=ht.shape
 clear ht
 obtain⟨x1,hx1⟩:∃ x,t.binds.length=x:=⟨_,rfl⟩
 obtain⟨x2,hx2⟩:∃ x,t.args.length=x:=⟨_,rfl⟩
 obtain⟨x3,hx3⟩:∃ x,t.kind=x:=⟨_,rfl⟩
 obtain⟨x4,hx4⟩:∃ x,t.index=x:=⟨_,rfl⟩
 rw[hx1,hx2,hx3,hx4] at Ht ⊢
 clear hx1 hx2 hx3 hx4
 refine callsIn_of_wp_marks Tryz.func34 rfl trivial ?_ rfl
 simp only[Tryz.ntmps34,List.size_toArray,List.length_cons,List.length_nil,Nat.reduceAdd,Nat.reduceSub,Array.replicate_succ,Array.replicate_zero,List.push_toArray,List.append_toArray,List.nil_append,List.cons_append]
 gi_wp2_with fail
 refine⟨trivial,(each6_k _ _ _ _ _ _ ⟨_,_,_,rfl⟩ ⟨_,rfl⟩ ⟨_,rfl⟩ ⟨_,_,_,rfl⟩).mono ?_⟩
 rintro e w' ⟨rfl,rfl⟩
 gi_wp2_with fail
 have hsz':=Lib.hid hsz
 have hfl:=Tm.size_le_full t
 obtain⟨w5,hw5⟩:∃ w5,(((w.alloc (.cells #[.slice pa x1 pc,.int .i64 x3,.int .i64 x4,.slice qa x2 qc] 62)).alloc (.cells #[.bool false] 4)).alloc (.cells #[.int .i64 0] 3)).alloc (.cells #[.slice pa x1 pc,.int .i64 x3,.int .i64 x4,.slice qa x2 qc] 62)=w5:=⟨_,rfl⟩
 have hB0:Below w.heap.size w w5:=by rw[←hw5];exact((((Below.refl _ w).alloc (Nat.le_refl _) _).alloc (by simp) _).alloc (by simp;omega) _).alloc (by simp;omega) _
 have hz:w5.heap.size=w.heap.size+4:=by rw[←hw5];simp
 have y1:Blk w5 (w.heap.size+1) #[.bool false] 4:=by rw[←hw5];exact((Blk.new _ _ _ (by simp)).alloc _).alloc _
 have y2:Blk w5 (w.heap.size+2) #[.int .i64 0] 3:=by rw[←hw5];exact(Blk.new _ _ _ (by simp)).alloc _
 have y3:Blk w5 (w.heap.size+1+1+1) #[.slice pa x1 pc,.int .i64 x3,.int .i64 x4,.slice qa x2 qc] 62:=by rw[←hw5];exact Blk.new _ _ _ (by simp)
 rw[hw5]
 clear hw5
 refine range_softA (Ok:=SpotOk) (fun o h=>.inl h) rfl (by omega) (gf:=98) (lb:=#[.pointer (some ⟨w.heap.size+1+1+1,0,none⟩)]) rfl trivial (enters_of Tryz.func98 (by kernel_rfl) rfl)
  (each6_soft (But w.heap.size (w.heap.size+3)) (fun k _ _ hk=>.inl hk) Ht.out hsz (9-1) w5 (fun k _ hk _=>.inr (by omega)) ((Keep.refl _ _).below hB0) (w.heap.size+1+1+1) y3)
  (fun h h'=>h.trans h') (fun W l o o' _ hl ho _=>KeepC.putObj _ W l o o' hl ho) (Below.refl _ _) (fun _=>rfl)
  (fun pre W=>(Blk W (w.heap.size+1) #[.bool false] 4∧Blk W (w.heap.size+2) #[.int .i64 (pre.length:Int)] 3)∧(Hid (pre.length≤5000∧∀ x∈pre,x.d≤60)∧Below w.heap.size w W))
  (fun c pre W=>(Blk W (w.heap.size+1) #[.bool false] 4∧Below w.heap.size w W)∧(c=.ret∧Hid (5000<pre.length∨∃ x∈pre,¬ x.d≤60)))
  (Mild.and (Mild.and (mild_blk (by decide) (fun(_:List (Hit6 (fun _=>True) w))=>#[.bool false])) (mild_blk (by decide) (fun(pre:List (Hit6 (fun _=>True) w))=>#[.int .i64 (pre.length:Int)]))) (Mild.and (fun _ _ _ _ h _ _=>h) (mild_below (Nat.le_refl _) (by omega))))
  (fun c=>Mild.and (Mild.and (mild_blk (by decide) (fun(_:List (Hit6 (fun _=>True) w))=>#[.bool false])) (mild_below (Nat.le_refl _) (by omega))) (fun _ _ _ _ h _ _=>h))
  ⟨⟨y1,y2⟩,⟨by simp,by simp⟩,hB0⟩
  (fun x a' W=>∃ Bx,w.heap.size+2<Bx∧Blk W Bx #[.int .i64 x.s,.int .i64 x.d] 149∧a'={ tmps:=#[.agg #[.slice pa x1 pc,.int .i64 x3,.int .i64 x4,.slice qa x2 qc],.pointer (some ⟨w.heap.size,0,none⟩),.pointer (some ⟨w.heap.size+1,0,none⟩),.pointer (some ⟨w.heap.size+1+1,0,none⟩),.pointer (some ⟨Bx,0,none⟩),.agg #[.slice pa x1 pc,.int .i64 x3,.int .i64 x4,.slice qa x2 qc],.func (.func 98) #[] #[.pointer (some ⟨w.heap.size+1+1+1,0,none⟩)],.agg #[.int .i64 x.s,.int .i64 x.d],.agg #[.slice x.pb x.t.binds.length x.cb,.int .i64 x.t.kind,.int .i64 x.t.index,.slice x.pa x.t.args.length x.ca],undef,undef,undef,undef,undef,undef,undef,undef,undef],defers:=[] })
  (fun x a' W l o o' hl ho hoc=>by
   rintro⟨Bx,h1,h2,h3⟩
   refine⟨Bx,h1,?_,h3⟩
   have hne:l≠Bx:=fun e=>by
    subst e
    have hb:W.heap[l]?=_:=h2
    rw[hb] at ho;cases ho;simp[Obj.isCells] at hoc
   exact(World.putObj_heap_other (Ne.symm hne)).trans h2) ?assign ?body ?done ?stop
 case assign=>
  rintro l pre x W K ⟨⟨z1,z2⟩,hp,hB⟩ hK
  have HK:=Lib.hid hK;clear hK
  have Hp:=Lib.hid hp;clear hp
  simp only[Hit6.enc] at *
  gi_wp2
  have hs:=hB.size
  exact HK.out _ _ ((KeepsOthers.alloc _ _).from _) ((KeepC.refl _ W).alloc _) ⟨⟨z1.alloc _,z2.alloc _⟩,Hp.out,hB.alloc hs _⟩ ⟨W.heap.size,z2.lt,Blk.new _ _ _ rfl,rfl⟩
 case body=>
  rintro l pre x a' W ⟨⟨z1,z2⟩,hp,hB⟩ hlt ⟨Bx,hBx,bX,rfl⟩
  have c1:W.cell? ⟨w.heap.size+1,0,none⟩=some (.bool false):=z1.cell rfl
  have f1:=z1.free 0
  have c2:W.cell? ⟨w.heap.size+1+1,0,none⟩=some (.int .i64 (pre.length:Int)):=z2.cell rfl
  have f2:=z2.free 0
  have cx:W.cell? ⟨Bx,1,none⟩=some (.int .i64 x.d):=bX.cell rfl
  have hlt2:(pre.length:Int)≤36000000:=by omega
  have hBn:¬ (Bx=w.heap.size+1+1):=by omega
  have Hp:=Lib.hid hp.out;clear hp
  have hbd:Hid (Below w.heap.size w ((W.setCell ⟨w.heap.size+1+1,0,none⟩ (.int .i64 ((pre.length:Int)+1))).setCell ⟨w.heap.size+1,0,none⟩ (.bool false))):=(hB.setCell (by simp;omega) _).setCell (by simp) _
  by_cases h2:(5000:Int)<(pre.length:Int)+1
  ·gi_wp2
   first
   | exact⟨((KeepsOthers.setCell W _ _).trans (KeepsOthers.setCell _ _ _)).from _,⟨(z1.far ⟨w.heap.size+1+1,0,none⟩ _ (by simp)).set 0 _,hbd.out⟩,rfl,.inl (by simp;omega)⟩
   | exact⟨(KeepsOthers.setCell W _ _).from _,⟨z1.far ⟨w.heap.size+1+1,0,none⟩ _ (by simp),hB.setCell (by simp;omega) _⟩,rfl,.inl (by simp;omega)⟩
  by_cases h1:60<x.d
  ·have h1':(60:Int)<(x.d:Int):=by omega
   gi_wp2
   first
   | exact⟨((KeepsOthers.setCell W _ _).trans (KeepsOthers.setCell _ _ _)).from _,⟨(z1.far ⟨w.heap.size+1+1,0,none⟩ _ (by simp)).set 0 _,hbd.out⟩,rfl,.inr ⟨x,by simp,by omega⟩⟩
   | exact⟨(KeepsOthers.setCell W _ _).from _,⟨z1.far ⟨w.heap.size+1+1,0,none⟩ _ (by simp),hB.setCell (by simp;omega) _⟩,rfl,.inr ⟨x,by simp,by omega⟩⟩
  have h1':¬ (60:Int)<(x.d:Int):=by omega
  gi_wp2
  refine⟨(KeepsOthers.setCell W _ _).from _,(KeepC.refl _ W).setCell _ _ (by simp[But];omega),⟨z1.far _ _ (by simp),?_⟩,⟨by have:=Hp.out.1;simp;omega,fun y hy=>?_⟩,hB.setCell (by simp;omega) _⟩
  ·have:=z2.set 0 (.int .i64 ((pre.length:Int)+1))
   simpa using this
  ·rcases List.mem_append.1 hy with hy | hy
   ·exact Hp.out.2 y hy
   ·simp at hy;subst hy;omega
 case done=>
  rintro D ys W hD hys ⟨⟨z1,z2⟩,hp,hB⟩ hK
  have c1:W.cell? ⟨w.heap.size+1,0,none⟩=some (.bool false):=z1.cell rfl
  have f1:=z1.free 0
  have Hys:=Lib.hid hys;clear hys
  have Hp:=Lib.hid hp.out;clear hp
  gi_wp2
  have hK':=(KeepsOthers.setCell W ⟨w.heap.size+1,0,none⟩ (.bool true)).same D _ hK rfl
  refine⟨by simp,.inl ⟨_,_,rfl,run_takeDeferred hK',?_⟩⟩
  have hc5:=cell_kept ((z1.set 0 (.bool true)).cell (i:=0) (v:=.bool true) rfl) (grownBy_putObj' _ D (.deferred none)) (fun r e=>by cases e;exact⟨_,hK',rfl⟩)
  refine⟨.bool true,?_,⟨true,?_,rfl,?_⟩⟩
  ·simp[results,Tryz.results34,go_sem,hc5]
  ·have hl:ys.length=t.size:=by rw[←Tm.pre_length t 0 1,←Hys.out,List.length_map]
   have hd:=(Tm.pre_depth t 0 1 60).1 (fun p hp'=>by
    rw[←Hys.out] at hp'
    obtain⟨y,hy,he⟩:=List.mem_map.1 hp'
    rw[←he];exact Hp.out.2 y hy)
   have:=Hp.out.1
   simp;omega
  ·exact(hB.setCell (p:=⟨w.heap.size+1,0,none⟩) (by simp) _).trans (belowK_b (w:=w) (Nat.le_refl _) _ D _ _ (by omega) hK' rfl rfl)
 case stop=>
  rintro D c pre W hD hpre ⟨⟨z1,hB⟩,rfl,hbad⟩ hK
  gi_wp2
  refine⟨by simp,.inl ⟨_,_,rfl,run_takeDeferred hK,?_⟩⟩
  have hc5:=cell_kept (z1.cell (i:=0) (v:=.bool false) rfl) (grownBy_putObj' _ D (.deferred none)) (fun r e=>by cases e;exact⟨_,hK,rfl⟩)
  refine⟨.bool false,?_,⟨false,?_,rfl,?_⟩⟩
  ·simp[results,Tryz.results34,go_sem,hc5]
  ·simp only[Bool.false_eq_true,false_iff,not_and]
   intro h1 h2
   rcases hbad.out with h | ⟨y,hy,h⟩
   ·have:=hpre.length_le
    rw[List.length_map,Tm.pre_length] at this;omega
   ·exact h ((Tm.pre_depth t 0 1 60).2 (by omega) y.key (hpre.subset (List.mem_map.2 ⟨y,hy,rfl⟩)))
  ·exact hB.trans (belowK_b (w:=w) (Nat.le_refl _) W D _ _ (by omega) hK rfl rfl)
end Go.Proofs.YtclihnccilkohaaGreat
namespace Go.Proofs.YtclihnccilkohaaGreat
open Go.RowKit
theorem right_d (t:Tm)(hsz:t.full≤17100000):PureC Tryz.prog 34 [.ag (eTm t)] (.v (.bool (decide (t.size≤5000∧t.depth≤60)))):=by
 refine pure_below (by kernel_rfl) fun m Im w vs hv=>?_
 match vs,hv with
 | [x],hv=>
  obtain⟨b,k,i,a,rfl,ht⟩:=agTm hv.1
  refine(right6_k ht hsz).mono ?_
  rintro e w' ⟨b,hb,rfl,h2⟩
  have:b=decide (t.size≤5000∧t.depth≤60):=by
   by_cases hp:t.size≤5000∧t.depth≤60
   ·rw[hb.2 hp];simp[hp]
   ·have:b=false:=by
     cases b with
     | false=>rfl
     | true=>exact absurd (hb.1 rfl) hp
    rw[this];simp[hp]
  subst this
  exact⟨_,rfl,h2,fun Im' _ hI=>.v _⟩
theorem eTm_ren (ρ:Nat→Nat)(t:Tm):D.rens ρ (eTm t)=eTm t:=D.rens_id (f:=fun _=>false) (g:=fun _=>false) (fun _ h=>by cases h) _ (eTm_ok _ _ t)
theorem eTms_ren (ρ:Nat→Nat)(l:List Tm):D.renss ρ (eTms l)=eTms l:=D.renss_id (f:=fun _=>false) (g:=fun _=>false) (fun _ h=>by cases h) _ (eTms_ok _ _ l)
theorem eTys_ren (ρ:Nat→Nat)(l:List Ty):D.renss ρ (eTys l)=eTys l:=D.renss_id (f:=fun _=>false) (g:=fun _=>false) (fun _ h=>by cases h) _ (eTys_ok _ _ l)
def m00:Mp:=⟨fun _=>none,fun _=>none,fun _=>none⟩
theorem calls_of_pure {P:Program}{f:FuncId}{ds:List D}{V:D}(h:PureC P f ds V){Im:Nat→Nat→Prop}{w:World}{vs:List Value}(hi:∀ b o,Im b o→∃ v,w.cell? ⟨b,o,none⟩=some v)(hv:RelL m00 Im w vs ds):
  Calls P f vs.toArray w fun e w'=>∃ v Im',e=.returned v∧Below w.heap.size w w'∧Rel m00 Im' w' v V∧(∀ b o,Im' b o→Im b o∨w.heap.size≤b):=by
 let cx:Cx:={ w0:=w,C:=fun _=>False,Im0:=Im,m0:=m00,nt:=0,n0:=0,h0:=(fun k b hk=>by cases hk),h0o:=(fun k b hk=>by cases hk) }
 have hm:MemOk cx (fun _=>False) m00 Im w:={
  off:=Off.refl _ _,im:=hi,imb:=fun b o h=>.inl h,im0:=fun b o h=>h
  own:=fun k b hk=>by cases hk
  lt:=fun k b hk=>by cases hk
  free:=fun k b o hk=>by cases hk
  nim:=fun k b o hk=>by cases hk
  inj:=fun k k' b hk=>by cases hk
  row:=fun g R hg=>by cases hg
  k0:=KeepI.refl _ _
  rown:=fun g R b hg=>by cases hg
  m0r:=fun g R hg=>by cases hg
  rIm:=fun g R b o hg=>by cases hg
  rblk:=fun g R b k hg=>by cases hg
  rinj:=fun g g' R R' b hg=>by cases hg
  fr:=fun k hk=>hk.elim
  m0:=fun k b hk=>by cases hk
  m0o:=fun k b hk=>by cases hk
  oown:=fun k b hk=>by cases hk
  olt:=fun k b hk=>by cases hk
  onim:=fun k b o hk=>by cases hk
  oinj:=fun k k' b hk=>by cases hk
  oblk:=fun k k' b hk=>by cases hk
  orow:=fun k g R b hk=>by cases hk
  dis:=fun k b hk=>by cases hk }
 refine(h.2 cx _ m00 Im w vs hm hv nofun).mono ?_
 rintro e w' ⟨v,Im',rfl,q1,q2,q3,q4,q5,q6,q7⟩
 refine⟨v,Im',rfl,⟨q1.os,q1.tape,q1.output,q1.size,fun b hb=>q1.block b hb fun ht=>?_⟩,q6,q3⟩
 rcases ht with⟨k,off,d,hm,_⟩ | ⟨X,J,hm,_⟩ | ⟨k,d,hm,_⟩ <;> cases hm
def cellI (F:Nat→Prop)(w:World):Nat→Nat→Prop:=fun b o=>F b∧∃ v,w.cell? ⟨b,o,none⟩=some v
theorem cellI_ok {F:Nat→Prop}{w:World}:∀ b o,cellI F w b o→∃ v,w.cell? ⟨b,o,none⟩=some v:=fun _ _ h=>h.2
theorem cellI_of {F:Nat→Prop}{w:World}:∀ b o v,F b→w.cell? ⟨b,o,none⟩=some v→cellI F w b o:=fun _ _ v h hv=>⟨h,v,hv⟩
def thE (s:Nm.St)(xs:List Tm)(n:Nat)(bs:List Ty)(k i:Int)(a:List Tm)(ins:Int):List (Key×D):=
  [(.t 2,.v (.int .i64 ins)),(.t 3,.p 2 0),(.t 4,.p 3 0),(.t 6,.p 4 0),(.t 7,.p 20 0),(.c 2 0,.p 0 0),(.c 2 1,.sl 4 (eTms xs) none),(.c 2 2,.v (.int .i64 n)),(.c 3 0,.sl 2 (eTys bs) none),(.c 3 1,.v (.int .i64 k)),(.c 3 2,.v (.int .i64 i)),(.c 3 3,.sl 4 (eTms a) none),
   (.c 4 0,.v (.slice none 0 0)),(.c 4 1,.v (.int .i64 0)),(.c 4 2,.v (.int .i64 0)),(.c 4 3,.v (.slice none 0 0)),(.c 20 0,.sl 2 (eTys bs) none),(.c 20 1,.v (.int .i64 k)),(.c 20 2,.v (.int .i64 i)),
   (.c 0 0,.o 1),(.c 0 1,.v (.int .i64 s.count)),(.c 0 2,.v (.int .i64 s.e)),(.o 1,.ob (BudJ s.left s.dry))]
set_option maxHeartbeats 4000000 in
theorem thr_step {f:Nat}(s:Nm.St)(ih:(Nm.unit s).1=true→ThrD f)(xs:List Tm)(n:Nat)(t:Tm)(ins:Int)(hs:WkOk s)(hf:s.e=0→100001-s.count≤(f+1:Nat))(ht:Wide t)(hx:∀ a∈xs,Wide a)(hn:xs.length≤n)(hn2:n≤100000):
  CallC Tryz.prog 202 [.ag [.p 0 0,.sl 4 (eTms xs) none,.v (.int .i64 n)],.ag (eTm t),.v (.int .i64 ins)] (wkE s) (wkE (Nm.through (f+1) xs n t ins s).2) (.ag (eTm (Nm.through (f+1) xs n t ins s).1)):=by
 obtain⟨bs,k,i,a⟩:=t
 obtain⟨w1,w2,w3⟩:=ht.inv
 obtain⟨p,hp⟩:∃ p,Nm.through (f+1) xs n (.mk bs k i a) ins s=p:=⟨_,rfl⟩
 have hun:=unit_d s hs
 obtain⟨hc1,hc2⟩:=Nm.unit_count s
 have hs1:=unit_wk hs
 obtain⟨u,hu⟩:∃ u,Nm.unit s=u:=⟨_,rfl⟩
 have hp':p=if u.1=true then Nm.hit (Nm.through f) xs n (.mk bs k i a) (IntKind.i64.wrap (ins+(bs.length:Int))) (Nm.seqM (fun a s=>Nm.through f xs n a (IntKind.i64.wrap (ins+(bs.length:Int))) s) a u.2).1 (Nm.seqM (fun a s=>Nm.through f xs n a (IntKind.i64.wrap (ins+(bs.length:Int))) s) a u.2).2 else (Nm.tz,u.2):=by
  rw[←hp,←hu,←wr_wrap];rfl
 rw[hu] at hun hc1 hc2 hs1 ih
 rw[hp,eTm_eq]
 clear hp hu
 obtain⟨b,s1⟩:=u
 dsimp only at hun hc1 hc2 hs1 hp' ih
 refine call_of_dw 2 125 [ResultVar.cell 6 62] TN2_ok (by kernel_rfl) Tryz.func202 rfl Tryz.ntmps202 rfl (by simp) ?dwords ?dbody
 case dwords=>simp[wordsOk,wkE,D.ok,D.oks,rnames,inN,ckey,eTm_ok,eTms_ok,eTys_ok]
 case dbody=>
  intro cx hnt hn0
  dsimp only[Tm.binds,Tm.kind,Tm.index,Tm.args]
  refine dw_seq ?_;refine dwk [] TN2_ok hnt fun _ z9=>z9 _ _ ?_
  cases b with
  | false=>
   rw[if_neg (by simp)] at hp';refine dw_seq (dw_seq ?_);refine dwk [] TN2_ok hnt fun K hK=>?_;refine dcl (hun) ?_;refine hK _ _ ?_;clear hK K;refine dw_cond (t:=true) rfl ?_;rw[if_pos rfl];refine dw_seq ?_;refine dwk [] TN2_ok hnt fun _ z9=>z9 _ _ ?_;refine dw_ret ?_
   rw[hp',tz_eq]
   exact retv (N:=0) (.inr rfl) rfl (by repeat first | exact VLe.refl _ | exact VLe.nil _ | exact VLe.untag _ _ _ | refine VLe.ag ?_ | refine VLe.tu ?_ | refine VLeL.cons ?_ ?_ | exact VLeL.nil) (by repeat first | exact trivial | refine And.intro rfl ?_)
  | true=>
   rw[if_pos rfl] at hp'
   obtain⟨hc2,he,he1⟩:=hc2 rfl
   have ih:=ih rfl
   have hf1:=hf he
   clear hf hs
   refine dw_seq (dw_seq ?_);refine dwk [] TN2_ok hnt fun K hK=>?_;refine dcl (hun) ?_;refine hK _ _ ?_;clear hK K;refine dw_cond (t:=false) rfl ?_;rw[if_neg (by simp)];refine dw_skip ?_
   obtain⟨m,hm⟩:∃ m,IntKind.i64.wrap (ins+(bs.length:Int))=m:=⟨_,rfl⟩
   rw[hm] at hp'
   obtain⟨g,hg⟩:∃ g:Tm→Nm.St→Tm×Nm.St,(fun a s=>Nm.through f xs n a m s)=g:=⟨_,rfl⟩
   rw[hg] at hp'
   refine dw_seq ?_;refine dwk [(23,.v (.int .i64 m))] TN2_ok hnt fun K hK=>?_;refine And.intro (VLe.of_eq (by rw[eTys_len,hm])) ?_;refine hK _ _ ?_;clear hK K
   refine dw_cut (τ:=(.c 20 3,.v (.slice none 0 0)) :: thE s1 xs n bs k i a m) (N1:=21) ?_ ?_
   ·skip
    refine dwk [] TN2_ok hnt fun _ z9=>z9 _ _ ?_
    exact cut_ok VS.toA
   ·dsimp only[thE]
    refine dw_seq ?_;refine dw_seq ?_;refine dwk [(31,.v (.int .i64 a.length))] TN2_ok hnt fun K hK=>?_;refine And.intro (dintE (by rw[eTms_len])) ?_;refine hK _ _ ?_;clear hK K;refine dw_block ?_
    refine dw_loop (ι:=Nat) (fun j=>(.t 30,.sl 4 (eTms a) none) :: (.t 31,.v (.int .i64 a.length)) :: (.t 32,.v (.int .i64 j)) :: (.c 20 3,.sl 4 (eTms (Nm.seqM g (a.take j) s1).1) (some 25)) :: (.r 25,.rw 62 4 j) :: thE (Nm.seqM g (a.take j) s1).2 xs n bs k i a m) 26 (fun j=>a.length-j) 0 (VS.trans (VS.row (k:=20) (off:=3) 62 4 rfl) VS.toA) fun j=>?_
    dsimp only[thE]
    have hst:WkOk (Nm.seqM g (a.take j) s1).2:=seqM_wk (fun t s h=>by rw[←hg];exact through_wk f _ _ _ _ _ h) _ _ hs1
    have hsc:s1.count≤(Nm.seqM g (a.take j) s1).2.count:=Nm.seqM_count (fun t s=>by rw[←hg];exact Nm.through_count f _ _ _ _ _) _ _
    have hwd:∀ t∈(Nm.seqM g (a.take j) s1).1,Wide t:=Nm.seqM_wide (fun t s h=>by rw[←hg];exact Nm.through_wide f _ _ _ _ _ h hx) _ (fun t h=>w3 t (List.mem_of_mem_take h)) _
    have hll:(Nm.seqM g (a.take j) s1).1.length=(a.take j).length:=Nm.seqM_length ..
    refine dw_seq ?_
    by_cases hlt:j<a.length
    ·have hcon:=ih (Nm.seqM g (a.take j) s1).2 xs n a[j] m hst (fun _=>by omega) (w3 _ (List.getElem_mem hlt)) hx hn hn2
     have hg2:Nm.through f xs n a[j] m (Nm.seqM g (a.take j) s1).2=g a[j] (Nm.seqM g (a.take j) s1).2:=by rw[←hg]
     rw[hg2] at hcon
     have hsq:=Nm.seqM_take g a j hlt s1
     rw[eTm_eq,eTm_eq] at hcon
     refine dwk [(33,.v (.bool true))] TN2_ok hnt fun K hK=>?_;refine And.intro (dtrue (by omega)) ?_;refine hK _ _ ?_;clear hK K;refine dw_seq (dw_cond (t:=true) rfl ?_);rw[if_pos rfl];refine dw_skip (dw_seq (dw_block (dw_seq ?_)));refine dwk [(34,.q [.sl 2 (eTys a[j].binds) none,.v (.int .i64 a[j].kind),.v (.int .i64 a[j].index),.sl 4 (eTms a[j].args) none])] TN2_ok hnt fun K hK=>?_
     refine And.intro (⟨by omega,by rw[eTms_len];omega⟩) ?_;refine And.intro (VLe.of_eq (by rw[Int.toNat_natCast,eTms_getD a j hlt,eTm_eq])) ?_;refine hK _ _ ?_;clear hK K;refine dwkD [(43,.sl 4 (eTms (Nm.seqM g (a.take (j+1)) s1).1) (some 25))] TN2_ok hnt fun K hK=>?_;refine dcl (hcon) ?_;refine And.intro (⟨by rw[eTms_len,hll,List.length_take];omega,by rw[eTms_len,hll,List.length_take];simp;omega⟩) ?_
     refine And.intro (VLe.of_eq (by rw[hsq,eTms_append,eTms,eTms,eTm_eq (g a[j] _).1])) ?_;refine hK _ _ (by kernel_rfl) ?_;clear hK K;refine dwk [(45,.v (.int .i64 ((j+1:Nat):Int)))] TN2_ok hnt fun K hK=>?_;refine And.intro (dintE (by rw[IntWalk.i64_in _ (by omega)];omega)) ?_;refine hK _ _ ?_;clear hK K
     refine⟨j+1,by omega,?_⟩
     have hl2:(eTms (Nm.seqM g (a.take j) s1).1).length=j:=by rw[eTms_len,hll,List.length_take];omega
     rw[hsq]
     exact(by try simp only[List.length_append,List.length_take,List.length_cons,List.length_nil,Nat.zero_add,hl2];exact VS.toA)
    ·rw[List.take_of_length_le (by omega)] at hst hsc hwd hll ⊢
     obtain⟨q,hq⟩:∃ q,Nm.seqM g a s1=q:=⟨_,rfl⟩
     rw[hq] at hst hsc hwd hll hp' ⊢
     clear hq
     obtain⟨as',s2⟩:=q
     dsimp only at hst hsc hwd hll hp' ⊢
     have hen:=eTms_len as'
     obtain⟨left,dry,count,er⟩:=s2
     dsimp only at hsc hst hp' ⊢
     refine dwk [(33,.v (.bool false))] TN2_ok hnt fun K hK=>?_;refine And.intro (dfalse (by omega)) ?_;refine hK _ _ ?_;clear hK K;refine dw_seq (dw_cond (t:=false) rfl ?_);rw[if_neg (by simp)];refine dw_exit ?_;refine dw_seq ?_;refine dw_seq ?_
     by_cases hk:k≠0
     ·have hp2:p=(.mk bs k i as',⟨left,dry,count,er⟩):=by
       rw[hp'];unfold Nm.hit;exact if_pos (.inl hk)
      refine dwk [(49,.v (.bool true))] TN2_ok hnt fun K hK=>?_;refine And.intro (VLe.of_eq (by simp[hk])) ?_;refine hK _ _ ?_;clear hK K;refine dw_cond (t:=true) rfl ?_;rw[if_pos rfl];refine dw_seq ?_;refine dwk [] TN2_ok hnt fun _ z9=>z9 _ _ ?_;refine dw_ret ?_
      rw[hp2,eTm_eq]
      exact retv (N:=0) (.inr rfl) rfl (by repeat first | exact VLe.refl _ | exact VLe.nil _ | exact VLe.untag _ _ _ | refine VLe.ag ?_ | refine VLe.tu ?_ | refine VLeL.cons ?_ ?_ | exact VLeL.nil) (by repeat first | exact trivial | refine And.intro rfl ?_)
     ·have hk:k=0:=by simpa using hk
      by_cases hi:i<m
      ·have hp2:p=(.mk bs k i as',⟨left,dry,count,er⟩):=by
        rw[hp'];unfold Nm.hit;exact if_pos (.inr hi)
       refine dwk [(49,.v (.bool false)),(55,.v (.bool true))] TN2_ok hnt fun K hK=>?_;refine And.intro (VLe.of_eq (by simp[hk])) ?_;refine And.intro (dtrue hi) ?_;refine hK _ _ ?_;clear hK K;refine dw_cond (t:=true) rfl ?_;rw[if_pos rfl];refine dw_seq ?_;refine dwk [] TN2_ok hnt fun _ z9=>z9 _ _ ?_;refine dw_ret ?_
       rw[hp2,eTm_eq]
       exact retv (N:=0) (.inr rfl) rfl (by repeat first | exact VLe.refl _ | exact VLe.nil _ | exact VLe.untag _ _ _ | refine VLe.ag ?_ | refine VLe.tu ?_ | refine VLeL.cons ?_ ?_ | exact VLeL.nil) (by repeat first | exact trivial | refine And.intro rfl ?_)
      ·skip
       refine dwk [(49,.v (.bool false)),(55,.v (.bool false))] TN2_ok hnt fun K hK=>?_;refine And.intro (VLe.of_eq (by simp[hk])) ?_;refine And.intro (dfalse hi) ?_;refine hK _ _ ?_;clear hK K;refine dw_cond (t:=false) rfl ?_;rw[if_neg (by simp)];refine dw_skip ?_
       obtain⟨d,hd⟩:∃ d,IntKind.i64.wrap (i-m)=d:=⟨_,rfl⟩
       have hp2:p=if d<(n:Int)-xs.length then (.mk bs k i as',⟨left,dry,count,er⟩) else if (n:Int)≤d then (.mk bs k (IntKind.i64.wrap (i-xs.length)) as',⟨left,dry,count,er⟩) else
         let u:=Nm.grown (xs.getD ((n:Int)-1-d).toNat Nm.tz) (IntKind.i64.wrap (IntKind.i64.wrap (m+n)-xs.length))
         if u.binds.length≠as'.length then (Nm.tz,Nm.fail ⟨left,dry,count,er⟩ 1) else let r:=Nm.putW (Nm.through f) u as' ⟨left,dry,count,er⟩;(.mk bs r.1.kind r.1.index r.1.args,r.2):=by
        rw[hp',←hd,←wr_wrap,←wr_wrap,←wr_wrap,←wr_wrap]
        unfold Nm.hit
        exact if_neg (fun h=>h.elim (fun h=>h hk) hi)
       clear hp'
       refine dw_seq ?_;refine dwk [(60,.v (.int .i64 xs.length))] TN2_ok hnt fun K hK=>?_;refine And.intro (dintE (by rw[eTms_len])) ?_;refine hK _ _ ?_;clear hK K;refine dw_seq (dw_seq ?_);refine dwk [(65,.v (.int .i64 d))] TN2_ok hnt fun K hK=>?_;refine And.intro (dintE hd) ?_;refine hK _ _ ?_;clear hK K;refine dw_block (dw_seq ?_)
       by_cases h1:d<(n:Int)-xs.length
       ·rw[if_pos h1] at hp2;refine dwk [(110,.v (.int .i64 ((n:Int)-xs.length))),(111,.v (.bool true))] TN2_ok hnt fun K hK=>?_;refine And.intro (dintE (IntWalk.i64_in _ (by omega))) ?_;refine And.intro (dtrue h1) ?_;refine hK _ _ ?_;clear hK K;refine dw_cond (t:=true) rfl ?_;rw[if_pos rfl];refine dw_skip ?_;refine dw_seq ?_;refine dwk [] TN2_ok hnt fun _ z9=>z9 _ _ ?_
        refine dw_ret ?_
        rw[hp2,eTm_eq]
        exact retv (N:=0) (.inr rfl) rfl (by repeat first | exact VLe.refl _ | exact VLe.nil _ | exact VLe.untag _ _ _ | refine VLe.ag ?_ | refine VLe.tu ?_ | refine VLeL.cons ?_ ?_ | exact VLeL.nil) (by repeat first | exact trivial | refine And.intro rfl ?_)
       ·rw[if_neg h1] at hp2;refine dwk [(110,.v (.int .i64 ((n:Int)-xs.length))),(111,.v (.bool false))] TN2_ok hnt fun K hK=>?_;refine And.intro (dintE (IntWalk.i64_in _ (by omega))) ?_;refine And.intro (dfalse h1) ?_;refine hK _ _ ?_;clear hK K;refine dw_cond (t:=false) rfl ?_;rw[if_neg (by simp)];refine dw_seq ?_
        by_cases h2:(n:Int)≤d
        ·rw[if_pos h2] at hp2;refine dwk [(116,.v (.bool true))] TN2_ok hnt fun K hK=>?_;refine And.intro (dtrue h2) ?_;refine hK _ _ ?_;clear hK K;refine dw_cond (t:=true) rfl ?_;rw[if_pos rfl];refine dwk [] TN2_ok hnt fun _ z9=>z9 _ _ ?_;refine dw_seq ?_;refine dwk [] TN2_ok hnt fun _ z9=>z9 _ _ ?_;refine dw_ret ?_
         rw[hp2,eTm_eq]
         exact retv (N:=0) (.inr rfl) rfl (by repeat first | exact VLe.refl _ | exact VLe.nil _ | exact VLe.untag _ _ _ | refine VLe.ag ?_ | refine VLe.tu ?_ | refine VLeL.cons ?_ ?_ | exact VLeL.nil) (by repeat first | exact trivial | refine And.intro rfl ?_)
        ·rw[if_neg h2] at hp2;refine dwk [(116,.v (.bool false))] TN2_ok hnt fun K hK=>?_;refine And.intro (dfalse h2) ?_;refine hK _ _ ?_;clear hK K;refine dw_cond (t:=false) rfl ?_;rw[if_neg (by simp)]
         have hdx:((n:Int)-1-d).toNat<xs.length:=by omega
         obtain⟨x0,hx0⟩:∃ x0,xs[((n:Int)-1-d).toNat]=x0:=⟨_,rfl⟩
         have hx1:(eTms xs).getD ((n:Int)-1-d).toNat []=eTm x0:=by rw[eTms_getD xs _ hdx,hx0]
         have hx2:xs.getD ((n:Int)-1-d).toNat Nm.tz=x0:=by rw[List.getD_eq_getElem?_getD,List.getElem?_eq_getElem hdx,←hx0];rfl
         have hxw:Wide x0:=hx _ (hx0 ▸ List.getElem_mem hdx)
         obtain⟨y,hy⟩:∃ y,IntKind.i64.wrap (IntKind.i64.wrap (m+n)-xs.length)=y:=⟨_,rfl⟩
         have hgr:=grown_nd x0 hxw y
         have huw:=Nm.grown_wide hxw y
         rw[hx2,hy] at hp2
         obtain⟨v,hv⟩:∃ v,Nm.grown x0 y=v:=⟨_,rfl⟩
         rw[hv] at hp2 hgr huw
         dsimp only at hp2
         rw[eTm_eq,eTm_eq] at hgr
         refine dw_seq ?_;refine dwkD [(70,.v (.int .i64 ((n:Int)-1))),(72,.v (.int .i64 ((n:Int)-1-d))),(73,.q [.sl 2 (eTys x0.binds) none,.v (.int .i64 x0.kind),.v (.int .i64 x0.index),.sl 4 (eTms x0.args) none]),(80,.v (.int .i64 y))] TN2_ok hnt fun K hK=>?_;refine And.intro (dintE (IntWalk.i64_in _ (by omega))) ?_;refine And.intro (dintE (IntWalk.i64_in _ (by omega))) ?_;refine And.intro (⟨by omega,by rw[eTms_len];omega⟩) ?_
         refine And.intro (VLe.of_eq (by rw[hx1,eTm_eq])) ?_;refine And.intro (dintE hy) ?_;refine dcl (hgr) ?_;refine hK _ _ (by kernel_rfl) ?_;clear hK K;refine dw_seq (dw_seq ?_)
         by_cases hbl:v.binds.length=as'.length
         ·rw[if_neg (by simp[hbl])] at hp2
          have hput:=put_dd ih ⟨left,dry,count,er⟩ hst (fun _=>by dsimp only;omega) v as' huw hwd
          obtain⟨r,hr⟩:∃ r,Nm.put f v as' ⟨left,dry,count,er⟩=r:=⟨_,rfl⟩
          have hp3:p=(.mk bs r.1.kind r.1.index r.1.args,r.2):=by rw[hp2,←hr];rfl
          rw[hr,eTm_eq,eTm_eq] at hput
          refine dwk [(88,.v (.bool false))] TN2_ok hnt fun K hK=>?_;refine And.intro (VLe.of_eq (by simp[eTys_len,eTms_len,hbl])) ?_;refine hK _ _ ?_;clear hK K;refine dw_cond (t:=false) rfl ?_;rw[if_neg (by simp)];refine dw_skip ?_;refine dw_seq ?_;refine dwk [(97,.sl 4 (eTms as') none)] TN2_ok hnt fun K hK=>?_;refine And.intro (VLe.untag _ _ _) ?_;refine dcl (hput) ?_;refine hK _ _ ?_;clear hK K
          refine dwkD [] TN2_ok hnt fun K hK=>?_;refine hK _ _ (by kernel_rfl) ?_;clear hK K;refine dw_seq ?_;refine dwk [] TN2_ok hnt fun _ z9=>z9 _ _ ?_;refine dw_ret ?_
          rw[hp3,eTm_eq]
          exact retv (N:=0) (.inr rfl) rfl (by repeat first | exact VLe.refl _ | exact VLe.nil _ | exact VLe.untag _ _ _ | refine VLe.ag ?_ | refine VLe.tu ?_ | refine VLeL.cons ?_ ?_ | exact VLeL.nil) (by repeat first | exact trivial | refine And.intro rfl ?_)
         ·rw[if_pos hbl] at hp2;refine dwk [(88,.v (.bool true))] TN2_ok hnt fun K hK=>?_;refine And.intro (VLe.of_eq (by simp[eTys_len,eTms_len];omega)) ?_;refine hK _ _ ?_;clear hK K;refine dw_cond (t:=true) rfl ?_;rw[if_pos rfl];refine dw_seq ?_;refine dwk [] TN2_ok hnt fun K hK=>?_;refine dcl (fail_d ⟨left,dry,count,er⟩ 1) ?_;refine hK _ _ ?_;clear hK K;refine dw_seq ?_;refine dwk [] TN2_ok hnt fun K hK=>?_
          refine hK _ _ ?_;clear hK K;refine dw_ret ?_
          rw[hp2,tz_eq]
          exact retv (N:=0) (.inr rfl) rfl (by repeat first | exact VLe.refl _ | exact VLe.nil _ | exact VLe.untag _ _ _ | refine VLe.ag ?_ | refine VLe.tu ?_ | refine VLeL.cons ?_ ?_ | exact VLeL.nil) (by repeat first | exact trivial | refine And.intro rfl ?_)
theorem thr_all (f:Nat):ThrD f:=by
 induction f with
 | zero=>
  intro s xs n t ins hs hf ht hx hn hn2
  have he:s.e≠0:=fun h=>by have:=hf h;have:=hs.e0 h;omega
  have hu:Nm.unit s=(false,s):=by unfold Nm.unit;exact if_pos he
  have h:=thr_step (f:=0) s (fun h=>by rw[hu] at h;cases h) xs n t ins hs (fun h=>absurd h he) ht hx hn hn2
  have e:Nm.through (0+1) xs n t ins s=Nm.through 0 xs n t ins s:=by
   unfold Nm.through;dsimp only;rw[hu];simp
  rw[e] at h;exact h
 | succ f ih=>exact fun s xs n t ins hs hf ht hx hn hn2=>thr_step s (fun _=>ih) xs n t ins hs hf ht hx hn hn2
theorem put_d (s:Nm.St)(hs:WkOk s)(t:Tm)(xs:List Tm)(ht:Wide t)(hx:∀ a∈xs,Wide a):
  CallC Tryz.prog 193 [.p 0 0,.ag (eTm t),.sl 4 (eTms xs) none] (wkE s) (wkE (Nm.put 100001 t xs s).2) (.ag (eTm (Nm.put 100001 t xs s).1)):=
 put_dd (thr_all 100001) s hs (fun _=>by have:=hs.count;omega) t xs ht hx
def TN3_62:TI:=⟨4,true,[Value.slice none 0 0,Value.int IntKind.i64 0,Value.int IntKind.i64 0,Value.slice none 0 0],[(0,1,false),(1,2,true),(3,1,false)],none,64,6,none,false⟩
theorem TN3_62_ok:TypOk Tryz.prog 62 TN3_62:=by constructor <;> kernel_rfl
def TN3_50:TI:=⟨1,false,[Value.int IntKind.i64 0],[],none,8,2,none,false⟩
theorem TN3_50_ok:TypOk Tryz.prog 50 TN3_50:=by constructor <;> kernel_rfl
def TN3_305:TI:=⟨3,true,[Value.pointer none,Value.int IntKind.i64 0,Value.int IntKind.i64 0],[(0,1,false),(1,1,false),(2,1,false)],none,24,6,none,false⟩
theorem TN3_305_ok:TypOk Tryz.prog 305 TN3_305:=by constructor <;> kernel_rfl
def TN3_303:TI:=⟨1,false,[Value.pointer none],[],none,8,4,none,false⟩
theorem TN3_303_ok:TypOk Tryz.prog 303 TN3_303:=by constructor <;> kernel_rfl
def TN3_233:TI:=⟨1,false,[Value.pointer none],[],none,8,4,none,false⟩
theorem TN3_233_ok:TypOk Tryz.prog 233 TN3_233:=by constructor <;> kernel_rfl
def TN3_60:TI:=⟨1,false,[Value.slice none 0 0],[],some 62,24,5,none,false⟩
theorem TN3_60_ok:TypOk Tryz.prog 60 TN3_60:=by constructor <;> kernel_rfl
def TN3:List (Nat×TI):=[(62,TN3_62),(50,TN3_50),(305,TN3_305),(303,TN3_303),(233,TN3_233),(60,TN3_60)]
theorem TN3_ok:TabOk Tryz.prog TN3:=(((((((TabOk.nil _).cons TN3_60_ok).cons TN3_233_ok).cons TN3_303_ok).cons TN3_305_ok).cons TN3_50_ok).cons TN3_62_ok)
structure DoneOk (t:Tm):Prop where
 right:t.full≤17100000
 copy:t.size≤5000∧t.depth≤60→t.full≤900000∧t.Fit
theorem done_1 {t:Tm}(h:t.size≤5000∧t.depth≤60)(l:Int)(d:Bool)(c:Int):Nm.done (t,⟨l,d,c,0⟩)=(t,⟨l,d,c,0⟩):=by
 have:¬ ((0:Int)=0∧¬ (t.size≤5000∧t.depth≤60)):=fun h'=>h'.2 h
 unfold Nm.done;dsimp only;rw[if_neg this];simp
theorem done_2 {t:Tm}(h:¬ (t.size≤5000∧t.depth≤60))(l:Int)(d:Bool)(c:Int):Nm.done (t,⟨l,d,c,0⟩)=(Nm.tz,⟨l,d,c,2⟩):=by
 have:(0:Int)=0∧¬ (t.size≤5000∧t.depth≤60):=⟨rfl,h⟩
 unfold Nm.done;dsimp only;rw[if_pos this];rfl
theorem done_3 {t:Tm}{e:Int}(h:e≠0)(l:Int)(d:Bool)(c:Int):Nm.done (t,⟨l,d,c,e⟩)=(Nm.tz,⟨l,d,c,e⟩):=by
 have:¬ (e=0∧¬ (t.size≤5000∧t.depth≤60)):=fun h'=>h h'.1
 unfold Nm.done;dsimp only;rw[if_neg this];exact if_pos h
theorem done_d (s:Nm.St)(t:Tm)(ho:s.e=0→DoneOk t):CallC Tryz.prog 192 [.p 0 0,.ag (eTm t)] (wkE s) (wkE (Nm.done (t,s)).2) (.tu [.ag (eTm (Nm.done (t,s)).1),.v (.int .i64 (Nm.done (t,s)).2.e)]):=by
 obtain⟨left,dry,count,er⟩:=s
 obtain⟨p,hp⟩:∃ p,Nm.done (t,⟨left,dry,count,er⟩)=p:=⟨_,rfl⟩
 rw[hp]
 have hpd:=hp.symm
 clear hp
 dsimp only at ho
 have hrt:er=0→PureC Tryz.prog 34 [.ag (eTm t)] (.v (.bool (decide (t.size≤5000∧t.depth≤60)))):=fun h=>right_d t (by have:=(ho h).right;omega)
 have hcp:er=0→(t.size≤5000∧t.depth≤60)→PureC Tryz.prog 96 [.ag (eTm t)] (.ag (eTm t)):=fun h h'=>copyW_d t ((ho h).copy h').1 ((ho h).copy h').2
 obtain⟨bs,k,i,a⟩:=t
 refine call_of_dw 2 30 [ResultVar.cell 4 62,ResultVar.tmp 5] TN3_ok (by kernel_rfl) Tryz.func192 rfl Tryz.ntmps192 rfl (by simp) ?dwords ?dbody
 case dwords=>simp[wordsOk,wkE,D.ok,D.oks,rnames,inN,ckey,eTm_ok,eTms_ok,eTys_ok]
 case dbody=>
  intro cx hnt hn0
  refine dw_seq ?_;refine dwk [] TN3_ok hnt fun _ z9=>z9 _ _ ?_;refine dw_seq (dw_seq ?_)
  by_cases he:er=0
  ·subst he
   have hrt:=hrt rfl
   have hcp:=hcp rfl
   by_cases hR:(Tm.mk bs k i a).size≤5000∧(Tm.mk bs k i a).depth≤60
   ·have hcp:=hcp hR
    rw[done_1 hR] at hpd
    subst hpd
    simp only[hR,and_self,decide_true] at hrt
    refine dwk [(10,.v (.bool true))] TN3_ok hnt fun K hK=>?_;refine And.intro (VLe.refl _) ?_;refine dcl (hrt) ?_;refine hK _ _ ?_;clear hK K;refine dw_cond (t:=false) rfl ?_;rw[if_neg (by simp)];refine dw_skip ?_;refine dw_seq (dw_seq ?_);refine dwk [(22,.v (.bool false))] TN3_ok hnt fun K hK=>?_;refine And.intro (VLe.refl _) ?_;refine hK _ _ ?_;clear hK K;refine dw_cond (t:=false) rfl ?_
    rw[if_neg (by simp)];refine dw_skip ?_;refine dw_seq ?_;refine dwk [] TN3_ok hnt fun K hK=>?_;refine dcl (hcp) ?_;refine hK _ _ ?_;clear hK K;refine dw_ret ?_
    exact retv (N:=0) (.inr rfl) rfl (by repeat first | exact VLe.refl _ | exact VLe.nil _ | exact VLe.untag _ _ _ | refine VLe.ag ?_ | refine VLe.tu ?_ | refine VLeL.cons ?_ ?_ | exact VLeL.nil) (by repeat first | exact trivial | refine And.intro rfl ?_)
   ·rw[done_2 hR] at hpd
    subst hpd
    have hd:decide ((Tm.mk bs k i a).size≤5000∧(Tm.mk bs k i a).depth≤60)=false:=decide_eq_false hR
    rw[hd] at hrt
    have hf:CallC _ _ _ _ (wkE ⟨left,dry,count,2⟩) _:=fail_d ⟨left,dry,count,0⟩ 2
    refine dwk [(10,.v (.bool true))] TN3_ok hnt fun K hK=>?_;refine And.intro (VLe.refl _) ?_;refine dcl (hrt) ?_;refine hK _ _ ?_;clear hK K;refine dw_cond (t:=true) rfl ?_;rw[if_pos rfl];refine dwk [] TN3_ok hnt fun K hK=>?_;refine dcl (hf) ?_;refine hK _ _ ?_;clear hK K;refine dw_seq (dw_seq ?_);refine dwk [(22,.v (.bool true))] TN3_ok hnt fun K hK=>?_;refine And.intro (VLe.refl _) ?_
    refine hK _ _ ?_;clear hK K;refine dw_cond (t:=true) rfl ?_;rw[if_pos rfl];refine dw_seq ?_;refine dwkD [] TN3_ok hnt fun K hK=>?_;refine hK _ _ (by kernel_rfl) ?_;clear hK K;refine dw_ret ?_
    rw[tz_eq]
    exact retv (N:=0) (.inr rfl) rfl (by repeat first | exact VLe.refl _ | exact VLe.nil _ | exact VLe.untag _ _ _ | refine VLe.ag ?_ | refine VLe.tu ?_ | refine VLeL.cons ?_ ?_ | exact VLeL.nil) (by repeat first | exact trivial | refine And.intro rfl ?_)
  ·rw[done_3 he] at hpd
   subst hpd
   refine dwk [(10,.v (.bool false))] TN3_ok hnt fun K hK=>?_;refine And.intro (dfalse he) ?_;refine hK _ _ ?_;clear hK K;refine dw_cond (t:=false) rfl ?_;rw[if_neg (by simp)];refine dw_skip ?_;refine dw_seq (dw_seq ?_);refine dwk [(22,.v (.bool true))] TN3_ok hnt fun K hK=>?_;refine And.intro (VLe.of_eq (by simp[he])) ?_;refine hK _ _ ?_;clear hK K;refine dw_cond (t:=true) rfl ?_
   rw[if_pos rfl];refine dw_seq ?_;refine dwkD [] TN3_ok hnt fun K hK=>?_;refine hK _ _ (by kernel_rfl) ?_;clear hK K;refine dw_ret ?_
   rw[tz_eq]
   exact retv (N:=0) (.inr rfl) rfl (by repeat first | exact VLe.refl _ | exact VLe.nil _ | exact VLe.untag _ _ _ | refine VLe.ag ?_ | refine VLe.tu ?_ | refine VLeL.cons ?_ ?_ | exact VLeL.nil) (by repeat first | exact trivial | refine And.intro rfl ?_)
def wkR (kw kb:Nat)(s:Nm.St):List (Key×D):=[(.c kw 0,.o kb),(.c kw 1,.v (.int .i64 s.count)),(.c kw 2,.v (.int .i64 s.e)),(.o kb,.ob (BudJ s.left s.dry))]
def ren2 (kw kb:Nat):Nat→Nat:=fun k=>if k=0 then kw else kb
theorem put_at (kw kb:Nat)(hk:kw≠kb)(s:Nm.St)(hs:WkOk s)(t:Tm)(xs:List Tm)(ht:Wide t)(hx:∀ a∈xs,Wide a):
  CallC Tryz.prog 193 [.p kw 0,.ag (eTm t),.sl 4 (eTms xs) none] (wkR kw kb s) (wkR kw kb (Nm.put 100001 t xs s).2) (.ag (eTm (Nm.put 100001 t xs s).1)):=by
 have h:=(put_d s hs t xs ht hx).ren (ren2 kw kb) (by simp[renOk,wkE,D.ok,D.oks,rnames,inN,ckey,eTm_ok,eTms_ok,eTys_ok]) (by
  intro k h1 k' h2
  simp[rnames,wkE] at h1 h2
  rcases h1 with rfl | rfl <;> rcases h2 with rfl | rfl <;> simp[ren2,hk,hk.symm])
 simpa[D.ren,eTm_ren,eTms_ren,wkE,wkR,renE,Key.ren,ren2] using h
theorem done_at (kw kb:Nat)(hk:kw≠kb)(s:Nm.St)(t:Tm)(ho:s.e=0→DoneOk t):CallC Tryz.prog 192 [.p kw 0,.ag (eTm t)] (wkR kw kb s) (wkR kw kb (Nm.done (t,s)).2) (.tu [.ag (eTm (Nm.done (t,s)).1),.v (.int .i64 (Nm.done (t,s)).2.e)]):=by
 have h:=(done_d s t ho).ren (ren2 kw kb) (by simp[renOk,wkE,D.ok,D.oks,rnames,inN,ckey,eTm_ok,eTms_ok,eTys_ok]) (by
  intro k h1 k' h2
  simp[rnames,wkE] at h1 h2
  rcases h1 with rfl | rfl <;> rcases h2 with rfl | rfl <;> simp[ren2,hk,hk.symm])
 simpa[D.ren,D.rens,eTm_ren,eTms_ren,wkE,wkR,renE,Key.ren,ren2] using h
theorem Put_d (t:Tm)(xs:List Tm)(left:Int)(dry:Bool)(h0:0≤left)(h1:left≤1000000000)(ht:Wide t)(hx:∀ a∈xs,Wide a)(ho:(Nm.put 100001 t xs ⟨left,dry,0,0⟩).2.e=0→DoneOk (Nm.put 100001 t xs ⟨left,dry,0,0⟩).1):
  CallC Tryz.prog 180 [.ag (eTm t),.o 1,.sl 4 (eTms xs) none] [(.o 1,.ob (BudJ left dry))] [(.o 1,.ob (BudJ (Nm.Put t xs left dry).2.left (Nm.Put t xs left dry).2.dry))] (.tu [.ag (eTm (Nm.Put t xs left dry).1),.v (.int .i64 (Nm.Put t xs left dry).2.e)]):=by
 have hput:=put_at 9 1 (by decide) ⟨left,dry,0,0⟩ ⟨⟨h0,h1⟩,⟨Int.le_refl 0,(by decide:(0:Int)≤100001)⟩,fun _=>(by decide:(0:Int)≤100000)⟩ t xs ht hx
 obtain⟨q,hq⟩:∃ q,Nm.put 100001 t xs ⟨left,dry,0,0⟩=q:=⟨_,rfl⟩
 have hP:Nm.Put t xs left dry=Nm.done (q.1,q.2):=by rw[←hq];rfl
 rw[hq] at hput ho
 rw[hP]
 have hdone:=done_at 9 1 (by decide) q.2 q.1 ho
 clear hP hq
 obtain⟨qt,qs⟩:=q
 dsimp only at hput hdone ⊢
 obtain⟨r,hr⟩:∃ r,Nm.done (qt,qs)=r:=⟨_,rfl⟩
 rw[hr] at hdone ⊢
 clear hr ho
 obtain⟨rt,rs⟩:=r
 dsimp only at hdone ⊢
 rw[eTm_eq] at hput
 rw[eTm_eq,eTm_eq rt] at hdone
 rw[eTm_eq rt]
 rw[eTm_eq] at hput
 rw[eTm_eq]
 refine call_of_dw 2 23 [ResultVar.cell 6 62,ResultVar.tmp 7] TN3_ok (by kernel_rfl) Tryz.func180 rfl Tryz.ntmps180 rfl (by simp) ?dwords ?dbody
 case dwords=>simp[wordsOk,D.ok,D.oks,rnames,inN,ckey,eTm_ok,eTms_ok,eTys_ok]
 case dbody=>
  intro cx hnt hn0
  refine dw_seq ?_;refine dwk [] TN3_ok hnt fun _ z9=>z9 _ _ ?_;refine dw_seq (dw_seq ?_);refine dwk [] TN3_ok hnt fun _ z9=>z9 _ _ ?_;refine dw_cond (t:=false) rfl ?_;rw[if_neg (by simp)];refine dw_skip ?_;refine dw_seq ?_;refine dwk [] TN3_ok hnt fun _ z9=>z9 _ _ ?_;refine dw_seq ?_;refine dwk [] TN3_ok hnt fun K hK=>?_
  refine dcl (hput) ?_;refine dcl (hdone) ?_;refine hK _ _ ?_;clear hK K;refine dw_ret ?_
  exact retv (N:=0) (.inr rfl) rfl (by repeat first | exact VLe.refl _ | exact VLe.nil _ | exact VLe.untag _ _ _ | refine VLe.ag ?_ | refine VLe.tu ?_ | refine VLeL.cons ?_ ?_ | exact VLeL.nil) (by repeat first | exact trivial | refine And.intro rfl ?_)
def TS1_3:TI:=⟨1,false,[Value.int IntKind.i64 0],[],none,8,2,none,false⟩
theorem TS1_3_ok:TypOk Tryz.prog 3 TS1_3:=by constructor <;> kernel_rfl
def TS1_110:TI:=⟨5,true,[Value.int IntKind.i64 0,Value.slice none 0 0,Value.int IntKind.i64 0,Value.int IntKind.i64 0,Value.slice none 0 0],[(0,1,false),(1,4,true)],none,72,6,none,false⟩
theorem TS1_110_ok:TypOk Tryz.prog 110 TS1_110:=by constructor <;> kernel_rfl
def TS1_84:TI:=⟨1,false,[Value.slice none 0 0],[],some 110,24,5,none,false⟩
theorem TS1_84_ok:TypOk Tryz.prog 84 TS1_84:=by constructor <;> kernel_rfl
def TS1_291:TI:=⟨1,false,[Value.nilFunc],[],none,8,8,none,false⟩
theorem TS1_291_ok:TypOk Tryz.prog 291 TS1_291:=by constructor <;> kernel_rfl
def TS1:List (Nat×TI):=[(3,TS1_3),(110,TS1_110),(84,TS1_84),(291,TS1_291)]
theorem TS1_ok:TabOk Tryz.prog TS1:=(((((TabOk.nil _).cons TS1_291_ok).cons TS1_84_ok).cons TS1_110_ok).cons TS1_3_ok)
def ePair (p:Int×Tm):List D:=.v (.int .i64 p.1) :: eTm p.2
def ePairs (l:List (Int×Tm)):List (List D):=l.map ePair
theorem ePair_eq (p:Int×Tm):ePair p=[.v (.int .i64 p.1),.sl 2 (eTys p.2.binds) none,.v (.int .i64 p.2.kind),.v (.int .i64 p.2.index),.sl 4 (eTms p.2.args) none]:=by unfold ePair;rw[eTm_eq]
theorem ePairs_len (l:List (Int×Tm)):(ePairs l).length=l.length:=List.length_map ..
theorem ePairs_getD (l:List (Int×Tm))(i:Nat)(h:i<l.length):(ePairs l).getD i []=ePair l[i]:=by
 rw[ePairs,List.getD_eq_getElem?_getD,List.getElem?_map,List.getElem?_eq_getElem h];rfl
@[simp] theorem ePair_ok (f g:Nat→Bool) (p:Int×Tm):D.oks f g (ePair p)=true:=by simp[ePair,D.oks,D.ok,eTm_ok]
@[simp] theorem ePairs_ok (f g:Nat→Bool) (l:List (Int×Tm)):D.okss f g (ePairs l)=true:=D.okss_map ePair l fun p _=>ePair_ok f g p
theorem ePairs_ren (ρ:Nat→Nat)(l:List (Int×Tm)):D.renss ρ (ePairs l)=ePairs l:=D.renss_id (f:=fun _=>false) (g:=fun _=>false) (fun _ h=>by cases h) _ (ePairs_ok _ _ l)
def cmpI (a b:Int):Int:=if a<b then -1 else if b<a then 1 else 0
theorem isNaN_d (a:Int):PureC Tryz.prog 173 [.v (.int .i64 a)] (.v (.bool false)):=by
 refine call_of_dw 0 6 [ResultVar.tmp 2] TS1_ok (by kernel_rfl) Tryz.func173 rfl Tryz.ntmps173 rfl (by simp) ?dwords ?dbody
 case dwords=>simp[wordsOk,D.ok,D.oks,rnames]
 case dbody=>
  intro cx hnt hn0
  refine dw_seq ?_;refine dwk [] TS1_ok hnt fun _ z9=>z9 _ _ ?_;refine dw_seq ?_;refine dwk [(5,.v (.bool false))] TS1_ok hnt fun K hK=>?_;refine And.intro (VLe.of_eq (by simp)) ?_;refine hK _ _ ?_;clear hK K;refine dw_ret ?_
  exact retv (N:=0) (.inr rfl) rfl (VLe.refl _) trivial
theorem compare_d (a b:Int):PureC Tryz.prog 156 [.v (.int .i64 a),.v (.int .i64 b)] (.v (.int .i64 (cmpI a b))):=by
 refine call_of_dw 0 20 [ResultVar.tmp 4] TS1_ok (by kernel_rfl) Tryz.func156 rfl Tryz.ntmps156 rfl (by simp) ?dwords ?dbody
 case dwords=>simp[wordsOk,D.ok,D.oks,rnames]
 case dbody=>
  intro cx hnt hn0
  refine dw_seq ?_;refine dwk [] TS1_ok hnt fun _ z9=>z9 _ _ ?_;refine dw_seq ?_;refine dwk [] TS1_ok hnt fun K hK=>?_;refine dcl (isNaN_d a) ?_;refine hK _ _ ?_;clear hK K;refine dw_seq ?_;refine dwk [] TS1_ok hnt fun K hK=>?_;refine dcl (isNaN_d b) ?_;refine hK _ _ ?_;clear hK K;refine dw_seq (dw_seq ?_);refine dwk [] TS1_ok hnt fun _ z9=>z9 _ _ ?_
  refine dw_cond (t:=false) rfl ?_;rw[if_neg (by simp)];refine dw_skip ?_;refine dw_seq (dw_seq ?_);refine dwk [] TS1_ok hnt fun _ z9=>z9 _ _ ?_;refine dw_cond (t:=false) rfl ?_;rw[if_neg (by simp)];refine dw_skip ?_;refine dw_seq (dw_seq ?_)
  by_cases h1:a<b
  ·have hc:cmpI a b=-1:=if_pos h1
   rw[hc]
   refine dwk [(16,.v (.bool true))] TS1_ok hnt fun K hK=>?_;refine And.intro (dtrue h1) ?_;refine hK _ _ ?_;clear hK K;refine dw_cond (t:=true) rfl ?_;rw[if_pos rfl];refine dw_seq ?_;refine dwk [] TS1_ok hnt fun _ z9=>z9 _ _ ?_;refine dw_ret ?_
   exact retv (N:=0) (.inr rfl) rfl (VLe.refl _) trivial
  ·skip
   refine dwk [(16,.v (.bool false))] TS1_ok hnt fun K hK=>?_;refine And.intro (dfalse h1) ?_;refine hK _ _ ?_;clear hK K;refine dw_cond (t:=false) rfl ?_;rw[if_neg (by simp)];refine dw_skip ?_;refine dw_seq (dw_seq ?_)
   by_cases h2:b<a
   ·have hc:cmpI a b=1:=by unfold cmpI;rw[if_neg h1,if_pos h2]
    rw[hc]
    refine dwk [(19,.v (.bool true))] TS1_ok hnt fun K hK=>?_;refine And.intro (dtrue h2) ?_;refine hK _ _ ?_;clear hK K;refine dw_cond (t:=true) rfl ?_;rw[if_pos rfl];refine dw_seq ?_;refine dwk [] TS1_ok hnt fun _ z9=>z9 _ _ ?_;refine dw_ret ?_
    exact retv (N:=0) (.inr rfl) rfl (VLe.refl _) trivial
   ·have hc:cmpI a b=0:=by unfold cmpI;rw[if_neg h1,if_neg h2]
    rw[hc]
    refine dwk [(19,.v (.bool false))] TS1_ok hnt fun K hK=>?_;refine And.intro (dfalse h2) ?_;refine hK _ _ ?_;clear hK K;refine dw_cond (t:=false) rfl ?_;rw[if_neg (by simp)];refine dw_skip ?_;refine dw_seq ?_;refine dwk [] TS1_ok hnt fun _ z9=>z9 _ _ ?_;refine dw_ret ?_
    exact retv (N:=0) (.inr rfl) rfl (VLe.refl _) trivial
theorem sorder_d (p q:Int×Tm):PureC Tryz.prog 148 [.ag (ePair p),.ag (ePair q)] (.v (.int .i64 (cmpI p.1 q.1))):=by
 rw[ePair_eq,ePair_eq]
 refine call_of_dw 0 10 [ResultVar.tmp 4] TS1_ok (by kernel_rfl) Tryz.func148 rfl Tryz.ntmps148 rfl (by simp) ?dwords ?dbody
 case dwords=>simp[wordsOk,D.ok,D.oks,rnames,eTms_ok,eTys_ok]
 case dbody=>
  intro cx hnt hn0
  refine dw_seq ?_;refine dwk [] TS1_ok hnt fun _ z9=>z9 _ _ ?_;refine dw_seq ?_;refine dwk [] TS1_ok hnt fun K hK=>?_;refine dcl (compare_d p.1 q.1) ?_;refine hK _ _ ?_;clear hK K;refine dw_ret ?_
  exact retv (N:=0) (.inr rfl) rfl (VLe.refl _) trivial
theorem cmpI_ge {a b:Int}:0≤cmpI a b↔¬ a<b:=by
 unfold cmpI
 split
 ·rename_i h;simp[h]
 ·rename_i h;split <;> simp[h]
theorem right_of {l:List (Int×Tm)}(h:∀ i (_:0<i) (h2:i<l.length),(l[i-1]'(by omega)).1<l[i].1):Sb.right l=true:=by
 unfold Sb.right
 rw[decide_eq_true_eq,List.pairwise_iff_getElem]
 intro i j hi hj hij
 have key:∀ d,∀ i j (hi:i<l.length) (hj:j<l.length),j=i+d+1→l[i].1<l[j].1:=by
  intro d
  induction d with
  | zero=>intro i j hi hj e;subst e;have:=h (i+0+1) (by omega) hj;simpa using this
  | succ d ih=>
   intro i j hi hj e
   have h1:=ih i (j-1) hi (by omega) (by omega)
   have h2:=h j (by omega) hj
   omega
 exact key (j-i-1) i j hi hj (by omega)
theorem not_right {l:List (Int×Tm)}{i:Nat}(h1:0<i)(h2:i<l.length)(h:¬ (l[i-1]'(by omega)).1<l[i].1):Sb.right l=false:=by
 unfold Sb.right
 rw[decide_eq_false_iff_not,List.pairwise_iff_getElem]
 exact fun hp=>h (hp (i-1) i (by omega) h2 (by omega))
set_option maxHeartbeats 1000000 in
theorem sright_d (l:List (Int×Tm))(hl:l.length≤1000000):PureC Tryz.prog 137 [.sl 5 (ePairs l) none] (.v (.bool (Sb.right l))):=by
 refine call_of_dw 0 21 [ResultVar.tmp 2] TS1_ok (by kernel_rfl) Tryz.func137 rfl Tryz.ntmps137 rfl (by simp) ?dwords ?dbody
 case dwords=>simp[wordsOk,D.ok,D.oks,rnames,ePairs_ok]
 case dbody=>
  intro cx hnt hn0
  refine dw_seq ?_;refine dwk [] TS1_ok hnt fun _ z9=>z9 _ _ ?_;refine dw_seq (dw_seq ?_);refine dwk [] TS1_ok hnt fun _ z9=>z9 _ _ ?_;refine dw_block ?_
  refine dw_loop (ι:={ j:Nat // ∀ i (_:0<i) (h2:i<l.length),i<j+1→(l[i-1]'(by omega)).1<l[i].1 }) (fun j=>[(.t 0,.sl 5 (ePairs l) none),(.t 3,.v (.int .i64 ((j.1:Int)+1)))]) 2 (fun j=>l.length-j.1) ⟨0,fun i h1 h2 h3=>by omega⟩ VS.toA fun j=>?_
  obtain⟨j,hj⟩:=j
  dsimp only
  refine dw_seq (dw_seq ?_)
  by_cases hlt:j+1<l.length
  ·have ho:=sorder_d l[j] l[j+1]
   rw[ePair_eq,ePair_eq] at ho
   refine dwk [(7,.v (.bool true))] TS1_ok hnt fun K hK=>?_;refine And.intro (dtrue (by rw[ePairs_len];omega)) ?_;refine hK _ _ ?_;clear hK K;refine dw_cond (t:=true) rfl ?_;rw[if_pos rfl];refine dw_skip ?_;refine dw_seq (dw_block (dw_seq ?_))
   by_cases hc:l[j].1<l[j+1].1
   ·skip
    refine dwkD [(12,.v (.int .i64 (j:Int))),(13,.q [.v (.int .i64 l[j].1),.sl 2 (eTys l[j].2.binds) none,.v (.int .i64 l[j].2.kind),.v (.int .i64 l[j].2.index),.sl 4 (eTms l[j].2.args) none]),(17,.q [.v (.int .i64 l[j+1].1),.sl 2 (eTys l[j+1].2.binds) none,.v (.int .i64 l[j+1].2.kind),.v (.int .i64 l[j+1].2.index),.sl 4 (eTms l[j+1].2.args) none]),(20,.v (.bool false))] TS1_ok hnt fun K hK=>?_
    refine And.intro (dintE (by rw[IntWalk.i64_in _ (by omega)];omega)) ?_;refine And.intro (⟨by omega,by rw[ePairs_len];omega⟩) ?_;refine And.intro (VLe.of_eq (by rw[Int.toNat_natCast,ePairs_getD l j (by omega),ePair_eq])) ?_;refine And.intro (⟨by omega,by rw[ePairs_len];omega⟩) ?_;refine And.intro (VLe.of_eq (by rw[show ((j:Int)+1).toNat=j+1 by omega,ePairs_getD l (j+1) hlt,ePair_eq])) ?_
    refine dcl (ho) ?_;refine And.intro (VLe.of_eq (by simp[cmpI_ge,hc])) ?_;refine hK _ _ (by kernel_rfl) ?_;clear hK K;refine dw_cond (t:=false) rfl ?_;rw[if_neg (by simp)];refine dw_skip ?_;refine dwk [(9,.v (.int .i64 (((j+1:Nat):Int)+1)))] TS1_ok hnt fun K hK=>?_;refine And.intro (dintE (by rw[IntWalk.i64_in _ (by omega)];omega)) ?_;refine hK _ _ ?_;clear hK K
    refine⟨⟨j+1,fun i h1 h2 h3=>?_⟩,by dsimp only;omega,VS.toA⟩
    by_cases he:i=j+1
    ·subst he;simpa using hc
    ·exact hj i h1 h2 (by omega)
   ·have hr:Sb.right l=false:=not_right (i:=j+1) (by omega) hlt (by simpa using hc)
    rw[hr]
    refine dwkD [(12,.v (.int .i64 (j:Int))),(13,.q [.v (.int .i64 l[j].1),.sl 2 (eTys l[j].2.binds) none,.v (.int .i64 l[j].2.kind),.v (.int .i64 l[j].2.index),.sl 4 (eTms l[j].2.args) none]),(17,.q [.v (.int .i64 l[j+1].1),.sl 2 (eTys l[j+1].2.binds) none,.v (.int .i64 l[j+1].2.kind),.v (.int .i64 l[j+1].2.index),.sl 4 (eTms l[j+1].2.args) none]),(20,.v (.bool true))] TS1_ok hnt fun K hK=>?_
    refine And.intro (dintE (by rw[IntWalk.i64_in _ (by omega)];omega)) ?_;refine And.intro (⟨by omega,by rw[ePairs_len];omega⟩) ?_;refine And.intro (VLe.of_eq (by rw[Int.toNat_natCast,ePairs_getD l j (by omega),ePair_eq])) ?_;refine And.intro (⟨by omega,by rw[ePairs_len];omega⟩) ?_;refine And.intro (VLe.of_eq (by rw[show ((j:Int)+1).toNat=j+1 by omega,ePairs_getD l (j+1) hlt,ePair_eq])) ?_
    refine dcl (ho) ?_;refine And.intro (VLe.of_eq (by simp[cmpI_ge,hc])) ?_;refine hK _ _ (by kernel_rfl) ?_;clear hK K;refine dw_cond (t:=true) rfl ?_;rw[if_pos rfl];refine dw_seq ?_;refine dwk [] TS1_ok hnt fun _ z9=>z9 _ _ ?_;refine dw_ret ?_
    exact retv (N:=0) (.inr rfl) rfl (VLe.refl _) trivial
  ·have hr:Sb.right l=true:=right_of fun i h1 h2=>hj i h1 h2 (by omega)
   rw[hr]
   refine dwk [(7,.v (.bool false))] TS1_ok hnt fun K hK=>?_;refine And.intro (dfalse (by rw[ePairs_len];omega)) ?_;refine hK _ _ ?_;clear hK K;refine dw_cond (t:=false) rfl ?_;rw[if_neg (by simp)];refine dw_exit ?_;refine dw_seq ?_;refine dwk [] TS1_ok hnt fun _ z9=>z9 _ _ ?_;refine dw_ret ?_
   exact retv (N:=0) (.inr rfl) rfl (VLe.refl _) trivial
/-! to find a pair -/
theorem find1_d (p:Int×Tm)(m:Int):CallC Tryz.prog 179 [.ag (ePair p),.p 0 0] [(.c 0 0,.v (.int .i64 m))] [(.c 0 0,.v (.int .i64 m))] (.v (.bool (decide (p.1=m)))):=by
 rw[ePair_eq]
 refine call_of_dw 1 8 [ResultVar.tmp 3] TS1_ok (by kernel_rfl) Tryz.func179 rfl Tryz.ntmps179 rfl (by simp) ?dwords ?dbody
 case dwords=>simp[wordsOk,D.ok,D.oks,rnames,inN,ckey,eTms_ok,eTys_ok]
 case dbody=>
  intro cx hnt hn0
  refine dw_seq ?_;refine dwk [] TS1_ok hnt fun _ z9=>z9 _ _ ?_;refine dw_seq ?_;refine dwk [(7,.v (.bool (decide (p.1=m))))] TS1_ok hnt fun K hK=>?_;refine And.intro (VLe.refl _) ?_;refine hK _ _ ?_;clear hK K;refine dw_ret ?_
  exact retv (N:=0) (.inr rfl) rfl (VLe.refl _) (by repeat first | exact trivial | refine And.intro rfl ?_)
def idxOf (m:Int):List (Int×Tm)→Option Nat
 | []=>none
 | p :: l=>if p.1=m then some 0 else (idxOf m l).map (· + 1)
theorem idxOf_some {m:Int}:∀ {l:List (Int×Tm)} {i:Nat} (h:i<l.length),l[i].1=m→(∀ j (h':j<i),(l[j]'(by omega)).1≠m)→idxOf m l=some i
 | p :: l,0,h,h1,_=>by simp at h1;simp[idxOf,h1]
 | p :: l,i+1,h,h1,h2=>by
  have h0:=h2 0 (by omega)
  simp at h0 h1
  rw[idxOf,if_neg h0,idxOf_some (i:=i) (by simpa using h) h1 fun j h'=>by simpa using h2 (j+1) (by omega)];rfl
theorem idxOf_none {m:Int}:∀ {l:List (Int×Tm)},(∀ j (h:j<l.length),l[j].1≠m)→idxOf m l=none
 | [],_=>rfl
 | p :: l,h=>by
  have h0:=h 0 (by simp)
  simp at h0
  rw[idxOf,if_neg h0,idxOf_none (l:=l) fun j h'=>h (j+1) (by simpa using h')];rfl
theorem idxOf_lt {m:Int}:∀ {l:List (Int×Tm)} {i:Nat},idxOf m l=some i→i<l.length
 | [],i,h=>by cases h
 | p :: l,i,h=>by
  rw[idxOf] at h
  split at h
  ·cases h;simp
  ·cases hx:idxOf m l with
   | none=>rw[hx] at h;cases h
   | some j=>rw[hx] at h;cases h;have:=idxOf_lt hx;simpa using this
theorem find_idx (m:Int):∀ (l:List (Int×Tm)),Sb.find l m=(idxOf m l).bind fun i=>(l[i]?).map (·.2)
 | []=>rfl
 | p :: l=>by
  have ih:=find_idx m l
  unfold Sb.find at ih ⊢
  rw[List.find?_cons,idxOf]
  by_cases h:p.1=m
  ·simp[h]
  ·rw[if_neg h]
   simp only[beq_eq_false_iff_ne.2 h,ih]
   cases idxOf m l <;> simp
set_option maxHeartbeats 1000000 in
theorem indexFunc_d (l:List (Int×Tm))(hl:l.length≤1000000)(m:Int):CallC Tryz.prog 178 [.sl 5 (ePairs l) none,.fn 179 [.p 0 0]] [(.c 0 0,.v (.int .i64 m))] [(.c 0 0,.v (.int .i64 m))] (.v (.int .i64 (match idxOf m l with | some i=>(i:Int) | none=>-1))):=by
 refine call_of_dw 1 19 [ResultVar.tmp 4] TS1_ok (by kernel_rfl) Tryz.func178 rfl Tryz.ntmps178 rfl (by simp) ?dwords ?dbody
 case dwords=>simp[wordsOk,D.ok,D.oks,rnames,inN,ckey,ePairs_ok]
 case dbody=>
  intro cx hnt hn0
  refine dw_seq ?_;refine dwk [] TS1_ok hnt fun _ z9=>z9 _ _ ?_;refine dw_seq (dw_seq ?_);refine dwk [(7,.v (.int .i64 l.length))] TS1_ok hnt fun K hK=>?_;refine And.intro (dintE (by rw[ePairs_len])) ?_;refine hK _ _ ?_;clear hK K;refine dw_block ?_
  refine dw_loop (ι:={ j:Nat // ∀ i (h:i<l.length),i<j→l[i].1≠m }) (fun j=>[(.t 0,.sl 5 (ePairs l) none),(.t 1,.fn 179 [.p 0 0]),(.t 7,.v (.int .i64 l.length)),(.t 8,.v (.int .i64 (j.1:Int))),(.c 0 0,.v (.int .i64 m))]) 2 (fun j=>l.length-j.1) ⟨0,fun i h1 h2=>by omega⟩ VS.toA fun j=>?_
  obtain⟨j,hj⟩:=j
  dsimp only
  refine dw_seq ?_
  by_cases hlt:j<l.length
  ·have hf:=find1_d l[j] m
   rw[ePair_eq] at hf
   refine dwk [(9,.v (.bool true))] TS1_ok hnt fun K hK=>?_;refine And.intro (dtrue (by omega)) ?_;refine hK _ _ ?_;clear hK K;refine dw_seq (dw_cond (t:=true) rfl ?_);rw[if_pos rfl];refine dw_skip (dw_seq (dw_block (dw_seq ?_)));refine dwk [] TS1_ok hnt fun _ z9=>z9 _ _ ?_;refine dw_seq ?_
   by_cases he:l[j].1=m
   ·have hi:idxOf m l=some j:=idxOf_some hlt he fun i h=>hj i (by omega) h
    rw[hi]
    refine dwk [(14,.q [.v (.int .i64 l[j].1),.sl 2 (eTys l[j].2.binds) none,.v (.int .i64 l[j].2.kind),.v (.int .i64 l[j].2.index),.sl 4 (eTms l[j].2.args) none]),(16,.v (.bool true))] TS1_ok hnt fun K hK=>?_;refine And.intro (⟨by omega,by rw[ePairs_len];omega⟩) ?_;refine And.intro (VLe.of_eq (by rw[Int.toNat_natCast,ePairs_getD l j (by omega),ePair_eq])) ?_;refine dcl (hf) ?_;refine And.intro (dtrue he) ?_
    refine hK _ _ ?_;clear hK K;refine dw_cond (t:=true) rfl ?_;rw[if_pos rfl];refine dw_seq ?_;refine dwk [] TS1_ok hnt fun _ z9=>z9 _ _ ?_;refine dw_ret ?_
    exact retv (N:=0) (.inr rfl) rfl (VLe.refl _) (by repeat first | exact trivial | refine And.intro rfl ?_)
   ·skip
    refine dwk [(14,.q [.v (.int .i64 l[j].1),.sl 2 (eTys l[j].2.binds) none,.v (.int .i64 l[j].2.kind),.v (.int .i64 l[j].2.index),.sl 4 (eTms l[j].2.args) none]),(16,.v (.bool false))] TS1_ok hnt fun K hK=>?_;refine And.intro (⟨by omega,by rw[ePairs_len];omega⟩) ?_;refine And.intro (VLe.of_eq (by rw[Int.toNat_natCast,ePairs_getD l j (by omega),ePair_eq])) ?_;refine dcl (hf) ?_;refine And.intro (dfalse he) ?_
    refine hK _ _ ?_;clear hK K;refine dw_cond (t:=false) rfl ?_;rw[if_neg (by simp)];refine dw_skip ?_;refine dwk [(18,.v (.int .i64 ((j+1:Nat):Int)))] TS1_ok hnt fun K hK=>?_;refine And.intro (dintE (by rw[IntWalk.i64_in _ (by omega)];omega)) ?_;refine hK _ _ ?_;clear hK K
    refine⟨⟨j+1,fun i h1 h3=>?_⟩,by dsimp only;omega,VS.toA⟩
    by_cases he2:i=j
    ·subst he2;exact he
    ·exact hj i h1 (by omega)
  ·have hi:idxOf m l=none:=idxOf_none fun i h=>hj i h (by omega)
   rw[hi]
   refine dwk [(9,.v (.bool false))] TS1_ok hnt fun K hK=>?_;refine And.intro (dfalse (by omega)) ?_;refine hK _ _ ?_;clear hK K;refine dw_seq (dw_cond (t:=false) rfl ?_);rw[if_neg (by simp)];refine dw_exit ?_;refine dw_seq ?_;refine dwk [] TS1_ok hnt fun _ z9=>z9 _ _ ?_;refine dw_ret ?_
   exact retv (N:=0) (.inr rfl) rfl (VLe.refl _) (by repeat first | exact trivial | refine And.intro rfl ?_)
theorem indexFunc_at (k:Nat)(l:List (Int×Tm))(hl:l.length≤1000000)(m:Int):CallC Tryz.prog 178 [.sl 5 (ePairs l) none,.fn 179 [.p k 0]] [(.c k 0,.v (.int .i64 m))] [(.c k 0,.v (.int .i64 m))] (.v (.int .i64 (match idxOf m l with | some i=>(i:Int) | none=>-1))):=by
 have h:=(indexFunc_d l hl m).ren (fun _=>k) (by simp[renOk,D.ok,D.oks,rnames,inN,ckey,ePairs_ok]) (by
  intro k h1 k' h2 _
  simp[rnames] at h1 h2
  rw[h1,h2])
 simpa[D.ren,D.rens,ePairs_ren,renE,Key.ren] using h
theorem sfind_d (l:List (Int×Tm))(hl:l.length≤1000000)(m:Int):PureC Tryz.prog 158 [.sl 5 (ePairs l) none,.v (.int .i64 m)] (match (idxOf m l).bind fun i=>l[i]? with | some p=>.q (ePair p) | none=>.v (.pointer none)):=by
 have hi:=indexFunc_at 0 l hl m
 refine call_of_dw 0 14 [ResultVar.tmp 4] TS1_ok (by kernel_rfl) Tryz.func158 rfl Tryz.ntmps158 rfl (by simp) ?dwords ?dbody
 case dwords=>(cases (idxOf m l).bind fun i=>l[i]?) <;> simp[wordsOk,D.ok,D.oks,rnames,inN,ckey,ePairs_ok,ePair_ok]
 case dbody=>
  intro cx hnt hn0
  refine dw_seq ?_;refine dwk [] TS1_ok hnt fun _ z9=>z9 _ _ ?_;refine dw_seq ?_;refine dwk [] TS1_ok hnt fun K hK=>?_;refine dcl (hi) ?_;refine hK _ _ ?_;clear hK K;refine dw_seq (dw_seq ?_)
  cases hx:idxOf m l with
  | none=>
   refine dwk [(10,.v (.bool true))] TS1_ok hnt fun K hK=>?_;refine And.intro (VLe.of_eq (by rfl)) ?_;refine hK _ _ ?_;clear hK K;refine dw_cond (t:=true) rfl ?_;rw[if_pos rfl];refine dw_seq ?_;refine dwk [] TS1_ok hnt fun _ z9=>z9 _ _ ?_;refine dw_ret ?_
   exact retv (N:=0) (.inr rfl) rfl (VLe.refl _) trivial
  | some i=>
   have hlt:i<l.length:=idxOf_lt hx
   simp only[Option.bind_some,List.getElem?_eq_getElem hlt]
   refine dwk [(10,.v (.bool false))] TS1_ok hnt fun K hK=>?_;refine And.intro (dfalse (by omega)) ?_;refine hK _ _ ?_;clear hK K;refine dw_cond (t:=false) rfl ?_;rw[if_neg (by simp)];refine dw_skip ?_;refine dw_seq ?_;refine dwk [(13,.q (ePair l[i]))] TS1_ok hnt fun K hK=>?_;refine And.intro (⟨by omega,by rw[ePairs_len];omega⟩) ?_;refine And.intro (VLe.of_eq (by rw[Int.toNat_natCast,ePairs_getD l i hlt])) ?_
   refine hK _ _ ?_;clear hK K;refine dw_ret ?_
   exact retv (N:=0) (.inr rfl) rfl (VLe.refl _) trivial
end Go.Proofs.YtclihnccilkohaaGreat
namespace Go.Proofs.YtclihnccilkohaaGreat
open Go.RowKit Go.ChangeShapes Go.WideShapes Go.ChangeAt
def rpPr:Rp (Int×Tm) where
 n:=5
 R:=fun F w x p=>∃ b k i a,x=[.int .i64 p.1,b,k,i,a]∧IsTm F w b k i a p.2
 len:=fun⟨_,_,_,_,e,_⟩=>by rw[e];rfl
 one:=fun⟨b,k,i,a,e,h⟩ v hv=>by
  have h1:=rpTm.one (F:=_) (w:=_) (x:=[b,k,i,a]) (a:=_) ⟨b,k,i,a,rfl,h⟩
  rw[e] at hv
  rcases List.mem_cons.1 hv with rfl | hv
  ·rfl
  ·exact h1 v hv
 keep:=fun⟨b,k,i,a,e,h⟩ hk=>⟨b,k,i,a,e,h.keep hk⟩
 weaken:=fun⟨b,k,i,a,e,h⟩ hf=>⟨b,k,i,a,e,h.weaken hf⟩
theorem cellsPair:Tryz.prog.cellsOf 130=5:=by kernel_rfl
theorem five_of {α:Type}{cs:List α}(h:cs.length=5):∃ a b c d e,cs=[a,b,c,d,e]:=by
 match cs,h with
 | [a,b,c,d,e],_=>exact⟨a,b,c,d,e,rfl⟩
theorem rdPr {H:Type}(enc:TypeId×Value→H)(W:World)(base:Nat)(sp:Nat→Bool)(hd:Bool):∀ n,Rd enc W base sp hd 130 rpPr (fun _ p=>p.2.Fit∧-9223372036854775808≤p.1∧p.1≤9223372036854775807) n:=by
 intro n cs x h
 obtain⟨xs,m,rfl,rfl,hl,hlen,hf⟩:=DataW.trod_struct Tryz.underlying130 h
 rw[cellsPair] at hl
 obtain⟨v0,v1,v2,v3,v4,rfl⟩:=five_of hl
 have h0:DataW.trod enc Tryz.prog W base sp hd m 3 ([v0,v1,v2,v3,v4].take (Tryz.prog.cellsOf 3))=xs[0]?:=hf 0 _ rfl
 have h1:DataW.trod enc Tryz.prog W base sp hd m 31 ([v1,v2,v3,v4].take (Tryz.prog.cellsOf 31))=xs[1]?:=hf 1 _ rfl
 rw[cellsInt] at h0
 rw[cellsTerm] at h1
 have hlen:xs.length=2:=hlen
 rw[List.getElem?_eq_getElem (by omega)] at h0 h1
 obtain⟨i,hi,_,hw⟩:=DataW.trod_int Tryz.underlying3 h0
 have e0:[v0]=[.int .i64 i]:=hi
 simp only[List.cons.injEq,and_true] at e0
 subst e0
 obtain⟨t,⟨b,k,j,a,hx,ht⟩,hfit⟩:=rdM enc W base sp hd m _ _ h1
 have e1:[v1,v2,v3,v4]=[b,k,j,a]:=hx
 simp only[List.cons.injEq,and_true] at e1
 obtain⟨rfl,rfl,rfl,rfl⟩:=e1
 exact⟨(i,t),⟨_,_,_,_,rfl,ht⟩,hfit,wf_i64 hw⟩
theorem mem_of_idx {α H:Type}{l:List α}{d:DataW H}{Q:α→Prop}(h:∀ i (h:i<l.length),∃ x es spare,d=.slice es spare∧x∈es∧Q l[i]):∀ p∈l,Q p:=fun p hp=>by
 obtain⟨i,hi,rfl⟩:=List.getElem_of_mem hp
 obtain⟨_,_,_,_,_,h⟩:=h i hi
 exact h
theorem IsSl.len1 {α:Type}{r:Rp α}{F:Nat→Prop}{w:World}{v:Value}{l:List α}(h:IsSl r F w v l):l.length≤9223372036854775807:=by
 obtain⟨a,c,bl,off,X,_,h1,_⟩:=h
 have:maxLen=9223372036854775807:=rfl
 omega
section
variable {m:Mp} {w:World} {F:Nat→Prop}
theorem relTys {v:Value}{l:List Ty}(h:IsSl rpTy F w v l):Rel m (cellI F w) w v (.sl 2 (eTys l) none):=by
 rw[eTys_map]
 exact rel_of_sl (r:=rpTy) (e:=eTy) cellI_of eTy_len (fun x t hx=>by
  obtain⟨s,b,rfl,ht⟩:=hx
  exact rel_of_ty cellI_of t ht) h
theorem relPairs {v:Value}{l:List (Int×Tm)}(h:IsSl rpPr F w v l):Rel m (cellI F w) w v (.sl 5 (ePairs l) none):=
 rel_of_sl (r:=rpPr) (e:=ePair) cellI_of (fun p=>by rw[ePair_eq];rfl) (fun x p hx=>by
  obtain⟨b,k,i,a,rfl,ht⟩:=hx
  exact⟨.v _,rel_of_tm cellI_of p.2 ht⟩) h
theorem relTmA {b k i a:Value}{t:Tm}(h:IsTm F w b k i a t):Rel m (cellI F w) w (.agg #[b,k,i,a]) (.ag (eTm t)):=rel_ag.2 ⟨[b,k,i,a],rfl,rel_of_tm cellI_of t h⟩
theorem relWorld {cv mv:Value}{b:Int}{C M:List Ty}(h1:IsSl rpTy F w cv C)(h2:IsSl rpTy F w mv M):Rel m (cellI F w) w (.agg #[.int .i64 b,cv,mv]) (.ag [.v (.int .i64 b),.sl 2 (eTys C) none,.sl 2 (eTys M) none]):=
 rel_ag.2 ⟨[.int .i64 b,cv,mv],rfl,.v _,relTys h1,relTys h2,trivial⟩
end
theorem row_of_pure {f:FuncId}{ds:List D}(h:PureC Tryz.prog f ds (.v (.bool true))){w:World}{vs:List Value}(hv:RelL m00 (cellI (fun _=>True) w) w vs ds):
  Calls Tryz.prog f vs.toArray w fun e w'=>e=.returned (.bool true)∧Below w.heap.size w w':=by
 refine(calls_of_pure h cellI_ok hv).mono ?_
 rintro e w' ⟨v,Im',rfl,h1,h2,_⟩
 have:=rel_v.1 h2;subst this
 exact⟨rfl,h1⟩
end Go.Proofs.YtclihnccilkohaaGreat
namespace Go.Proofs.YtclihnccilkohaaGreat
open Go.RowKit
def TTM_62:TI:=⟨4,true,[Value.slice none 0 0,Value.int IntKind.i64 0,Value.int IntKind.i64 0,Value.slice none 0 0],[(0,1,false),(1,2,true),(3,1,false)],none,64,6,none,false⟩
theorem TTM_62_ok:TypOk Tryz.prog 62 TTM_62:=by constructor <;> kernel_rfl
def TTM_31:TI:=⟨4,true,[Value.slice none 0 0,Value.int IntKind.i64 0,Value.int IntKind.i64 0,Value.slice none 0 0],[(0,1,false),(1,2,true),(3,1,false)],none,64,6,none,false⟩
theorem TTM_31_ok:TypOk Tryz.prog 31 TTM_31:=by constructor <;> kernel_rfl
def TTM_29:TI:=⟨1,false,[Value.slice none 0 0],[],some 31,24,5,none,false⟩
theorem TTM_29_ok:TypOk Tryz.prog 29 TTM_29:=by constructor <;> kernel_rfl
def TTM_60:TI:=⟨1,false,[Value.slice none 0 0],[],some 62,24,5,none,false⟩
theorem TTM_60_ok:TypOk Tryz.prog 60 TTM_60:=by constructor <;> kernel_rfl
def TTM_3:TI:=⟨1,false,[Value.int IntKind.i64 0],[],none,8,2,none,false⟩
theorem TTM_3_ok:TypOk Tryz.prog 3 TTM_3:=by constructor <;> kernel_rfl
def TTM_41:TI:=⟨1,false,[Value.slice none 0 0],[],some 106,24,5,none,false⟩
theorem TTM_41_ok:TypOk Tryz.prog 41 TTM_41:=by constructor <;> kernel_rfl
def TTM_22:TI:=⟨1,false,[Value.slice none 0 0],[],some 104,24,5,none,false⟩
theorem TTM_22_ok:TypOk Tryz.prog 22 TTM_22:=by constructor <;> kernel_rfl
def TTM_59:TI:=⟨2,true,[Value.int IntKind.i64 0,Value.int IntKind.i64 0],[(0,1,false),(1,1,false)],none,16,6,none,true⟩
theorem TTM_59_ok:TypOk Tryz.prog 59 TTM_59:=by constructor <;> kernel_rfl
def TTM_28:TI:=⟨2,true,[Value.int IntKind.i64 0,Value.int IntKind.i64 0],[(0,1,false),(1,1,false)],none,16,6,none,true⟩
theorem TTM_28_ok:TypOk Tryz.prog 28 TTM_28:=by constructor <;> kernel_rfl
def TTM_143:TI:=⟨1,false,[Value.nilFunc],[],none,8,8,none,false⟩
theorem TTM_143_ok:TypOk Tryz.prog 143 TTM_143:=by constructor <;> kernel_rfl
def TTM_94:TI:=⟨1,false,[Value.nilFunc],[],none,8,8,none,false⟩
theorem TTM_94_ok:TypOk Tryz.prog 94 TTM_94:=by constructor <;> kernel_rfl
def TTM_104:TI:=⟨2,true,[Value.slice none 0 0,Value.int IntKind.i64 0],[(0,1,false),(1,1,false)],none,32,6,none,false⟩
theorem TTM_104_ok:TypOk Tryz.prog 104 TTM_104:=by constructor <;> kernel_rfl
def TTM_106:TI:=⟨2,true,[Value.slice none 0 0,Value.int IntKind.i64 0],[(0,1,false),(1,1,false)],none,32,6,none,false⟩
theorem TTM_106_ok:TypOk Tryz.prog 106 TTM_106:=by constructor <;> kernel_rfl
def TTM:List (Nat×TI):=[(62,TTM_62),(31,TTM_31),(29,TTM_29),(60,TTM_60),(3,TTM_3),(41,TTM_41),(22,TTM_22),(59,TTM_59),(28,TTM_28),(143,TTM_143),(94,TTM_94),(104,TTM_104),(106,TTM_106)]
theorem TTM_ok:TabOk Tryz.prog TTM:=((((((((((((((TabOk.nil _).cons TTM_106_ok).cons TTM_104_ok).cons TTM_94_ok).cons TTM_143_ok).cons TTM_28_ok).cons TTM_59_ok).cons TTM_22_ok).cons TTM_41_ok).cons TTM_3_ok).cons TTM_60_ok).cons TTM_29_ok).cons TTM_31_ok).cons TTM_62_ok)
theorem bindsT (b:List Ty)(k i:Int)(a:List Tm):(Tm.mk b k i a).binds=b:=rfl
theorem kindT (b:List Ty)(k i:Int)(a:List Tm):(Tm.mk b k i a).kind=k:=rfl
theorem indexT (b:List Ty)(k i:Int)(a:List Tm):(Tm.mk b k i a).index=i:=rfl
theorem argsTm (b:List Ty)(k i:Int)(a:List Tm):(Tm.mk b k i a).args=a:=rfl
theorem eqTmsA (l r:List Tm)(h:∀ t∈l,∀ u,PureC Tryz.prog 33 [.ag (eTm t),.ag (eTm u)] (.v (.bool (decide (t=u))))):PureC Tryz.prog 68 [.sl 4 (eTms l) none,.sl 4 (eTms r) none,.fn 33 []] (.v (.bool (decide (l=r)))):=CallC.lens fun hlen=>by
 have hl:l.length≤9223372036854775807:=by have:=hlen _ (List.mem_cons_self ..);simp only[slOk,sl1,eTms_len] at this;exact this
 by_cases hlr:l.length=r.length
 ·skip
  refine calldw 0 32 [ResultVar.tmp 6] TTM_ok Tryz.func68 rfl Tryz.ntmps68 rfl fun cx hnt hn0=>?_
  ·skip
   refine dw_seq ?_;refine dwk [] TTM_ok hnt fun _ z9=>z9 _ _ ?_;refine dw_seq ?_;refine dw_seq ?_;refine dwk [(11,.v (.int .i64 (↑l.length))),(13,.v (.int .i64 (↑r.length))),(14,.v (.bool false))] TTM_ok hnt fun K hK=>?_;refine And.intro (dintE (by rw[eTms_len])) ?_;refine And.intro (dintE (by rw[eTms_len])) ?_;refine And.intro (bneF (by omega)) ?_;refine hK _ _ ?_;clear hK K
   refine dw_cond (t:=false) rfl ?_;rw[if_neg (by simp)];refine dw_skip ?_;refine dw_seq ?_;refine dw_seq ?_;refine dwk [(16,.v (.int .i64 (↑l.length)))] TTM_ok hnt fun K hK=>?_;refine And.intro (dintE (by rw[eTms_len])) ?_;refine hK _ _ ?_;clear hK K;refine dw_block ?_
   refine dw_loop (ι:={ j:Nat // l.take j=r.take j }) (fun j=>[(.t 1,.sl 4 (eTms r) none),(.t 2,.fn 33 []),(.t 15,.sl 4 (eTms l) none),(.t 16,.v (.int .i64 ↑l.length)),(.t 17,.v (.int .i64 ↑j.1))]) 0 (fun j=>l.length-j.1) (⟨0,rfl⟩) (VS.toA) fun j=>?_
   obtain⟨j,hj⟩:=j
   dsimp only
   by_cases hlt:j<l.length
   ·have hlt2:j<r.length:=by omega
    have hq:=h l[j] (List.getElem_mem hlt) r[j]
    rw[eTm_eq,eTm_eq] at hq
    by_cases he:l[j]=r[j]
    ·rw[decide_eq_true he] at hq
     refine dw_seq ?_;refine dwk [(18,.v (.bool true))] TTM_ok hnt fun K hK=>?_;refine And.intro auT ?_;refine hK _ _ ?_;clear hK K;refine dw_seq ?_;refine dw_cond (t:=true) rfl ?_;rw[if_pos rfl];refine dw_skip ?_;refine dw_seq ?_;refine dw_block ?_;refine dw_seq ?_;refine dwk [(20,.q [.sl 2 (eTys l[j].binds) none,.v (.int .i64 l[j].kind),.v (.int .i64 l[j].index),.sl 4 (eTms l[j].args) none])] TTM_ok hnt fun K hK=>?_
     refine And.intro (elo (eTms_len l)) ?_;refine And.intro (elv (eTms_getD l j) (eTm_eq _)) ?_;refine hK _ _ ?_;clear hK K;refine dw_seq ?_;refine dwk [(24,.q [.sl 2 (eTys r[j].binds) none,.v (.int .i64 r[j].kind),.v (.int .i64 r[j].index),.sl 4 (eTms r[j].args) none])] TTM_ok hnt fun K hK=>?_;refine And.intro (elo (eTms_len r)) ?_;refine And.intro (elv (eTms_getD r j) (eTm_eq _)) ?_;refine hK _ _ ?_;clear hK K
     refine dw_seq ?_;refine dwk [] TTM_ok hnt fun K hK=>?_;refine dcl (hq) ?_;refine hK _ _ ?_;clear hK K;refine dw_cond (t:=false) rfl ?_;rw[if_neg (by simp)];refine dw_skip ?_;refine dwk [(31,.v (.int .i64 (↑(j+1))))] TTM_ok hnt fun K hK=>?_;refine And.intro auI ?_;refine hK _ _ ?_;clear hK K
     refine⟨⟨j+1,take_succ_eq hj hlt hlt2 he⟩,by first | omega | (dsimp only;omega),VS.toA⟩
    ·rw[decide_eq_false he] at hq
     rw[decide_eq_false (ne_at hlt hlt2 he)]
     refine dw_seq ?_;refine dwk [(18,.v (.bool true))] TTM_ok hnt fun K hK=>?_;refine And.intro auT ?_;refine hK _ _ ?_;clear hK K;refine dw_seq ?_;refine dw_cond (t:=true) rfl ?_;rw[if_pos rfl];refine dw_skip ?_;refine dw_seq ?_;refine dw_block ?_;refine dw_seq ?_;refine dwk [(20,.q [.sl 2 (eTys l[j].binds) none,.v (.int .i64 l[j].kind),.v (.int .i64 l[j].index),.sl 4 (eTms l[j].args) none])] TTM_ok hnt fun K hK=>?_
     refine And.intro (elo (eTms_len l)) ?_;refine And.intro (elv (eTms_getD l j) (eTm_eq _)) ?_;refine hK _ _ ?_;clear hK K;refine dw_seq ?_;refine dwk [(24,.q [.sl 2 (eTys r[j].binds) none,.v (.int .i64 r[j].kind),.v (.int .i64 r[j].index),.sl 4 (eTms r[j].args) none])] TTM_ok hnt fun K hK=>?_;refine And.intro (elo (eTms_len r)) ?_;refine And.intro (elv (eTms_getD r j) (eTm_eq _)) ?_;refine hK _ _ ?_;clear hK K
     refine dw_seq ?_;refine dwk [] TTM_ok hnt fun K hK=>?_;refine dcl (hq) ?_;refine hK _ _ ?_;clear hK K;refine dw_cond (t:=true) rfl ?_;rw[if_pos rfl];refine dw_seq ?_;refine dwk [] TTM_ok hnt fun _ z9=>z9 _ _ ?_;refine dw_ret ?_
     exact reta rfl
   ·rw[decide_eq_true (eq_of_take hj (by omega) (by omega))]
    refine dw_seq ?_;refine dwk [(18,.v (.bool false))] TTM_ok hnt fun K hK=>?_;refine And.intro auF ?_;refine hK _ _ ?_;clear hK K;refine dw_seq ?_;refine dw_cond (t:=false) rfl ?_;rw[if_neg (by simp)];refine dw_exit ?_;refine dw_seq ?_;refine dwk [] TTM_ok hnt fun _ z9=>z9 _ _ ?_;refine dw_ret ?_
    exact reta rfl
 ·rw[decide_eq_false (fun e=>hlr (by rw[e]))]
  refine calldw 0 32 [ResultVar.tmp 6] TTM_ok Tryz.func68 rfl Tryz.ntmps68 rfl fun cx hnt hn0=>?_
  ·skip
   refine dw_seq ?_;refine dwk [] TTM_ok hnt fun _ z9=>z9 _ _ ?_;refine dw_seq ?_;refine dw_seq ?_;refine dwk [(11,.v (.int .i64 (↑l.length))),(13,.v (.int .i64 (↑r.length))),(14,.v (.bool true))] TTM_ok hnt fun K hK=>?_;refine And.intro (dintE (by rw[eTms_len])) ?_;refine And.intro (dintE (by rw[eTms_len])) ?_;refine And.intro (bneT (by omega)) ?_;refine hK _ _ ?_;clear hK K
   refine dw_cond (t:=true) rfl ?_;rw[if_pos rfl];refine dw_seq ?_;refine dwk [] TTM_ok hnt fun _ z9=>z9 _ _ ?_;refine dw_ret ?_
   exact reta rfl
theorem tm_ext {t u:Tm}:t=u↔(t.kind=u.kind∧t.index=u.index)∧t.binds=u.binds∧t.args=u.args:=by
 obtain⟨b,k,i,a⟩:=t
 obtain⟨b',k',i',a'⟩:=u
 simp only[bindsT,kindT,indexT,argsTm,Tm.mk.injEq]
 exact⟨fun⟨h1,h2,h3,h4⟩=>⟨⟨h2,h3⟩,h1,h4⟩,fun⟨⟨h1,h2⟩,h3,h4⟩=>⟨h3,h1,h2,h4⟩⟩
theorem equal2_d:∀ t u:Tm,PureC Tryz.prog 33 [.ag (eTm t),.ag (eTm u)] (.v (.bool (decide (t=u)))):=by
 intro t
 induction t using Tm.ind with
 | h b k i a ih=>
 intro u
 have hq:=eqTmsA a u.args ih
 have hb:=eqTys_d b u.binds 67 rfl
 rw[eTm_eq,eTm_eq]
 simp only[bindsT,kindT,indexT,argsTm]
 by_cases h1:k=u.kind∧i=u.index
 ·by_cases h2:b=u.binds
  ·rw[show decide (Tm.mk b k i a=u)=decide (a=u.args) by rw[Bool.eq_iff_iff,decide_eq_true_iff,decide_eq_true_iff,tm_ext];simp[bindsT,kindT,indexT,argsTm,h1,h2]]
   rw[decide_eq_true h2] at hb
   refine calldw 0 24 [ResultVar.tmp 4] TTM_ok Tryz.func33 rfl Tryz.ntmps33 rfl fun cx hnt hn0=>?_
   ·skip
    refine dw_seq ?_;refine dwk [] TTM_ok hnt fun _ z9=>z9 _ _ ?_;refine dw_seq ?_;refine dwk [(9,.v (.bool true))] TTM_ok hnt fun K hK=>?_;refine And.intro (VLe.of_eq (by congr 2;simp[h1])) ?_;refine dcl (hb) ?_;refine dcl (hq) ?_;refine hK _ _ ?_;clear hK K;refine dw_ret ?_
    exact reta rfl
  ·rw[show decide (Tm.mk b k i a=u)=false from decide_eq_false fun e=>h2 (by rw[←e];rfl)]
   rw[decide_eq_false h2] at hb
   refine calldw 0 24 [ResultVar.tmp 4] TTM_ok Tryz.func33 rfl Tryz.ntmps33 rfl fun cx hnt hn0=>?_
   ·skip
    refine dw_seq ?_;refine dwk [] TTM_ok hnt fun _ z9=>z9 _ _ ?_;refine dw_seq ?_;refine dwk [(9,.v (.bool true))] TTM_ok hnt fun K hK=>?_;refine And.intro (VLe.of_eq (by congr 2;simp[h1])) ?_;refine dcl (hb) ?_;refine hK _ _ ?_;clear hK K;refine dw_ret ?_
    exact reta rfl
 ·rw[show decide (Tm.mk b k i a=u)=false from decide_eq_false fun e=>h1 (by rw[←e];exact⟨rfl,rfl⟩)]
  refine calldw 0 24 [ResultVar.tmp 4] TTM_ok Tryz.func33 rfl Tryz.ntmps33 rfl fun cx hnt hn0=>?_
  ·skip
   refine dw_seq ?_;refine dwk [] TTM_ok hnt fun _ z9=>z9 _ _ ?_;refine dw_seq ?_;refine dwk [(9,.v (.bool false))] TTM_ok hnt fun K hK=>?_;refine And.intro (VLe.of_eq (by congr 2;by_cases h3:k=u.kind <;> by_cases h4:i=u.index <;> simp_all)) ?_;refine hK _ _ ?_;clear hK K;refine dw_ret ?_
   exact reta rfl
/-! long forms -/
theorem eTms_snoc (l:List Tm)(j:Nat)(h:j<l.length):eTms (l.take j)++[[.sl 2 (eTys l[j].binds) none,.v (.int .i64 l[j].kind),.v (.int .i64 l[j].index),.sl 4 (eTms l[j].args) none]]=eTms (l.take (j+1)):=by
 rw[←eTm_eq,List.take_add_one,List.getElem?_eq_getElem h,Option.toList_some,eTms_map,eTms_map,List.map_append];rfl
end Go.Proofs.YtclihnccilkohaaGreat
namespace Go.Proofs.YtclihnccilkohaaGreat
open Go.RowKit Go.Shelf
attribute [local go_sem] Oper.semAt_some
def looseL (n x:Int):Int:=if (if x>1000 then 1000 else x)+1>n then (if x>1000 then 1000 else x)+1 else n
end Go.Proofs.YtclihnccilkohaaGreat
