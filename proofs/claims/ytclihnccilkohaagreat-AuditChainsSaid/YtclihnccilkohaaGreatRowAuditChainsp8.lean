/-
  term's TypeOf and Check, walked in the deep way. What rule.Typed and the document's Typed call, as deep contracts. Typed and Check: rule's and the document's. Check: rule's and the document's. The known answer of the laws of layer 17. RuleOwns, walked in the deep way. A rule in its own numbers is a rule, in plain Lean. A typed pair in its own numbers: typed, a rule just where the pair is one; plain. subst.Apply, walked in the deep way. The known answer of the laws of layer 9. rule.Instance, walked in the deep way. Package audit, walked in the deep way: must, image, substitution. Package audit, walked in the deep way: substitution. spot.At, walked in the deep way. Package audit, walked in the deep way: step, chain. Package audit, walked in the deep way: chain, Chain, Step. The steps that the laws of layer 27 get. The steps that the laws of layer 27 get: Steps. The readings of a row's arguments that are lists of pairs with metavariables, and lists of steps.
-/
import Derived.Test.YtclihnccilkohaaGreatRowAuditChainsp7
import Derived.Test.YtclihnccilkohaaGreatRowAuditChainsp6
import Derived.Test.YtclihnccilkohaaGreatRowAuditChainsp5
import Derived.Test.YtclihnccilkohaaGreatRowAuditChainsp1
set_option maxRecDepth 100000
set_option maxHeartbeats 1000000
set_option linter.unusedVariables false
set_option linter.unusedSimpArgs false
namespace Go.Proofs.YtclihnccilkohaaGreat
open Go.RowKit
def TRT6_106:TI:=⟨2,true,[Value.slice none 0 0,Value.int IntKind.i64 0],[(0,1,false),(1,1,false)],none,32,6,none,false⟩
theorem TRT6_106_ok:TypOk Tryz.prog 106 TRT6_106:=by constructor <;> kernel_rfl
def TRT6_41:TI:=⟨1,false,[Value.slice none 0 0],[],some 106,24,5,none,false⟩
theorem TRT6_41_ok:TypOk Tryz.prog 41 TRT6_41:=by constructor <;> kernel_rfl
def TRT6_3:TI:=⟨1,false,[Value.int IntKind.i64 0],[],none,8,2,none,false⟩
theorem TRT6_3_ok:TypOk Tryz.prog 3 TRT6_3:=by constructor <;> kernel_rfl
def TRT6_62:TI:=⟨4,true,[Value.slice none 0 0,Value.int IntKind.i64 0,Value.int IntKind.i64 0,Value.slice none 0 0],[(0,1,false),(1,2,true),(3,1,false)],none,64,6,none,false⟩
theorem TRT6_62_ok:TypOk Tryz.prog 62 TRT6_62:=by constructor <;> kernel_rfl
def TRT6_43:TI:=⟨3,true,[Value.int IntKind.i64 0,Value.slice none 0 0,Value.slice none 0 0],[(0,1,false),(1,1,false),(2,1,false)],none,56,6,none,false⟩
theorem TRT6_43_ok:TypOk Tryz.prog 43 TRT6_43:=by constructor <;> kernel_rfl
def TRT6_59:TI:=⟨2,true,[Value.int IntKind.i64 0,Value.int IntKind.i64 0],[(0,1,false),(1,1,false)],none,16,6,none,true⟩
theorem TRT6_59_ok:TypOk Tryz.prog 59 TRT6_59:=by constructor <;> kernel_rfl
def TRT6_60:TI:=⟨1,false,[Value.slice none 0 0],[],some 62,24,5,none,false⟩
theorem TRT6_60_ok:TypOk Tryz.prog 60 TRT6_60:=by constructor <;> kernel_rfl
def TRT6_217:TI:=⟨1,false,[Value.slice none 0 0],[],some 41,24,5,none,false⟩
theorem TRT6_217_ok:TypOk Tryz.prog 217 TRT6_217:=by constructor <;> kernel_rfl
def TRT6_143:TI:=⟨1,false,[Value.nilFunc],[],none,8,8,none,false⟩
theorem TRT6_143_ok:TypOk Tryz.prog 143 TRT6_143:=by constructor <;> kernel_rfl
def TRT6:List (Nat×TI):=[(106,TRT6_106),(41,TRT6_41),(3,TRT6_3),(62,TRT6_62),(43,TRT6_43),(59,TRT6_59),(60,TRT6_60),(217,TRT6_217),(143,TRT6_143)]
theorem TRT6_ok:TabOk Tryz.prog TRT6:=((((((((((TabOk.nil _).cons TRT6_143_ok).cons TRT6_217_ok).cons TRT6_60_ok).cons TRT6_59_ok).cons TRT6_43_ok).cons TRT6_62_ok).cons TRT6_3_ok).cons TRT6_41_ok).cons TRT6_106_ok)
def tyOf (C M:List Ty)(t:Tm):Option Ty:=(headTy C M ([]++t.binds) t.kind t.index).map fun h=>.mk t.binds h.base
theorem isOf_no {C M X:List Ty}{b:List Ty}{k i:Int}{a:List Tm}{u:Ty}(h:∀ x,headTy C M (X++b) k i=some x→b=u.args→x.base=u.base→x.args.length=a.length→False):¬ IsOf C M (.mk b k i a) X u:=fun hi=>by
 obtain⟨h1,x,h2,h3,h4⟩:=isOf_mk.1 hi
 exact h x h2 h1 h3 (isOfs_iff.1 h4).1
theorem within_d (l r:List Ty)(h:l.length+r.length≤800000):PureC Tryz.prog 109 [.sl 2 (eTys l) none,.sl 2 (eTys r) none] (.sl 2 (eTys (l++r)) none):=by
 have hcat:=concat_d [l,r] (by simp[lens];omega) (by simp)
 simp only[List.flatten_cons,List.flatten_nil,List.append_nil] at hcat
 refine calldw 0 9 [ResultVar.tmp 4] TRT6_ok Tryz.func109 rfl Tryz.ntmps109 rfl fun cx hnt hn0=>?_
 ·skip
  refine dw_seq ?_;refine dwk [] TRT6_ok hnt fun _ z9=>z9 _ _ ?_;refine dw_seq ?_;refine dwk [(7,.sl 1 (eTyss [l,r]) none)] TRT6_ok hnt fun K hK=>?_;refine And.intro (VLe.untag _ _ _) ?_;refine dcl (hcat) ?_;refine hK _ _ ?_;clear hK K;refine dw_ret ?_
  exact reta rfl
set_option maxHeartbeats 2000000 in
theorem theadA_d (b:Int)(C M X:List Ty)(k i:Int)(hi:i≤9223372036854775807)(hC:C.length≤1000000)(hM:M.length≤1000000)(hX:X.length≤1000000):PureC Tryz.prog 108 [.ag [.v (.int .i64 b),.sl 2 (eTys C) none,.sl 2 (eTys M) none],.sl 2 (eTys X) none,.ag [.v (.int .i64 k),.v (.int .i64 i)]] (.tu [.ag (eTy ((headTy C M X k i).getD tyZ)),.v (.bool (headTy C M X k i).isSome)]):=by
 by_cases k1:k=1
 ·skip
  subst k1
  by_cases hn:i<0
  ·rw[headTy_neg hn]
   simp only[Option.getD_none,Option.isSome_none]
   rw[tyZ_eq]
   refine calldw 0 51 [ResultVar.cell 6 106,ResultVar.tmp 7] TRT6_ok Tryz.func108 rfl Tryz.ntmps108 rfl fun cx hnt hn0=>?_
   ·skip
    refine dw_seq ?_;refine dwk [] TRT6_ok hnt fun _ z9=>z9 _ _ ?_;refine dw_seq ?_;refine dwk [] TRT6_ok hnt fun _ z9=>z9 _ _ ?_;refine dw_seq ?_;refine dwk [] TRT6_ok hnt fun _ z9=>z9 _ _ ?_;refine dw_seq ?_;refine dw_seq ?_;refine dwk [] TRT6_ok hnt fun _ z9=>z9 _ _ ?_;refine dw_block ?_;refine dw_seq ?_
    refine dwk [(21,.v (.bool true))] TRT6_ok hnt fun K hK=>?_;refine And.intro (VLe.refl _) ?_;refine hK _ _ ?_;clear hK K;refine dw_cond (t:=true) rfl ?_;rw[if_pos rfl];refine dwkD [] TRT6_ok hnt fun K hK=>?_;refine hK _ _ (by kernel_rfl) ?_;clear hK K;refine dw_seq ?_;refine dw_seq ?_;refine dwk [(39,.v (.bool true))] TRT6_ok hnt fun K hK=>?_;refine And.intro auT ?_;refine hK _ _ ?_;clear hK K
    refine dw_cond (t:=true) rfl ?_;rw[if_pos rfl];refine dw_seq ?_;refine dwk [] TRT6_ok hnt fun _ z9=>z9 _ _ ?_;refine dw_ret ?_
    exact reta rfl
  ·obtain⟨n,rfl⟩:=Int.eq_ofNat_of_zero_le (Int.not_lt.1 hn)
   rw[headTy_1]
   by_cases hl:n<C.length
   ·rw[List.getElem?_eq_getElem hl]
    simp only[Option.getD_some,Option.isSome_some]
    rw[eTy_eq]
    refine calldw 0 51 [ResultVar.cell 6 106,ResultVar.tmp 7] TRT6_ok Tryz.func108 rfl Tryz.ntmps108 rfl fun cx hnt hn0=>?_
    ·skip
     refine dw_seq ?_;refine dwk [] TRT6_ok hnt fun _ z9=>z9 _ _ ?_;refine dw_seq ?_;refine dwk [] TRT6_ok hnt fun _ z9=>z9 _ _ ?_;refine dw_seq ?_;refine dwk [] TRT6_ok hnt fun _ z9=>z9 _ _ ?_;refine dw_seq ?_;refine dw_seq ?_;refine dwk [] TRT6_ok hnt fun _ z9=>z9 _ _ ?_;refine dw_block ?_;refine dw_seq ?_
     refine dwk [(21,.v (.bool true))] TRT6_ok hnt fun K hK=>?_;refine And.intro (VLe.refl _) ?_;refine hK _ _ ?_;clear hK K;refine dw_cond (t:=true) rfl ?_;rw[if_pos rfl];refine dwkD [] TRT6_ok hnt fun K hK=>?_;refine hK _ _ (by kernel_rfl) ?_;clear hK K;refine dw_seq ?_;refine dw_seq ?_;refine dwk [(39,.v (.bool false)),(43,.v (.int .i64 (↑C.length))),(44,.v (.bool false))] TRT6_ok hnt fun K hK=>?_
     refine And.intro auF ?_;refine And.intro (dintE (by rw[eTys_len])) ?_;refine And.intro auF ?_;refine hK _ _ ?_;clear hK K;refine dw_cond (t:=false) rfl ?_;rw[if_neg (by simp)];refine dw_skip ?_;refine dw_seq ?_;refine dwk [(49,.q [.sl 2 (eTys C[n].args) none,.v (.int .i64 C[n].base)])] TRT6_ok hnt fun K hK=>?_;refine And.intro (elo (eTys_len C)) ?_;refine And.intro (elv (eTys_getD C n) (eTy_eq _)) ?_
     refine hK _ _ ?_;clear hK K;refine dw_ret ?_
     exact reta rfl
   ·rw[List.getElem?_eq_none (by omega)]
    simp only[Option.getD_none,Option.isSome_none]
    rw[tyZ_eq]
    refine calldw 0 51 [ResultVar.cell 6 106,ResultVar.tmp 7] TRT6_ok Tryz.func108 rfl Tryz.ntmps108 rfl fun cx hnt hn0=>?_
    ·skip
     refine dw_seq ?_;refine dwk [] TRT6_ok hnt fun _ z9=>z9 _ _ ?_;refine dw_seq ?_;refine dwk [] TRT6_ok hnt fun _ z9=>z9 _ _ ?_;refine dw_seq ?_;refine dwk [] TRT6_ok hnt fun _ z9=>z9 _ _ ?_;refine dw_seq ?_;refine dw_seq ?_;refine dwk [] TRT6_ok hnt fun _ z9=>z9 _ _ ?_;refine dw_block ?_;refine dw_seq ?_
     refine dwk [(21,.v (.bool true))] TRT6_ok hnt fun K hK=>?_;refine And.intro (VLe.refl _) ?_;refine hK _ _ ?_;clear hK K;refine dw_cond (t:=true) rfl ?_;rw[if_pos rfl];refine dwkD [] TRT6_ok hnt fun K hK=>?_;refine hK _ _ (by kernel_rfl) ?_;clear hK K;refine dw_seq ?_;refine dw_seq ?_;refine dwk [(39,.v (.bool false)),(43,.v (.int .i64 (↑C.length))),(44,.v (.bool true))] TRT6_ok hnt fun K hK=>?_
     refine And.intro auF ?_;refine And.intro (dintE (by rw[eTys_len])) ?_;refine And.intro auT ?_;refine hK _ _ ?_;clear hK K;refine dw_cond (t:=true) rfl ?_;rw[if_pos rfl];refine dw_seq ?_;refine dwk [] TRT6_ok hnt fun _ z9=>z9 _ _ ?_;refine dw_ret ?_
     exact reta rfl
 by_cases k2:k=2
 ·skip
  subst k2
  by_cases hn:i<0
  ·rw[headTy_neg hn]
   simp only[Option.getD_none,Option.isSome_none]
   rw[tyZ_eq]
   refine calldw 0 51 [ResultVar.cell 6 106,ResultVar.tmp 7] TRT6_ok Tryz.func108 rfl Tryz.ntmps108 rfl fun cx hnt hn0=>?_
   ·skip
    refine dw_seq ?_;refine dwk [] TRT6_ok hnt fun _ z9=>z9 _ _ ?_;refine dw_seq ?_;refine dwk [] TRT6_ok hnt fun _ z9=>z9 _ _ ?_;refine dw_seq ?_;refine dwk [] TRT6_ok hnt fun _ z9=>z9 _ _ ?_;refine dw_seq ?_;refine dw_seq ?_;refine dwk [] TRT6_ok hnt fun _ z9=>z9 _ _ ?_;refine dw_block ?_;refine dw_seq ?_
    refine dwk [(21,.v (.bool false))] TRT6_ok hnt fun K hK=>?_;refine And.intro (VLe.refl _) ?_;refine hK _ _ ?_;clear hK K;refine dw_cond (t:=false) rfl ?_;rw[if_neg (by simp)];refine dw_seq ?_;refine dwk [(27,.v (.bool true))] TRT6_ok hnt fun K hK=>?_;refine And.intro (VLe.refl _) ?_;refine hK _ _ ?_;clear hK K;refine dw_cond (t:=true) rfl ?_;rw[if_pos rfl];refine dwkD [] TRT6_ok hnt fun K hK=>?_
    refine hK _ _ (by kernel_rfl) ?_;clear hK K;refine dw_seq ?_;refine dw_seq ?_;refine dwk [(39,.v (.bool true))] TRT6_ok hnt fun K hK=>?_;refine And.intro auT ?_;refine hK _ _ ?_;clear hK K;refine dw_cond (t:=true) rfl ?_;rw[if_pos rfl];refine dw_seq ?_;refine dwk [] TRT6_ok hnt fun _ z9=>z9 _ _ ?_;refine dw_ret ?_
    exact reta rfl
  ·obtain⟨n,rfl⟩:=Int.eq_ofNat_of_zero_le (Int.not_lt.1 hn)
   rw[headTy_2]
   by_cases hl:n<M.length
   ·rw[List.getElem?_eq_getElem hl]
    simp only[Option.getD_some,Option.isSome_some]
    rw[eTy_eq]
    refine calldw 0 51 [ResultVar.cell 6 106,ResultVar.tmp 7] TRT6_ok Tryz.func108 rfl Tryz.ntmps108 rfl fun cx hnt hn0=>?_
    ·skip
     refine dw_seq ?_;refine dwk [] TRT6_ok hnt fun _ z9=>z9 _ _ ?_;refine dw_seq ?_;refine dwk [] TRT6_ok hnt fun _ z9=>z9 _ _ ?_;refine dw_seq ?_;refine dwk [] TRT6_ok hnt fun _ z9=>z9 _ _ ?_;refine dw_seq ?_;refine dw_seq ?_;refine dwk [] TRT6_ok hnt fun _ z9=>z9 _ _ ?_;refine dw_block ?_;refine dw_seq ?_
     refine dwk [(21,.v (.bool false))] TRT6_ok hnt fun K hK=>?_;refine And.intro (VLe.refl _) ?_;refine hK _ _ ?_;clear hK K;refine dw_cond (t:=false) rfl ?_;rw[if_neg (by simp)];refine dw_seq ?_;refine dwk [(27,.v (.bool true))] TRT6_ok hnt fun K hK=>?_;refine And.intro (VLe.refl _) ?_;refine hK _ _ ?_;clear hK K;refine dw_cond (t:=true) rfl ?_;rw[if_pos rfl];refine dwkD [] TRT6_ok hnt fun K hK=>?_
     refine hK _ _ (by kernel_rfl) ?_;clear hK K;refine dw_seq ?_;refine dw_seq ?_;refine dwk [(39,.v (.bool false)),(43,.v (.int .i64 (↑M.length))),(44,.v (.bool false))] TRT6_ok hnt fun K hK=>?_;refine And.intro auF ?_;refine And.intro (dintE (by rw[eTys_len])) ?_;refine And.intro auF ?_;refine hK _ _ ?_;clear hK K;refine dw_cond (t:=false) rfl ?_;rw[if_neg (by simp)];refine dw_skip ?_
     refine dw_seq ?_;refine dwk [(49,.q [.sl 2 (eTys M[n].args) none,.v (.int .i64 M[n].base)])] TRT6_ok hnt fun K hK=>?_;refine And.intro (elo (eTys_len M)) ?_;refine And.intro (elv (eTys_getD M n) (eTy_eq _)) ?_;refine hK _ _ ?_;clear hK K;refine dw_ret ?_
     exact reta rfl
   ·rw[List.getElem?_eq_none (by omega)]
    simp only[Option.getD_none,Option.isSome_none]
    rw[tyZ_eq]
    refine calldw 0 51 [ResultVar.cell 6 106,ResultVar.tmp 7] TRT6_ok Tryz.func108 rfl Tryz.ntmps108 rfl fun cx hnt hn0=>?_
    ·skip
     refine dw_seq ?_;refine dwk [] TRT6_ok hnt fun _ z9=>z9 _ _ ?_;refine dw_seq ?_;refine dwk [] TRT6_ok hnt fun _ z9=>z9 _ _ ?_;refine dw_seq ?_;refine dwk [] TRT6_ok hnt fun _ z9=>z9 _ _ ?_;refine dw_seq ?_;refine dw_seq ?_;refine dwk [] TRT6_ok hnt fun _ z9=>z9 _ _ ?_;refine dw_block ?_;refine dw_seq ?_
     refine dwk [(21,.v (.bool false))] TRT6_ok hnt fun K hK=>?_;refine And.intro (VLe.refl _) ?_;refine hK _ _ ?_;clear hK K;refine dw_cond (t:=false) rfl ?_;rw[if_neg (by simp)];refine dw_seq ?_;refine dwk [(27,.v (.bool true))] TRT6_ok hnt fun K hK=>?_;refine And.intro (VLe.refl _) ?_;refine hK _ _ ?_;clear hK K;refine dw_cond (t:=true) rfl ?_;rw[if_pos rfl];refine dwkD [] TRT6_ok hnt fun K hK=>?_
     refine hK _ _ (by kernel_rfl) ?_;clear hK K;refine dw_seq ?_;refine dw_seq ?_;refine dwk [(39,.v (.bool false)),(43,.v (.int .i64 (↑M.length))),(44,.v (.bool true))] TRT6_ok hnt fun K hK=>?_;refine And.intro auF ?_;refine And.intro (dintE (by rw[eTys_len])) ?_;refine And.intro auT ?_;refine hK _ _ ?_;clear hK K;refine dw_cond (t:=true) rfl ?_;rw[if_pos rfl];refine dw_seq ?_;refine dwk [] TRT6_ok hnt fun K hK=>?_
     refine hK _ _ ?_;clear hK K;refine dw_ret ?_
     exact reta rfl
 by_cases k0:k=0
 ·subst k0
  by_cases hn:i<0
  ·rw[headTy_neg hn]
   simp only[Option.getD_none,Option.isSome_none]
   rw[tyZ_eq]
   refine calldw 0 51 [ResultVar.cell 6 106,ResultVar.tmp 7] TRT6_ok Tryz.func108 rfl Tryz.ntmps108 rfl fun cx hnt hn0=>?_
   ·skip
    refine dw_seq ?_;refine dwk [] TRT6_ok hnt fun _ z9=>z9 _ _ ?_;refine dw_seq ?_;refine dwk [] TRT6_ok hnt fun _ z9=>z9 _ _ ?_;refine dw_seq ?_;refine dwk [] TRT6_ok hnt fun _ z9=>z9 _ _ ?_;refine dw_seq ?_;refine dw_seq ?_;refine dwk [] TRT6_ok hnt fun _ z9=>z9 _ _ ?_;refine dw_block ?_;refine dw_seq ?_
    refine dwk [(21,.v (.bool false))] TRT6_ok hnt fun K hK=>?_;refine And.intro (VLe.refl _) ?_;refine hK _ _ ?_;clear hK K;refine dw_cond (t:=false) rfl ?_;rw[if_neg (by simp)];refine dw_seq ?_;refine dwk [(27,.v (.bool false))] TRT6_ok hnt fun K hK=>?_;refine And.intro (VLe.refl _) ?_;refine hK _ _ ?_;clear hK K;refine dw_cond (t:=false) rfl ?_;rw[if_neg (by simp)];refine dw_seq ?_
    refine dwk [(33,.v (.bool true))] TRT6_ok hnt fun K hK=>?_;refine And.intro (VLe.refl _) ?_;refine hK _ _ ?_;clear hK K;refine dw_cond (t:=true) rfl ?_;rw[if_pos rfl];refine dw_seq ?_;refine dwk [(36,.v (.bool true))] TRT6_ok hnt fun K hK=>?_;refine And.intro auT ?_;refine hK _ _ ?_;clear hK K;refine dw_cond (t:=true) rfl ?_;rw[if_pos rfl];refine dw_seq ?_;refine dwk [] TRT6_ok hnt fun K hK=>?_
    refine hK _ _ ?_;clear hK K;refine dw_ret ?_
    exact reta rfl
  ·obtain⟨n,rfl⟩:=Int.eq_ofNat_of_zero_le (Int.not_lt.1 hn)
   rw[headTy_0]
   by_cases hl:n<X.length
   ·have hx:X.length-1-n<X.length:=by omega
    rw[List.getElem?_reverse (by omega),List.getElem?_eq_getElem hx]
    simp only[Option.getD_some,Option.isSome_some]
    rw[eTy_eq]
    have hg:(eTys X).getD ((X.length:Int)-1-(n:Int)).toNat []=[.sl 2 (eTys (X[X.length-1-n]).args) none,.v (.int .i64 (X[X.length-1-n]).base)]:=by rw[show ((X.length:Int)-1-(n:Int)).toNat=X.length-1-n by omega,eTys_getD X _ hx,eTy_eq]
    refine calldw 0 51 [ResultVar.cell 6 106,ResultVar.tmp 7] TRT6_ok Tryz.func108 rfl Tryz.ntmps108 rfl fun cx hnt hn0=>?_
    ·skip
     refine dw_seq ?_;refine dwk [] TRT6_ok hnt fun _ z9=>z9 _ _ ?_;refine dw_seq ?_;refine dwk [] TRT6_ok hnt fun _ z9=>z9 _ _ ?_;refine dw_seq ?_;refine dwk [(12,.v (.int .i64 (↑X.length))),(13,.v (.int .i64 ((↑X.length-1)))),(16,.v (.int .i64 ((↑X.length-1 - ↑n))))] TRT6_ok hnt fun K hK=>?_;refine And.intro (dintE (by rw[eTys_len])) ?_
     refine And.intro auI ?_;refine And.intro auI ?_;refine hK _ _ ?_;clear hK K;refine dw_seq ?_;refine dw_seq ?_;refine dwk [] TRT6_ok hnt fun _ z9=>z9 _ _ ?_;refine dw_block ?_;refine dw_seq ?_;refine dwk [(21,.v (.bool false))] TRT6_ok hnt fun K hK=>?_;refine And.intro (VLe.refl _) ?_;refine hK _ _ ?_;clear hK K;refine dw_cond (t:=false) rfl ?_;rw[if_neg (by simp)]
     refine dw_seq ?_;refine dwk [(27,.v (.bool false))] TRT6_ok hnt fun K hK=>?_;refine And.intro (VLe.refl _) ?_;refine hK _ _ ?_;clear hK K;refine dw_cond (t:=false) rfl ?_;rw[if_neg (by simp)];refine dw_seq ?_;refine dwk [(33,.v (.bool true))] TRT6_ok hnt fun K hK=>?_;refine And.intro (VLe.refl _) ?_;refine hK _ _ ?_;clear hK K;refine dw_cond (t:=true) rfl ?_;rw[if_pos rfl]
     refine dw_seq ?_;refine dwk [(36,.v (.bool false))] TRT6_ok hnt fun K hK=>?_;refine And.intro auF ?_;refine hK _ _ ?_;clear hK K;refine dw_cond (t:=false) rfl ?_;rw[if_neg (by simp)];refine dw_skip ?_;refine dw_seq ?_;refine dw_seq ?_;refine dwk [(39,.v (.bool false)),(43,.v (.int .i64 (↑X.length))),(44,.v (.bool false))] TRT6_ok hnt fun K hK=>?_;refine And.intro auF ?_;refine And.intro (dintE (by rw[eTys_len])) ?_
     refine And.intro auF ?_;refine hK _ _ ?_;clear hK K;refine dw_cond (t:=false) rfl ?_;rw[if_neg (by simp)];refine dw_skip ?_;refine dw_seq ?_;refine dwk [(49,.q [.sl 2 (eTys (X[X.length-1-n]).args) none,.v (.int .i64 (X[X.length-1-n]).base)])] TRT6_ok hnt fun K hK=>?_;refine And.intro (⟨by omega,by rw[eTys_len];omega⟩) ?_;refine And.intro (VLe.of_eq (by rw[hg])) ?_;refine hK _ _ ?_;clear hK K
     refine dw_ret ?_
     exact reta rfl
   ·rw[List.getElem?_eq_none (by simp;omega)]
    simp only[Option.getD_none,Option.isSome_none]
    rw[tyZ_eq]
    refine calldw 0 51 [ResultVar.cell 6 106,ResultVar.tmp 7] TRT6_ok Tryz.func108 rfl Tryz.ntmps108 rfl fun cx hnt hn0=>?_
    ·skip
     refine dw_seq ?_;refine dwk [] TRT6_ok hnt fun _ z9=>z9 _ _ ?_;refine dw_seq ?_;refine dwk [] TRT6_ok hnt fun _ z9=>z9 _ _ ?_;refine dw_seq ?_;refine dwk [(12,.v (.int .i64 (↑X.length))),(13,.v (.int .i64 ((↑X.length-1)))),(16,.v (.int .i64 ((↑X.length-1 - ↑n))))] TRT6_ok hnt fun K hK=>?_;refine And.intro (dintE (by rw[eTys_len])) ?_
     refine And.intro auI ?_;refine And.intro auI ?_;refine hK _ _ ?_;clear hK K;refine dw_seq ?_;refine dw_seq ?_;refine dwk [] TRT6_ok hnt fun _ z9=>z9 _ _ ?_;refine dw_block ?_;refine dw_seq ?_;refine dwk [(21,.v (.bool false))] TRT6_ok hnt fun K hK=>?_;refine And.intro (VLe.refl _) ?_;refine hK _ _ ?_;clear hK K;refine dw_cond (t:=false) rfl ?_;rw[if_neg (by simp)]
     refine dw_seq ?_;refine dwk [(27,.v (.bool false))] TRT6_ok hnt fun K hK=>?_;refine And.intro (VLe.refl _) ?_;refine hK _ _ ?_;clear hK K;refine dw_cond (t:=false) rfl ?_;rw[if_neg (by simp)];refine dw_seq ?_;refine dwk [(33,.v (.bool true))] TRT6_ok hnt fun K hK=>?_;refine And.intro (VLe.refl _) ?_;refine hK _ _ ?_;clear hK K;refine dw_cond (t:=true) rfl ?_;rw[if_pos rfl]
     refine dw_seq ?_;refine dwk [(36,.v (.bool false))] TRT6_ok hnt fun K hK=>?_;refine And.intro auF ?_;refine hK _ _ ?_;clear hK K;refine dw_cond (t:=false) rfl ?_;rw[if_neg (by simp)];refine dw_skip ?_;refine dw_seq ?_;refine dw_seq ?_;refine dwk [(39,.v (.bool true))] TRT6_ok hnt fun K hK=>?_;refine And.intro auT ?_;refine hK _ _ ?_;clear hK K;refine dw_cond (t:=true) rfl ?_
     rw[if_pos rfl];refine dw_seq ?_;refine dwk [] TRT6_ok hnt fun _ z9=>z9 _ _ ?_;refine dw_ret ?_
     exact reta rfl
 ·rw[headTy_o k0 k1 k2]
  simp only[Option.getD_none,Option.isSome_none]
  rw[tyZ_eq]
  refine calldw 0 51 [ResultVar.cell 6 106,ResultVar.tmp 7] TRT6_ok Tryz.func108 rfl Tryz.ntmps108 rfl fun cx hnt hn0=>?_
  ·skip
   refine dw_seq ?_;refine dwk [] TRT6_ok hnt fun _ z9=>z9 _ _ ?_;refine dw_seq ?_;refine dwk [] TRT6_ok hnt fun _ z9=>z9 _ _ ?_;refine dw_seq ?_;refine dwk [] TRT6_ok hnt fun _ z9=>z9 _ _ ?_;refine dw_seq ?_;refine dw_seq ?_;refine dwk [] TRT6_ok hnt fun _ z9=>z9 _ _ ?_;refine dw_block ?_;refine dw_seq ?_
   refine dwk [(21,.v (.bool false))] TRT6_ok hnt fun K hK=>?_;refine And.intro (beqF k1) ?_;refine hK _ _ ?_;clear hK K;refine dw_cond (t:=false) rfl ?_;rw[if_neg (by simp)];refine dw_seq ?_;refine dwk [(27,.v (.bool false))] TRT6_ok hnt fun K hK=>?_;refine And.intro (beqF k2) ?_;refine hK _ _ ?_;clear hK K;refine dw_cond (t:=false) rfl ?_;rw[if_neg (by simp)];refine dw_seq ?_
   refine dwk [(33,.v (.bool false))] TRT6_ok hnt fun K hK=>?_;refine And.intro (beqF k0) ?_;refine hK _ _ ?_;clear hK K;refine dw_cond (t:=false) rfl ?_;rw[if_neg (by simp)];refine dw_seq ?_;refine dwk [] TRT6_ok hnt fun _ z9=>z9 _ _ ?_;refine dw_ret ?_
   exact reta rfl
theorem ttype_d (b:Int)(C M:List Ty)(t:Tm)(hi:t.index≤9223372036854775807)(hC:C.length≤1000000)(hM:M.length≤1000000)(hz:t.full≤780000):
  PureC Tryz.prog 81 [.ag [.v (.int .i64 b),.sl 2 (eTys C) none,.sl 2 (eTys M) none],.v (.slice none 0 0),.ag (eTm t)] (.tu [.ag (eTy ((tyOf C M t).getD tyZ)),.v (.int .i64 (if (tyOf C M t).isSome then 0 else 10))]):=by
 have hbl:=Ty.le_sizes t.binds
 have hfl:=full_args t
 have hbe:PureC Tryz.prog 109 [.v (.slice none 0 0),.sl 2 (eTys t.binds) none] (.sl 2 (eTys ([]++t.binds)) none):=CallC.vle (within_d [] t.binds (by simp;omega)) (.cons (VLe.nil _) (.cons (VLe.refl _) .nil)) (VLe.refl _)
 have hh:=theadA_d b C M ([]++t.binds) t.kind t.index hi hC hM (by simp;omega)
 unfold tyOf
 obtain⟨o,ho⟩:∃ o,headTy C M ([]++t.binds) t.kind t.index=o:=⟨_,rfl⟩
 obtain⟨X,hX⟩:∃ X,[]++t.binds=X:=⟨_,rfl⟩
 rw[hX] at hh hbe ho ⊢
 rw[ho] at hh ⊢
 rw[eTm_eq]
 cases o with
 | none=>
  simp only[Option.map_none,Option.getD_none,Option.isSome_none,Bool.false_eq_true,if_false] at hh ⊢
  rw[tyZ_eq] at hh ⊢
  refine calldw 0 29 [ResultVar.cell 6 106,ResultVar.tmp 7] TRT6_ok Tryz.func81 rfl Tryz.ntmps81 rfl fun cx hnt hn0=>?_
  ·skip
   refine dw_seq ?_;refine dwk [] TRT6_ok hnt fun _ z9=>z9 _ _ ?_;refine dw_seq ?_;refine dwkD [] TRT6_ok hnt fun K hK=>?_;refine dcl (hbe) ?_;refine dcl (hh) ?_;refine hK _ _ (by kernel_rfl) ?_;clear hK K;refine dw_seq ?_;refine dw_seq ?_;refine dwk [] TRT6_ok hnt fun _ z9=>z9 _ _ ?_;refine dw_cond (t:=true) rfl ?_;rw[if_pos rfl];refine dw_seq ?_
   refine dwk [] TRT6_ok hnt fun _ z9=>z9 _ _ ?_;refine dw_ret ?_
   exact reta rfl
 | some h=>
  simp only[Option.map_some,Option.getD_some,Option.isSome_some,if_true] at hh ⊢
  have hk:=kOf_d h.base t.binds (by omega)
  rw[eTy_eq] at hh hk ⊢
  simp only[args_mk',base_mk'] at hk ⊢
  refine calldw 0 29 [ResultVar.cell 6 106,ResultVar.tmp 7] TRT6_ok Tryz.func81 rfl Tryz.ntmps81 rfl fun cx hnt hn0=>?_
  ·skip
   refine dw_seq ?_;refine dwk [] TRT6_ok hnt fun _ z9=>z9 _ _ ?_;refine dw_seq ?_;refine dwkD [] TRT6_ok hnt fun K hK=>?_;refine dcl (hbe) ?_;refine dcl (hh) ?_;refine hK _ _ (by kernel_rfl) ?_;clear hK K;refine dw_seq ?_;refine dw_seq ?_;refine dwk [] TRT6_ok hnt fun _ z9=>z9 _ _ ?_;refine dw_cond (t:=false) rfl ?_;rw[if_neg (by simp)]
   refine dw_skip ?_;refine dw_seq ?_;refine dwk [] TRT6_ok hnt fun K hK=>?_;refine dcl (hk) ?_;refine hK _ _ ?_;clear hK K;refine dw_ret ?_
   exact reta rfl
set_option maxHeartbeats 4000000 in
theorem tisX_d (b:Int)(C M:List Ty)(hC:C.length≤1000000)(hM:M.length≤1000000):∀ (t:Tm) (X:List Ty) (u:Ty) (c:Bool),(c=true↔IsOf C M t X u)→X.length+t.full≤780000→t.Fit →
  PureC Tryz.prog 110 [.ag [.v (.int .i64 b),.sl 2 (eTys C) none,.sl 2 (eTys M) none],.sl 2 (eTys X) none,.ag (eTm t),.ag (eTy u)] (.v (.bool c)):=by
 intro t
 induction t using Tm.ind with
 | h bs k i a ih=>
 intro X u c hc hz hf
 obtain⟨_,f2,f3⟩:=Tm.fit_iff.1 hf
 rw[Tm.full_eq] at hz
 have hal:=cFulls_len a
 have hbl:=Ty.le_sizes bs
 have hbe:=within_d X bs (by omega)
 have hh:=theadA_d b C M (X++bs) k i f2 hC hM (by simp;omega)
 obtain⟨o,ho⟩:∃ o,headTy C M (X++bs) k i=o:=⟨_,rfl⟩
 obtain⟨Y,hY⟩:∃ Y,X++bs=Y:=⟨_,rfl⟩
 have hYl:Y.length=X.length+bs.length:=by rw[←hY];simp
 have hty:=eqTys_d bs u.args 67 rfl
 have no:∀ (h:∀ x,headTy C M (X++bs) k i=some x→bs=u.args→x.base=u.base→x.args.length=a.length→False),c=false:=fun h=>by
  rw[Bool.eq_false_iff];exact fun hc1=>isOf_no h (hc.1 hc1)
 rw[ho] at hh no
 rw[eTm_eq,eTy_eq]
 simp only[bindsT,kindT,indexT,argsTm]
 rw[hY] at hbe hh
 by_cases hb:bs=u.args
 ·rw[decide_eq_true hb] at hty
  cases o with
  | none=>
   simp only[Option.getD_none,Option.isSome_none] at hh
   rw[tyZ_eq] at hh
   rw[no (fun x h=>by cases h)]
   refine calldw 0 69 [ResultVar.tmp 8] TRT6_ok Tryz.func110 rfl Tryz.ntmps110 rfl fun cx hnt hn0=>?_
   ·skip
    refine dw_seq ?_;refine dwk [] TRT6_ok hnt fun _ z9=>z9 _ _ ?_;refine dw_seq ?_;refine dw_seq ?_;refine dwk [] TRT6_ok hnt fun K hK=>?_;refine dcl (hty) ?_;refine hK _ _ ?_;clear hK K;refine dw_cond (t:=false) rfl ?_;rw[if_neg (by simp)];refine dw_skip ?_;refine dw_seq ?_;refine dwk [] TRT6_ok hnt fun K hK=>?_;refine dcl (hbe) ?_;refine hK _ _ ?_;clear hK K
    refine dw_seq ?_;refine dwk [] TRT6_ok hnt fun K hK=>?_;refine dcl (hh) ?_;refine hK _ _ ?_;clear hK K;refine dw_seq ?_;refine dw_seq ?_;refine dwk [] TRT6_ok hnt fun _ z9=>z9 _ _ ?_;refine dw_cond (t:=true) rfl ?_;rw[if_pos rfl];refine dw_seq ?_;refine dwk [] TRT6_ok hnt fun _ z9=>z9 _ _ ?_;refine dw_ret ?_
    exact reta rfl
  | some h=>
  simp only[Option.getD_some,Option.isSome_some] at hh
  rw[eTy_eq] at hh
  by_cases hbs:h.base=u.base
  ·by_cases hln:h.args.length=a.length
   ·have hIff:c=true↔∀ j (h1:j<a.length) (h2:j<h.args.length),IsOf C M a[j] Y h.args[j]:=by
     rw[hc,isOf_mk,hY]
     constructor
     ·rintro⟨_,x,h2,_,h4⟩ j j1 j2
      rw[←hY,ho] at h2;cases h2
      exact(isOfs_iff.1 h4).2 j j1 j2
     ·intro hall
      exact⟨hb,h,by rw[←hY,ho],hbs,isOfs_iff.2 ⟨hln,hall⟩⟩
    have hI:∀ j (h1:j<a.length) (h2:j<h.args.length) (d:Bool),(d=true↔IsOf C M a[j] Y h.args[j])→PureC Tryz.prog 110 [.ag [.v (.int .i64 b),.sl 2 (eTys C) none,.sl 2 (eTys M) none],.sl 2 (eTys Y) none,.ag (eTm a[j]),.ag (eTy h.args[j])] (.v (.bool d)):=fun j h1 h2 d hd=>ih _ (List.getElem_mem h1) Y _ d hd (by have:=Tm.full_mem (List.getElem_mem h1);omega) (f3 _ (List.getElem_mem h1))
    clear ih no hc
    refine calldw 0 69 [ResultVar.tmp 8] TRT6_ok Tryz.func110 rfl Tryz.ntmps110 rfl fun cx hnt hn0=>?_
    ·skip
     refine dw_seq ?_;refine dwk [] TRT6_ok hnt fun _ z9=>z9 _ _ ?_;refine dw_seq ?_;refine dw_seq ?_;refine dwk [] TRT6_ok hnt fun K hK=>?_;refine dcl (hty) ?_;refine hK _ _ ?_;clear hK K;refine dw_cond (t:=false) rfl ?_;rw[if_neg (by simp)];refine dw_skip ?_;refine dw_seq ?_;refine dwk [] TRT6_ok hnt fun K hK=>?_;refine dcl (hbe) ?_;refine hK _ _ ?_;clear hK K
     refine dw_seq ?_;refine dwk [] TRT6_ok hnt fun K hK=>?_;refine dcl (hh) ?_;refine hK _ _ ?_;clear hK K;refine dw_seq ?_;refine dw_seq ?_;refine dwk [(39,.v (.bool false)),(44,.v (.int .i64 (↑h.args.length))),(47,.v (.int .i64 (↑a.length))),(48,.v (.bool false))] TRT6_ok hnt fun K hK=>?_;refine And.intro (bneF hbs) ?_;refine And.intro (dintE (by rw[eTys_len])) ?_;refine And.intro (dintE (by rw[eTms_len])) ?_
     refine And.intro (bneF (by omega)) ?_;refine hK _ _ ?_;clear hK K;refine dw_cond (t:=false) rfl ?_;rw[if_neg (by simp)];refine dw_skip ?_;refine dw_seq ?_;refine dw_seq ?_;refine dwk [(52,.v (.int .i64 (↑a.length)))] TRT6_ok hnt fun K hK=>?_;refine And.intro (dintE (by rw[eTms_len])) ?_;refine hK _ _ ?_;clear hK K;refine dw_block ?_
     refine dw_loop (ι:={ j:Nat // ∀ i (h1:i<a.length) (h2:i<h.args.length),i<j→IsOf C M a[i] Y h.args[i] }) (fun j=>[(.t 4,.p 0 0),(.t 6,.p 1 0),(.t 7,.p 2 0),(.t 9,.sl 2 (eTys Y) none),(.t 10,.p 23 0),(.t 51,.sl 4 (eTms a) none),(.t 52,.v (.int .i64 ↑a.length)),(.t 53,.v (.int .i64 ↑j.1)),(.c 0 0,.v (.int .i64 b)),(.c 0 1,.sl 2 (eTys C) none),(.c 0 2,.sl 2 (eTys M) none),(.c 23 0,.sl 2 (eTys h.args) none),(.c 23 1,.v (.int .i64 h.base))]) 24 (fun j=>a.length-j.1) (⟨0,fun i h1 h2 h3=>by omega⟩) (VS.toA) fun j=>?_
     obtain⟨j,hj⟩:=j
     dsimp only
     by_cases hlt:j<a.length
     ·have hlt2:j<h.args.length:=by omega
      by_cases hio:IsOf C M a[j] Y h.args[j]
      ·have hi:=hI j hlt hlt2 true (by simp[hio])
       rw[eTm_eq,eTy_eq] at hi
       refine dw_seq ?_;refine dwk [(54,.v (.bool true))] TRT6_ok hnt fun K hK=>?_;refine And.intro auT ?_;refine hK _ _ ?_;clear hK K;refine dw_seq ?_;refine dw_cond (t:=true) rfl ?_;rw[if_pos rfl];refine dw_skip ?_;refine dw_seq ?_;refine dw_block ?_;refine dw_seq ?_;refine dwk [(56,.q [.sl 2 (eTys a[j].binds) none,.v (.int .i64 a[j].kind),.v (.int .i64 a[j].index),.sl 4 (eTms a[j].args) none])] TRT6_ok hnt fun K hK=>?_
       refine And.intro (elo (eTms_len a)) ?_;refine And.intro (elv (eTms_getD a j) (eTm_eq _)) ?_;refine hK _ _ ?_;clear hK K;refine dw_seq ?_;refine dwkD [(64,.q [.sl 2 (eTys h.args[j].args) none,.v (.int .i64 h.args[j].base)])] TRT6_ok hnt fun K hK=>?_;refine And.intro (elo (eTys_len h.args)) ?_;refine And.intro (elv (eTys_getD h.args j) (eTy_eq _)) ?_;refine dcl (hi) ?_;refine hK _ _ (by kernel_rfl) ?_;clear hK K
       refine dw_cond (t:=false) rfl ?_;rw[if_neg (by simp)];refine dw_skip ?_;refine dwk [(68,.v (.int .i64 (↑(j+1))))] TRT6_ok hnt fun K hK=>?_;refine And.intro auI ?_;refine hK _ _ ?_;clear hK K
       refine⟨⟨j+1,fun q h1 h2 h3=>if e:q=j then by subst e;exact hio else hj q h1 h2 (by omega)⟩,by first | omega | (dsimp only;omega),VS.toA⟩
      ·have hi:=hI j hlt hlt2 false (by simp[hio])
       rw[eTm_eq,eTy_eq] at hi
       have hcf:c=false:=by rw[Bool.eq_false_iff];exact fun h1=>hio (hIff.1 h1 j hlt hlt2)
       rw[hcf]
       refine dw_seq ?_;refine dwk [(54,.v (.bool true))] TRT6_ok hnt fun K hK=>?_;refine And.intro auT ?_;refine hK _ _ ?_;clear hK K;refine dw_seq ?_;refine dw_cond (t:=true) rfl ?_;rw[if_pos rfl];refine dw_skip ?_;refine dw_seq ?_;refine dw_block ?_;refine dw_seq ?_;refine dwk [(56,.q [.sl 2 (eTys a[j].binds) none,.v (.int .i64 a[j].kind),.v (.int .i64 a[j].index),.sl 4 (eTms a[j].args) none])] TRT6_ok hnt fun K hK=>?_
       refine And.intro (elo (eTms_len a)) ?_;refine And.intro (elv (eTms_getD a j) (eTm_eq _)) ?_;refine hK _ _ ?_;clear hK K;refine dw_seq ?_;refine dwkD [(64,.q [.sl 2 (eTys h.args[j].args) none,.v (.int .i64 h.args[j].base)])] TRT6_ok hnt fun K hK=>?_;refine And.intro (elo (eTys_len h.args)) ?_;refine And.intro (elv (eTys_getD h.args j) (eTy_eq _)) ?_;refine dcl (hi) ?_;refine hK _ _ (by kernel_rfl) ?_;clear hK K
       refine dw_cond (t:=true) rfl ?_;rw[if_pos rfl];refine dw_seq ?_;refine dwk [] TRT6_ok hnt fun _ z9=>z9 _ _ ?_;refine dw_ret ?_
       exact reta rfl
     ·rw[hIff.2 fun q h1 h2=>hj q h1 h2 (by omega)]
      refine dw_seq ?_;refine dwk [(54,.v (.bool false))] TRT6_ok hnt fun K hK=>?_;refine And.intro auF ?_;refine hK _ _ ?_;clear hK K;refine dw_seq ?_;refine dw_cond (t:=false) rfl ?_;rw[if_neg (by simp)];refine dw_exit ?_;refine dw_seq ?_;refine dwk [] TRT6_ok hnt fun _ z9=>z9 _ _ ?_;refine dw_ret ?_
      exact reta rfl
   ·rw[no (fun x h1 _ _ h4=>by cases h1;exact hln h4)]
    refine calldw 0 69 [ResultVar.tmp 8] TRT6_ok Tryz.func110 rfl Tryz.ntmps110 rfl fun cx hnt hn0=>?_
    ·skip
     refine dw_seq ?_;refine dwk [] TRT6_ok hnt fun _ z9=>z9 _ _ ?_;refine dw_seq ?_;refine dw_seq ?_;refine dwk [] TRT6_ok hnt fun K hK=>?_;refine dcl (hty) ?_;refine hK _ _ ?_;clear hK K;refine dw_cond (t:=false) rfl ?_;rw[if_neg (by simp)];refine dw_skip ?_;refine dw_seq ?_;refine dwk [] TRT6_ok hnt fun K hK=>?_;refine dcl (hbe) ?_;refine hK _ _ ?_;clear hK K
     refine dw_seq ?_;refine dwk [] TRT6_ok hnt fun K hK=>?_;refine dcl (hh) ?_;refine hK _ _ ?_;clear hK K;refine dw_seq ?_;refine dw_seq ?_;refine dwk [(39,.v (.bool false)),(44,.v (.int .i64 (↑h.args.length))),(47,.v (.int .i64 (↑a.length))),(48,.v (.bool true))] TRT6_ok hnt fun K hK=>?_;refine And.intro (bneF hbs) ?_;refine And.intro (dintE (by rw[eTys_len])) ?_;refine And.intro (dintE (by rw[eTms_len])) ?_
     refine And.intro (bneT (by omega)) ?_;refine hK _ _ ?_;clear hK K;refine dw_cond (t:=true) rfl ?_;rw[if_pos rfl];refine dw_seq ?_;refine dwk [] TRT6_ok hnt fun _ z9=>z9 _ _ ?_;refine dw_ret ?_
     exact reta rfl
  ·rw[no (fun x h1 _ h3 _=>by cases h1;exact hbs h3)]
   refine calldw 0 69 [ResultVar.tmp 8] TRT6_ok Tryz.func110 rfl Tryz.ntmps110 rfl fun cx hnt hn0=>?_
   ·skip
    refine dw_seq ?_;refine dwk [] TRT6_ok hnt fun _ z9=>z9 _ _ ?_;refine dw_seq ?_;refine dw_seq ?_;refine dwk [] TRT6_ok hnt fun K hK=>?_;refine dcl (hty) ?_;refine hK _ _ ?_;clear hK K;refine dw_cond (t:=false) rfl ?_;rw[if_neg (by simp)];refine dw_skip ?_;refine dw_seq ?_;refine dwk [] TRT6_ok hnt fun K hK=>?_;refine dcl (hbe) ?_;refine hK _ _ ?_;clear hK K
    refine dw_seq ?_;refine dwk [] TRT6_ok hnt fun K hK=>?_;refine dcl (hh) ?_;refine hK _ _ ?_;clear hK K;refine dw_seq ?_;refine dw_seq ?_;refine dwk [(39,.v (.bool true))] TRT6_ok hnt fun K hK=>?_;refine And.intro (bneT hbs) ?_;refine hK _ _ ?_;clear hK K;refine dw_cond (t:=true) rfl ?_;rw[if_pos rfl];refine dw_seq ?_;refine dwk [] TRT6_ok hnt fun _ z9=>z9 _ _ ?_
    refine dw_ret ?_
    exact reta rfl
 ·rw[decide_eq_false hb] at hty
  rw[no (fun x _ h2 _ _=>hb h2)]
  refine calldw 0 69 [ResultVar.tmp 8] TRT6_ok Tryz.func110 rfl Tryz.ntmps110 rfl fun cx hnt hn0=>?_
  ·skip
   refine dw_seq ?_;refine dwk [] TRT6_ok hnt fun _ z9=>z9 _ _ ?_;refine dw_seq ?_;refine dw_seq ?_;refine dwk [] TRT6_ok hnt fun K hK=>?_;refine dcl (hty) ?_;refine hK _ _ ?_;clear hK K;refine dw_cond (t:=true) rfl ?_;rw[if_pos rfl];refine dw_seq ?_;refine dwk [] TRT6_ok hnt fun _ z9=>z9 _ _ ?_;refine dw_ret ?_
   exact reta rfl
theorem tcheckX_d (b:Int)(C M X:List Ty)(t:Tm)(u:Ty)(c:Int)(hC:C.length≤1000000)(hM:M.length≤1000000)(hc:checkCode C M t X u c)(hz:X.length+t.full≤780000)(hf:t.Fit):
  PureC Tryz.prog 83 [.ag [.v (.int .i64 b),.sl 2 (eTys C) none,.sl 2 (eTys M) none],.sl 2 (eTys X) none,.ag (eTm t),.ag (eTy u)] (.v (.int .i64 c)):=by
 have hr:=right_d t (by omega)
 have hi:=fun d hd=>tisX_d b C M hC hM t X u d hd hz hf
 rw[eTm_eq,eTy_eq] at hi
 rw[eTm_eq] at hr
 rw[eTm_eq,eTy_eq]
 rcases hc with⟨h1,rfl⟩ | ⟨h1,h2,rfl⟩ | ⟨h1,h2,rfl⟩
 ·rw[decide_eq_false h1] at hr
  refine calldw 0 20 [ResultVar.tmp 8] TRT6_ok Tryz.func83 rfl Tryz.ntmps83 rfl fun cx hnt hn0=>?_
  ·skip
   refine dw_seq ?_;refine dwk [] TRT6_ok hnt fun _ z9=>z9 _ _ ?_;refine dw_seq ?_;refine dw_block ?_;refine dw_seq ?_;refine dwk [] TRT6_ok hnt fun K hK=>?_;refine dcl (hr) ?_;refine hK _ _ ?_;clear hK K;refine dw_cond (t:=true) rfl ?_;rw[if_pos rfl];refine dw_seq ?_;refine dwk [] TRT6_ok hnt fun _ z9=>z9 _ _ ?_;refine dw_ret ?_
   exact reta rfl
 ·rw[decide_eq_true h1] at hr
  have hi:=hi false (by simp[h2])
  refine calldw 0 20 [ResultVar.tmp 8] TRT6_ok Tryz.func83 rfl Tryz.ntmps83 rfl fun cx hnt hn0=>?_
  ·skip
   refine dw_seq ?_;refine dwk [] TRT6_ok hnt fun _ z9=>z9 _ _ ?_;refine dw_seq ?_;refine dw_block ?_;refine dw_seq ?_;refine dwk [] TRT6_ok hnt fun K hK=>?_;refine dcl (hr) ?_;refine hK _ _ ?_;clear hK K;refine dw_cond (t:=false) rfl ?_;rw[if_neg (by simp)];refine dw_seq ?_;refine dwk [] TRT6_ok hnt fun K hK=>?_;refine dcl (hi) ?_;refine hK _ _ ?_;clear hK K
   refine dw_cond (t:=true) rfl ?_;rw[if_pos rfl];refine dw_seq ?_;refine dwk [] TRT6_ok hnt fun _ z9=>z9 _ _ ?_;refine dw_ret ?_
   exact reta rfl
 ·rw[decide_eq_true h1] at hr
  have hi:=hi true (by simp[h2])
  refine calldw 0 20 [ResultVar.tmp 8] TRT6_ok Tryz.func83 rfl Tryz.ntmps83 rfl fun cx hnt hn0=>?_
  ·skip
   refine dw_seq ?_;refine dwk [] TRT6_ok hnt fun _ z9=>z9 _ _ ?_;refine dw_seq ?_;refine dw_block ?_;refine dw_seq ?_;refine dwk [] TRT6_ok hnt fun K hK=>?_;refine dcl (hr) ?_;refine hK _ _ ?_;clear hK K;refine dw_cond (t:=false) rfl ?_;rw[if_neg (by simp)];refine dw_seq ?_;refine dwk [] TRT6_ok hnt fun K hK=>?_;refine dcl (hi) ?_;refine hK _ _ ?_;clear hK K
   refine dw_cond (t:=false) rfl ?_;rw[if_neg (by simp)];refine dw_skip ?_;refine dw_seq ?_;refine dwk [] TRT6_ok hnt fun _ z9=>z9 _ _ ?_;refine dw_ret ?_
   exact reta rfl
theorem tcheck_d (b:Int)(C M:List Ty)(t:Tm)(u:Ty)(c:Int)(hC:C.length≤1000000)(hM:M.length≤1000000)(hc:checkCode C M t [] u c)(hz:t.full≤780000)(hfit:t.Fit):
  PureC Tryz.prog 83 [.ag [.v (.int .i64 b),.sl 2 (eTys C) none,.sl 2 (eTys M) none],.v (.slice none 0 0),.ag (eTm t),.ag (eTy u)] (.v (.int .i64 c)):=
 CallC.vle (tcheckX_d b C M [] t u c hC hM hc (by simp;omega) hfit) (.cons (VLe.refl _) (.cons (VLe.nil _) (.cons (VLe.refl _) (.cons (VLe.refl _) .nil)))) (VLe.refl _)
theorem tworld_d (b:Int)(C M:List Ty)(c:Bool)(hc:c=true↔RightWd b C M)(hz:∀ t∈C++M,t.size≤400000):PureC Tryz.prog 80 [.ag [.v (.int .i64 b),.sl 2 (eTys C) none,.sl 2 (eTys M) none]] (.v (.bool c)):=by
 refine pure_below (by kernel_rfl) fun m Im w vs hv=>?_
 match vs,hv with
 | [x1],hv=>
  obtain⟨cv,mv,rfl,h1,h2⟩:=agWorld hv.1
  refine(RightWorld_k h1 h2 hz).mono ?_
  rintro e w' ⟨c',hc',rfl,hb⟩
  have:c'=c:=by rw[Bool.eq_iff_iff,hc',hc]
  subst this
  exact⟨_,rfl,hb,fun _ _ _=>.v _⟩
def TRF_24:TI:=⟨3,true,[Value.int IntKind.i64 0,Value.slice none 0 0,Value.slice none 0 0],[(0,1,false),(1,1,false),(2,1,false)],none,56,6,none,false⟩
theorem TRF_24_ok:TypOk Tryz.prog 24 TRF_24:=by constructor <;> kernel_rfl
def TRF_62:TI:=⟨4,true,[Value.slice none 0 0,Value.int IntKind.i64 0,Value.int IntKind.i64 0,Value.slice none 0 0],[(0,1,false),(1,2,true),(3,1,false)],none,64,6,none,false⟩
theorem TRF_62_ok:TypOk Tryz.prog 62 TRF_62:=by constructor <;> kernel_rfl
def TRF_43:TI:=⟨3,true,[Value.int IntKind.i64 0,Value.slice none 0 0,Value.slice none 0 0],[(0,1,false),(1,1,false),(2,1,false)],none,56,6,none,false⟩
theorem TRF_43_ok:TypOk Tryz.prog 43 TRF_43:=by constructor <;> kernel_rfl
def TRF_33:TI:=⟨9,true,[Value.slice none 0 0,Value.int IntKind.i64 0,Value.int IntKind.i64 0,Value.slice none 0 0,Value.slice none 0 0,Value.int IntKind.i64 0,Value.int IntKind.i64 0,Value.slice none 0 0,Value.slice none 0 0],[(0,4,true),(4,4,true),(8,1,false)],none,152,6,none,false⟩
theorem TRF_33_ok:TypOk Tryz.prog 33 TRF_33:=by constructor <;> kernel_rfl
def TRF_31:TI:=⟨4,true,[Value.slice none 0 0,Value.int IntKind.i64 0,Value.int IntKind.i64 0,Value.slice none 0 0],[(0,1,false),(1,2,true),(3,1,false)],none,64,6,none,false⟩
theorem TRF_31_ok:TypOk Tryz.prog 31 TRF_31:=by constructor <;> kernel_rfl
def TRF_64:TI:=⟨9,true,[Value.slice none 0 0,Value.int IntKind.i64 0,Value.int IntKind.i64 0,Value.slice none 0 0,Value.slice none 0 0,Value.int IntKind.i64 0,Value.int IntKind.i64 0,Value.slice none 0 0,Value.slice none 0 0],[(0,4,true),(4,4,true),(8,1,false)],none,152,6,none,false⟩
theorem TRF_64_ok:TypOk Tryz.prog 64 TRF_64:=by constructor <;> kernel_rfl
def TRF_22:TI:=⟨1,false,[Value.slice none 0 0],[],some 104,24,5,none,false⟩
theorem TRF_22_ok:TypOk Tryz.prog 22 TRF_22:=by constructor <;> kernel_rfl
def TRF_104:TI:=⟨2,true,[Value.slice none 0 0,Value.int IntKind.i64 0],[(0,1,false),(1,1,false)],none,32,6,none,false⟩
theorem TRF_104_ok:TypOk Tryz.prog 104 TRF_104:=by constructor <;> kernel_rfl
def TRF_41:TI:=⟨1,false,[Value.slice none 0 0],[],some 106,24,5,none,false⟩
theorem TRF_41_ok:TypOk Tryz.prog 41 TRF_41:=by constructor <;> kernel_rfl
def TRF_106:TI:=⟨2,true,[Value.slice none 0 0,Value.int IntKind.i64 0],[(0,1,false),(1,1,false)],none,32,6,none,false⟩
theorem TRF_106_ok:TypOk Tryz.prog 106 TRF_106:=by constructor <;> kernel_rfl
def TRF_3:TI:=⟨1,false,[Value.int IntKind.i64 0],[],none,8,2,none,false⟩
theorem TRF_3_ok:TypOk Tryz.prog 3 TRF_3:=by constructor <;> kernel_rfl
def TRF_50:TI:=⟨1,false,[Value.int IntKind.i64 0],[],none,8,2,none,false⟩
theorem TRF_50_ok:TypOk Tryz.prog 50 TRF_50:=by constructor <;> kernel_rfl
def TRF:List (Nat×TI):=[(24,TRF_24),(62,TRF_62),(43,TRF_43),(33,TRF_33),(31,TRF_31),(64,TRF_64),(22,TRF_22),(104,TRF_104),(41,TRF_41),(106,TRF_106),(3,TRF_3),(50,TRF_50)]
theorem TRF_ok:TabOk Tryz.prog TRF:=(((((((((((((TabOk.nil _).cons TRF_50_ok).cons TRF_3_ok).cons TRF_106_ok).cons TRF_41_ok).cons TRF_104_ok).cons TRF_22_ok).cons TRF_64_ok).cons TRF_31_ok).cons TRF_33_ok).cons TRF_43_ok).cons TRF_62_ok).cons TRF_24_ok)
namespace Ru
structure Good (b:Int) (C:List Ty) (p:Li.Pr):Prop where
 w:RightWd b C p.m
 l:Li.rt p.l=true
 r:Li.rt p.r=true
 u:∃ u,tyOf C p.m p.l=some u∧u.args=[]∧IsOf C p.m p.l [] u∧IsOf C p.m p.r [] u
end Ru
theorem ruclos_d (b:Int)(C M:List Ty)(u:Ty)(t:Tm)(c:Int)(hC:C.length≤1000000)(hM:M.length≤1000000)(hc:checkCode C M t [] u c)(hz:t.full≤90000)(hf:t.Fit):
  CallC Tryz.prog 82 [.ag (eTm t),.p 10 0,.p 34 0] [(.c 10 0,.v (.int .i64 b)),(.c 10 1,.sl 2 (eTys C) none),(.c 10 2,.sl 2 (eTys M) none),(.c 34 0,.sl 2 (eTys u.args) none),(.c 34 1,.v (.int .i64 u.base))] [(.c 10 0,.v (.int .i64 b)),(.c 10 1,.sl 2 (eTys C) none),(.c 10 2,.sl 2 (eTys M) none),(.c 34 0,.sl 2 (eTys u.args) none),(.c 34 1,.v (.int .i64 u.base))] (.v (.bool (decide (c=0)))):=by
 have h:=tcheck_d b C M t u c hC hM hc (by omega) hf
 rw[eTm_eq,eTy_eq] at h
 rw[eTm_eq]
 refine calldw 35 10 [ResultVar.tmp 4] TRF_ok Tryz.func82 rfl Tryz.ntmps82 rfl fun cx hnt hn0=>?_
 ·skip
  refine dw_seq ?_;refine dwk [] TRF_ok hnt fun _ z9=>z9 _ _ ?_;refine dw_seq ?_;refine dwk [(9,.v (.bool (decide (c=0))))] TRF_ok hnt fun K hK=>?_;refine dcl (h) ?_;refine And.intro (VLe.of_eq (by by_cases h:c=0 <;> simp[h])) ?_;refine hK _ _ ?_;clear hK K;refine dw_ret ?_
  exact reta rfl
theorem checkYes {C M:List Ty}{t:Tm}{u:Ty}(h1:Li.rt t=true)(h2:IsOf C M t [] u):checkCode C M t [] u 0:=by
 unfold Li.rt at h1;rw[decide_eq_true_eq] at h1
 exact .inr (.inr ⟨h1,h2,rfl⟩)
theorem checkNo {C M:List Ty}{t:Tm}{u:Ty}(h1:Li.rt t=true)(h2:¬ IsOf C M t [] u):checkCode C M t [] u 5:=by
 unfold Li.rt at h1;rw[decide_eq_true_eq] at h1
 exact .inr (.inl ⟨h1,h2,rfl⟩)
namespace Ru
def ms (t:Tm):List Int:=sortU (metasL [t])
def chk (p:Li.Pr):Int:=if p.l.kind≠1 then 6 else if (Pn.uses p.l [] []).2=false then 6 else if ((ms p.r).any fun x=>!((ms p.l).contains x))=true then 7 else 0
end Ru
namespace Ru
def kA:Ty:=.mk [] 0
def kC:List Ty:=[.mk [kA,kA] 0,.mk [kA] 0]
theorem kWd:RightWd 1 kC [kA,kA]:=by
 refine⟨by decide,fun t ht=>?_⟩
 have:t=kA∨t=.mk [kA,kA] 0∨t=.mk [kA] 0:=by
  simp[kC] at ht
  rcases ht with h | h | h
  ·exact .inr (.inl h)
  ·exact .inr (.inr h)
  ·exact .inl h
 rcases this with rfl | rfl | rfl
 ·exact⟨by decide,by decide,by simp[kA,Ty.low_iff]⟩
 ·exact⟨by decide,by decide,by simp[kA,Ty.low_iff]⟩
 ·exact⟨by decide,by decide,by simp[kA,Ty.low_iff]⟩
end Ru
namespace Ru
def rg:Nat→List Int
 | 0=>[]
 | n+1=>rg n++[(n:Int)]
end Ru
namespace Ru
/-! metavariables -/
mutual
def AllIn (o:List Int):Tm→Prop
 | .mk _ k i a=>(k=2→i∈o)∧AllIns o a
def AllIns (o:List Int):List Tm→Prop
 | []=>True
 | t :: l=>AllIn o t∧AllIns o l
end
/-! typed -/
variable {C M:List Ty} {o:List Int}
/-! patterns -/
mutual
def K0:Tm→Prop
 | .mk _ k _ a=>k≠2∧K0s a
def K0s:List Tm→Prop
 | []=>True
 | t :: l=>K0 t∧K0s l
end
/-! which metavariables -/
def g (f:List Int)(x:Int):Int:=if x∈f then (ix x f:Int) else x
end Ru
end Go.Proofs.YtclihnccilkohaaGreat
namespace Go.Proofs.YtclihnccilkohaaGreat
open Go.RowKit
namespace Ru
variable {C M:List Ty}
end Ru
def swR (kw kb:Nat)(l:List (Int×Tm))(s:Nm.St):List (Key×D):=[(.c kw 0,.o kb),(.c kw 1,.sl 5 (ePairs l) none),(.c kw 2,.v (.int .i64 s.e)),(.o kb,.ob (BudJ s.left s.dry))]
theorem sthr_at (kw kb:Nat)(hk:kw≠kb)(l:List (Int×Tm))(hl:l.length≤1000000)(t:Tm)(ht:Wide t)(ins:Int)(s:Nm.St)(hs:InR s)(ho:thOk l t ins s):
  CallC Tryz.prog 149 [.p kw 0,.ag (eTm t),.v (.int .i64 ins)] (swR kw kb l s) (swR kw kb l (Sb.through l t ins s).2) (.ag (eTm (Sb.through l t ins s).1)):=by
 have h:=(sthr_d l hl t ht ins s hs ho).ren (ren2 kw kb) (by simp[renOk,swE,D.ok,D.oks,rnames,inN,ckey,eTm_ok,eTms_ok,eTys_ok,ePairs_ok]) (by
  intro k h1 k' h2
  simp[rnames,swE] at h1 h2
  rcases h1 with rfl | rfl <;> rcases h2 with rfl | rfl <;> simp[ren2,hk,hk.symm])
 simpa[D.ren,eTm_ren,eTms_ren,ePairs_ren,swE,swR,renE,Key.ren,ren2] using h
theorem app_1 {l:List (Int×Tm)}{t:Tm}{left:Int}{dry:Bool}(h:Sb.right l=false):Sb.apply l t left dry=(Nm.tz,⟨left,dry,0,1⟩):=if_pos h
theorem app_2 {l:List (Int×Tm)}{t:Tm}{left:Int}{dry:Bool}(h:Sb.right l=true):Sb.apply l t left dry =
  (let r:=Sb.through l t 0 ⟨left,dry,0,0⟩;let s:Nm.St:=if r.2.e=0∧¬ (r.1.size≤5000∧r.1.depth≤60) then { r.2 with e:=2 } else r.2;if s.e≠0 then (Nm.tz,s) else (r.1,s)):=if_neg (by rw[h];simp)
def endA (t:Tm)(s:Nm.St):Tm×Nm.St:=let s':Nm.St:=if s.e=0∧¬ (t.size≤5000∧t.depth≤60) then { s with e:=2 } else s;if s'.e≠0 then (Nm.tz,s') else (t,s')
theorem end_1 {t:Tm}(h:t.size≤5000∧t.depth≤60)(l:Int)(d:Bool)(c:Int):endA t ⟨l,d,c,0⟩=(t,⟨l,d,c,0⟩):=by
 have:¬ ((0:Int)=0∧¬ (t.size≤5000∧t.depth≤60)):=fun h'=>h'.2 h
 unfold endA;dsimp only;rw[if_neg this];simp
theorem end_2 {t:Tm}(h:¬ (t.size≤5000∧t.depth≤60))(l:Int)(d:Bool)(c:Int):endA t ⟨l,d,c,0⟩=(Nm.tz,⟨l,d,c,2⟩):=by
 have:(0:Int)=0∧¬ (t.size≤5000∧t.depth≤60):=⟨rfl,h⟩
 unfold endA;dsimp only;rw[if_pos this];rfl
theorem end_3 {t:Tm}{e:Int}(h:e≠0)(l:Int)(d:Bool)(c:Int):endA t ⟨l,d,c,e⟩=(Nm.tz,⟨l,d,c,e⟩):=by
 have:¬ (e=0∧¬ (t.size≤5000∧t.depth≤60)):=fun h'=>h h'.1
 unfold endA;dsimp only;rw[if_neg this];exact if_pos h
set_option maxHeartbeats 1000000 in
theorem apply_d (l:List (Int×Tm))(hl:l.length≤1000000)(t:Tm)(ht:Wide t)(left:Int)(dry:Bool)(h0:0≤left∧left≤1000000000)(ho:Sb.right l=true→thOk l t 0 ⟨left,dry,0,0⟩∧((Sb.through l t 0 ⟨left,dry,0,0⟩).2.e=0→DoneOk (Sb.through l t 0 ⟨left,dry,0,0⟩).1)):
  CallC Tryz.prog 140 [.sl 5 (ePairs l) none,.ag (eTm t),.o 1] [(.o 1,.ob (BudJ left dry))] [(.o 1,.ob (BudJ (Sb.apply l t left dry).2.left (Sb.apply l t left dry).2.dry))] (.tu [.ag (eTm (Sb.apply l t left dry).1),.v (.int .i64 (Sb.apply l t left dry).2.e)]):=by
 obtain⟨p,hp⟩:∃ p,Sb.apply l t left dry=p:=⟨_,rfl⟩
 rw[hp]
 have hrt:=sright_d l hl
 have hth:=fun h=>sthr_at 15 1 (by decide) l hl t ht 0 ⟨left,dry,0,0⟩ h0 (ho h).1
 rw[eTm_eq t] at hth ⊢
 refine call_of_dw 2 50 [ResultVar.cell 6 62,ResultVar.tmp 7] TS2_ok (by kernel_rfl) Tryz.func140 rfl Tryz.ntmps140 rfl (by simp) ?dwords ?dbody
 case dwords=>simp[wordsOk,D.ok,D.oks,rnames,inN,ckey,eTm_ok,eTms_ok,eTys_ok,ePairs_ok]
 case dbody=>
  intro cx hnt hn0
  refine dw_seq ?_;refine dwk [] TS2_ok hnt fun _ z9=>z9 _ _ ?_;refine dw_seq (dw_seq ?_)
  cases hr:Sb.right l with
  | false=>
   rw[hr] at hrt
   rw[app_1 hr] at hp
   subst hp
   refine dwk [] TS2_ok hnt fun K hK=>?_;refine dcl (hrt) ?_;refine hK _ _ ?_;clear hK K;refine dw_cond (t:=true) rfl ?_;rw[if_pos rfl];refine dw_seq ?_;refine dwk [] TS2_ok hnt fun _ z9=>z9 _ _ ?_;refine dw_ret ?_
   rw[tz_eq]
   exact retv (N:=0) (.inr rfl) rfl (by repeat first | exact VLe.refl _ | exact VLe.nil _ | exact VLe.untag _ _ _ | refine VLe.ag ?_ | refine VLe.tu ?_ | refine VLeL.cons ?_ ?_ | exact VLeL.nil) (by repeat first | exact trivial | refine And.intro rfl ?_)
  | true=>
   rw[hr] at hrt
   have ho:=(ho hr).2
   have hth:=hth hr
   rw[app_2 hr] at hp
   obtain⟨r,hrr⟩:∃ r,Sb.through l t 0 ⟨left,dry,0,0⟩=r:=⟨_,rfl⟩
   rw[hrr] at hp ho hth
   have hp:endA r.1 r.2=p:=hp
   clear hrr
   obtain⟨u,s1⟩:=r
   obtain⟨left',dry',count,er⟩:=s1
   dsimp only at hp ho hth
   refine dwk [] TS2_ok hnt fun K hK=>?_;refine dcl (hrt) ?_;refine hK _ _ ?_;clear hK K;refine dw_cond (t:=false) rfl ?_;rw[if_neg (by simp)];refine dw_skip ?_;refine dw_seq ?_;refine dwk [] TS2_ok hnt fun _ z9=>z9 _ _ ?_;refine dw_seq ?_
   have hru:er=0→PureC Tryz.prog 34 [.ag (eTm u)] (.v (.bool (decide (u.size≤5000∧u.depth≤60)))):=fun h=>right_d u (by have:=(ho h).right;omega)
   have hcu:er=0→(u.size≤5000∧u.depth≤60)→PureC Tryz.prog 96 [.ag (eTm u)] (.ag (eTm u)):=fun h h'=>copyW_d u ((ho h).copy h').1 ((ho h).copy h').2
   rw[eTm_eq u] at hth hru hcu
   refine dwk [] TS2_ok hnt fun K hK=>?_;refine dcl (hth) ?_;refine hK _ _ ?_;clear hK K;refine dw_seq (dw_seq ?_)
   by_cases he:er=0
   ·subst he
    have hru:=hru rfl
    by_cases hR:u.size≤5000∧u.depth≤60
    ·have hcu:=hcu rfl hR
     rw[end_1 hR] at hp
     subst hp
     rw[decide_eq_true hR] at hru
     refine dwk [(29,.v (.bool true))] TS2_ok hnt fun K hK=>?_;refine And.intro (VLe.refl _) ?_;refine dcl (hru) ?_;refine hK _ _ ?_;clear hK K;refine dw_cond (t:=false) rfl ?_;rw[if_neg (by simp)];refine dw_skip ?_;refine dw_seq (dw_seq ?_);refine dwk [(42,.v (.bool false))] TS2_ok hnt fun K hK=>?_;refine And.intro (VLe.refl _) ?_;refine hK _ _ ?_;clear hK K;refine dw_cond (t:=false) rfl ?_
     rw[if_neg (by simp)];refine dw_skip ?_;refine dw_seq ?_;refine dwk [] TS2_ok hnt fun K hK=>?_;refine dcl (hcu) ?_;refine hK _ _ ?_;clear hK K;refine dw_ret ?_
     rw[eTm_eq]
     exact retv (N:=0) (.inr rfl) rfl (by repeat first | exact VLe.refl _ | exact VLe.nil _ | exact VLe.untag _ _ _ | refine VLe.ag ?_ | refine VLe.tu ?_ | refine VLeL.cons ?_ ?_ | exact VLeL.nil) (by repeat first | exact trivial | refine And.intro rfl ?_)
    ·rw[end_2 hR] at hp
     subst hp
     rw[decide_eq_false hR] at hru
     refine dwk [(29,.v (.bool true))] TS2_ok hnt fun K hK=>?_;refine And.intro (VLe.refl _) ?_;refine dcl (hru) ?_;refine hK _ _ ?_;clear hK K;refine dw_cond (t:=true) rfl ?_;rw[if_pos rfl];refine dwk [] TS2_ok hnt fun _ z9=>z9 _ _ ?_;refine dw_seq (dw_seq ?_);refine dwk [(42,.v (.bool true))] TS2_ok hnt fun K hK=>?_;refine And.intro (VLe.refl _) ?_;refine hK _ _ ?_;clear hK K
     refine dw_cond (t:=true) rfl ?_;rw[if_pos rfl];refine dw_seq ?_;refine dwkD [] TS2_ok hnt fun K hK=>?_;refine hK _ _ (by kernel_rfl) ?_;clear hK K;refine dw_ret ?_
     rw[tz_eq]
     exact retv (N:=0) (.inr rfl) rfl (by repeat first | exact VLe.refl _ | exact VLe.nil _ | exact VLe.untag _ _ _ | refine VLe.ag ?_ | refine VLe.tu ?_ | refine VLeL.cons ?_ ?_ | exact VLeL.nil) (by repeat first | exact trivial | refine And.intro rfl ?_)
   ·rw[end_3 he] at hp
    subst hp
    refine dwk [(29,.v (.bool false))] TS2_ok hnt fun K hK=>?_;refine And.intro (VLe.of_eq (by simp[he])) ?_;refine hK _ _ ?_;clear hK K;refine dw_cond (t:=false) rfl ?_;rw[if_neg (by simp)];refine dw_skip ?_;refine dw_seq (dw_seq ?_);refine dwk [(42,.v (.bool true))] TS2_ok hnt fun K hK=>?_;refine And.intro (VLe.of_eq (by simp[he])) ?_;refine hK _ _ ?_;clear hK K;refine dw_cond (t:=true) rfl ?_
    rw[if_pos rfl];refine dw_seq ?_;refine dwkD [] TS2_ok hnt fun K hK=>?_;refine hK _ _ (by kernel_rfl) ?_;clear hK K;refine dw_ret ?_
    rw[tz_eq]
    exact retv (N:=0) (.inr rfl) rfl (by repeat first | exact VLe.refl _ | exact VLe.nil _ | exact VLe.untag _ _ _ | refine VLe.ag ?_ | refine VLe.tu ?_ | refine VLeL.cons ?_ ?_ | exact VLeL.nil) (by repeat first | exact trivial | refine And.intro rfl ?_)
theorem apply_at (kb:Nat)(l:List (Int×Tm))(hl:l.length≤1000000)(t:Tm)(ht:Wide t)(left:Int)(dry:Bool)(h0:0≤left∧left≤1000000000)(ho:Sb.right l=true→thOk l t 0 ⟨left,dry,0,0⟩∧((Sb.through l t 0 ⟨left,dry,0,0⟩).2.e=0→DoneOk (Sb.through l t 0 ⟨left,dry,0,0⟩).1)):
  CallC Tryz.prog 140 [.sl 5 (ePairs l) none,.ag (eTm t),.o kb] [(.o kb,.ob (BudJ left dry))] [(.o kb,.ob (BudJ (Sb.apply l t left dry).2.left (Sb.apply l t left dry).2.dry))] (.tu [.ag (eTm (Sb.apply l t left dry).1),.v (.int .i64 (Sb.apply l t left dry).2.e)]):=by
 have h:=(apply_d l hl t ht left dry h0 ho).ren (fun _=>kb) (by simp[renOk,D.ok,D.oks,rnames,inN,ckey,eTm_ok,ePairs_ok]) (by
  intro k h1 k' h2 _
  simp[rnames] at h1 h2
  rw[h1,h2])
 simpa[D.ren,D.rens,eTm_ren,ePairs_ren,renE,Key.ren] using h
namespace Ru
end Ru
theorem apply_less {l:List (Int×Tm)}{t:Tm}{left:Int}{dry:Bool}{B:Nat}(hl:∀ p∈l,Bnd B p.2)(ht:Bnd B t)(h:0≤left∧left≤1000000000):(Sb.apply l t left dry).2.e=0→(Sb.apply l t left dry).2.left≤left∧((Sb.apply l t left dry).1.size≤5000∧(Sb.apply l t left dry).1.depth≤60)∧Bnd B (Sb.apply l t left dry).1:=by
 unfold Sb.apply
 by_cases hr:Sb.right l=false
 ·rw[if_pos hr];intro e;cases e
 ·rw[if_neg hr]
  have h1:=Sb.grow l hl t ht 0 ⟨left,dry,0,0⟩ h
  dsimp only
  generalize Sb.through l t 0 ⟨left,dry,0,0⟩=r at h1
  by_cases hc:r.2.e=0∧¬ (r.1.size≤5000∧r.1.depth≤60)
  ·rw[if_pos hc]
   rw[if_pos (by show (2:Int)≠0;decide)]
   intro e;cases e
  ·rw[if_neg hc]
   by_cases hp:r.2.e=0
   ·rw[if_neg (fun h=>h hp)]
    intro _
    have h2:=h1 hp
    have h3:=Tm.size_pos r.1
    refine⟨by have:=h2.2.1;dsimp only at this ⊢;omega,?_,h2.2.2⟩
    by_cases h5:r.1.size≤5000∧r.1.depth≤60
    ·exact h5
    ·exact absurd ⟨hp,h5⟩ hc
   ·rw[if_pos hp]
    intro e;exact absurd e hp
def TAUB_62:TI:=⟨4,true,[Value.slice none 0 0,Value.int IntKind.i64 0,Value.int IntKind.i64 0,Value.slice none 0 0],[(0,1,false),(1,2,true),(3,1,false)],none,64,6,none,false⟩
theorem TAUB_62_ok:TypOk Tryz.prog 62 TAUB_62:=by constructor <;> kernel_rfl
def TAUB_50:TI:=⟨1,false,[Value.int IntKind.i64 0],[],none,8,2,none,false⟩
theorem TAUB_50_ok:TypOk Tryz.prog 50 TAUB_50:=by constructor <;> kernel_rfl
def TAUB_3:TI:=⟨1,false,[Value.int IntKind.i64 0],[],none,8,2,none,false⟩
theorem TAUB_3_ok:TypOk Tryz.prog 3 TAUB_3:=by constructor <;> kernel_rfl
def TAUB_110:TI:=⟨5,true,[Value.int IntKind.i64 0,Value.slice none 0 0,Value.int IntKind.i64 0,Value.int IntKind.i64 0,Value.slice none 0 0],[(0,1,false),(1,4,true)],none,72,6,none,false⟩
theorem TAUB_110_ok:TypOk Tryz.prog 110 TAUB_110:=by constructor <;> kernel_rfl
def TAUB_84:TI:=⟨1,false,[Value.slice none 0 0],[],some 110,24,5,none,false⟩
theorem TAUB_84_ok:TypOk Tryz.prog 84 TAUB_84:=by constructor <;> kernel_rfl
def TAUB_140:TI:=⟨5,true,[Value.int IntKind.i64 0,Value.slice none 0 0,Value.slice none 0 0,Value.slice none 0 0,Value.int IntKind.i64 0],[(0,3,true),(3,1,false),(4,1,false)],none,88,6,none,false⟩
theorem TAUB_140_ok:TypOk Tryz.prog 140 TAUB_140:=by constructor <;> kernel_rfl
def TAUB_64:TI:=⟨9,true,[Value.slice none 0 0,Value.int IntKind.i64 0,Value.int IntKind.i64 0,Value.slice none 0 0,Value.slice none 0 0,Value.int IntKind.i64 0,Value.int IntKind.i64 0,Value.slice none 0 0,Value.slice none 0 0],[(0,4,true),(4,4,true),(8,1,false)],none,152,6,none,false⟩
theorem TAUB_64_ok:TypOk Tryz.prog 64 TAUB_64:=by constructor <;> kernel_rfl
def TAUB_41:TI:=⟨1,false,[Value.slice none 0 0],[],some 106,24,5,none,false⟩
theorem TAUB_41_ok:TypOk Tryz.prog 41 TAUB_41:=by constructor <;> kernel_rfl
def TAUB_138:TI:=⟨1,false,[Value.pointer none],[],none,8,4,none,false⟩
theorem TAUB_138_ok:TypOk Tryz.prog 138 TAUB_138:=by constructor <;> kernel_rfl
def TAUB_4:TI:=⟨1,false,[Value.bool false],[],none,1,1,none,false⟩
theorem TAUB_4_ok:TypOk Tryz.prog 4 TAUB_4:=by constructor <;> kernel_rfl
def TAUB_60:TI:=⟨1,false,[Value.slice none 0 0],[],some 62,24,5,none,false⟩
theorem TAUB_60_ok:TypOk Tryz.prog 60 TAUB_60:=by constructor <;> kernel_rfl
def TAUB_43:TI:=⟨3,true,[Value.int IntKind.i64 0,Value.slice none 0 0,Value.slice none 0 0],[(0,1,false),(1,1,false),(2,1,false)],none,56,6,none,false⟩
theorem TAUB_43_ok:TypOk Tryz.prog 43 TAUB_43:=by constructor <;> kernel_rfl
def TAUB_106:TI:=⟨2,true,[Value.slice none 0 0,Value.int IntKind.i64 0],[(0,1,false),(1,1,false)],none,32,6,none,false⟩
theorem TAUB_106_ok:TypOk Tryz.prog 106 TAUB_106:=by constructor <;> kernel_rfl
def TAUB_71:TI:=⟨1,false,[Value.slice none 0 0],[],some 3,24,5,none,false⟩
theorem TAUB_71_ok:TypOk Tryz.prog 71 TAUB_71:=by constructor <;> kernel_rfl
def TAUB_233:TI:=⟨1,false,[Value.pointer none],[],none,8,4,none,false⟩
theorem TAUB_233_ok:TypOk Tryz.prog 233 TAUB_233:=by constructor <;> kernel_rfl
def TAUB:List (Nat×TI):=[(62,TAUB_62),(50,TAUB_50),(3,TAUB_3),(110,TAUB_110),(84,TAUB_84),(140,TAUB_140),(64,TAUB_64),(41,TAUB_41),(138,TAUB_138),(4,TAUB_4),(60,TAUB_60),(43,TAUB_43),(106,TAUB_106),(71,TAUB_71),(233,TAUB_233)]
theorem TAUB_ok:TabOk Tryz.prog TAUB:=((((((((((((((((TabOk.nil _).cons TAUB_233_ok).cons TAUB_71_ok).cons TAUB_106_ok).cons TAUB_43_ok).cons TAUB_60_ok).cons TAUB_4_ok).cons TAUB_138_ok).cons TAUB_41_ok).cons TAUB_64_ok).cons TAUB_140_ok).cons TAUB_84_ok).cons TAUB_110_ok).cons TAUB_3_ok).cons TAUB_50_ok).cons TAUB_62_ok)
namespace Au
def ck (b:Int)(C Mw:List Ty)(eqs:List Li.Pr)(e:Int):List (Key×D):=[(.c 0 0,.v (.int .i64 b)),(.c 0 1,.sl 2 (eTys C) none),(.c 0 2,.sl 2 (eTys Mw) none),(.c 0 3,.sl 9 (ePrs eqs) none),(.c 0 4,.v (.int .i64 e))]
end Au
theorem must_d (b:Int)(C Mw:List Ty)(eqs:List Li.Pr)(e c:Int)(is:Bool):CallC Tryz.prog 120 [.p 0 0,.v (.bool is),.v (.int .i64 c)] (Au.ck b C Mw eqs e) (Au.ck b C Mw eqs (Au.must e is c)) (.tu []):=by
 unfold Au.must Au.ck
 by_cases he:e=0
 ·subst he
  cases is with
  | true=>
   rw[if_neg (by simp)]
   refine calldw 2 19 [] TAUB_ok Tryz.func120 rfl Tryz.ntmps120 rfl fun cx hnt hn0=>?_
   ·skip
    refine dw_seq ?_;refine dwk [(10,.v (.bool true))] TAUB_ok hnt fun K hK=>?_;refine And.intro (beqT rfl) ?_;refine hK _ _ ?_;clear hK K;refine dw_cond (t:=false) rfl ?_;rw[if_neg (by simp)];refine dw_skip ?_
    exact reta rfl
  | false=>
   rw[if_pos ⟨rfl,rfl⟩]
   refine calldw 2 19 [] TAUB_ok Tryz.func120 rfl Tryz.ntmps120 rfl fun cx hnt hn0=>?_
   ·skip
    refine dw_seq ?_;refine dwk [(10,.v (.bool true))] TAUB_ok hnt fun K hK=>?_;refine And.intro (beqT rfl) ?_;refine hK _ _ ?_;clear hK K;refine dw_cond (t:=true) rfl ?_;rw[if_pos rfl];refine dwk [] TAUB_ok hnt fun _ z9=>z9 _ _ ?_
    exact reta rfl
 ·rw[if_neg (fun h=>he h.1)]
  refine calldw 2 19 [] TAUB_ok Tryz.func120 rfl Tryz.ntmps120 rfl fun cx hnt hn0=>?_
  ·skip
   refine dw_seq ?_;refine dwk [(10,.v (.bool false))] TAUB_ok hnt fun K hK=>?_;refine And.intro (beqF he) ?_;refine hK _ _ ?_;clear hK K;refine dw_cond (t:=false) rfl ?_;rw[if_neg (by simp)];refine dw_skip ?_
   exact reta rfl
set_option maxHeartbeats 2000000 in
theorem image_d (b:Int)(C Mw:List Ty)(eqs:List Li.Pr)(e:Int)(s:List (Int×Tm))(t:Tm)(hl:s.length≤1000)(hs:∀ q∈s,Bnd 150 q.2∧Wide q.2)(ht:Bnd 150 t)(htz:t.size≤5000):
  CallC Tryz.prog 123 [.p 0 0,.sl 5 (ePairs s) none,.ag (eTm t)] (Au.ck b C Mw eqs e) (Au.ck b C Mw eqs (Au.img s t e).2) (.ag (eTm (Au.img s t e).1)):=by
 by_cases he:e=0
 ·subst he
  have hA:=fun kb=>apply_at kb s (by omega) t (Bnd.wide t ht (by omega) (by decide)) 100000 false ⟨by decide,by decide⟩ fun _=>Sb.apply_ok (B:=150) 100000 (by decide) (by decide) (by decide) s hs t ht 100000 ⟨by decide,by decide⟩ false
  have e0:Au.img s t 0=((Sb.apply s t 100000 false).1,Au.must 0 (decide ((Sb.apply s t 100000 false).2.e=0)) (Sb.apply s t 100000 false).2.e):=by
   unfold Au.img;rw[if_neg (fun h=>h rfl)]
  rw[e0]
  obtain⟨⟨z,st⟩,hz⟩:∃ r,Sb.apply s t 100000 false=r:=⟨_,rfl⟩
  simp only[hz] at hA ⊢
  simp only[eTm_eq] at hA
  have hm:=must_d b C Mw eqs 0 st.e (decide (st.e=0))
  rw[eTm_eq,eTm_eq]
  by_cases h0:st.e=0
  ·rw[decide_eq_true h0,Au.must_true] at hm ⊢
   unfold Au.ck at hm ⊢
   refine calldw 2 28 [ResultVar.cell 6 62] TAUB_ok Tryz.func123 rfl Tryz.ntmps123 rfl fun cx hnt hn0=>?_
   ·skip
    refine dw_seq ?_;refine dwk [] TAUB_ok hnt fun _ z9=>z9 _ _ ?_;refine dw_seq ?_;refine dw_seq ?_;refine dwk [(13,.v (.bool false))] TAUB_ok hnt fun K hK=>?_;refine And.intro (bneF rfl) ?_;refine hK _ _ ?_;clear hK K;refine dw_cond (t:=false) rfl ?_;rw[if_neg (by simp)];refine dw_skip ?_;refine dw_seq ?_;refine dwkD [] TAUB_ok hnt fun K hK=>?_;refine dcn ((new_d 100000 (by decide)) _) ?_
    refine dcl (hA _) ?_;refine hK _ _ (by kernel_rfl) ?_;clear hK K;refine dw_seq ?_;refine dwk [(24,.v (.bool true))] TAUB_ok hnt fun K hK=>?_;refine And.intro (beqT h0) ?_;refine dcl (hm) ?_;refine hK _ _ ?_;clear hK K;refine dw_seq ?_;refine dwk [] TAUB_ok hnt fun _ z9=>z9 _ _ ?_;refine dw_ret ?_
    exact reta rfl
  ·rw[decide_eq_false h0] at hm ⊢
   unfold Au.ck at hm ⊢
   refine calldw 2 28 [ResultVar.cell 6 62] TAUB_ok Tryz.func123 rfl Tryz.ntmps123 rfl fun cx hnt hn0=>?_
   ·skip
    refine dw_seq ?_;refine dwk [] TAUB_ok hnt fun _ z9=>z9 _ _ ?_;refine dw_seq ?_;refine dw_seq ?_;refine dwk [(13,.v (.bool false))] TAUB_ok hnt fun K hK=>?_;refine And.intro (bneF rfl) ?_;refine hK _ _ ?_;clear hK K;refine dw_cond (t:=false) rfl ?_;rw[if_neg (by simp)];refine dw_skip ?_;refine dw_seq ?_;refine dwkD [] TAUB_ok hnt fun K hK=>?_;refine dcn ((new_d 100000 (by decide)) _) ?_
    refine dcl (hA _) ?_;refine hK _ _ (by kernel_rfl) ?_;clear hK K;refine dw_seq ?_;refine dwk [(24,.v (.bool false))] TAUB_ok hnt fun K hK=>?_;refine And.intro (beqF h0) ?_;refine dcl (hm) ?_;refine hK _ _ ?_;clear hK K;refine dw_seq ?_;refine dwk [] TAUB_ok hnt fun _ z9=>z9 _ _ ?_;refine dw_ret ?_
    exact reta rfl
 ·have e0:Au.img s t e=(Tm.zero,e):=by unfold Au.img;rw[if_pos he]
  rw[e0]
  unfold Au.ck
  dsimp only
  rw[eTm_eq t,show eTm Tm.zero=[.sl 2 [] none,.v (.int .i64 0),.v (.int .i64 0),.sl 4 [] none] from rfl]
  refine calldw 2 28 [ResultVar.cell 6 62] TAUB_ok Tryz.func123 rfl Tryz.ntmps123 rfl fun cx hnt hn0=>?_
  ·skip
   refine dw_seq ?_;refine dwk [] TAUB_ok hnt fun _ z9=>z9 _ _ ?_;refine dw_seq ?_;refine dw_seq ?_;refine dwk [(13,.v (.bool true))] TAUB_ok hnt fun K hK=>?_;refine And.intro (bneT he) ?_;refine hK _ _ ?_;clear hK K;refine dw_cond (t:=true) rfl ?_;rw[if_pos rfl];refine dw_seq ?_;refine dwk [] TAUB_ok hnt fun _ z9=>z9 _ _ ?_;refine dw_ret ?_
   exact reta rfl
def TAUD_3:TI:=⟨1,false,[Value.int IntKind.i64 0],[],none,8,2,none,false⟩
theorem TAUD_3_ok:TypOk Tryz.prog 3 TAUD_3:=by constructor <;> kernel_rfl
def TAUD_110:TI:=⟨5,true,[Value.int IntKind.i64 0,Value.slice none 0 0,Value.int IntKind.i64 0,Value.int IntKind.i64 0,Value.slice none 0 0],[(0,1,false),(1,4,true)],none,72,6,none,false⟩
theorem TAUD_110_ok:TypOk Tryz.prog 110 TAUD_110:=by constructor <;> kernel_rfl
def TAUD_71:TI:=⟨1,false,[Value.slice none 0 0],[],some 3,24,5,none,false⟩
theorem TAUD_71_ok:TypOk Tryz.prog 71 TAUD_71:=by constructor <;> kernel_rfl
def TAUD_84:TI:=⟨1,false,[Value.slice none 0 0],[],some 110,24,5,none,false⟩
theorem TAUD_84_ok:TypOk Tryz.prog 84 TAUD_84:=by constructor <;> kernel_rfl
def TAUD_50:TI:=⟨1,false,[Value.int IntKind.i64 0],[],none,8,2,none,false⟩
theorem TAUD_50_ok:TypOk Tryz.prog 50 TAUD_50:=by constructor <;> kernel_rfl
def TAUD_64:TI:=⟨9,true,[Value.slice none 0 0,Value.int IntKind.i64 0,Value.int IntKind.i64 0,Value.slice none 0 0,Value.slice none 0 0,Value.int IntKind.i64 0,Value.int IntKind.i64 0,Value.slice none 0 0,Value.slice none 0 0],[(0,4,true),(4,4,true),(8,1,false)],none,152,6,none,false⟩
theorem TAUD_64_ok:TypOk Tryz.prog 64 TAUD_64:=by constructor <;> kernel_rfl
def TAUD_41:TI:=⟨1,false,[Value.slice none 0 0],[],some 106,24,5,none,false⟩
theorem TAUD_41_ok:TypOk Tryz.prog 41 TAUD_41:=by constructor <;> kernel_rfl
def TAUD_62:TI:=⟨4,true,[Value.slice none 0 0,Value.int IntKind.i64 0,Value.int IntKind.i64 0,Value.slice none 0 0],[(0,1,false),(1,2,true),(3,1,false)],none,64,6,none,false⟩
theorem TAUD_62_ok:TypOk Tryz.prog 62 TAUD_62:=by constructor <;> kernel_rfl
def TAUD_138:TI:=⟨1,false,[Value.pointer none],[],none,8,4,none,false⟩
theorem TAUD_138_ok:TypOk Tryz.prog 138 TAUD_138:=by constructor <;> kernel_rfl
def TAUD_4:TI:=⟨1,false,[Value.bool false],[],none,1,1,none,false⟩
theorem TAUD_4_ok:TypOk Tryz.prog 4 TAUD_4:=by constructor <;> kernel_rfl
def TAUD_60:TI:=⟨1,false,[Value.slice none 0 0],[],some 62,24,5,none,false⟩
theorem TAUD_60_ok:TypOk Tryz.prog 60 TAUD_60:=by constructor <;> kernel_rfl
def TAUD_140:TI:=⟨5,true,[Value.int IntKind.i64 0,Value.slice none 0 0,Value.slice none 0 0,Value.slice none 0 0,Value.int IntKind.i64 0],[(0,3,true),(3,1,false),(4,1,false)],none,88,6,none,false⟩
theorem TAUD_140_ok:TypOk Tryz.prog 140 TAUD_140:=by constructor <;> kernel_rfl
def TAUD_43:TI:=⟨3,true,[Value.int IntKind.i64 0,Value.slice none 0 0,Value.slice none 0 0],[(0,1,false),(1,1,false),(2,1,false)],none,56,6,none,false⟩
theorem TAUD_43_ok:TypOk Tryz.prog 43 TAUD_43:=by constructor <;> kernel_rfl
def TAUD_106:TI:=⟨2,true,[Value.slice none 0 0,Value.int IntKind.i64 0],[(0,1,false),(1,1,false)],none,32,6,none,false⟩
theorem TAUD_106_ok:TypOk Tryz.prog 106 TAUD_106:=by constructor <;> kernel_rfl
def TAUD:List (Nat×TI):=[(3,TAUD_3),(110,TAUD_110),(71,TAUD_71),(84,TAUD_84),(50,TAUD_50),(64,TAUD_64),(41,TAUD_41),(62,TAUD_62),(138,TAUD_138),(4,TAUD_4),(60,TAUD_60),(140,TAUD_140),(43,TAUD_43),(106,TAUD_106)]
theorem TAUD_ok:TabOk Tryz.prog TAUD:=(((((((((((((((TabOk.nil _).cons TAUD_106_ok).cons TAUD_43_ok).cons TAUD_140_ok).cons TAUD_60_ok).cons TAUD_4_ok).cons TAUD_138_ok).cons TAUD_62_ok).cons TAUD_41_ok).cons TAUD_64_ok).cons TAUD_50_ok).cons TAUD_84_ok).cons TAUD_71_ok).cons TAUD_110_ok).cons TAUD_3_ok)
theorem eqInts_d (l r:List Int)(hl:l.length≤1000000)(hr:r.length≤1000000):PureC Tryz.prog 138 [.sl 1 (eIs l) none,.sl 1 (eIs r) none] (.v (.bool (decide (l=r)))):=by
 by_cases hlen:l.length=r.length
 ·skip
  refine calldw 0 26 [ResultVar.tmp 4] TAUD_ok Tryz.func138 rfl Tryz.ntmps138 rfl fun cx hnt hn0=>?_
  ·skip
   refine dw_seq ?_;refine dwk [] TAUD_ok hnt fun _ z9=>z9 _ _ ?_;refine dw_seq ?_;refine dw_seq ?_;refine dwk [(7,.v (.int .i64 (↑l.length))),(9,.v (.int .i64 (↑r.length))),(10,.v (.bool false))] TAUD_ok hnt fun K hK=>?_;refine And.intro (dintE (by rw[eIs_len])) ?_;refine And.intro (dintE (by rw[eIs_len])) ?_;refine And.intro (bneF (by omega)) ?_;refine hK _ _ ?_;clear hK K
   refine dw_cond (t:=false) rfl ?_;rw[if_neg (by simp)];refine dw_skip ?_;refine dw_seq ?_;refine dw_seq ?_;refine dwk [(12,.v (.int .i64 (↑l.length)))] TAUD_ok hnt fun K hK=>?_;refine And.intro (dintE (by rw[eIs_len])) ?_;refine hK _ _ ?_;clear hK K;refine dw_block ?_
   refine dw_loop (ι:={ j:Nat // j≤l.length∧∀ i (h:i<l.length) (h':i<r.length),i<j→l[i]=r[i] }) (fun j=>[(.t 0,.sl 1 (eIs l) none),(.t 1,.sl 1 (eIs r) none),(.t 12,.v (.int .i64 ↑l.length)),(.t 13,.v (.int .i64 ↑j.1))]) 1 (fun j=>l.length-j.1) (⟨0,Nat.zero_le _,fun i h h' h2=>by omega⟩) (VS.toA) fun j=>?_
   obtain⟨j,hj,hj2⟩:=j
   dsimp only
   by_cases hlt:j<l.length
   ·have hlt2:j<r.length:=by omega
    by_cases he:l[j]=r[j]
    ·skip
     refine dw_seq ?_;refine dwk [(14,.v (.bool true))] TAUD_ok hnt fun K hK=>?_;refine And.intro auT ?_;refine hK _ _ ?_;clear hK K;refine dw_seq ?_;refine dw_cond (t:=true) rfl ?_;rw[if_pos rfl];refine dw_skip ?_;refine dw_seq ?_;refine dw_block ?_;refine dw_seq ?_;refine dwk [] TAUD_ok hnt fun _ z9=>z9 _ _ ?_;refine dw_seq ?_;refine dwkD [(18,.q [.v (.int .i64 (l[j]))]),(22,.q [.v (.int .i64 (r[j]))]),(24,.v (.bool false))] TAUD_ok hnt fun K hK=>?_
     refine And.intro (elo (eIs_len l)) ?_;refine And.intro (elv (eIs_getD l j) rfl) ?_;refine And.intro (elo (eIs_len r)) ?_;refine And.intro (elv (eIs_getD r j) rfl) ?_;refine And.intro (bneF he) ?_;refine hK _ _ (by kernel_rfl) ?_;clear hK K;refine dw_cond (t:=false) rfl ?_;rw[if_neg (by simp)];refine dw_skip ?_;refine dwk [(25,.v (.int .i64 (↑(j+1))))] TAUD_ok hnt fun K hK=>?_;refine And.intro auI ?_
     refine hK _ _ ?_;clear hK K
     refine⟨⟨j+1,hlt,fun i h h' h2=>if hij:i=j then by subst hij;exact he else hj2 i h h' (by omega)⟩,by first | omega | (dsimp only;omega),VS.toA⟩
    ·have hne:l≠r:=fun h=>he (by subst h;rfl)
     rw[decide_eq_false hne]
     refine dw_seq ?_;refine dwk [(14,.v (.bool true))] TAUD_ok hnt fun K hK=>?_;refine And.intro auT ?_;refine hK _ _ ?_;clear hK K;refine dw_seq ?_;refine dw_cond (t:=true) rfl ?_;rw[if_pos rfl];refine dw_skip ?_;refine dw_seq ?_;refine dw_block ?_;refine dw_seq ?_;refine dwk [] TAUD_ok hnt fun _ z9=>z9 _ _ ?_;refine dw_seq ?_;refine dwkD [(18,.q [.v (.int .i64 (l[j]))]),(22,.q [.v (.int .i64 (r[j]))]),(24,.v (.bool true))] TAUD_ok hnt fun K hK=>?_
     refine And.intro (elo (eIs_len l)) ?_;refine And.intro (elv (eIs_getD l j) rfl) ?_;refine And.intro (elo (eIs_len r)) ?_;refine And.intro (elv (eIs_getD r j) rfl) ?_;refine And.intro (bneT he) ?_;refine hK _ _ (by kernel_rfl) ?_;clear hK K;refine dw_cond (t:=true) rfl ?_;rw[if_pos rfl];refine dw_seq ?_;refine dwk [] TAUD_ok hnt fun _ z9=>z9 _ _ ?_;refine dw_ret ?_
     exact reta rfl
   ·have heq:l=r:=List.ext_getElem hlen fun i h h'=>hj2 i h h' (by omega)
    rw[decide_eq_true heq]
    refine dw_seq ?_;refine dwk [(14,.v (.bool false))] TAUD_ok hnt fun K hK=>?_;refine And.intro auF ?_;refine hK _ _ ?_;clear hK K;refine dw_seq ?_;refine dw_cond (t:=false) rfl ?_;rw[if_neg (by simp)];refine dw_exit ?_;refine dw_seq ?_;refine dwk [] TAUD_ok hnt fun _ z9=>z9 _ _ ?_;refine dw_ret ?_
    exact reta rfl
 ·have hne:l≠r:=fun h=>hlen (by rw[h])
  rw[decide_eq_false hne]
  refine calldw 0 26 [ResultVar.tmp 4] TAUD_ok Tryz.func138 rfl Tryz.ntmps138 rfl fun cx hnt hn0=>?_
  ·skip
   refine dw_seq ?_;refine dwk [] TAUD_ok hnt fun _ z9=>z9 _ _ ?_;refine dw_seq ?_;refine dw_seq ?_;refine dwk [(7,.v (.int .i64 (↑l.length))),(9,.v (.int .i64 (↑r.length))),(10,.v (.bool true))] TAUD_ok hnt fun K hK=>?_;refine And.intro (dintE (by rw[eIs_len])) ?_;refine And.intro (dintE (by rw[eIs_len])) ?_;refine And.intro (bneT (by omega)) ?_;refine hK _ _ ?_;clear hK K
   refine dw_cond (t:=true) rfl ?_;rw[if_pos rfl];refine dw_seq ?_;refine dwk [] TAUD_ok hnt fun _ z9=>z9 _ _ ?_;refine dw_ret ?_
   exact reta rfl
namespace Au
def f1 (q:Li.Pr)(e:Int)(p:Int×Tm):Int:=must e (decide (0≤p.1∧p.1<(q.m.length:Int))) 1
def f2 (code:List Ty→Tm→Ty→Int)(q:Li.Pr)(ar:List Ty)(e:Int)(p:Int×Tm):Int:=if e=0 then must e (decide (code ar p.2 (q.m.getD p.1.toNat (.mk [] 0))=0)) 5 else e
theorem fold1_0 (q:Li.Pr):∀ (s:List (Int×Tm)) (e:Int),s.foldl (f1 q) e=0→e=0∧∀ p∈s,0≤p.1∧p.1<(q.m.length:Int)
 | [],e,h=>⟨h,fun p hp=>by cases hp⟩
 | p :: s,e,h=>by
  rw[List.foldl_cons] at h
  obtain⟨h1,h2⟩:=fold1_0 q s _ h
  obtain⟨h3,h4⟩:=must_0 (by decide) h1
  exact⟨h3,fun x hx=>by
   rcases List.mem_cons.1 hx with rfl | hx
   ·exact of_decide_eq_true h4
   ·exact h2 x hx⟩
theorem fold2_0 (code:List Ty→Tm→Ty→Int)(q:Li.Pr)(ar:List Ty):∀ (s:List (Int×Tm)) (e:Int),s.foldl (f2 code q ar) e=0→e=0
 | [],e,h=>h
 | p :: s,e,h=>by
  rw[List.foldl_cons] at h
  have h1:=fold2_0 code q ar s _ h
  unfold f2 at h1
  by_cases he:e=0
  ·exact he
  ·rw[if_neg he] at h1;exact h1
theorem fold_snoc {α β:Type}(f:β→α→β)(l:List α)(e:β)(j:Nat)(h:j<l.length):(l.take (j+1)).foldl f e=f ((l.take j).foldl f e) l[j]:=by
 rw[List.take_add_one,List.getElem?_eq_getElem h,List.foldl_append];rfl
end Au
set_option maxHeartbeats 4000000 in
theorem substitution_d (b:Int)(C Mw:List Ty)(eqs:List Li.Pr)(e:Int)(q:Li.Pr)(s:List (Int×Tm))(ar:List Ty)(code:List Ty→Tm→Ty→Int)(hc:∀ X t u,checkCode C Mw t X u (code X t u))(hCl:C.length≤1000000)(hMl:Mw.length≤1000000) 
  (hq:q.l.full≤90000∧q.r.full≤90000) (hqm:q.m.length≤900000) (hsl:s.length≤1000) (hs:∀ p∈s,p.2.full≤10000∧p.2.Fit) (har:ar.length≤770000) :
  CallC Tryz.prog 122 [.p 0 0,.ag (ePr q),.sl 5 (ePairs s) none,.sl 2 (eTys ar) none] (Au.ck b C Mw eqs e) (Au.ck b C Mw eqs (Au.subS code q s ar e)) (.tu []):=by
 have hMe:=metas_d [q.l,q.r] (by simp) (fun t ht=>by
  rcases List.mem_cons.1 ht with rfl | ht
  ·exact hq.1
  ·rw[List.mem_singleton] at ht;subst ht;exact hq.2)
 have eQ:eTms [q.l,q.r]=[[.sl 2 (eTys q.l.binds) none,.v (.int .i64 q.l.kind),.v (.int .i64 q.l.index),.sl 4 (eTms q.l.args) none],[.sl 2 (eTys q.r.binds) none,.v (.int .i64 q.r.kind),.v (.int .i64 q.r.index),.sl 4 (eTms q.r.args) none]]:=by rw[←eTm_eq,←eTm_eq];rfl
 obtain⟨U,hU⟩:∃ U,sortU (metasL [q.l,q.r])=U:=⟨_,rfl⟩
 have hUl:U.length≤1000000:=by
  rw[←hU]
  have h1:=nodup_le (sortU (metasL [q.l,q.r])) (metasL [q.l,q.r]) ((sortU_spec _).1.imp fun h=>Int.ne_of_lt h) fun x hx=>((sortU_spec _).2 x).1 hx
  have h2:=metasL_len [q.l,q.r] 90000 (fun t ht=>by
   rcases List.mem_cons.1 ht with rfl | ht
   ·exact hq.1
   ·rw[List.mem_singleton] at ht;subst ht;exact hq.2)
  simp at h2;omega
 rw[hU] at hMe
 have hR:=sright_d s (by omega)
 have hD:=domain_d s (by omega)
 have hE:=eqInts_d (s.map (·.1)) U (by simp;omega) hUl
 obtain⟨e1,he1⟩:∃ e1,Au.must e (Sb.right s&&decide (s.map (·.1)=U)) 1=e1:=⟨_,rfl⟩
 have hm0:=must_d b C Mw eqs e 1 (Sb.right s&&decide (s.map (·.1)=U))
 rw[he1] at hm0
 obtain⟨F,hF⟩:∃ F:Nat→Int,∀ j,(s.take j).foldl (Au.f1 q) e1=F j:=⟨_,fun _=>rfl⟩
 have hF0:F 0=e1:=by rw[←hF];rfl
 have hFn:∀ j (h:j<s.length),F (j+1)=Au.must (F j) (decide (0≤s[j].1∧s[j].1<(q.m.length:Int))) 1:=fun j h=>by rw[←hF,Au.fold_snoc _ _ _ _ h,hF];rfl
 have hFs:s.foldl (Au.f1 q) e1=F s.length:=by rw[←hF,List.take_length]
 obtain⟨G,hG⟩:∃ G:Nat→Int,∀ j,(s.take j).foldl (Au.f2 code q ar) (F s.length)=G j:=⟨_,fun _=>rfl⟩
 have hG0:G 0=F s.length:=by rw[←hG];rfl
 have hGn:∀ j (h:j<s.length),G (j+1)=if G j=0 then Au.must (G j) (decide (code ar s[j].2 (q.m.getD s[j].1.toNat (.mk [] 0))=0)) 5 else G j:=fun j h=>by rw[←hG,Au.fold_snoc _ _ _ _ h,hG];rfl
 have hGr:∀ j,G j=0→∀ p∈s,0≤p.1∧p.1<(q.m.length:Int):=fun j h=>by
  rw[←hG] at h
  have:=Au.fold2_0 code q ar _ _ h
  rw[←hFs] at this
  exact(Au.fold1_0 q s e1 this).2
 have hsub:Au.subS code q s ar e=G s.length:=by
  have:Au.subS code q s ar e=s.foldl (Au.f2 code q ar) (s.foldl (Au.f1 q) (Au.must e (Sb.right s&&decide (s.map (·.1)=sortU (metasL [q.l,q.r]))) 1)):=rfl
  rw[this,hU,he1,hFs,←hG,List.take_length]
 rw[hsub]
 rw[ePr_at]
 unfold Au.ck at hm0 ⊢
 have hm1:=fun j is=>must_d b C Mw eqs (F j) 1 is
 have hm2:=fun j is=>must_d b C Mw eqs (G j) 5 is
 unfold Au.ck at hm1 hm2
 refine calldw 2 78 [] TAUD_ok Tryz.func122 rfl Tryz.ntmps122 rfl fun cx hnt hn0=>?_
 ·skip
  refine dw_seq ?_;refine dwk [] TAUD_ok hnt fun _ z9=>z9 _ _ ?_;refine dw_seq ?_;refine dwk [(17,.sl 4 (eTms [q.l,q.r]) none)] TAUD_ok hnt fun K hK=>?_;refine And.intro ((by rw[eQ];exact VLe.untag _ _ _)) ?_;refine dcl (hMe) ?_;refine hK _ _ ?_;clear hK K
  refine dw_cut (τ:=[(.t 0,.p 0 0),(.t 2,.sl 5 (ePairs s) none),(.t 3,.sl 2 (eTys ar) none),(.t 5,.p 2 0),(.c 2 8,.sl 2 (eTys q.m) none),(.c 0 0,.v (.int .i64 b)),(.c 0 1,.sl 2 (eTys C) none),(.c 0 2,.sl 2 (eTys Mw) none),(.c 0 3,.sl 9 (ePrs eqs) none),(.c 0 4,.v (.int .i64 (e1)))]) (N1:=60) ?_ ?_
  ·cases hr:Sb.right s with
   | false=>
    rw[hr] at hR hm0
    refine dwk [] TAUD_ok hnt fun K hK=>?_;refine dcl (hR) ?_;refine dcl (hm0) ?_;refine hK _ _ ?_;clear hK K
    exact cut_ok VS.toA
   | true=>
    rw[hr] at hR hm0
    refine dwk [] TAUD_ok hnt fun K hK=>?_;refine dcl (hR) ?_;refine dcl (hD) ?_;refine dcl (hE) ?_;refine dcl (hm0) ?_;refine hK _ _ ?_;clear hK K
    exact cut_ok VS.toA
  ·skip
   refine dw_seq ?_;refine dw_seq ?_;refine dwk [(30,.v (.int .i64 (↑s.length)))] TAUD_ok hnt fun K hK=>?_;refine And.intro (dintE (by rw[ePairs_len])) ?_;refine hK _ _ ?_;clear hK K;refine dw_block ?_
   refine dw_loop (ι:={ j:Nat // j≤s.length }) (fun j=>[(.t 0,.p 0 0),(.t 2,.sl 5 (ePairs s) none),(.t 3,.sl 2 (eTys ar) none),(.t 5,.p 2 0),(.t 29,.sl 5 (ePairs s) none),(.t 30,.v (.int .i64 ↑s.length)),(.t 31,.v (.int .i64 ↑j.1)),(.c 2 8,.sl 2 (eTys q.m) none),(.c 0 0,.v (.int .i64 b)),(.c 0 1,.sl 2 (eTys C) none),(.c 0 2,.sl 2 (eTys Mw) none),(.c 0 3,.sl 9 (ePrs eqs) none),(.c 0 4,.v (.int .i64 (F j.1)))]) 70 (fun j=>s.length-j.1) (⟨0,Nat.zero_le _⟩) ((by try simp only[List.length_append,List.length_take,List.length_cons,List.length_nil,Nat.zero_add,hF0];exact VS.toA)) fun j=>?_
   obtain⟨j,hj⟩:=j
   dsimp only
   by_cases hlt:j<s.length
   ·have hn:=hFn j hlt
    by_cases h0:0≤s[j].1
    ·by_cases h1:s[j].1<(q.m.length:Int)
     ·rw[decide_eq_true ⟨h0,h1⟩] at hn
      have hm:=hm1 j true
      rw[←hn] at hm
      refine dw_seq ?_;refine dwk [(32,.v (.bool true))] TAUD_ok hnt fun K hK=>?_;refine And.intro auT ?_;refine hK _ _ ?_;clear hK K;refine dw_seq ?_;refine dw_cond (t:=true) rfl ?_;rw[if_pos rfl];refine dw_skip ?_;refine dw_seq ?_;refine dw_block ?_;refine dw_seq ?_;refine dwk [(33,.q [.v (.int .i64 s[j].1),.sl 2 (eTys s[j].2.binds) none,.v (.int .i64 s[j].2.kind),.v (.int .i64 s[j].2.index),.sl 4 (eTms s[j].2.args) none])] TAUD_ok hnt fun K hK=>?_
      refine And.intro (elo (ePairs_len s)) ?_;refine And.intro (elv (ePairs_getD s j) (ePair_eq _)) ?_;refine hK _ _ ?_;clear hK K;refine dwk [(38,.v (.bool true)),(44,.v (.int .i64 (↑q.m.length))),(45,.v (.bool true))] TAUD_ok hnt fun K hK=>?_;refine And.intro (dtrue (by omega)) ?_;refine And.intro (dintE (by rw[eTys_len])) ?_;refine And.intro (dtrue h1) ?_;refine dcl (hm) ?_;refine hK _ _ ?_;clear hK K
      refine dwk [(48,.v (.int .i64 (↑(j+1))))] TAUD_ok hnt fun K hK=>?_;refine And.intro auI ?_;refine hK _ _ ?_;clear hK K
      refine⟨⟨j+1,hlt⟩,by first | omega | (dsimp only;omega),VS.toA⟩
     ·rw[decide_eq_false (fun h=>h1 h.2)] at hn
      have hm:=hm1 j false
      rw[←hn] at hm
      refine dw_seq ?_;refine dwk [(32,.v (.bool true))] TAUD_ok hnt fun K hK=>?_;refine And.intro auT ?_;refine hK _ _ ?_;clear hK K;refine dw_seq ?_;refine dw_cond (t:=true) rfl ?_;rw[if_pos rfl];refine dw_skip ?_;refine dw_seq ?_;refine dw_block ?_;refine dw_seq ?_;refine dwk [(33,.q [.v (.int .i64 s[j].1),.sl 2 (eTys s[j].2.binds) none,.v (.int .i64 s[j].2.kind),.v (.int .i64 s[j].2.index),.sl 4 (eTms s[j].2.args) none])] TAUD_ok hnt fun K hK=>?_
      refine And.intro (elo (ePairs_len s)) ?_;refine And.intro (elv (ePairs_getD s j) (ePair_eq _)) ?_;refine hK _ _ ?_;clear hK K;refine dwk [(38,.v (.bool true)),(44,.v (.int .i64 (↑q.m.length))),(45,.v (.bool false))] TAUD_ok hnt fun K hK=>?_;refine And.intro (dtrue (by omega)) ?_;refine And.intro (dintE (by rw[eTys_len])) ?_;refine And.intro (dfalse h1) ?_;refine dcl (hm) ?_;refine hK _ _ ?_;clear hK K
      refine dwk [(48,.v (.int .i64 (↑(j+1))))] TAUD_ok hnt fun K hK=>?_;refine And.intro auI ?_;refine hK _ _ ?_;clear hK K
      refine⟨⟨j+1,hlt⟩,by first | omega | (dsimp only;omega),VS.toA⟩
    ·rw[decide_eq_false (fun h=>h0 h.1)] at hn
     have hm:=hm1 j false
     rw[←hn] at hm
     refine dw_seq ?_;refine dwk [(32,.v (.bool true))] TAUD_ok hnt fun K hK=>?_;refine And.intro auT ?_;refine hK _ _ ?_;clear hK K;refine dw_seq ?_;refine dw_cond (t:=true) rfl ?_;rw[if_pos rfl];refine dw_skip ?_;refine dw_seq ?_;refine dw_block ?_;refine dw_seq ?_;refine dwk [(33,.q [.v (.int .i64 s[j].1),.sl 2 (eTys s[j].2.binds) none,.v (.int .i64 s[j].2.kind),.v (.int .i64 s[j].2.index),.sl 4 (eTms s[j].2.args) none])] TAUD_ok hnt fun K hK=>?_
     refine And.intro (elo (ePairs_len s)) ?_;refine And.intro (elv (ePairs_getD s j) (ePair_eq _)) ?_;refine hK _ _ ?_;clear hK K;refine dwk [(38,.v (.bool false))] TAUD_ok hnt fun K hK=>?_;refine And.intro (dfalse (by omega)) ?_;refine dcl (hm) ?_;refine hK _ _ ?_;clear hK K;refine dwk [(48,.v (.int .i64 (↑(j+1))))] TAUD_ok hnt fun K hK=>?_;refine And.intro auI ?_;refine hK _ _ ?_;clear hK K
     refine⟨⟨j+1,hlt⟩,by first | omega | (dsimp only;omega),VS.toA⟩
   ·have hje:j=s.length:=by omega
    subst hje
    refine dw_seq ?_;refine dwk [(32,.v (.bool false))] TAUD_ok hnt fun K hK=>?_;refine And.intro auF ?_;refine hK _ _ ?_;clear hK K;refine dw_seq ?_;refine dw_cond (t:=false) rfl ?_;rw[if_neg (by simp)];refine dw_exit ?_;refine dw_seq ?_;refine dwk [(50,.v (.int .i64 (↑s.length)))] TAUD_ok hnt fun K hK=>?_;refine And.intro (dintE (by rw[ePairs_len])) ?_;refine hK _ _ ?_;clear hK K
    refine dw_block ?_
    refine dw_loop (ι:={ n:Nat // n≤s.length }) (fun n=>[(.t 0,.p 0 0),(.t 3,.sl 2 (eTys ar) none),(.t 5,.p 2 0),(.t 49,.sl 5 (ePairs s) none),(.t 50,.v (.int .i64 ↑s.length)),(.t 51,.v (.int .i64 ↑n.1)),(.c 2 8,.sl 2 (eTys q.m) none),(.c 0 0,.v (.int .i64 b)),(.c 0 1,.sl 2 (eTys C) none),(.c 0 2,.sl 2 (eTys Mw) none),(.c 0 3,.sl 9 (ePrs eqs) none),(.c 0 4,.v (.int .i64 (G n.1)))]) 120 (fun n=>s.length-n.1) (⟨0,Nat.zero_le _⟩) ((by try simp only[List.length_append,List.length_take,List.length_cons,List.length_nil,Nat.zero_add,hG0];exact VS.toA)) fun n=>?_
    obtain⟨n,hn0⟩:=n
    dsimp only
    by_cases hlt:n<s.length
    ·have hn:=hGn n hlt
     by_cases hg:G n=0
     ·rw[if_pos hg] at hn
      obtain⟨r1,r2⟩:=hGr n hg _ (List.getElem_mem hlt)
      obtain⟨z,hz⟩:∃ z:Nat,s[n].1=z:=⟨s[n].1.toNat,by omega⟩
      have hzl:z<q.m.length:=by omega
      have hgd:q.m.getD s[n].1.toNat (.mk [] 0)=q.m[z]:=by rw[hz,Int.toNat_natCast,List.getD_eq_getElem?_getD,List.getElem?_eq_getElem hzl];rfl
      rw[hgd] at hn
      have hck:=tcheckX_d b C Mw ar s[n].2 q.m[z] (code ar s[n].2 q.m[z]) hCl hMl (hc _ _ _) (by have:=(hs _ (List.getElem_mem hlt)).1;omega) (hs _ (List.getElem_mem hlt)).2
      rw[eTm_eq,eTy_eq] at hck
      by_cases hcd:code ar s[n].2 q.m[z]=0
      ·rw[decide_eq_true hcd] at hn
       have hm:=hm2 n true
       rw[←hn] at hm
       refine dw_seq ?_;refine dwk [(52,.v (.bool true))] TAUD_ok hnt fun K hK=>?_;refine And.intro auT ?_;refine hK _ _ ?_;clear hK K;refine dw_seq ?_;refine dw_cond (t:=true) rfl ?_;rw[if_pos rfl];refine dw_skip ?_;refine dw_seq ?_;refine dw_block ?_;refine dw_seq ?_;refine dwk [(53,.q [.v (.int .i64 s[n].1),.sl 2 (eTys s[n].2.binds) none,.v (.int .i64 s[n].2.kind),.v (.int .i64 s[n].2.index),.sl 4 (eTms s[n].2.args) none])] TAUD_ok hnt fun K hK=>?_
       refine And.intro (elo (ePairs_len s)) ?_;refine And.intro (elv (ePairs_getD s n) (ePair_eq _)) ?_;refine hK _ _ ?_;clear hK K;refine dw_seq ?_;refine dwk [(59,.v (.bool true))] TAUD_ok hnt fun K hK=>?_;refine And.intro (beqT hg) ?_;refine hK _ _ ?_;clear hK K;refine dw_cond (t:=true) rfl ?_;rw[if_pos rfl];refine dwkD [(71,.v (.int .i64 (↑z))),(72,.q [.sl 2 (eTys q.m[z].args) none,.v (.int .i64 q.m[z].base)]),(75,.v (.bool true))] TAUD_ok hnt fun K hK=>?_
       refine And.intro (dintE (by exact hz)) ?_;refine And.intro (elo (eTys_len q.m)) ?_;refine And.intro (elv (eTys_getD q.m z) (eTy_eq _)) ?_;refine dcl (hck) ?_;refine And.intro (beqT hcd) ?_;refine dcl (hm) ?_;refine hK _ _ (by kernel_rfl) ?_;clear hK K;refine dwk [(77,.v (.int .i64 (↑(n+1))))] TAUD_ok hnt fun K hK=>?_;refine And.intro auI ?_;refine hK _ _ ?_;clear hK K
       refine⟨⟨n+1,hlt⟩,by first | omega | (dsimp only;omega),VS.toA⟩
      ·rw[decide_eq_false hcd] at hn
       have hm:=hm2 n false
       rw[←hn] at hm
       refine dw_seq ?_;refine dwk [(52,.v (.bool true))] TAUD_ok hnt fun K hK=>?_;refine And.intro auT ?_;refine hK _ _ ?_;clear hK K;refine dw_seq ?_;refine dw_cond (t:=true) rfl ?_;rw[if_pos rfl];refine dw_skip ?_;refine dw_seq ?_;refine dw_block ?_;refine dw_seq ?_;refine dwk [(53,.q [.v (.int .i64 s[n].1),.sl 2 (eTys s[n].2.binds) none,.v (.int .i64 s[n].2.kind),.v (.int .i64 s[n].2.index),.sl 4 (eTms s[n].2.args) none])] TAUD_ok hnt fun K hK=>?_
       refine And.intro (elo (ePairs_len s)) ?_;refine And.intro (elv (ePairs_getD s n) (ePair_eq _)) ?_;refine hK _ _ ?_;clear hK K;refine dw_seq ?_;refine dwk [(59,.v (.bool true))] TAUD_ok hnt fun K hK=>?_;refine And.intro (beqT hg) ?_;refine hK _ _ ?_;clear hK K;refine dw_cond (t:=true) rfl ?_;rw[if_pos rfl];refine dwkD [(71,.v (.int .i64 (↑z))),(72,.q [.sl 2 (eTys q.m[z].args) none,.v (.int .i64 q.m[z].base)]),(75,.v (.bool false))] TAUD_ok hnt fun K hK=>?_
       refine And.intro (dintE (by exact hz)) ?_;refine And.intro (elo (eTys_len q.m)) ?_;refine And.intro (elv (eTys_getD q.m z) (eTy_eq _)) ?_;refine dcl (hck) ?_;refine And.intro (beqF hcd) ?_;refine dcl (hm) ?_;refine hK _ _ (by kernel_rfl) ?_;clear hK K;refine dwk [(77,.v (.int .i64 (↑(n+1))))] TAUD_ok hnt fun K hK=>?_;refine And.intro auI ?_;refine hK _ _ ?_;clear hK K
       refine⟨⟨n+1,hlt⟩,by first | omega | (dsimp only;omega),VS.toA⟩
     ·rw[if_neg hg] at hn;refine dw_seq ?_;refine dwk [(52,.v (.bool true))] TAUD_ok hnt fun K hK=>?_;refine And.intro auT ?_;refine hK _ _ ?_;clear hK K;refine dw_seq ?_;refine dw_cond (t:=true) rfl ?_;rw[if_pos rfl];refine dw_skip ?_;refine dw_seq ?_;refine dw_block ?_;refine dw_seq ?_;refine dwk [(53,.q [.v (.int .i64 s[n].1),.sl 2 (eTys s[n].2.binds) none,.v (.int .i64 s[n].2.kind),.v (.int .i64 s[n].2.index),.sl 4 (eTms s[n].2.args) none])] TAUD_ok hnt fun K hK=>?_
      refine And.intro (elo (ePairs_len s)) ?_;refine And.intro (elv (ePairs_getD s n) (ePair_eq _)) ?_;refine hK _ _ ?_;clear hK K;refine dw_seq ?_;refine dwk [(59,.v (.bool false))] TAUD_ok hnt fun K hK=>?_;refine And.intro (beqF hg) ?_;refine hK _ _ ?_;clear hK K;refine dw_cond (t:=false) rfl ?_;rw[if_neg (by simp)]
      rw[←hn]
      refine dw_skip ?_;refine dwk [(77,.v (.int .i64 (↑(n+1))))] TAUD_ok hnt fun K hK=>?_;refine And.intro auI ?_;refine hK _ _ ?_;clear hK K
      refine⟨⟨n+1,hlt⟩,by first | omega | (dsimp only;omega),VS.toA⟩
    ·have hne:n=s.length:=by omega
     subst hne
     refine dw_seq ?_;refine dwk [(52,.v (.bool false))] TAUD_ok hnt fun K hK=>?_;refine And.intro auF ?_;refine hK _ _ ?_;clear hK K;refine dw_seq ?_;refine dw_cond (t:=false) rfl ?_;rw[if_neg (by simp)];refine dw_exit ?_
     exact reta rfl
def TAT_62:TI:=⟨4,true,[Value.slice none 0 0,Value.int IntKind.i64 0,Value.int IntKind.i64 0,Value.slice none 0 0],[(0,1,false),(1,2,true),(3,1,false)],none,64,6,none,false⟩
theorem TAT_62_ok:TypOk Tryz.prog 62 TAT_62:=by constructor <;> kernel_rfl
def TAT_41:TI:=⟨1,false,[Value.slice none 0 0],[],some 106,24,5,none,false⟩
theorem TAT_41_ok:TypOk Tryz.prog 41 TAT_41:=by constructor <;> kernel_rfl
def TAT_3:TI:=⟨1,false,[Value.int IntKind.i64 0],[],none,8,2,none,false⟩
theorem TAT_3_ok:TypOk Tryz.prog 3 TAT_3:=by constructor <;> kernel_rfl
def TAT_60:TI:=⟨1,false,[Value.slice none 0 0],[],some 62,24,5,none,false⟩
theorem TAT_60_ok:TypOk Tryz.prog 60 TAT_60:=by constructor <;> kernel_rfl
def TAT_106:TI:=⟨2,true,[Value.slice none 0 0,Value.int IntKind.i64 0],[(0,1,false),(1,1,false)],none,32,6,none,false⟩
theorem TAT_106_ok:TypOk Tryz.prog 106 TAT_106:=by constructor <;> kernel_rfl
def TAT_71:TI:=⟨1,false,[Value.slice none 0 0],[],some 3,24,5,none,false⟩
theorem TAT_71_ok:TypOk Tryz.prog 71 TAT_71:=by constructor <;> kernel_rfl
def TAT:List (Nat×TI):=[(62,TAT_62),(41,TAT_41),(3,TAT_3),(60,TAT_60),(106,TAT_106),(71,TAT_71)]
theorem TAT_ok:TabOk Tryz.prog TAT:=(((((((TabOk.nil _).cons TAT_71_ok).cons TAT_106_ok).cons TAT_60_ok).cons TAT_3_ok).cons TAT_41_ok).cons TAT_62_ok)
theorem cloneT_nil (a:Option Addr)(c nm:Nat):CallN Tryz.prog 135 [.v (.slice a 0 c)] [] nm [(.r nm,.rp 106 2 [])] (.ps nm 0):=by
 refine callPriv_of_dw 8 [ResultVar.tmp 2] TAT_ok (by kernel_rfl) Tryz.func135 rfl Tryz.ntmps135 rfl (by simp) (by simp[D.ok]) (by simp[D.okss]) ?dbody nm
 case dbody=>
  intro cx hnt hn0
  refine dw_seq ?_;refine dwk [] TAT_ok hnt fun _ z9=>z9 _ _ ?_
  cases a with
  | none=>
   refine dw_seq ?_;refine dw_seq ?_;refine dwk [(4,.v (.bool true))] TAT_ok hnt fun K hK=>?_;refine And.intro (VLe.refl _) ?_;refine hK _ _ ?_;clear hK K;refine dw_cond (t:=true) rfl ?_;rw[if_pos rfl];refine dw_seq ?_;refine dwk [] TAT_ok hnt fun _ z9=>z9 _ _ ?_
   refine DW.vs (VS.rowPT (x:=2) (by rw[hnt];decide) 106 2 rfl) ?_
   refine dw_ret ?_
   exact⟨.inr rfl,_,rfl,rfl⟩
  | some a=>
   refine dw_seq ?_;refine dw_seq ?_;refine dwk [(4,.v (.bool false))] TAT_ok hnt fun K hK=>?_;refine And.intro (VLe.refl _) ?_;refine hK _ _ ?_;clear hK K;refine dw_cond (t:=false) rfl ?_;rw[if_neg (by simp)];refine dw_skip ?_;refine dw_seq ?_;refine dwk [(5,.ps 3 0)] TAT_ok hnt fun K hK=>?_;refine And.intro (VLe.ps0 _ _) ?_;refine And.intro (by decide) ?_;refine hK _ _ ?_;clear hK K
   refine dw_ret ?_
   exact⟨.inr rfl,_,rfl,rfl⟩
theorem cloneT_cons (x:Ty)(l:List Ty)(hl:l.length≤900000)(nm:Nat):CallN Tryz.prog 135 [.sl 2 (eTys (x :: l)) none] [] nm [(.r nm,.rp 106 2 (eTys (x :: l)))] (.ps nm (x :: l).length):=by
 refine callPriv_of_dw 8 [ResultVar.tmp 2] TAT_ok (by kernel_rfl) Tryz.func135 rfl Tryz.ntmps135 rfl (by simp) (by simp[D.ok,eTys_ok]) (by simp[D.okss,eTys_ok]) ?dbody nm
 case dbody=>
  intro cx hnt hn0
  refine dw_seq ?_;refine dwk [] TAT_ok hnt fun _ z9=>z9 _ _ ?_;refine dw_seq ?_;refine dw_seq ?_;refine dwk [(4,.v (.bool false))] TAT_ok hnt fun K hK=>?_;refine And.intro (VLe.refl _) ?_;refine hK _ _ ?_;clear hK K;refine dw_cond (t:=false) rfl ?_;rw[if_neg (by simp)];refine dw_skip ?_;refine dw_seq ?_;refine dwk [(5,.ps 3 0)] TAT_ok hnt fun K hK=>?_;refine And.intro (VLe.ps0 _ _) ?_
  refine And.intro (by rw[eTys_len];simp;omega) ?_;refine hK _ _ ?_;clear hK K;refine dw_ret ?_
  exact⟨.inr rfl,3,by rw[show (x :: l).length=(eTys (x :: l)).length by rw[eTys_len]];rfl,rfl⟩
theorem cloneT_d (l:List Ty)(hl:l.length≤900000)(nm:Nat):CallN Tryz.prog 135 [.sl 2 (eTys l) none] [] nm [(.r nm,.rp 106 2 (eTys l))] (.ps nm l.length):=by
 cases l with
 | cons x l=>exact cloneT_cons x l (by simp at hl;omega) nm
 | nil=>
  refine⟨by kernel_rfl,fun cx Fr m Im w a σ vs hnm hs hv hR=>?_⟩
  match vs,hv with
  | [v],hv=>
   obtain⟨a0,c,bl,off,X,rfl,_⟩:=rel_sl hv.1
   exact(cloneT_nil a0 c nm).2 cx Fr m Im w a σ _ hnm hs ⟨.v _,trivial⟩ hR
def satV (r:Option (Tm×List Ty)):D:=match r with
 | some r=>.tu [.ag (eTm r.1),.sl 2 (eTys r.2) none,.v (.int .i64 0)]
 | none=>.tu [.ag (eTm Tm.zero),.sl 2 [] none,.v (.int .i64 10)]
theorem atP_step (t:Tm)(p:List Int)(j:Nat)(hj:j<p.length)(u:Tm)(l:List Ty)(h:Pn.atP (p.take j) t=some (u,l)):
  Pn.atP (p.take (j+1)) t=if 0≤p[j]∧p[j]<(u.args.length:Int) then some (u.args.getD p[j].toNat Tm.zero,l++(u.args.getD p[j].toNat Tm.zero).binds) else none:=by
 rw[List.take_add_one,List.getElem?_eq_getElem hj,Option.toList_some,Pn.atP_app,h]
 show (Pn.atP [p[j]] u).map _=_
 rw[Pn.atP]
 by_cases hc:0≤p[j]∧p[j]<(u.args.length:Int)
 ·rw[if_pos hc,if_pos hc,Pn.atP]
  simp
 ·rw[if_neg hc,if_neg hc];rfl
theorem atP_stop (t:Tm)(p:List Int)(j:Nat)(hj:j<p.length)(h:Pn.atP (p.take (j+1)) t=none):Pn.atP p t=none:=by
 rw[←List.take_append_drop (j+1) p,Pn.atP_app,h];rfl
theorem atP_full {P:Tm→Prop}(hP:∀ u,P u→∀ x∈u.args,P x):∀ (p:List Int) (t:Tm) (r:Tm×List Ty),P t→Pn.atP p t=some r→P r.1
 | [],t,r,ht,h=>by rw[Pn.atP] at h;cases h;exact ht
 | j :: p,t,r,ht,h=>by
  rw[Pn.atP] at h
  split at h
  ·rename_i hj
   cases h2:Pn.atP p (t.args.getD j.toNat Tm.zero) with
   | none=>rw[h2] at h;cases h
   | some r'=>
    rw[h2] at h;cases h
    have hlt:j.toNat<t.args.length:=by omega
    have e:t.args.getD j.toNat Tm.zero=t.args[j.toNat]:=by rw[List.getD_eq_getElem?_getD,List.getElem?_eq_getElem hlt];rfl
    rw[e] at h2
    exact atP_full hP p _ r' (hP _ ht _ (List.getElem_mem hlt)) h2
  ·cases h
@[simp] theorem satV_ok (f g:Nat→Bool) (r:Option (Tm×List Ty)):D.ok f g (satV r)=true:=by
 cases r <;> simp[satV,D.ok,D.oks,D.okss,eTm_ok,eTys_ok]
theorem fit_argsAt (u:Tm)(h:u.Fit):∀ x∈u.args,x.Fit:=by
 obtain⟨b,k,i,a⟩:=u
 exact(Tm.fit_iff.1 h).2.2
set_option maxHeartbeats 2000000 in
theorem sat_d (t:Tm)(p:List Int)(hz:t.full≤780000)(hf:t.Fit)(hp:p.length≤100000):PureC Tryz.prog 121 [.ag (eTm t),.sl 1 (eIs p) none] (satV (Pn.atP p t)):=by
 have hbl:=Ty.le_sizes t.binds
 have hft:=full_args t
 have hcl:=cloneT_d t.binds (by omega)
 rw[eTm_eq]
 refine calldw 0 45 [ResultVar.cell 4 62,ResultVar.tmp 5,ResultVar.tmp 6] TAT_ok Tryz.func121 rfl Tryz.ntmps121 rfl fun cx hnt hn0=>?_
 ·skip
  refine dw_seq ?_;refine dwk [] TAT_ok hnt fun _ z9=>z9 _ _ ?_;refine dw_seq ?_;refine dwk [] TAT_ok hnt fun K hK=>?_;refine dcn (hcl _) ?_;refine hK _ _ ?_;clear hK K;refine dw_seq ?_;refine dw_seq ?_;refine dwk [(14,.v (.int .i64 (↑p.length)))] TAT_ok hnt fun K hK=>?_;refine And.intro (dintE (by rw[eIs_len])) ?_;refine hK _ _ ?_;clear hK K;refine dw_block ?_
  refine dw_loop (ι:={ x:Nat×Tm×List Ty // x.1≤p.length∧Pn.atP (p.take x.1) t=some x.2 }) (fun x=>[(.t 2,.p 0 0),(.t 4,.p 1 0),(.t 7,.ps 6 x.1.2.2.length),(.t 13,.sl 1 (eIs p) none),(.t 14,.v (.int .i64 ↑p.length)),(.t 15,.v (.int .i64 ↑x.1.1)),(.r 6,.rp 106 2 (eTys x.1.2.2)),(.c 0 0,.sl 2 (eTys x.1.2.1.binds) none),(.c 0 1,.v (.int .i64 x.1.2.1.kind)),(.c 0 2,.v (.int .i64 x.1.2.1.index)),(.c 0 3,.sl 4 (eTms x.1.2.1.args) none),(.c 1 0,.v (.slice none 0 0)),(.c 1 1,.v (.int .i64 0)),(.c 1 2,.v (.int .i64 0)),(.c 1 3,.v (.slice none 0 0))]) 7 (fun x=>p.length-x.1.1) (⟨(0,t,t.binds),Nat.zero_le _,by simp[Pn.atP]⟩) (VS.toA) fun x=>?_
  obtain⟨⟨j,u,l⟩,hj,hu⟩:=x
  dsimp only at hj hu
  dsimp only
  obtain⟨hs1,hs2,hs3,hs4⟩:=atP_sizes _ _ _ hu
  have hfu:u.Fit:=atP_full fit_argsAt _ _ _ hf hu
  dsimp only at hs1 hs2 hs3 hs4
  have hfa:=full_args u
  by_cases hlt:j<p.length
  ·have hst:=atP_step t p j hlt u l hu
   by_cases hc:0≤p[j]∧p[j]<(u.args.length:Int)
   ·rw[if_pos hc] at hst
    obtain⟨n,hn⟩:∃ n:Nat,p[j]=n:=⟨p[j].toNat,by omega⟩
    have hlt2:n<u.args.length:=by omega
    have e:u.args.getD p[j].toNat Tm.zero=u.args[n]:=by rw[hn,Int.toNat_natCast,List.getD_eq_getElem?_getD,List.getElem?_eq_getElem hlt2];rfl
    rw[e] at hst
    obtain⟨x,hx⟩:∃ x,u.args[n]=x:=⟨_,rfl⟩
    rw[hx] at hst
    have hsn:=(atP_sizes _ _ _ hst).2.2.1
    dsimp only at hsn
    rw[List.length_append] at hsn
    have hgx:(eTms u.args).getD n []=[.sl 2 (eTys x.binds) none,.v (.int .i64 x.kind),.v (.int .i64 x.index),.sl 4 (eTms x.args) none]:=by rw[eTms_getD u.args n hlt2,hx,eTm_eq]
    refine dw_seq ?_;refine dwk [(16,.v (.bool true))] TAT_ok hnt fun K hK=>?_;refine And.intro auT ?_;refine hK _ _ ?_;clear hK K;refine dw_seq ?_;refine dw_cond (t:=true) rfl ?_;rw[if_pos rfl];refine dw_skip ?_;refine dw_seq ?_;refine dw_block ?_;refine dw_seq ?_;refine dwk [(17,.q [.v (.int .i64 (p[j]))])] TAT_ok hnt fun K hK=>?_;refine And.intro (elo (eIs_len p)) ?_;refine And.intro (elv (eIs_getD p j) rfl) ?_
    refine hK _ _ ?_;clear hK K;refine dw_seq ?_;refine dw_seq ?_;refine dwk [(20,.v (.bool false)),(25,.v (.int .i64 (↑u.args.length))),(26,.v (.bool false))] TAT_ok hnt fun K hK=>?_;refine And.intro auF ?_;refine And.intro (dintE (by rw[eTms_len])) ?_;refine And.intro auF ?_;refine hK _ _ ?_;clear hK K;refine dw_cond (t:=false) rfl ?_;rw[if_neg (by simp)];refine dw_skip ?_;refine dw_seq ?_
    refine dwk [(31,.v (.int .i64 (↑n))),(32,.q [.sl 2 (eTys x.binds) none,.v (.int .i64 x.kind),.v (.int .i64 x.index),.sl 4 (eTms x.args) none])] TAT_ok hnt fun K hK=>?_;refine And.intro (dintE (by exact hn)) ?_;refine And.intro (⟨by omega,by rw[eTms_len];omega⟩) ?_;refine And.intro (VLe.of_eq (by rw[Int.toNat_natCast,hgx])) ?_;refine hK _ _ ?_;clear hK K;refine dwk [(37,.ps 6 (l.length+x.binds.length))] TAT_ok hnt fun K hK=>?_
    refine And.intro (⟨by rw[eTys_len],by rw[eTys_len,eTys_len];omega⟩) ?_;refine And.intro (VLe.of_eq (by rw[eTys_len])) ?_;refine hK _ _ ?_;clear hK K
    rw[←eTys_append,←List.length_append]
    refine dwk [(38,.v (.int .i64 (↑(j+1))))] TAT_ok hnt fun K hK=>?_;refine And.intro auI ?_;refine hK _ _ ?_;clear hK K
    refine⟨⟨(j+1,x,l++x.binds),by omega,hst⟩,by first | omega | (dsimp only;omega),VS.toA⟩
   ·rw[if_neg hc] at hst
    rw[atP_stop t p j hlt hst]
    by_cases h0:p[j]<0
    ·skip
     refine dw_seq ?_;refine dwk [(16,.v (.bool true))] TAT_ok hnt fun K hK=>?_;refine And.intro auT ?_;refine hK _ _ ?_;clear hK K;refine dw_seq ?_;refine dw_cond (t:=true) rfl ?_;rw[if_pos rfl];refine dw_skip ?_;refine dw_seq ?_;refine dw_block ?_;refine dw_seq ?_;refine dwk [(17,.q [.v (.int .i64 (p[j]))])] TAT_ok hnt fun K hK=>?_;refine And.intro (elo (eIs_len p)) ?_;refine And.intro (elv (eIs_getD p j) rfl) ?_
     refine hK _ _ ?_;clear hK K;refine dw_seq ?_;refine dw_seq ?_;refine dwk [(20,.v (.bool true))] TAT_ok hnt fun K hK=>?_;refine And.intro auT ?_;refine hK _ _ ?_;clear hK K;refine dw_cond (t:=true) rfl ?_;rw[if_pos rfl];refine dw_seq ?_;refine dwk [] TAT_ok hnt fun _ z9=>z9 _ _ ?_;refine dw_ret ?_
     exact reta rfl
    ·skip
     refine dw_seq ?_;refine dwk [(16,.v (.bool true))] TAT_ok hnt fun K hK=>?_;refine And.intro auT ?_;refine hK _ _ ?_;clear hK K;refine dw_seq ?_;refine dw_cond (t:=true) rfl ?_;rw[if_pos rfl];refine dw_skip ?_;refine dw_seq ?_;refine dw_block ?_;refine dw_seq ?_;refine dwk [(17,.q [.v (.int .i64 (p[j]))])] TAT_ok hnt fun K hK=>?_;refine And.intro (elo (eIs_len p)) ?_;refine And.intro (elv (eIs_getD p j) rfl) ?_
     refine hK _ _ ?_;clear hK K;refine dw_seq ?_;refine dw_seq ?_;refine dwk [(20,.v (.bool false)),(25,.v (.int .i64 (↑u.args.length))),(26,.v (.bool true))] TAT_ok hnt fun K hK=>?_;refine And.intro auF ?_;refine And.intro (dintE (by rw[eTms_len])) ?_;refine And.intro auT ?_;refine hK _ _ ?_;clear hK K;refine dw_cond (t:=true) rfl ?_;rw[if_pos rfl];refine dw_seq ?_;refine dwk [] TAT_ok hnt fun K hK=>?_
     refine hK _ _ ?_;clear hK K;refine dw_ret ?_
     exact reta rfl
  ·have hjp:p.take j=p:=List.take_of_length_le (by omega)
   rw[hjp] at hu
   rw[hu,show satV (some (u,l))=.tu [.ag [.sl 2 (eTys u.binds) none,.v (.int .i64 u.kind),.v (.int .i64 u.index),.sl 4 (eTms u.args) none],.sl 2 (eTys l) none,.v (.int .i64 0)] by rw[←eTm_eq];rfl]
   have hcp:=copyW_d u (by omega) hfu
   have hs0:(Ty.mk [] 0).size=1:=by simp[Ty.size,Ty.sizes]
   have harr:=arrow_d (.mk [] 0) l (by omega)
   dsimp only[Ty.args,Ty.base] at harr
   rw[List.append_nil,eTy_eq,eTy_eq] at harr
   dsimp only[Ty.args,Ty.base,eTys] at harr
   rw[eTm_eq] at hcp
   refine dw_seq ?_;refine dwk [(16,.v (.bool false))] TAT_ok hnt fun K hK=>?_;refine And.intro auF ?_;refine hK _ _ ?_;clear hK K;refine dw_seq ?_;refine dw_cond (t:=false) rfl ?_;rw[if_neg (by simp)]
   refine dw_freeze (x:=7) (g:=6) rfl rfl (eTys_len _) ?_
   rw[eTys_len]
   refine dw_exit ?_;refine dw_seq ?_;refine dwk [(41,.ag [.sl 2 [] none,.v (.int .i64 0)]),(42,.sl 2 (eTys l) none)] TAT_ok hnt fun K hK=>?_;refine dcl (hcp) ?_;refine And.intro (auV) ?_;refine And.intro (VLe.untag _ _ _) ?_;refine dcl (harr) ?_;refine hK _ _ ?_;clear hK K;refine dw_ret ?_
   exact reta rfl
def TAUE_62:TI:=⟨4,true,[Value.slice none 0 0,Value.int IntKind.i64 0,Value.int IntKind.i64 0,Value.slice none 0 0],[(0,1,false),(1,2,true),(3,1,false)],none,64,6,none,false⟩
theorem TAUE_62_ok:TypOk Tryz.prog 62 TAUE_62:=by constructor <;> kernel_rfl
def TAUE_86:TI:=⟨4,true,[Value.int IntKind.i64 0,Value.bool false,Value.slice none 0 0,Value.slice none 0 0],[(0,1,false),(1,1,false),(2,1,false),(3,1,false)],none,64,6,none,false⟩
theorem TAUE_86_ok:TypOk Tryz.prog 86 TAUE_86:=by constructor <;> kernel_rfl
def TAUE_50:TI:=⟨1,false,[Value.int IntKind.i64 0],[],none,8,2,none,false⟩
theorem TAUE_50_ok:TypOk Tryz.prog 50 TAUE_50:=by constructor <;> kernel_rfl
def TAUE_138:TI:=⟨1,false,[Value.pointer none],[],none,8,4,none,false⟩
theorem TAUE_138_ok:TypOk Tryz.prog 138 TAUE_138:=by constructor <;> kernel_rfl
def TAUE_140:TI:=⟨5,true,[Value.int IntKind.i64 0,Value.slice none 0 0,Value.slice none 0 0,Value.slice none 0 0,Value.int IntKind.i64 0],[(0,3,true),(3,1,false),(4,1,false)],none,88,6,none,false⟩
theorem TAUE_140_ok:TypOk Tryz.prog 140 TAUE_140:=by constructor <;> kernel_rfl
def TAUE_3:TI:=⟨1,false,[Value.int IntKind.i64 0],[],none,8,2,none,false⟩
theorem TAUE_3_ok:TypOk Tryz.prog 3 TAUE_3:=by constructor <;> kernel_rfl
def TAUE_64:TI:=⟨9,true,[Value.slice none 0 0,Value.int IntKind.i64 0,Value.int IntKind.i64 0,Value.slice none 0 0,Value.slice none 0 0,Value.int IntKind.i64 0,Value.int IntKind.i64 0,Value.slice none 0 0,Value.slice none 0 0],[(0,4,true),(4,4,true),(8,1,false)],none,152,6,none,false⟩
theorem TAUE_64_ok:TypOk Tryz.prog 64 TAUE_64:=by constructor <;> kernel_rfl
def TAUE_84:TI:=⟨1,false,[Value.slice none 0 0],[],some 110,24,5,none,false⟩
theorem TAUE_84_ok:TypOk Tryz.prog 84 TAUE_84:=by constructor <;> kernel_rfl
def TAUE_4:TI:=⟨1,false,[Value.bool false],[],none,1,1,none,false⟩
theorem TAUE_4_ok:TypOk Tryz.prog 4 TAUE_4:=by constructor <;> kernel_rfl
def TAUE_34:TI:=⟨1,false,[Value.slice none 0 0],[],some 64,24,5,none,false⟩
theorem TAUE_34_ok:TypOk Tryz.prog 34 TAUE_34:=by constructor <;> kernel_rfl
def TAUE_78:TI:=⟨1,false,[Value.slice none 0 0],[],some 86,24,5,none,false⟩
theorem TAUE_78_ok:TypOk Tryz.prog 78 TAUE_78:=by constructor <;> kernel_rfl
def TAUE_43:TI:=⟨3,true,[Value.int IntKind.i64 0,Value.slice none 0 0,Value.slice none 0 0],[(0,1,false),(1,1,false),(2,1,false)],none,56,6,none,false⟩
theorem TAUE_43_ok:TypOk Tryz.prog 43 TAUE_43:=by constructor <;> kernel_rfl
def TAUE_71:TI:=⟨1,false,[Value.slice none 0 0],[],some 3,24,5,none,false⟩
theorem TAUE_71_ok:TypOk Tryz.prog 71 TAUE_71:=by constructor <;> kernel_rfl
def TAUE_41:TI:=⟨1,false,[Value.slice none 0 0],[],some 106,24,5,none,false⟩
theorem TAUE_41_ok:TypOk Tryz.prog 41 TAUE_41:=by constructor <;> kernel_rfl
def TAUE_106:TI:=⟨2,true,[Value.slice none 0 0,Value.int IntKind.i64 0],[(0,1,false),(1,1,false)],none,32,6,none,false⟩
theorem TAUE_106_ok:TypOk Tryz.prog 106 TAUE_106:=by constructor <;> kernel_rfl
def TAUE_110:TI:=⟨5,true,[Value.int IntKind.i64 0,Value.slice none 0 0,Value.int IntKind.i64 0,Value.int IntKind.i64 0,Value.slice none 0 0],[(0,1,false),(1,4,true)],none,72,6,none,false⟩
theorem TAUE_110_ok:TypOk Tryz.prog 110 TAUE_110:=by constructor <;> kernel_rfl
def TAUE:List (Nat×TI):=[(62,TAUE_62),(86,TAUE_86),(50,TAUE_50),(138,TAUE_138),(140,TAUE_140),(3,TAUE_3),(64,TAUE_64),(84,TAUE_84),(4,TAUE_4),(34,TAUE_34),(78,TAUE_78),(43,TAUE_43),(71,TAUE_71),(41,TAUE_41),(106,TAUE_106),(110,TAUE_110)]
theorem TAUE_ok:TabOk Tryz.prog TAUE:=(((((((((((((((((TabOk.nil _).cons TAUE_110_ok).cons TAUE_106_ok).cons TAUE_41_ok).cons TAUE_71_ok).cons TAUE_43_ok).cons TAUE_78_ok).cons TAUE_34_ok).cons TAUE_4_ok).cons TAUE_84_ok).cons TAUE_64_ok).cons TAUE_3_ok).cons TAUE_140_ok).cons TAUE_138_ok).cons TAUE_50_ok).cons TAUE_86_ok).cons TAUE_62_ok)
def eSt (x:Au.St):List D:=[.v (.int .i64 x.eq),.v (.bool x.back),.sl 1 (eIs x.path) none,.sl 5 (ePairs x.s) none]
@[simp] theorem eSt_ok (f g:Nat→Bool) (x:Au.St):D.oks f g (eSt x)=true:=by simp[eSt,D.oks,D.ok]
theorem bodyW_d (t:Tm)(hsz:t.full≤900000)(hfit:t.Fit):PureC Tryz.prog 124 [.ag (eTm t)] (.ag (eTm (Pn.nb t))):=by
 have h:=copyW_d t hsz hfit
 rw[eTm_eq] at h ⊢
 rw[show eTm (Pn.nb t)=[.sl 2 [] none,.v (.int .i64 t.kind),.v (.int .i64 t.index),.sl 4 (eTms t.args) none] by rw[eTm_eq];rfl]
 refine calldw 0 8 [ResultVar.cell 2 62] TAUE_ok Tryz.func124 rfl Tryz.ntmps124 rfl fun cx hnt hn0=>?_
 ·skip
  refine dw_seq ?_;refine dwk [] TAUE_ok hnt fun _ z9=>z9 _ _ ?_;refine dw_seq ?_;refine dwk [] TAUE_ok hnt fun K hK=>?_;refine dcl (h) ?_;refine hK _ _ ?_;clear hK K;refine dw_seq ?_;refine dwk [] TAUE_ok hnt fun _ z9=>z9 _ _ ?_;refine dw_seq ?_;refine dwk [] TAUE_ok hnt fun _ z9=>z9 _ _ ?_;refine dw_ret ?_
  exact reta rfl
theorem Bnd.mono170 {t:Tm}:Bnd 150 t→Bnd 170 t:=by
 induction t using Tm.ind with
 | h b k i a ih=>exact fun ht=>.mk _ _ _ _ (by have:=ht.inv.1;omega) ht.inv.2.1 fun u hu=>ih u hu (ht.inv.2.2 u hu)
namespace Au
theorem repl_full {t c:Tm}{p:List Int}(h1:t.full≤800000)(h2:c.full≤800000):(repl t c p).1.full≤17100000:=by
 unfold repl
 by_cases hb:c.binds≠[]
 ·rw[if_pos hb];show Tm.zero.full≤17100000;decide
 ·rw[if_neg hb]
  cases hx:replP p t c with
  | none=>show Tm.zero.full≤17100000;decide
  | some o=>
   have:=(replP_size p t c o hx).2.1
   show o.full≤17100000
   omega
theorem img_bnd {s:List (Int×Tm)}{t:Tm}{e:Int}(hs:∀ q∈s,Bnd 150 q.2)(ht:Bnd 150 t):Bnd 150 (img s t e).1∧(img s t e).1.size≤5000:=by
 unfold img
 by_cases he:e≠0
 ·rw[if_pos he];exact⟨Bnd.tz,by show Tm.zero.size≤5000;decide⟩
 ·rw[if_neg he]
  have hle:=apply_less (l:=s) (t:=t) (left:=100000) (dry:=false) hs ht ⟨by decide,by decide⟩
  dsimp only
  by_cases h0:(Sb.apply s t 100000 false).2.e=0
  ·exact⟨(hle h0).2.2,(hle h0).2.1.1⟩
  ·have hz:(Sb.apply s t 100000 false).1=Nm.tz:=by
    unfold Sb.apply at h0 ⊢
    by_cases hr:Sb.right s=false
    ·rw[if_pos hr]
    ·rw[if_neg hr] at h0 ⊢
     dsimp only at h0 ⊢
     generalize Sb.through s t 0 ⟨100000,false,0,0⟩=r at h0 ⊢
     by_cases hc:r.2.e=0∧¬ (r.1.size≤5000∧r.1.depth≤60)
     ·rw[if_pos hc]
      exact congrArg Prod.fst (if_pos (α:=Tm×Nm.St) (t:=(Nm.tz,{ r.2 with e:=2 })) (e:=(r.1,{ r.2 with e:=2 })) (show (2:Int)≠0 by decide))
     ·rw[if_neg hc] at h0 ⊢
      by_cases hr2:r.2.e=0
      ·rw[if_neg (fun h=>h hr2)] at h0;exact absurd hr2 h0
      ·rw[if_pos hr2]
   rw[hz];exact⟨Bnd.tz,by decide⟩
def EqOk (q:Li.Pr):Prop:=(q.l.full≤150∧Bnd 150 q.l)∧(q.r.full≤150∧Bnd 150 q.r)∧q.m.length≤1000
def SOk (x:St):Prop:=x.s.length≤1000∧(∀ q∈x.s,q.2.full≤150∧q.2.Fit)∧x.path.length≤10000
end Au
set_option maxRecDepth 100000 in
set_option maxHeartbeats 8000000 in
theorem step_d (b:Int)(C Mw:List Ty)(eqs:List Li.Pr)(e:Int)(t:Tm)(x:Au.St)(code:List Ty→Tm→Ty→Int)(hc:∀ X t u,checkCode C Mw t X u (code X t u))(hCl:C.length≤1000000)(hMl:Mw.length≤1000000) 
  (hel:eqs.length≤1000) (hes:∀ q∈eqs,Au.EqOk q) (hx:Au.SOk x) (ht:t.size≤5000∧Bnd 150 t∧t.full≤760000) :
  CallC Tryz.prog 97 [.p 0 0,.ag (eTm t),.ag (eSt x)] (Au.ck b C Mw eqs e) (Au.ck b C Mw eqs (Au.step code eqs x (t,e)).2) (.ag (eTm (Au.step code eqs x (t,e)).1)):=by
 obtain⟨hx1,hx2,hx3⟩:=hx
 obtain⟨ht1,ht2,ht3⟩:=ht
 have hsw:∀ q∈x.s,Bnd 150 q.2∧Wide q.2:=fun q hq=>⟨Bnd.of_full q.2 (hx2 q hq).1 (hx2 q hq).2,wide_full _ (by have:=(hx2 q hq).1;omega)⟩
 have hsb:∀ q∈x.s,Bnd 150 q.2:=fun q hq=>(hsw q hq).1
 have hAt:=sat_d t x.path (by omega) (Bnd.fit _ ht2) (by omega)
 obtain⟨is,his⟩:∃ is,decide (0≤x.eq∧x.eq<(eqs.length:Int))=is:=⟨_,rfl⟩
 obtain⟨e1,he1⟩:∃ e1,Au.must e is 10=e1:=⟨_,rfl⟩
 have hm1:=must_d b C Mw eqs e 10 is
 rw[he1] at hm1
 have hm2f:=must_d b C Mw eqs e1 10 false
 have hm2t:=must_d b C Mw eqs e1 10 true
 rw[Au.must_true] at hm2t
 have hm2f:CallC _ _ _ _ _ _:=hm2f
 obtain⟨⟨o,oe⟩,hO⟩:∃ r,Au.step code eqs x (t,e)=r:=⟨_,rfl⟩
 rw[hO]
 unfold Au.step at hO
 dsimp only at hO ⊢
 rw[his,he1] at hO
 generalize hat:Pn.atP x.path t=r at hAt hO
 unfold eSt
 rw[eTm_eq t,eTm_eq o]
 unfold Au.ck at hm1 hm2f hm2t ⊢
 refine calldw 2 117 [ResultVar.cell 6 62] TAUE_ok Tryz.func97 rfl Tryz.ntmps97 rfl fun cx hnt hn0=>?_
 ·skip
  refine dw_seq ?_;refine dwk [] TAUE_ok hnt fun _ z9=>z9 _ _ ?_
  refine dw_cut (τ:=[(.t 0,.p 0 0),(.t 4,.p 2 0),(.t 5,.p 3 0),(.t 6,.p 4 0),(.c 2 0,.sl 2 (eTys t.binds) none),(.c 2 1,.v (.int .i64 t.kind)),(.c 2 2,.v (.int .i64 t.index)),(.c 2 3,.sl 4 (eTms t.args) none),(.c 3 0,.v (.int .i64 x.eq)),(.c 3 1,.v (.bool x.back)),(.c 3 2,.sl 1 (eIs x.path) none),(.c 3 3,.sl 5 (ePairs x.s) none),(.c 4 0,.v (.slice none 0 0)),(.c 4 1,.v (.int .i64 0)),(.c 4 2,.v (.int .i64 0)),(.c 4 3,.v (.slice none 0 0)),(.c 0 0,.v (.int .i64 b)),(.c 0 1,.sl 2 (eTys C) none),(.c 0 2,.sl 2 (eTys Mw) none),(.c 0 3,.sl 9 (ePrs eqs) none),(.c 0 4,.v (.int .i64 e1))]) (N1:=60) ?_ ?_
  ·by_cases h0:0≤x.eq
   ·by_cases h1:x.eq<(eqs.length:Int)
    ·have hi:is=true:=by rw[←his];exact decide_eq_true ⟨h0,h1⟩
     subst hi
     refine dwkD [(19,.v (.bool true)),(27,.v (.int .i64 (↑eqs.length))),(28,.v (.bool true))] TAUE_ok hnt fun K hK=>?_;refine And.intro (dtrue (by omega)) ?_;refine And.intro (dintE (by rw[ePrs_len])) ?_;refine And.intro (dtrue h1) ?_;refine dcl (hm1) ?_;refine hK _ _ (by kernel_rfl) ?_;clear hK K
     exact cut_ok VS.toA
    ·have hi:is=false:=by rw[←his];exact decide_eq_false fun h=>h1 h.2
     subst hi
     refine dwkD [(19,.v (.bool true)),(27,.v (.int .i64 (↑eqs.length))),(28,.v (.bool false))] TAUE_ok hnt fun K hK=>?_;refine And.intro (dtrue (by omega)) ?_;refine And.intro (dintE (by rw[ePrs_len])) ?_;refine And.intro (dfalse h1) ?_;refine dcl (hm1) ?_;refine hK _ _ (by kernel_rfl) ?_;clear hK K
     exact cut_ok VS.toA
   ·have hi:is=false:=by rw[←his];exact decide_eq_false fun h=>h0 h.1
    subst hi
    refine dwkD [(19,.v (.bool false))] TAUE_ok hnt fun K hK=>?_;refine And.intro (dfalse (by omega)) ?_;refine dcl (hm1) ?_;refine hK _ _ (by kernel_rfl) ?_;clear hK K
    exact cut_ok VS.toA
  ·cases r with
   | none=>
    dsimp only at hO
    have he2:Au.must e1 false 10≠0:=fun h=>by have:=(Au.must_0 (by decide) h).2;cases this
    obtain⟨rfl,rfl⟩:=Prod.mk.inj hO
    unfold satV at hAt
    dsimp only at hAt
    rw[eTm_eq t,eTm_zr] at hAt
    refine dw_seq ?_;refine dwk [] TAUE_ok hnt fun K hK=>?_;refine dcl (hAt) ?_;refine hK _ _ ?_;clear hK K;refine dw_seq ?_;refine dwk [(41,.v (.bool false))] TAUE_ok hnt fun K hK=>?_;refine And.intro (beqF (by decide)) ?_;refine dcl (hm2f) ?_;refine hK _ _ ?_;clear hK K;refine dw_seq ?_;refine dw_seq ?_;refine dwk [(47,.v (.bool true))] TAUE_ok hnt fun K hK=>?_;refine And.intro (bneT he2) ?_
    refine hK _ _ ?_;clear hK K;refine dw_cond (t:=true) rfl ?_;rw[if_pos rfl];refine dw_seq ?_;refine dwk [] TAUE_ok hnt fun _ z9=>z9 _ _ ?_;refine dw_ret ?_
    exact reta rfl
   | some y=>
    obtain⟨th,ar⟩:=y
    dsimp only at hO
    unfold satV at hAt
    dsimp only at hAt
    obtain⟨z1,z2,z3,z4⟩:=atP_sizes _ _ _ hat
    dsimp only at z1 z2 z3 z4
    have hthf:th.Fit:=atP_full fit_argsAt _ _ _ (Bnd.fit _ ht2) hat
    have hBo:=bodyW_d th (by omega) hthf
    rw[eTm_eq t,eTm_eq th] at hAt
    simp only[eTm_eq] at hBo
    refine dw_seq ?_;refine dwk [] TAUE_ok hnt fun K hK=>?_;refine dcl (hAt) ?_;refine hK _ _ ?_;clear hK K;refine dw_seq ?_;refine dwk [(41,.v (.bool true))] TAUE_ok hnt fun K hK=>?_;refine And.intro (beqT rfl) ?_;refine dcl (hm2t) ?_;refine hK _ _ ?_;clear hK K
    by_cases hz:e1=0
    ·subst hz
     rw[if_neg (fun h=>h rfl)] at hO
     obtain⟨h0,hi⟩:=Au.must_0 (by decide) he1
     subst hi
     obtain⟨h1,h2⟩:=of_decide_eq_true his
     obtain⟨n,hn⟩:∃ n:Nat,x.eq=n:=⟨x.eq.toNat,by omega⟩
     have hnl:n<eqs.length:=by omega
     obtain⟨q,hq⟩:∃ q,eqs[n]=q:=⟨_,rfl⟩
     have hqa:Au.eqAt eqs x=q:=by
      unfold Au.eqAt
      rw[hn,Int.toNat_natCast,List.getD_eq_getElem?_getD,List.getElem?_eq_getElem hnl,hq];rfl
     rw[hqa] at hO
     obtain⟨hbl,hbr,hqm⟩:Au.EqOk q:=hes q (hq ▸ List.getElem_mem hnl)
     have hSub:=substitution_d b C Mw eqs 0 q x.s ar code hc hCl hMl ⟨by have:=hbl.1;omega,by have:=hbr.1;omega⟩ (by omega) hx1 (fun p hp=>⟨by have:=(hx2 p hp).1;omega,(hx2 p hp).2⟩) (by omega)
     obtain⟨E3,hE3⟩:∃ E,Au.subS code q x.s ar 0=E:=⟨_,rfl⟩
     rw[hE3] at hSub hO
     rw[ePr_at] at hSub
     unfold Au.ck at hSub
     refine dw_seq ?_;refine dw_seq ?_;refine dwk [(47,.v (.bool false))] TAUE_ok hnt fun K hK=>?_;refine And.intro (bneF rfl) ?_;refine hK _ _ ?_;clear hK K;refine dw_cond (t:=false) rfl ?_;rw[if_neg (by simp)];refine dw_skip ?_;refine dw_seq ?_;refine dwkD [(54,.v (.int .i64 (↑n))),(55,.q [.sl 2 (eTys q.l.binds) none,.v (.int .i64 q.l.kind),.v (.int .i64 q.l.index),.sl 4 (eTms q.l.args) none,.sl 2 (eTys q.r.binds) none,.v (.int .i64 q.r.kind),.v (.int .i64 q.r.index),.sl 4 (eTms q.r.args) none,.sl 2 (eTys q.m) none])] TAUE_ok hnt fun K hK=>?_
     refine And.intro (dintE (by exact hn)) ?_;refine And.intro (⟨by omega,by rw[ePrs_len];omega⟩) ?_;refine And.intro (VLe.of_eq (by rw[Int.toNat_natCast,ePrs_getD eqs n hnl,hq,ePr_at])) ?_;refine hK _ _ (by kernel_rfl) ?_;clear hK K;refine dw_seq ?_;refine dwk [] TAUE_ok hnt fun K hK=>?_;refine dcl (hSub) ?_;refine hK _ _ ?_;clear hK K;refine dw_seq ?_;refine dwkD [] TAUE_ok hnt fun K hK=>?_
     refine hK _ _ (by kernel_rfl) ?_;clear hK K
     cases hb:x.back with
     | true=>
      have hff:(if x.back=true then q.r else q.l)=q.r:=by rw[hb];rfl
      have hgg:(if x.back=true then q.l else q.r)=q.l:=by rw[hb];rfl
      refine dw_seq ?_;refine dw_seq ?_;refine dwk [] TAUE_ok hnt fun _ z9=>z9 _ _ ?_;refine dw_cond (t:=true) rfl ?_;rw[if_pos rfl];refine dwk [] TAUE_ok hnt fun _ z9=>z9 _ _ ?_
      have hI1:=image_d b C Mw eqs E3 x.s q.r hx1 hsw hbr.2 (by have:=hbr.1;have:=Tm.size_le_full q.r;omega)
      have hAb:=Au.img_bnd (s:=x.s) (t:=q.r) (e:=E3) hsb hbr.2
      rw[hff] at hO
      obtain⟨⟨a,ae⟩,hA⟩:∃ r,Au.img x.s q.r E3=r:=⟨_,rfl⟩
      rw[hA] at hI1 hAb hO
      dsimp only at hI1 hAb hO
      have hI2:=image_d b C Mw eqs ae x.s q.l hx1 hsw hbl.2 (by have:=hbl.1;have:=Tm.size_le_full q.l;omega)
      have hCb:=Au.img_bnd (s:=x.s) (t:=q.l) (e:=ae) hsb hbl.2
      rw[hgg] at hO
      obtain⟨⟨c,ce⟩,hCc⟩:∃ r,Au.img x.s q.l ae=r:=⟨_,rfl⟩
      rw[hCc] at hI2 hCb hO
      dsimp only at hI2 hCb hO
      have hEq:=equal2_d a (Pn.nb th)
      have hm6:=must_d b C Mw eqs ce 9 (decide (a=Pn.nb th))
      unfold Au.fin at hO
      obtain⟨E6,hE6⟩:∃ E,Au.must ce (decide (a=Pn.nb th)) 9=E:=⟨_,rfl⟩
      rw[hE6] at hm6 hO
      have hcz:c.full≤755000:=by
       have h1:=Bnd.full _ hCb.1
       have h2:c.size * (150+1)≤5000 * 151:=Nat.mul_le_mul hCb.2 (by decide)
       omega
      have hRe:=sreplace_d t c x.path (by omega) ⟨by omega,by omega,Bnd.mono170 ht2⟩ ⟨by omega,by omega,Bnd.mono170 hCb.1⟩
      have hRf:(Au.repl t c x.path).1.full≤17100000:=Au.repl_full (by omega) (by omega)
      obtain⟨⟨ro,re⟩,hR⟩:∃ r,Au.repl t c x.path=r:=⟨_,rfl⟩
      rw[hR] at hRe hRf hO
      dsimp only at hRe hRf hO
      have hm7:=must_d b C Mw eqs E6 re (decide (re=0))
      obtain⟨E7,hE7⟩:∃ E,Au.must E6 (decide (re=0)) re=E:=⟨_,rfl⟩
      rw[hE7] at hm7 hO
      have hRt:=right_d ro hRf
      rw[show decide (ro.size≤5000∧ro.depth≤60)=Li.rt ro from rfl] at hRt
      have hm8:=must_d b C Mw eqs E7 2 (Li.rt ro)
      obtain⟨E8,hE8⟩:∃ E,Au.must E7 (Li.rt ro) 2=E:=⟨_,rfl⟩
      rw[hE8] at hm8 hO
      unfold Au.ck at hI1 hI2 hm6 hm7 hm8
      simp only[eTm_eq] at hI1 hI2 hEq hRe hRt
      refine dw_seq ?_;refine dwk [] TAUE_ok hnt fun K hK=>?_;refine dcl (hI1) ?_;refine hK _ _ ?_;clear hK K;refine dw_seq ?_;refine dwk [] TAUE_ok hnt fun K hK=>?_;refine dcl (hI2) ?_;refine hK _ _ ?_;clear hK K;refine dw_seq ?_;refine dwkD [] TAUE_ok hnt fun K hK=>?_;refine dcl (hBo) ?_;refine dcl (hEq) ?_;refine dcl (hm6) ?_;refine hK _ _ (by kernel_rfl) ?_;clear hK K
      by_cases h6:E6=0
      ·rw[if_neg (fun h=>h h6)] at hO
       by_cases h8:E8=0
       ·rw[if_neg (fun h=>h h8)] at hO
        obtain⟨rfl,rfl⟩:=Prod.mk.inj hO
        rw[h8] at hm8
        refine dw_seq ?_;refine dw_seq ?_;refine dwk [(91,.v (.bool false))] TAUE_ok hnt fun K hK=>?_;refine And.intro (bneF h6) ?_;refine hK _ _ ?_;clear hK K;refine dw_cond (t:=false) rfl ?_;rw[if_neg (by simp)];refine dw_skip ?_;refine dw_seq ?_;refine dwk [] TAUE_ok hnt fun K hK=>?_;refine dcl (hRe) ?_;refine hK _ _ ?_;clear hK K;refine dw_seq ?_;refine dwk [(103,.v (.bool (decide (re=0))))] TAUE_ok hnt fun K hK=>?_
        refine And.intro (VLe.of_eq (by by_cases h:re=0 <;> simp[h])) ?_;refine dcl (hm7) ?_;refine hK _ _ ?_;clear hK K;refine dw_seq ?_;refine dwk [] TAUE_ok hnt fun K hK=>?_;refine dcl (hRt) ?_;refine dcl (hm8) ?_;refine hK _ _ ?_;clear hK K;refine dw_seq ?_;refine dw_seq ?_;refine dwk [(114,.v (.bool false))] TAUE_ok hnt fun K hK=>?_;refine And.intro (bneF rfl) ?_;refine hK _ _ ?_;clear hK K
        refine dw_cond (t:=false) rfl ?_;rw[if_neg (by simp)];refine dw_skip ?_;refine dw_seq ?_;refine dwk [] TAUE_ok hnt fun _ z9=>z9 _ _ ?_;refine dw_ret ?_
        exact reta rfl
       ·rw[if_pos h8] at hO
        obtain⟨rfl,rfl⟩:=Prod.mk.inj hO
        refine dw_seq ?_;refine dw_seq ?_;refine dwk [(91,.v (.bool false))] TAUE_ok hnt fun K hK=>?_;refine And.intro (bneF h6) ?_;refine hK _ _ ?_;clear hK K;refine dw_cond (t:=false) rfl ?_;rw[if_neg (by simp)];refine dw_skip ?_;refine dw_seq ?_;refine dwk [] TAUE_ok hnt fun K hK=>?_;refine dcl (hRe) ?_;refine hK _ _ ?_;clear hK K;refine dw_seq ?_;refine dwk [(103,.v (.bool (decide (re=0))))] TAUE_ok hnt fun K hK=>?_
        refine And.intro (VLe.of_eq (by by_cases h:re=0 <;> simp[h])) ?_;refine dcl (hm7) ?_;refine hK _ _ ?_;clear hK K;refine dw_seq ?_;refine dwk [] TAUE_ok hnt fun K hK=>?_;refine dcl (hRt) ?_;refine dcl (hm8) ?_;refine hK _ _ ?_;clear hK K;refine dw_seq ?_;refine dw_seq ?_;refine dwk [(114,.v (.bool true))] TAUE_ok hnt fun K hK=>?_;refine And.intro (bneT h8) ?_;refine hK _ _ ?_;clear hK K
        refine dw_cond (t:=true) rfl ?_;rw[if_pos rfl];refine dw_seq ?_;refine dwk [] TAUE_ok hnt fun _ z9=>z9 _ _ ?_;refine dw_ret ?_
        exact reta rfl
      ·rw[if_pos h6] at hO
       obtain⟨rfl,rfl⟩:=Prod.mk.inj hO
       refine dw_seq ?_;refine dw_seq ?_;refine dwk [(91,.v (.bool true))] TAUE_ok hnt fun K hK=>?_;refine And.intro (bneT h6) ?_;refine hK _ _ ?_;clear hK K;refine dw_cond (t:=true) rfl ?_;rw[if_pos rfl];refine dw_seq ?_;refine dwk [] TAUE_ok hnt fun _ z9=>z9 _ _ ?_;refine dw_ret ?_
       exact reta rfl
     | false=>
      have hff:(if x.back=true then q.r else q.l)=q.l:=by rw[hb];rfl
      have hgg:(if x.back=true then q.l else q.r)=q.r:=by rw[hb];rfl
      refine dw_seq ?_;refine dw_seq ?_;refine dwk [] TAUE_ok hnt fun _ z9=>z9 _ _ ?_;refine dw_cond (t:=false) rfl ?_;rw[if_neg (by simp)]
      have hI1:=image_d b C Mw eqs E3 x.s q.l hx1 hsw hbl.2 (by have:=hbl.1;have:=Tm.size_le_full q.l;omega)
      have hAb:=Au.img_bnd (s:=x.s) (t:=q.l) (e:=E3) hsb hbl.2
      rw[hff] at hO
      obtain⟨⟨a,ae⟩,hA⟩:∃ r,Au.img x.s q.l E3=r:=⟨_,rfl⟩
      rw[hA] at hI1 hAb hO
      dsimp only at hI1 hAb hO
      have hI2:=image_d b C Mw eqs ae x.s q.r hx1 hsw hbr.2 (by have:=hbr.1;have:=Tm.size_le_full q.r;omega)
      have hCb:=Au.img_bnd (s:=x.s) (t:=q.r) (e:=ae) hsb hbr.2
      rw[hgg] at hO
      obtain⟨⟨c,ce⟩,hCc⟩:∃ r,Au.img x.s q.r ae=r:=⟨_,rfl⟩
      rw[hCc] at hI2 hCb hO
      dsimp only at hI2 hCb hO
      have hEq:=equal2_d a (Pn.nb th)
      have hm6:=must_d b C Mw eqs ce 9 (decide (a=Pn.nb th))
      unfold Au.fin at hO
      obtain⟨E6,hE6⟩:∃ E,Au.must ce (decide (a=Pn.nb th)) 9=E:=⟨_,rfl⟩
      rw[hE6] at hm6 hO
      have hcz:c.full≤755000:=by
       have h1:=Bnd.full _ hCb.1
       have h2:c.size * (150+1)≤5000 * 151:=Nat.mul_le_mul hCb.2 (by decide)
       omega
      have hRe:=sreplace_d t c x.path (by omega) ⟨by omega,by omega,Bnd.mono170 ht2⟩ ⟨by omega,by omega,Bnd.mono170 hCb.1⟩
      have hRf:(Au.repl t c x.path).1.full≤17100000:=Au.repl_full (by omega) (by omega)
      obtain⟨⟨ro,re⟩,hR⟩:∃ r,Au.repl t c x.path=r:=⟨_,rfl⟩
      rw[hR] at hRe hRf hO
      dsimp only at hRe hRf hO
      have hm7:=must_d b C Mw eqs E6 re (decide (re=0))
      obtain⟨E7,hE7⟩:∃ E,Au.must E6 (decide (re=0)) re=E:=⟨_,rfl⟩
      rw[hE7] at hm7 hO
      have hRt:=right_d ro hRf
      rw[show decide (ro.size≤5000∧ro.depth≤60)=Li.rt ro from rfl] at hRt
      have hm8:=must_d b C Mw eqs E7 2 (Li.rt ro)
      obtain⟨E8,hE8⟩:∃ E,Au.must E7 (Li.rt ro) 2=E:=⟨_,rfl⟩
      rw[hE8] at hm8 hO
      unfold Au.ck at hI1 hI2 hm6 hm7 hm8
      simp only[eTm_eq] at hI1 hI2 hEq hRe hRt
      refine dw_skip ?_;refine dw_seq ?_;refine dwk [] TAUE_ok hnt fun K hK=>?_;refine dcl (hI1) ?_;refine hK _ _ ?_;clear hK K;refine dw_seq ?_;refine dwk [] TAUE_ok hnt fun K hK=>?_;refine dcl (hI2) ?_;refine hK _ _ ?_;clear hK K;refine dw_seq ?_;refine dwkD [] TAUE_ok hnt fun K hK=>?_;refine dcl (hBo) ?_;refine dcl (hEq) ?_;refine dcl (hm6) ?_;refine hK _ _ (by kernel_rfl) ?_;clear hK K
      by_cases h6:E6=0
      ·rw[if_neg (fun h=>h h6)] at hO
       by_cases h8:E8=0
       ·rw[if_neg (fun h=>h h8)] at hO
        obtain⟨rfl,rfl⟩:=Prod.mk.inj hO
        rw[h8] at hm8
        refine dw_seq ?_;refine dw_seq ?_;refine dwk [(91,.v (.bool false))] TAUE_ok hnt fun K hK=>?_;refine And.intro (bneF h6) ?_;refine hK _ _ ?_;clear hK K;refine dw_cond (t:=false) rfl ?_;rw[if_neg (by simp)];refine dw_skip ?_;refine dw_seq ?_;refine dwk [] TAUE_ok hnt fun K hK=>?_;refine dcl (hRe) ?_;refine hK _ _ ?_;clear hK K;refine dw_seq ?_;refine dwk [(103,.v (.bool (decide (re=0))))] TAUE_ok hnt fun K hK=>?_
        refine And.intro (VLe.of_eq (by by_cases h:re=0 <;> simp[h])) ?_;refine dcl (hm7) ?_;refine hK _ _ ?_;clear hK K;refine dw_seq ?_;refine dwk [] TAUE_ok hnt fun K hK=>?_;refine dcl (hRt) ?_;refine dcl (hm8) ?_;refine hK _ _ ?_;clear hK K;refine dw_seq ?_;refine dw_seq ?_;refine dwk [(114,.v (.bool false))] TAUE_ok hnt fun K hK=>?_;refine And.intro (bneF rfl) ?_;refine hK _ _ ?_;clear hK K
        refine dw_cond (t:=false) rfl ?_;rw[if_neg (by simp)];refine dw_skip ?_;refine dw_seq ?_;refine dwk [] TAUE_ok hnt fun _ z9=>z9 _ _ ?_;refine dw_ret ?_
        exact reta rfl
       ·rw[if_pos h8] at hO
        obtain⟨rfl,rfl⟩:=Prod.mk.inj hO
        refine dw_seq ?_;refine dw_seq ?_;refine dwk [(91,.v (.bool false))] TAUE_ok hnt fun K hK=>?_;refine And.intro (bneF h6) ?_;refine hK _ _ ?_;clear hK K;refine dw_cond (t:=false) rfl ?_;rw[if_neg (by simp)];refine dw_skip ?_;refine dw_seq ?_;refine dwk [] TAUE_ok hnt fun K hK=>?_;refine dcl (hRe) ?_;refine hK _ _ ?_;clear hK K;refine dw_seq ?_;refine dwk [(103,.v (.bool (decide (re=0))))] TAUE_ok hnt fun K hK=>?_
        refine And.intro (VLe.of_eq (by by_cases h:re=0 <;> simp[h])) ?_;refine dcl (hm7) ?_;refine hK _ _ ?_;clear hK K;refine dw_seq ?_;refine dwk [] TAUE_ok hnt fun K hK=>?_;refine dcl (hRt) ?_;refine dcl (hm8) ?_;refine hK _ _ ?_;clear hK K;refine dw_seq ?_;refine dw_seq ?_;refine dwk [(114,.v (.bool true))] TAUE_ok hnt fun K hK=>?_;refine And.intro (bneT h8) ?_;refine hK _ _ ?_;clear hK K
        refine dw_cond (t:=true) rfl ?_;rw[if_pos rfl];refine dw_seq ?_;refine dwk [] TAUE_ok hnt fun _ z9=>z9 _ _ ?_;refine dw_ret ?_
        exact reta rfl
      ·rw[if_pos h6] at hO
       obtain⟨rfl,rfl⟩:=Prod.mk.inj hO
       refine dw_seq ?_;refine dw_seq ?_;refine dwk [(91,.v (.bool true))] TAUE_ok hnt fun K hK=>?_;refine And.intro (bneT h6) ?_;refine hK _ _ ?_;clear hK K;refine dw_cond (t:=true) rfl ?_;rw[if_pos rfl];refine dw_seq ?_;refine dwk [] TAUE_ok hnt fun _ z9=>z9 _ _ ?_;refine dw_ret ?_
       exact reta rfl
    ·rw[if_pos hz] at hO
     obtain⟨rfl,rfl⟩:=Prod.mk.inj hO
     refine dw_seq ?_;refine dw_seq ?_;refine dwk [(47,.v (.bool true))] TAUE_ok hnt fun K hK=>?_;refine And.intro (bneT hz) ?_;refine hK _ _ ?_;clear hK K;refine dw_cond (t:=true) rfl ?_;rw[if_pos rfl];refine dw_seq ?_;refine dwk [] TAUE_ok hnt fun _ z9=>z9 _ _ ?_;refine dw_ret ?_
     exact reta rfl
def TAUF_62:TI:=⟨4,true,[Value.slice none 0 0,Value.int IntKind.i64 0,Value.int IntKind.i64 0,Value.slice none 0 0],[(0,1,false),(1,2,true),(3,1,false)],none,64,6,none,false⟩
theorem TAUF_62_ok:TypOk Tryz.prog 62 TAUF_62:=by constructor <;> kernel_rfl
def TAUF_86:TI:=⟨4,true,[Value.int IntKind.i64 0,Value.bool false,Value.slice none 0 0,Value.slice none 0 0],[(0,1,false),(1,1,false),(2,1,false),(3,1,false)],none,64,6,none,false⟩
theorem TAUF_86_ok:TypOk Tryz.prog 86 TAUF_86:=by constructor <;> kernel_rfl
def TAUF_78:TI:=⟨1,false,[Value.slice none 0 0],[],some 86,24,5,none,false⟩
theorem TAUF_78_ok:TypOk Tryz.prog 78 TAUF_78:=by constructor <;> kernel_rfl
def TAUF_43:TI:=⟨3,true,[Value.int IntKind.i64 0,Value.slice none 0 0,Value.slice none 0 0],[(0,1,false),(1,1,false),(2,1,false)],none,56,6,none,false⟩
theorem TAUF_43_ok:TypOk Tryz.prog 43 TAUF_43:=by constructor <;> kernel_rfl
def TAUF_140:TI:=⟨5,true,[Value.int IntKind.i64 0,Value.slice none 0 0,Value.slice none 0 0,Value.slice none 0 0,Value.int IntKind.i64 0],[(0,3,true),(3,1,false),(4,1,false)],none,88,6,none,false⟩
theorem TAUF_140_ok:TypOk Tryz.prog 140 TAUF_140:=by constructor <;> kernel_rfl
def TAUF_50:TI:=⟨1,false,[Value.int IntKind.i64 0],[],none,8,2,none,false⟩
theorem TAUF_50_ok:TypOk Tryz.prog 50 TAUF_50:=by constructor <;> kernel_rfl
def TAUF_3:TI:=⟨1,false,[Value.int IntKind.i64 0],[],none,8,2,none,false⟩
theorem TAUF_3_ok:TypOk Tryz.prog 3 TAUF_3:=by constructor <;> kernel_rfl
def TAUF_138:TI:=⟨1,false,[Value.pointer none],[],none,8,4,none,false⟩
theorem TAUF_138_ok:TypOk Tryz.prog 138 TAUF_138:=by constructor <;> kernel_rfl
def TAUF_34:TI:=⟨1,false,[Value.slice none 0 0],[],some 64,24,5,none,false⟩
theorem TAUF_34_ok:TypOk Tryz.prog 34 TAUF_34:=by constructor <;> kernel_rfl
def TAUF_41:TI:=⟨1,false,[Value.slice none 0 0],[],some 106,24,5,none,false⟩
theorem TAUF_41_ok:TypOk Tryz.prog 41 TAUF_41:=by constructor <;> kernel_rfl
def TAUF_206:TI:=⟨1,false,[Value.nilFunc],[],none,8,8,none,false⟩
theorem TAUF_206_ok:TypOk Tryz.prog 206 TAUF_206:=by constructor <;> kernel_rfl
def TAUF_106:TI:=⟨2,true,[Value.slice none 0 0,Value.int IntKind.i64 0],[(0,1,false),(1,1,false)],none,32,6,none,false⟩
theorem TAUF_106_ok:TypOk Tryz.prog 106 TAUF_106:=by constructor <;> kernel_rfl
def TAUF_64:TI:=⟨9,true,[Value.slice none 0 0,Value.int IntKind.i64 0,Value.int IntKind.i64 0,Value.slice none 0 0,Value.slice none 0 0,Value.int IntKind.i64 0,Value.int IntKind.i64 0,Value.slice none 0 0,Value.slice none 0 0],[(0,4,true),(4,4,true),(8,1,false)],none,152,6,none,false⟩
theorem TAUF_64_ok:TypOk Tryz.prog 64 TAUF_64:=by constructor <;> kernel_rfl
def TAUF:List (Nat×TI):=[(62,TAUF_62),(86,TAUF_86),(78,TAUF_78),(43,TAUF_43),(140,TAUF_140),(50,TAUF_50),(3,TAUF_3),(138,TAUF_138),(34,TAUF_34),(41,TAUF_41),(206,TAUF_206),(106,TAUF_106),(64,TAUF_64)]
theorem TAUF_ok:TabOk Tryz.prog TAUF:=((((((((((((((TabOk.nil _).cons TAUF_64_ok).cons TAUF_106_ok).cons TAUF_206_ok).cons TAUF_41_ok).cons TAUF_34_ok).cons TAUF_138_ok).cons TAUF_3_ok).cons TAUF_50_ok).cons TAUF_140_ok).cons TAUF_43_ok).cons TAUF_78_ok).cons TAUF_86_ok).cons TAUF_62_ok)
def eSts (l:List Au.St):List (List D):=l.map eSt
theorem eSts_len (l:List Au.St):(eSts l).length=l.length:=List.length_map ..
theorem eSts_getD (l:List Au.St)(i:Nat)(h:i<l.length):(eSts l).getD i []=eSt l[i]:=by
 rw[eSts,List.getD_eq_getElem?_getD,List.getElem?_map,List.getElem?_eq_getElem h];rfl
@[simp] theorem eSts_ok (f g:Nat→Bool) (l:List Au.St):D.okss f g (eSts l)=true:=D.okss_map _ l fun l _=>eSt_ok f g l
namespace Au
theorem replP_bnd {B:Nat}:∀ (p:List Int) (t b o:Tm),replP p t b=some o→Bnd B t→Bnd B b→Bnd B o
 | [],t,b,o,h,h1,h2=>by
  rw[replP] at h
  cases h
  obtain⟨tb,tk,ti,ta⟩:=t
  obtain⟨bb,bk,bi,ba⟩:=b
  exact .mk _ _ _ _ h1.inv.1 h2.inv.2.1 h2.inv.2.2
 | j :: p,t,b,o,h,g1,g2=>by
  rw[replP] at h
  by_cases hj:0≤j∧j<(t.args.length:Int)
  ·rw[if_pos hj] at h
   cases hr:replP p (t.args.getD j.toNat Tm.zero) b with
   | none=>rw[hr] at h;cases h
   | some x=>
    rw[hr] at h
    have h:=Option.some.inj h
    have hn:j.toNat<t.args.length:=by omega
    rw[List.getD_eq_getElem?_getD,List.getElem?_eq_getElem hn,Option.getD_some] at hr
    have h3:=replP_bnd (B:=B) p _ b x hr
    obtain⟨tb,tk,ti,ta⟩:=t
    subst h
    refine .mk _ _ _ _ g1.inv.1 g1.inv.2.1 fun u hu=>?_
    rcases List.mem_or_eq_of_mem_set hu with hu | rfl
    ·exact g1.inv.2.2 u hu
    ·exact h3 (g1.inv.2.2 _ (List.getElem_mem hn)) g2
  ·rw[if_neg hj] at h;cases h
theorem repl_bnd {B:Nat}{t b:Tm}{p:List Int}(h1:Bnd B t)(h2:Bnd B b):Bnd B (repl t b p).1:=by
 unfold repl
 by_cases hb:b.binds≠[]
 ·rw[if_pos hb];exact Bnd.tz
 ·rw[if_neg hb]
  cases hx:replP p t b with
  | none=>exact Bnd.tz
  | some o=>exact replP_bnd p t b o hx h1 h2
def TOk (t:Tm):Prop:=t.size≤5000∧Bnd 150 t∧t.full≤760000
theorem TOk.zero:TOk Tm.zero:=⟨by decide,Bnd.tz,by decide⟩
theorem fin_ok {x:St}{t th a b:Tm}{e:Int}(ht:TOk t)(hb:Bnd 150 b):TOk (fin x t th a b e).1:=by
 unfold fin
 by_cases h1:must e (decide (a=Pn.nb th)) 9≠0
 ·rw[if_pos h1];exact TOk.zero
 ·rw[if_neg h1]
  by_cases h2:must (must (must e (decide (a=Pn.nb th)) 9) (decide ((repl t b x.path).2=0)) (repl t b x.path).2) (Li.rt (repl t b x.path).1) 2≠0
  ·rw[if_pos h2];exact TOk.zero
  ·rw[if_neg h2]
   have h3:=(must_0 (by decide) (Decidable.not_not.1 h2)).2
   have h4:(repl t b x.path).1.size≤5000:=(of_decide_eq_true h3).1
   have h5:Bnd 150 (repl t b x.path).1:=repl_bnd ht.2.1 hb
   refine⟨h4,h5,?_⟩
   have h6:=Bnd.full _ h5
   have h7:(repl t b x.path).1.size * (150+1)≤5000 * 151:=Nat.mul_le_mul h4 (by decide)
   show (repl t b x.path).1.full≤760000
   omega
theorem step_ok (code:List Ty→Tm→Ty→Int){eqs:List Li.Pr}{x:St}{r:Tm×Int}(hes:∀ q∈eqs,EqOk q)(hs:∀ q∈x.s,Bnd 150 q.2)(ht:TOk r.1):TOk (step code eqs x r).1:=by
 have hq:Bnd 150 (eqAt eqs x).l∧Bnd 150 (eqAt eqs x).r:=by
  unfold eqAt
  rw[List.getD_eq_getElem?_getD]
  cases hg:eqs[x.eq.toNat]? with
  | none=>exact⟨Bnd.tz,Bnd.tz⟩
  | some q=>exact⟨(hes q (List.mem_of_getElem? hg)).1.2,(hes q (List.mem_of_getElem? hg)).2.1.2⟩
 unfold step
 cases Pn.atP x.path r.1 with
 | none=>exact TOk.zero
 | some y=>
  obtain⟨th,ar⟩:=y
  dsimp only
  by_cases h:must r.2 (decide (0≤x.eq∧x.eq<(eqs.length:Int))) 10≠0
  ·rw[if_pos h];exact TOk.zero
  ·rw[if_neg h]
   refine fin_ok ht (img_bnd hs ?_).1
   cases x.back with
   | true=>exact hq.1
   | false=>exact hq.2
end Au
set_option maxHeartbeats 4000000 in
theorem chain_d (b:Int)(C Mw:List Ty)(eqs:List Li.Pr)(t:Tm)(l:List Au.St)(code:List Ty→Tm→Ty→Int)(hc:∀ X t u,checkCode C Mw t X u (code X t u))(hCl:C.length≤1000000)(hMl:Mw.length≤1000000) 
  (hel:eqs.length≤1000) (hes:∀ q∈eqs,Au.EqOk q) (hl:l.length≤1000) (hx:∀ x∈l,Au.SOk x) (ht:Au.TOk t) :
  CallC Tryz.prog 65 [.p 0 0,.ag (eTm t),.sl 4 (eSts l) none] (Au.ck b C Mw eqs 0) (Au.ck b C Mw eqs (Au.chain code eqs l t).2) (.ag (eTm (Au.chain code eqs l t).1)):=by
 have hCp:=copyW_d t (by have:=ht.2.2;omega) (Bnd.fit _ ht.2.1)
 obtain⟨F,hF⟩:∃ F:Nat→Tm×Int,∀ j,(l.take j).foldl (fun r x=>Au.step code eqs x r) (t,0)=F j:=⟨_,fun _=>rfl⟩
 have hF0:F 0=(t,0):=by rw[←hF];rfl
 have hFn:∀ j (h:j<l.length),F (j+1)=Au.step code eqs l[j] (F j):=fun j h=>by rw[←hF,Au.fold_snoc _ _ _ _ h,hF]
 have hFl:l.foldl (fun r x=>Au.step code eqs x r) (t,0)=F l.length:=by rw[←hF,List.take_length]
 have hFo:∀ j,j≤l.length→Au.TOk (F j).1:=by
  intro j
  induction j with
  | zero=>intro _;rw[hF0];exact ht
  | succ j ih=>
   intro h
   rw[hFn j h]
   exact Au.step_ok code hes (fun q hq=>Bnd.of_full q.2 ((hx _ (List.getElem_mem h)).2.1 q hq).1 ((hx _ (List.getElem_mem h)).2.1 q hq).2) (ih (by omega))
 have hSt:∀ j (h:j<l.length),CallC Tryz.prog 97 [.p 0 0,.ag (eTm (F j).1),.ag (eSt l[j])] (Au.ck b C Mw eqs (F j).2) (Au.ck b C Mw eqs (F (j+1)).2) (.ag (eTm (F (j+1)).1)):=fun j h=>by
  rw[hFn j h]
  exact step_d b C Mw eqs (F j).2 (F j).1 l[j] code hc hCl hMl hel hes (hx _ (List.getElem_mem h)) (hFo j (by omega))
 have hch:Au.chain code eqs l t=if (F l.length).2≠0 then (Tm.zero,(F l.length).2) else F l.length:=by unfold Au.chain;rw[hFl]
 rw[hch]
 obtain⟨T,hT⟩:∃ T:Nat→Tm,∀ j,(F j).1=T j:=⟨_,fun _=>rfl⟩
 obtain⟨E,hE⟩:∃ E:Nat→Int,∀ j,(F j).2=E j:=⟨_,fun _=>rfl⟩
 have hT0:T 0=t:=by rw[←hT,hF0]
 have hE0:E 0=0:=by rw[←hE,hF0]
 have hFe:F l.length=(T l.length,E l.length):=by rw[←hT,←hE]
 rw[hFe]
 dsimp only
 simp only[hT,hE] at hSt
 unfold Au.ck eSt at hSt
 unfold Au.ck
 obtain⟨o,hO⟩:∃ o,(if E l.length≠0 then (Tm.zero,E l.length) else (T l.length,E l.length))=o:=⟨_,rfl⟩
 rw[hO]
 simp only[eTm_eq] at hCp hSt
 rw[eTm_eq t,eTm_eq o.1]
 refine calldw 2 29 [ResultVar.cell 6 62] TAUF_ok Tryz.func65 rfl Tryz.ntmps65 rfl fun cx hnt hn0=>?_
 ·skip
  refine dw_seq ?_;refine dwk [] TAUF_ok hnt fun _ z9=>z9 _ _ ?_;refine dw_seq ?_;refine dwk [] TAUF_ok hnt fun K hK=>?_;refine dcl (hCp) ?_;refine hK _ _ ?_;clear hK K;refine dw_seq ?_;refine dw_seq ?_;refine dwk [(12,.v (.int .i64 (↑l.length)))] TAUF_ok hnt fun K hK=>?_;refine And.intro (dintE (by rw[eSts_len])) ?_;refine hK _ _ ?_;clear hK K
  rw[←hT0]
  refine dw_block ?_
  refine dw_loop (ι:={ j:Nat // j≤l.length }) (fun j=>[(.t 0,.p 0 0),(.t 4,.p 2 0),(.t 6,.p 3 0),(.t 11,.sl 4 (eSts l) none),(.t 12,.v (.int .i64 ↑l.length)),(.t 13,.v (.int .i64 ↑j.1)),(.c 2 0,.sl 2 (eTys (T j.1).binds) none),(.c 2 1,.v (.int .i64 (T j.1).kind)),(.c 2 2,.v (.int .i64 (T j.1).index)),(.c 2 3,.sl 4 (eTms (T j.1).args) none),(.c 3 0,.v (.slice none 0 0)),(.c 3 1,.v (.int .i64 0)),(.c 3 2,.v (.int .i64 0)),(.c 3 3,.v (.slice none 0 0)),(.c 0 0,.v (.int .i64 b)),(.c 0 1,.sl 2 (eTys C) none),(.c 0 2,.sl 2 (eTys Mw) none),(.c 0 3,.sl 9 (ePrs eqs) none),(.c 0 4,.v (.int .i64 (E j.1)))]) 20 (fun j=>l.length-j.1) (⟨0,Nat.zero_le _⟩) ((by try simp only[List.length_append,List.length_take,List.length_cons,List.length_nil,Nat.zero_add,hE0];exact VS.toA)) fun j=>?_
  obtain⟨j,hj⟩:=j
  dsimp only
  by_cases hlt:j<l.length
  ·have hs:=hSt j hlt
   refine dw_seq ?_;refine dwk [(14,.v (.bool true))] TAUF_ok hnt fun K hK=>?_;refine And.intro auT ?_;refine hK _ _ ?_;clear hK K;refine dw_seq ?_;refine dw_cond (t:=true) rfl ?_;rw[if_pos rfl];refine dw_skip ?_;refine dw_seq ?_;refine dw_block ?_;refine dw_seq ?_;refine dwk [(15,.q [.v (.int .i64 l[j].eq),.v (.bool l[j].back),.sl 1 (eIs l[j].path) none,.sl 5 (ePairs l[j].s) none])] TAUF_ok hnt fun K hK=>?_
   refine And.intro (⟨by omega,by rw[eSts_len];omega⟩) ?_;refine And.intro (VLe.of_eq (by rw[Int.toNat_natCast,eSts_getD l j hlt];rfl)) ?_;refine hK _ _ ?_;clear hK K;refine dwk [] TAUF_ok hnt fun K hK=>?_;refine dcl (hs) ?_;refine hK _ _ ?_;clear hK K;refine dwk [(21,.v (.int .i64 (↑(j+1))))] TAUF_ok hnt fun K hK=>?_;refine And.intro auI ?_;refine hK _ _ ?_;clear hK K
   refine⟨⟨j+1,hlt⟩,by first | omega | (dsimp only;omega),VS.toA⟩
  ·have hje:j=l.length:=by omega
   subst hje
   refine dw_seq ?_;refine dwk [(14,.v (.bool false))] TAUF_ok hnt fun K hK=>?_;refine And.intro auF ?_;refine hK _ _ ?_;clear hK K;refine dw_seq ?_;refine dw_cond (t:=false) rfl ?_;rw[if_neg (by simp)]
   by_cases hz:E l.length=0
   ·rw[if_neg (fun h=>h hz)] at hO
    subst hO
    refine dw_exit ?_;refine dw_seq ?_;refine dw_seq ?_;refine dwk [(26,.v (.bool false))] TAUF_ok hnt fun K hK=>?_;refine And.intro (bneF hz) ?_;refine hK _ _ ?_;clear hK K;refine dw_cond (t:=false) rfl ?_;rw[if_neg (by simp)];refine dw_skip ?_;refine dw_seq ?_;refine dwk [] TAUF_ok hnt fun _ z9=>z9 _ _ ?_;refine dw_ret ?_
    exact reta rfl
   ·rw[if_pos hz] at hO
    subst hO
    refine dw_exit ?_;refine dw_seq ?_;refine dw_seq ?_;refine dwk [(26,.v (.bool true))] TAUF_ok hnt fun K hK=>?_;refine And.intro (bneT hz) ?_;refine hK _ _ ?_;clear hK K;refine dw_cond (t:=true) rfl ?_;rw[if_pos rfl];refine dw_seq ?_;refine dwk [] TAUF_ok hnt fun _ z9=>z9 _ _ ?_;refine dw_ret ?_
    exact reta rfl
def TAUQ_56:TI:=⟨1,false,[Value.slice none 0 0],[],some 74,24,5,none,false⟩
theorem TAUQ_56_ok:TypOk Tryz.prog 56 TAUQ_56:=by constructor <;> kernel_rfl
def TAUQ_3:TI:=⟨1,false,[Value.int IntKind.i64 0],[],none,8,2,none,false⟩
theorem TAUQ_3_ok:TypOk Tryz.prog 3 TAUQ_3:=by constructor <;> kernel_rfl
def TAUQ_74:TI:=⟨4,true,[Value.int IntKind.i64 0,Value.bool false,Value.slice none 0 0,Value.slice none 0 0],[(0,1,false),(1,1,false),(2,1,false),(3,1,false)],none,64,6,none,false⟩
theorem TAUQ_74_ok:TypOk Tryz.prog 74 TAUQ_74:=by constructor <;> kernel_rfl
def TAUQ_72:TI:=⟨1,false,[Value.slice none 0 0],[],some 130,24,5,none,false⟩
theorem TAUQ_72_ok:TypOk Tryz.prog 72 TAUQ_72:=by constructor <;> kernel_rfl
def TAUQ_71:TI:=⟨1,false,[Value.slice none 0 0],[],some 3,24,5,none,false⟩
theorem TAUQ_71_ok:TypOk Tryz.prog 71 TAUQ_71:=by constructor <;> kernel_rfl
def TAUQ_78:TI:=⟨1,false,[Value.slice none 0 0],[],some 86,24,5,none,false⟩
theorem TAUQ_78_ok:TypOk Tryz.prog 78 TAUQ_78:=by constructor <;> kernel_rfl
def TAUQ_4:TI:=⟨1,false,[Value.bool false],[],none,1,1,none,false⟩
theorem TAUQ_4_ok:TypOk Tryz.prog 4 TAUQ_4:=by constructor <;> kernel_rfl
def TAUQ_86:TI:=⟨4,true,[Value.int IntKind.i64 0,Value.bool false,Value.slice none 0 0,Value.slice none 0 0],[(0,1,false),(1,1,false),(2,1,false),(3,1,false)],none,64,6,none,false⟩
theorem TAUQ_86_ok:TypOk Tryz.prog 86 TAUQ_86:=by constructor <;> kernel_rfl
def TAUQ_130:TI:=⟨5,true,[Value.int IntKind.i64 0,Value.slice none 0 0,Value.int IntKind.i64 0,Value.int IntKind.i64 0,Value.slice none 0 0],[(0,1,false),(1,4,true)],none,72,6,none,false⟩
theorem TAUQ_130_ok:TypOk Tryz.prog 130 TAUQ_130:=by constructor <;> kernel_rfl
def TAUQ:List (Nat×TI):=[(56,TAUQ_56),(3,TAUQ_3),(74,TAUQ_74),(72,TAUQ_72),(71,TAUQ_71),(78,TAUQ_78),(4,TAUQ_4),(86,TAUQ_86),(130,TAUQ_130)]
theorem TAUQ_ok:TabOk Tryz.prog TAUQ:=((((((((((TabOk.nil _).cons TAUQ_130_ok).cons TAUQ_86_ok).cons TAUQ_4_ok).cons TAUQ_78_ok).cons TAUQ_71_ok).cons TAUQ_72_ok).cons TAUQ_74_ok).cons TAUQ_3_ok).cons TAUQ_56_ok)
namespace Au
def okS (x:St):Bool:=few9 x.s&&decide (x.path.length≤100)
end Au
theorem fewSteps_d (l:List Au.St)(hl:l.length≤9223372036854775807)(hs:∀ x∈l,x.s.length≤9223372036854775807∧(∀ p∈x.s.take 10,fewB p.2=true→Wide p.2))(hp:∀ x∈l,x.path.length≤9223372036854775807):PureC Tryz.prog 24 [.sl 4 (eSts l) none] (.v (.bool ((l.take 8).all Au.okS))):=by
 obtain⟨B,hB⟩:∃ B,(l.take 8).all Au.okS=B:=⟨_,rfl⟩
 rw[hB]
 have hm:∀ i (h:i<l.length),i<8→l[i]∈l.take 8:=fun i h h8=>by
  rw[List.mem_iff_getElem]
  exact⟨i,by rw[List.length_take];omega,by rw[List.getElem_take]⟩
 have hbad:∀ i (h:i<l.length),i<8→Au.okS l[i]=false→B=false:=fun i h h8 hf=>by
  rw[←hB,List.all_eq_false]
  exact⟨l[i],hm i h h8,by rw[hf];simp⟩
 have hgood:(∀ i (h:i<l.length),i<8→Au.okS l[i]=true)→B=true:=fun h=>by
  rw[←hB,List.all_eq_true]
  intro x hx
  obtain⟨i,hi,rfl⟩:=List.getElem_of_mem hx
  rw[List.getElem_take]
  rw[List.length_take] at hi
  exact h i (by omega) (by omega)
 refine calldw 0 30 [ResultVar.tmp 2] TAUQ_ok Tryz.func24 rfl Tryz.ntmps24 rfl fun cx hnt hn0=>?_
 ·skip
  refine dw_seq ?_;refine dwk [] TAUQ_ok hnt fun _ z9=>z9 _ _ ?_;refine dw_seq ?_;refine dw_seq ?_;refine dwk [] TAUQ_ok hnt fun _ z9=>z9 _ _ ?_;refine dw_block ?_
  refine dw_loop (ι:={ j:Nat // j≤l.length∧∀ i (h:i<l.length),i<8→i<j→Au.okS l[i]=true }) (fun j=>[(.t 0,.sl 4 (eSts l) none),(.t 3,.v (.int .i64 ↑j.1))]) 1 (fun j=>l.length-j.1) (⟨0,Nat.zero_le _,fun i h h8 h2=>by omega⟩) (VS.toA) fun j=>?_
  obtain⟨j,hj,hjo⟩:=j
  dsimp only
  by_cases hlt:j<l.length
  ·by_cases h8:j<8
   ·obtain⟨x,hx⟩:∃ x,l[j]=x:=⟨_,rfl⟩
    have hgd:(eSts l).getD j []=[.v (.int .i64 x.eq),.v (.bool x.back),.sl 1 (eIs x.path) none,.sl 5 (ePairs x.s) none]:=by rw[eSts_getD l j hlt,hx];rfl
    have hxs:=hs x (hx ▸ List.getElem_mem hlt)
    have hf:=few9_d x.s hxs.1 hxs.2
    have hpl:=hp x (hx ▸ List.getElem_mem hlt)
    cases h1:few9 x.s with
    | false=>
     rw[h1] at hf
     rw[hbad j hlt h8 (by rw[hx,Au.okS,h1];rfl)]
     refine dw_seq ?_;refine dw_seq ?_;refine dwk [(6,.v (.int .i64 (↑l.length))),(7,.v (.bool true)),(10,.v (.bool true))] TAUQ_ok hnt fun K hK=>?_;refine And.intro (dintE (by rw[eSts_len])) ?_;refine And.intro (dtrue (by omega)) ?_;refine And.intro (dtrue (by omega)) ?_;refine hK _ _ ?_;clear hK K;refine dw_cond (t:=true) rfl ?_;rw[if_pos rfl];refine dw_skip ?_;refine dw_seq ?_;refine dw_block ?_
     refine dw_seq ?_;refine dwk [(16,.q [.v (.int .i64 x.eq),.v (.bool x.back),.sl 1 (eIs x.path) none,.sl 5 (ePairs x.s) none])] TAUQ_ok hnt fun K hK=>?_;refine And.intro (⟨by omega,by rw[eSts_len];omega⟩) ?_;refine And.intro (VLe.of_eq (by rw[Int.toNat_natCast,hgd])) ?_;refine dcl (hf) ?_;refine hK _ _ ?_;clear hK K;refine dw_cond (t:=true) rfl ?_;rw[if_pos rfl];refine dw_seq ?_
     refine dwk [] TAUQ_ok hnt fun _ z9=>z9 _ _ ?_;refine dw_ret ?_
     exact reta rfl
    | true=>
     rw[h1] at hf
     by_cases h2:x.path.length≤100
     ·skip
      refine dw_seq ?_;refine dw_seq ?_;refine dwk [(6,.v (.int .i64 (↑l.length))),(7,.v (.bool true)),(10,.v (.bool true))] TAUQ_ok hnt fun K hK=>?_;refine And.intro (dintE (by rw[eSts_len])) ?_;refine And.intro (dtrue (by omega)) ?_;refine And.intro (dtrue (by omega)) ?_;refine hK _ _ ?_;clear hK K;refine dw_cond (t:=true) rfl ?_;rw[if_pos rfl];refine dw_skip ?_;refine dw_seq ?_;refine dw_block ?_
      refine dw_seq ?_;refine dwk [(16,.q [.v (.int .i64 x.eq),.v (.bool x.back),.sl 1 (eIs x.path) none,.sl 5 (ePairs x.s) none]),(24,.q [.v (.int .i64 x.eq),.v (.bool x.back),.sl 1 (eIs x.path) none,.sl 5 (ePairs x.s) none]),(27,.v (.int .i64 (↑x.path.length))),(28,.v (.bool false))] TAUQ_ok hnt fun K hK=>?_;refine And.intro (⟨by omega,by rw[eSts_len];omega⟩) ?_;refine And.intro (VLe.of_eq (by rw[Int.toNat_natCast,hgd])) ?_
      refine dcl (hf) ?_;refine And.intro (⟨by omega,by rw[eSts_len];omega⟩) ?_;refine And.intro (VLe.of_eq (by rw[Int.toNat_natCast,hgd])) ?_;refine And.intro (dintE (by rw[eIs_len])) ?_;refine And.intro (dfalse (by omega)) ?_;refine hK _ _ ?_;clear hK K;refine dw_cond (t:=false) rfl ?_;rw[if_neg (by simp)];refine dw_skip ?_;refine dwk [(13,.v (.int .i64 (↑(j+1))))] TAUQ_ok hnt fun K hK=>?_
      refine And.intro auI ?_;refine hK _ _ ?_;clear hK K
      refine⟨⟨j+1,hlt,fun i h h8 h3=>if hij:i=j then by subst hij;rw[hx,Au.okS,h1,decide_eq_true h2];rfl else hjo i h h8 (by omega)⟩,by first | omega | (dsimp only;omega),VS.toA⟩
     ·rw[hbad j hlt h8 (by rw[hx,Au.okS,h1,decide_eq_false h2];rfl)]
      refine dw_seq ?_;refine dw_seq ?_;refine dwk [(6,.v (.int .i64 (↑l.length))),(7,.v (.bool true)),(10,.v (.bool true))] TAUQ_ok hnt fun K hK=>?_;refine And.intro (dintE (by rw[eSts_len])) ?_;refine And.intro (dtrue (by omega)) ?_;refine And.intro (dtrue (by omega)) ?_;refine hK _ _ ?_;clear hK K;refine dw_cond (t:=true) rfl ?_;rw[if_pos rfl];refine dw_skip ?_;refine dw_seq ?_;refine dw_block ?_
      refine dw_seq ?_;refine dwk [(16,.q [.v (.int .i64 x.eq),.v (.bool x.back),.sl 1 (eIs x.path) none,.sl 5 (ePairs x.s) none]),(24,.q [.v (.int .i64 x.eq),.v (.bool x.back),.sl 1 (eIs x.path) none,.sl 5 (ePairs x.s) none]),(27,.v (.int .i64 (↑x.path.length))),(28,.v (.bool true))] TAUQ_ok hnt fun K hK=>?_;refine And.intro (⟨by omega,by rw[eSts_len];omega⟩) ?_;refine And.intro (VLe.of_eq (by rw[Int.toNat_natCast,hgd])) ?_
      refine dcl (hf) ?_;refine And.intro (⟨by omega,by rw[eSts_len];omega⟩) ?_;refine And.intro (VLe.of_eq (by rw[Int.toNat_natCast,hgd])) ?_;refine And.intro (dintE (by rw[eIs_len])) ?_;refine And.intro (dtrue (by omega)) ?_;refine hK _ _ ?_;clear hK K;refine dw_cond (t:=true) rfl ?_;rw[if_pos rfl];refine dw_seq ?_;refine dwk [] TAUQ_ok hnt fun _ z9=>z9 _ _ ?_
      refine dw_ret ?_
      exact reta rfl
   ·rw[hgood fun i h hi8=>hjo i h hi8 (by omega)]
    refine dw_seq ?_;refine dw_seq ?_;refine dwk [(6,.v (.int .i64 (↑l.length))),(7,.v (.bool true)),(10,.v (.bool false))] TAUQ_ok hnt fun K hK=>?_;refine And.intro (dintE (by rw[eSts_len])) ?_;refine And.intro (dtrue (by omega)) ?_;refine And.intro (dfalse (by omega)) ?_;refine hK _ _ ?_;clear hK K;refine dw_cond (t:=false) rfl ?_;rw[if_neg (by simp)];refine dw_exit ?_;refine dw_seq ?_
    refine dwk [] TAUQ_ok hnt fun _ z9=>z9 _ _ ?_;refine dw_ret ?_
    exact reta rfl
  ·rw[hgood fun i h hi8=>hjo i h hi8 (by omega)]
   refine dw_seq ?_;refine dw_seq ?_;refine dwk [(6,.v (.int .i64 (↑l.length))),(7,.v (.bool false))] TAUQ_ok hnt fun K hK=>?_;refine And.intro (dintE (by rw[eSts_len])) ?_;refine And.intro (dfalse (by omega)) ?_;refine hK _ _ ?_;clear hK K;refine dw_cond (t:=false) rfl ?_;rw[if_neg (by simp)];refine dw_exit ?_;refine dw_seq ?_;refine dwk [] TAUQ_ok hnt fun _ z9=>z9 _ _ ?_
   refine dw_ret ?_
   exact reta rfl
def TAUR_56:TI:=⟨1,false,[Value.slice none 0 0],[],some 74,24,5,none,false⟩
theorem TAUR_56_ok:TypOk Tryz.prog 56 TAUR_56:=by constructor <;> kernel_rfl
def TAUR_74:TI:=⟨4,true,[Value.int IntKind.i64 0,Value.bool false,Value.slice none 0 0,Value.slice none 0 0],[(0,1,false),(1,1,false),(2,1,false),(3,1,false)],none,64,6,none,false⟩
theorem TAUR_74_ok:TypOk Tryz.prog 74 TAUR_74:=by constructor <;> kernel_rfl
def TAUR_3:TI:=⟨1,false,[Value.int IntKind.i64 0],[],none,8,2,none,false⟩
theorem TAUR_3_ok:TypOk Tryz.prog 3 TAUR_3:=by constructor <;> kernel_rfl
def TAUR_78:TI:=⟨1,false,[Value.slice none 0 0],[],some 86,24,5,none,false⟩
theorem TAUR_78_ok:TypOk Tryz.prog 78 TAUR_78:=by constructor <;> kernel_rfl
def TAUR_72:TI:=⟨1,false,[Value.slice none 0 0],[],some 130,24,5,none,false⟩
theorem TAUR_72_ok:TypOk Tryz.prog 72 TAUR_72:=by constructor <;> kernel_rfl
def TAUR_4:TI:=⟨1,false,[Value.bool false],[],none,1,1,none,false⟩
theorem TAUR_4_ok:TypOk Tryz.prog 4 TAUR_4:=by constructor <;> kernel_rfl
def TAUR_71:TI:=⟨1,false,[Value.slice none 0 0],[],some 3,24,5,none,false⟩
theorem TAUR_71_ok:TypOk Tryz.prog 71 TAUR_71:=by constructor <;> kernel_rfl
def TAUR_86:TI:=⟨4,true,[Value.int IntKind.i64 0,Value.bool false,Value.slice none 0 0,Value.slice none 0 0],[(0,1,false),(1,1,false),(2,1,false),(3,1,false)],none,64,6,none,false⟩
theorem TAUR_86_ok:TypOk Tryz.prog 86 TAUR_86:=by constructor <;> kernel_rfl
def TAUR_130:TI:=⟨5,true,[Value.int IntKind.i64 0,Value.slice none 0 0,Value.int IntKind.i64 0,Value.int IntKind.i64 0,Value.slice none 0 0],[(0,1,false),(1,4,true)],none,72,6,none,false⟩
theorem TAUR_130_ok:TypOk Tryz.prog 130 TAUR_130:=by constructor <;> kernel_rfl
def TAUR:List (Nat×TI):=[(56,TAUR_56),(74,TAUR_74),(3,TAUR_3),(78,TAUR_78),(72,TAUR_72),(4,TAUR_4),(71,TAUR_71),(86,TAUR_86),(130,TAUR_130)]
theorem TAUR_ok:TabOk Tryz.prog TAUR:=((((((((((TabOk.nil _).cons TAUR_130_ok).cons TAUR_86_ok).cons TAUR_71_ok).cons TAUR_4_ok).cons TAUR_72_ok).cons TAUR_78_ok).cons TAUR_3_ok).cons TAUR_74_ok).cons TAUR_56_ok)
namespace Au
def cut (x:St):St:=⟨x.eq,x.back,x.path,x.s.take 10⟩
end Au
theorem eSts_snoc (l:List Au.St)(x:Au.St):eSts l++[[.v (.int .i64 x.eq),.v (.bool x.back),.sl 1 (eIs x.path) none,.sl 5 (ePairs x.s) none]]=eSts (l++[x]):=by
 rw[eSts,eSts,List.map_append,List.map_cons,List.map_nil];rfl
set_option maxHeartbeats 4000000 in
theorem steps_d (l:List Au.St)(hl:l.length≤9223372036854775807)(hs:∀ x∈l.take 8,x.s.length≤9223372036854775807∧(∀ p∈x.s.take 10,p.2.full≤900000)):PureC Tryz.prog 25 [.sl 4 (eSts l) none] (.sl 4 (eSts ((l.take 8).map Au.cut)) none):=by
 have hm:∀ i (h:i<l.length),i<8→l[i]∈l.take 8:=fun i h h8=>by
  rw[List.mem_iff_getElem]
  exact⟨i,by rw[List.length_take];omega,by rw[List.getElem_take]⟩
 obtain⟨O,hO⟩:∃ O:Nat→List Au.St,∀ j,(l.take j).map Au.cut=O j:=⟨_,fun _=>rfl⟩
 have hO0:O 0=[]:=by rw[←hO];rfl
 have hOn:∀ j (h:j<l.length),O j++[Au.cut l[j]]=O (j+1):=fun j h=>by rw[←hO,←hO,List.take_add_one,List.getElem?_eq_getElem h,List.map_append];rfl
 have hOl:∀ j,j≤l.length→(O j).length=j:=fun j h=>by rw[←hO,List.length_map,List.length_take];omega
 refine calldw 0 41 [ResultVar.tmp 2] TAUR_ok Tryz.func25 rfl Tryz.ntmps25 rfl fun cx hnt hn0=>?_
 ·skip
  refine dw_seq ?_;refine dwk [] TAUR_ok hnt fun _ z9=>z9 _ _ ?_;refine dw_seq ?_;refine dwk [] TAUR_ok hnt fun _ z9=>z9 _ _ ?_
  refine DW.vs (VS.rowT (x:=3) (by rw[hnt];decide) 86 4 rfl) ?_
  refine dw_seq ?_;refine dw_seq ?_;refine dwk [] TAUR_ok hnt fun _ z9=>z9 _ _ ?_;refine dw_block ?_
  refine dw_loop (ι:={ j:Nat // j≤l.length∧j≤8 }) (fun j=>[(.t 0,.sl 4 (eSts l) none),(.t 3,.sl 4 (eSts (O j.1)) (some 2)),(.r 2,.rw 86 4 (O j.1).length),(.t 4,.v (.int .i64 ↑j.1))]) 20 (fun j=>l.length-j.1) (⟨0,Nat.zero_le _,Nat.zero_le _⟩) ((by dsimp only;rw[hO0];exact VS.toA)) fun j=>?_
  obtain⟨j,hj,hj8⟩:=j
  dsimp only
  by_cases hlt:j<l.length
  ·by_cases h8:j<8
   ·obtain⟨x,hx⟩:∃ x,l[j]=x:=⟨_,rfl⟩
    have hgd:(eSts l).getD j []=[.v (.int .i64 x.eq),.v (.bool x.back),.sl 1 (eIs x.path) none,.sl 5 (ePairs x.s) none]:=by rw[eSts_getD l j hlt,hx];rfl
    have hxs:=hs x (hx ▸ hm j hlt h8)
    have hf:=to9_d x.s hxs.1 hxs.2
    have hsn:=eSts_snoc (O j) (Au.cut x)
    rw[←hx,hOn j hlt,hx] at hsn
    have hsn:eSts (O j)++[[.v (.int .i64 x.eq),.v (.bool x.back),.sl 1 (eIs x.path) none,.sl 5 (ePairs (x.s.take 10)) none]]=eSts (O (j+1)):=hsn
    have hl1:(eSts (O j)).length=(O j).length:=eSts_len _
    have hl3:=hOl j hj
    have hl2:(eSts (O (j+1))).length=(O (j+1)).length:=eSts_len _
    refine dw_seq ?_;refine dw_seq ?_;refine dwk [(7,.v (.int .i64 (↑l.length))),(8,.v (.bool true)),(11,.v (.bool true))] TAUR_ok hnt fun K hK=>?_;refine And.intro (dintE (by rw[eSts_len])) ?_;refine And.intro (dtrue (by omega)) ?_;refine And.intro (dtrue (by omega)) ?_;refine hK _ _ ?_;clear hK K;refine dw_cond (t:=true) rfl ?_;rw[if_pos rfl];refine dw_skip ?_;refine dw_seq ?_;refine dw_block ?_
    refine dwkD [(18,.q [.v (.int .i64 x.eq),.v (.bool x.back),.sl 1 (eIs x.path) none,.sl 5 (ePairs x.s) none]),(23,.q [.v (.int .i64 x.eq),.v (.bool x.back),.sl 1 (eIs x.path) none,.sl 5 (ePairs x.s) none]),(28,.q [.v (.int .i64 x.eq),.v (.bool x.back),.sl 1 (eIs x.path) none,.sl 5 (ePairs x.s) none]),(33,.q [.v (.int .i64 x.eq),.v (.bool x.back),.sl 1 (eIs x.path) none,.sl 5 (ePairs x.s) none])] TAUR_ok hnt fun K hK=>?_
    refine And.intro (⟨by omega,by rw[eSts_len];omega⟩) ?_;refine And.intro (VLe.of_eq (by rw[Int.toNat_natCast,hgd])) ?_;refine And.intro (⟨by omega,by rw[eSts_len];omega⟩) ?_;refine And.intro (VLe.of_eq (by rw[Int.toNat_natCast,hgd])) ?_;refine And.intro (⟨by omega,by rw[eSts_len];omega⟩) ?_;refine And.intro (VLe.of_eq (by rw[Int.toNat_natCast,hgd])) ?_;refine And.intro (⟨by omega,by rw[eSts_len];omega⟩) ?_
    refine And.intro (VLe.of_eq (by rw[Int.toNat_natCast,hgd])) ?_;refine dcl (hf) ?_;refine And.intro (⟨by omega,by rw[hl1];simp;omega⟩) ?_;refine hK _ _ (by kernel_rfl) ?_;clear hK K
    rw[hsn,hl2]
    refine dwk [(14,.v (.int .i64 (↑(j+1))))] TAUR_ok hnt fun K hK=>?_;refine And.intro auI ?_;refine hK _ _ ?_;clear hK K
    refine⟨⟨j+1,hlt,h8⟩,by first | omega | (dsimp only;omega),VS.toA⟩
   ·have h8e:j=8:=by omega
    subst h8e
    rw[hO]
    refine dw_seq ?_;refine dw_seq ?_;refine dwk [(7,.v (.int .i64 (↑l.length))),(8,.v (.bool true)),(11,.v (.bool false))] TAUR_ok hnt fun K hK=>?_;refine And.intro (dintE (by rw[eSts_len])) ?_;refine And.intro (dtrue (by omega)) ?_;refine And.intro (dfalse (by omega)) ?_;refine hK _ _ ?_;clear hK K;refine dw_cond (t:=false) rfl ?_;rw[if_neg (by simp)];refine dw_exit ?_;refine dw_seq ?_
    refine dwk [] TAUR_ok hnt fun _ z9=>z9 _ _ ?_;refine dw_ret ?_
    exact reta rfl
  ·have hje:j=l.length:=by omega
   rw[show l.take 8=l.take j by rw[List.take_of_length_le (by omega),hje,List.take_length],hO]
   refine dw_seq ?_;refine dw_seq ?_;refine dwk [(7,.v (.int .i64 (↑l.length))),(8,.v (.bool false))] TAUR_ok hnt fun K hK=>?_;refine And.intro (dintE (by rw[eSts_len])) ?_;refine And.intro (dfalse (by omega)) ?_;refine hK _ _ ?_;clear hK K;refine dw_cond (t:=false) rfl ?_;rw[if_neg (by simp)];refine dw_exit ?_;refine dw_seq ?_;refine dwk [] TAUR_ok hnt fun _ z9=>z9 _ _ ?_
   refine dw_ret ?_
   exact reta rfl
end Go.Proofs.YtclihnccilkohaaGreat
namespace Go.Proofs.YtclihnccilkohaaGreat
open Go.RowKit Go.ChangeShapes Go.WideShapes Go.ChangeAt
theorem sl_one {α:Type}{r:Rp α}{F:Nat→Prop}{w:World}{v:Value}{l:List α}(h:IsSl r F w v l):v.oneCell'=true:=by
 obtain⟨a,c,bl,off,X,rfl,_⟩:=h;rfl
def rpP17:Rp Li.Pr where
 n:=9
 R:=fun F w x p=>∃ v1 v2 v3 v4 v5 v6 v7 v8 v9,x=[v1,v2,v3,v4,v5,v6,v7,v8,v9]∧IsP17 F w v1 v2 v3 v4 v5 v6 v7 v8 v9 p
 len:=fun⟨_,_,_,_,_,_,_,_,_,e,_⟩=>by rw[e];rfl
 one:=fun⟨b,k,i,a,b',k',i',a',v9,e,h⟩ v hv=>by
  have h1:=rpTm.one (F:=_) (w:=_) (x:=[b,k,i,a]) (a:=_) ⟨b,k,i,a,rfl,h.l⟩
  have h2:=rpTm.one (F:=_) (w:=_) (x:=[b',k',i',a']) (a:=_) ⟨b',k',i',a',rfl,h.r⟩
  rw[e] at hv
  have:v∈[b,k,i,a]∨v∈[b',k',i',a']∨v=v9:=by simpa[or_assoc] using hv
  rcases this with hv | hv | rfl
  ·exact h1 v hv
  ·exact h2 v hv
  ·exact sl_one h.m
 keep:=fun⟨b,k,i,a,b',k',i',a',v9,e,h⟩ hk=>⟨b,k,i,a,b',k',i',a',v9,e,⟨h.l.keep hk,h.r.keep hk,h.m.keep hk⟩⟩
 weaken:=fun⟨b,k,i,a,b',k',i',a',v9,e,h⟩ hf=>⟨b,k,i,a,b',k',i',a',v9,e,⟨h.l.weaken hf,h.r.weaken hf,h.m.weaken (by decide) hf⟩⟩
set_option maxRecDepth 100000 in
theorem rdP17 {H:Type}(enc:TypeId×Value→H)(W:World)(base:Nat)(sp:Nat→Bool)(hd:Bool):∀ n,Rd enc W base sp hd 33 rpP17 (fun _ p=>p.l.Fit∧p.r.Fit) n:=by
 intro n cs x h
 obtain⟨xs,m,rfl,rfl,hl,hlen,hf⟩:=DataW.trod_struct Tryz.underlying33 h
 rw[cellsP17] at hl
 obtain⟨v0,v1,v2,v3,v4,v5,v6,v7,v8,rfl⟩:=nine_of hl
 have h0:DataW.trod enc Tryz.prog W base sp hd m 31 ([v0,v1,v2,v3,v4,v5,v6,v7,v8].take (Tryz.prog.cellsOf 31))=xs[0]?:=hf 0 _ rfl
 have h1:DataW.trod enc Tryz.prog W base sp hd m 31 ([v4,v5,v6,v7,v8].take (Tryz.prog.cellsOf 31))=xs[1]?:=hf 1 _ rfl
 have h2:DataW.trod enc Tryz.prog W base sp hd m 22 ([v8].take (Tryz.prog.cellsOf 22))=xs[2]?:=hf 2 _ rfl
 rw[cellsTerm] at h0 h1
 rw[cellsSR] at h2
 have hlen:xs.length=3:=hlen
 rw[List.getElem?_eq_getElem (by omega)] at h0 h1 h2
 obtain⟨t,⟨b,k,j,a,hx,ht⟩,hfit⟩:=rdM enc W base sp hd m _ _ h0
 obtain⟨t',⟨b',k',j',a',hx',ht'⟩,hfit'⟩:=rdM enc W base sp hd m _ _ h1
 obtain⟨ma,mn,mc,M,hmv,_,hM,_⟩:=sl_of_trod Tryz.underlying22 cellsR (by decide) (fun j hj=>rdR enc W base sp hd j) h2
 have e0:[v0,v1,v2,v3]=[b,k,j,a]:=hx
 have e1:[v4,v5,v6,v7]=[b',k',j',a']:=hx'
 have e2:[v8]=[.slice ma mn mc]:=hmv
 simp only[List.cons.injEq,and_true] at e0 e1 e2
 obtain⟨rfl,rfl,rfl,rfl⟩:=e0
 obtain⟨rfl,rfl,rfl,rfl⟩:=e1
 subst e2
 exact⟨⟨t,t',M⟩,⟨_,_,_,_,_,_,_,_,_,rfl,⟨ht,ht',hM⟩⟩,hfit,hfit'⟩
theorem relP17s {m:Mp}{w:World}{F:Nat→Prop}{v:Value}{l:List Li.Pr}(h:IsSl rpP17 F w v l):Rel m (cellI F w) w v (.sl 9 (ePrs l) none):=by
 have e:∀ p,ePr p=eTm p.l++(eTm p.r++[.sl 2 (eTys p.m) none]):=fun p=>by rw[eTm_eq,eTm_eq];rfl
 have:=rel_of_sl (m:=m) (r:=rpP17) (e:=ePr) cellI_of (fun p=>by rw[e,eTm_eq,eTm_eq];rfl) (fun x p hx=>by
  obtain⟨v1,v2,v3,v4,v5,v6,v7,v8,v9,rfl,h⟩:=hx
  rw[e]
  exact(rel_of_tm cellI_of p.l h.l).append ((rel_of_tm cellI_of p.r h.r).append ⟨relTys h.m,trivial⟩)) h
 exact this
def rpSt:Rp Au.St where
 n:=4
 R:=fun F w x s=>∃ pv sv,x=[.int .i64 s.eq,.bool s.back,pv,sv]∧IsSl rpI F w pv s.path∧IsSl rpPr F w sv s.s
 len:=fun⟨_,_,e,_⟩=>by rw[e];rfl
 one:=fun⟨pv,sv,e,h1,h2⟩ v hv=>by
  rw[e] at hv
  simp only[List.mem_cons,List.not_mem_nil,or_false] at hv
  rcases hv with rfl | rfl | rfl | rfl
  ·rfl
  ·rfl
  ·exact sl_one h1
  ·exact sl_one h2
 keep:=fun⟨pv,sv,e,h1,h2⟩ hk=>⟨pv,sv,e,h1.keep hk,h2.keep hk⟩
 weaken:=fun⟨pv,sv,e,h1,h2⟩ hf=>⟨pv,sv,e,h1.weaken (by decide) hf,h2.weaken (by decide) hf⟩
theorem cellsSt:Tryz.prog.cellsOf 74=4:=by kernel_rfl
theorem cellsBl:Tryz.prog.cellsOf 4=1:=by kernel_rfl
theorem cellsSI:Tryz.prog.cellsOf 71=1:=by kernel_rfl
theorem cellsS9:Tryz.prog.cellsOf 72=1:=by kernel_rfl
theorem four_ofS {α:Type}{cs:List α}(h:cs.length=4):∃ a b c d,cs=[a,b,c,d]:=by
 match cs,h with
 | [a,b,c,d],_=>exact⟨a,b,c,d,rfl⟩
set_option maxRecDepth 100000 in
theorem rdSt {H:Type}(enc:TypeId×Value→H)(W:World)(base:Nat)(sp:Nat→Bool)(hd:Bool):∀ n,Rd enc W base sp hd 74 rpSt (fun _ x=>x.path.length≤9223372036854775807∧x.s.length≤9223372036854775807∧∀ q∈x.s,q.2.Fit) n:=by
 intro n cs x h
 obtain⟨xs,m,rfl,rfl,hl,hlen,hf⟩:=DataW.trod_struct Tryz.underlying74 h
 rw[cellsSt] at hl
 obtain⟨v0,v1,v2,v3,rfl⟩:=four_ofS hl
 have h0:DataW.trod enc Tryz.prog W base sp hd m 3 ([v0,v1,v2,v3].take (Tryz.prog.cellsOf 3))=xs[0]?:=hf 0 _ rfl
 have h1:DataW.trod enc Tryz.prog W base sp hd m 4 ([v1,v2,v3].take (Tryz.prog.cellsOf 4))=xs[1]?:=hf 1 _ rfl
 have h2:DataW.trod enc Tryz.prog W base sp hd m 71 ([v2,v3].take (Tryz.prog.cellsOf 71))=xs[2]?:=hf 2 _ rfl
 have h3:DataW.trod enc Tryz.prog W base sp hd m 72 ([v3].take (Tryz.prog.cellsOf 72))=xs[3]?:=hf 3 _ rfl
 rw[cellsInt] at h0
 rw[cellsBl] at h1
 rw[cellsSI] at h2
 rw[cellsS9] at h3
 have hlen:xs.length=4:=hlen
 rw[List.getElem?_eq_getElem (by omega)] at h0 h1 h2 h3
 obtain⟨i,hi,_,_⟩:=DataW.trod_int Tryz.underlying3 h0
 obtain⟨bo,hb,_⟩:=DataW.trod_bool Tryz.underlying4 h1
 obtain⟨pa,pn,pc,P,hpv,_,hP,_⟩:=sl_of_trod Tryz.underlying71 cellsInt (by decide) (fun j hj=>rdI enc W base sp hd j) h2
 obtain⟨sa,sn,sc,S,hsv,_,hS,hSf⟩:=sl_of_trod Tryz.underlying72 cellsPair (by decide) (fun j hj=>rdPr enc W base sp hd j) h3
 have e0:[v0]=[.int .i64 i]:=hi
 have e1:[v1]=[.bool bo]:=hb
 have e2:[v2]=[.slice pa pn pc]:=hpv
 have e3:[v3]=[.slice sa sn sc]:=hsv
 simp only[List.cons.injEq,and_true] at e0 e1 e2 e3
 subst e0 e1 e2 e3
 exact⟨⟨i,bo,P,S⟩,⟨_,_,rfl,hP,hS⟩,hP.len1,hS.len1,fun q hq=>(mem_of_idx (d:=xs[3].1) (Q:=fun(q:Int×Tm)=>q.2.Fit∧-9223372036854775808≤q.1∧q.1≤9223372036854775807) hSf q hq).1⟩
theorem relSts {m:Mp}{w:World}{F:Nat→Prop}{v:Value}{l:List Au.St}(h:IsSl rpSt F w v l):Rel m (cellI F w) w v (.sl 4 (eSts l) none):=
 rel_of_sl (r:=rpSt) (e:=eSt) cellI_of (fun p=>rfl) (fun x p hx=>by
  obtain⟨pv,sv,rfl,h1,h2⟩:=hx
  exact⟨.v _,.v _,relInts h1,relPairs h2,trivial⟩) h
end Go.Proofs.YtclihnccilkohaaGreat
