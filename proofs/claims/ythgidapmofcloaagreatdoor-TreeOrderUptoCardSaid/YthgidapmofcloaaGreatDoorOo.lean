/- Sorting in place: ranges swapped, blocks turned round. Sorting in place: by insertion. Sorting in place: two rows merged, where one is of one. Sorting in place: two rows merged, where the other is of one. Sorting in place: two rows merged: turned round, and each half merged. Sorting in place: two rows merged: where they are cut, and the turn. The walk to the next region's end, as a lemma that a tactic of its own serves. Sorting in place: two rows merged; all of it. Sorting in place: all of it. Texts compared byte by byte: an order; the places of a list of keys, by them. The places of a record's keys, by the keys: tree.order. Trees with the keys of all records in order: tree.Sorted. Trees whose keys are in order: when they are the same. Trees that are the same: tree.identical, tree.Same. Trees that are the same: the reference's answer. The reference's places of keys: emendref3.Order. Trees with the keys of all records in order: the reference's answer. The law 'TreeSames', walked. Sorting, and what hangs on it, as contracts. Trees compared, and that this is an order. Trees whose keys are brought in order stay right and as great, and are then in order. Numbers compared: the program's answer. Trees compared: the program's answer. Numbers compared: the reference's answer. Trees compared: the reference's answer. The laws 'TreeCompares' and 'TreeOrder', walked. Comparing trees, as contracts. What is read is right where little is read. 'emendlaw3.TreeOrder' as a contract. The row of 'emendlaw3.TreeOrder': what is read, and that the call returns true. -/
import Derived.Test.YthgidapmofcloaaGreatDoorTie
import Derived.Test.YthgidapmofcloaaGreatDoorCards
import Derived.ProofKit
import Derived.LaidMore
import Derived.OpenShut
import Derived.Carry
import Derived.Stop.Joined
import Derived.Lay
import Derived.SevenTiedAt
import Derived.Deep.DeepHandedRow
import Derived.Deep.DeepWitnessRowRef
import Derived.Test.YthgidapmofcloaaGreatDoorOn
set_option linter.unusedSimpArgs false
set_option linter.unusedVariables false
namespace Go.Dn
open Go Go.Proofs.C1
set_option maxRecDepth 100000
attribute [local irreducible] afterS keepE
section
variable {gt:GT} {C:CallT} {R:List Rs} {ty:TypeId} {t b:Nat}
def SwapC (C:CallT) (R:List Rs) (ty:TypeId) (t b:Nat) (g:AV):Prop :=
 ∀(S:St) (xs:List AV) (P X M Y Q:List Nat) (a c n:Nat),a=P.length→c=P.length+X.length+M.length→n=X.length→xs.length=(P++(X++(M++(Y++Q)))).length→(P++(X++(M++(Y++Q)))).length<4611686018427387904→X.length=Y.length→ArS S R ty t b (P++(X++(M++(Y++Q)))) →
  C 218 [slA t xs.length xs,.int .i64 a,.int .i64 c,.int .i64 n,g] S fun r S'=>r=.ret (.tup [])∧ArS S' R ty t b (P++(Y++(M++(X++Q))))
def RotC (C:CallT) (R:List Rs) (ty:TypeId) (t b:Nat) (g:AV):Prop :=
 ∀(S:St) (xs:List AV) (P X Y Q:List Nat) (a m c:Nat),a=P.length→m=P.length+X.length→c=P.length+X.length+Y.length→X≠[]→Y≠[]→xs.length=(P++(X++(Y++Q))).length→(P++(X++(Y++Q))).length<2305843009213693952→ArS S R ty t b (P++(X++(Y++Q))) →
  C 201 [slA t xs.length xs,.int .i64 a,.int .i64 m,.int .i64 c,g] S fun r S'=>r=.ret (.tup [])∧ArS S' R ty t b (P++(Y++(X++Q)))
abbrev E_sw (t:Nat) (xs:List AV) (a c n i:Nat):Env:=[(0,.val (slA t xs.length xs)),(1,.val (.int .i64 a)),(2,.val (.int .i64 c)),(3,.val (.int .i64 n)),(10,.val (.int .i64 i))]
set_option maxHeartbeats 4000000 in
theorem swap_wp (hm:MonoC C) {S:St} {xs:List AV} {P X M Y Q:List Nat} {g:AV} (hx:xs.length=(P++(X++(M++(Y++Q)))).length) (hl:(P++(X++(M++(Y++Q)))).length<4611686018427387904) (hxy:X.length=Y.length) (hA:ArS S R ty t b (P++(X++(M++(Y++Q))))) :
  wpF gt C F218 [slA t xs.length xs,.int .i64 P.length,.int .i64 ((P.length+X.length+M.length:Nat):Int),.int .i64 X.length,g] S fun r S'=>r=.ret (.tup [])∧ArS S' R ty t b (P++(Y++(M++(X++Q)))):=by
 have hlen:(P++(X++(M++(Y++Q)))).length=P.length+(X.length+(M.length+(Y.length+Q.length))):=by simp only [List.length_append]
 rw [hlen] at hx hl
 refine⟨rfl,?_⟩
 refine goW ?_
 refine loop_rule hm (α:=Nat×List Nat×List Nat×List Nat×List Nat) (fun a env S'=>env=E_sw t xs P.length (P.length+X.length+M.length) X.length a.1∧a.1+a.2.2.1.length=X.length∧a.2.1.length=P.length+a.1∧a.2.2.1.length=a.2.2.2.2.length∧a.2.1.length+a.2.2.1.length+a.2.2.2.1.length=P.length+X.length+M.length+a.1 ∧
   ArS S' R ty t b (a.2.1++(a.2.2.1++(a.2.2.2.1++(a.2.2.2.2++Q))))∧P++(Y++(M++(X++Q)))=a.2.1++(a.2.2.2.2++(a.2.2.2.1++(a.2.2.1++Q)))) (fun a=>X.length-a.1) ?_ (a:=(0,P,X,M,Y)) ⟨rfl,by simp,by simp,hxy,by simp,hA,rfl⟩
 rintro⟨i,Pi,Xi,Mi,Yi⟩ env S' ⟨rfl,h1,h2,h3,h4,hA,hT⟩
 simp only at h1 h2 h3 h4 hA hT
 refine goW ?_
 by_cases hc:(i:Int)<(X.length:Nat)
 ·rw [decide_eq_true hc]
  match Xi,Yi,h1,h3,h4,hA,hT with
  | [],_,h1,_,_,_,_=>simp at h1;omega
  | _::_,[],_,h3,_,_,_=>simp at h3
  | x::Xr,y::Yr,h1,h3,h4,hA,hT =>
  simp only [List.length_cons] at h1 h3 h4
  have hla:(Pi++((x::Xr)++(Mi++((y::Yr)++Q)))).length=xs.length:=by simp only [List.length_append,List.length_cons];omega
  have g1:(Pi++((x::Xr)++(Mi++((y::Yr)++Q))))[P.length+i]? = some x:=get_mid (by omega)
  have g2:(Pi++((x::Xr)++(Mi++((y::Yr)++Q))))[P.length+X.length+M.length+i]? = some y:=by
   rw [show Pi++((x::Xr)++(Mi++((y::Yr)++Q)))=(Pi++((x::Xr)++Mi))++(y::(Yr++Q)) by simp only [List.append_assoc,List.cons_append]]
   exact get_mid (by simp only [List.length_append,List.length_cons];omega)
  have s1:(Pi++((x::Xr)++(Mi++((y::Yr)++Q)))).set (P.length+i) y=Pi++(y::(Xr++(Mi++((y::Yr)++Q)))):=set_mid (by omega)
  have s2:(Pi++(y::(Xr++(Mi++((y::Yr)++Q))))).set (P.length+X.length+M.length+i) x=(Pi++[y])++(Xr++((Mi++[x])++(Yr++Q))):=by
   rw [show Pi++(y::(Xr++(Mi++((y::Yr)++Q))))=(Pi++(y::(Xr++Mi)))++(y::(Yr++Q)) by simp only [List.append_assoc,List.cons_append],set_mid (by simp only [List.length_append,List.length_cons];omega)]
   simp only [List.append_assoc,List.cons_append,List.nil_append]
  generalize Pi++((x::Xr)++(Mi++((y::Yr)++Q)))=l at hA hla g1 g2 s1
  have k1:P.length+i<l.length:=by omega
  have k2:P.length+X.length+M.length+i<l.length:=by omega
  have w1:wr .i64 ((P.length:Int)+(i:Int))=((P.length+i:Nat):Int):=by rw [wr64 (by omega) (by omega)];omega
  have w2:wr .i64 (((P.length+X.length+M.length:Nat):Int)+(i:Int))=((P.length+X.length+M.length+i:Nat):Int):=by rw [wr64 (by omega) (by omega)];omega
  refine goW ?_
  rw [w1,w2]
  refine step_ruleDO rfl rfl (sx_ia (k:=P.length+X.length+M.length+i) rfl rfl (by omega)) ?_
  refine goW ?_
  refine step_ruleDO rfl rfl (sx_ldEl (agg:=false) rfl (hA.els hla.symm) (ints_get g2) rfl) ?_
  refine goW ?_
  rw [w1]
  refine step_ruleDO rfl rfl (sx_ia (k:=P.length+i) rfl rfl (by omega)) ?_
  refine goW ?_
  refine step_ruleDO rfl rfl (sx_ldEl (agg:=false) rfl (hA.els hla.symm) (ints_get g1) rfl) ?_
  refine goW ?_
  refine step_ruleDO rfl rfl (sx_ia (k:=P.length+i) rfl rfl (by omega)) ?_
  refine goW ?_
  refine st_runPD (hA.st hla.symm rfl rfl k1) (by trivial) rfl rfl ?_
  intro S2 hA
  rw [s1] at hA
  refine goW ?_
  refine step_ruleDO rfl rfl (sx_ia (k:=P.length+X.length+M.length+i) rfl rfl (by omega)) ?_
  refine goW ?_
  have hl2:(Pi++(y::(Xr++(Mi++((y::Yr)++Q))))).length=l.length:=by rw [←s1,List.length_set]
  refine st_runPD (hA.st (by omega) rfl rfl (by omega)) (by trivial) rfl rfl ?_
  intro S3 hA
  rw [s2] at hA
  refine goW ?_
  refine⟨(i+1,Pi++[y],Xr,Mi++[x],Yr),⟨?_,by simp only;omega,by simp only [List.length_append,List.length_cons,List.length_nil];omega,by simp only;omega,by simp only [List.length_append,List.length_cons,List.length_nil];omega,hA,?_⟩,by simp only;omega⟩
  ·rw [wrNat (by omega)]
  ·rw [hT];simp only [List.append_assoc,List.cons_append,List.nil_append]
 ·rw [decide_eq_false hc]
  have e1:Xi=[]:=List.eq_nil_of_length_eq_zero (by omega)
  have e2:Yi=[]:=List.eq_nil_of_length_eq_zero (by omega)
  subst e1;subst e2
  refine goW ?_
  refine⟨_,rfl,rfl,?_⟩
  rw [hT];exact hA
abbrev E_ro (t:Nat) (xs:List AV) (m:Nat) (g:AV) (i j:Nat):Env:=[(0,.val (slA t xs.length xs)),(2,.val (.int .i64 m)),(4,.val g),(10,.val (.int .i64 i)),(11,.val (.int .i64 j))]
set_option maxHeartbeats 4000000 in
theorem rot_wp (hm:MonoC C) {f:FuncId} {cs:List AV} (hsw:SwapC C R ty t b (.fn f [] cs)) {S:St} {xs:List AV} {P X Y Q:List Nat} (h1:X≠[]) (h2:Y≠[]) (hx:xs.length=(P++(X++(Y++Q))).length) (hl:(P++(X++(Y++Q))).length<2305843009213693952) (hA:ArS S R ty t b (P++(X++(Y++Q)))) :
  wpF gt C F201 [slA t xs.length xs,.int .i64 P.length,.int .i64 ((P.length+X.length:Nat):Int),.int .i64 ((P.length+X.length+Y.length:Nat):Int),.fn f [] cs] S fun r S'=>r=.ret (.tup [])∧ArS S' R ty t b (P++(Y++(X++Q))):=by
 have hlen:(P++(X++(Y++Q))).length=P.length+(X.length+(Y.length+Q.length)):=by simp only [List.length_append]
 rw [hlen] at hx hl
 have p1:0<X.length:=List.length_pos_iff.2 h1
 have p2:0<Y.length:=List.length_pos_iff.2 h2
 refine⟨rfl,?_⟩
 refine goW ?_
 rw [show wr .i64 (((P.length+X.length:Nat):Int)-(P.length:Int))=(X.length:Int) by rw [wr64 (by omega) (by omega)];omega,show wr .i64 (((P.length+X.length+Y.length:Nat):Int)-((P.length+X.length:Nat):Int))=(Y.length:Int) by rw [wr64 (by omega) (by omega)];omega]
 refine loop_rule hm (α:=List Nat×List Nat×List Nat×List Nat) (fun a env S'=>env=E_ro t xs (P.length+X.length) (.fn f [] cs) a.2.1.length a.2.2.1.length∧0<a.2.1.length∧0<a.2.2.1.length∧a.1.length+a.2.1.length=P.length+X.length∧xs.length=(a.1++(a.2.1++(a.2.2.1++a.2.2.2))).length ∧
   ArS S' R ty t b (a.1++(a.2.1++(a.2.2.1++a.2.2.2)))∧P++(Y++(X++Q))=a.1++(a.2.2.1++(a.2.1++a.2.2.2))) (fun a=>a.2.1.length+a.2.2.1.length) ?_ (a:=(P,X,Y,Q)) ⟨rfl,p1,p2,rfl,by rw [hlen,hx],hA,rfl⟩
 rintro⟨P',L,U,Q'⟩ env S' ⟨rfl,l1,l2,l3,l4,hA,hT⟩
 simp only at l1 l2 l3 l4 hA hT
 have hlen':(P'++(L++(U++Q'))).length=P'.length+(L.length+(U.length+Q'.length)):=by simp only [List.length_append]
 have w1:wr .i64 (((P.length+X.length:Nat):Int)-(L.length:Int))=((P'.length:Nat):Int):=by rw [wr64 (by omega) (by omega)];omega
 refine goW ?_
 by_cases hne:(L.length:Int)=U.length
 ·rw [neI_false hne]
  refine goW ?_
  rw [w1]
  refine call_rule (by rfl) (hm _ _ _ _ _ (hsw S' xs P' L [] U Q' P'.length (P.length+X.length) L.length rfl (by simp only [List.length_nil];omega) rfl l4 (by simp only [List.nil_append];omega) (by omega) hA) ?_)
  rintro r S2 ⟨rfl,hA⟩
  refine goW ?_
  refine⟨_,rfl,rfl,?_⟩
  rw [hT];exact hA
 rw [neI_true hne]
 refine goW ?_
 by_cases hgt:(L.length:Int) > U.length
 ·rw [decide_eq_true hgt]
  obtain⟨L1,L2,hL,e1,hLl⟩:∃L1 L2,L=L1++L2∧L1.length=U.length∧L1.length+L2.length=L.length:=⟨L.take U.length,L.drop U.length,(List.take_append_drop _ _).symm,by rw [List.length_take];omega,by rw [List.length_take,List.length_drop];omega⟩
  have l5:xs.length=(P'++(L1++(L2++(U++Q')))).length:=by simp only [List.length_append];omega
  rw [hL,List.append_assoc] at hA hT
  refine goW ?_
  rw [w1]
  refine call_rule (by rfl) (hm _ _ _ _ _ (hsw S' xs P' L1 L2 U Q' P'.length (P.length+X.length) U.length rfl (by omega) (by omega) l5 (by rw [←l5];omega) e1 hA) ?_)
  rintro r S2 ⟨rfl,hA⟩
  refine goW ?_
  refine⟨(P'++U,L2,L1,Q'),⟨?_,by simp only;omega,by simp only;omega,by simp only [List.length_append];omega,?_,?_,?_⟩,by simp only;omega⟩
  ·simp only [E_ro]
   rw [wr64 (by omega) (by omega),show (L.length:Int)-(U.length:Int)=(L2.length:Int) by omega,e1]
   try rfl
  ·simp only [List.length_append];omega
  ·rw [List.append_assoc];exact hA
  ·rw [hT];simp only [List.append_assoc]
 ·rw [decide_eq_false hgt]
  obtain⟨U1,U2,hU,e1,hUl⟩:∃U1 U2,U=U1++U2∧U2.length=L.length∧U1.length+U2.length=U.length:=⟨U.take (U.length-L.length),U.drop (U.length-L.length),(List.take_append_drop _ _).symm,by rw [List.length_drop];omega,by rw [List.length_take,List.length_drop];omega⟩
  have l5:xs.length=(P'++(L++(U1++(U2++Q')))).length:=by simp only [List.length_append];omega
  rw [hU,List.append_assoc] at hA hT
  refine goW ?_
  rw [w1,wr64 (n:=((P.length+X.length:Nat):Int)+(U.length:Int)) (by omega) (by omega),show wr .i64 (((P.length+X.length:Nat):Int)+(U.length:Int)-(L.length:Int))=((P.length+X.length+U1.length:Nat):Int) by rw [wr64 (by omega) (by omega)];omega]
  refine call_rule (by rfl) (hm _ _ _ _ _ (hsw S' xs P' L U1 U2 Q' P'.length (P.length+X.length+U1.length) L.length rfl (by omega) rfl l5 (by rw [←l5];omega) e1.symm hA) ?_)
  rintro r S2 ⟨rfl,hA⟩
  refine goW ?_
  refine⟨(P',U2,U1,L++Q'),⟨?_,by simp only;omega,by simp only;omega,by simp only;omega,?_,hA,?_⟩,by simp only;omega⟩
  ·simp only [E_ro]
   rw [wr64 (by omega) (by omega),show (U.length:Int)-(L.length:Int)=(U1.length:Int) by omega,e1]
   try rfl
  ·simp only [List.length_append];omega
  ·rw [hT]
end
end Go.Dn

namespace Go.Dn
open Go Go.Proofs.C1
set_option maxRecDepth 100000
attribute [local irreducible] afterS keepE
structure Cz (cz:Nat→Nat→Int):Prop where
 rf:∀a,0≤cz a a
 tr:∀{a b c},0≤cz b a→0≤cz c b→0≤cz c a
 asy:∀{a b},cz a b<0→0≤cz b a
def leZ (cz:Nat→Nat→Int) (a b:Nat):Prop:=0≤cz b a
def CmpC (C:CallT) (f:FuncId) (cs:List AV) (R:List Rs) (ty:TypeId) (t b n:Nat) (cz:Nat→Nat→Int):Prop :=
 ∀(S:St) (l:List Nat) (i j:Nat),ArS S R ty t b l→i<n→j<n→C f (.int .i64 i::.int .i64 j::cs) S fun r S'=>r=.ret (.int .i64 (cz i j))∧S'=S
section
variable {gt:GT} {C:CallT} {R:List Rs} {ty:TypeId} {t b:Nat}
def InsC (C:CallT) (R:List Rs) (ty:TypeId) (t b n:Nat) (g:AV) (cz:Nat→Nat→Int):Prop :=
 ∀(S:St) (xs:List AV) (P X Q:List Nat) (a c:Nat),a=P.length→c=P.length+X.length→(∀x∈X,x<n)→xs.length=(P++(X++Q)).length→(P++(X++Q)).length<2305843009213693952→ArS S R ty t b (P++(X++Q)) →
  C 180 [slA t xs.length xs,.int .i64 a,.int .i64 c,g] S fun r S'=>r=.ret (.tup [])∧∃Z,Z.Perm X∧Srt (leZ cz) Z∧ArS S' R ty t b (P++(Z++Q))
abbrev E_in (t:Nat) (xs:List AV) (a c:Nat) (g:AV) (i:Nat):Env:=[(0,.val (slA t xs.length xs)),(1,.val (.int .i64 a)),(2,.val (.int .i64 c)),(3,.val g),(8,.val (.int .i64 i))]
abbrev E_in2 (t:Nat) (xs:List AV) (a c:Nat) (g:AV) (i j:Nat):Env:=[(0,.val (slA t xs.length xs)),(1,.val (.int .i64 a)),(2,.val (.int .i64 c)),(3,.val g),(8,.val (.int .i64 i)),(9,.val (.int .i64 j))]
theorem srt_ins {cz:Nat→Nat→Int} (hz:Cz cz) {L U:List Nat} {x:Nat} (h:Srt (leZ cz) (L++U)) (h1:∀u∈U,cz x u<0) (h2:∀v,L[L.length-1]? = some v→0≤cz x v):Srt (leZ cz) (L++(x::U)):=by
 obtain⟨a,c,d⟩:=srt_app.1 h
 have hL:∀u∈L,leZ cz u x:=fun u hu=>by
  have:=ends_le (le:=leZ cz) (fun h h'=>hz.tr h h') (x:=L) (y:=[x]) a (List.pairwise_singleton _ _) (fun u v e1 e2=>by
   simp only [List.getElem?_cons_zero,Option.some.injEq] at e2
   subst e2
   exact h2 u e1) (fun a=>hz.rf a)
  exact this u hu x (by simp)
 refine srt_app.2 ⟨a,List.pairwise_cons.2 ⟨fun u hu=>hz.asy (h1 u hu),c⟩,fun u hu v hv=>?_⟩
 rcases List.mem_cons.1 hv with rfl | hv
 ·exact hL u hu
 ·exact d u hu v hv
set_option maxHeartbeats 8000000 in
theorem ins_wp (hm:MonoC C) {f:FuncId} {cs:List AV} {n:Nat} {cz:Nat→Nat→Int} (hz:Cz cz) (hc:CmpC C f cs R ty t b n cz) {S:St} {xs:List AV} {P X Q:List Nat} (hX:∀x∈X,x<n) (hx:xs.length=(P++(X++Q)).length) (hl:(P++(X++Q)).length<2305843009213693952) (hA:ArS S R ty t b (P++(X++Q))) :
  wpF gt C F180 [slA t xs.length xs,.int .i64 P.length,.int .i64 ((P.length+X.length:Nat):Int),.fn f [] cs] S fun r S'=>r=.ret (.tup [])∧∃Z,Z.Perm X∧Srt (leZ cz) Z∧ArS S' R ty t b (P++(Z++Q)):=by
 have hlen:(P++(X++Q)).length=P.length+(X.length+Q.length):=by simp only [List.length_append]
 rw [hlen] at hx hl
 refine⟨rfl,?_⟩
 refine goW ?_
 rw [wrNat (by omega)]
 refine loop_rule hm (α:=List Nat×List Nat×Nat) (fun a env S'=>env=E_in t xs P.length (P.length+X.length) (.fn f [] cs) a.2.2∧(a.2.2=P.length+a.1.length∨(a.2.1=[]∧P.length+X.length≤a.2.2∧a.2.2≤P.length+X.length+1))∧(a.1++a.2.1).Perm X∧Srt (leZ cz) a.1∧ArS S' R ty t b (P++(a.1++(a.2.1++Q)))) (fun a=>P.length+X.length+1-a.2.2) ?_
  (a:=(X.take 1,X.drop 1,P.length+1)) ⟨rfl,?_,by rw [List.take_append_drop],?_,by rw [←List.append_assoc (X.take 1),List.take_append_drop];exact hA⟩
 case refine_2 =>
  cases X with
  | nil=>right;exact⟨rfl,by simp,by simp⟩
  | cons x r=>left;simp
 case refine_3 =>
  cases X with
  | nil=>exact List.Pairwise.nil
  | cons x r=>exact List.pairwise_singleton _ _
 rintro⟨Z,W,i⟩ env S' ⟨rfl,hi,hp,hs,hA⟩
 simp only at hi hp hs hA
 have hpl:=hp.length_eq
 rw [List.length_append] at hpl
 have hmem:∀x∈Z++W,x<n:=fun x hx=>hX x (hp.mem_iff.1 hx)
 refine goW ?_
 by_cases hc1:(i:Int)<((P.length+X.length:Nat):Int)
 ·rw [decide_eq_true hc1]
  have hi':i=P.length+Z.length:=by
   rcases hi with h | ⟨h1,h2,h3⟩
   ·exact h
   ·omega
  cases W with
  | nil=>simp only [List.length_nil] at hpl;omega
  | cons x W' =>
  simp only [List.length_cons] at hpl
  have hxn:x<n:=hmem x (by simp)
  refine goW ?_
  refine loop_rule hm (α:=List Nat×List Nat) (fun a env S'=>env=E_in2 t xs P.length (P.length+X.length) (.fn f [] cs) i (P.length+a.1.length)∧a.1++a.2=Z∧(∀u∈a.2,cz x u<0)∧ArS S' R ty t b (P++(a.1++(x::(a.2++(W'++Q)))))) (fun a=>a.1.length) ?_ (a:=(Z,[])) ⟨by rw [hi'],by simp,fun u hu=>by simp at hu,by simpa using hA⟩
  rintro⟨L,U⟩ env S2 ⟨rfl,hLU,hU,hA⟩
  simp only at hLU hU hA
  have hzl:=congrArg List.length hLU
  rw [List.length_append] at hzl
  have hxl:xs.length=(P++(L++(x::(U++(W'++Q))))).length:=by simp only [List.length_append,List.length_cons];omega
  have done:(∀v,L[L.length-1]? = some v→0≤cz x v)→∃a:List Nat×List Nat×Nat,(E_in t xs P.length (P.length+X.length) (.fn f [] cs) (i+1)=E_in t xs P.length (P.length+X.length) (.fn f [] cs) a.2.2∧(a.2.2=P.length+a.1.length∨(a.2.1=[]∧P.length+X.length≤a.2.2∧a.2.2≤P.length+X.length+1))∧(a.1++a.2.1).Perm X∧Srt (leZ cz) a.1∧ArS S2 R ty t b (P++(a.1++(a.2.1++Q))))∧P.length+X.length+1-a.2.2<P.length+X.length+1-i:=fun h=>by
   refine⟨(L++(x::U),W',i+1),⟨rfl,.inl (by simp only [List.length_append,List.length_cons];omega),?_,?_,?_⟩,by simp only;omega⟩
   ·refine List.Perm.trans ?_ hp
    simp only
    rw [←hLU,List.append_assoc,List.append_assoc,List.cons_append]
    exact List.Perm.append_left L (List.perm_middle.symm)
   ·exact srt_ins hz (by rw [hLU];exact hs) hU h
   ·simpa only [List.append_assoc,List.cons_append] using hA
  refine goW ?_
  rcases List.eq_nil_or_concat L with hL | ⟨L',v,hL⟩
  ·subst hL
   rw [decide_eq_false (show ¬((P.length+([]:List Nat).length:Nat):Int) > (P.length:Int) by simp)]
   have done:=done (fun v h=>by simp at h)
   refine goW ?_
   rw [wrNat (by omega)]
   exact done
  rw [List.concat_eq_append] at hL
  subst hL
  have hvl:(L'++[v]).length=L'.length+1:=by simp
  rw [hvl] at hzl
  have hvn:v<n:=hmem v (by rw [←hLU];simp)
  have hA0:=hA
  have done:=fun (h:0≤cz x v)=>done (fun v' h'=>by
   rw [hvl,Nat.add_sub_cancel,get_mid rfl] at h'
   cases h';exact h)
  have e1:P++((L'++[v])++(x::(U++(W'++Q))))=(P++L')++(v::(x::(U++(W'++Q)))):=by simp only [List.append_assoc,List.cons_append,List.nil_append]
  have e2:P++((L'++[v])++(x::(U++(W'++Q))))=(P++(L'++[v]))++(x::(U++(W'++Q))):=by simp only [List.append_assoc,List.cons_append,List.nil_append]
  have g1:(P++((L'++[v])++(x::(U++(W'++Q)))))[P.length+L'.length]? = some v:=by rw [e1];exact get_mid (by rw [List.length_append])
  have g2:(P++((L'++[v])++(x::(U++(W'++Q)))))[P.length+L'.length+1]? = some x:=by rw [e2];exact get_mid (by simp only [List.length_append,List.length_cons,List.length_nil];omega)
  have s1:(P++((L'++[v])++(x::(U++(W'++Q))))).set (P.length+L'.length+1) v=(P++L')++(v::(v::(U++(W'++Q)))):=by
   rw [e2,set_mid (by simp only [List.length_append,List.length_cons,List.length_nil];omega)]
   simp only [List.append_assoc,List.cons_append,List.nil_append]
  have s2:((P++L')++(v::(v::(U++(W'++Q))))).set (P.length+L'.length) x=P++(L'++(x::((v::U)++(W'++Q)))):=by
   rw [set_mid (by rw [List.length_append])]
   simp only [List.append_assoc,List.cons_append]
  have hls:((P++L')++(v::(v::(U++(W'++Q))))).length=xs.length:=by rw [←s1,List.length_set,hxl]
  generalize hgl:P++((L'++[v])++(x::(U++(W'++Q))))=l at hA g1 g2 s1 hxl
  rw [hvl]
  have k1:P.length+L'.length<l.length:=by omega
  have k2:P.length+L'.length+1<l.length:=by omega
  have w1:wr .i64 (((P.length+(L'.length+1):Nat):Int)-1)=((P.length+L'.length:Nat):Int):=by rw [wr64 (by omega) (by omega)];omega
  rw [decide_eq_true (show ((P.length+(L'.length+1):Nat):Int) > (P.length:Int) by omega)]
  refine goW ?_
  refine st_anyD (by exact rfl) rfl rfl (sx_ia (k:=P.length+L'.length+1) rfl rfl (by omega)) ?_
  refine goW ?_
  refine st_anyD (by exact rfl) rfl rfl (sx_ldEl (agg:=false) rfl (hA.els hxl) (ints_get g2) rfl) ?_
  refine goW ?_
  rw [w1]
  refine st_anyD (by exact rfl) rfl rfl (sx_ia (k:=P.length+L'.length) rfl rfl (by omega)) ?_
  refine goW ?_
  refine st_anyD (by exact rfl) rfl rfl (sx_ldEl (agg:=false) rfl (hA.els hxl) (ints_get g1) rfl) ?_
  refine goW ?_
  refine call_ruleD (by rfl) (hm _ _ _ _ _ (hc S2 l x v hA hxn hvn) ?_)
  rintro r S3 ⟨rfl,rfl⟩
  refine goW ?_
  by_cases hlt:cz x v<0
  case neg =>
   rw [decide_eq_false hlt]
   have done:=done (by omega)
   refine goW ?_
   rw [wrNat (by omega)]
   exact done
  rw [decide_eq_true hlt]
  refine goW ?_
  rw [w1]
  refine step_ruleDO rfl rfl (sx_ia (k:=P.length+L'.length) rfl rfl (by omega)) ?_
  refine goW ?_
  refine step_ruleDO rfl rfl (sx_ldEl (agg:=false) rfl (hA.els hxl) (ints_get g1) rfl) ?_
  refine goW ?_
  refine step_ruleDO rfl rfl (sx_ia (k:=P.length+L'.length+1) rfl rfl (by omega)) ?_
  refine goW ?_
  refine step_ruleDO rfl rfl (sx_ldEl (agg:=false) rfl (hA.els hxl) (ints_get g2) rfl) ?_
  refine goW ?_
  refine step_ruleDO rfl rfl (sx_ia (k:=P.length+L'.length+1) rfl rfl (by omega)) ?_
  refine goW ?_
  refine st_runPD (hA.st hxl rfl rfl k2) (by trivial) rfl rfl ?_
  intro S4 hA
  rw [s1] at hA
  refine goW ?_
  refine step_ruleDO rfl rfl (sx_ia (k:=P.length+L'.length) rfl rfl (by omega)) ?_
  refine goW ?_
  refine st_runPD (hA.st hls.symm rfl rfl (by omega)) (by trivial) rfl rfl ?_
  intro S5 hA
  rw [s2] at hA
  refine goW ?_
  refine⟨(L',v::U),⟨?_,by rw [←hLU];simp,fun u hu=>?_,hA⟩,by simp only [hvl];omega⟩
  ·rw [w1]
  ·rcases List.mem_cons.1 hu with rfl | hu
   ·exact hlt
   ·exact hU u hu
 ·rw [decide_eq_false hc1]
  have hW:W=[]:=by
   rcases hi with h | ⟨h1,_⟩
   ·exact List.eq_nil_of_length_eq_zero (by omega)
   ·exact h1
  subst hW
  rw [List.append_nil] at hp
  refine goW ?_
  exact⟨_,rfl,rfl,Z,hp,hs,by simpa using hA⟩
end
end Go.Dn

namespace Go.Dn
open Go Go.Proofs.C1
set_option maxRecDepth 100000
attribute [local irreducible] afterS keepE
theorem ltZ_le {cz:Nat→Nat→Int} (hz:Cz cz) {u y x:Nat} (h:leZ cz u y) (h1:cz y x<0):cz u x<0:=by
 rcases Int.lt_or_le (cz u x) 0 with q | q
 ·exact q
 ·have:0≤cz y x:=hz.tr (a:=x) (b:=u) (c:=y) q h
  omega
theorem srt_take_le {cz:Nat→Nat→Int} (hz:Cz cz) {Y:List Nat} (h:Srt (leZ cz) Y) {k:Nat} (hk:k<Y.length):∀u∈Y.take (k+1),leZ cz u Y[k]:=by
 intro u hu
 obtain⟨i,hi,rfl⟩:=List.mem_iff_getElem.1 hu
 rw [List.length_take] at hi
 rw [List.getElem_take]
 rcases Nat.lt_or_ge i k with q | q
 ·exact List.pairwise_iff_getElem.1 h i k (by omega) hk q
 ·have:i=k:=by omega
  subst this;exact hz.rf _
theorem srt_drop_ge {cz:Nat→Nat→Int} (hz:Cz cz) {Y:List Nat} (h:Srt (leZ cz) Y) {k:Nat} (hk:k<Y.length):∀u∈Y.drop k,leZ cz Y[k] u:=by
 intro u hu
 obtain⟨i,hi,rfl⟩:=List.mem_iff_getElem.1 hu
 rw [List.length_drop] at hi
 rw [List.getElem_drop]
 rcases Nat.eq_zero_or_pos i with q | q
 ·subst q;exact hz.rf _
 ·exact List.pairwise_iff_getElem.1 h k (k+i) hk (by omega) (by omega)
theorem srt_put {cz:Nat→Nat→Int} {Y:List Nat} {x p:Nat} (h:Srt (leZ cz) Y) (h1:∀u∈Y.take p,leZ cz u x) (h2:∀u∈Y.drop p,leZ cz x u):Srt (leZ cz) (Y.take p++(x::Y.drop p)):=by
 rw [←List.take_append_drop p Y] at h
 obtain⟨a,c,d⟩:=srt_app.1 h
 refine srt_app.2 ⟨a,List.pairwise_cons.2 ⟨h2,c⟩,fun u hu v hv=>?_⟩
 rcases List.mem_cons.1 hv with rfl | hv
 ·exact h1 u hu
 ·exact d u hu v hv
theorem midW {i j:Nat} (h:i+j<9223372036854775808):wr .i64 ((wr .u64 (wr .i64 ((i:Int)+(j:Int)))).fdiv (2 ^ (min (Int.toNat 1) (IntKind.bits .u64))))=(((i+j) / 2:Nat):Int):=by
 rw [wr64 (n:=(i:Int)+(j:Int)) (by omega) (by omega),wr_eq .u64,show IntKind.u64.wrap ((i:Int)+(j:Int))=((i+j:Nat):Int) by
  have:∀n:Int,IntKind.u64.wrap n=n % 18446744073709551616:=fun n=>by simp [IntKind.wrap,IntKind.bits,IntKind.signed]
  rw [this];omega]
 rw [show min (Int.toNat 1) (IntKind.bits .u64)=1 by decide,show ((2:Int) ^ 1)=2 by decide,Int.fdiv_eq_ediv_of_nonneg _ (by decide),wr64 (by omega) (by omega)]
 omega
section
variable {gt:GT} {C:CallT} {R:List Rs} {ty:TypeId} {t b:Nat}
def MrgC (C:CallT) (R:List Rs) (ty:TypeId) (t b n:Nat) (g:AV) (cz:Nat→Nat→Int) (k:Nat):Prop :=
 ∀(S:St) (xs:List AV) (P X Y Q:List Nat) (a m c:Nat),X.length+Y.length≤k→a=P.length→m=P.length+X.length→c=P.length+X.length+Y.length→X≠[]→Y≠[]→(∀x∈X++Y,x<n)→Srt (leZ cz) X→Srt (leZ cz) Y→xs.length=(P++(X++(Y++Q))).length→(P++(X++(Y++Q))).length<1152921504606846976→ArS S R ty t b (P++(X++(Y++Q))) →
  C 181 [slA t xs.length xs,.int .i64 a,.int .i64 m,.int .i64 c,g] S fun r S'=>r=.ret (.tup [])∧∃Z,Z.Perm (X++Y)∧Srt (leZ cz) Z∧ArS S' R ty t b (P++(Z++Q))
abbrev E_m1 (t:Nat) (xs:List AV) (a:Nat) (g:AV) (i j:Nat):Env:=[(0,.val (slA t xs.length xs)),(1,.val (.int .i64 a)),(4,.val g),(10,.val (.int .i64 i)),(11,.val (.int .i64 j))]
abbrev E_m1b (t:Nat) (xs:List AV) (i k:Nat):Env:=[(0,.val (slA t xs.length xs)),(10,.val (.int .i64 i)),(13,.val (.int .i64 k))]
set_option maxHeartbeats 8000000 in
theorem mrg1_wp (hm:MonoC C) {f:FuncId} {cs:List AV} {n:Nat} {cz:Nat→Nat→Int} (hz:Cz cz) (hc:CmpC C f cs R ty t b n cz) {S:St} {xs:List AV} {P Y Q:List Nat} {x:Nat} (hY:∀y∈Y,y<n) (hxn:x<n) (hs:Srt (leZ cz) Y) (hx:xs.length=(P++(x::(Y++Q))).length) (hl:(P++(x::(Y++Q))).length<1152921504606846976) (hA:ArS S R ty t b (P++(x::(Y++Q)))) :
  wpF gt C F181 [slA t xs.length xs,.int .i64 P.length,.int .i64 ((P.length+1:Nat):Int),.int .i64 ((P.length+1+Y.length:Nat):Int),.fn f [] cs] S fun r S'=>r=.ret (.tup [])∧∃Z,Z.Perm (x::Y)∧Srt (leZ cz) Z∧ArS S' R ty t b (P++(Z++Q)):=by
 have hlen:(P++(x::(Y++Q))).length=P.length+(Y.length+Q.length+1):=by simp only [List.length_append,List.length_cons]
 rw [hlen] at hl
 refine⟨rfl,?_⟩
 refine goW ?_
 rw [show wr .i64 (((P.length+1:Nat):Int)-(P.length:Int))=1 by rw [wr64 (by omega) (by omega)];omega]
 refine goW ?_
 refine loop_rule hm (α:=Nat×Nat) (fun a env S'=>env=E_m1 t xs P.length (.fn f [] cs) (P.length+1+a.1) (P.length+1+a.2)∧a.1≤a.2∧a.2≤Y.length∧S'=S∧(∀u∈Y.take a.1,cz u x<0)∧(∀u∈Y.drop a.2,0≤cz u x)) (fun a=>a.2-a.1) ?_ (a:=(0,Y.length)) ⟨rfl,Nat.zero_le _,Nat.le_refl _,rfl,by simp,by simp⟩
 rintro⟨i,j⟩ env S' ⟨rfl,h1,h2,rfl,h3,h4⟩
 simp only at h1 h2 h3 h4
 refine goW ?_
 by_cases hij:((P.length+1+i:Nat):Int)<((P.length+1+j:Nat):Int)
 ·rw [decide_eq_true hij]
  obtain⟨r,hr⟩:∃r,r=(i+j) / 2:=⟨_,rfl⟩
  have hri:i≤r:=by omega
  have hrj:r<j:=by omega
  have hrY:r<Y.length:=by omega
  have g0:(P++(x::(Y++Q)))[P.length]? = some x:=get_mid rfl
  have g1:(P++(x::(Y++Q)))[P.length+1+r]? = some Y[r]:=by
   rw [List.getElem?_append_right (by omega),show P.length+1+r-P.length=r+1 by omega,List.getElem?_cons_succ,List.getElem?_append_left hrY]
   exact List.getElem?_eq_getElem hrY
  have hcall:=hc S' _ Y[r] x hA (hY _ (List.getElem_mem hrY)) hxn
  have t1:=srt_take_le hz hs hrY
  have t2:=srt_drop_ge hz hs hrY
  generalize Y[r]=y at g1 hcall t1 t2
  refine goW ?_
  rw [midW (by omega),show (P.length+1+i+(P.length+1+j)) / 2=P.length+1+r by omega]
  refine step_ruleDO rfl rfl (sx_ia (k:=P.length+1+r) rfl rfl (by omega)) ?_
  refine goW ?_
  refine step_ruleDO rfl rfl (sx_ldEl (agg:=false) rfl (hA.els hx) (ints_get g1) rfl) ?_
  refine goW ?_
  refine step_ruleDO rfl rfl (sx_ia (k:=P.length) rfl rfl (by omega)) ?_
  refine goW ?_
  refine step_ruleDO rfl rfl (sx_ldEl (agg:=false) rfl (hA.els hx) (ints_get g0) rfl) ?_
  refine goW ?_
  refine call_ruleD (by rfl) (hm _ _ _ _ _ hcall ?_)
  rintro r' S3 ⟨rfl,rfl⟩
  refine goW ?_
  by_cases hlt:cz y x<0
  ·rw [decide_eq_true hlt]
   refine goW ?_
   refine⟨(r+1,j),⟨?_,by simp only;omega,h2,rfl,fun u hu=>ltZ_le hz (t1 u hu) hlt,h4⟩,by simp only;omega⟩
   rw [wrNat (by omega)]
   try rfl
  ·rw [decide_eq_false hlt]
   refine goW ?_
   refine⟨(i,r),⟨rfl,hri,by simp only;omega,rfl,h3,fun u hu=>?_⟩,by simp only;omega⟩
   exact hz.tr (a:=x) (b:=y) (c:=u) (by omega) (t2 u hu)
 ·rw [decide_eq_false hij]
  obtain rfl:i=j:=by omega
  clear h1 hij
  refine goW ?_
  refine loop_rule hm (α:=Nat) (fun r env S'=>env=E_m1b t xs (P.length+1+i) (P.length+r)∧r≤i∧ArS S' R ty t b (P++(Y.take r++(x::(Y.drop r++Q))))) (fun r=>i-r) ?_ (a:=0) ⟨rfl,Nat.zero_le _,by simpa using hA⟩
  rintro r env S2 ⟨rfl,hri,hA⟩
  have hxr:xs.length=(P++(Y.take r++(x::(Y.drop r++Q)))).length:=by rw [hx];simp only [List.length_append,List.length_cons,List.length_take,List.length_drop];omega
  refine goW ?_
  rw [show wr .i64 (((P.length+1+i:Nat):Int)-1)=((P.length+i:Nat):Int) by rw [wr64 (by omega) (by omega)];omega]
  by_cases hlt:((P.length+r:Nat):Int)<((P.length+i:Nat):Int)
  ·rw [decide_eq_true hlt]
   have hrY:r<Y.length:=by omega
   have hd:Y.drop r=Y[r]::Y.drop (r+1):=List.drop_eq_getElem_cons hrY
   have htk:Y.take (r+1)=Y.take r++[Y[r]]:=List.take_succ_eq_append_getElem hrY
   have hltk:(Y.take r).length=r:=by rw [List.length_take];omega
   rw [hd] at hA hxr
   generalize Y[r]=y at hA hxr htk
   clear hd
   have g0:(P++(Y.take r++(x::((y::Y.drop (r+1))++Q))))[P.length+r]? = some x:=by rw [←List.append_assoc];exact get_mid (by rw [List.length_append];omega)
   have g1:(P++(Y.take r++(x::((y::Y.drop (r+1))++Q))))[P.length+r+1]? = some y:=by
    rw [show P++(Y.take r++(x::((y::Y.drop (r+1))++Q)))=(P++(Y.take r++[x]))++(y::(Y.drop (r+1)++Q)) by simp only [List.append_assoc,List.cons_append,List.nil_append]]
    exact get_mid (by simp only [List.length_append,List.length_cons,List.length_nil];omega)
   have s1:(P++(Y.take r++(x::((y::Y.drop (r+1))++Q)))).set (P.length+r) y=(P++Y.take r)++(y::((y::Y.drop (r+1))++Q)):=by rw [←List.append_assoc];exact set_mid (by rw [List.length_append];omega)
   have s2:((P++Y.take r)++(y::((y::Y.drop (r+1))++Q))).set (P.length+r+1) x=P++(Y.take (r+1)++(x::(Y.drop (r+1)++Q))):=by
    rw [show (P++Y.take r)++(y::((y::Y.drop (r+1))++Q))=(P++(Y.take r++[y]))++(y::(Y.drop (r+1)++Q)) by simp only [List.append_assoc,List.cons_append,List.nil_append],set_mid (by simp only [List.length_append,List.length_cons,List.length_nil];omega),htk]
    simp only [List.append_assoc,List.cons_append,List.nil_append]
   have hl1:((P++Y.take r)++(y::((y::Y.drop (r+1))++Q))).length=xs.length:=by rw [←s1,List.length_set,hxr]
   generalize P++(Y.take r++(x::((y::Y.drop (r+1))++Q)))=l at hA g0 g1 s1 hxr
   refine goW ?_
   rw [wrNat (by omega)]
   refine step_ruleDO rfl rfl (sx_ia (k:=P.length+r+1) rfl rfl (by omega)) ?_
   refine goW ?_
   refine step_ruleDO rfl rfl (sx_ldEl (agg:=false) rfl (hA.els hxr) (ints_get g1) rfl) ?_
   refine goW ?_
   refine step_ruleDO rfl rfl (sx_ia (k:=P.length+r) rfl rfl (by omega)) ?_
   refine goW ?_
   refine step_ruleDO rfl rfl (sx_ldEl (agg:=false) rfl (hA.els hxr) (ints_get g0) rfl) ?_
   refine goW ?_
   refine step_ruleDO rfl rfl (sx_ia (k:=P.length+r) rfl rfl (by omega)) ?_
   refine goW ?_
   refine st_runPD (hA.st hxr rfl rfl (by omega)) (by trivial) rfl rfl ?_
   intro S4 hA
   rw [s1] at hA
   refine goW ?_
   refine step_ruleDO rfl rfl (sx_ia (k:=P.length+r+1) rfl rfl (by omega)) ?_
   refine goW ?_
   refine st_runPD (hA.st hl1.symm rfl rfl (by omega)) (by trivial) rfl rfl ?_
   intro S5 hA
   rw [s2] at hA
   refine goW ?_
   refine⟨r+1,⟨?_,by omega,hA⟩,by omega⟩
   rw [wrNat (by omega)]
   try rfl
  ·rw [decide_eq_false hlt]
   obtain rfl:r=i:=by omega
   refine goW ?_
   refine⟨_,rfl,rfl,Y.take r++(x::Y.drop r),?_,srt_put hs (fun u hu=>hz.asy (h3 u hu)) (fun u hu=>h4 u hu),by simpa only [List.append_assoc,List.cons_append] using hA⟩
   have:=List.perm_middle (a:=x) (l₁:=Y.take r) (l₂:=Y.drop r)
   rwa [List.take_append_drop] at this
end
end Go.Dn

namespace Go.Dn
open Go Go.Proofs.C1
set_option maxRecDepth 100000
attribute [local irreducible] afterS keepE
section
variable {gt:GT} {C:CallT} {R:List Rs} {ty:TypeId} {t b:Nat}
abbrev E_m2 (t:Nat) (xs:List AV) (m:Nat) (g:AV) (i j:Nat):Env:=[(0,.val (slA t xs.length xs)),(2,.val (.int .i64 m)),(4,.val g),(14,.val (.int .i64 i)),(15,.val (.int .i64 j))]
abbrev E_m2b (t:Nat) (xs:List AV) (i k:Nat):Env:=[(0,.val (slA t xs.length xs)),(14,.val (.int .i64 i)),(17,.val (.int .i64 k))]
set_option maxHeartbeats 8000000 in
theorem mrg2_wp (hm:MonoC C) {f:FuncId} {cs:List AV} {n:Nat} {cz:Nat→Nat→Int} (hz:Cz cz) (hc:CmpC C f cs R ty t b n cz) {S:St} {xs:List AV} {P Y Q:List Nat} {x:Nat} (hY:∀y∈Y,y<n) (hxn:x<n) (hs:Srt (leZ cz) Y) (h2:2≤Y.length) (hx:xs.length=(P++(Y++(x::Q))).length) (hl:(P++(Y++(x::Q))).length<1152921504606846976) (hA:ArS S R ty t b (P++(Y++(x::Q)))) :
  wpF gt C F181 [slA t xs.length xs,.int .i64 P.length,.int .i64 ((P.length+Y.length:Nat):Int),.int .i64 ((P.length+Y.length+1:Nat):Int),.fn f [] cs] S fun r S'=>r=.ret (.tup [])∧∃Z,Z.Perm (Y++[x])∧Srt (leZ cz) Z∧ArS S' R ty t b (P++(Z++Q)):=by
 have hlen:(P++(Y++(x::Q))).length=P.length+(Y.length+(Q.length+1)):=by simp only [List.length_append,List.length_cons]
 rw [hlen] at hl
 refine⟨rfl,?_⟩
 refine goW ?_
 rw [show wr .i64 (((P.length+Y.length:Nat):Int)-(P.length:Int))=(Y.length:Int) by rw [wr64 (by omega) (by omega)];omega,eqI_false (show ¬(Y.length:Int)=1 by omega)]
 refine goW ?_
 rw [show wr .i64 (((P.length+Y.length+1:Nat):Int)-((P.length+Y.length:Nat):Int))=1 by rw [wr64 (by omega) (by omega)];omega]
 refine goW ?_
 refine loop_rule hm (α:=Nat×Nat) (fun a env S'=>env=E_m2 t xs (P.length+Y.length) (.fn f [] cs) (P.length+a.1) (P.length+a.2)∧a.1≤a.2∧a.2≤Y.length∧S'=S∧(∀u∈Y.take a.1,0≤cz x u)∧(∀u∈Y.drop a.2,cz x u<0)) (fun a=>a.2-a.1) ?_ (a:=(0,Y.length)) ⟨rfl,Nat.zero_le _,Nat.le_refl _,rfl,by simp,by simp⟩
 rintro⟨i,j⟩ env S' ⟨rfl,h1,h2',rfl,h3,h4⟩
 simp only at h1 h2' h3 h4
 refine goW ?_
 by_cases hij:((P.length+i:Nat):Int)<((P.length+j:Nat):Int)
 ·rw [decide_eq_true hij]
  obtain⟨r,hr⟩:∃r,r=(i+j) / 2:=⟨_,rfl⟩
  have hri:i≤r:=by omega
  have hrj:r<j:=by omega
  have hrY:r<Y.length:=by omega
  have g0:(P++(Y++(x::Q)))[P.length+Y.length]? = some x:=by rw [←List.append_assoc];exact get_mid (by rw [List.length_append])
  have g1:(P++(Y++(x::Q)))[P.length+r]? = some Y[r]:=by
   rw [List.getElem?_append_right (by omega),show P.length+r-P.length=r by omega,List.getElem?_append_left hrY]
   exact List.getElem?_eq_getElem hrY
  have hcall:=hc S' _ x Y[r] hA hxn (hY _ (List.getElem_mem hrY))
  have t1:=srt_take_le hz hs hrY
  have t2:=srt_drop_ge hz hs hrY
  generalize Y[r]=y at g1 hcall t1 t2
  refine goW ?_
  rw [midW (by omega),show (P.length+i+(P.length+j)) / 2=P.length+r by omega]
  refine step_ruleDO rfl rfl (sx_ia (k:=P.length+Y.length) rfl rfl (by omega)) ?_
  refine goW ?_
  refine step_ruleDO rfl rfl (sx_ldEl (agg:=false) rfl (hA.els hx) (ints_get g0) rfl) ?_
  refine goW ?_
  refine step_ruleDO rfl rfl (sx_ia (k:=P.length+r) rfl rfl (by omega)) ?_
  refine goW ?_
  refine step_ruleDO rfl rfl (sx_ldEl (agg:=false) rfl (hA.els hx) (ints_get g1) rfl) ?_
  refine goW ?_
  refine call_ruleD (by rfl) (hm _ _ _ _ _ hcall ?_)
  rintro r' S3 ⟨rfl,rfl⟩
  refine goW ?_
  by_cases hlt:cz x y<0
  ·rw [decide_eq_true hlt]
   refine goW ?_
   refine⟨(i,r),⟨rfl,hri,by simp only;omega,rfl,h3,fun u hu=>?_⟩,by simp only;omega⟩
   rcases Int.lt_or_le (cz x u) 0 with q | q
   ·exact q
   ·have:0≤cz x y:=hz.tr (a:=y) (b:=u) (c:=x) (t2 u hu) q
    omega
  ·rw [decide_eq_false hlt]
   refine goW ?_
   refine⟨(r+1,j),⟨?_,by simp only;omega,h2',rfl,fun u hu=>?_,h4⟩,by simp only;omega⟩
   ·rw [wrNat (by omega)]
    try rfl
   ·exact hz.tr (a:=u) (b:=y) (c:=x) (t1 u hu) (by omega)
 ·rw [decide_eq_false hij]
  obtain rfl:i=j:=by omega
  clear h1 hij
  refine goW ?_
  refine loop_rule hm (α:=Nat) (fun r env S'=>env=E_m2b t xs (P.length+i) (P.length+r)∧i≤r∧r≤Y.length∧ArS S' R ty t b (P++(Y.take r++(x::(Y.drop r++Q))))) (fun r=>r) ?_ (a:=Y.length) ⟨rfl,h2',Nat.le_refl _,by simpa using hA⟩
  rintro r env S2 ⟨rfl,hri,hrY,hA⟩
  have hxr:xs.length=(P++(Y.take r++(x::(Y.drop r++Q)))).length:=by rw [hx];simp only [List.length_append,List.length_cons,List.length_take,List.length_drop];omega
  refine goW ?_
  by_cases hlt:((P.length+r:Nat):Int) > ((P.length+i:Nat):Int)
  ·rw [decide_eq_true hlt]
   obtain⟨q,rfl⟩:∃q,r=q+1:=⟨r-1,by omega⟩
   have hqY:q<Y.length:=by omega
   have hd:Y.drop q=Y[q]::Y.drop (q+1):=List.drop_eq_getElem_cons hqY
   have htk:Y.take (q+1)=Y.take q++[Y[q]]:=List.take_succ_eq_append_getElem hqY
   have hltk:(Y.take q).length=q:=by rw [List.length_take];omega
   rw [htk] at hA hxr
   generalize Y[q]=y at hA hxr hd
   clear htk
   have g0:(P++((Y.take q++[y])++(x::(Y.drop (q+1)++Q))))[P.length+q+1]? = some x:=by
    rw [←List.append_assoc];exact get_mid (by simp only [List.length_append,List.length_cons,List.length_nil];omega)
   have g1:(P++((Y.take q++[y])++(x::(Y.drop (q+1)++Q))))[P.length+q]? = some y:=by
    rw [show P++((Y.take q++[y])++(x::(Y.drop (q+1)++Q)))=(P++Y.take q)++(y::(x::(Y.drop (q+1)++Q))) by simp only [List.append_assoc,List.cons_append,List.nil_append]]
    exact get_mid (by rw [List.length_append];omega)
   have s1:(P++((Y.take q++[y])++(x::(Y.drop (q+1)++Q)))).set (P.length+q+1) y=(P++Y.take q)++(y::(y::(Y.drop (q+1)++Q))):=by
    rw [←List.append_assoc,set_mid (by simp only [List.length_append,List.length_cons,List.length_nil];omega)]
    simp only [List.append_assoc,List.cons_append,List.nil_append]
   have s2:((P++Y.take q)++(y::(y::(Y.drop (q+1)++Q)))).set (P.length+q) x=P++(Y.take q++(x::(Y.drop q++Q))):=by
    rw [set_mid (by rw [List.length_append];omega),hd]
    simp only [List.append_assoc,List.cons_append]
   have hl1:((P++Y.take q)++(y::(y::(Y.drop (q+1)++Q)))).length=xs.length:=by rw [←s1,List.length_set,hxr]
   generalize P++((Y.take q++[y])++(x::(Y.drop (q+1)++Q)))=l at hA g0 g1 s1 hxr
   have w1:wr .i64 (((P.length+(q+1):Nat):Int)-1)=((P.length+q:Nat):Int):=by rw [wr64 (by omega) (by omega)];omega
   refine goW ?_
   rw [w1]
   refine step_ruleDO rfl rfl (sx_ia (k:=P.length+q) rfl rfl (by omega)) ?_
   refine goW ?_
   refine step_ruleDO rfl rfl (sx_ldEl (agg:=false) rfl (hA.els hxr) (ints_get g1) rfl) ?_
   refine goW ?_
   refine step_ruleDO rfl rfl (sx_ia (k:=P.length+q+1) rfl rfl (by omega)) ?_
   refine goW ?_
   refine step_ruleDO rfl rfl (sx_ldEl (agg:=false) rfl (hA.els hxr) (ints_get g0) rfl) ?_
   refine goW ?_
   refine step_ruleDO rfl rfl (sx_ia (k:=P.length+q+1) rfl rfl (by omega)) ?_
   refine goW ?_
   refine st_runPD (hA.st hxr rfl rfl (by omega)) (by trivial) rfl rfl ?_
   intro S4 hA
   rw [s1] at hA
   refine goW ?_
   refine step_ruleDO rfl rfl (sx_ia (k:=P.length+q) rfl rfl (by omega)) ?_
   refine goW ?_
   refine st_runPD (hA.st hl1.symm rfl rfl (by omega)) (by trivial) rfl rfl ?_
   intro S5 hA
   rw [s2] at hA
   refine goW ?_
   refine⟨q,⟨?_,by omega,by omega,hA⟩,by omega⟩
   rw [w1]
  ·rw [decide_eq_false hlt]
   obtain rfl:r=i:=by omega
   refine goW ?_
   refine⟨_,rfl,rfl,Y.take r++(x::Y.drop r),?_,srt_put hs (fun u hu=>h3 u hu) (fun u hu=>hz.asy (h4 u hu)),by simpa only [List.append_assoc,List.cons_append] using hA⟩
   have:=List.perm_middle (a:=x) (l₁:=Y.take r) (l₂:=Y.drop r)
   rw [List.take_append_drop] at this
   exact this.trans (List.perm_append_singleton x Y).symm
end
end Go.Dn

namespace Go.Dn
open Go Go.Proofs.C1
set_option maxRecDepth 100000
attribute [local irreducible] afterS keepE
section
variable {gt:GT} {C:CallT} {R:List Rs} {ty:TypeId} {t b:Nat}
set_option maxHeartbeats 8000000 in
theorem mrgLast_wp (hm:MonoC C) {f:FuncId} {cs:List AV} {n k:Nat} {cz:Nat→Nat→Int} (ih:MrgC C R ty t b n (.fn f [] cs) cz k) {S:St} {xs:List AV} {P B D Q:List Nat} {mid e c:Nat} {z:Env} {G:St→Prop}
  (h1:mid=P.length) (h2:e=P.length+B.length) (h3:c=P.length+B.length+D.length) (hk:B≠[]→D≠[]→B.length+D.length≤k) (hn:∀x∈B++D,x<n) (hB:Srt (leZ cz) B) (hD:Srt (leZ cz) D)
  (hx:xs.length=(P++(B++(D++Q))).length) (hl:(P++(B++(D++Q))).length<1152921504606846976) (hA:ArS S R ty t b (P++(B++(D++Q))))
  (fin:∀S' Z,Z.Perm (B++D)→Srt (leZ cz) Z→ArS S' R ty t b (P++(Z++Q))→G S') :
  wpD gt C F181.body.rt.rt.rt.rt.rt.rt.rt.rt.rt.rt.rt ((0,.val (slA t xs.length xs))::(3,.val (.int .i64 c))::(4,.val (.fn f [] cs))::(18,.val (.int .i64 mid))::(24,.val (.int .i64 e))::z) S (bodyQ gt F181.res fun r S'=>r=.ret (.tup [])∧G S'):=by
 have triv:(B=[]∨D=[])→G S:=fun h=>fin S (B++D) (List.Perm.refl _) (by rcases h with rfl | rfl;exact hD;rw [List.append_nil];exact hB) (by rw [List.append_assoc];exact hA)
 conv=>whnf
 refine goW ?_
 by_cases c1:(mid:Int)<(e:Int)
 ·rw [decide_eq_true c1]
  refine goW ?_
  by_cases c2:(e:Int)<(c:Int)
  ·rw [decide_eq_true c2]
   have b1:B≠[]:=fun h=>by rw [h] at h2;simp at h2;omega
   have b2:D≠[]:=fun h=>by rw [h] at h3;simp at h3;omega
   refine goW ?_
   refine call_rule (by rfl) (hm _ _ _ _ _ (ih S xs P B D Q mid e c (hk b1 b2) h1 h2 h3 b1 b2 hn hB hD hx hl hA) ?_)
   rintro r S2 ⟨rfl,Z,z1,z2,z3⟩
   refine goW ?_
   exact⟨_,rfl,rfl,fin S2 Z z1 z2 z3⟩
  ·rw [decide_eq_false c2]
   have:D=[]:=List.eq_nil_of_length_eq_zero (by omega)
   refine goW ?_
   exact⟨_,rfl,rfl,triv (.inr this)⟩
 ·rw [decide_eq_false c1]
  have:B=[]:=List.eq_nil_of_length_eq_zero (by omega)
  refine goW ?_
  exact⟨_,rfl,rfl,triv (.inl this)⟩
set_option maxHeartbeats 8000000 in
theorem mrgLast2_wp (hm:MonoC C) {f:FuncId} {cs:List AV} {n k:Nat} {cz:Nat→Nat→Int} (ih:MrgC C R ty t b n (.fn f [] cs) cz k) {S:St} {xs:List AV} {P B D Q:List Nat} {mid e c:Nat} {o1 o2:Ent} {z:Env} {G:St→Prop}
  (h1:mid=P.length) (h2:e=P.length+B.length) (h3:c=P.length+B.length+D.length) (hk:B≠[]→D≠[]→B.length+D.length≤k) (hn:∀x∈B++D,x<n) (hB:Srt (leZ cz) B) (hD:Srt (leZ cz) D)
  (hx:xs.length=(P++(B++(D++Q))).length) (hl:(P++(B++(D++Q))).length<1152921504606846976) (hA:ArS S R ty t b (P++(B++(D++Q))))
  (fin:∀S' Z,Z.Perm (B++D)→Srt (leZ cz) Z→ArS S' R ty t b (P++(Z++Q))→G S') :
  wpD gt C F181.body.rt.rt.rt.rt.rt.rt.rt.rt.rt.rt.rt ((0,.val (slA t xs.length xs))::(1,o1)::(3,.val (.int .i64 c))::(4,.val (.fn f [] cs))::(18,.val (.int .i64 mid))::(20,o2)::(24,.val (.int .i64 e))::z) S (bodyQ gt F181.res fun r S'=>r=.ret (.tup [])∧G S'):=by
 have triv:(B=[]∨D=[])→G S:=fun h=>fin S (B++D) (List.Perm.refl _) (by rcases h with rfl | rfl;exact hD;rw [List.append_nil];exact hB) (by rw [List.append_assoc];exact hA)
 conv=>whnf
 refine goW ?_
 by_cases c1:(mid:Int)<(e:Int)
 ·rw [decide_eq_true c1]
  refine goW ?_
  by_cases c2:(e:Int)<(c:Int)
  ·rw [decide_eq_true c2]
   have b1:B≠[]:=fun h=>by rw [h] at h2;simp at h2;omega
   have b2:D≠[]:=fun h=>by rw [h] at h3;simp at h3;omega
   refine goW ?_
   refine call_rule (by rfl) (hm _ _ _ _ _ (ih S xs P B D Q mid e c (hk b1 b2) h1 h2 h3 b1 b2 hn hB hD hx hl hA) ?_)
   rintro r S2 ⟨rfl,Z,z1,z2,z3⟩
   refine goW ?_
   exact⟨_,rfl,rfl,fin S2 Z z1 z2 z3⟩
  ·rw [decide_eq_false c2]
   have:D=[]:=List.eq_nil_of_length_eq_zero (by omega)
   refine goW ?_
   exact⟨_,rfl,rfl,triv (.inr this)⟩
 ·rw [decide_eq_false c1]
  have:B=[]:=List.eq_nil_of_length_eq_zero (by omega)
  refine goW ?_
  exact⟨_,rfl,rfl,triv (.inl this)⟩
set_option maxHeartbeats 8000000 in
theorem mrgFirst_wp (hm:MonoC C) {f:FuncId} {cs:List AV} {n k:Nat} {cz:Nat→Nat→Int} (ih:MrgC C R ty t b n (.fn f [] cs) cz k) {S:St} {xs:List AV} {P A V B D Q:List Nat} {a mid s e c:Nat} {z:Env} {G:St→Prop}
  (h0:a=P.length) (h1:mid=P.length+A.length+V.length) (h2:s=P.length+A.length) (h3:e=mid+B.length) (h4:c=e+D.length) (hk1:A≠[]→V≠[]→A.length+V.length≤k) (hk2:B≠[]→D≠[]→B.length+D.length≤k)
  (hn:∀x∈(A++V)++(B++D),x<n) (sA:Srt (leZ cz) A) (sV:Srt (leZ cz) V) (sB:Srt (leZ cz) B) (sD:Srt (leZ cz) D)
  (hx:xs.length=(P++(A++(V++(B++(D++Q))))).length) (hl:(P++(A++(V++(B++(D++Q))))).length<1152921504606846976) (hA:ArS S R ty t b (P++(A++(V++(B++(D++Q))))))
  (fin:∀S' Z1 Z2,Z1.Perm (A++V)→Srt (leZ cz) Z1→Z2.Perm (B++D)→Srt (leZ cz) Z2→ArS S' R ty t b (P++((Z1++Z2)++Q))→G S') :
  wpD gt C F181.body.rt.rt.rt.rt.rt.rt.rt.rt.rt.rt ((0,.val (slA t xs.length xs))::(1,.val (.int .i64 a))::(3,.val (.int .i64 c))::(4,.val (.fn f [] cs))::(18,.val (.int .i64 mid))::(20,.val (.int .i64 s))::(24,.val (.int .i64 e))::z) S (bodyQ gt F181.res fun r S'=>r=.ret (.tup [])∧G S'):=by
 have hlen:(P++(A++(V++(B++(D++Q))))).length=P.length+(A.length+(V.length+(B.length+(D.length+Q.length)))):=by simp only [List.length_append]
 have next:∀(S:St) (Z1:List Nat) (z:Env),Z1.Perm (A++V)→Srt (leZ cz) Z1→ArS S R ty t b (P++(Z1++(B++(D++Q))))→wpD gt C F181.body.rt.rt.rt.rt.rt.rt.rt.rt.rt.rt.rt ((0,.val (slA t xs.length xs))::(3,.val (.int .i64 c))::(4,.val (.fn f [] cs))::(18,.val (.int .i64 mid))::(24,.val (.int .i64 e))::z) S (bodyQ gt F181.res fun r S'=>r=.ret (.tup [])∧G S'):=fun S Z1 z p1 s1 hA=>by
  have zl:=p1.length_eq
  rw [List.length_append] at zl
  refine mrgLast_wp (gt:=gt) hm ih (P:=P++Z1) (B:=B) (D:=D) (Q:=Q) (by rw [List.length_append];omega) (by rw [List.length_append];omega) (by rw [List.length_append];omega) hk2 (fun x hx=>hn x (List.mem_append_right _ hx)) sB sD (by rw [hx];simp only [List.length_append];omega) (by rw [hlen] at hl;simp only [List.length_append];omega) (by rw [List.append_assoc];exact hA) ?_
  intro S' Z2 p2 s2 hA2
  exact fin S' Z1 Z2 p1 s1 p2 s2 (by simpa only [List.append_assoc] using hA2)
 have triv:(A=[]∨V=[])→∀(o1 o2:Ent) z,wpD gt C F181.body.rt.rt.rt.rt.rt.rt.rt.rt.rt.rt.rt ((0,.val (slA t xs.length xs))::(1,o1)::(3,.val (.int .i64 c))::(4,.val (.fn f [] cs))::(18,.val (.int .i64 mid))::(20,o2)::(24,.val (.int .i64 e))::z) S (bodyQ gt F181.res fun r S'=>r=.ret (.tup [])∧G S'):=fun h o1 o2 z =>
  mrgLast2_wp (gt:=gt) hm ih (P:=P++(A++V)) (B:=B) (D:=D) (Q:=Q) (by simp only [List.length_append];omega) (by simp only [List.length_append];omega) (by simp only [List.length_append];omega) hk2 (fun x hx=>hn x (List.mem_append_right _ hx)) sB sD (by rw [hx];simp only [List.length_append];omega) (by rw [hlen] at hl;simp only [List.length_append];omega) (by simpa only [List.append_assoc] using hA) fun S' Z2 p2 s2 hA2 =>
   fin S' (A++V) Z2 (List.Perm.refl _) (by rcases h with rfl | rfl;exact sV;rw [List.append_nil];exact sA) p2 s2 (by simpa only [List.append_assoc] using hA2)
 conv=>whnf
 refine goW ?_
 by_cases c1:(a:Int)<(s:Int)
 ·rw [decide_eq_true c1]
  refine goW ?_
  by_cases c2:(s:Int)<(mid:Int)
  ·rw [decide_eq_true c2]
   have b1:A≠[]:=fun h=>by rw [h] at h2;simp at h2;omega
   have b2:V≠[]:=fun h=>by rw [h] at h1;simp at h1;omega
   refine goW ?_
   refine call_rule (by rfl) (hm _ _ _ _ _ (ih S xs P A V (B++(D++Q)) a s mid (hk1 b1 b2) h0 h2 h1 b1 b2 (fun x hx=>hn x (List.mem_append_left _ hx)) sA sV hx hl hA) ?_)
   rintro r S2 ⟨rfl,Z1,z1,z2,z3⟩
   have next:=next S2 Z1 [] z1 z2 z3
   refine goK ?_
   with_unfolding_all exact next
  ·rw [decide_eq_false c2]
   have triv:=triv (.inr (List.eq_nil_of_length_eq_zero (by omega)))
   refine goK ?_
   with_unfolding_all exact triv _ _ _
 ·rw [decide_eq_false c1]
  have triv:=triv (.inl (List.eq_nil_of_length_eq_zero (by omega)))
  refine goK ?_
  with_unfolding_all exact triv _ _ _
set_option maxHeartbeats 8000000 in
theorem mrgFirst2_wp (hm:MonoC C) {f:FuncId} {cs:List AV} {n k:Nat} {cz:Nat→Nat→Int} (ih:MrgC C R ty t b n (.fn f [] cs) cz k) {S:St} {xs:List AV} {P A V B D Q:List Nat} {a mid s e c:Nat} {o:Ent} {z:Env} {G:St→Prop}
  (h0:a=P.length) (h1:mid=P.length+A.length+V.length) (h2:s=P.length+A.length) (h3:e=mid+B.length) (h4:c=e+D.length) (hk1:A≠[]→V≠[]→A.length+V.length≤k) (hk2:B≠[]→D≠[]→B.length+D.length≤k)
  (hn:∀x∈(A++V)++(B++D),x<n) (sA:Srt (leZ cz) A) (sV:Srt (leZ cz) V) (sB:Srt (leZ cz) B) (sD:Srt (leZ cz) D)
  (hx:xs.length=(P++(A++(V++(B++(D++Q))))).length) (hl:(P++(A++(V++(B++(D++Q))))).length<1152921504606846976) (hA:ArS S R ty t b (P++(A++(V++(B++(D++Q))))))
  (fin:∀S' Z1 Z2,Z1.Perm (A++V)→Srt (leZ cz) Z1→Z2.Perm (B++D)→Srt (leZ cz) Z2→ArS S' R ty t b (P++((Z1++Z2)++Q))→G S') :
  wpD gt C F181.body.rt.rt.rt.rt.rt.rt.rt.rt.rt.rt ((0,.val (slA t xs.length xs))::(1,.val (.int .i64 a))::(2,o)::(3,.val (.int .i64 c))::(4,.val (.fn f [] cs))::(18,.val (.int .i64 mid))::(20,.val (.int .i64 s))::(24,.val (.int .i64 e))::z) S (bodyQ gt F181.res fun r S'=>r=.ret (.tup [])∧G S'):=by
 have hlen:(P++(A++(V++(B++(D++Q))))).length=P.length+(A.length+(V.length+(B.length+(D.length+Q.length)))):=by simp only [List.length_append]
 have next:∀(S:St) (Z1:List Nat) (z:Env),Z1.Perm (A++V)→Srt (leZ cz) Z1→ArS S R ty t b (P++(Z1++(B++(D++Q))))→wpD gt C F181.body.rt.rt.rt.rt.rt.rt.rt.rt.rt.rt.rt ((0,.val (slA t xs.length xs))::(3,.val (.int .i64 c))::(4,.val (.fn f [] cs))::(18,.val (.int .i64 mid))::(24,.val (.int .i64 e))::z) S (bodyQ gt F181.res fun r S'=>r=.ret (.tup [])∧G S'):=fun S Z1 z p1 s1 hA=>by
  have zl:=p1.length_eq
  rw [List.length_append] at zl
  refine mrgLast_wp (gt:=gt) hm ih (P:=P++Z1) (B:=B) (D:=D) (Q:=Q) (by rw [List.length_append];omega) (by rw [List.length_append];omega) (by rw [List.length_append];omega) hk2 (fun x hx=>hn x (List.mem_append_right _ hx)) sB sD (by rw [hx];simp only [List.length_append];omega) (by rw [hlen] at hl;simp only [List.length_append];omega) (by rw [List.append_assoc];exact hA) ?_
  intro S' Z2 p2 s2 hA2
  exact fin S' Z1 Z2 p1 s1 p2 s2 (by simpa only [List.append_assoc] using hA2)
 have triv:(A=[]∨V=[])→∀(o1 o2:Ent) z,wpD gt C F181.body.rt.rt.rt.rt.rt.rt.rt.rt.rt.rt.rt ((0,.val (slA t xs.length xs))::(1,o1)::(3,.val (.int .i64 c))::(4,.val (.fn f [] cs))::(18,.val (.int .i64 mid))::(20,o2)::(24,.val (.int .i64 e))::z) S (bodyQ gt F181.res fun r S'=>r=.ret (.tup [])∧G S'):=fun h o1 o2 z =>
  mrgLast2_wp (gt:=gt) hm ih (P:=P++(A++V)) (B:=B) (D:=D) (Q:=Q) (by simp only [List.length_append];omega) (by simp only [List.length_append];omega) (by simp only [List.length_append];omega) hk2 (fun x hx=>hn x (List.mem_append_right _ hx)) sB sD (by rw [hx];simp only [List.length_append];omega) (by rw [hlen] at hl;simp only [List.length_append];omega) (by simpa only [List.append_assoc] using hA) fun S' Z2 p2 s2 hA2 =>
   fin S' (A++V) Z2 (List.Perm.refl _) (by rcases h with rfl | rfl;exact sV;rw [List.append_nil];exact sA) p2 s2 (by simpa only [List.append_assoc] using hA2)
 conv=>whnf
 refine goW ?_
 by_cases c1:(a:Int)<(s:Int)
 ·rw [decide_eq_true c1]
  refine goW ?_
  by_cases c2:(s:Int)<(mid:Int)
  ·rw [decide_eq_true c2]
   have b1:A≠[]:=fun h=>by rw [h] at h2;simp at h2;omega
   have b2:V≠[]:=fun h=>by rw [h] at h1;simp at h1;omega
   refine goW ?_
   refine call_rule (by rfl) (hm _ _ _ _ _ (ih S xs P A V (B++(D++Q)) a s mid (hk1 b1 b2) h0 h2 h1 b1 b2 (fun x hx=>hn x (List.mem_append_left _ hx)) sA sV hx hl hA) ?_)
   rintro r S2 ⟨rfl,Z1,z1,z2,z3⟩
   have next:=next S2 Z1 [] z1 z2 z3
   refine goK ?_
   with_unfolding_all exact next
  ·rw [decide_eq_false c2]
   have triv:=triv (.inr (List.eq_nil_of_length_eq_zero (by omega)))
   refine goK ?_
   with_unfolding_all exact triv _ _ _
 ·rw [decide_eq_false c1]
  have triv:=triv (.inl (List.eq_nil_of_length_eq_zero (by omega)))
  refine goK ?_
  with_unfolding_all exact triv _ _ _
end
end Go.Dn

namespace Go.Dn
open Go Go.Proofs.C1
set_option maxRecDepth 100000
attribute [local irreducible] afterS keepE
section
variable {gt:GT} {C:CallT} {R:List Rs} {ty:TypeId} {t b:Nat}
set_option maxHeartbeats 8000000 in
theorem mrgRot_wp (hm:MonoC C) {f:FuncId} {cs:List AV} {n k:Nat} {cz:Nat→Nat→Int} (ih:MrgC C R ty t b n (.fn f [] cs) cz k) (hr:RotC C R ty t b (.fn f [] cs)) {S:St} {xs:List AV} {P A V B D Q:List Nat} {a m mid s e c:Nat} {z:Env} {G:St→Prop}
  (h0:a=P.length) (hmm:m=P.length+A.length+B.length) (h1:mid=P.length+A.length+V.length) (h2:s=P.length+A.length) (h3:e=mid+B.length) (h4:c=e+D.length) (hk1:A≠[]→V≠[]→A.length+V.length≤k) (hk2:B≠[]→D≠[]→B.length+D.length≤k)
  (hn:∀x∈(A++V)++(B++D),x<n) (sA:Srt (leZ cz) A) (sV:Srt (leZ cz) V) (sB:Srt (leZ cz) B) (sD:Srt (leZ cz) D)
  (hx:xs.length=(P++(A++(B++(V++(D++Q))))).length) (hl:(P++(A++(B++(V++(D++Q))))).length<1152921504606846976) (hA:ArS S R ty t b (P++(A++(B++(V++(D++Q))))))
  (fin:∀S' Z1 Z2,Z1.Perm (A++V)→Srt (leZ cz) Z1→Z2.Perm (B++D)→Srt (leZ cz) Z2→ArS S' R ty t b (P++((Z1++Z2)++Q))→G S') :
  wpD gt C F181.body.rt.rt.rt.rt.rt.rt.rt.rt.rt ((0,.val (slA t xs.length xs))::(1,.val (.int .i64 a))::(2,.val (.int .i64 m))::(3,.val (.int .i64 c))::(4,.val (.fn f [] cs))::(18,.val (.int .i64 mid))::(20,.val (.int .i64 s))::(24,.val (.int .i64 e))::z) S (bodyQ gt F181.res fun r S'=>r=.ret (.tup [])∧G S'):=by
 have hlen:(P++(A++(B++(V++(D++Q))))).length=P.length+(A.length+(B.length+(V.length+(D.length+Q.length)))):=by simp only [List.length_append]
 have hlen2:(P++(A++(V++(B++(D++Q))))).length=P.length+(A.length+(B.length+(V.length+(D.length+Q.length)))):=by simp only [List.length_append];omega
 rw [hlen] at hx hl
 have triv:(B=[]∨V=[])→∀(o:Ent) z,wpD gt C F181.body.rt.rt.rt.rt.rt.rt.rt.rt.rt.rt ((0,.val (slA t xs.length xs))::(1,.val (.int .i64 a))::(2,o)::(3,.val (.int .i64 c))::(4,.val (.fn f [] cs))::(18,.val (.int .i64 mid))::(20,.val (.int .i64 s))::(24,.val (.int .i64 e))::z) S (bodyQ gt F181.res fun r S'=>r=.ret (.tup [])∧G S'):=fun h o z =>
  mrgFirst2_wp (gt:=gt) hm ih (P:=P) (A:=A) (V:=V) (B:=B) (D:=D) (Q:=Q) h0 h1 h2 h3 h4 hk1 hk2 hn sA sV sB sD (by rw [hlen2];exact hx) (by rw [hlen2];exact hl) (by rcases h with rfl | rfl<;>exact hA) fin
 have next:∀(S:St) z,ArS S R ty t b (P++(A++(V++(B++(D++Q)))))→wpD gt C F181.body.rt.rt.rt.rt.rt.rt.rt.rt.rt.rt ((0,.val (slA t xs.length xs))::(1,.val (.int .i64 a))::(3,.val (.int .i64 c))::(4,.val (.fn f [] cs))::(18,.val (.int .i64 mid))::(20,.val (.int .i64 s))::(24,.val (.int .i64 e))::z) S (bodyQ gt F181.res fun r S'=>r=.ret (.tup [])∧G S'):=fun S z hA =>
  mrgFirst_wp (gt:=gt) hm ih (P:=P) (A:=A) (V:=V) (B:=B) (D:=D) (Q:=Q) h0 h1 h2 h3 h4 hk1 hk2 hn sA sV sB sD (by rw [hlen2];exact hx) (by rw [hlen2];exact hl) hA fin
 conv=>whnf
 refine goW ?_
 by_cases c1:(s:Int)<(m:Int)
 ·rw [decide_eq_true c1]
  refine goW ?_
  by_cases c2:(m:Int)<(e:Int)
  ·rw [decide_eq_true c2]
   have b1:B≠[]:=fun h=>by rw [h] at hmm;simp at hmm;omega
   have b2:V≠[]:=fun h=>by rw [h] at h1;simp at h1;omega
   refine goW ?_
   refine call_rule (by rfl) (hm _ _ _ _ _ (hr S xs (P++A) B V (D++Q) s m e (by rw [List.length_append];exact h2) (by rw [List.length_append];exact hmm) (by rw [List.length_append];omega) b1 b2 (by simp only [List.length_append];omega) (by simp only [List.length_append];omega) (by rw [List.append_assoc];exact hA)) ?_)
   rintro r S2 ⟨rfl,hA2⟩
   rw [List.append_assoc] at hA2
   have next:=next S2 [] hA2
   refine goK ?_
   with_unfolding_all exact next
  ·rw [decide_eq_false c2]
   have triv:=triv (.inr (List.eq_nil_of_length_eq_zero (by omega)))
   refine goK ?_
   with_unfolding_all exact triv _ _
 ·rw [decide_eq_false c1]
  have triv:=triv (.inl (List.eq_nil_of_length_eq_zero (by omega)))
  refine goK ?_
  with_unfolding_all exact triv _ _
abbrev E_sr (t:Nat) (xs:List AV) (a m c:Nat) (g:AV) (mid n s r p:Nat):Env:=[(0,.val (slA t xs.length xs)),(1,.val (.int .i64 a)),(2,.val (.int .i64 m)),(3,.val (.int .i64 c)),(4,.val g),(18,.val (.int .i64 mid)),(19,.val (.int .i64 n)),(20,.val (.int .i64 s)),(21,.val (.int .i64 r)),(22,.val (.int .i64 p))]
set_option maxHeartbeats 8000000 in
theorem mrgSeek_wp (hm:MonoC C) {f:FuncId} {cs:List AV} {n k:Nat} {cz:Nat→Nat→Int} (hz:Cz cz) (hc:CmpC C f cs R ty t b n cz) (ih:MrgC C R ty t b n (.fn f [] cs) cz k) (hr:RotC C R ty t b (.fn f [] cs)) {S:St} {xs:List AV} {P X Y Q:List Nat} {a m c mid nn lo hi hN l0 h0:Nat} {z:Env} {G:St→Prop}
  (ha:a=P.length) (hmm:m=P.length+X.length) (hcc:c=P.length+X.length+Y.length) (hmid:mid=P.length+hN) (hnn:nn=mid+m) (hlo:lo=P.length+l0) (hhi:hi=P.length+h0)
  (rng:(l0=0∧h0=X.length∧X.length≤hN∧hN≤Y.length)∨(l0+Y.length=hN∧h0=hN∧hN≤X.length)) (hk1:hN≤k) (hk2:X.length+Y.length≤k+hN)
  (hn:∀x∈X++Y,x<n) (sX:Srt (leZ cz) X) (sY:Srt (leZ cz) Y) (hN0:0<hN)
  (hx:xs.length=(P++(X++(Y++Q))).length) (hl:(P++(X++(Y++Q))).length<1152921504606846976) (hA:ArS S R ty t b (P++(X++(Y++Q))))
  (fin:∀S' Z,Z.Perm (X++Y)→Srt (leZ cz) Z→ArS S' R ty t b (P++(Z++Q))→G S') :
  wpD gt C F181.body.rt.rt.rt.rt.rt.rt ((0,.val (slA t xs.length xs))::(1,.val (.int .i64 a))::(2,.val (.int .i64 m))::(3,.val (.int .i64 c))::(4,.val (.fn f [] cs))::(18,.val (.int .i64 mid))::(19,.val (.int .i64 nn))::(20,.val (.int .i64 lo))::(21,.val (.int .i64 hi))::z) S (bodyQ gt F181.res fun r S'=>r=.ret (.tup [])∧G S'):=by
 have hlen:(P++(X++(Y++Q))).length=P.length+(X.length+(Y.length+Q.length)):=by simp only [List.length_append]
 have hl':=hl
 rw [hlen] at hl'
 have wp:wr .i64 ((nn:Int)-1)=((nn-1:Nat):Int):=by rw [wr64 (by omega) (by omega)];omega
 conv=>whnf
 refine goW ?_
 rw [wp]
 refine loop_rule hm (α:=Nat×Nat) (fun q env S'=>env=E_sr t xs a m c (.fn f [] cs) mid nn (P.length+q.1) (P.length+q.2) (nn-1)∧l0≤q.1∧q.1≤q.2∧q.2≤h0∧S'=S∧(q.1=l0∨∃x y,X[q.1-1]? = some x∧Y[hN-q.1]? = some y∧leZ cz x y)∧(q.2=h0∨∃x y,X[q.2]? = some x∧Y[hN-1-q.2]? = some y∧leZ cz y x)) (fun q=>q.2-q.1) ?_
  (a:=(l0,h0)) ⟨by rw [hlo,hhi],Nat.le_refl _,by simp only;omega,Nat.le_refl _,rfl,.inl rfl,.inl rfl⟩
 rintro⟨i,j⟩ env S' ⟨rfl,i0,hij0,j0,rfl,q1,q2⟩
 simp only at i0 hij0 j0 q1 q2
 refine goW ?_
 by_cases hij:((P.length+i:Nat):Int)<((P.length+j:Nat):Int)
 ·rw [decide_eq_true hij]
  obtain⟨r,hr⟩:∃r,r=(i+j) / 2:=⟨_,rfl⟩
  have hri:i≤r:=by omega
  have hrj:r<j:=by omega
  have hrX:r<X.length:=by omega
  have hrY:hN-1-r<Y.length:=by omega
  have g0:(P++(X++(Y++Q)))[P.length+r]? = some X[r]:=by
   rw [List.getElem?_append_right (by omega),show P.length+r-P.length=r by omega,List.getElem?_append_left hrX]
   exact List.getElem?_eq_getElem hrX
  have g1:(P++(X++(Y++Q)))[P.length+X.length+(hN-1-r)]? = some Y[hN-1-r]:=by
   rw [←List.append_assoc,List.getElem?_append_right (by rw [List.length_append];omega),show P.length+X.length+(hN-1-r)-(P++X).length=hN-1-r by rw [List.length_append];omega,List.getElem?_append_left hrY]
   exact List.getElem?_eq_getElem hrY
  have hcall:=hc S' _ Y[hN-1-r] X[r] hA (hn _ (List.mem_append_right _ (List.getElem_mem hrY))) (hn _ (List.mem_append_left _ (List.getElem_mem hrX)))
  have e0:X[r]? = some X[r]:=List.getElem?_eq_getElem hrX
  have e1:Y[hN-1-r]? = some Y[hN-1-r]:=List.getElem?_eq_getElem hrY
  generalize Y[hN-1-r]=y at g1 hcall e1
  generalize X[r]=x at g0 hcall e0
  have w1:wr .i64 (((nn-1:Nat):Int)-((P.length+r:Nat):Int))=((P.length+X.length+(hN-1-r):Nat):Int):=by rw [wr64 (by omega) (by omega)];omega
  refine goW ?_
  rw [midW (by omega),show (P.length+i+(P.length+j)) / 2=P.length+r by omega]
  refine goW ?_
  rw [w1]
  refine step_ruleDO rfl rfl (sx_ia (k:=P.length+X.length+(hN-1-r)) rfl rfl (by omega)) ?_
  refine goW ?_
  refine step_ruleDO rfl rfl (sx_ldEl (agg:=false) rfl (hA.els hx) (ints_get g1) rfl) ?_
  refine goW ?_
  refine step_ruleDO rfl rfl (sx_ia (k:=P.length+r) rfl rfl (by omega)) ?_
  refine goW ?_
  refine step_ruleDO rfl rfl (sx_ldEl (agg:=false) rfl (hA.els hx) (ints_get g0) rfl) ?_
  refine goW ?_
  refine call_ruleD (by rfl) (hm _ _ _ _ _ hcall ?_)
  rintro r' S3 ⟨rfl,rfl⟩
  refine goW ?_
  by_cases hlt:cz y x<0
  ·rw [decide_eq_true hlt]
   refine goW ?_
   refine⟨(i,r),⟨rfl,i0,hri,by simp only;omega,rfl,q1,.inr ⟨x,y,e0,e1,hz.asy hlt⟩⟩,by simp only;omega⟩
  ·rw [decide_eq_false hlt]
   refine goW ?_
   refine⟨(r+1,j),⟨?_,by simp only;omega,by simp only;omega,j0,rfl,.inr ⟨x,y,e0,?_,by unfold leZ;omega⟩,q2⟩,by simp only;omega⟩
   ·rw [wrNat (by omega)]
    try rfl
   ·rw [show hN-(r+1)=hN-1-r by omega];exact e1
 ·rw [decide_eq_false hij]
  obtain rfl:i=j:=by omega
  have iX:i≤X.length:=by omega
  have tY:hN-i≤Y.length:=by omega
  have tA:(X.take i).length=i:=by rw [List.length_take];omega
  have tB:(X.drop i).length=X.length-i:=List.length_drop
  have tV:(Y.take (hN-i)).length=hN-i:=by rw [List.length_take];omega
  have tD:(Y.drop (hN-i)).length=Y.length-(hN-i):=List.length_drop
  have hX:X.take i++X.drop i=X:=List.take_append_drop _ _
  have hY:Y.take (hN-i)++Y.drop (hN-i)=Y:=List.take_append_drop _ _
  have sX':=sX
  have sY':=sY
  rw [←hX] at sX'
  rw [←hY] at sY'
  obtain⟨sA,sB,sAB⟩:=srt_app.1 sX'
  obtain⟨sV,sD,sVD⟩:=srt_app.1 sY'
  have sAD:∀u∈X.take i,∀v∈Y.drop (hN-i),leZ cz u v:=ends_le (le:=leZ cz) (fun h h'=>hz.tr h h') sA sD (fun u v e1 e2=>by
   rw [tA] at e1
   rcases q1 with q1 | ⟨x,y,f1,f2,f3⟩
   ·exfalso
    rcases rng with rng | rng
    ·rw [show i=0 by omega] at e1;simp at e1
    ·rw [List.getElem?_eq_none (show (Y.drop (hN-i)).length≤0 by rw [tD];omega)] at e2;cases e2
   ·rw [List.getElem?_drop,Nat.add_zero,f2] at e2
    have:i≠0:=fun h=>by rw [h] at e1;simp at e1
    rw [List.getElem?_take_of_lt (by omega),f1] at e1
    cases e1;cases e2;exact f3) (fun a=>hz.rf a)
  have sVB:∀u∈Y.take (hN-i),∀v∈X.drop i,leZ cz u v:=ends_le (le:=leZ cz) (fun h h'=>hz.tr h h') sV sB (fun u v e1 e2=>by
   rw [tV] at e1
   rcases q2 with q2 | ⟨x,y,f1,f2,f3⟩
   ·exfalso
    rcases rng with rng | rng
    ·rw [List.getElem?_eq_none (show (X.drop i).length≤0 by rw [tB];omega)] at e2;cases e2
    ·rw [show hN-i=0 by omega] at e1;simp at e1
   ·rw [List.getElem?_drop,Nat.add_zero,f1] at e2
    have:hN-i≠0:=fun h=>by rw [h] at e1;simp at e1
    rw [List.getElem?_take_of_lt (by omega),show hN-i-1=hN-1-i by omega,f2] at e1
    cases e1;cases e2;exact f3) (fun a=>hz.rf a)
  have mo:∀S' Z1 Z2,Z1.Perm (X.take i++Y.take (hN-i))→Srt (leZ cz) Z1→Z2.Perm (X.drop i++Y.drop (hN-i))→Srt (leZ cz) Z2→ArS S' R ty t b (P++((Z1++Z2)++Q))→G S':=fun S' Z1 Z2 p1 z1 p2 z2 hA=>by
   obtain⟨m1,m2⟩:=merge_ok z1 z2 p1 p2 sAB sAD sVB sVD
   rw [hX,hY] at m2
   exact fin S' _ m2 m1 hA
  have hn':∀x∈(X.take i++Y.take (hN-i))++(X.drop i++Y.drop (hN-i)),x<n:=fun x hx=>hn x (by
   rw [List.append_assoc,List.mem_append,List.mem_append,List.mem_append] at hx
   rw [List.mem_append]
   rcases hx with h | h | h | h
   ·exact .inl (List.mem_of_mem_take h)
   ·exact .inr (List.mem_of_mem_take h)
   ·exact .inl (List.mem_of_mem_drop h)
   ·exact .inr (List.mem_of_mem_drop h))
  have hl2:P++(X++(Y++Q))=P++(X.take i++(X.drop i++(Y.take (hN-i)++(Y.drop (hN-i)++Q)))):=by
   rw [←List.append_assoc (X.take i),hX,←List.append_assoc (Y.take (hN-i)),hY]
  rw [hl2] at hx hl hA
  have w1:wr .i64 ((nn:Int)-((P.length+i:Nat):Int))=((mid+(X.length-i):Nat):Int):=by rw [wr64 (by omega) (by omega)];omega
  have next:=mrgRot_wp (gt:=gt) (z:=[]) hm ih hr (a:=a) (m:=m) (mid:=mid) (s:=P.length+i) (e:=mid+(X.length-i)) (c:=c) ha (by rw [tA,tB];omega) (by rw [tA,tV];omega) (by rw [tA]) (by rw [tB]) (by rw [tD];omega) (fun _ _=>by rw [tA,tV];omega) (fun _ _=>by rw [tB,tD];omega) hn' sA sV sB sD hx hl hA mo
  clear mo hn' sAD sVB sAB sVD
  conv=>whnf
  refine sI (by rfl) ?_
  conv=>whnf
  refine sI (by rfl) ?_
  conv=>whnf
  refine sI (by rfl) ?_
  conv=>whnf
  refine sI (by rfl) ?_
  conv=>whnf
  rw [w1]
  refine goK ?_
  with_unfolding_all exact next
end
end Go.Dn

namespace Go.Dn
open Go
theorem goJ {G G':Prop} (k:G') (h:G'→G:=by
 intro hk;((try refine And.intro (by rfl) ?_);(conv=>whnf);(repeat (refine sI (by rfl) ?_;conv=>whnf));(generalize hE:keepE _ _=e0;revert hE;apply kI;(repeat (first | exact kN _ | (apply kC;with_unfolding_all rfl;rfl)));rintro rfl));exact hk):G:=h k
end Go.Dn

namespace Go.Dn
open Go Go.Proofs.C1
set_option maxRecDepth 100000
attribute [local irreducible] afterS keepE
section
variable {gt:GT} {C:CallT} {R:List Rs} {ty:TypeId} {t b:Nat}
set_option maxHeartbeats 8000000 in
theorem mrg3_wp (hm:MonoC C) {f:FuncId} {cs:List AV} {n k:Nat} {cz:Nat→Nat→Int} (hz:Cz cz) (hc:CmpC C f cs R ty t b n cz) (ih:MrgC C R ty t b n (.fn f [] cs) cz k) (hr:RotC C R ty t b (.fn f [] cs)) {S:St} {xs:List AV} {P X Y Q:List Nat} {a m c:Nat}
  (ha:a=P.length) (hmm:m=P.length+X.length) (hcc:c=P.length+X.length+Y.length) (hX:2≤X.length) (hY:2≤Y.length) (hk:X.length+Y.length≤k+1) (hn:∀x∈X++Y,x<n) (sX:Srt (leZ cz) X) (sY:Srt (leZ cz) Y)
  (hx:xs.length=(P++(X++(Y++Q))).length) (hl:(P++(X++(Y++Q))).length<1152921504606846976) (hA:ArS S R ty t b (P++(X++(Y++Q)))) :
  wpF gt C F181 [slA t xs.length xs,.int .i64 a,.int .i64 m,.int .i64 c,.fn f [] cs] S fun r S'=>r=.ret (.tup [])∧∃Z,Z.Perm (X++Y)∧Srt (leZ cz) Z∧ArS S' R ty t b (P++(Z++Q)):=by
 have hlen:(P++(X++(Y++Q))).length=P.length+(X.length+(Y.length+Q.length)):=by simp only [List.length_append]
 have hl':=hl
 rw [hlen] at hl'
 obtain⟨hN,hNe⟩:∃h,h=(X.length+Y.length) / 2:=⟨_,rfl⟩
 have w1:wr .i64 ((m:Int)-(a:Int))=(X.length:Int):=by rw [wr64 (by omega) (by omega)];omega
 have w2:wr .i64 ((c:Int)-(m:Int))=(Y.length:Int):=by rw [wr64 (by omega) (by omega)];omega
 have w3:wr .i64 (((P.length+hN:Nat):Int)+(m:Int))=((P.length+hN+m:Nat):Int):=by rw [wr64 (by omega) (by omega)];omega
 have next:∀(l0 h0 lo hi:Nat) (z:Env),lo=P.length+l0→hi=P.length+h0→((l0=0∧h0=X.length∧X.length≤hN∧hN≤Y.length)∨(l0+Y.length=hN∧h0=hN∧hN≤X.length))→_:=fun l0 h0 lo hi z e1 e2 e3 =>
  mrgSeek_wp (gt:=gt) (z:=z) (G:=fun S'=>∃Z,Z.Perm (X++Y)∧Srt (leZ cz) Z∧ArS S' R ty t b (P++(Z++Q))) hm hz hc ih hr (a:=a) (m:=m) (c:=c) (mid:=P.length+hN) (nn:=P.length+hN+m) ha hmm hcc rfl rfl e1 e2 e3 (by omega) (by omega) hn sX sY (by omega) hx hl hA (fun S' Z p s h=>⟨Z,p,s,h⟩)
 refine⟨rfl,?_⟩
 refine goW ?_
 rw [w1,eqI_false (show ¬(X.length:Int)=1 by omega)]
 refine goW ?_
 rw [w2,eqI_false (show ¬(Y.length:Int)=1 by omega)]
 refine goW ?_
 rw [midW (by omega),show (a+c) / 2=P.length+hN by omega]
 refine goW ?_
 rw [w3]
 by_cases hc1:(m:Int) > ((P.length+hN:Nat):Int)
 ·rw [decide_eq_true hc1]
  have next:=next (hN-Y.length) hN (P.length+hN+m-c) (P.length+hN) [] (by omega) rfl (.inr (by omega))
  have w4:wr .i64 (((P.length+hN+m:Nat):Int)-(c:Int))=((P.length+hN+m-c:Nat):Int):=by rw [wr64 (by omega) (by omega)];omega
  refine goJ ?_
  refine goJ ?_
  rw [w4]
  with_unfolding_all exact next
 ·rw [decide_eq_false hc1]
  have next:=next 0 X.length a m [] (by omega) hmm (.inl (by omega))
  refine goJ ?_
  refine goJ ?_
  with_unfolding_all exact next
end
end Go.Dn

namespace Go.Dn
open Go Go.Proofs.C1
set_option maxRecDepth 100000
attribute [local irreducible] afterS keepE
section
variable {gt:GT} {C:CallT} {R:List Rs} {ty:TypeId} {t b:Nat}
theorem mrgC (hm:MonoC C) (hI:∀us S Q,wpF gt C F181 us S Q→C 181 us S Q) {f:FuncId} {cs:List AV} {n:Nat} {cz:Nat→Nat→Int} (hz:Cz cz) (hc:CmpC C f cs R ty t b n cz) (hr:RotC C R ty t b (.fn f [] cs)):∀k,MrgC C R ty t b n (.fn f [] cs) cz k
 | 0=>fun S xs P X Y Q a m c hk _ _ _ hX hY=>by
  exfalso
  have:=List.length_pos_iff.2 hX
  omega
 | k+1=>fun S xs P X Y Q a m c hk ha hmm hcc hX hY hn sX sY hx hl hA=>hI _ _ _ (by
  have lX:=List.length_pos_iff.2 hX
  have lY:=List.length_pos_iff.2 hY
  by_cases c1:X.length=1
  ·obtain⟨x,rfl⟩:=List.length_eq_one_iff.1 c1
   have:=mrg1_wp (gt:=gt) hm hz hc (P:=P) (Y:=Y) (Q:=Q) (x:=x) (S:=S) (xs:=xs) (fun y hy=>hn y (List.mem_append_right _ hy)) (hn x (by simp)) sY hx hl hA
   rw [ha,hmm,hcc]
   exact this
  ·by_cases c2:Y.length=1
   ·obtain⟨y,rfl⟩:=List.length_eq_one_iff.1 c2
    have:=mrg2_wp (gt:=gt) hm hz hc (P:=P) (Y:=X) (Q:=Q) (x:=y) (S:=S) (xs:=xs) (fun x hx=>hn x (List.mem_append_left _ hx)) (hn y (by simp)) sX (by omega) hx hl hA
    rw [ha,hmm,hcc]
    exact this
   ·exact mrg3_wp hm hz hc (mrgC hm hI hz hc hr k) hr ha hmm hcc (by omega) (by omega) hk hn sX sY hx hl hA)
def StbC (C:CallT) (R:List Rs) (ty:TypeId) (t b n:Nat) (g:AV) (cz:Nat→Nat→Int) (h:FuncId) (ar:List AV→List AV):Prop :=
 ∀(S:St) (xs:List AV) (L:List Nat),(∀x∈L,x<n)→xs.length=L.length→L.length<1152921504606846976→ArS S R ty t b L →
  C h (ar xs) S fun r S'=>r=.ret (.tup [])∧∃Z,Z.Perm L∧Srt (leZ cz) Z∧ArS S' R ty t b Z
abbrev E_s1 (t:Nat) (xs:List AV) (g:AV) (bs a c:Nat):Env:=[(0,.val (slA t xs.length xs)),(1,.val (.int .i64 xs.length)),(2,.val g),(6,.val (.int .i64 bs)),(7,.val (.int .i64 a)),(8,.val (.int .i64 c))]
abbrev E_s2 (t:Nat) (xs:List AV) (g:AV) (bs:Nat):Env:=[(0,.val (slA t xs.length xs)),(1,.val (.int .i64 xs.length)),(2,.val g),(6,.val (.int .i64 bs))]
theorem take_drop2 (u:List Nat) (k:Nat):u.take k++((u.drop k).take k++u.drop (2*k))=u:=by
 rw [show u.drop (2*k)=(u.drop k).drop k by rw [List.drop_drop];congr 1;omega,List.take_append_drop,List.take_append_drop]
set_option maxHeartbeats 8000000 in
theorem stb_wp (hm:MonoC C) {f:FuncId} {cs:List AV} {n:Nat} {cz:Nat→Nat→Int} (hi:InsC C R ty t b n (.fn f [] cs) cz) (hg:∀k,MrgC C R ty t b n (.fn f [] cs) cz k) {S:St} {xs:List AV} {L:List Nat} (hn:∀x∈L,x<n) (hx:xs.length=L.length) (hl:L.length<1152921504606846976) (hA:ArS S R ty t b L) :
  wpF gt C F150 [slA t xs.length xs,.int .i64 xs.length,.fn f [] cs] S fun r S'=>r=.ret (.tup [])∧∃Z,Z.Perm L∧Srt (leZ cz) Z∧ArS S' R ty t b Z:=by
 refine⟨rfl,?_⟩
 refine goW ?_
 refine loop_rule hm (α:=List Nat×List Nat) (fun q env S'=>env=E_s1 t xs (.fn f [] cs) 20 q.1.length (q.1.length+20)∧(q.1++q.2).Perm L∧Blk (leZ cz) 20 q.1∧q.1.length % 20=0∧ArS S' R ty t b (q.1++q.2)) (fun q=>q.2.length) ?_ (a:=([],L)) ⟨rfl,List.Perm.refl _,Blk.nil,rfl,hA⟩
 rintro⟨d,u⟩ env S1 ⟨rfl,hp,hb,hd,hA⟩
 simp only at hp hb hd hA
 have pl:=hp.length_eq
 rw [List.length_append] at pl
 have hun:∀x∈u,x<n:=fun x hx=>hn x (hp.mem_iff.1 (List.mem_append_right _ hx))
 refine goW ?_
 by_cases c1:((d.length+20:Nat):Int)≤(xs.length:Int)
 ·rw [decide_eq_true c1]
  have ht:(u.take 20).length=20:=by rw [List.length_take];omega
  have hA':ArS S1 R ty t b (d++(u.take 20++u.drop 20)):=by rw [List.take_append_drop];exact hA
  refine goW ?_
  refine call_rule (by rfl) (hm _ _ _ _ _ (hi S1 xs d (u.take 20) (u.drop 20) d.length (d.length+20) rfl (by rw [ht]) (fun x hx=>hun x (List.mem_of_mem_take hx)) (by rw [List.take_append_drop,List.length_append];omega) (by rw [List.take_append_drop,List.length_append];omega) hA') ?_)
  rintro r S2 ⟨rfl,Z,z1,z2,z3⟩
  have zl:=z1.length_eq
  rw [ht] at zl
  refine goW ?_
  refine⟨(d++Z,u.drop 20),⟨?_,?_,hb.app (by omega) hd (Blk.of z2),by rw [List.length_append,zl];omega,by rw [List.append_assoc];exact z3⟩,by simp only [List.length_drop];omega⟩
  ·simp only [E_s1]
   rw [show wr .i64 (((d.length+20:Nat):Int)+((20:Nat):Int))=((d.length+20+20:Nat):Int) by rw [wr64 (by omega) (by omega)];omega,List.length_append,zl]
  ·refine List.Perm.trans ?_ hp
   simp only
   rw [List.append_assoc]
   refine List.Perm.append_left d ?_
   have:=List.Perm.append_right (u.drop 20) z1
   rw [List.take_append_drop] at this
   exact this
 ·rw [decide_eq_false c1]
  have hA':ArS S1 R ty t b (d++(u++[])):=by rw [List.append_nil];exact hA
  refine goW ?_
  refine call_rule (by rfl) (hm _ _ _ _ _ (hi S1 xs d u [] d.length xs.length rfl (by omega) hun (by rw [List.append_nil,List.length_append];omega) (by rw [List.append_nil,List.length_append];omega) hA') ?_)
  rintro r S2 ⟨rfl,Z,z1,z2,z3⟩
  have zl:=z1.length_eq
  refine goW ?_
  have hp2:(d++Z).Perm L:=(List.Perm.append_left d z1).trans hp
  have hb2:Blk (leZ cz) 20 (d++Z):=hb.app (by omega) hd (Blk.of z2)
  rw [List.append_nil] at z3
  generalize d++Z=D at hp2 hb2 z3
  clear hp hb hd hA hA' pl hun c1 z1 z2 zl
  refine loop_rule hm (α:=List Nat×Nat) (fun q env S'=>env=E_s2 t xs (.fn f [] cs) q.2∧q.1.Perm L∧0<q.2∧q.2<2305843009213693952∧Blk (leZ cz) q.2 q.1∧ArS S' R ty t b q.1) (fun q=>xs.length-q.2) ?_ (a:=(D,20)) ⟨rfl,hp2,by simp only;omega,by simp only;omega,hb2,z3⟩
  clear hp2 hb2 z3 D Z
  rintro⟨D,bs⟩ env S3 ⟨rfl,hp,b0,b1,hb,hA⟩
  simp only at hp b0 b1 hb hA
  refine goW ?_
  by_cases c2:(bs:Int)<(xs.length:Int)
  ·rw [decide_eq_true c2]
   refine goW ?_
   have w2:wr .i64 (2*(bs:Int))=((2*bs:Nat):Int):=by rw [wr64 (by omega) (by omega)];omega
   rw [w2]
   refine loop_rule hm (α:=List Nat×List Nat) (fun q env S'=>env=E_s1 t xs (.fn f [] cs) bs q.1.length (q.1.length+2*bs)∧(q.1++q.2).Perm L∧Blk (leZ cz) (2*bs) q.1∧q.1.length % (2*bs)=0∧Blk (leZ cz) bs q.2∧ArS S' R ty t b (q.1++q.2)) (fun q=>q.2.length) ?_ (a:=([],D)) ⟨by simp [E_s1],hp,Blk.nil,by simp,hb,hA⟩
   clear hp hb hA
   rintro⟨d,u⟩ env S4 ⟨rfl,hp,hd,hdl,hb,hA⟩
   simp only at hp hd hdl hb hA
   have pl:=hp.length_eq
   rw [List.length_append] at pl
   have hun:∀x∈u,x<n:=fun x hx=>hn x (hp.mem_iff.1 (List.mem_append_right _ hx))
   refine goW ?_
   by_cases c3:((d.length+2*bs:Nat):Int)≤(xs.length:Int)
   ·rw [decide_eq_true c3]
    have ht:(u.take bs).length=bs:=by rw [List.length_take];omega
    have ht2:((u.drop bs).take bs).length=bs:=by rw [List.length_take,List.length_drop];omega
    have h3:=take_drop2 u bs
    have hA':ArS S4 R ty t b (d++(u.take bs++((u.drop bs).take bs++u.drop (2*bs)))):=by rw [h3];exact hA
    rw [←h3] at hb
    have b1':Blk (leZ cz) bs (u.take bs):=Blk.take hb
    have b2':=Blk.drop hb b0 (by rw [ht];exact Nat.mod_self _)
    have b3':=Blk.drop b2' b0 (by rw [ht2];exact Nat.mod_self _)
    have w3:wr .i64 ((d.length:Int)+(bs:Int))=((d.length+bs:Nat):Int):=by rw [wr64 (by omega) (by omega)];omega
    have w4:wr .i64 (((d.length+2*bs:Nat):Int)+((2*bs:Nat):Int))=((d.length+2*bs+2*bs:Nat):Int):=by rw [wr64 (by omega) (by omega)];omega
    have hcall:=hg (bs+bs) S4 xs d (u.take bs) ((u.drop bs).take bs) (u.drop (2*bs)) d.length (d.length+bs) (d.length+2*bs) (by rw [ht,ht2];omega) rfl (by rw [ht]) (by rw [ht,ht2];omega) (fun h=>by rw [h] at ht;simp at ht;omega) (fun h=>by rw [h] at ht2;simp at ht2;omega) (fun x hx=>hun x (by rw [←h3];simp only [List.mem_append] at hx ⊢;rcases hx with h | h;exact .inl h;exact .inr (.inl h))) (b1'.srt (by omega)) (b2'.take.srt (by omega)) (by rw [h3,List.length_append];omega) (by rw [h3,List.length_append];omega) hA'
    refine goW ?_
    rw [w3]
    refine call_rule (by rfl) (hm _ _ _ _ _ hcall ?_)
    rintro r S5 ⟨rfl,Z,z1,z2,z3⟩
    have zl:=z1.length_eq
    rw [List.length_append,ht,ht2] at zl
    refine goW ?_
    rw [w2,w4]
    refine⟨(d++Z,u.drop (2*bs)),⟨?_,?_,hd.app (by omega) hdl (Blk.of z2),?_,b3',by rw [List.append_assoc];exact z3⟩,by simp only [List.length_drop];omega⟩
    ·rw [List.length_append,zl]
     simp only [E_s1]
     rw [show d.length+(bs+bs)=d.length+2*bs by omega]
    ·refine List.Perm.trans ?_ hp
     simp only
     rw [List.append_assoc]
     refine List.Perm.append_left d ?_
     have:=List.Perm.append_right (u.drop (2*bs)) z1
     rw [List.append_assoc,h3] at this
     exact this
    ·simp only
     rw [List.length_append,zl,show bs+bs=2*bs by omega,Nat.add_mod_right];exact hdl
   ·rw [decide_eq_false c3]
    have w3:wr .i64 ((d.length:Int)+(bs:Int))=((d.length+bs:Nat):Int):=by rw [wr64 (by omega) (by omega)];omega
    have w4:wr .i64 ((bs:Int)*2)=((bs*2:Nat):Int):=by rw [wr64 (by omega) (by omega)];omega
    refine goW ?_
    rw [w3]
    by_cases c4:((d.length+bs:Nat):Int)<(xs.length:Int)
    ·rw [decide_eq_true c4]
     have ht:(u.take bs).length=bs:=by rw [List.length_take];omega
     have ht2:(u.drop bs).length=u.length-bs:=List.length_drop
     have h3:u.take bs++(u.drop bs++[])=u:=by rw [List.append_nil,List.take_append_drop]
     have hA':ArS S4 R ty t b (d++(u.take bs++(u.drop bs++[]))):=by rw [h3];exact hA
     rw [←List.take_append_drop bs u] at hb
     have b1':Blk (leZ cz) bs (u.take bs):=Blk.take hb
     have b2':=Blk.drop hb b0 (by rw [ht];exact Nat.mod_self _)
     have hcall:=hg u.length S4 xs d (u.take bs) (u.drop bs) [] d.length (d.length+bs) xs.length (by rw [ht,ht2];omega) rfl (by rw [ht]) (by rw [ht,ht2];omega) (fun h=>by rw [h] at ht;simp at ht;omega) (fun h=>by rw [h] at ht2;simp at ht2;omega) (fun x hx=>hun x (by rw [List.take_append_drop] at hx;exact hx)) (b1'.srt (by omega)) (b2'.srt (by omega)) (by rw [h3,List.length_append];omega) (by rw [h3,List.length_append];omega) hA'
     refine goW ?_
     refine call_rule (by rfl) (hm _ _ _ _ _ hcall ?_)
     rintro r S5 ⟨rfl,Z,z1,z2,z3⟩
     rw [List.take_append_drop] at z1
     rw [List.append_nil] at z3
     refine goW ?_
     rw [w4]
     refine⟨(d++Z,2*bs),⟨by simp only [E_s2];rw [Nat.mul_comm],(List.Perm.append_left d z1).trans hp,by simp only;omega,by simp only;omega,hd.app (by omega) hdl (Blk.of z2),z3⟩,by simp only;omega⟩
    ·rw [decide_eq_false c4]
     refine goW ?_
     rw [w4]
     refine⟨(d++u,2*bs),⟨by simp only [E_s2];rw [Nat.mul_comm],hp,by simp only;omega,by simp only;omega,hd.app (by omega) hdl (Blk.of (hb.srt (by omega))),hA⟩,by simp only;omega⟩
  ·rw [decide_eq_false c2]
   refine goW ?_
   have pl:=hp.length_eq
   exact⟨_,rfl,rfl,D,hp,hb.srt (by omega),hA⟩
end
end Go.Dn

namespace Go.Dn
open Go Go.Proofs.C1
theorem cmpB_cons (a b:UInt8) (x y:List UInt8):cmpB (a::x) (b::y)=if a.toNat=b.toNat then cmpB x y else if a.toNat<b.toNat then -1 else 1:=by
 rw [cmpB]
 by_cases h:a.toNat=b.toNat
 ·rw [if_pos h,h,Nat.beq_refl];rfl
 ·have:Nat.beq a.toNat b.toNat=false:=by
   cases q:Nat.beq a.toNat b.toNat with
   | false=>rfl
   | true=>exact absurd (Nat.eq_of_beq_eq_true q) h
  rw [if_neg h,this]
  by_cases k:a.toNat<b.toNat
  ·rw [if_pos k,show Nat.blt a.toNat b.toNat=true from Nat.ble_eq_true_of_le k];rfl
  ·have:Nat.blt a.toNat b.toNat=false:=by
    cases q:Nat.blt a.toNat b.toNat with
    | false=>rfl
    | true=>exact absurd (Nat.le_of_ble_eq_true q) k
   rw [if_neg k,this];rfl
theorem cmpB_self:∀a:List UInt8,cmpB a a=0
 | []=>rfl
 | a::x=>by rw [cmpB_cons,if_pos rfl];exact cmpB_self x
theorem cmpB_anti:∀a b:List UInt8,cmpB b a=- cmpB a b
 | [],[]=>rfl
 | [],_::_=>rfl
 | _::_,[]=>rfl
 | a::x,b::y=>by
  rw [cmpB_cons,cmpB_cons]
  by_cases h:a.toNat=b.toNat
  ·rw [if_pos h,if_pos h.symm];exact cmpB_anti x y
  ·rw [if_neg h,if_neg (fun e=>h e.symm)]
   by_cases k:a.toNat<b.toNat
   ·rw [if_pos k,if_neg (by omega)];rfl
   ·rw [if_neg k,if_pos (by omega)]
theorem cmpB_zero:∀{a b:List UInt8},cmpB a b=0→a=b
 | [],[],_=>rfl
 | [],_::_,h=>by rw [show cmpB [] (_::_)=-1 from rfl] at h;exact absurd h (by decide)
 | _::_,[],h=>by rw [show cmpB (_::_) []=1 from rfl] at h;exact absurd h (by decide)
 | a::x,b::y,h=>by
  rw [cmpB_cons] at h
  by_cases e:a.toNat=b.toNat
  ·rw [if_pos e] at h
   rw [cmpB_zero h,UInt8.toNat_inj.1 e]
  ·rw [if_neg e] at h
   by_cases k:a.toNat<b.toNat
   ·rw [if_pos k] at h;cases h
   ·rw [if_neg k] at h;cases h
theorem cmpB_one:∀a b:List UInt8,cmpB a b=-1∨cmpB a b=0∨cmpB a b=1
 | [],[]=>.inr (.inl rfl)
 | [],_::_=>.inl rfl
 | _::_,[]=>.inr (.inr rfl)
 | a::x,b::y=>by
  rw [cmpB_cons]
  by_cases e:a.toNat=b.toNat
  ·rw [if_pos e];exact cmpB_one x y
  ·rw [if_neg e]
   by_cases k:a.toNat<b.toNat
   ·rw [if_pos k];exact .inl rfl
   ·rw [if_neg k];exact .inr (.inr rfl)
theorem cmpB_tr:∀{a b c:List UInt8},0≤cmpB b a→0≤cmpB c b→0≤cmpB c a
 | [],_,[],_,_=>by decide
 | [],_,_::_,_,_=>by rw [show cmpB (_::_) []=1 from rfl];decide
 | _::_,[],_,h,_=>absurd h (by rw [show cmpB [] (_::_)=-1 from rfl];decide)
 | _::_,_::_,[],_,h=>absurd h (by rw [show cmpB [] (_::_)=-1 from rfl];decide)
 | a::x,b::y,c::z,h,k=>by
  rw [cmpB_cons] at h k ⊢
  by_cases e:b.toNat=a.toNat
  ·rw [if_pos e] at h
   by_cases e2:c.toNat=b.toNat
   ·rw [if_pos e2] at k
    rw [if_pos (by omega)]
    exact cmpB_tr h k
   ·rw [if_neg e2] at k
    rw [if_neg (by omega)]
    by_cases l:c.toNat<b.toNat
    ·rw [if_pos l] at k;exact absurd k (by decide)
    ·rw [if_neg (by omega)];decide
  ·rw [if_neg e] at h
   by_cases l:b.toNat<a.toNat
   ·rw [if_pos l] at h;exact absurd h (by decide)
   ·by_cases e2:c.toNat=b.toNat
    ·rw [if_neg (by omega),if_neg (by omega)];decide
    ·rw [if_neg e2] at k
     by_cases l2:c.toNat<b.toNat
     ·rw [if_pos l2] at k;exact absurd k (by decide)
     ·rw [if_neg (by omega),if_neg (by omega)];decide
def czK (keys:List (List UInt8)) (i j:Nat):Int:=cmpB (keys.getD i []) (keys.getD j [])
theorem czK_cz (keys:List (List UInt8)):Cz (czK keys) where
 rf a:=by unfold czK;rw [cmpB_self];exact Int.le_refl 0
 tr h k:=cmpB_tr h k
 asy {a b} h:=by
  unfold czK at h ⊢
  rw [cmpB_anti];omega
def ordK (keys:List (List UInt8)):List Nat:=(List.range keys.length).mergeSort fun i j=>decide (0≤czK keys j i)
theorem ordK_perm (keys:List (List UInt8)):(ordK keys).Perm (List.range keys.length):=List.mergeSort_perm _ _
theorem ordK_srt (keys:List (List UInt8)):Srt (leZ (czK keys)) (ordK keys):=by
 have:=List.pairwise_mergeSort (le:=fun i j=>decide (0≤czK keys j i)) (fun a b c h k=>by
  simp only [decide_eq_true_eq] at h k ⊢
  exact (czK_cz keys).tr h k) (fun a b=>by
  simp only [Bool.or_eq_true,decide_eq_true_eq]
  rcases Int.lt_or_le (czK keys b a) 0 with q | q
  ·exact .inr ((czK_cz keys).asy q)
  ·exact .inl q) (List.range keys.length)
 exact this.imp fun h=>of_decide_eq_true h
theorem ordK_len (keys:List (List UInt8)):(ordK keys).length=keys.length:=by rw [(ordK_perm keys).length_eq,List.length_range]
theorem ordK_lt {keys:List (List UInt8)} {i:Nat} (h:i∈ordK keys):i<keys.length:=List.mem_range.1 ((ordK_perm keys).mem_iff.1 h)
theorem ordK_uniq {keys:List (List UInt8)} (hd:keys.Nodup) {Z:List Nat} (hp:Z.Perm (List.range keys.length)) (hs:Srt (leZ (czK keys)) Z):Z=ordK keys:=by
 refine List.Perm.eq_of_pairwise (fun a b ha hb h k=>?_) hs (ordK_srt keys) (hp.trans (ordK_perm keys).symm)
 have la:=List.mem_range.1 (hp.mem_iff.1 ha)
 have lb:=ordK_lt hb
 unfold leZ czK at h k
 rw [cmpB_anti] at h
 have:=cmpB_zero (a:=keys.getD a []) (b:=keys.getD b []) (by omega)
 rw [List.getD_eq_getElem?_getD,List.getD_eq_getElem?_getD,List.getElem?_eq_getElem la,List.getElem?_eq_getElem lb] at this
 exact (List.getElem_inj hd).1 this
end Go.Dn

namespace Go.Dn
open Go Go.Proofs.C1
set_option maxRecDepth 100000
attribute [local irreducible] afterS keepE
theorem sx_ldBx {gt:GT} {d:Option Nat} {env:Env} {S:St} {R:List Rs} (h:Hs S R) (i:Nat) {id:Nat} {ty:TypeId} {v:AV} (hi:R[i]? = some (.bx id ty [v])) (hn:notAgg v=true) {a:DOpd} (ha:loc env a=some (.hp id 0)) :
  stepO gt d env S (.ld false 1 a)=.done (putV d v env) S:=by
 have hb:=(h.ok i _ hi).2
 have:ldL gt env S false 1 (.hp id 0)=some v:=by
  simp only [ldL,ldC,hb,cut]
  show mkv false [v]=some v
  simp only [mkv,hn,cond_true,cond_false]
 simp only [stepO,ha,this,SR.val]
section
variable {gt:GT} {C:CallT}
theorem cmpS_wp {a c:List UInt8}:wpF gt C F145 [.str a,.str c] St.init (Ret (.int .i64 (cmpB a c))):=by
 refine⟨rfl,?_⟩
 refine goW ?_
 exact⟨_,rfl,Ret.sta trivial⟩
theorem compare_wp (hm:MonoC C) (h:∀a c,PF C 145 [.str a,.str c] (.int .i64 (cmpB a c))) {a c:List UInt8}:wpF gt C F104 [.str a,.str c] St.init (Ret (.int .i64 (cmpB a c))):=by
 refine⟨rfl,?_⟩
 refine goW ?_
 refine call_pf hm (by rfl) (h a c) ?_
 refine goW ?_
 exact⟨_,rfl,Ret.sta trivial⟩
abbrev R_k (keys:List (List UInt8)):List Rs:=[.bx 0 22 [.sl 1 stat (strs keys)]]
set_option maxHeartbeats 2000000 in
theorem ord1_wp (hm:MonoC C) (h:∀a c,PF C 104 [.str a,.str c] (.int .i64 (cmpB a c))) {keys:List (List UInt8)} {S:St} {ty:TypeId} {t b:Nat} {l:List Nat} {i j:Nat} (hA:ArS S (R_k keys) ty t b l) (hi:i<keys.length) (hj:j<keys.length) :
  wpF gt C F113 [.int .i64 i,.int .i64 j,.ptr 0 0] S fun r S'=>r=.ret (.int .i64 (czK keys i j))∧S'=S:=by
 have ei:keys.getD i []=keys[i]:=by rw [List.getD_eq_getElem?_getD,List.getElem?_eq_getElem hi];rfl
 have ej:keys.getD j []=keys[j]:=by rw [List.getD_eq_getElem?_getD,List.getElem?_eq_getElem hj];rfl
 unfold czK
 rw [ei,ej]
 have si:=strs_at hi
 have sj:=strs_at hj
 generalize keys[i]=x at si
 generalize keys[j]=y at sj
 have li:i<(strs keys).length:=by rw [strs_length];exact hi
 have lj:j<(strs keys).length:=by rw [strs_length];exact hj
 refine⟨rfl,?_⟩
 refine goW ?_
 refine step_ruleDO rfl rfl (sx_ldBx hA 0 rfl rfl rfl) ?_
 refine goW ?_
 refine step_ruleDO rfl rfl (sx_ia (k:=i) rfl rfl li) ?_
 refine goW ?_
 refine step_ruleDO rfl rfl (sx_ldEl (agg:=false) rfl rfl si rfl) ?_
 refine goW ?_
 refine step_ruleDO rfl rfl (sx_ldBx hA 0 rfl rfl rfl) ?_
 refine goW ?_
 refine step_ruleDO rfl rfl (sx_ia (k:=j) rfl rfl lj) ?_
 refine goW ?_
 refine step_ruleDO rfl rfl (sx_ldEl (agg:=false) rfl rfl sj rfl) ?_
 refine goW ?_
 refine call_pfD hm (by rfl) (h x y) ?_
 refine goW ?_
 exact⟨_,rfl,rfl,rfl⟩
def SstC (C:CallT) (R:List Rs) (ty:TypeId) (t b n:Nat) (g:AV) (cz:Nat→Nat→Int):Prop :=
 StbC C R ty t b n g cz 112 fun xs=>[slA t xs.length xs,g]
theorem sst_wp (hm:MonoC C) {R:List Rs} {ty:TypeId} {t b n:Nat} {f:FuncId} {cs:List AV} {cz:Nat→Nat→Int} (h:StbC C R ty t b n (.fn f [] cs) cz 150 fun xs=>[slA t xs.length xs,.int .i64 xs.length,.fn f [] cs]) {S:St} {xs:List AV} {L:List Nat} (hn:∀x∈L,x<n) (hx:xs.length=L.length) (hl:L.length<1152921504606846976) (hA:ArS S R ty t b L) :
  wpF gt C F112 [slA t xs.length xs,.fn f [] cs] S fun r S'=>r=.ret (.tup [])∧∃Z,Z.Perm L∧Srt (leZ cz) Z∧ArS S' R ty t b Z:=by
 refine⟨rfl,?_⟩
 refine goW ?_
 refine call_rule (by rfl) (hm _ _ _ _ _ (h S xs L hn hx hl hA) ?_)
 rintro r S2 ⟨rfl,Z,z1,z2,z3⟩
 refine goW ?_
 exact⟨_,rfl,rfl,Z,z1,z2,z3⟩
abbrev slN:AV:=.sl 1 ⟨none,0,some 0,false⟩ []
theorem ins0_wp {S:St} {g:AV}:wpF gt C F180 [slN,.int .i64 0,.int .i64 0,g] S fun r S'=>r=.ret (.tup [])∧S'=S:=by
 refine⟨rfl,?_⟩
 refine goW ?_
 refine⟨1,?_⟩
 refine goW ?_
 exact⟨_,rfl,rfl,rfl⟩
theorem stb0_wp (hm:MonoC C) {g:AV} (h:∀S,C 180 [slN,.int .i64 0,.int .i64 0,g] S fun r S'=>r=.ret (.tup [])∧S'=S) {S:St}:wpF gt C F150 [slN,.int .i64 0,g] S fun r S'=>r=.ret (.tup [])∧S'=S:=by
 refine⟨rfl,?_⟩
 refine goW ?_
 refine⟨1,?_⟩
 refine goW ?_
 refine call_rule (by rfl) (hm _ _ _ _ _ (h S) ?_)
 rintro r S2 ⟨rfl,rfl⟩
 refine goW ?_
 refine⟨1,?_⟩
 refine goW ?_
 exact⟨_,rfl,rfl,rfl⟩
theorem sst0_wp (hm:MonoC C) {g:AV} (h:∀S,C 150 [slN,.int .i64 0,g] S fun r S'=>r=.ret (.tup [])∧S'=S) {S:St}:wpF gt C F112 [slN,g] S fun r S'=>r=.ret (.tup [])∧S'=S:=by
 refine⟨rfl,?_⟩
 refine goW ?_
 refine call_rule (by rfl) (hm _ _ _ _ _ (h S) ?_)
 rintro r S2 ⟨rfl,rfl⟩
 refine goW ?_
 exact⟨_,rfl,rfl,rfl⟩
theorem order0_wp (hm:MonoC C) (h:∀S,C 112 [slN,.fn 113 [] [.ptr 0 0]] S fun r S'=>r=.ret (.tup [])∧S'=S):wpF gt C F64 [.sl 1 stat []] St.init (Ret (.sl 1 stat [])):=by
 refine⟨rfl,?_⟩
 refine goW ?_
 refine⟨1,?_⟩
 refine goW ?_
 refine call_rule (by rfl) (hm _ _ _ _ _ (h _) ?_)
 rintro r S2 ⟨rfl,rfl⟩
 refine goW ?_
 exact⟨_,rfl,_,rfl,by simp only [Rdo];exact⟨trivial,_,_,false,[],rfl,rfl,by simp only [Rdos]⟩⟩
abbrev E_or (t n i:Nat) (xs:List AV):Env:=[(1,.val (.ptr 0 0)),(3,.val (slA t n xs)),(9,.val (.int .i64 n)),(10,.val (.int .i64 i))]
theorem ints_zero (n:Nat):List.replicate n (.int .i64 0)=ints (List.replicate n 0):=by simp [ints]
set_option maxHeartbeats 4000000 in
theorem order_wp (hm:MonoC C) {keys:List (List UInt8)} (h:∀t b,SstC C (R_k keys) 3 t b keys.length (.fn 113 [] [.ptr 0 0]) (czK keys)) (hd:keys.Nodup) (h0:0<keys.length) (hl:keys.length<1099511627776) :
  wpF gt C F64 [.sl 1 stat (strs keys)] St.init (Ret (.sl 1 stat (ints (ordK keys)))):=by
 have sl:(strs keys).length=keys.length:=strs_length keys
 refine⟨rfl,?_⟩
 refine goW ?_
 have hb:=Hs.init.newBox 22 [.sl 1 stat (strs keys)]
 refine r_mks (n:=keys.length) (c:=keys.length) hb trivial (by rw [←sl];rfl) (by rw [←sl];rfl) (Nat.le_refl _) h0 (by omega) (by omega) rfl ?_
 intro t b S hS
 have hA:ArS S (R_k keys) 3 t b (List.replicate keys.length 0):=by
  unfold ArS
  rw [←ints_zero,List.append_nil]
  exact hS
 clear hS hb
 have hxl:(List.replicate keys.length (AV.int .i64 0)).length=keys.length:=List.length_replicate
 generalize List.replicate keys.length (AV.int .i64 0)=xs at hxl
 refine goW ?_
 rw [hxl]
 refine loop_rule hm (α:=Nat) (fun i env S'=>env=E_or t keys.length i xs∧i≤keys.length∧ArS S' (R_k keys) 3 t b (List.range i++List.replicate (keys.length-i) 0)) (fun i=>keys.length-i) ?_ (a:=0) ⟨rfl,Nat.zero_le _,by simpa using hA⟩
 clear hA
 rintro i env S' ⟨rfl,hi,hA⟩
 refine goW ?_
 by_cases c:(i:Int)<(keys.length:Int)
 ·rw [decide_eq_true c]
  have hset:(List.range i++List.replicate (keys.length-i) 0).set i i=List.range (i+1)++List.replicate (keys.length-(i+1)) 0:=by
   obtain⟨m,hm⟩:∃m,keys.length-i=m+1:=⟨keys.length-i-1,by omega⟩
   rw [hm,List.replicate_succ,set_mid (by rw [List.length_range]),show keys.length-(i+1)=m by omega,List.range_succ,List.append_assoc];rfl
  have hll:xs.length=(List.range i++List.replicate (keys.length-i) 0).length:=by rw [hxl,List.length_append,List.length_range,List.length_replicate];omega
  refine goW ?_
  refine step_ruleO (sx_ia (k:=i) rfl rfl (by omega)) ?_
  refine goW ?_
  refine st_runP (hA.st hll rfl rfl (by omega)) (by trivial) ?_
  intro S2 hA2
  rw [hset] at hA2
  refine goW ?_
  refine⟨i+1,⟨?_,by omega,hA2⟩,by omega⟩
  rw [wrNat (by omega)]
  try rfl
 ·rw [decide_eq_false c]
  obtain rfl:i=keys.length:=by omega
  rw [Nat.sub_self,List.replicate_zero,List.append_nil] at hA
  have hcall:=h t b S' xs (List.range keys.length) (fun x hx=>List.mem_range.1 hx) (by rw [hxl,List.length_range]) (by rw [List.length_range];omega) hA
  simp only [hxl] at hcall
  refine goW ?_
  refine call_rule (by rfl) (hm _ _ _ _ _ hcall ?_)
  rintro r S2 ⟨rfl,Z,z1,z2,z3⟩
  rw [ordK_uniq hd z1 z2] at z3
  refine goW ?_
  exact⟨_,rfl,_,rfl,by simp only [Rdo];exact⟨trivial,_,_,false,_,rfl,z3.els (by rw [hxl,ordK_len]),Stas.rdos _ (by
   generalize ordK keys=l
   induction l with
   | nil=>trivial
   | cons a r ih=>exact⟨trivial,ih⟩)⟩⟩
end
end Go.Dn

namespace Go.Dn
open Go Go.Proofs.C1
set_option maxRecDepth 100000
attribute [local irreducible] afterS keepE
def zPT:PT:=.mk 0 [] [] []
mutual
def sortT:PT→PT
 |.mk k s keys kids=>if k=7∧keys.length=kids.length then .mk k s ((ordK keys).map fun i=>keys.getD i []) ((ordK keys).map fun i=>(sortTs kids).getD i zPT) else .mk k s keys (sortTs kids)
def sortTs:List PT→List PT
 | []=>[]
 | t::r=>sortT t::sortTs r
end
theorem sortTs_map:∀l:List PT,sortTs l=l.map sortT
 | []=>rfl
 | t::r=>by simp only [sortTs,List.map_cons,sortTs_map r]
mutual
def PT.nd:PT→Prop
 |.mk k _ keys kids=>(k=7→keys.length=kids.length→keys.Nodup∧keys.length<1099511627776)∧PT.nds kids
def PT.nds:List PT→Prop
 | []=>True
 | t::r=>t.nd∧PT.nds r
end
theorem PT.nds_get:∀{l:List PT} {i:Nat} (h:i<l.length),PT.nds l→(l[i]).nd
 | a::r,0,_,h=>by simp only [PT.nds] at h;exact h.1
 | a::r,i+1,hi,h=>by simp only [PT.nds] at h;exact PT.nds_get (l:=r) (i:=i) (by simpa using hi) h.2
def DC.lft:DC→DC |.seq a _=>a | c=>c
section
variable {gt:GT} {C:CallT}
abbrev E_so1 (k:Int) (s:List UInt8) (keys:List (List UInt8)) (o1 o2:SI) (all kids:List PT) (i:Int):Env :=
 [(2,.box zT),(3,.box [.int .i64 k,.str s,.sl 1 o1 (strs keys),.sl 4 o2 (encTs kids)]),(32,.val (.sl 4 stat (encTs all))),(33,.val (.int .i64 (encTs all).length)),(34,.val (.int .i64 i))]
abbrev E_so2 (t:PT) (k:Int) (s:List UInt8) (keys:List (List UInt8)) (o1 o2:SI) (kids:List PT) (L:List Nat) (i:Int):Env :=
 [(1,.box (encT t).cells),(2,.box zT),(3,.box [.int .i64 k,.str s,.sl 1 o1 (strs keys),.sl 4 o2 (encTs kids)]),(49,.val (.sl 1 stat (ints L))),(50,.val (.int .i64 (ints L).length)),(51,.val (.int .i64 i))]
set_option maxHeartbeats 4000000 in
theorem sorted1_wp (hm:MonoC C) {k:Int} {s:List UInt8} {keys:List (List UInt8)} {kids:List PT} (ih:∀u,u.n<(PT.mk k s keys kids).n→u.ok→u.nd→PF C 34 [encT u] (encT (sortT u))) (hk:(PT.mk k s keys kids).ok) (hd:PT.nds kids) {S:St} (hR:Hs S [.gr 9 ⟨none,0,some 0,true⟩ [],.gr 25 ⟨none,0,some 0,true⟩ []]) {z:Env} :
  wpD gt C (.seq F34.body.rt.rt.lft.rt F34.body.rt.rt.rt) ((1,.box (encT (.mk k s keys kids)).cells)::(2,.box zT)::(3,.box [.int .i64 k,.str s,.sl 1 ⟨none,0,some 0,true⟩ [],.sl 4 ⟨none,0,some 0,true⟩ []])::(24,.val (.bool true))::z) S (bodyQ gt F34.res (Ret (encT (.mk k s keys (sortTs kids))))):=by
 simp only [PT.ok] at hk
 obtain⟨hk1,hk2,hk3⟩:=hk
 conv=>whnf
 refine goW ?_
 refine r_app hR 0 rfl trivial rfl rfl rfl (by rw [strs_length];simpa using hk1) (by rw [strs_length];simp;omega) (by decide) (by decide) (cells_strs keys) ?_
 intro o1 S1 hR
 refine goW ?_
 have hlen:=encTs_len kids
 refine loop_rule hm (α:=Nat) (fun i env S'=>i≤kids.length∧∃o2,Hs S' [.gr 9 o1 (strs keys),.gr 25 o2 (encTs ((sortTs kids).take i))]∧env=E_so1 k s keys o1 o2 kids ((sortTs kids).take i) i) (fun i=>kids.length-i) ?_ (a:=0) ⟨Nat.zero_le _,_,hR,rfl⟩
 rintro i env S' ⟨hi,o2,hR,rfl⟩
 have hsl:(sortTs kids).length=kids.length:=by rw [sortTs_map,List.length_map]
 refine goW ?_
 by_cases h:(i:Int)<(encTs kids).length
 ·rw [decide_eq_true h]
  refine goW ?_
  have hik:i<kids.length:=by omega
  have his:i<(sortTs kids).length:=by omega
  have hge:(sortTs kids)[i]=sortT kids[i]:=by simp only [sortTs_map,List.getElem_map]
  refine step_ruleO (sx_ia (k:=i) rfl rfl (by omega)) ?_
  refine goW ?_
  refine step_ruleO (sx_ldEl (agg:=true) rfl rfl (encTs_get hik) (rdT _)) ?_
  have ihk:=ih _ (kid_lt hik) (PT.oks_get hk3 (List.getElem?_eq_getElem hik)) (PT.nds_get hik hd)
  have hok:=encT_ok (sortT kids[i])
  have hts:encTs ((sortTs kids).take (i+1))=encTs ((sortTs kids).take i)++[encT (sortT kids[i])]:=by rw [List.take_succ_eq_append_getElem his,encTs_app,hge];rfl
  obtain⟨ka,sa,xa,ya,he⟩:=encT_agg kids[i]
  obtain⟨kb,sb,xb,yb,he2⟩:=encT_agg (sortT kids[i])
  rw [he2] at ihk hts hok
  rw [he] at ihk ⊢
  refine goW ?_
  refine call_pfD hm (by rfl) ihk ?_
  refine goW ?_
  have hlt:(encTs ((sortTs kids).take i)).length=i:=by rw [encTs_len,List.length_take];omega
  refine r_appD hR 1 rfl (by trivial) rfl rfl rfl (by rw [hlt];simp;omega) (by rw [hlt];simp;omega) (by decide) (by decide) hok ?_
  intro o3 S3 hR
  refine goW ?_
  refine⟨i+1,⟨by omega,o3,by rw [hts];exact hR,?_⟩,by omega⟩
  rw [wrNat (by omega)]
  simp only [E_so1,hts]
  try rfl
 ·rw [decide_eq_false h]
  refine goW ?_
  have:(sortTs kids).take i=sortTs kids:=List.take_of_length_le (by omega)
  rw [this] at hR ⊢
  exact⟨_,rfl,_,rfl,rdo_T hR (i:=0) (j:=1) rfl rfl⟩
set_option maxHeartbeats 4000000 in
theorem sorted2_wp (hm:MonoC C) (ho:∀keys:List (List UInt8),keys.Nodup→keys.length<1099511627776→PF C 64 [.sl 1 stat (strs keys)] (.sl 1 stat (ints (ordK keys)))) {k:Int} {s:List UInt8} {keys:List (List UInt8)} {kids:List PT} (ih:∀u,u.n<(PT.mk k s keys kids).n→u.ok→u.nd→PF C 34 [encT u] (encT (sortT u))) (hk:(PT.mk k s keys kids).ok) (hd:PT.nds kids) (hdk:keys.Nodup) (hl:keys.length=kids.length) (hl2:keys.length<1099511627776) {S:St} (hR:Hs S [.gr 9 ⟨none,0,some 0,true⟩ [],.gr 25 ⟨none,0,some 0,true⟩ []]) {z:Env} :
  wpD gt C (.seq F34.body.rt.rt.lft.rt F34.body.rt.rt.rt) ((1,.box (encT (.mk k s keys kids)).cells)::(2,.box zT)::(3,.box [.int .i64 k,.str s,.sl 1 ⟨none,0,some 0,true⟩ [],.sl 4 ⟨none,0,some 0,true⟩ []])::(24,.val (.bool false))::z) S (bodyQ gt F34.res (Ret (encT (.mk k s ((ordK keys).map fun i=>keys.getD i []) ((ordK keys).map fun i=>(sortTs kids).getD i zPT))))):=by
 simp only [PT.ok] at hk
 obtain⟨hk1,hk2,hk3⟩:=hk
 have ho:=ho keys hdk hl2
 have hL:=@ordK_lt keys
 have hLl:=ordK_len keys
 generalize ordK keys=L at ho hL hLl
 have hil:=ints_len L
 have hsl:(sortTs kids).length=kids.length:=by rw [sortTs_map,List.length_map]
 have l1:=strs_length keys
 have l2:=encTs_len kids
 conv=>whnf
 refine goW ?_
 refine call_pf hm (by rfl) ho ?_
 refine goW ?_
 refine loop_rule hm (α:=Nat) (fun i env S'=>i≤L.length∧∃o1 o2,Hs S' [.gr 9 o1 (strs ((L.take i).map fun i=>keys.getD i [])),.gr 25 o2 (encTs ((L.take i).map fun i=>(sortTs kids).getD i zPT))]∧env=E_so2 (.mk k s keys kids) k s ((L.take i).map fun i=>keys.getD i []) o1 o2 ((L.take i).map fun i=>(sortTs kids).getD i zPT) L i) (fun i=>L.length-i) ?_ (a:=0) ⟨Nat.zero_le _,_,_,hR,rfl⟩
 rintro i env S' ⟨hi,o1,o2,hR,rfl⟩
 refine goW ?_
 by_cases h:(i:Int)<(ints L).length
 ·rw [decide_eq_true h]
  refine goW ?_
  have hik:i<L.length:=by omega
  have hj:=hL (List.getElem_mem hik)
  have hgi:(ints L)[i]? = some (.int .i64 (L[i]:Nat)):=ints_get (List.getElem?_eq_getElem hik)
  have htk:L.take (i+1)=L.take i++[L[i]]:=List.take_succ_eq_append_getElem hik
  generalize L[i]=j at hj hgi htk
  have hjk:j<kids.length:=by omega
  have g1:keys.getD j []=keys[j]:=by rw [List.getD_eq_getElem?_getD,List.getElem?_eq_getElem hj];rfl
  have g2:(sortTs kids).getD j zPT=sortT kids[j]:=by rw [List.getD_eq_getElem?_getD,List.getElem?_eq_getElem (by omega)];simp only [sortTs_map,List.getElem_map,Option.getD_some]
  have hks:strs ((L.take (i+1)).map fun i=>keys.getD i [])=strs ((L.take i).map fun i=>keys.getD i [])++[.str keys[j]]:=by rw [htk,List.map_append,List.map_cons,List.map_nil,g1];simp [strs]
  have hts:encTs ((L.take (i+1)).map fun i=>(sortTs kids).getD i zPT)=encTs ((L.take i).map fun i=>(sortTs kids).getD i zPT)++[encT (sortT kids[j])]:=by rw [htk,List.map_append,List.map_cons,List.map_nil,g2,encTs_app];rfl
  have sj:=strs_at hj
  generalize keys[j]=kj at hks sj
  have ihk:=ih _ (kid_lt hjk) (PT.oks_get hk3 (List.getElem?_eq_getElem hjk)) (PT.nds_get hjk hd)
  have hok:=encT_ok (sortT kids[j])
  have hej:=encTs_get hjk
  obtain⟨ka,sa,xa,ya,he⟩:=encT_agg kids[j]
  obtain⟨kb,sb,xb,yb,he2⟩:=encT_agg (sortT kids[j])
  rw [he2] at ihk hts hok
  have hrd:=rdT kids[j]
  rw [he] at ihk hej hrd
  refine step_ruleO (sx_ia (k:=i) rfl rfl (by omega)) ?_
  refine goW ?_
  refine step_ruleO (sx_ldEl (agg:=false) rfl rfl hgi rfl) ?_
  refine goW ?_
  refine step_ruleDO rfl rfl (sx_ia (k:=j) rfl rfl (by omega)) ?_
  refine goW ?_
  refine step_ruleDO rfl rfl (sx_ldEl (agg:=false) rfl rfl sj rfl) ?_
  refine goW ?_
  have hlt1:(strs ((L.take i).map fun i=>keys.getD i [])).length=i:=by rw [strs_length,List.length_map,List.length_take];omega
  refine r_appD hR 0 rfl (by trivial) rfl rfl rfl (by rw [hlt1];simp;omega) (by rw [hlt1];simp;omega) (by decide) (by decide) (by rfl) ?_
  intro o3 S3 hR
  refine goW ?_
  refine step_ruleDO rfl rfl (sx_ia (k:=j) rfl rfl (by omega)) ?_
  refine goW ?_
  refine step_ruleDO rfl rfl (sx_ldEl (agg:=true) rfl rfl hej hrd) ?_
  refine goW ?_
  refine call_pfD hm (by rfl) ihk ?_
  refine goW ?_
  have hlt:(encTs ((L.take i).map fun i=>(sortTs kids).getD i zPT)).length=i:=by rw [encTs_len,List.length_map,List.length_take];omega
  refine r_appD hR 1 rfl (by trivial) rfl rfl rfl (by rw [hlt];simp;omega) (by rw [hlt];simp;omega) (by decide) (by decide) hok ?_
  intro o4 S4 hR
  refine goW ?_
  refine⟨i+1,⟨by omega,o3,o4,by rw [hts,hks];exact hR,?_⟩,by omega⟩
  rw [wrNat (by omega)]
  simp only [E_so2,hts,hks]
  try rfl
 ·rw [decide_eq_false h]
  refine goW ?_
  have:L.take i=L:=List.take_of_length_le (by omega)
  rw [this] at hR ⊢
  exact⟨_,rfl,_,rfl,rdo_T hR (i:=0) (j:=1) rfl rfl⟩
set_option maxHeartbeats 4000000 in
theorem sorted_wp (hm:MonoC C) (ho:∀keys:List (List UInt8),keys.Nodup→keys.length<1099511627776→PF C 64 [.sl 1 stat (strs keys)] (.sl 1 stat (ints (ordK keys)))) {t:PT} (ih:∀u,u.n<t.n→u.ok→u.nd→PF C 34 [encT u] (encT (sortT u))) (hk:t.ok) (hd:t.nd):wpF gt C F34 [encT t] St.init (Ret (encT (sortT t))):=by
 obtain⟨k,s,keys,kids⟩:=t
 simp only [PT.nd] at hd
 obtain⟨hd1,hd2⟩:=hd
 have hR:=(Hs.init.addNil 9 true).addNil 25 true
 have l1:=strs_length keys
 have l2:=encTs_len kids
 have r1:=sorted1_wp (gt:=gt) (z:=[]) hm ih hk hd2 hR
 have no:¬(k=7∧keys.length=kids.length)→sortT (.mk k s keys kids)=.mk k s keys (sortTs kids):=fun h=>by rw [sortT,if_neg h]
 refine⟨rfl,?_⟩
 refine goW ?_
 by_cases c1:k=7
 ·rw [neI_false c1]
  refine goW ?_
  by_cases c2:keys.length=kids.length
  ·rw [neI_false (show ((strs keys).length:Int)=((encTs kids).length:Int) by omega)]
   rw [show sortT (.mk k s keys kids)=_ by rw [sortT,if_pos ⟨c1,c2⟩]]
   have r2:=sorted2_wp (gt:=gt) (z:=[]) hm ho ih hk hd2 (hd1 c1 c2).1 c2 (hd1 c1 c2).2 hR
   clear r1 no
   with_unfolding_all exact r2
  ·rw [neI_true (show ¬((strs keys).length:Int)=((encTs kids).length:Int) by omega),no (fun h=>c2 h.2)]
   with_unfolding_all exact r1
 ·rw [neI_true c1,no (fun h=>c1 h.1)]
  refine goJ ?_
  with_unfolding_all exact r1
end
end Go.Dn

namespace Go.Dn
open Go Go.Proofs.C1
theorem unlike_nodup:∀{seen keys:List (List UInt8)},unlikeB seen keys=true→keys.Nodup∧∀x∈keys,x ∉ seen
 | _,[],_=>⟨List.nodup_nil,by simp⟩
 | seen,s::r,h=>by
  simp only [unlikeB] at h
  by_cases hs:s∈seen
  ·rw [if_pos hs] at h;cases h
  ·rw [if_neg hs,Bool.and_eq_true] at h
   obtain⟨a,b⟩:=unlike_nodup h.2
   refine⟨List.nodup_cons.2 ⟨fun hm=>b s hm (by simp),a⟩,fun x hx=>?_⟩
   rcases List.mem_cons.1 hx with rfl | hx
   ·exact hs
   ·exact fun hm=>b x hx (by simp [hm])
theorem formed_parts {k:Int} {s:List UInt8} {keys:List (List UInt8)} {kids:List PT} (h:formedB (.mk k s keys kids)=true) :
  formedBs kids=true∧(k=7→s=[]∧keys.length=kids.length∧keys.Nodup)∧(k≠7→keys=[])∧(k≠7→k≠6→kids=[])∧(k=6→s=[]):=by
 simp only [formedB,Bool.and_eq_true] at h
 obtain⟨h1,h2⟩:=h
 refine⟨h1,?_⟩
 unfold shapeB at h2
 by_cases k1:k=1
 ·rw [if_pos k1] at h2;simp only [Bool.and_eq_true,decide_eq_true_eq] at h2
  exact⟨fun e=>by omega,fun _=>List.eq_nil_of_length_eq_zero h2.1.1,fun _ _=>List.eq_nil_of_length_eq_zero h2.1.2,fun e=>by omega⟩
 rw [if_neg k1] at h2
 by_cases k2:k=2
 ·rw [if_pos k2] at h2;simp only [Bool.and_eq_true,decide_eq_true_eq] at h2
  exact⟨fun e=>by omega,fun _=>List.eq_nil_of_length_eq_zero h2.1.1,fun _ _=>List.eq_nil_of_length_eq_zero h2.1.2,fun e=>by omega⟩
 rw [if_neg k2] at h2
 by_cases k3:k=3
 ·rw [if_pos k3,Bool.and_eq_true,Bool.and_eq_true] at h2
  have a:=of_decide_eq_true h2.1.1
  have b:=of_decide_eq_true h2.1.2
  exact⟨fun e=>by omega,fun _=>List.eq_nil_of_length_eq_zero a,fun _ _=>List.eq_nil_of_length_eq_zero b,fun e=>by omega⟩
 rw [if_neg k3] at h2
 by_cases k4:k=4
 ·rw [if_pos k4,Bool.and_eq_true,Bool.and_eq_true] at h2
  have a:=of_decide_eq_true h2.1.1
  have b:=of_decide_eq_true h2.1.2
  exact⟨fun e=>by omega,fun _=>List.eq_nil_of_length_eq_zero a,fun _ _=>List.eq_nil_of_length_eq_zero b,fun e=>by omega⟩
 rw [if_neg k4] at h2
 by_cases k5:k=5
 ·rw [if_pos k5,Bool.and_eq_true,Bool.and_eq_true] at h2
  have a:=of_decide_eq_true h2.1.1
  have b:=of_decide_eq_true h2.1.2
  exact⟨fun e=>by omega,fun _=>List.eq_nil_of_length_eq_zero a,fun _ _=>List.eq_nil_of_length_eq_zero b,fun e=>by omega⟩
 rw [if_neg k5] at h2
 by_cases k6:k=6
 ·rw [if_pos k6,Bool.and_eq_true] at h2
  have b:=of_decide_eq_true h2.2
  exact⟨fun e=>by omega,fun _=>List.eq_nil_of_length_eq_zero b,fun _ e=>absurd k6 e,fun _=>beqB_iff.1 h2.1⟩
 rw [if_neg k6] at h2
 by_cases k7:k=7
 ·rw [if_pos k7,Bool.and_eq_true,Bool.and_eq_true] at h2
  have a:=of_decide_eq_true h2.2.1
  exact⟨fun _=>⟨beqB_iff.1 h2.1,a,(unlike_nodup h2.2.2).1⟩,fun e=>absurd k7 e,fun e=>absurd k7 e,fun e=>absurd e k6⟩
 ·rw [if_neg k7] at h2;cases h2
theorem formedBs_get:∀{l:List PT} {i:Nat} (h:i<l.length),formedBs l=true→formedB l[i]=true
 | a::r,0,_,h=>by simp only [formedBs,Bool.and_eq_true] at h;exact h.1
 | a::r,i+1,hi,h=>by simp only [formedBs,Bool.and_eq_true] at h;exact formedBs_get (l:=r) (i:=i) (by simpa using hi) h.2
theorem PT.len_nsq:∀l:List PT,l.length≤PT.ns l
 | []=>Nat.le_refl _
 | t::r=>by have:=PT.n_pos t;have:=PT.len_nsq r;simp only [PT.ns,List.length_cons];omega
mutual
theorem formed_nd:∀{t:PT},formedB t=true→t.n<1099511627776→t.nd
 |.mk k s keys kids,h,hn=>by
  obtain⟨h1,h2,_⟩:=formed_parts h
  simp only [PT.n] at hn
  simp only [PT.nd]
  have:=PT.len_nsq kids
  exact⟨fun hk hl=>⟨(h2 hk).2.2,by omega⟩,formed_nds h1 (by omega)⟩
theorem formed_nds:∀{l:List PT},formedBs l=true→PT.ns l<1099511627776→PT.nds l
 | [],_,_=>trivial
 | t::r,h,hn=>by
  simp only [formedBs,Bool.and_eq_true] at h
  simp only [PT.ns] at hn
  simp only [PT.nds]
  exact⟨formed_nd h.1 (by omega),formed_nds h.2 (by omega)⟩
end
theorem getD_at {α:Type} {l:List α} {i:Nat} {z:α} (h:i<l.length):l.getD i z=l[i]:=by
 rw [List.getD_eq_getElem?_getD,List.getElem?_eq_getElem h];rfl
theorem sort_k (t:PT):(sortT t).k=t.k∧(sortT t).s=t.s:=by
 obtain⟨k,s,keys,kids⟩:=t
 rw [sortT];split<;>exact⟨rfl,rfl⟩
def sameB (a b:PT):Bool:=if formedB a && formedB b then eqT (sortT a) (sortT b) else eqT a b
end Go.Dn

namespace Go.Dn
open Go Go.Proofs.C1
set_option maxRecDepth 100000
attribute [local irreducible] afterS keepE
theorem oks_iff:∀{l:List PT},PT.oks l↔∀u∈l,u.ok
 | []=>⟨fun _ u h=>by simp at h,fun _=>trivial⟩
 | t::r=>by
  simp only [PT.oks,oks_iff (l:=r),List.mem_cons]
  exact⟨fun h u hu=>by rcases hu with rfl | hu;exact h.1;exact h.2 u hu,fun h=>⟨h t (.inl rfl),fun u hu=>h u (.inr hu)⟩⟩
mutual
theorem sort_ok:∀{t:PT},t.ok→(sortT t).ok
 |.mk k s keys kids,h=>by
  simp only [PT.ok] at h
  have hs:=sorts_ok h.2.2
  have hsl:(sortTs kids).length=kids.length:=by rw [sortTs_map,List.length_map]
  rw [sortT]
  split
  ·simp only [PT.ok,List.length_map,ordK_len]
   refine⟨h.1,by omega,oks_iff.2 fun u hu=>?_⟩
   obtain⟨i,hi,rfl⟩:=List.mem_map.1 hu
   have:=ordK_lt hi
   rw [getD_at (by omega)]
   exact oks_iff.1 hs _ (List.getElem_mem _)
  ·simp only [PT.ok]
   exact⟨h.1,by omega,hs⟩
theorem sorts_ok:∀{l:List PT},PT.oks l→PT.oks (sortTs l)
 | [],_=>trivial
 | t::r,h=>by
  simp only [PT.oks] at h
  simp only [sortTs,PT.oks]
  exact⟨sort_ok h.1,sorts_ok h.2⟩
end
section
variable {gt:GT} {C:CallT}
abbrev E_eql (a c:List (List UInt8)) (i:Nat):Env:=[(0,.val (.sl 1 stat (strs a))),(1,.val (.sl 1 stat (strs c))),(12,.val (.int .i64 (strs a).length)),(13,.val (.int .i64 i))]
set_option maxHeartbeats 2000000 in
theorem slEqual_wp (hm:MonoC C) {a c:List (List UInt8)} (hl:a.length<4611686018427387904):wpF gt C F100 [.sl 1 stat (strs a),.sl 1 stat (strs c)] St.init (Ret (.bool (decide (a=c)))):=by
 have no:∀{S:St},¬a=c→Ret (.bool (decide (a=c))) (.ret (.bool false)) S:=fun h=>by rw [decide_eq_false h];exact Ret.sta trivial
 have l1:=strs_length a
 have l2:=strs_length c
 refine⟨rfl,?_⟩
 refine goW ?_
 by_cases z:((strs a).length:Int)=(strs c).length
 case neg =>
  rw [neI_true z]
  refine goW ?_
  exact⟨_,rfl,no fun h=>by rw [h] at z;exact z rfl⟩
 rw [neI_false z]
 refine goW ?_
 refine loop_rule hm (α:=Nat) (fun i env S'=>i≤a.length∧env=E_eql a c i∧S'=St.init∧a.take i=c.take i) (fun i=>a.length-i) ?_ (a:=0) ⟨Nat.zero_le _,rfl,rfl,rfl⟩
 rintro i env S' ⟨hi,rfl,rfl,hp⟩
 refine goW ?_
 by_cases h:(i:Int)<(strs a).length
 ·rw [decide_eq_true h]
  refine goW ?_
  have hik:i<a.length:=by omega
  have hik':i<c.length:=by omega
  refine step_ruleDO rfl rfl (sx_ia (k:=i) rfl rfl (by omega)) ?_
  refine goW ?_
  refine step_ruleDO rfl rfl (sx_ldEl (agg:=false) rfl rfl (strs_at hik) rfl) ?_
  refine goW ?_
  refine step_ruleDO rfl rfl (sx_ia (k:=i) rfl rfl (by omega)) ?_
  refine goW ?_
  refine step_ruleDO rfl rfl (sx_ldEl (agg:=false) rfl rfl (strs_at hik') rfl) ?_
  refine goW ?_
  by_cases z:a[i]=c[i]
  ·rw [beqB_true z]
   refine goW ?_
   refine⟨i+1,⟨by omega,?_,rfl,?_⟩,by omega⟩
   ·rw [wrNat (by omega)];try rfl
   ·rw [List.take_succ_eq_append_getElem hik,List.take_succ_eq_append_getElem hik',hp,z]
  ·rw [beqB_false z]
   refine goW ?_
   exact⟨_,rfl,no fun h=>by subst h;exact z rfl⟩
 rw [decide_eq_false h]
 refine goW ?_
 rw [List.take_of_length_le (by omega),List.take_of_length_le (by omega)] at hp
 refine⟨_,rfl,?_⟩
 rw [decide_eq_true hp]
 exact Ret.sta trivial
abbrev E_eqf (f:FuncId) (a c:List PT) (i:Nat):Env:=[(1,.val (.sl 4 stat (encTs c))),(2,.val (.fn f [] [])),(15,.val (.sl 4 stat (encTs a))),(16,.val (.int .i64 (encTs a).length)),(17,.val (.int .i64 i))]
theorem eqTs_false {a c:List PT} (h:¬a=c):eqTs a c=false:=by
 cases hh:eqTs a c with
 | false=>rfl
 | true=>exact absurd (eqTs_iff.1 hh) h
set_option maxHeartbeats 2000000 in
theorem eqFunc_wp (hm:MonoC C) {a c:List PT} (ih:∀u,u.n≤PT.ns a→u.ok→∀v,PF C 58 [encT u,encT v] (.bool (eqT u v))) (hk:PT.oks a) (hl:a.length<4611686018427387904) :
  wpF gt C F101 [.sl 4 stat (encTs a),.sl 4 stat (encTs c),.fn 58 [] []] St.init (Ret (.bool (eqTs a c))):=by
 have no:∀{S:St},¬a=c→Ret (.bool (eqTs a c)) (.ret (.bool false)) S:=fun h=>by rw [eqTs_false h];exact Ret.sta trivial
 have l1:=encTs_len a
 have l2:=encTs_len c
 refine⟨rfl,?_⟩
 refine goW ?_
 by_cases z:((encTs a).length:Int)=(encTs c).length
 case neg =>
  rw [neI_true z]
  refine goW ?_
  exact⟨_,rfl,no fun h=>by rw [h] at z;exact z rfl⟩
 rw [neI_false z]
 refine goW ?_
 refine loop_rule hm (α:=Nat) (fun i env S'=>i≤a.length∧env=E_eqf 58 a c i∧S'=St.init∧a.take i=c.take i) (fun i=>a.length-i) ?_ (a:=0) ⟨Nat.zero_le _,rfl,rfl,rfl⟩
 rintro i env S' ⟨hi,rfl,rfl,hp⟩
 refine goW ?_
 by_cases h:(i:Int)<(encTs a).length
 ·rw [decide_eq_true h]
  refine goW ?_
  have hik:i<a.length:=by omega
  have hik':i<c.length:=by omega
  have ihk:=ih _ (PT.ns_mem (List.getElem_mem hik)) (PT.oks_get hk (List.getElem?_eq_getElem hik)) c[i]
  have e1:=encTs_get hik
  have e2:=encTs_get hik'
  have r1:=rdT a[i]
  have r2:=rdT c[i]
  obtain⟨k1,s1,x1,y1,g1⟩:=encT_agg a[i]
  obtain⟨k2,s2,x2,y2,g2⟩:=encT_agg c[i]
  rw [g1] at ihk e1 r1
  rw [g2] at ihk e2 r2
  refine step_ruleO (sx_ia (k:=i) rfl rfl (by omega)) ?_
  refine goW ?_
  refine step_ruleO (sx_ldEl (agg:=true) rfl rfl e1 r1) ?_
  refine goW ?_
  refine step_ruleO (sx_ia (k:=i) rfl rfl (by omega)) ?_
  refine goW ?_
  refine step_ruleO (sx_ldEl (agg:=true) rfl rfl e2 r2) ?_
  refine goW ?_
  refine call_pf hm (by rfl) ihk ?_
  refine goW ?_
  by_cases z:a[i]=c[i]
  ·rw [eqT_true z]
   refine goW ?_
   refine⟨i+1,⟨by omega,?_,rfl,?_⟩,by omega⟩
   ·rw [wrNat (by omega)];try rfl
   ·rw [List.take_succ_eq_append_getElem hik,List.take_succ_eq_append_getElem hik',hp,z]
  ·rw [eqT_false z]
   refine goW ?_
   exact⟨_,rfl,no fun h=>by subst h;exact z rfl⟩
 rw [decide_eq_false h]
 refine goW ?_
 rw [List.take_of_length_le (by omega),List.take_of_length_le (by omega)] at hp
 refine⟨_,rfl,?_⟩
 rw [eqTs_iff.2 hp]
 exact Ret.sta trivial
set_option maxHeartbeats 2000000 in
theorem identical_wp (hm:MonoC C) {t u:PT} (hk:t.ok) (he:∀a c:List (List UInt8),a.length<4611686018427387904→PF C 100 [.sl 1 stat (strs a),.sl 1 stat (strs c)] (.bool (decide (a=c)))) (hf:∀c:List PT,PF C 101 [.sl 4 stat (encTs t.kids),.sl 4 stat (encTs c),.fn 58 [] []] (.bool (eqTs t.kids c))) :
  wpF gt C F58 [encT t,encT u] St.init (Ret (.bool (eqT t u))):=by
 obtain⟨k,s,keys,kids⟩:=t
 obtain⟨k',s',keys',kids'⟩:=u
 simp only [PT.ok] at hk
 have he:=he keys keys' (by omega)
 have hf:=hf kids'
 simp only [PT.kids] at hf
 rw [eqT]
 refine⟨rfl,?_⟩
 refine goW ?_
 by_cases z0:k=k'
 case neg =>
  rw [eqI_false z0,decide_eq_false z0]
  refine goW ?_
  exact⟨_,rfl,Ret.sta trivial⟩
 rw [eqI_true z0,decide_eq_true z0]
 refine goW ?_
 by_cases z1:s=s'
 case neg =>
  rw [beqB_false z1,decide_eq_false z1]
  refine goW ?_
  exact⟨_,rfl,Ret.sta trivial⟩
 rw [beqB_true z1,decide_eq_true z1]
 refine goW ?_
 by_cases z2:keys=keys'
 case neg =>
  rw [decide_eq_false z2] at he
  refine call_pf hm (by rfl) he ?_
  rw [decide_eq_false z2]
  refine goW ?_
  exact⟨_,rfl,Ret.sta trivial⟩
 rw [decide_eq_true z2] at he
 refine call_pf hm (by rfl) he ?_
 rw [decide_eq_true z2]
 refine goW ?_
 refine call_pf hm (by rfl) hf ?_
 refine goW ?_
 exact⟨_,rfl,Ret.sta trivial⟩
set_option maxHeartbeats 2000000 in
theorem same_wp (hm:MonoC C) (hi:∀t u:PT,t.ok→PF C 58 [encT t,encT u] (.bool (eqT t u))) (hs:∀t:PT,t.ok→t.nd→PF C 34 [encT t] (encT (sortT t)))
  {a c:PT} (ha:PF C 50 [encT a] (.bool (formedB a))) (hc:PF C 50 [encT c] (.bool (formedB c))) (a1:a.ok) (a2:formedB a=true→a.nd) (c1:c.ok) (c2:formedB c=true→c.nd) :
  wpF gt C F24 [encT a,encT c] St.init (Ret (.bool (sameB a c))):=by
 have h1:=hi a c a1
 have h2:=hi (sortT a) (sortT c) (sort_ok a1)
 have s1:=hs a a1
 have s2:=hs c c1
 have key:∀r,sameB a c=r→(formedB a=true→formedB c=true→eqT (sortT a) (sortT c)=r)∧(¬(formedB a=true∧formedB c=true)→eqT a c=r):=fun r e=>by
  unfold sameB at e
  refine⟨fun x y=>?_,fun n=>?_⟩
  ·rw [x,y] at e;exact e
  ·rw [if_neg (by rw [Bool.and_eq_true];exact n)] at e;exact e
 generalize hr:sameB a c=res
 obtain⟨k1,k2⟩:=key res hr
 clear key hr
 obtain⟨ka,sa,xa,ya,ga⟩:=encT_agg a
 obtain⟨kc,sc,xc,yc,gc⟩:=encT_agg c
 rw [ga] at ha h1 s1 ⊢
 rw [gc] at hc h1 s2 ⊢
 cases fa:formedB a with
 | false =>
  rw [fa] at ha
  rw [k2 (by simp [fa])] at h1
  refine⟨rfl,?_⟩
  refine goW ?_
  refine call_pf hm (by rfl) ha ?_
  refine goW ?_
  refine call_pf hm (by rfl) h1 ?_
  refine goW ?_
  exact⟨_,rfl,Ret.sta trivial⟩
 | true =>
  cases fc:formedB c with
  | false =>
   rw [fa] at ha
   rw [fc] at hc
   rw [k2 (by simp [fc])] at h1
   refine⟨rfl,?_⟩
   refine goW ?_
   refine call_pf hm (by rfl) ha ?_
   refine goW ?_
   refine call_pf hm (by rfl) hc ?_
   refine goW ?_
   refine call_pf hm (by rfl) h1 ?_
   refine goW ?_
   exact⟨_,rfl,Ret.sta trivial⟩
  | true =>
   rw [fa] at ha
   rw [fc] at hc
   rw [k1 fa fc] at h2
   have s1:=s1 (a2 fa)
   have s2:=s2 (c2 fc)
   obtain⟨ka',sa',xa',ya',ga'⟩:=encT_agg (sortT a)
   obtain⟨kc',sc',xc',yc',gc'⟩:=encT_agg (sortT c)
   rw [ga'] at s1 h2
   rw [gc'] at s2 h2
   refine⟨rfl,?_⟩
   refine goW ?_
   refine call_pf hm (by rfl) ha ?_
   refine goW ?_
   refine call_pf hm (by rfl) hc ?_
   refine goW ?_
   refine call_pfD hm (by rfl) s1 ?_
   refine goW ?_
   refine call_pfD hm (by rfl) s2 ?_
   refine goW ?_
   refine call_pfD hm (by rfl) h2 ?_
   refine goW ?_
   exact⟨_,rfl,Ret.sta trivial⟩
end
end Go.Dn

namespace Go.Dn
open Go Go.Proofs.C1
set_option maxRecDepth 100000
attribute [local irreducible] afterS keepE
section
variable {gt:GT} {C:CallT}
end
end Go.Dn

namespace Go.Dn
open Go Go.Proofs.C1
set_option maxRecDepth 100000
attribute [local irreducible] afterS keepE
def OwI (S:St) (R:List Rs) (ty:TypeId) (o:SI) (xs:List AV) (l:List Nat):Prop :=
 xs.length=l.length∧((xs=ints l∧Hs S (R++[.gr ty o xs]))∨∃t q b,o=⟨some (t,q),0,none,false⟩∧Hs S ((R++[.bx b ty ((ints l).flatMap AV.cells++[])])++[.mk t q b]))
section
variable {S:St} {R:List Rs} {ty:TypeId} {o:SI} {xs:List AV} {l:List Nat}
theorem OwI.els (h:OwI S R ty o xs l):elems S false 1 o xs=some (ints l):=by
 obtain⟨hx,h⟩:=h
 rcases h with⟨rfl,h⟩ | ⟨t,q,b,rfl,h⟩
 ·have hg:=h.ok R.length _ (by rw [List.getElem?_append_right (Nat.le_refl _),Nat.sub_self];rfl)
  rcases hg with⟨h1,_,_,h4⟩ | ⟨t,q,rfl,h1,h2,h5,h3,h4⟩
  ·unfold elems
   simp only [rd,h1]
  ·unfold elems
   simp only [rd,h3,h4]
 ·have hi:((R++[Rs.bx b ty ((ints l).flatMap AV.cells++[])])++[Rs.mk t q b])[R.length]? = some (.bx b ty ((ints l).flatMap AV.cells++[])):=by simp
  have hj:((R++[Rs.bx b ty ((ints l).flatMap AV.cells++[])])++[Rs.mk t q b])[R.length+1]? = some (.mk t q b):=by simp
  have:=arr_els h (i:=R.length) (j:=R.length+1) hi hj (ints_el l) (off:=0) (cap:=none) (nl:=false) (xs:=xs) (by rw [ints_len];omega)
  rw [List.drop_zero,hx,List.take_of_length_le (by rw [ints_len];omega)] at this
  exact this
theorem OwI.st (h:OwI S R ty o xs l) {gt:GT} {d:Option Nat} {env:Env} {a x:DOpd} {k v:Nat} (ha:loc env a=some (.el 1 o xs k 0)) (hv:opd env x=some (.int .i64 (v:Int))) (hk:k<l.length) :
  ∃S',stepO gt d env S (.st 1 a x)=.done (putV d .undef env) S'∧OwI S' R ty o xs (l.set k v):=by
 obtain⟨hx,h⟩:=h
 rcases h with⟨rfl,h⟩ | ⟨t,q,b,rfl,h⟩
 ·obtain⟨S',h1,t,q,b,h2,h3⟩:=gr_st (off:=0) (sz:=1) (v':=.int .i64 (v:Int)) h (fun y hy=>(ints_el l y hy).1) ha hv rfl (by rw [ints_len];exact hk) (Nat.le_refl 1) (by
   have hc:(ints l)[k]'(by rw [ints_len];omega)=.int .i64 ((l[k]:Nat):Int):=by simp [ints]
   rw [hc];rfl)
  rw [ints_set] at h3
  exact⟨S',h1,by rw [List.length_set];exact hx,.inr ⟨t,q,b,h2,h3⟩⟩
 ·have hi:((R++[Rs.bx b ty ((ints l).flatMap AV.cells++[])])++[Rs.mk t q b])[R.length]? = some (.bx b ty ((ints l).flatMap AV.cells++[])):=by simp
  have hj:((R++[Rs.bx b ty ((ints l).flatMap AV.cells++[])])++[Rs.mk t q b])[R.length+1]? = some (.mk t q b):=by simp
  obtain⟨S',h1,h2⟩:=arr_st h R.length (j:=R.length+1) hi hj (fun y hy=>(ints_el l y hy).1) (gt:=gt) (d:=d) (env:=env) (a:=a) (x:=x) (xs:=xs) (so:=0) (k:=k) (off:=0) (sz:=1) (cap:=none) (nl:=false) (v:=.int .i64 (v:Int)) (v':=.int .i64 (v:Int)) ha hv rfl (by omega) (by rw [ints_len];omega) (Nat.le_refl 1) (by
   have hc:(ints l)[0+k]'(by rw [ints_len];omega)=.int .i64 ((l[k]:Nat):Int):=by simp [ints]
   rw [hc];rfl)
  rw [Nat.zero_add,ints_set] at h2
  refine⟨S',h1,by rw [List.length_set];exact hx,.inr ⟨t,q,b,rfl,?_⟩⟩
  simpa using h2
end
section
variable {gt:GT} {C:CallT}
end
end Go.Dn

namespace Go.Dn
open Go Go.Proofs.C1
set_option maxRecDepth 100000
attribute [local irreducible] afterS keepE
section
variable {gt:GT} {C:CallT}
end
end Go.Dn

namespace Go.Dn
open Go Go.Proofs.C1
set_option maxRecDepth 100000
attribute [local irreducible] afterS keepE
section
variable {gt:GT} {C:CallT}
end
end Go.Dn

namespace Go.Proofs.YthgidapmofcloaaGreatDoor.Fn
open Go.ChangeShapes Go.WideShapes Go.ChangeAt Go.RowKit Go.Dn
section
variable {R:List Rs} {ty:TypeId} {t b:Nat}
theorem swapC (g:AV):SwapC A R ty t b g:=fun S xs P X M Y Q a c n ha hc hn hx hl hxy hA=>by
 subst ha hc hn
 exact AC_intro Tryz.checked.mixed Tryz.func218 (by kernel_rfl) C1.F218_ok (swap_wp hm hx hl hxy hA)
theorem rotC (f:FuncId) (cs:List AV):RotC A R ty t b (.fn f [] cs):=fun S xs P X Y Q a m c ha hmm hc h1 h2 hx hl hA=>by
 subst ha hmm hc
 exact AC_intro Tryz.checked.mixed Tryz.func201 (by kernel_rfl) C1.F201_ok (rot_wp hm (swapC _) h1 h2 hx hl hA)
theorem insC {f:FuncId} {cs:List AV} {n:Nat} {cz:Nat→Nat→Int} (hz:Cz cz) (hc:CmpC A f cs R ty t b n cz):InsC A R ty t b n (.fn f [] cs) cz:=fun S xs P X Q a c ha hcc hX hx hl hA=>by
 subst ha hcc
 exact AC_intro Tryz.checked.mixed Tryz.func180 (by kernel_rfl) C1.F180_ok (ins_wp hm hz hc hX hx hl hA)
theorem mrgA {f:FuncId} {cs:List AV} {n:Nat} {cz:Nat→Nat→Int} (hz:Cz cz) (hc:CmpC A f cs R ty t b n cz):∀k,MrgC A R ty t b n (.fn f [] cs) cz k :=
 mrgC (gt:=gtT) hm (fun us S Q h=>AC_intro Tryz.checked.mixed Tryz.func181 (by kernel_rfl) C1.F181_ok h) hz hc (rotC f cs)
theorem stbC {f:FuncId} {cs:List AV} {n:Nat} {cz:Nat→Nat→Int} (hz:Cz cz) (hc:CmpC A f cs R ty t b n cz):StbC A R ty t b n (.fn f [] cs) cz 150 fun xs=>[slA t xs.length xs,.int .i64 xs.length,.fn f [] cs]:=fun S xs L hn hx hl hA =>
 AC_intro Tryz.checked.mixed Tryz.func150 (by kernel_rfl) C1.F150_ok (stb_wp hm (insC hz hc) (mrgA hz hc) hn hx hl hA)
theorem sstC {f:FuncId} {cs:List AV} {n:Nat} {cz:Nat→Nat→Int} (hz:Cz cz) (hc:CmpC A f cs R ty t b n cz):SstC A R ty t b n (.fn f [] cs) cz:=fun S xs L hn hx hl hA =>
 AC_intro Tryz.checked.mixed Tryz.func112 (by kernel_rfl) C1.F112_ok (sst_wp hm (stbC hz hc) hn hx hl hA)
end
theorem ins0 (g:AV) (S:St):A 180 [slN,.int .i64 0,.int .i64 0,g] S fun r S'=>r=.ret (.tup [])∧S'=S :=
 AC_intro Tryz.checked.mixed Tryz.func180 (by kernel_rfl) C1.F180_ok ins0_wp
theorem stb0 (g:AV) (S:St):A 150 [slN,.int .i64 0,g] S fun r S'=>r=.ret (.tup [])∧S'=S :=
 AC_intro Tryz.checked.mixed Tryz.func150 (by kernel_rfl) C1.F150_ok (stb0_wp hm (ins0 g))
theorem sst0 (g:AV) (S:St):A 112 [slN,g] S fun r S'=>r=.ret (.tup [])∧S'=S :=
 AC_intro Tryz.checked.mixed Tryz.func112 (by kernel_rfl) C1.F112_ok (sst0_wp hm (stb0 g))
theorem cmpS (a c:List UInt8):PF A 145 [.str a,.str c] (.int .i64 (cmpB a c)) :=
 pf Tryz.func145 (by kernel_rfl) C1.F145_ok (s2 trivial trivial) cmpS_wp
theorem compareS (a c:List UInt8):PF A 104 [.str a,.str c] (.int .i64 (cmpB a c)) :=
 pf Tryz.func104 (by kernel_rfl) C1.F104_ok (s2 trivial trivial) (compare_wp hm cmpS)
theorem ord1 (keys:List (List UInt8)) (ty:TypeId) (t b:Nat):CmpC A 113 [.ptr 0 0] (R_k keys) ty t b keys.length (czK keys):=fun S l i j hA hi hj =>
 AC_intro Tryz.checked.mixed Tryz.func113 (by kernel_rfl) C1.F113_ok (ord1_wp hm compareS hA hi hj)
theorem order (keys:List (List UInt8)) (hd:keys.Nodup) (hl:keys.length<1099511627776):PF A 64 [.sl 1 stat (strs keys)] (.sl 1 stat (ints (ordK keys))) :=
 pf Tryz.func64 (by kernel_rfl) C1.F64_ok (s1 (sK keys)) (by
  cases keys with
  | nil =>
   have e:ordK ([]:List (List UInt8))=[]:=List.eq_nil_of_length_eq_zero (ordK_len [])
   rw [e]
   exact order0_wp hm (sst0 _)
  | cons k r=>exact order_wp hm (fun t b=>sstC (czK_cz _) (ord1 _ _ t b)) hd (by simp) hl)
theorem sorted:∀t:PT,t.ok→t.nd→PF A 34 [encT t] (encT (sortT t)) :=
 indT fun t ih hk hd=>pf Tryz.func34 (by kernel_rfl) C1.F34_ok (s1 (sta_T t)) (sorted_wp hm order ih hk hd)
theorem slEqual (a c:List (List UInt8)) (h:a.length<4611686018427387904):PF A 100 [.sl 1 stat (strs a),.sl 1 stat (strs c)] (.bool (decide (a=c))) :=
 pf Tryz.func100 (by kernel_rfl) C1.F100_ok (s2 (sK a) (sK c)) (slEqual_wp hm h)
theorem identical:∀t u:PT,t.ok→PF A 58 [encT t,encT u] (.bool (eqT t u)) :=
 indT fun t ih u h=>pf Tryz.func58 (by kernel_rfl) C1.F58_ok (s2 (sta_T t) (sta_T u)) (identical_wp hm h slEqual fun c =>
  pf Tryz.func101 (by kernel_rfl) C1.F101_ok (s3 (sta_sl (sta_Ts t.kids)) (sta_sl (sta_Ts c)) ⟨trivial,trivial⟩)
   (eqFunc_wp hm (fun v hv hk w=>ih v (by cases t;simp only [PT.kids,PT.n] at hv ⊢;omega) w hk) (by cases t;simp only [PT.ok] at h;exact h.2.2) (by cases t;simp only [PT.ok] at h;simp only [PT.kids];omega)))
theorem same (a c:PT) (a0:a.sok) (a1:a.ok) (a2:a.n<1099511627776) (c0:c.sok) (c1:c.ok) (c2:c.n<1099511627776):PF A 24 [encT a,encT c] (.bool (sameB a c)) :=
 pf Tryz.func24 (by kernel_rfl) C1.F24_ok (s2 (sta_T a) (sta_T c)) (same_wp hm identical sorted (formed a a0) (formed c c0) a1 (fun h=>formed_nd h a2) c1 (fun h=>formed_nd h c2))
end Go.Proofs.YthgidapmofcloaaGreatDoor.Fn

namespace Go.Dn
open Go Go.Proofs.C1
def sgnI (n:Int):Int:=if n<0 then -1 else if 0<n then 1 else 0
def lexI (x y:Int):Int:=if x=0 then y else x
structure Tr3 (x y z:Int):Prop where
 a:x≤0→y≤0→z≤0
 b:x≤0→y<0→z<0
 c:x<0→y≤0→z<0
theorem Tr3.zero:Tr3 0 0 0:=⟨fun _ _=>by omega,fun _ _=>by omega,fun _ _=>by omega⟩
theorem Tr3.lex {x y z x' y' z':Int} (h:Tr3 x y z) (k:x=0→y=0→z=0→Tr3 x' y' z'):Tr3 (lexI x x') (lexI y y') (lexI z z'):=by
 obtain⟨a,b,c⟩:=h
 unfold lexI
 by_cases hx:x=0
 ·by_cases hy:y=0
  ·by_cases hz:z=0
   ·rw [if_pos hx,if_pos hy,if_pos hz];exact k hx hy hz
   ·have:=a (by omega) (by omega)
    rw [if_pos hx,if_pos hy,if_neg hz]
    exact⟨fun _ _=>by omega,fun _ _=>by omega,fun _ _=>by omega⟩
  ·rw [if_pos hx,if_neg hy]
   refine⟨?_,?_,?_⟩<;>intro h1 h2<;>(have:=b (by omega) (by omega);rw [if_neg (by omega)];omega)
 ·rw [if_neg hx]
  by_cases hy:y=0
  ·rw [if_pos hy]
   refine⟨?_,?_,?_⟩<;>intro h1 h2<;>(have:=c (by omega) (by omega);rw [if_neg (by omega)];omega)
  ·rw [if_neg hy]
   refine⟨?_,?_,?_⟩<;>intro h1 h2<;>(have:=c (by omega) (by omega);rw [if_neg (by omega)];omega)
theorem Tr3.sgn (p q r:Int):Tr3 (sgnI (p-q)) (sgnI (q-r)) (sgnI (p-r)):=by
 unfold sgnI
 refine⟨?_,?_,?_⟩<;>intro h1 h2<;>split at h1<;>split at h2<;>split<;>omega
theorem Tr3.sub (p q r:Int):Tr3 (p-q) (q-r) (p-r):=⟨fun _ _=>by omega,fun _ _=>by omega,fun _ _=>by omega⟩
theorem Tr3.cmp (a b c:List UInt8):Tr3 (cmpB a b) (cmpB b c) (cmpB a c):=by
 have h1:=cmpB_anti a b
 have h2:=cmpB_anti b c
 have h3:=cmpB_anti a c
 have t1:=cmpB_tr (a:=a) (b:=b) (c:=c)
 have t2:=cmpB_tr (a:=c) (b:=a) (c:=b)
 have t3:=cmpB_tr (a:=b) (b:=c) (c:=a)
 refine⟨?_,?_,?_⟩<;>intro h h'<;>omega
theorem Tr3.swap {x y z:Int} (h:Tr3 y x z):Tr3 x y z:=⟨fun p q=>h.a q p,fun p q=>h.c q p,fun p q=>h.b q p⟩
theorem sgnI_anti (n:Int):sgnI (-n)=- sgnI n:=by unfold sgnI;split<;>split<;>omega
theorem sgnI_zero {n:Int} (h:sgnI n=0):n=0:=by unfold sgnI at h;split at h<;>(try split at h)<;>omega
theorem lexI_anti (x y:Int):lexI (-x) (-y)=- lexI x y:=by unfold lexI;split<;>split<;>omega
theorem lexI_zero {x y:Int} (h:lexI x y=0):x=0∧y=0:=by unfold lexI at h;split at h<;>omega
def One3 (x:Int):Prop:=x=-1∨x=0∨x=1
theorem One3.lex {x y:Int} (h:One3 x) (k:One3 y):One3 (lexI x y):=by unfold One3 lexI at *;split<;>omega
theorem One3.sgn (n:Int):One3 (sgnI n):=by unfold One3 sgnI;split<;>(try split)<;>omega
theorem One3.zero:One3 0:=.inr (.inl rfl)
def emB (d:List UInt8):Int:=if d=[] then 0 else 1
theorem emB_zero {d e:List UInt8} (h:emB d-emB e=0):d=[]↔e=[]:=by
 unfold emB at h
 by_cases a:d=[]<;>by_cases b:e=[]<;>simp [a,b] at h ⊢
theorem One3.em (d e:List UInt8):One3 (emB d-emB e):=by unfold One3 emB;split<;>split<;>omega
def ordP (a b:Parts3):Int:=lexI (emB a.2.1-emB b.2.1) (if a.2.1=[] then 0 else lexI (sgnI ((a.2.1.length+a.2.2)-(b.2.1.length+b.2.2))) (cmpB a.2.1 b.2.1))
theorem ordP_anti (a b:Parts3):ordP b a=- ordP a b:=by
 unfold ordP
 rw [←lexI_anti]
 by_cases h:emB a.2.1-emB b.2.1=0
 ·have e:=emB_zero h
  rw [show emB b.2.1-emB a.2.1=-(emB a.2.1-emB b.2.1) by omega]
  by_cases z:a.2.1=[]
  ·rw [if_pos z,if_pos (e.1 z)];rfl
  ·rw [if_neg z,if_neg (fun h=>z (e.2 h)),←lexI_anti,cmpB_anti a.2.1 b.2.1,←sgnI_anti]
   congr 3;omega
 ·unfold lexI
  rw [if_neg (by omega),if_neg (by omega)];omega
theorem ordP_tr (a b c:Parts3):Tr3 (ordP a b) (ordP b c) (ordP a c):=by
 unfold ordP
 refine (Tr3.sub _ _ _).lex fun h1 h2 h3=>?_
 have e1:=emB_zero h1
 have e2:=emB_zero h2
 by_cases z:a.2.1=[]
 ·rw [if_pos z,if_pos (e1.1 z),if_pos z];exact Tr3.zero
 ·rw [if_neg z,if_neg (fun h=>z (e1.2 h)),if_neg z]
  exact (Tr3.sgn _ _ _).lex fun _ _ _=>Tr3.cmp _ _ _
theorem One3.cmp (a b:List UInt8):One3 (cmpB a b):=cmpB_one a b
theorem ordP_one (a b:Parts3):One3 (ordP a b):=by
 unfold ordP
 refine (One3.em _ _).lex ?_
 split
 ·exact One3.zero
 ·exact (One3.sgn _).lex (One3.cmp _ _)
def sgP (a b:Parts3):Int:=if a.1=true then (if b.1=true then ordP b a else -1) else (if b.1=true then 1 else ordP a b)
theorem sgP_anti (a b:Parts3):sgP b a=- sgP a b:=by
 unfold sgP
 cases a.1<;>cases b.1<;>simp [ordP_anti a b]
theorem One3.neg {x:Int} (h:One3 x):One3 (-x):=by unfold One3 at *;omega
theorem sgP_one (a b:Parts3):One3 (sgP a b):=by
 unfold sgP
 split<;>split
 ·exact ordP_one _ _
 ·exact .inl rfl
 ·exact .inr (.inr rfl)
 ·exact ordP_one _ _
theorem sgP_tr (a b c:Parts3):Tr3 (sgP a b) (sgP b c) (sgP a c):=by
 unfold sgP
 have s:=(ordP_tr c b a).swap
 have t:=ordP_tr a b c
 have o1:=ordP_one a b
 have o2:=ordP_one b c
 cases a.1<;>cases b.1<;>cases c.1<;>simp only [Bool.false_eq_true,if_true,if_false]
 ·exact t
 all_goals first | exact s | (refine⟨?_,?_,?_⟩<;>intro h h'<;>omega)
def numB (a b:List UInt8):Int×Int:=if (normB a).2=0 then (if (normB b).2=0 then (sgP (splitB a).1 (splitB b).1,0) else (0,(normB b).2)) else (0,(normB a).2)
theorem numB_ok {a b:List UInt8} (ha:(normB a).2=0) (hb:(normB b).2=0):numB a b=(sgP (splitB a).1 (splitB b).1,0):=by
 unfold numB;rw [if_pos ha,if_pos hb]
theorem norm_split {s:List UInt8} (h:(normB s).2=0):(splitB s).2=0∧normB s=joinB (splitB s).1:=by
 unfold normB at h ⊢
 by_cases z:(splitB s).2=0
 ·rw [if_pos z];exact⟨z,rfl⟩
 ·rw [if_neg z] at h;exact absurd h z
theorem join_empty {p:Parts3} (h:(joinB p).2=0) (e:p.2.1=[]):p.2.2=0∧p.1=false:=by
 unfold joinB at h
 by_cases z:runB p.2.1<p.2.1.length∨(hd 48 p.2.1=true∨tl 48 p.2.1=true)∨(p.2.1=[]∧(p.2.2≠0∨p.1=true))
 ·rw [if_pos z] at h;cases h
 ·have:=fun h=>z (.inr (.inr ⟨e,h⟩))
  refine⟨?_,?_⟩
  ·exact Decidable.byContradiction fun k=>this (.inl k)
  ·cases hp:p.1 with
   | false=>rfl
   | true=>exact absurd (.inr hp) this
theorem ordP_zero {a b:Parts3} (h:ordP a b=0) (ha:a.2.1=[]→a.2.2=0) (hb:b.2.1=[]→b.2.2=0):a.2.1=b.2.1∧a.2.2=b.2.2:=by
 unfold ordP at h
 obtain⟨h1,h2⟩:=lexI_zero h
 have e:=emB_zero h1
 by_cases z:a.2.1=[]
 ·exact⟨by rw [z,e.1 z],by rw [ha z,hb (e.1 z)]⟩
 ·rw [if_neg z] at h2
  obtain⟨h3,h4⟩:=lexI_zero h2
  have h3:=sgnI_zero h3
  have h4:=cmpB_zero h4
  rw [h4] at h3
  exact⟨h4,by omega⟩
theorem sgP_zero {s t:List UInt8} (hs:(normB s).2=0) (ht:(normB t).2=0) (h:sgP (splitB s).1 (splitB t).1=0):(normB s).1=(normB t).1:=by
 obtain⟨_,e1⟩:=norm_split hs
 obtain⟨_,e2⟩:=norm_split ht
 have z1:=fun e=>join_empty (p:=(splitB s).1) (by rw [←e1];exact hs) e
 have z2:=fun e=>join_empty (p:=(splitB t).1) (by rw [←e2];exact ht) e
 rw [e1,e2]
 generalize (splitB s).1=a at h z1
 generalize (splitB t).1=b at h z2
 have key:a=b:=by
  unfold sgP at h
  have p1:=ordP_zero (a:=a) (b:=b)
  have p2:=ordP_zero (a:=b) (b:=a)
  obtain⟨a1,a2,a3⟩:=a
  obtain⟨b1,b2,b3⟩:=b
  simp only at h z1 z2 p1 p2
  cases a1<;>cases b1<;>simp only [Bool.false_eq_true,if_true,if_false] at h
  ·obtain⟨q1,q2⟩:=p1 h (fun e=>(z1 e).1) (fun e=>(z2 e).1);rw [q1,q2]
  ·cases h
  ·cases h
  ·obtain⟨q1,q2⟩:=p2 h (fun e=>(z2 e).1) (fun e=>(z1 e).1);rw [q1,q2]
 rw [key]
def hdK:List (List UInt8)→List (List UInt8)→Int
 | a::_,b::_=>cmpB a b
 | _,_=>0
mutual
def cmpT:PT→PT→Int
 |.mk k s keys kids,.mk k' s' keys' kids'=>if k=k' then (if k=3∧(numB s s').2=0 then (numB s s').1 else lexI (cmpB s s') (cmpKs keys keys' kids kids')) else sgnI (k-k')
def cmpKs:List (List UInt8)→List (List UInt8)→List PT→List PT→Int
 | keys,keys',t::r,u::r'=>lexI (hdK keys keys') (lexI (cmpT t u) (cmpKs keys.tail keys'.tail r r'))
 | _,_,[],[]=>0
 | _,_,[],_::_=>-1
 | _,_,_::_,[]=>1
end
theorem hdK_anti (a b:List (List UInt8)):hdK b a=- hdK a b:=by
 cases a<;>cases b<;>simp only [hdK]<;>first | exact cmpB_anti _ _ | rfl
theorem numB_swap {a b:List UInt8}:((numB b a).2=0↔(numB a b).2=0)∧((numB a b).2=0→(numB b a).1=- (numB a b).1):=by
 unfold numB
 by_cases h:(normB a).2=0<;>by_cases k:(normB b).2=0<;>simp [h,k,sgP_anti (splitB a).1 (splitB b).1]
mutual
theorem cmpT_anti:∀t u:PT,cmpT u t=- cmpT t u
 |.mk k s keys kids,.mk k' s' keys' kids'=>by
  simp only [cmpT]
  by_cases h:k=k'
  ·subst h
   rw [if_pos rfl,if_pos rfl]
   obtain⟨n1,n2⟩:=numB_swap (a:=s) (b:=s')
   by_cases c:k=3∧(numB s s').2=0
   ·rw [if_pos c,if_pos ⟨c.1,n1.2 c.2⟩,n2 c.2]
   ·rw [if_neg c,if_neg (fun h=>c ⟨h.1,n1.1 h.2⟩),←lexI_anti,cmpB_anti s s',cmpKs_anti keys keys' kids kids']
  ·rw [if_neg h,if_neg (fun e=>h e.symm),←sgnI_anti];congr 1;omega
theorem cmpKs_anti:∀(keys keys':List (List UInt8)) (l l':List PT),cmpKs keys' keys l' l=- cmpKs keys keys' l l'
 | keys,keys',t::r,u::r'=>by
  simp only [cmpKs]
  rw [←lexI_anti,←lexI_anti,hdK_anti keys keys',cmpT_anti t u,cmpKs_anti keys.tail keys'.tail r r']
 | _,_,[],[]=>by simp only [cmpKs];rfl
 | _,_,[],_::_=>by simp only [cmpKs];rfl
 | _,_,_::_,[]=>by simp only [cmpKs]
end
mutual
theorem cmpT_one:∀t u:PT,One3 (cmpT t u)
 |.mk k s keys kids,.mk k' s' keys' kids'=>by
  simp only [cmpT]
  split
  ·split
   ·unfold numB;split
    ·split
     ·exact sgP_one _ _
     ·exact One3.zero
    ·exact One3.zero
   ·exact (One3.cmp _ _).lex (cmpKs_one keys keys' kids kids')
  ·exact One3.sgn _
theorem cmpKs_one:∀(keys keys':List (List UInt8)) (l l':List PT),One3 (cmpKs keys keys' l l')
 | keys,keys',t::r,u::r'=>by
  simp only [cmpKs]
  refine One3.lex ?_ ((cmpT_one t u).lex (cmpKs_one _ _ r r'))
  cases keys<;>cases keys'<;>simp only [hdK]<;>first | exact One3.cmp _ _ | exact One3.zero
 | _,_,[],[]=>by simp only [cmpKs];exact One3.zero
 | _,_,[],_::_=>by simp only [cmpKs];exact .inl rfl
 | _,_,_::_,[]=>by simp only [cmpKs];exact .inr (.inr rfl)
end
def KL (b:Bool) (keys:List (List UInt8)) (kids:List PT):Prop:=if b=true then keys.length=kids.length else keys=[]
theorem KL.tail {b:Bool} {keys:List (List UInt8)} {t:PT} {r:List PT} (h:KL b keys (t::r)):KL b keys.tail r:=by
 unfold KL at *
 cases b
 ·simp only [Bool.false_eq_true,if_false] at h ⊢;rw [h];rfl
 ·simp only [if_true] at h ⊢;rw [List.length_tail,h];simp
theorem formed_KL {k:Int} {s:List UInt8} {keys:List (List UInt8)} {kids:List PT} (h:formedB (.mk k s keys kids)=true):KL (decide (k=7)) keys kids:=by
 obtain⟨_,h7,h6,_⟩:=formed_parts h
 unfold KL
 by_cases c:k=7
 ·rw [decide_eq_true c,if_pos rfl];exact (h7 c).2.1
 ·rw [decide_eq_false c,if_neg (by simp)];exact h6 c
theorem formed_num {s:List UInt8} {keys:List (List UInt8)} {kids:List PT} (h:formedB (.mk 3 s keys kids)=true):(normB s).2=0∧(normB s).1=s:=by
 simp only [formedB,Bool.and_eq_true] at h
 have h2:=h.2
 unfold shapeB at h2
 rw [if_neg (by omega),if_neg (by omega),if_pos rfl,Bool.and_eq_true] at h2
 have h3:=h2.2
 rw [Bool.and_eq_true] at h3
 exact⟨of_decide_eq_true h3.1,beqB_iff.1 h3.2⟩
theorem hdK_tr {b:Bool} {x y z:List (List UInt8)} {t u v:PT} {r p q:List PT} (h1:KL b x (t::r)) (h2:KL b y (u::p)) (h3:KL b z (v::q)):Tr3 (hdK x y) (hdK y z) (hdK x z):=by
 unfold KL at *
 cases b
 ·simp only [Bool.false_eq_true,if_false] at h1 h2 h3
  subst h1 h2 h3
  exact Tr3.zero
 ·simp only [if_true,List.length_cons] at h1 h2 h3
  cases x with
  | nil=>cases h1
  | cons x xs =>
  cases y with
  | nil=>cases h2
  | cons y ys =>
  cases z with
  | nil=>cases h3
  | cons z zs=>simp only [hdK];exact Tr3.cmp _ _ _
mutual
theorem cmpT_tr:∀t u v:PT,formedB t=true→formedB u=true→formedB v=true→Tr3 (cmpT t u) (cmpT u v) (cmpT t v)
 |.mk k s keys kids,.mk k' s' keys' kids',.mk k'' s'' keys'' kids'',f1,f2,f3=>by
  have e:∀(k s keys kids k' s' keys' kids'),cmpT (.mk k s keys kids) (.mk k' s' keys' kids')=lexI (sgnI (k-k')) (if k=3∧(numB s s').2=0 then (numB s s').1 else lexI (cmpB s s') (cmpKs keys keys' kids kids')):=fun k s keys kids k' s' keys' kids'=>by
   simp only [cmpT]
   by_cases h:k=k'
   ·subst h;rw [if_pos rfl,Int.sub_self];rfl
   ·rw [if_neg h];unfold lexI;rw [if_neg (fun z=>h (by have:=sgnI_zero z;omega))]
  rw [e,e,e]
  refine (Tr3.sgn _ _ _).lex fun z1 z2 _=>?_
  have z1:=sgnI_zero z1
  have z2:=sgnI_zero z2
  obtain rfl:k=k':=by omega
  obtain rfl:k=k'':=by omega
  by_cases k3:k=3
  ·subst k3
   have a:=(formed_num f1).1
   have b:=(formed_num f2).1
   have c:=(formed_num f3).1
   rw [numB_ok a b,numB_ok b c,numB_ok a c,if_pos ⟨rfl,rfl⟩,if_pos ⟨rfl,rfl⟩,if_pos ⟨rfl,rfl⟩]
   exact sgP_tr _ _ _
  ·rw [if_neg (fun h=>k3 h.1),if_neg (fun h=>k3 h.1),if_neg (fun h=>k3 h.1)]
   refine (Tr3.cmp _ _ _).lex fun _ _ _=>?_
   exact cmpKs_tr _ keys keys' keys'' kids kids' kids'' (formed_KL f1) (formed_KL f2) (formed_KL f3) (formed_parts f1).1 (formed_parts f2).1 (formed_parts f3).1
theorem cmpKs_tr:∀(b:Bool) (x y z:List (List UInt8)) (l m n:List PT),KL b x l→KL b y m→KL b z n→formedBs l=true→formedBs m=true→formedBs n=true→Tr3 (cmpKs x y l m) (cmpKs y z m n) (cmpKs x z l n)
 | b,x,y,z,t::r,u::p,v::q,h1,h2,h3,f1,f2,f3=>by
  simp only [cmpKs]
  simp only [formedBs,Bool.and_eq_true] at f1 f2 f3
  exact (hdK_tr h1 h2 h3).lex fun _ _ _=>(cmpT_tr t u v f1.1 f2.1 f3.1).lex fun _ _ _=>cmpKs_tr b _ _ _ r p q h1.tail h2.tail h3.tail f1.2 f2.2 f3.2
 | _,x,y,z,[],m,n,_,_,_,_,_,_=>by
  cases m<;>cases n<;>simp only [cmpKs]<;>refine⟨?_,?_,?_⟩<;>intro a b<;>omega
 | _,x,y,z,_::_,[],n,_,_,_,_,_,_=>by
  cases n<;>simp only [cmpKs]<;>refine⟨?_,?_,?_⟩<;>intro a b<;>omega
 | _,x,y,z,_::_,_::_,[],_,_,_,_,_,_=>by
  simp only [cmpKs]
  refine⟨?_,?_,?_⟩<;>intro a b<;>omega
end
mutual
theorem cmpT_zero:∀t u:PT,formedB t=true→formedB u=true→cmpT t u=0→t=u
 |.mk k s keys kids,.mk k' s' keys' kids',f1,f2,h=>by
  simp only [cmpT] at h
  by_cases hk:k=k'
  ·subst hk
   rw [if_pos rfl] at h
   obtain⟨p1,p7,p6,pl,_⟩:=formed_parts f1
   obtain⟨q1,q7,q6,ql,_⟩:=formed_parts f2
   by_cases k3:k=3
   ·subst k3
    have a:=formed_num f1
    have b:=formed_num f2
    rw [numB_ok a.1 b.1,if_pos ⟨rfl,rfl⟩] at h
    have:=sgP_zero a.1 b.1 h
    rw [a.2,b.2] at this
    rw [this,p6 (by omega),q6 (by omega),pl (by omega) (by omega),ql (by omega) (by omega)]
   ·rw [if_neg (fun h=>k3 h.1)] at h
    obtain⟨h1,h2⟩:=lexI_zero h
    obtain⟨e1,e2⟩:=cmpKs_zero _ keys keys' kids kids' (formed_KL f1) (formed_KL f2) p1 q1 h2
    rw [cmpB_zero h1,e1,e2]
  ·rw [if_neg hk] at h
   have:=sgnI_zero h
   omega
theorem cmpKs_zero:∀(b:Bool) (x y:List (List UInt8)) (l m:List PT),KL b x l→KL b y m→formedBs l=true→formedBs m=true→cmpKs x y l m=0→x=y∧l=m
 | b,x,y,t::r,u::p,h1,h2,f1,f2,h=>by
  simp only [cmpKs] at h
  simp only [formedBs,Bool.and_eq_true] at f1 f2
  obtain⟨a,h⟩:=lexI_zero h
  obtain⟨c,d⟩:=lexI_zero h
  obtain⟨e1,e2⟩:=cmpKs_zero b _ _ r p h1.tail h2.tail f1.2 f2.2 d
  refine⟨?_,by rw [cmpT_zero t u f1.1 f2.1 c,e2]⟩
  unfold KL at h1 h2
  cases b
  ·simp only [Bool.false_eq_true,if_false] at h1 h2;rw [h1,h2]
  ·simp only [if_true,List.length_cons] at h1 h2
   cases x with
   | nil=>cases h1
   | cons x xs =>
   cases y with
   | nil=>cases h2
   | cons y ys =>
    simp only [hdK] at a
    simp only [List.tail_cons] at e1
    rw [cmpB_zero a,e1]
 | b,x,y,[],[],h1,h2,_,_,_=>by
  refine⟨?_,rfl⟩
  unfold KL at h1 h2
  cases b
  ·simp only [Bool.false_eq_true,if_false] at h1 h2;rw [h1,h2]
  ·simp only [if_true,List.length_nil] at h1 h2
   rw [List.eq_nil_of_length_eq_zero h1,List.eq_nil_of_length_eq_zero h2]
 | _,_,_,[],_::_,_,_,_,_,h=>by simp only [cmpKs] at h;cases h
 | _,_,_,_::_,[],_,_,_,_,h=>by simp only [cmpKs] at h;cases h
end
theorem cmpT_self {t:PT}:cmpT t t=0:=by have:=cmpT_anti t t;omega
end Go.Dn

namespace Go.Dn
open Go Go.Proofs.C1
theorem unlike_iff:∀{keys seen:List (List UInt8)},unlikeB seen keys=true↔(∀x∈keys,validB x=true)∧keys.Nodup∧∀x∈keys,x ∉ seen
 | [],_=>by simp [unlikeB]
 | s::r,seen=>by
  simp only [unlikeB]
  by_cases hs:s∈seen
  ·rw [if_pos hs]
   exact⟨fun h=>(by cases h),fun h=>absurd hs (h.2.2 s (by simp))⟩
  ·rw [if_neg hs,Bool.and_eq_true,unlike_iff (keys:=r)]
   constructor
   ·rintro⟨v,a,b,c⟩
    refine⟨fun x hx=>?_,List.nodup_cons.2 ⟨fun hm=>c s hm (by simp),b⟩,fun x hx=>?_⟩
    ·rcases List.mem_cons.1 hx with rfl | hx
     ·exact v
     ·exact a x hx
    ·rcases List.mem_cons.1 hx with rfl | hx
     ·exact hs
     ·exact fun hm=>c x hx (by simp [hm])
   ·rintro⟨a,b,c⟩
    have b:=List.nodup_cons.1 b
    refine⟨a s (by simp),fun x hx=>a x (by simp [hx]),b.2,fun x hx hm=>?_⟩
    rw [List.mem_append,List.mem_singleton] at hm
    rcases hm with hm | rfl
    ·exact c x (by simp [hx]) hm
    ·exact b.1 hx
theorem unlike_perm {a b:List (List UInt8)} (p:a.Perm b) (h:unlikeB [] b=true):unlikeB [] a=true:=by
 rw [unlike_iff] at h ⊢
 exact⟨fun x hx=>h.1 x (p.mem_iff.1 hx),p.nodup_iff.2 h.2.1,fun x hx=>h.2.2 x (p.mem_iff.1 hx)⟩
theorem map_range_getD {α:Type} {z:α} (l:List α):((List.range l.length).map fun i=>l.getD i z)=l:=by
 refine List.ext_getElem (by simp) fun i h1 h2=>?_
 rw [List.getElem_map,List.getElem_range,getD_at h2]
theorem ord_perm {α:Type} {z:α} (keys:List (List UInt8)) {l:List α} (h:keys.length=l.length):((ordK keys).map fun i=>l.getD i z).Perm l:=by
 have:=(ordK_perm keys).map fun i=>l.getD i z
 rw [h,map_range_getD] at this
 exact this
theorem formedBs_iff:∀{l:List PT},formedBs l=true↔∀u∈l,formedB u=true
 | []=>by simp [formedBs]
 | t::r=>by simp [formedBs,formedBs_iff (l:=r)]
theorem sortTs_len (l:List PT):(sortTs l).length=l.length:=by rw [sortTs_map,List.length_map]
mutual
theorem formed_sort:∀{t:PT},formedB t=true→formedB (sortT t)=true
 |.mk k s keys kids,h=>by
  have hk:=formeds_sort (l:=kids) (formed_parts h).1
  simp only [formedB,Bool.and_eq_true] at h
  rw [sortT]
  by_cases c:k=7∧keys.length=kids.length
  ·rw [if_pos c]
   obtain⟨rfl,hl⟩:=c
   have p:=ord_perm (z:=([]:List UInt8)) keys (l:=keys) rfl
   have q:=ord_perm (z:=zPT) keys (l:=sortTs kids) (by rw [sortTs_len,hl])
   have sh:=h.2
   simp only [formedB,Bool.and_eq_true]
   refine⟨formedBs_iff.2 fun u hu=>formedBs_iff.1 hk u (q.mem_iff.1 hu),?_⟩
   unfold shapeB at sh ⊢
   rw [if_neg (by omega),if_neg (by omega),if_neg (by omega),if_neg (by omega),if_neg (by omega),if_neg (by omega),if_pos rfl,Bool.and_eq_true,Bool.and_eq_true] at sh ⊢
   refine⟨sh.1,?_,unlike_perm p sh.2.2⟩
   simp
  ·rw [if_neg c]
   simp only [formedB,Bool.and_eq_true]
   exact⟨hk,by rw [sortTs_len];exact h.2⟩
theorem formeds_sort:∀{l:List PT},formedBs l=true→formedBs (sortTs l)=true
 | [],_=>rfl
 | t::r,h=>by
  simp only [formedBs,Bool.and_eq_true] at h
  simp only [sortTs,formedBs,Bool.and_eq_true]
  exact⟨formed_sort h.1,formeds_sort h.2⟩
end
theorem soks_iff:∀{l:List PT},PT.soks l↔∀u∈l,u.sok
 | []=>by simp [PT.soks]
 | t::r=>by simp [PT.soks,soks_iff (l:=r)]
mutual
theorem sort_sok:∀{t:PT},t.sok→(sortT t).sok
 |.mk k s keys kids,h=>by
  simp only [PT.sok] at h
  obtain⟨h1,h2,h3,h4,h5⟩:=h
  have hk:=sorts_sok h5
  rw [sortT]
  by_cases c:k=7∧keys.length=kids.length
  ·rw [if_pos c]
   have p:=ord_perm (z:=([]:List UInt8)) keys (l:=keys) rfl
   have q:=ord_perm (z:=zPT) keys (l:=sortTs kids) (by rw [sortTs_len,c.2])
   have ol:=ordK_len keys
   simp only [PT.sok,List.length_map,ol]
   exact⟨h1,fun x hx=>h2 x (p.mem_iff.1 hx),h3,by omega,soks_iff.2 fun u hu=>soks_iff.1 hk u (q.mem_iff.1 hu)⟩
  ·rw [if_neg c]
   simp only [PT.sok,sortTs_len]
   exact⟨h1,h2,h3,h4,hk⟩
theorem sorts_sok:∀{l:List PT},PT.soks l→PT.soks (sortTs l)
 | [],_=>trivial
 | t::r,h=>by
  simp only [PT.soks] at h
  simp only [sortTs,PT.soks]
  exact⟨sort_sok h.1,sorts_sok h.2⟩
end
end Go.Dn

namespace Go.Dn
open Go Go.Proofs.C1
set_option maxRecDepth 100000
attribute [local irreducible] afterS keepE
def rightN (s:List UInt8):Parts3×Int:=if (normB s).2=0 then ((splitB s).1,0) else (zeroP,(normB s).2)
def SmP (p:Parts3):Prop:=p.2.1.length≤1000∧-999999≤p.2.2∧p.2.2≤999999
theorem norm_small {s:List UInt8} (h:(normB s).2=0):SmP (splitB s).1:=by
 obtain⟨h1,h2⟩:=norm_split h
 refine⟨splitB_len h1,?_⟩
 rw [h2] at h
 unfold joinB at h
 split at h
 ·cases h
 ·split at h
  ·cases h
  ·omega
section
variable {gt:GT} {C:CallT}
set_option maxHeartbeats 2000000 in
theorem nright_wp (hm:MonoC C) (hn:∀s:List UInt8,s.length<4294967281→PF C 81 [.str s] (encJoin (normB s))) (hs:∀s:List UInt8,s.length<9223372036854775807→PF C 132 [.str s] (encSplit (splitB s)))
  {s:List UInt8} (hl:s.length<4294967281):wpF gt C F143 [.str s] St.init (Ret (encSplit (rightN s))):=by
 have hn:=hn s hl
 have hs:=hs s (by omega)
 have hsp:=fun h=>(norm_split (s:=s) h).1
 have ret:∀{o:Parts3×Int} {S:St},rightN s=o→Ret (encSplit (rightN s)) (.ret (encSplit o)) S:=fun h=>by rw [h];exact Ret.sta (sta_split _)
 have hf:rightN s=if (normB s).2=0 then ((splitB s).1,0) else (zeroP,(normB s).2):=rfl
 generalize rightN s=res at ret hf ⊢
 generalize normB s=nb at hn hsp hf
 generalize splitB s=sp at hs hsp hf
 obtain⟨a,e⟩:=nb
 obtain⟨⟨p1,p2,p3⟩,q⟩:=sp
 simp only at hsp hf
 refine⟨rfl,?_⟩
 refine goW ?_
 refine call_pf hm (by rfl) hn ?_
 refine goW ?_
 by_cases z:e=0
 ·rw [neI_false z]
  rw [if_pos z] at hf
  obtain rfl:=hsp z
  refine goW ?_
  refine call_pf hm (by rfl) hs ?_
  refine goW ?_
  exact⟨_,rfl,ret (o:=((p1,p2,p3),0)) hf⟩
 ·rw [neI_true z]
  rw [if_neg z] at hf
  refine goW ?_
  exact⟨_,rfl,ret (o:=(zeroP,e)) hf⟩
theorem sgnI_clamp (n:Int):(bif decide ((bif decide (n<1) then n else 1) > -1) then bif decide (n<1) then n else 1 else -1)=sgnI n:=by
 unfold sgnI
 simp only [cond_eq_ite,decide_eq_true_eq]
 repeat' split
 all_goals omega
set_option maxHeartbeats 2000000 in
theorem nsign_wp {n:Int}:wpF gt C F176 [.int .i64 n] St.init (Ret (.int .i64 (sgnI n))):=by
 refine⟨rfl,?_⟩
 refine goW ?_
 rw [sgnI_clamp]
 exact⟨_,rfl,Ret.sta trivial⟩
theorem min1 (d:List UInt8):(bif decide ((d.length:Int)<1) then (d.length:Int) else 1)=emB d:=by
 unfold emB
 cases d with
 | nil=>rfl
 | cons a r =>
  rw [decide_eq_false (by simp only [List.length_cons];omega),if_neg (by simp)];rfl
theorem len_eq0 {d:List UInt8}:((d.length:Int) == 0)=decide (d=[]):=by
 cases d with
 | nil=>rfl
 | cons a r=>rw [decide_eq_false (by simp)];simp;omega
set_option maxHeartbeats 4000000 in
theorem norder_wp (hm:MonoC C) (hs:∀n:Int,PF C 176 [.int .i64 n] (.int .i64 (sgnI n))) (hc:∀a c:List UInt8,PF C 104 [.str a,.str c] (.int .i64 (cmpB a c)))
  {a b:Parts3} (ha:SmP a) (hb:SmP b):wpF gt C F144 [encP a,encP b] St.init (Ret (.int .i64 (ordP a b))):=by
 obtain⟨a0,a1,a2⟩:=a
 obtain⟨b0,b1,b2⟩:=b
 obtain⟨x1,x2,x3⟩:=ha
 obtain⟨y1,y2,y3⟩:=hb
 simp only at x1 x2 x3 y1 y2 y3
 have ret:∀{o:Int} {S:St},ordP (a0,a1,a2) (b0,b1,b2)=o→Ret (.int .i64 (ordP (a0,a1,a2) (b0,b1,b2))) (.ret (.int .i64 o)) S:=fun h=>by rw [h];exact Ret.sta trivial
 have hf:ordP (a0,a1,a2) (b0,b1,b2)=lexI (emB a1-emB b1) (if a1=[] then 0 else lexI (sgnI ((a1.length+a2)-(b1.length+b2))) (cmpB a1 b1)):=rfl
 generalize ordP (a0,a1,a2) (b0,b1,b2)=res at ret hf ⊢
 have em1:=One3.em a1 b1
 refine⟨rfl,?_⟩
 refine goW ?_
 rw [len_eq0]
 by_cases z1:a1=[]
 ·rw [decide_eq_true z1]
  refine goW ?_
  rw [min1 a1,min1 b1,wr64 (by unfold One3 at em1;omega) (by unfold One3 at em1;omega)]
  exact⟨_,rfl,ret (by rw [hf,if_pos z1];unfold lexI;split<;>omega)⟩
 rw [decide_eq_false z1]
 rw [if_neg z1] at hf
 refine goW ?_
 rw [len_eq0]
 by_cases z2:b1=[]
 ·rw [decide_eq_true z2]
  refine goW ?_
  rw [min1 a1,min1 b1,wr64 (by unfold One3 at em1;omega) (by unfold One3 at em1;omega)]
  refine⟨_,rfl,ret ?_⟩
  rw [hf,z2]
  unfold lexI emB
  rw [if_neg z1];rfl
 rw [decide_eq_false z2]
 have he:emB a1-emB b1=0:=by unfold emB;rw [if_neg z1,if_neg z2];rfl
 rw [he] at hf
 clear em1
 refine goW ?_
 rw [wr64 (n:=(a1.length:Int)+a2) (by omega) (by omega),wr64 (n:=(b1.length:Int)+b2) (by omega) (by omega)]
 by_cases z3:(a1.length:Int)+a2=b1.length+b2
 ·rw [neI_false z3]
  refine goW ?_
  refine call_pf hm (by rfl) (hc a1 b1) ?_
  refine goW ?_
  refine⟨_,rfl,ret ?_⟩
  rw [hf,z3,Int.sub_self];rfl
 ·rw [neI_true z3]
  refine goW ?_
  rw [wr64 (n:=(a1.length:Int)+a2) (by omega) (by omega),wr64 (n:=(a1.length:Int)+a2-b1.length) (by omega) (by omega),wr64 (n:=(a1.length:Int)+a2-b1.length-b2) (by omega) (by omega)]
  refine call_pf hm (by rfl) (hs _) ?_
  refine goW ?_
  refine⟨_,rfl,ret ?_⟩
  rw [hf]
  unfold lexI
  rw [if_pos rfl,show (a1.length:Int)+a2-b1.length-b2=a1.length+a2-(b1.length+b2) by omega]
  rw [if_neg (fun h=>z3 (by have:=sgnI_zero h;omega))]
set_option maxHeartbeats 4000000 in
theorem ncompare_wp (hm:MonoC C) (hr:∀s:List UInt8,s.length<4294967281→PF C 143 [.str s] (encSplit (rightN s))) (ho:∀a b:Parts3,SmP a→SmP b→PF C 144 [encP a,encP b] (.int .i64 (ordP a b)))
  {s t:List UInt8} (hl:s.length<4294967281) (hl':t.length<4294967281):wpF gt C F103 [.str s,.str t] St.init (Ret (.tup [.int .i64 (numB s t).1,.int .i64 (numB s t).2])):=by
 have h1:=hr s hl
 have h2:=hr t hl'
 have s1:=norm_small (s:=s)
 have s2:=norm_small (s:=t)
 have ret:∀{o:Int×Int} {S:St},numB s t=o→Ret (.tup [.int .i64 (numB s t).1,.int .i64 (numB s t).2]) (.ret (.tup [.int .i64 o.1,.int .i64 o.2])) S:=fun h=>by rw [h];exact Ret.sta ⟨trivial,trivial,trivial⟩
 have hf:numB s t=if (normB s).2=0 then (if (normB t).2=0 then (sgP (splitB s).1 (splitB t).1,0) else (0,(normB t).2)) else (0,(normB s).2):=rfl
 generalize numB s t=res at ret hf ⊢
 unfold rightN at h1 h2
 generalize (normB s).2=e1 at h1 s1 hf
 generalize (normB t).2=e2 at h2 s2 hf
 generalize (splitB s).1=a at h1 s1 hf
 generalize (splitB t).1=b at h2 s2 hf
 have o1:=fun h h'=>ho a b (s1 h) (s2 h')
 have o2:=fun h h'=>ho b a (s2 h') (s1 h)
 clear s1 s2 ho hr
 obtain⟨a0,a1,a2⟩:=a
 obtain⟨b0,b1,b2⟩:=b
 refine⟨rfl,?_⟩
 refine goW ?_
 by_cases z1:e1=0
 case neg =>
  rw [if_neg z1] at h1 hf
  refine call_pf hm (by rfl) h1 ?_
  refine goW ?_
  rw [neI_true z1]
  refine goW ?_
  exact⟨_,rfl,ret hf⟩
 rw [if_pos z1] at h1 hf
 refine call_pf hm (by rfl) h1 ?_
 refine goW ?_
 by_cases z2:e2=0
 case neg =>
  rw [if_neg z2] at h2 hf
  refine call_pf hm (by rfl) h2 ?_
  refine goW ?_
  rw [neI_true z2]
  refine goW ?_
  exact⟨_,rfl,ret hf⟩
 rw [if_pos z2] at h2 hf
 refine call_pf hm (by rfl) h2 ?_
 refine goW ?_
 have o1:=o1 z1 z2
 have o2:=o2 z1 z2
 unfold sgP at hf
 cases a0 with
 | false =>
  cases b0 with
  | false =>
   simp only [Bool.false_eq_true,if_false] at hf
   refine goW ?_
   refine call_pf hm (by rfl) o1 ?_
   refine goW ?_
   exact⟨_,rfl,ret hf⟩
  | true =>
   simp only [Bool.false_eq_true,if_false,if_true] at hf
   refine goW ?_
   exact⟨_,rfl,ret hf⟩
 | true =>
  cases b0 with
  | false =>
   simp only [Bool.false_eq_true,if_false,if_true] at hf
   refine goW ?_
   exact⟨_,rfl,ret hf⟩
  | true =>
   simp only [if_true] at hf
   refine goW ?_
   refine call_pf hm (by rfl) o2 ?_
   refine goW ?_
   exact⟨_,rfl,ret hf⟩
end
end Go.Dn

namespace Go.Dn
open Go Go.Proofs.C1
set_option maxRecDepth 100000
attribute [local irreducible] afterS keepE
theorem formed_kind {k:Int} {s:List UInt8} {keys:List (List UInt8)} {kids:List PT} (h:formedB (.mk k s keys kids)=true):1≤k∧k≤7:=by
 simp only [formedB,Bool.and_eq_true] at h
 have h2:=h.2
 unfold shapeB at h2
 refine Decidable.byContradiction fun hc=>?_
 rw [if_neg (by omega),if_neg (by omega),if_neg (by omega),if_neg (by omega),if_neg (by omega),if_neg (by omega),if_neg (by omega)] at h2
 cases h2
theorem hdK_at {keys keys':List (List UInt8)} {i:Nat} (h:i<keys.length) (h':i<keys'.length):hdK (keys.drop i) (keys'.drop i)=cmpB keys[i] keys'[i]:=by
 rw [List.drop_eq_getElem_cons h,List.drop_eq_getElem_cons h'];rfl
theorem cmpKs_step {keys keys':List (List UInt8)} {kids kids':List PT} {i:Nat} (h:i<kids.length) (h':i<kids'.length) :
  cmpKs (keys.drop i) (keys'.drop i) (kids.drop i) (kids'.drop i)=lexI (hdK (keys.drop i) (keys'.drop i)) (lexI (cmpT kids[i] kids'[i]) (cmpKs (keys.drop (i+1)) (keys'.drop (i+1)) (kids.drop (i+1)) (kids'.drop (i+1)))):=by
 rw [List.drop_eq_getElem_cons h,List.drop_eq_getElem_cons h',cmpKs,List.tail_drop,List.tail_drop]
theorem cmpKs_end {keys keys':List (List UInt8)} {kids kids':List PT} {i:Nat} (h:i≤kids.length) (h':i≤kids'.length) (e:i=kids.length∨i=kids'.length) :
  cmpKs (keys.drop i) (keys'.drop i) (kids.drop i) (kids'.drop i)=sgnI ((kids.length:Int)-kids'.length):=by
 rcases e with e | e
 ·rw [List.drop_eq_nil_of_le (show kids.length≤i by omega)]
  by_cases z:i<kids'.length
  ·rw [List.drop_eq_getElem_cons z,cmpKs]
   unfold sgnI
   rw [if_pos (by omega)]
  ·rw [List.drop_eq_nil_of_le (show kids'.length≤i by omega),cmpKs]
   unfold sgnI
   rw [if_neg (by omega),if_neg (by omega)]
 ·rw [List.drop_eq_nil_of_le (show kids'.length≤i by omega)]
  by_cases z:i<kids.length
  ·rw [List.drop_eq_getElem_cons z,cmpKs]
   unfold sgnI
   rw [if_neg (by omega),if_pos (by omega)]
  ·rw [List.drop_eq_nil_of_le (show kids.length≤i by omega),cmpKs]
   unfold sgnI
   rw [if_neg (by omega),if_neg (by omega)]
theorem lexI_zero' (y:Int):lexI 0 y=y:=rfl
theorem lexI_ne {x y:Int} (h:¬x=0):lexI x y=x:=by unfold lexI;rw [if_neg h]
section
variable {gt:GT} {C:CallT}
set_option maxHeartbeats 2000000 in
theorem tsign_wp {n:Int}:wpF gt C F102 [.int .i64 n] St.init (Ret (.int .i64 (sgnI n))):=by
 refine⟨rfl,?_⟩
 refine goW ?_
 rw [sgnI_clamp]
 exact⟨_,rfl,Ret.sta trivial⟩
abbrev E_tc (t u:PT) (n i:Int):Env:=[(2,.box (encT t).cells),(3,.box (encT u).cells),(50,.val (.int .i64 n)),(51,.val (.int .i64 i))]
set_option maxHeartbeats 8000000 in
theorem tcmp_wp (hm:MonoC C) (hsg:∀n:Int,PF C 102 [.int .i64 n] (.int .i64 (sgnI n))) (hc:∀a c:List UInt8,PF C 104 [.str a,.str c] (.int .i64 (cmpB a c)))
  (hn:∀s t:List UInt8,s.length<4294967281→t.length<4294967281→PF C 103 [.str s,.str t] (.tup [.int .i64 (numB s t).1,.int .i64 (numB s t).2]))
  {t u:PT} (ih:∀x,x.n<t.n→formedB x=true→x.ok→x.sok→∀y,formedB y=true→y.ok→y.sok→PF C 59 [encT x,encT y] (.int .i64 (cmpT x y)))
  (ft:formedB t=true) (hk:t.ok) (hs:t.sok) (fu:formedB u=true) (hk':u.ok) (hs':u.sok) :
  wpF gt C F59 [encT t,encT u] St.init (Ret (.int .i64 (cmpT t u))):=by
 obtain⟨k,s,keys,kids⟩:=t
 obtain⟨k',s',keys',kids'⟩:=u
 have kd:=formed_kind ft
 have kd':=formed_kind fu
 have n1:=fun h:k=3=>(formed_num (s:=s) (keys:=keys) (kids:=kids) (by rw [←h];exact ft)).1
 have n2:=fun h:k'=3=>(formed_num (s:=s') (keys:=keys') (kids:=kids') (by rw [←h];exact fu)).1
 obtain⟨fk,f7,f6,_⟩:=formed_parts ft
 obtain⟨fk',f7',f6',_⟩:=formed_parts fu
 simp only [PT.ok] at hk hk'
 obtain⟨hk1,hk2,hk3⟩:=hk
 obtain⟨hk1',hk2',hk3'⟩:=hk'
 simp only [PT.sok] at hs hs'
 obtain⟨hs1,hs2,hs3,hs4,hs5⟩:=hs
 obtain⟨hs1',hs2',hs3',hs4',hs5'⟩:=hs'
 have l1:=encTs_len kids
 have l2:=encTs_len kids'
 have l3:=strs_length keys
 have l4:=strs_length keys'
 have ret:∀{o:Int} {S:St},cmpT (.mk k s keys kids) (.mk k' s' keys' kids')=o→Ret (.int .i64 (cmpT (.mk k s keys kids) (.mk k' s' keys' kids'))) (.ret (.int .i64 o)) S:=fun h=>by rw [h];exact Ret.sta trivial
 have hf:cmpT (.mk k s keys kids) (.mk k' s' keys' kids')=if k=k' then (if k=3∧(numB s s').2=0 then (numB s s').1 else lexI (cmpB s s') (cmpKs keys keys' kids kids')) else sgnI (k-k'):=by simp only [cmpT]
 generalize cmpT (.mk k s keys kids) (.mk k' s' keys' kids')=res at ret hf ⊢
 refine⟨rfl,?_⟩
 refine goW ?_
 by_cases z0:k=k'
 case neg =>
  rw [neI_true z0]
  rw [if_neg z0] at hf
  refine goW ?_
  rw [wr64 (by omega) (by omega)]
  refine call_pf hm (by rfl) (hsg _) ?_
  refine goW ?_
  exact⟨_,rfl,ret hf⟩
 subst z0
 rw [neI_false rfl]
 rw [if_pos rfl] at hf
 refine goW ?_
 by_cases k3:k=3
 ·rw [eqI_true k3]
  have hn:=hn s s' (by omega) (by omega)
  have z:(numB s s').2=0:=by rw [numB_ok (n1 k3) (n2 k3)]
  rw [if_pos ⟨k3,z⟩] at hf
  rw [z] at hn
  refine goW ?_
  refine call_pf hm (by rfl) hn ?_
  refine goW ?_
  exact⟨_,rfl,ret hf⟩
 rw [eqI_false k3]
 rw [if_neg (fun h=>k3 h.1)] at hf
 refine goW ?_
 refine call_pf hm (by rfl) (hc s s') ?_
 refine goW ?_
 by_cases z1:cmpB s s'=0
 case neg =>
  rw [neI_true z1]
  refine goW ?_
  exact⟨_,rfl,ret (by rw [hf,lexI_ne z1])⟩
 rw [neI_false z1]
 rw [z1,lexI_zero'] at hf
 refine goW ?_
 obtain⟨n,hmin,hn1,hn2,hn3⟩:∃n:Nat,(bif decide (((encTs kids').length:Int)<(encTs kids).length) then ((encTs kids').length:Int) else (encTs kids).length)=(n:Int)∧n≤kids.length∧n≤kids'.length∧(n=kids.length∨n=kids'.length):=by
  by_cases c:((encTs kids').length:Int)<(encTs kids).length
  ·exact⟨kids'.length,by rw [decide_eq_true c,cond_true,l2],by omega,by omega,.inr rfl⟩
  ·exact⟨kids.length,by rw [decide_eq_false c,cond_false,l1],by omega,by omega,.inl rfl⟩
 rw [hmin]
 refine loop_rule hm (α:=Nat) (fun i env S'=>i≤n∧env=E_tc (.mk k s keys kids) (.mk k s' keys' kids') n i∧S'=St.init∧res=cmpKs (keys.drop i) (keys'.drop i) (kids.drop i) (kids'.drop i)) (fun i=>n-i) ?_ (a:=0) ⟨Nat.zero_le _,rfl,rfl,hf⟩
 clear hf
 rintro i env S' ⟨hi,rfl,rfl,hf⟩
 refine goW ?_
 by_cases hlt:(i:Int)<n
 case neg =>
  rw [decide_eq_false hlt]
  rw [cmpKs_end (by omega) (by omega) (by omega)] at hf
  refine goW ?_
  rw [wr64 (by omega) (by omega),l1,l2]
  refine call_pf hm (by rfl) (hsg _) ?_
  refine goW ?_
  exact⟨_,rfl,ret hf⟩
 rw [decide_eq_true hlt]
 have hik:i<kids.length:=by omega
 have hik':i<kids'.length:=by omega
 rw [cmpKs_step hik hik'] at hf
 have ihk:=ih _ (kid_lt hik) (formedBs_get hik fk) (PT.oks_get hk3 (List.getElem?_eq_getElem hik)) (PT.soks_get hik hs5) kids'[i] (formedBs_get hik' fk') (PT.oks_get hk3' (List.getElem?_eq_getElem hik')) (PT.soks_get hik' hs5')
 have e1:=encTs_get hik
 have e2:=encTs_get hik'
 have r1:=rdT kids[i]
 have r2:=rdT kids'[i]
 obtain⟨k1,s1,x1,y1,g1⟩:=encT_agg kids[i]
 obtain⟨k2,s2,x2,y2,g2⟩:=encT_agg kids'[i]
 rw [g1] at ihk e1 r1
 rw [g2] at ihk e2 r2
 have next:∀{w:Int},cmpT kids[i] kids'[i]=w→(w=0→res=lexI w (cmpKs (keys.drop (i+1)) (keys'.drop (i+1)) (kids.drop (i+1)) (kids'.drop (i+1)))→res=cmpKs (keys.drop (i+1)) (keys'.drop (i+1)) (kids.drop (i+1)) (kids'.drop (i+1))):=fun _ e h=>by rw [h,e,lexI_zero']
 generalize cmpT kids[i] kids'[i]=w at ihk hf next
 refine goW ?_
 by_cases k7:k=7
 ·have hy:i<keys.length:=by have:=(f7 k7).2.1;omega
  have hy':i<keys'.length:=by have:=(f7' k7).2.1;omega
  rw [hdK_at hy hy'] at hf
  have a1:=strs_at hy
  have a2:=strs_at hy'
  generalize keys[i]=q1 at a1 hf
  generalize keys'[i]=q2 at a2 hf
  rw [decide_eq_true (show (i:Int)<(strs keys).length by omega)]
  refine goW ?_
  rw [decide_eq_true (show (i:Int)<(strs keys').length by omega)]
  refine goW ?_
  refine step_ruleDO rfl rfl (sx_ia (k:=i) rfl rfl (by omega)) ?_
  refine goW ?_
  refine step_ruleDO rfl rfl (sx_ldEl (agg:=false) rfl rfl a1 rfl) ?_
  refine goW ?_
  refine step_ruleDO rfl rfl (sx_ia (k:=i) rfl rfl (by omega)) ?_
  refine goW ?_
  refine step_ruleDO rfl rfl (sx_ldEl (agg:=false) rfl rfl a2 rfl) ?_
  refine goW ?_
  refine call_pfD hm (by rfl) (hc q1 q2) ?_
  refine goW ?_
  by_cases z2:cmpB q1 q2=0
  case neg =>
   rw [neI_true z2]
   refine goW ?_
   exact⟨_,rfl,ret (by rw [hf,lexI_ne z2])⟩
  rw [neI_false z2]
  rw [z2,lexI_zero'] at hf
  refine goW ?_
  refine step_ruleDO rfl rfl (sx_ia (k:=i) rfl rfl (by omega)) ?_
  refine goW ?_
  refine step_ruleDO rfl rfl (sx_ldEl (agg:=true) rfl rfl e1 r1) ?_
  refine goW ?_
  refine step_ruleDO rfl rfl (sx_ia (k:=i) rfl rfl (by omega)) ?_
  refine goW ?_
  refine step_ruleDO rfl rfl (sx_ldEl (agg:=true) rfl rfl e2 r2) ?_
  refine goW ?_
  refine call_pfD hm (by rfl) ihk ?_
  refine goW ?_
  by_cases z3:w=0
  case neg =>
   rw [neI_true z3]
   refine goW ?_
   exact⟨_,rfl,ret (by rw [hf,lexI_ne z3])⟩
  rw [neI_false z3]
  refine goW ?_
  refine⟨i+1,⟨by omega,?_,rfl,by rw [hf,z3,lexI_zero']⟩,by omega⟩
  rw [wrNat (by omega)];try rfl
 ·have hy:keys=[]:=f6 k7
  have hz:hdK (keys.drop i) (keys'.drop i)=0:=by rw [hy];simp [hdK]
  rw [hz,lexI_zero'] at hf
  rw [decide_eq_false (show ¬(i:Int)<(strs keys).length by rw [l3,hy];simp)]
  refine goW ?_
  refine step_ruleDO rfl rfl (sx_ia (k:=i) rfl rfl (by omega)) ?_
  refine goW ?_
  refine step_ruleDO rfl rfl (sx_ldEl (agg:=true) rfl rfl e1 r1) ?_
  refine goW ?_
  refine step_ruleDO rfl rfl (sx_ia (k:=i) rfl rfl (by omega)) ?_
  refine goW ?_
  refine step_ruleDO rfl rfl (sx_ldEl (agg:=true) rfl rfl e2 r2) ?_
  refine goW ?_
  refine call_pfD hm (by rfl) ihk ?_
  refine goW ?_
  by_cases z3:w=0
  case neg =>
   rw [neI_true z3]
   refine goW ?_
   exact⟨_,rfl,ret (by rw [hf,lexI_ne z3])⟩
  rw [neI_false z3]
  refine goW ?_
  refine⟨i+1,⟨by omega,?_,rfl,by rw [hf,z3,lexI_zero']⟩,by omega⟩
  rw [wrNat (by omega)];try rfl
set_option maxHeartbeats 2000000 in
theorem tCompare_wp (hm:MonoC C) {t u:PT} (hs:PF C 34 [encT t] (encT (sortT t))) (hs':PF C 34 [encT u] (encT (sortT u))) (hc:PF C 59 [encT (sortT t),encT (sortT u)] (.int .i64 (cmpT (sortT t) (sortT u)))) :
  wpF gt C F25 [encT t,encT u] St.init (Ret (.int .i64 (cmpT (sortT t) (sortT u)))):=by
 have hne:∀{k s keys kids k' s' keys' kids'},¬k=k'→cmpT (sortT (.mk k s keys kids)) (sortT (.mk k' s' keys' kids'))=sgnI (k-k'):=fun {k s keys kids k' s' keys' kids'} h=>by
  have a:=(sort_k (.mk k s keys kids)).1
  have b:=(sort_k (.mk k' s' keys' kids')).1
  generalize sortT (.mk k s keys kids)=x at a
  generalize sortT (.mk k' s' keys' kids')=y at b
  obtain⟨xk,xs,xe,xi⟩:=x
  obtain⟨yk,ys,ye,yi⟩:=y
  simp only [PT.k] at a b
  subst a b
  rw [cmpT,if_neg h]
 obtain⟨k,s,keys,kids⟩:=t
 obtain⟨k',s',keys',kids'⟩:=u
 have hne:=hne (k:=k) (s:=s) (keys:=keys) (kids:=kids) (k':=k') (s':=s') (keys':=keys') (kids':=kids')
 obtain⟨ka,sa,xa,ya,ga⟩:=encT_agg (sortT (.mk k s keys kids))
 obtain⟨kb,sb,xb,yb,gb⟩:=encT_agg (sortT (.mk k' s' keys' kids'))
 rw [ga] at hs hc
 rw [gb] at hs' hc
 have ret:∀{o:Int} {S:St},cmpT (sortT (.mk k s keys kids)) (sortT (.mk k' s' keys' kids'))=o→Ret (.int .i64 (cmpT (sortT (.mk k s keys kids)) (sortT (.mk k' s' keys' kids')))) (.ret (.int .i64 o)) S:=fun h=>by rw [h];exact Ret.sta trivial
 generalize cmpT (sortT (.mk k s keys kids)) (sortT (.mk k' s' keys' kids'))=res at ret hc hne ⊢
 refine⟨rfl,?_⟩
 refine goW ?_
 by_cases z0:k=k'
 case neg =>
  have hne:=hne z0
  rw [neI_true z0]
  refine goW ?_
  by_cases z1:k<k'
  ·rw [decide_eq_true z1]
   refine goW ?_
   exact⟨_,rfl,ret (by rw [hne];unfold sgnI;rw [if_pos (by omega)])⟩
  ·rw [decide_eq_false z1]
   refine goW ?_
   exact⟨_,rfl,ret (by rw [hne];unfold sgnI;rw [if_neg (by omega),if_pos (by omega)])⟩
 rw [neI_false z0]
 refine goW ?_
 refine call_pfD hm (by rfl) hs ?_
 refine goW ?_
 refine call_pfD hm (by rfl) hs' ?_
 refine goW ?_
 refine call_pfD hm (by rfl) hc ?_
 refine goW ?_
 exact⟨_,rfl,ret rfl⟩
end
end Go.Dn

namespace Go.Dn
open Go Go.Proofs.C1
set_option maxRecDepth 100000
attribute [local irreducible] afterS keepE
section
variable {gt:GT} {C:CallT}
end
end Go.Dn

namespace Go.Dn
open Go Go.Proofs.C1
set_option maxRecDepth 100000
attribute [local irreducible] afterS keepE
section
variable {gt:GT} {C:CallT}
end
end Go.Dn

namespace Go.Dn
open Go Go.Proofs.C1
set_option maxRecDepth 100000
attribute [local irreducible] afterS keepE
section
variable {gt:GT} {C:CallT}
theorem right_formed {t:PT} (h:rightB t=0):formedB t=true:=by
 unfold rightB at h
 split at h
 ·cases h
 ·split at h
  ·cases h
  ·split at h
   ·assumption
   ·cases h
set_option maxHeartbeats 16000000 in
theorem treeOrder_wp (hm:MonoC C) (hruns:PF C 3 [] (.bool true)) (hsmall:∀u:PT,PF C 26 [encT u] (.bool (smallB u))) {a b c:PT}
  (ra:PF C 16 [encT a] (.int .i64 (rightB a))) (rb:PF C 16 [encT b] (.int .i64 (rightB b))) (rc:PF C 16 [encT c] (.int .i64 (rightB c)))
  {x y z:Int} (o1:One3 x) (o2:One3 y) (o3:One3 z) (t1:rightB a=0→rightB b=0→rightB c=0→Tr3 x y z∧Tr3 (-x) z y)
  (h1:rightB a=0→rightB b=0→PF C 25 [encT a,encT b] (.int .i64 x)) (h2:rightB b=0→rightB c=0→PF C 25 [encT b,encT c] (.int .i64 y)) (h3:rightB a=0→rightB c=0→PF C 25 [encT a,encT c] (.int .i64 z))
  (h4:rightB a=0→rightB b=0→PF C 25 [encT b,encT a] (.int .i64 (-x))) (h5:rightB a=0→PF C 25 [encT a,encT a] (.int .i64 0)) (h6:rightB a=0→rightB b=0→PF C 24 [encT a,encT b] (.bool (x == 0))) :
  wpF gt C F7 [encT a,encT b,encT c] St.init (Ret (.bool true)):=by
 have hsa:=hsmall a
 have hsb:=hsmall b
 have hsc:=hsmall c
 generalize smallB a=ba at hsa
 generalize smallB b=bb at hsb
 generalize smallB c=bc at hsc
 generalize rightB a=fa at *
 generalize rightB b=fb at *
 generalize rightB c=fc at *
 obtain⟨ka,sa,xa,ya,ga⟩:=encT_agg a
 obtain⟨kb,sb,xb,yb,gb⟩:=encT_agg b
 obtain⟨kc,sc,xc,yc,gc⟩:=encT_agg c
 rw [ga] at hsa ra h1 h3 h4 h5 h6 ⊢
 rw [gb] at hsb rb h1 h2 h4 h6 ⊢
 rw [gc] at hsc rc h2 h3 ⊢
 refine⟨rfl,?_⟩
 refine goW ?_
 refine call_pf hm (by rfl) hsa ?_
 cases ba with
 | false =>
  refine goW ?_
  refine call_pf hm (by rfl) hruns ?_
  refine goW ?_
  exact⟨_,rfl,Ret.sta trivial⟩
 | true =>
 refine goW ?_
 refine call_pf hm (by rfl) hsb ?_
 cases bb with
 | false =>
  refine goW ?_
  refine call_pf hm (by rfl) hruns ?_
  refine goW ?_
  exact⟨_,rfl,Ret.sta trivial⟩
 | true =>
 refine goW ?_
 refine call_pf hm (by rfl) hsc ?_
 cases bc with
 | false =>
  refine goW ?_
  refine call_pf hm (by rfl) hruns ?_
  refine goW ?_
  exact⟨_,rfl,Ret.sta trivial⟩
 | true =>
 refine goW ?_
 refine call_pf hm (by rfl) ra ?_
 refine goW ?_
 by_cases z1:fa=0
 case neg =>
  rw [neI_true z1]
  refine goW ?_
  refine call_pf hm (by rfl) hruns ?_
  refine goW ?_
  exact⟨_,rfl,Ret.sta trivial⟩
 rw [neI_false z1]
 refine goW ?_
 refine call_pf hm (by rfl) rb ?_
 refine goW ?_
 by_cases z2:fb=0
 case neg =>
  rw [neI_true z2]
  refine goW ?_
  refine call_pf hm (by rfl) hruns ?_
  refine goW ?_
  exact⟨_,rfl,Ret.sta trivial⟩
 rw [neI_false z2]
 refine goW ?_
 refine call_pf hm (by rfl) rc ?_
 refine goW ?_
 by_cases z3:fc=0
 case neg =>
  rw [neI_true z3]
  refine goW ?_
  refine call_pf hm (by rfl) hruns ?_
  refine goW ?_
  exact⟨_,rfl,Ret.sta trivial⟩
 rw [neI_false z3]
 obtain⟨u,v⟩:=t1 z1 z2 z3
 have h1:=h1 z1 z2
 have h2:=h2 z2 z3
 have h3:=h3 z1 z3
 have h4:=h4 z1 z2
 have h5:=h5 z1
 have h6:=h6 z1 z2
 clear t1 ra rb rc hsa hsb hsc z1 z2 z3
 refine goW ?_
 refine call_pf hm (by rfl) h1 ?_
 refine goW ?_
 refine call_pf hm (by rfl) h2 ?_
 refine goW ?_
 refine call_pf hm (by rfl) h3 ?_
 clear h1 h2 h3
 obtain⟨u1,u2,u3⟩:=u
 obtain⟨v1,v2,v3⟩:=v
 rcases o1 with rfl | rfl | rfl<;>rcases o2 with rfl | rfl | rfl<;>rcases o3 with rfl | rfl | rfl<;>first
  | (exfalso;omega)
  | skip
 all_goals clear u1 u2 u3 v1 v2 v3
 all_goals
  refine goW ?_
  refine call_pf hm (by rfl) h4 ?_
  refine goW ?_
  refine call_pf hm (by rfl) h5 ?_
  refine goW ?_
  refine call_pf hm (by rfl) h6 ?_
  refine goW ?_
  refine call_pf hm (by rfl) hruns ?_
  refine goW ?_
  exact⟨_,rfl,Ret.sta trivial⟩
end
end Go.Dn

namespace Go.Proofs.YthgidapmofcloaaGreatDoor.Fn
open Go.ChangeShapes Go.WideShapes Go.ChangeAt Go.RowKit Go.Dn
theorem nright (s:List UInt8) (h:s.length<4294967281):PF A 143 [.str s] (encSplit (rightN s)) :=
 pf Tryz.func143 (by kernel_rfl) C1.F143_ok (s1 trivial) (nright_wp hm normal split h)
theorem nsign (n:Int):PF A 176 [.int .i64 n] (.int .i64 (sgnI n)) :=
 pf Tryz.func176 (by kernel_rfl) C1.F176_ok (s1 trivial) nsign_wp
theorem norder (a b:Parts3) (ha:SmP a) (hb:SmP b):PF A 144 [encP a,encP b] (.int .i64 (ordP a b)) :=
 pf Tryz.func144 (by kernel_rfl) C1.F144_ok (s2 ⟨trivial,trivial,trivial,trivial⟩ ⟨trivial,trivial,trivial,trivial⟩) (norder_wp hm nsign compareS ha hb)
theorem ncompare (s t:List UInt8) (h:s.length<4294967281) (h':t.length<4294967281):PF A 103 [.str s,.str t] (.tup [.int .i64 (numB s t).1,.int .i64 (numB s t).2]) :=
 pf Tryz.func103 (by kernel_rfl) C1.F103_ok (s2 trivial trivial) (ncompare_wp hm nright norder h h')
theorem tsign (n:Int):PF A 102 [.int .i64 n] (.int .i64 (sgnI n)) :=
 pf Tryz.func102 (by kernel_rfl) C1.F102_ok (s1 trivial) tsign_wp
theorem tcmp:∀t:PT,formedB t=true→t.ok→t.sok→∀u,formedB u=true→u.ok→u.sok→PF A 59 [encT t,encT u] (.int .i64 (cmpT t u)) :=
 indT fun t ih ft hk hs u fu hk' hs'=>pf Tryz.func59 (by kernel_rfl) C1.F59_ok (s2 (sta_T t) (sta_T u)) (tcmp_wp hm tsign compareS ncompare ih ft hk hs fu hk' hs')
theorem tCompare (t u:PT) (ft:formedB t=true) (hk:t.ok) (hs:t.sok) (hn:t.n<1099511627776) (fu:formedB u=true) (hk':u.ok) (hs':u.sok) (hn':u.n<1099511627776):PF A 25 [encT t,encT u] (.int .i64 (cmpT (sortT t) (sortT u))) :=
 pf Tryz.func25 (by kernel_rfl) C1.F25_ok (s2 (sta_T t) (sta_T u)) (tCompare_wp hm (sorted t hk (formed_nd ft hn)) (sorted u hk' (formed_nd fu hn')) (tcmp _ (formed_sort ft) (sort_ok hk) (sort_sok hs) _ (formed_sort fu) (sort_ok hk') (sort_sok hs')))
end Go.Proofs.YthgidapmofcloaaGreatDoor.Fn

namespace Go.Proofs.YthgidapmofcloaaGreatDoor
open Go.Dn
theorem bulk_keys:∀l:List (List UInt8),bulkAs (strs l)≤1048576→(∀s∈l,s.length≤1048576)∧l.length≤1048576
 | [],_=>⟨fun s h=>by simp at h,by simp⟩
 | a::r,h=>by
  have e:strs (a::r)=.str a::strs r:=rfl
  rw [e] at h
  simp only [bulkAs,bulkA] at h
  have ih:=bulk_keys r (by omega)
  have h0:=bulk_strs0 r
  refine⟨fun s hs=>?_,by simp only [List.length_cons];omega⟩
  rcases List.mem_cons.1 hs with rfl | hs
  ·omega
  ·exact ih.1 s hs
mutual
theorem bulk_sok:∀t:PT,bulkA (encT t)≤1048576→t.sok∧t.n≤bulkA (encT t)
 |.mk k s keys kids,h=>by
  simp only [encT,bulkA,bulkAs] at h ⊢
  have h1:=bulk_keys keys (by omega)
  have h2:=bulk_soks kids (by omega)
  have h3:=bulk_Ts kids (by omega)
  simp only [PT.sok,PT.n]
  exact⟨⟨by omega,fun s hs=>by have:=h1.1 s hs;omega,by omega,by omega,h2.1⟩,by omega⟩
theorem bulk_soks:∀l:List PT,bulkAs (encTs l)≤1048576→PT.soks l∧PT.ns l≤bulkAs (encTs l)
 | [],_=>⟨trivial,Nat.zero_le _⟩
 | t::r,h=>by
  simp only [encTs,bulkAs] at h
  have h1:=bulk_sok t (by omega)
  have h2:=bulk_soks r (by omega)
  simp only [PT.soks,encTs,bulkAs,PT.ns]
  exact⟨⟨h1.1,h2.1⟩,by omega⟩
end
end Go.Proofs.YthgidapmofcloaaGreatDoor

namespace Go.Proofs.YthgidapmofcloaaGreatDoor
open Go.Dn Go.Proofs.YthgidapmofcloaaGreatDoor.Fn
theorem TreeOrder.law {t u v:PT} (hk:t.ok) (hs:t.sok) (hn:t.n<1099511627776) (hk':u.ok) (hs':u.sok) (hn':u.n<1099511627776) (hk2:v.ok) (hs2:v.sok) (hn2:v.n<1099511627776):A 7 [encT t,encT u,encT v] St.init (Ret (.bool true)) :=
 AC_intro Tryz.checked.mixed Tryz.func7 (by kernel_rfl) Go.Proofs.C1.F7_ok
  (treeOrder_wp Fn.hm Fn.runs Fn.small (Fn.right t (by omega) hs) (Fn.right u (by omega) hs') (Fn.right v (by omega) hs2)
   (cmpT_one (sortT t) (sortT u)) (cmpT_one (sortT u) (sortT v)) (cmpT_one (sortT t) (sortT v))
   (fun a b c=>⟨cmpT_tr _ _ _ (formed_sort (right_formed a)) (formed_sort (right_formed b)) (formed_sort (right_formed c)),by
    rw [←cmpT_anti]
    exact cmpT_tr _ _ _ (formed_sort (right_formed b)) (formed_sort (right_formed a)) (formed_sort (right_formed c))⟩)
   (fun a b=>Fn.tCompare t u (right_formed a) hk hs hn (right_formed b) hk' hs' hn') (fun a b=>Fn.tCompare u v (right_formed a) hk' hs' hn' (right_formed b) hk2 hs2 hn2) (fun a b=>Fn.tCompare t v (right_formed a) hk hs hn (right_formed b) hk2 hs2 hn2)
   (fun a b=>by rw [←cmpT_anti];exact Fn.tCompare u t (right_formed b) hk' hs' hn' (right_formed a) hk hs hn)
   (fun a=>by have:=Fn.tCompare t t (right_formed a) hk hs hn (right_formed a) hk hs hn;rwa [cmpT_self] at this)
   (fun a b=>by
    have h:=Fn.same t u hs hk hn hs' hk' hn'
    have e:sameB t u=(cmpT (sortT t) (sortT u) == 0):=by
     unfold sameB
     rw [right_formed a,right_formed b]
     by_cases z:sortT t=sortT u
     ·rw [z,cmpT_self,if_pos (show (true && true)=true from rfl),eqT_true rfl];rfl
     ·rw [if_pos (show (true && true)=true from rfl),eqT_false z,eqI_false (fun e=>z (cmpT_zero _ _ (formed_sort (right_formed a)) (formed_sort (right_formed b)) e))]
    rwa [e] at h))
end Go.Proofs.YthgidapmofcloaaGreatDoor

namespace Go.Proofs.YthgidapmofcloaaGreatDoor.TreeOrder
open Go.ChangeShapes Go.WideShapes Go.ChangeAt Go.RowKit Go.Dn Go.Proofs.YthgidapmofcloaaGreatDoor.Fn
theorem laidOut:laidOutB Tryz.prog=true:=by kernel_rfl
theorem walk {W:World} (hI:Inv Tryz.prog gtT St.init (G0 W) W) {args:Array Value} {xs:List AV} {f:FuncId} (hac:A f xs St.init (Ret (.bool true))) (hx:Rl St.init (G0 W) W xs args.toList):Calls Tryz.prog f args W fun e W'=>e=.returned (.bool true)∧Below W.heap.size W W':=by
 refine Calls.mono (hac.2 (G0 W) W args.toList hI hx) fun e W' hp=>?_
 cases e with
 | returned v =>
  obtain⟨x,S',G',⟨y,hy,hr⟩,t,rv⟩:=hp
  cases hy
  simp only [Rdo] at hr
  subst hr
  refine⟨?_,below_of_ext t.ext⟩
  simp only [Rv] at rv
  rw [rv]
 | panicked chain =>
  obtain⟨x,S',G',u,hc,⟨y,hy,hr⟩,_⟩:=hp
  cases hy
 | outgrown=>exact hp.elim
theorem types:okTypes Tryz.prog [25,23,22,9,3,60,40]=true:=by kernel_rfl
theorem wantsT:Tryz.pinned.checked.prog.wantsStandIn 25=false:=by kernel_rfl
theorem isUb {H:Type}:IsUb (Rows.uptoBulk (H:=H)) Rows.uptoBulkAll where
 lit l:=by cases l<;>simp [Rows.uptoBulk]
 str s:=by simp [Rows.uptoBulk]
 nil:=by simp [Rows.uptoBulk]
 slice a b:=by simp [Rows.uptoBulk]
 agg a:=by simp [Rows.uptoBulk]
 none:=by simp [Rows.uptoBulkAll]
 cons d r:=by simp [Rows.uptoBulkAll]
set_option maxRecDepth 1000000 in
theorem entryT {H:Type} {enc:TypeId×Value→H} {W:World} {v:Value} {d:DataW H} {p:List MemPlace} {base:Nat} (hv:Value.okWide Tryz.prog W .any base 25 v) (h:DataW.Trod enc Tryz.prog W 0 (fun _=>true) true 25 v d p) :
  ∃n:PT,Rv St.init (G0 W) W (encT n) v∧bulkA (encT n)≤Rows.uptoBulk d:=by
 obtain⟨fuel,hf⟩:=h
 obtain⟨zs,hr,ht,hb⟩:=trod_avb isUb types fuel 25 _ _ (by decide) hf
 obtain⟨n,hn⟩:=av_tree ht
 refine⟨n,?_,?_⟩
 ·rw [←hn]
  obtain⟨vs,rfl,_⟩:=okWide_struct Tryz.underlying25 hv
  simp only [Rv]
  exact⟨_,rfl,hr⟩
 ·rw [←hn]
  have:sb Tryz.prog 25=1:=by unfold sb;rw [Tryz.underlying25]
  rw [this] at hb
  simpa only [bulkA] using hb
abbrev zeroTree:Value:=.agg #[.int .i64 0,.string .empty,.slice none 0 0,.slice none 0 0]
abbrev zeroData (H:Type):DataW H:=.agg [.lit (.int .i64 0),.lit (.string []),.nil,.nil]
abbrev zeros:Array Value:=#[zeroTree,zeroTree,zeroTree]
theorem reads (os:Os) {H:Type} (enc:TypeId×Value→H):∃places,DataW.whole enc Tryz.prog ((laidW os).forCall (fun _ _=>0) ⟨#[],zeros,[]⟩).memory Tryz.f7.params.toList Rows.treeOrderSpec.vars false zeros.toList 8=some ([zeroData H,zeroData H,zeroData H],[],places) :=
 ⟨[],by kernel_rfl⟩
set_option maxRecDepth 100000 in
theorem lifted (os:Os) (started:os.Started) (H:Type) (enc:TypeId×Value→H) (F:Stop.Interp) :
  ReturnsInHanded {} Tryz.checked os 7 .any ((Rows.OpenSpec.upto Rows.treeOrderSpec).preRow enc Tryz.prog Tryz.f7 Rows.treeOrderUptoRow.domain false Rows.treeOrderUptoRow.laid)
   (((Rows.OpenSpec.upto Rows.treeOrderSpec).at F).post enc Tryz.prog Tryz.f7 false true false false):=by
 obtain⟨places,hx⟩:=reads os enc
 refine returnsInHanded_of_row (C:=Tryz.checked) (s:=Rows.OpenSpec.upto Rows.treeOrderSpec) own started (by kernel_rfl) Tryz.func7
  (witness_row_atRef (enc:=enc) (C:=Tryz.checked) false (laidW os) zeros (laidW_os _) (by kernel_rfl) (by kernel_rfl) (by kernel_rfl)
   (OpenSpec.preRow_of_cond 8 hx (by kernel_rfl) (fun k hk=>by cases hk;kernel_rfl) (by kernel_rfl) (laidW_met os _))) ?_
 intro W base args ds gs before hval0 hW _ hcond _ hL _ _
 have hval:∀(j:Nat) t v,Tryz.f7.params[j]? = some t→args[j]? = some v→Value.okWide Tryz.prog W .any base t v:=hval0
 have hW':=hW
 obtain⟨p,q,hA0,hV,rfl,hfz,hnd⟩:=hW
 have hA:DataW.TrodAll enc Tryz.prog W 0 (fun _=>true) true Tryz.f7.params.toList args.toList ds p:=hA0
 rw [Tryz.params7] at hA hval
 obtain⟨v0,v1,v2,d0,d1,d2,p0,p1,p2,rfl,rfl,rfl,h0,h1,h2⟩:=trodAll_three hA
 obtain⟨rfl,rfl⟩:=trodVars_none hV
 clear hA0 hval0
 simp only [List.append_nil] at hW'
 have hb:Rows.uptoBulkAll [d0,d1,d2]≤1048576:=by
  have:=hcond _ rfl
  rw [List.append_nil] at this
  exact of_decide_eq_true this
 simp only [Rows.uptoBulkAll] at hb
 obtain⟨x0,hv0,hb0⟩:=entryT (hval 0 25 v0 rfl rfl) h0
 obtain⟨x1,hv1,hb1⟩:=entryT (hval 1 25 v1 rfl rfl) h1
 obtain⟨x2,hv2,hb2⟩:=entryT (hval 2 25 v2 rfl rfl) h2
 refine (walk (inv_of_laid hL) (law (bulk_T x0 (by omega)) (bulk_sok x0 (by omega)).1 (by have:=(bulk_sok x0 (by omega)).2;omega) (bulk_T x1 (by omega)) (bulk_sok x1 (by omega)).1 (by have:=(bulk_sok x1 (by omega)).2;omega) (bulk_T x2 (by omega)) (bulk_sok x2 (by omega)).1 (by have:=(bulk_sok x2 (by omega)).2;omega)) (Rl.cons hv0 (Rl.cons hv1 (Rl.cons hv2 Rl.nil)))).mono fun e W' ⟨he,bel⟩=>?_
 subst he
 have hlt:∀x∈p0++p1++p2,x.block<W.heap.size:=fun x hx=>hW'.lt x (by simpa only [List.append_assoc] using hx)
 exact⟨_,rfl,_,_,_,[],_,[],hW',trodAll_mk1 (shut_bool Tryz.underlying4 _),
  trodAll_mk3 (Below.trod laidOut (by kernel_rfl) (of_decide_eq_true (by kernel_rfl)) h0 bel (fun x hx=>hlt x (by simp [hx]))) (Below.trod laidOut (by kernel_rfl) (of_decide_eq_true (by kernel_rfl)) h1 bel (fun x hx=>hlt x (by simp [hx]))) (Below.trod laidOut (by kernel_rfl) (of_decide_eq_true (by kernel_rfl)) h2 bel (fun x hx=>hlt x (by simp [hx]))),rfl,bel.frame _,fun h=>by cases h⟩
end Go.Proofs.YthgidapmofcloaaGreatDoor.TreeOrder
