/- Sorting in place: ranges swapped, blocks turned round. Sorting in place: by insertion. Sorting in place: two rows merged, where one is of one. Sorting in place: two rows merged, where the other is of one. Sorting in place: two rows merged: turned round, and each half merged. Sorting in place: two rows merged: where they are cut, and the turn. Sorting in place: two rows merged; all of it. Sorting in place: all of it. Texts compared byte by byte: an order; the places of a list of keys, by them. The places of a record's keys, by the keys: tree.order. Trees with the keys of all records in order: tree.Sorted. Trees whose keys are in order: when they are the same. Trees that are the same: tree.identical, tree.Same. Trees that are the same: the reference's answer. The reference's places of keys: emendref3.Order. Trees with the keys of all records in order: the reference's answer. The law 'TreeSames', walked. Sorting, and what hangs on it, as contracts. strings.Builder, walked. Texts between quotes: the program's and the reference's answer. A text between quotes: the program's answer. Trees compared, and that this is an order. Trees whose keys are brought in order stay right and as great, and are then in order. Numbers compared: the program's answer. Trees compared: the program's answer. Numbers compared: the reference's answer. Trees compared: the reference's answer. A tree's text: the program's writer. The laws 'TreeCompares' and 'TreeOrder', walked. A tree's text: the program's answer. A text between quotes: the reference's answer. A tree's text: the reference's answer. The law 'TreeTexts', walked. Texts of trees, as contracts. What is read is right where little is read. Valid texts are rows of characters. Quoted texts: what is written is read back; what is read from a valid text is valid. Numbers: a normal form is its own normal form; its bytes. -/
import Derived.Test.YthgidapmofcloaaGreatDoorWn
set_option linter.unusedSimpArgs false
set_option linter.unusedVariables false
set_option maxHeartbeats 64000000
namespace Go.Dn
open Go Go.Proofs.C1
set_option maxRecDepth 100000
attribute [local irreducible] afterS keepE
section
variable {gt:GT}{C:CallT}{R:List Rs}{ty:TypeId}{t b:Nat}
def SwapC (C:CallT)(R:List Rs)(ty:TypeId)(t b:Nat)(g:AV):Prop :=
 ∀(S:St) (xs:List AV) (P X M Y Q:List Nat) (a c n:Nat),a=P.length->c=P.length+X.length+M.length->n=X.length->xs.length=(P++(X++(M++(Y++Q)))).length->(P++(X++(M++(Y++Q)))).length<4611686018427387904->X.length=Y.length->ArS S R ty t b (P++(X++(M++(Y++Q)))) ->
  C 218 [slA t xs.length xs,.int .i64 a,.int .i64 c,.int .i64 n,g] S λr S'=>r=.ret (.tup [])/\ArS S' R ty t b (P++(Y++(M++(X++Q))))
def RotC (C:CallT)(R:List Rs)(ty:TypeId)(t b:Nat)(g:AV):Prop :=
 ∀(S:St) (xs:List AV) (P X Y Q:List Nat) (a m c:Nat),a=P.length->m=P.length+X.length->c=P.length+X.length+Y.length->X≠[]->Y≠[]->xs.length=(P++(X++(Y++Q))).length->(P++(X++(Y++Q))).length<2305843009213693952->ArS S R ty t b (P++(X++(Y++Q))) ->
  C 201 [slA t xs.length xs,.int .i64 a,.int .i64 m,.int .i64 c,g] S λr S'=>r=.ret (.tup [])/\ArS S' R ty t b (P++(Y++(X++Q)))
abbrev E_sw (t:Nat)(xs:List AV)(a c n i:Nat):Env:=[(0,.val (slA t xs.length xs)),(1,.val (.int .i64 a)),(2,.val (.int .i64 c)),(3,.val (.int .i64 n)),(10,.val (.int .i64 i))]
theorem swap_wp (hm:MonoC C){S:St}{xs:List AV}{P X M Y Q:List Nat}{g:AV}(hx:xs.length=(P++(X++(M++(Y++Q)))).length)(hl:(P++(X++(M++(Y++Q)))).length<4611686018427387904)(hxy:X.length=Y.length)(hA:ArS S R ty t b (P++(X++(M++(Y++Q))))) :
  wpF gt C F218 [slA t xs.length xs,.int .i64 P.length,.int .i64 ((P.length+X.length+M.length:Nat):Int),.int .i64 X.length,g] S λr S'=>r=.ret (.tup [])/\ArS S' R ty t b (P++(Y++(M++(X++Q)))):=by
 have hlen:(P++(X++(M++(Y++Q)))).length=P.length+(X.length+(M.length+(Y.length+Q.length))):=by simp only[lA]
 rw[hlen]at hx hl;refine⟨rfl,?_⟩;refine goW ?_;refine loop_rule hm (α:=Nat×List Nat×List Nat×List Nat×List Nat) (λa env S'=>env=E_sw t xs P.length (P.length+X.length+M.length) X.length a.1/\a.1+a.2.2.1.length=X.length/\a.2.1.length=P.length+a.1/\a.2.2.1.length=a.2.2.2.2.length/\a.2.1.length+a.2.2.1.length+a.2.2.2.1.length=P.length+X.length+M.length+a.1 /\
   ArS S' R ty t b (a.2.1++(a.2.2.1++(a.2.2.2.1++(a.2.2.2.2++Q))))/\P++(Y++(M++(X++Q)))=a.2.1++(a.2.2.2.2++(a.2.2.2.1++(a.2.2.1++Q)))) (λa=>X.length-a.1) ?_ (a:=(0,P,X,M,Y)) ⟨rfl,by simp,by simp,hxy,by simp,hA,rfl⟩
 rintro⟨i,Pi,Xi,Mi,Yi⟩ env S' ⟨rfl,h1,h2,h3,h4,hA,hT⟩;simp only at h1 h2 h3 h4 hA hT;refine goW ?_;by_cases hc:(i:Int)<(X.length:Nat)
 ·rw[dT hc]
  match Xi,Yi,h1,h3,h4,hA,hT with
  | [],_,h1,_,_,_,_=>simp at h1;omega
  | _::_,[],_,h3,_,_,_=>simp at h3
  | x::Xr,y::Yr,h1,h3,h4,hA,hT =>
  simp only[lC]at h1 h3 h4;have hla:(Pi++((x::Xr)++(Mi++((y::Yr)++Q)))).length=xs.length:=by simp only[lA,lC];omega
  have g1:(Pi++((x::Xr)++(Mi++((y::Yr)++Q))))[P.length+i]? = some x:=get_mid (by omega);have g2:(Pi++((x::Xr)++(Mi++((y::Yr)++Q))))[P.length+X.length+M.length+i]? = some y:=by
   rw[show Pi++((x::Xr)++(Mi++((y::Yr)++Q)))=(Pi++((x::Xr)++Mi))++(y::(Yr++Q)) by simp only[aA,List.cons_append]];exact get_mid (by simp only[lA,lC];omega)
  have s1:(Pi++((x::Xr)++(Mi++((y::Yr)++Q)))).set (P.length+i) y=Pi++(y::(Xr++(Mi++((y::Yr)++Q)))):=set_mid (by omega);have s2:(Pi++(y::(Xr++(Mi++((y::Yr)++Q))))).set (P.length+X.length+M.length+i) x=(Pi++[y])++(Xr++((Mi++[x])++(Yr++Q))):=by
   rw[show Pi++(y::(Xr++(Mi++((y::Yr)++Q))))=(Pi++(y::(Xr++Mi)))++(y::(Yr++Q)) by simp only[aA,List.cons_append],set_mid (by simp only[lA,lC];omega)];simp only[aA,List.cons_append,List.nil_append]
  generalize Pi++((x::Xr)++(Mi++((y::Yr)++Q)))=l at hA hla g1 g2 s1;have k1:P.length+i<l.length:=by omega
  have k2:P.length+X.length+M.length+i<l.length:=by omega
  have w1:wr .i64 ((P.length:Int)+(i:Int))=((P.length+i:Nat):Int):=by rw[wr64 (by omega) (by omega)];omega
  have w2:wr .i64 (((P.length+X.length+M.length:Nat):Int)+(i:Int))=((P.length+X.length+M.length+i:Nat):Int):=by rw[wr64 (by omega) (by omega)];omega
  refine goW ?_;rw[w1,w2];refine step_ruleDO rfl rfl (sx_ia (k:=P.length+X.length+M.length+i) rfl rfl (by omega)) (goW ?_);refine step_ruleDO rfl rfl (sx_ldEl (agg:=false) rfl (hA.els hla.symm) (ints_get g2) rfl) (goW ?_);rw[w1];refine step_ruleDO rfl rfl (sx_ia (k:=P.length+i) rfl rfl (by omega)) (goW ?_);refine step_ruleDO rfl rfl (sx_ldEl (agg:=false) rfl (hA.els hla.symm) (ints_get g1) rfl) (goW ?_);refine step_ruleDO rfl rfl (sx_ia (k:=P.length+i) rfl rfl (by omega)) (goW ?_);refine st_runPD (hA.st hla.symm rfl rfl k1) (by trivial) rfl rfl ?_;intro S2 hA;rw[s1]at hA;refine goW ?_;refine step_ruleDO rfl rfl (sx_ia (k:=P.length+X.length+M.length+i) rfl rfl (by omega)) (goW ?_);have hl2:(Pi++(y::(Xr++(Mi++((y::Yr)++Q))))).length=l.length:=by rw[<-s1,List.length_set]
  refine st_runPD (hA.st (by omega) rfl rfl (by omega)) (by trivial) rfl rfl ?_;intro S3 hA;rw[s2]at hA;refine goW ?_;refine⟨(i+1,Pi++[y],Xr,Mi++[x],Yr),⟨?_,by simp only;omega,by simp only[lA,lC,lN];omega,by simp only;omega,by simp only[lA,lC,lN];omega,hA,?_⟩,by simp only;omega⟩
  ·rw[wrNat (by omega)]
  ·rw[hT];simp only[aA,List.cons_append,List.nil_append]
 ·rw[dF hc];have e1:Xi=[]:=nL (by omega);have e2:Yi=[]:=nL (by omega);subst e1;subst e2;refine goW ?_;refine⟨_,rfl,rfl,?_⟩;rw[hT];exact hA
abbrev E_ro (t:Nat)(xs:List AV)(m:Nat)(g:AV)(i j:Nat):Env:=[(0,.val (slA t xs.length xs)),(2,.val (.int .i64 m)),(4,.val g),(10,.val (.int .i64 i)),(11,.val (.int .i64 j))]
theorem rot_wp (hm:MonoC C){f:FuncId}{cs:List AV}(hsw:SwapC C R ty t b (.fn f [] cs)){S:St}{xs:List AV}{P X Y Q:List Nat}(h1:X≠[])(h2:Y≠[])(hx:xs.length=(P++(X++(Y++Q))).length)(hl:(P++(X++(Y++Q))).length<2305843009213693952)(hA:ArS S R ty t b (P++(X++(Y++Q)))) :
  wpF gt C F201 [slA t xs.length xs,.int .i64 P.length,.int .i64 ((P.length+X.length:Nat):Int),.int .i64 ((P.length+X.length+Y.length:Nat):Int),.fn f [] cs] S λr S'=>r=.ret (.tup [])/\ArS S' R ty t b (P++(Y++(X++Q))):=by
 have hlen:(P++(X++(Y++Q))).length=P.length+(X.length+(Y.length+Q.length)):=by simp only[lA]
 rw[hlen]at hx hl;have p1:0<X.length:=List.length_pos_iff.2 h1;have p2:0<Y.length:=List.length_pos_iff.2 h2;refine⟨rfl,?_⟩;refine goW ?_;rw[show wr .i64 (((P.length+X.length:Nat):Int)-(P.length:Int))=(X.length:Int) by rw[wr64 (by omega) (by omega)];omega,show wr .i64 (((P.length+X.length+Y.length:Nat):Int)-((P.length+X.length:Nat):Int))=(Y.length:Int) by rw[wr64 (by omega) (by omega)];omega];refine loop_rule hm (α:=List Nat×List Nat×List Nat×List Nat) (λa env S'=>env=E_ro t xs (P.length+X.length) (.fn f [] cs) a.2.1.length a.2.2.1.length/\0<a.2.1.length/\0<a.2.2.1.length/\a.1.length+a.2.1.length=P.length+X.length/\xs.length=(a.1++(a.2.1++(a.2.2.1++a.2.2.2))).length /\
   ArS S' R ty t b (a.1++(a.2.1++(a.2.2.1++a.2.2.2)))/\P++(Y++(X++Q))=a.1++(a.2.2.1++(a.2.1++a.2.2.2))) (λa=>a.2.1.length+a.2.2.1.length) ?_ (a:=(P,X,Y,Q)) ⟨rfl,p1,p2,rfl,by rw[hlen,hx],hA,rfl⟩
 rintro⟨P',L,U,Q'⟩ env S' ⟨rfl,l1,l2,l3,l4,hA,hT⟩;simp only at l1 l2 l3 l4 hA hT;have hlen':(P'++(L++(U++Q'))).length=P'.length+(L.length+(U.length+Q'.length)):=by simp only[lA]
 have w1:wr .i64 (((P.length+X.length:Nat):Int)-(L.length:Int))=((P'.length:Nat):Int):=by rw[wr64 (by omega) (by omega)];omega
 refine goW ?_;by_cases hne:(L.length:Int)=U.length
 ·rw[neI_false hne];refine goW ?_;rw[w1];refine call_rule (by rfl) (hm _ _ _ _ _ (hsw S' xs P' L [] U Q' P'.length (P.length+X.length) L.length rfl (by simp only[lN];omega) rfl l4 (by simp only[List.nil_append];omega) (by omega) hA) ?_);rintro r S2 ⟨rfl,hA⟩;refine goW ?_;refine⟨_,rfl,rfl,?_⟩;rw[hT];exact hA
 rw[neI_true hne];refine goW ?_;by_cases hgt:(L.length:Int) > U.length
 ·rw[dT hgt];obtain⟨L1,L2,hL,e1,hLl⟩:∃L1 L2,L=L1++L2/\L1.length=U.length/\L1.length+L2.length=L.length:=⟨L.take U.length,L.drop U.length,(tkD _ _).symm,by rw[lT];omega,by rw[lT,lD];omega⟩
  have l5:xs.length=(P'++(L1++(L2++(U++Q')))).length:=by simp only[lA];omega
  rw[hL,aA]at hA hT;refine goW ?_;rw[w1];refine call_rule (by rfl) (hm _ _ _ _ _ (hsw S' xs P' L1 L2 U Q' P'.length (P.length+X.length) U.length rfl (by omega) (by omega) l5 (by rw[<-l5];omega) e1 hA) ?_);rintro r S2 ⟨rfl,hA⟩;refine goW ?_;refine⟨(P'++U,L2,L1,Q'),⟨?_,by simp only;omega,by simp only;omega,by simp only[lA];omega,?_,?_,?_⟩,by simp only;omega⟩
  ·simp only[E_ro];rw[wr64 (by omega) (by omega),show (L.length:Int)-(U.length:Int)=(L2.length:Int) by omega,e1]
   try rfl
  ·simp only[lA];omega
  ·rw[aA];exact hA
  ·rw[hT];simp only[aA]
 ·rw[dF hgt];obtain⟨U1,U2,hU,e1,hUl⟩:∃U1 U2,U=U1++U2/\U2.length=L.length/\U1.length+U2.length=U.length:=⟨U.take (U.length-L.length),U.drop (U.length-L.length),(tkD _ _).symm,by rw[lD];omega,by rw[lT,lD];omega⟩
  have l5:xs.length=(P'++(L++(U1++(U2++Q')))).length:=by simp only[lA];omega
  rw[hU,aA]at hA hT;refine goW ?_;rw[w1,wr64 (n:=((P.length+X.length:Nat):Int)+(U.length:Int)) (by omega) (by omega),show wr .i64 (((P.length+X.length:Nat):Int)+(U.length:Int)-(L.length:Int))=((P.length+X.length+U1.length:Nat):Int) by rw[wr64 (by omega) (by omega)];omega];refine call_rule (by rfl) (hm _ _ _ _ _ (hsw S' xs P' L U1 U2 Q' P'.length (P.length+X.length+U1.length) L.length rfl (by omega) rfl l5 (by rw[<-l5];omega) e1.symm hA) ?_);rintro r S2 ⟨rfl,hA⟩;refine goW ?_;refine⟨(P',U2,U1,L++Q'),⟨?_,by simp only;omega,by simp only;omega,by simp only;omega,?_,hA,?_⟩,by simp only;omega⟩
  ·simp only[E_ro];rw[wr64 (by omega) (by omega),show (U.length:Int)-(L.length:Int)=(U1.length:Int) by omega,e1]
   try rfl
  ·simp only[lA];omega
  ·rw[hT]
end

structure Cz (cz:Nat->Nat->Int):Prop where
 rf:∀a,0<=cz a a
 tr:∀{a b c},0<=cz b a->0<=cz c b->0<=cz c a
 asy:∀{a b},cz a b<0->0<=cz b a
def leZ (cz:Nat->Nat->Int)(a b:Nat):Prop:=0<=cz b a
def CmpC (C:CallT)(f:FuncId)(cs:List AV)(R:List Rs)(ty:TypeId)(t b n:Nat)(cz:Nat->Nat->Int):Prop :=
 ∀(S:St) (l:List Nat) (i j:Nat),ArS S R ty t b l->i<n->j<n->C f (.int .i64 i::.int .i64 j::cs) S λr S'=>r=.ret (.int .i64 (cz i j))/\S'=S
section
variable {gt:GT}{C:CallT}{R:List Rs}{ty:TypeId}{t b:Nat}
def InsC (C:CallT)(R:List Rs)(ty:TypeId)(t b n:Nat)(g:AV)(cz:Nat->Nat->Int):Prop :=
 ∀(S:St) (xs:List AV) (P X Q:List Nat) (a c:Nat),a=P.length->c=P.length+X.length->(∀x∈X,x<n)->xs.length=(P++(X++Q)).length->(P++(X++Q)).length<2305843009213693952->ArS S R ty t b (P++(X++Q)) ->
  C 180 [slA t xs.length xs,.int .i64 a,.int .i64 c,g] S λr S'=>r=.ret (.tup [])/\∃Z,Z.Perm X/\Srt (leZ cz) Z/\ArS S' R ty t b (P++(Z++Q))
abbrev E_in (t:Nat)(xs:List AV)(a c:Nat)(g:AV)(i:Nat):Env:=[(0,.val (slA t xs.length xs)),(1,.val (.int .i64 a)),(2,.val (.int .i64 c)),(3,.val g),(8,.val (.int .i64 i))]
abbrev E_in2 (t:Nat)(xs:List AV)(a c:Nat)(g:AV)(i j:Nat):Env:=[(0,.val (slA t xs.length xs)),(1,.val (.int .i64 a)),(2,.val (.int .i64 c)),(3,.val g),(8,.val (.int .i64 i)),(9,.val (.int .i64 j))]
theorem srt_ins {cz:Nat->Nat->Int}(hz:Cz cz){L U:List Nat}{x:Nat}(h:Srt (leZ cz) (L++U))(h1:∀u∈U,cz x u<0)(h2:∀v,L[L.length-1]? = some v->0<=cz x v):Srt (leZ cz) (L++(x::U)):=by
 obtain⟨a,c,d⟩:=srt_app.1 h;have hL:∀u∈L,leZ cz u x:=λu hu=>by
  have:=ends_le (le:=leZ cz) (λh h'=>hz.tr h h') (x:=L) (y:=[x]) a (List.pairwise_singleton _ _) (λu v e1 e2=>by
   simp only[List.getElem?_cons_zero,oI]at e2;subst e2;exact h2 u e1) (λa=>hz.rf a)
  exact this u hu x (by simp)
 refine srt_app.2 ⟨a,List.pairwise_cons.2 ⟨λu hu=>hz.asy (h1 u hu),c⟩,λu hu v hv=>?_⟩;rcases List.mem_cons.1 hv with rfl | hv
 ·exact hL u hu
 ·exact d u hu v hv
theorem ins_wp (hm:MonoC C){f:FuncId}{cs:List AV}{n:Nat}{cz:Nat->Nat->Int}(hz:Cz cz)(hc:CmpC C f cs R ty t b n cz){S:St}{xs:List AV}{P X Q:List Nat}(hX:∀x∈X,x<n)(hx:xs.length=(P++(X++Q)).length)(hl:(P++(X++Q)).length<2305843009213693952)(hA:ArS S R ty t b (P++(X++Q))) :
  wpF gt C F180 [slA t xs.length xs,.int .i64 P.length,.int .i64 ((P.length+X.length:Nat):Int),.fn f [] cs] S λr S'=>r=.ret (.tup [])/\∃Z,Z.Perm X/\Srt (leZ cz) Z/\ArS S' R ty t b (P++(Z++Q)):=by
 have hlen:(P++(X++Q)).length=P.length+(X.length+Q.length):=by simp only[lA]
 rw[hlen]at hx hl;refine⟨rfl,?_⟩;refine goW ?_;rw[wrNat (by omega)];refine loop_rule hm (α:=List Nat×List Nat×Nat) (λa env S'=>env=E_in t xs P.length (P.length+X.length) (.fn f [] cs) a.2.2/\(a.2.2=P.length+a.1.length\/(a.2.1=[]/\P.length+X.length<=a.2.2/\a.2.2<=P.length+X.length+1))/\(a.1++a.2.1).Perm X/\Srt (leZ cz) a.1/\ArS S' R ty t b (P++(a.1++(a.2.1++Q)))) (λa=>P.length+X.length+1-a.2.2) ?_
  (a:=(X.take 1,X.drop 1,P.length+1)) ⟨rfl,?_,by rw[tkD],?_,by rw[<-aA (X.take 1),tkD];exact hA⟩
 case refine_2 =>
  cases X with
  | nil=>right;exact⟨rfl,by simp,by simp⟩
  | cons x r=>left;simp
 case refine_3 =>
  cases X with
  | nil=>exact List.Pairwise.nil
  | cons x r=>exact List.pairwise_singleton _ _
 rintro⟨Z,W,i⟩ env S' ⟨rfl,hi,hp,hs,hA⟩;simp only at hi hp hs hA;have hpl:=hp.length_eq;rw[lA]at hpl;have hmem:∀x∈Z++W,x<n:=λx hx=>hX x (hp.mem_iff.1 hx);refine goW ?_;by_cases hc1:(i:Int)<((P.length+X.length:Nat):Int)
 ·rw[dT hc1];have hi':i=P.length+Z.length:=by
   rcases hi with h | ⟨h1,h2,h3⟩
   ·exact h
   ·omega
  cases W with
  | nil=>simp only[lN]at hpl;omega
  | cons x W' =>
  simp only[lC]at hpl;have hxn:x<n:=hmem x (by simp);refine goW ?_;refine loop_rule hm (α:=List Nat×List Nat) (λa env S'=>env=E_in2 t xs P.length (P.length+X.length) (.fn f [] cs) i (P.length+a.1.length)/\a.1++a.2=Z/\(∀u∈a.2,cz x u<0)/\ArS S' R ty t b (P++(a.1++(x::(a.2++(W'++Q)))))) (λa=>a.1.length) ?_ (a:=(Z,[])) ⟨by rw[hi'],by simp,λu hu=>by simp at hu,by simpa using hA⟩;rintro⟨L,U⟩ env S2 ⟨rfl,hLU,hU,hA⟩;simp only at hLU hU hA;have hzl:=congrArg List.length hLU;rw[lA]at hzl;have hxl:xs.length=(P++(L++(x::(U++(W'++Q))))).length:=by simp only[lA,lC];omega
  have done:(∀v,L[L.length-1]? = some v->0<=cz x v)->∃a:List Nat×List Nat×Nat,(E_in t xs P.length (P.length+X.length) (.fn f [] cs) (i+1)=E_in t xs P.length (P.length+X.length) (.fn f [] cs) a.2.2/\(a.2.2=P.length+a.1.length\/(a.2.1=[]/\P.length+X.length<=a.2.2/\a.2.2<=P.length+X.length+1))/\(a.1++a.2.1).Perm X/\Srt (leZ cz) a.1/\ArS S2 R ty t b (P++(a.1++(a.2.1++Q))))/\P.length+X.length+1-a.2.2<P.length+X.length+1-i:=λh=>by
   refine⟨(L++(x::U),W',i+1),⟨rfl,.inl (by simp only[lA,lC];omega),?_,?_,?_⟩,by simp only;omega⟩
   ·refine List.Perm.trans ?_ hp;simp only;rw[<-hLU,aA,aA,List.cons_append];exact List.Perm.append_left L (List.perm_middle.symm)
   ·exact srt_ins hz (by rw[hLU];exact hs) hU h
   ·simpa only[aA,List.cons_append] using hA
  refine goW ?_;rcases List.eq_nil_or_concat L with hL | ⟨L',v,hL⟩
  ·subst hL;rw[dF (show ¬((P.length+([]:List Nat).length:Nat):Int) > (P.length:Int) by simp)];have done:=done (λv h=>by simp at h);refine goW ?_;rw[wrNat (by omega)];exact done
  rw[List.concat_eq_append]at hL;subst hL;have hvl:(L'++[v]).length=L'.length+1:=by simp
  rw[hvl]at hzl;have hvn:v<n:=hmem v (by rw[<-hLU];simp);have hA0:=hA;have done:=λ(h:0<=cz x v)=>done (λv' h'=>by
   rw[hvl,Nat.add_sub_cancel,get_mid rfl]at h';cases h';exact h)
  have e1:P++((L'++[v])++(x::(U++(W'++Q))))=(P++L')++(v::(x::(U++(W'++Q)))):=by simp only[aA,List.cons_append,List.nil_append]
  have e2:P++((L'++[v])++(x::(U++(W'++Q))))=(P++(L'++[v]))++(x::(U++(W'++Q))):=by simp only[aA,List.cons_append,List.nil_append]
  have g1:(P++((L'++[v])++(x::(U++(W'++Q)))))[P.length+L'.length]? = some v:=by rw[e1];exact get_mid (by rw[lA])
  have g2:(P++((L'++[v])++(x::(U++(W'++Q)))))[P.length+L'.length+1]? = some x:=by rw[e2];exact get_mid (by simp only[lA,lC,lN];omega)
  have s1:(P++((L'++[v])++(x::(U++(W'++Q))))).set (P.length+L'.length+1) v=(P++L')++(v::(v::(U++(W'++Q)))):=by
   rw[e2,set_mid (by simp only[lA,lC,lN];omega)];simp only[aA,List.cons_append,List.nil_append]
  have s2:((P++L')++(v::(v::(U++(W'++Q))))).set (P.length+L'.length) x=P++(L'++(x::((v::U)++(W'++Q)))):=by
   rw[set_mid (by rw[lA])];simp only[aA,List.cons_append]
  have hls:((P++L')++(v::(v::(U++(W'++Q))))).length=xs.length:=by rw[<-s1,List.length_set,hxl]
  generalize hgl:P++((L'++[v])++(x::(U++(W'++Q))))=l at hA g1 g2 s1 hxl;rw[hvl];have k1:P.length+L'.length<l.length:=by omega
  have k2:P.length+L'.length+1<l.length:=by omega
  have w1:wr .i64 (((P.length+(L'.length+1):Nat):Int)-1)=((P.length+L'.length:Nat):Int):=by rw[wr64 (by omega) (by omega)];omega
  rw[dT (show ((P.length+(L'.length+1):Nat):Int) > (P.length:Int) by omega)];refine goW ?_;refine st_anyD (by exact rfl) rfl rfl (sx_ia (k:=P.length+L'.length+1) rfl rfl (by omega)) (goW ?_);refine st_anyD (by exact rfl) rfl rfl (sx_ldEl (agg:=false) rfl (hA.els hxl) (ints_get g2) rfl) (goW ?_);rw[w1];refine st_anyD (by exact rfl) rfl rfl (sx_ia (k:=P.length+L'.length) rfl rfl (by omega)) (goW ?_);refine st_anyD (by exact rfl) rfl rfl (sx_ldEl (agg:=false) rfl (hA.els hxl) (ints_get g1) rfl) (goW ?_);refine call_ruleD (by rfl) (hm _ _ _ _ _ (hc S2 l x v hA hxn hvn) ?_);rintro r S3 ⟨rfl,rfl⟩;refine goW ?_;by_cases hlt:cz x v<0
  case neg =>
   rw[dF hlt];have done:=done (by omega);refine goW ?_;rw[wrNat (by omega)];exact done
  rw[dT hlt];refine goW ?_;rw[w1];refine step_ruleDO rfl rfl (sx_ia (k:=P.length+L'.length) rfl rfl (by omega)) (goW ?_);refine step_ruleDO rfl rfl (sx_ldEl (agg:=false) rfl (hA.els hxl) (ints_get g1) rfl) (goW ?_);refine step_ruleDO rfl rfl (sx_ia (k:=P.length+L'.length+1) rfl rfl (by omega)) (goW ?_);refine step_ruleDO rfl rfl (sx_ldEl (agg:=false) rfl (hA.els hxl) (ints_get g2) rfl) (goW ?_);refine step_ruleDO rfl rfl (sx_ia (k:=P.length+L'.length+1) rfl rfl (by omega)) (goW ?_);refine st_runPD (hA.st hxl rfl rfl k2) (by trivial) rfl rfl ?_;intro S4 hA;rw[s1]at hA;refine goW ?_;refine step_ruleDO rfl rfl (sx_ia (k:=P.length+L'.length) rfl rfl (by omega)) (goW ?_);refine st_runPD (hA.st hls.symm rfl rfl (by omega)) (by trivial) rfl rfl ?_;intro S5 hA;rw[s2]at hA;refine goW ?_;refine⟨(L',v::U),⟨?_,by rw[<-hLU];simp,λu hu=>?_,hA⟩,by simp only[hvl];omega⟩
  ·rw[w1]
  ·rcases List.mem_cons.1 hu with rfl | hu
   ·exact hlt
   ·exact hU u hu
 ·rw[dF hc1];have hW:W=[]:=by
   rcases hi with h | ⟨h1,_⟩
   ·exact nL (by omega)
   ·exact h1
  subst hW;rw[List.append_nil]at hp;refine goW ?_;exact⟨_,rfl,rfl,Z,hp,hs,by simpa using hA⟩
end

theorem ltZ_le {cz:Nat->Nat->Int}(hz:Cz cz){u y x:Nat}(h:leZ cz u y)(h1:cz y x<0):cz u x<0:=by
 rcases Int.lt_or_le (cz u x) 0 with q | q
 ·exact q
 ·have:0<=cz y x:=hz.tr (a:=x) (b:=u) (c:=y) q h;omega
theorem srt_take_le {cz:Nat->Nat->Int}(hz:Cz cz){Y:List Nat}(h:Srt (leZ cz) Y){k:Nat}(hk:k<Y.length):∀u∈Y.take (k+1),leZ cz u Y[k]:=by
 intro u hu;obtain⟨i,hi,rfl⟩:=List.mem_iff_getElem.1 hu;rw[lT]at hi;rw[List.getElem_take];rcases Nat.lt_or_ge i k with q | q
 ·exact List.pairwise_iff_getElem.1 h i k (by omega) hk q
 ·have:i=k:=by omega
  subst this;exact hz.rf _
theorem srt_drop_ge {cz:Nat->Nat->Int}(hz:Cz cz){Y:List Nat}(h:Srt (leZ cz) Y){k:Nat}(hk:k<Y.length):∀u∈Y.drop k,leZ cz Y[k] u:=by
 intro u hu;obtain⟨i,hi,rfl⟩:=List.mem_iff_getElem.1 hu;rw[lD]at hi;rw[List.getElem_drop];rcases Nat.eq_zero_or_pos i with q | q
 ·subst q;exact hz.rf _
 ·exact List.pairwise_iff_getElem.1 h k (k+i) hk (by omega) (by omega)
theorem srt_put {cz:Nat->Nat->Int}{Y:List Nat}{x p:Nat}(h:Srt (leZ cz) Y)(h1:∀u∈Y.take p,leZ cz u x)(h2:∀u∈Y.drop p,leZ cz x u):Srt (leZ cz) (Y.take p++(x::Y.drop p)):=by
 rw[<-tkD p Y]at h;obtain⟨a,c,d⟩:=srt_app.1 h;refine srt_app.2 ⟨a,List.pairwise_cons.2 ⟨h2,c⟩,λu hu v hv=>?_⟩;rcases List.mem_cons.1 hv with rfl | hv
 ·exact h1 u hu
 ·exact d u hu v hv
theorem midW {i j:Nat}(h:i+j<9223372036854775808):wr .i64 ((wr .u64 (wr .i64 ((i:Int)+(j:Int)))).fdiv (2 ^ (min (Int.toNat 1) (IntKind.bits .u64))))=(((i+j) / 2:Nat):Int):=by
 rw[wr64 (n:=(i:Int)+(j:Int)) (by omega) (by omega),wr_eq .u64,show IntKind.u64.wrap ((i:Int)+(j:Int))=((i+j:Nat):Int) by
  have:∀n:Int,IntKind.u64.wrap n=n % 18446744073709551616:=λn=>by simp[IntKind.wrap,IntKind.bits,IntKind.signed]
  rw[this];omega]
 rw[show min (Int.toNat 1) (IntKind.bits .u64)=1 by decide,show ((2:Int) ^ 1)=2 by decide,Int.fdiv_eq_ediv_of_nonneg _ (by decide),wr64 (by omega) (by omega)];omega
section
variable {gt:GT}{C:CallT}{R:List Rs}{ty:TypeId}{t b:Nat}
def MrgC (C:CallT)(R:List Rs)(ty:TypeId)(t b n:Nat)(g:AV)(cz:Nat->Nat->Int)(k:Nat):Prop :=
 ∀(S:St) (xs:List AV) (P X Y Q:List Nat) (a m c:Nat),X.length+Y.length<=k->a=P.length->m=P.length+X.length->c=P.length+X.length+Y.length->X≠[]->Y≠[]->(∀x∈X++Y,x<n)->Srt (leZ cz) X->Srt (leZ cz) Y->xs.length=(P++(X++(Y++Q))).length->(P++(X++(Y++Q))).length<1152921504606846976->ArS S R ty t b (P++(X++(Y++Q))) ->
  C 181 [slA t xs.length xs,.int .i64 a,.int .i64 m,.int .i64 c,g] S λr S'=>r=.ret (.tup [])/\∃Z,Z.Perm (X++Y)/\Srt (leZ cz) Z/\ArS S' R ty t b (P++(Z++Q))
abbrev E_m1 (t:Nat)(xs:List AV)(a:Nat)(g:AV)(i j:Nat):Env:=[(0,.val (slA t xs.length xs)),(1,.val (.int .i64 a)),(4,.val g),(10,.val (.int .i64 i)),(11,.val (.int .i64 j))]
abbrev E_m1b (t:Nat)(xs:List AV)(i k:Nat):Env:=[(0,.val (slA t xs.length xs)),(10,.val (.int .i64 i)),(13,.val (.int .i64 k))]
theorem mrg1_wp (hm:MonoC C){f:FuncId}{cs:List AV}{n:Nat}{cz:Nat->Nat->Int}(hz:Cz cz)(hc:CmpC C f cs R ty t b n cz){S:St}{xs:List AV}{P Y Q:List Nat}{x:Nat}(hY:∀y∈Y,y<n)(hxn:x<n)(hs:Srt (leZ cz) Y)(hx:xs.length=(P++(x::(Y++Q))).length)(hl:(P++(x::(Y++Q))).length<1152921504606846976)(hA:ArS S R ty t b (P++(x::(Y++Q)))) :
  wpF gt C F181 [slA t xs.length xs,.int .i64 P.length,.int .i64 ((P.length+1:Nat):Int),.int .i64 ((P.length+1+Y.length:Nat):Int),.fn f [] cs] S λr S'=>r=.ret (.tup [])/\∃Z,Z.Perm (x::Y)/\Srt (leZ cz) Z/\ArS S' R ty t b (P++(Z++Q)):=by
 have hlen:(P++(x::(Y++Q))).length=P.length+(Y.length+Q.length+1):=by simp only[lA,lC]
 rw[hlen]at hl;refine⟨rfl,?_⟩;refine goW ?_;rw[show wr .i64 (((P.length+1:Nat):Int)-(P.length:Int))=1 by rw[wr64 (by omega) (by omega)];omega];refine goW ?_;refine loop_rule hm (α:=Nat×Nat) (λa env S'=>env=E_m1 t xs P.length (.fn f [] cs) (P.length+1+a.1) (P.length+1+a.2)/\a.1<=a.2/\a.2<=Y.length/\S'=S/\(∀u∈Y.take a.1,cz u x<0)/\(∀u∈Y.drop a.2,0<=cz u x)) (λa=>a.2-a.1) ?_ (a:=(0,Y.length)) ⟨rfl,Nat.zero_le _,nR _,rfl,by simp,by simp⟩;rintro⟨i,j⟩ env S' ⟨rfl,h1,h2,rfl,h3,h4⟩;simp only at h1 h2 h3 h4;refine goW ?_;by_cases hij:((P.length+1+i:Nat):Int)<((P.length+1+j:Nat):Int)
 ·rw[dT hij];obtain⟨r,hr⟩:∃r,r=(i+j) / 2:=⟨_,rfl⟩
  have hri:i<=r:=by omega
  have hrj:r<j:=by omega
  have hrY:r<Y.length:=by omega
  have g0:(P++(x::(Y++Q)))[P.length]? = some x:=get_mid rfl;have g1:(P++(x::(Y++Q)))[P.length+1+r]? = some Y[r]:=by
   rw[List.getElem?_append_right (by omega),show P.length+1+r-P.length=r+1 by omega,List.getElem?_cons_succ,List.getElem?_append_left hrY];exact gE hrY
  have hcall:=hc S' _ Y[r] x hA (hY _ (List.getElem_mem hrY)) hxn;have t1:=srt_take_le hz hs hrY;have t2:=srt_drop_ge hz hs hrY;generalize Y[r]=y at g1 hcall t1 t2;refine goW ?_;rw[midW (by omega),show (P.length+1+i+(P.length+1+j)) / 2=P.length+1+r by omega];refine step_ruleDO rfl rfl (sx_ia (k:=P.length+1+r) rfl rfl (by omega)) (goW ?_);refine step_ruleDO rfl rfl (sx_ldEl (agg:=false) rfl (hA.els hx) (ints_get g1) rfl) (goW ?_);refine step_ruleDO rfl rfl (sx_ia (k:=P.length) rfl rfl (by omega)) (goW ?_);refine step_ruleDO rfl rfl (sx_ldEl (agg:=false) rfl (hA.els hx) (ints_get g0) rfl) (goW ?_);refine call_ruleD (by rfl) (hm _ _ _ _ _ hcall ?_);rintro r' S3 ⟨rfl,rfl⟩;refine goW ?_;by_cases hlt:cz y x<0
  ·rw[dT hlt];refine goW ?_;refine⟨(r+1,j),⟨?_,by simp only;omega,h2,rfl,λu hu=>ltZ_le hz (t1 u hu) hlt,h4⟩,by simp only;omega⟩;rw[wrNat (by omega)]
   try rfl
  ·rw[dF hlt];refine goW ?_;refine⟨(i,r),⟨rfl,hri,by simp only;omega,rfl,h3,λu hu=>?_⟩,by simp only;omega⟩;exact hz.tr (a:=x) (b:=y) (c:=u) (by omega) (t2 u hu)
 ·rw[dF hij];obtain rfl:i=j:=by omega
  clear h1 hij
  refine goW ?_;refine loop_rule hm (α:=Nat) (λr env S'=>env=E_m1b t xs (P.length+1+i) (P.length+r)/\r<=i/\ArS S' R ty t b (P++(Y.take r++(x::(Y.drop r++Q))))) (λr=>i-r) ?_ (a:=0) ⟨rfl,Nat.zero_le _,by simpa using hA⟩;rintro r env S2 ⟨rfl,hri,hA⟩;have hxr:xs.length=(P++(Y.take r++(x::(Y.drop r++Q)))).length:=by rw[hx];simp only[lA,lC,lT,lD];omega
  refine goW ?_;rw[show wr .i64 (((P.length+1+i:Nat):Int)-1)=((P.length+i:Nat):Int) by rw[wr64 (by omega) (by omega)];omega];by_cases hlt:((P.length+r:Nat):Int)<((P.length+i:Nat):Int)
  ·rw[dT hlt];have hrY:r<Y.length:=by omega
   have hd:Y.drop r=Y[r]::Y.drop (r+1):=dC hrY;have htk:Y.take (r+1)=Y.take r++[Y[r]]:=tS hrY;have hltk:(Y.take r).length=r:=by rw[lT];omega
   rw[hd]at hA hxr;generalize Y[r]=y at hA hxr htk
   clear hd
   have g0:(P++(Y.take r++(x::((y::Y.drop (r+1))++Q))))[P.length+r]? = some x:=by rw[<-aA];exact get_mid (by rw[lA];omega)
   have g1:(P++(Y.take r++(x::((y::Y.drop (r+1))++Q))))[P.length+r+1]? = some y:=by
    rw[show P++(Y.take r++(x::((y::Y.drop (r+1))++Q)))=(P++(Y.take r++[x]))++(y::(Y.drop (r+1)++Q)) by simp only[aA,List.cons_append,List.nil_append]];exact get_mid (by simp only[lA,lC,lN];omega)
   have s1:(P++(Y.take r++(x::((y::Y.drop (r+1))++Q)))).set (P.length+r) y=(P++Y.take r)++(y::((y::Y.drop (r+1))++Q)):=by rw[<-aA];exact set_mid (by rw[lA];omega)
   have s2:((P++Y.take r)++(y::((y::Y.drop (r+1))++Q))).set (P.length+r+1) x=P++(Y.take (r+1)++(x::(Y.drop (r+1)++Q))):=by
    rw[show (P++Y.take r)++(y::((y::Y.drop (r+1))++Q))=(P++(Y.take r++[y]))++(y::(Y.drop (r+1)++Q)) by simp only[aA,List.cons_append,List.nil_append],set_mid (by simp only[lA,lC,lN];omega),htk];simp only[aA,List.cons_append,List.nil_append]
   have hl1:((P++Y.take r)++(y::((y::Y.drop (r+1))++Q))).length=xs.length:=by rw[<-s1,List.length_set,hxr]
   generalize P++(Y.take r++(x::((y::Y.drop (r+1))++Q)))=l at hA g0 g1 s1 hxr;refine goW ?_;rw[wrNat (by omega)];refine step_ruleDO rfl rfl (sx_ia (k:=P.length+r+1) rfl rfl (by omega)) (goW ?_);refine step_ruleDO rfl rfl (sx_ldEl (agg:=false) rfl (hA.els hxr) (ints_get g1) rfl) (goW ?_);refine step_ruleDO rfl rfl (sx_ia (k:=P.length+r) rfl rfl (by omega)) (goW ?_);refine step_ruleDO rfl rfl (sx_ldEl (agg:=false) rfl (hA.els hxr) (ints_get g0) rfl) (goW ?_);refine step_ruleDO rfl rfl (sx_ia (k:=P.length+r) rfl rfl (by omega)) (goW ?_);refine st_runPD (hA.st hxr rfl rfl (by omega)) (by trivial) rfl rfl ?_;intro S4 hA;rw[s1]at hA;refine goW ?_;refine step_ruleDO rfl rfl (sx_ia (k:=P.length+r+1) rfl rfl (by omega)) (goW ?_);refine st_runPD (hA.st hl1.symm rfl rfl (by omega)) (by trivial) rfl rfl ?_;intro S5 hA;rw[s2]at hA;refine goW ?_;refine⟨r+1,⟨?_,by omega,hA⟩,by omega⟩;rw[wrNat (by omega)]
   try rfl
  ·rw[dF hlt];obtain rfl:r=i:=by omega
   refine goW ?_;refine⟨_,rfl,rfl,Y.take r++(x::Y.drop r),?_,srt_put hs (λu hu=>hz.asy (h3 u hu)) (λu hu=>h4 u hu),by simpa only[aA,List.cons_append] using hA⟩;have:=List.perm_middle (a:=x) (l₁:=Y.take r) (l₂:=Y.drop r)
   rwa [tkD]at this
end

section
variable {gt:GT}{C:CallT}{R:List Rs}{ty:TypeId}{t b:Nat}
abbrev E_m2 (t:Nat)(xs:List AV)(m:Nat)(g:AV)(i j:Nat):Env:=[(0,.val (slA t xs.length xs)),(2,.val (.int .i64 m)),(4,.val g),(14,.val (.int .i64 i)),(15,.val (.int .i64 j))]
abbrev E_m2b (t:Nat)(xs:List AV)(i k:Nat):Env:=[(0,.val (slA t xs.length xs)),(14,.val (.int .i64 i)),(17,.val (.int .i64 k))]
theorem mrg2_wp (hm:MonoC C){f:FuncId}{cs:List AV}{n:Nat}{cz:Nat->Nat->Int}(hz:Cz cz)(hc:CmpC C f cs R ty t b n cz){S:St}{xs:List AV}{P Y Q:List Nat}{x:Nat}(hY:∀y∈Y,y<n)(hxn:x<n)(hs:Srt (leZ cz) Y)(h2:2<=Y.length)(hx:xs.length=(P++(Y++(x::Q))).length)(hl:(P++(Y++(x::Q))).length<1152921504606846976)(hA:ArS S R ty t b (P++(Y++(x::Q)))) :
  wpF gt C F181 [slA t xs.length xs,.int .i64 P.length,.int .i64 ((P.length+Y.length:Nat):Int),.int .i64 ((P.length+Y.length+1:Nat):Int),.fn f [] cs] S λr S'=>r=.ret (.tup [])/\∃Z,Z.Perm (Y++[x])/\Srt (leZ cz) Z/\ArS S' R ty t b (P++(Z++Q)):=by
 have hlen:(P++(Y++(x::Q))).length=P.length+(Y.length+(Q.length+1)):=by simp only[lA,lC]
 rw[hlen]at hl;refine⟨rfl,?_⟩;refine goW ?_;rw[show wr .i64 (((P.length+Y.length:Nat):Int)-(P.length:Int))=(Y.length:Int) by rw[wr64 (by omega) (by omega)];omega,eqI_false (show ¬(Y.length:Int)=1 by omega)];refine goW ?_;rw[show wr .i64 (((P.length+Y.length+1:Nat):Int)-((P.length+Y.length:Nat):Int))=1 by rw[wr64 (by omega) (by omega)];omega];refine goW ?_;refine loop_rule hm (α:=Nat×Nat) (λa env S'=>env=E_m2 t xs (P.length+Y.length) (.fn f [] cs) (P.length+a.1) (P.length+a.2)/\a.1<=a.2/\a.2<=Y.length/\S'=S/\(∀u∈Y.take a.1,0<=cz x u)/\(∀u∈Y.drop a.2,cz x u<0)) (λa=>a.2-a.1) ?_ (a:=(0,Y.length)) ⟨rfl,Nat.zero_le _,nR _,rfl,by simp,by simp⟩;rintro⟨i,j⟩ env S' ⟨rfl,h1,h2',rfl,h3,h4⟩;simp only at h1 h2' h3 h4;refine goW ?_;by_cases hij:((P.length+i:Nat):Int)<((P.length+j:Nat):Int)
 ·rw[dT hij];obtain⟨r,hr⟩:∃r,r=(i+j) / 2:=⟨_,rfl⟩
  have hri:i<=r:=by omega
  have hrj:r<j:=by omega
  have hrY:r<Y.length:=by omega
  have g0:(P++(Y++(x::Q)))[P.length+Y.length]? = some x:=by rw[<-aA];exact get_mid (by rw[lA])
  have g1:(P++(Y++(x::Q)))[P.length+r]? = some Y[r]:=by
   rw[List.getElem?_append_right (by omega),show P.length+r-P.length=r by omega,List.getElem?_append_left hrY];exact gE hrY
  have hcall:=hc S' _ x Y[r] hA hxn (hY _ (List.getElem_mem hrY));have t1:=srt_take_le hz hs hrY;have t2:=srt_drop_ge hz hs hrY;generalize Y[r]=y at g1 hcall t1 t2;refine goW ?_;rw[midW (by omega),show (P.length+i+(P.length+j)) / 2=P.length+r by omega];refine step_ruleDO rfl rfl (sx_ia (k:=P.length+Y.length) rfl rfl (by omega)) (goW ?_);refine step_ruleDO rfl rfl (sx_ldEl (agg:=false) rfl (hA.els hx) (ints_get g0) rfl) (goW ?_);refine step_ruleDO rfl rfl (sx_ia (k:=P.length+r) rfl rfl (by omega)) (goW ?_);refine step_ruleDO rfl rfl (sx_ldEl (agg:=false) rfl (hA.els hx) (ints_get g1) rfl) (goW ?_);refine call_ruleD (by rfl) (hm _ _ _ _ _ hcall ?_);rintro r' S3 ⟨rfl,rfl⟩;refine goW ?_;by_cases hlt:cz x y<0
  ·rw[dT hlt];refine goW ?_;refine⟨(i,r),⟨rfl,hri,by simp only;omega,rfl,h3,λu hu=>?_⟩,by simp only;omega⟩;rcases Int.lt_or_le (cz x u) 0 with q | q
   ·exact q
   ·have:0<=cz x y:=hz.tr (a:=y) (b:=u) (c:=x) (t2 u hu) q;omega
  ·rw[dF hlt];refine goW ?_;refine⟨(r+1,j),⟨?_,by simp only;omega,h2',rfl,λu hu=>?_,h4⟩,by simp only;omega⟩
   ·rw[wrNat (by omega)]
    try rfl
   ·exact hz.tr (a:=u) (b:=y) (c:=x) (t1 u hu) (by omega)
 ·rw[dF hij];obtain rfl:i=j:=by omega
  clear h1 hij
  refine goW ?_;refine loop_rule hm (α:=Nat) (λr env S'=>env=E_m2b t xs (P.length+i) (P.length+r)/\i<=r/\r<=Y.length/\ArS S' R ty t b (P++(Y.take r++(x::(Y.drop r++Q))))) (λr=>r) ?_ (a:=Y.length) ⟨rfl,h2',nR _,by simpa using hA⟩;rintro r env S2 ⟨rfl,hri,hrY,hA⟩;have hxr:xs.length=(P++(Y.take r++(x::(Y.drop r++Q)))).length:=by rw[hx];simp only[lA,lC,lT,lD];omega
  refine goW ?_;by_cases hlt:((P.length+r:Nat):Int) > ((P.length+i:Nat):Int)
  ·rw[dT hlt];obtain⟨q,rfl⟩:∃q,r=q+1:=⟨r-1,by omega⟩
   have hqY:q<Y.length:=by omega
   have hd:Y.drop q=Y[q]::Y.drop (q+1):=dC hqY;have htk:Y.take (q+1)=Y.take q++[Y[q]]:=tS hqY;have hltk:(Y.take q).length=q:=by rw[lT];omega
   rw[htk]at hA hxr;generalize Y[q]=y at hA hxr hd
   clear htk
   have g0:(P++((Y.take q++[y])++(x::(Y.drop (q+1)++Q))))[P.length+q+1]? = some x:=by
    rw[<-aA];exact get_mid (by simp only[lA,lC,lN];omega)
   have g1:(P++((Y.take q++[y])++(x::(Y.drop (q+1)++Q))))[P.length+q]? = some y:=by
    rw[show P++((Y.take q++[y])++(x::(Y.drop (q+1)++Q)))=(P++Y.take q)++(y::(x::(Y.drop (q+1)++Q))) by simp only[aA,List.cons_append,List.nil_append]];exact get_mid (by rw[lA];omega)
   have s1:(P++((Y.take q++[y])++(x::(Y.drop (q+1)++Q)))).set (P.length+q+1) y=(P++Y.take q)++(y::(y::(Y.drop (q+1)++Q))):=by
    rw[<-aA,set_mid (by simp only[lA,lC,lN];omega)];simp only[aA,List.cons_append,List.nil_append]
   have s2:((P++Y.take q)++(y::(y::(Y.drop (q+1)++Q)))).set (P.length+q) x=P++(Y.take q++(x::(Y.drop q++Q))):=by
    rw[set_mid (by rw[lA];omega),hd];simp only[aA,List.cons_append]
   have hl1:((P++Y.take q)++(y::(y::(Y.drop (q+1)++Q)))).length=xs.length:=by rw[<-s1,List.length_set,hxr]
   generalize P++((Y.take q++[y])++(x::(Y.drop (q+1)++Q)))=l at hA g0 g1 s1 hxr;have w1:wr .i64 (((P.length+(q+1):Nat):Int)-1)=((P.length+q:Nat):Int):=by rw[wr64 (by omega) (by omega)];omega
   refine goW ?_;rw[w1];refine step_ruleDO rfl rfl (sx_ia (k:=P.length+q) rfl rfl (by omega)) (goW ?_);refine step_ruleDO rfl rfl (sx_ldEl (agg:=false) rfl (hA.els hxr) (ints_get g1) rfl) (goW ?_);refine step_ruleDO rfl rfl (sx_ia (k:=P.length+q+1) rfl rfl (by omega)) (goW ?_);refine step_ruleDO rfl rfl (sx_ldEl (agg:=false) rfl (hA.els hxr) (ints_get g0) rfl) (goW ?_);refine step_ruleDO rfl rfl (sx_ia (k:=P.length+q+1) rfl rfl (by omega)) (goW ?_);refine st_runPD (hA.st hxr rfl rfl (by omega)) (by trivial) rfl rfl ?_;intro S4 hA;rw[s1]at hA;refine goW ?_;refine step_ruleDO rfl rfl (sx_ia (k:=P.length+q) rfl rfl (by omega)) (goW ?_);refine st_runPD (hA.st hl1.symm rfl rfl (by omega)) (by trivial) rfl rfl ?_;intro S5 hA;rw[s2]at hA;refine goW ?_;refine⟨q,⟨?_,by omega,by omega,hA⟩,by omega⟩;rw[w1]
  ·rw[dF hlt];obtain rfl:r=i:=by omega
   refine goW ?_;refine⟨_,rfl,rfl,Y.take r++(x::Y.drop r),?_,srt_put hs (λu hu=>h3 u hu) (λu hu=>hz.asy (h4 u hu)),by simpa only[aA,List.cons_append] using hA⟩;have:=List.perm_middle (a:=x) (l₁:=Y.take r) (l₂:=Y.drop r);rw[tkD]at this;exact this.trans (List.perm_append_singleton x Y).symm
end

section
variable {gt:GT}{C:CallT}{R:List Rs}{ty:TypeId}{t b:Nat}
theorem mrgLast_wp (hm:MonoC C){f:FuncId}{cs:List AV}{n k:Nat}{cz:Nat->Nat->Int}(ih:MrgC C R ty t b n (.fn f [] cs) cz k){S:St}{xs:List AV}{P B D Q:List Nat}{mid e c:Nat}{z:Env}{G:St->Prop}
  (h1:mid=P.length) (h2:e=P.length+B.length) (h3:c=P.length+B.length+D.length) (hk:B≠[]->D≠[]->B.length+D.length<=k) (hn:∀x∈B++D,x<n) (hB:Srt (leZ cz) B) (hD:Srt (leZ cz) D)
  (hx:xs.length=(P++(B++(D++Q))).length) (hl:(P++(B++(D++Q))).length<1152921504606846976) (hA:ArS S R ty t b (P++(B++(D++Q))))
  (fin:∀S' Z,Z.Perm (B++D)->Srt (leZ cz) Z->ArS S' R ty t b (P++(Z++Q))->G S') :
  wpD gt C F181.body.rt.rt.rt.rt.rt.rt.rt.rt.rt.rt.rt ((0,.val (slA t xs.length xs))::(3,.val (.int .i64 c))::(4,.val (.fn f [] cs))::(18,.val (.int .i64 mid))::(24,.val (.int .i64 e))::z) S (bodyQ gt F181.res λr S'=>r=.ret (.tup [])/\G S'):=by
 have triv:(B=[]\/D=[])->G S:=λh=>fin S (B++D) (List.Perm.refl _) (by rcases h with rfl | rfl;exact hD;rw[List.append_nil];exact hB) (by rw[aA];exact hA)
 conv=>whnf
 refine goW ?_;by_cases c1:(mid:Int)<(e:Int)
 ·rw[dT c1];refine goW ?_;by_cases c2:(e:Int)<(c:Int)
  ·rw[dT c2];have b1:B≠[]:=λh=>by rw[h]at h2;simp at h2;omega
   have b2:D≠[]:=λh=>by rw[h]at h3;simp at h3;omega
   refine goW ?_;refine call_rule (by rfl) (hm _ _ _ _ _ (ih S xs P B D Q mid e c (hk b1 b2) h1 h2 h3 b1 b2 hn hB hD hx hl hA) ?_);rintro r S2 ⟨rfl,Z,z1,z2,z3⟩;refine goW ?_;exact⟨_,rfl,rfl,fin S2 Z z1 z2 z3⟩
  ·rw[dF c2];have:D=[]:=nL (by omega);refine goW ?_;exact⟨_,rfl,rfl,triv (.inr this)⟩
 ·rw[dF c1];have:B=[]:=nL (by omega);refine goW ?_;exact⟨_,rfl,rfl,triv (.inl this)⟩
theorem mrgLast2_wp (hm:MonoC C){f:FuncId}{cs:List AV}{n k:Nat}{cz:Nat->Nat->Int}(ih:MrgC C R ty t b n (.fn f [] cs) cz k){S:St}{xs:List AV}{P B D Q:List Nat}{mid e c:Nat}{o1 o2:Ent}{z:Env}{G:St->Prop}
  (h1:mid=P.length) (h2:e=P.length+B.length) (h3:c=P.length+B.length+D.length) (hk:B≠[]->D≠[]->B.length+D.length<=k) (hn:∀x∈B++D,x<n) (hB:Srt (leZ cz) B) (hD:Srt (leZ cz) D)
  (hx:xs.length=(P++(B++(D++Q))).length) (hl:(P++(B++(D++Q))).length<1152921504606846976) (hA:ArS S R ty t b (P++(B++(D++Q))))
  (fin:∀S' Z,Z.Perm (B++D)->Srt (leZ cz) Z->ArS S' R ty t b (P++(Z++Q))->G S') :
  wpD gt C F181.body.rt.rt.rt.rt.rt.rt.rt.rt.rt.rt.rt ((0,.val (slA t xs.length xs))::(1,o1)::(3,.val (.int .i64 c))::(4,.val (.fn f [] cs))::(18,.val (.int .i64 mid))::(20,o2)::(24,.val (.int .i64 e))::z) S (bodyQ gt F181.res λr S'=>r=.ret (.tup [])/\G S'):=by
 have triv:(B=[]\/D=[])->G S:=λh=>fin S (B++D) (List.Perm.refl _) (by rcases h with rfl | rfl;exact hD;rw[List.append_nil];exact hB) (by rw[aA];exact hA)
 conv=>whnf
 refine goW ?_;by_cases c1:(mid:Int)<(e:Int)
 ·rw[dT c1];refine goW ?_;by_cases c2:(e:Int)<(c:Int)
  ·rw[dT c2];have b1:B≠[]:=λh=>by rw[h]at h2;simp at h2;omega
   have b2:D≠[]:=λh=>by rw[h]at h3;simp at h3;omega
   refine goW ?_;refine call_rule (by rfl) (hm _ _ _ _ _ (ih S xs P B D Q mid e c (hk b1 b2) h1 h2 h3 b1 b2 hn hB hD hx hl hA) ?_);rintro r S2 ⟨rfl,Z,z1,z2,z3⟩;refine goW ?_;exact⟨_,rfl,rfl,fin S2 Z z1 z2 z3⟩
  ·rw[dF c2];have:D=[]:=nL (by omega);refine goW ?_;exact⟨_,rfl,rfl,triv (.inr this)⟩
 ·rw[dF c1];have:B=[]:=nL (by omega);refine goW ?_;exact⟨_,rfl,rfl,triv (.inl this)⟩
theorem mrgFirst_wp (hm:MonoC C){f:FuncId}{cs:List AV}{n k:Nat}{cz:Nat->Nat->Int}(ih:MrgC C R ty t b n (.fn f [] cs) cz k){S:St}{xs:List AV}{P A V B D Q:List Nat}{a mid s e c:Nat}{z:Env}{G:St->Prop}
  (h0:a=P.length) (h1:mid=P.length+A.length+V.length) (h2:s=P.length+A.length) (h3:e=mid+B.length) (h4:c=e+D.length) (hk1:A≠[]->V≠[]->A.length+V.length<=k) (hk2:B≠[]->D≠[]->B.length+D.length<=k)
  (hn:∀x∈(A++V)++(B++D),x<n) (sA:Srt (leZ cz) A) (sV:Srt (leZ cz) V) (sB:Srt (leZ cz) B) (sD:Srt (leZ cz) D)
  (hx:xs.length=(P++(A++(V++(B++(D++Q))))).length) (hl:(P++(A++(V++(B++(D++Q))))).length<1152921504606846976) (hA:ArS S R ty t b (P++(A++(V++(B++(D++Q))))))
  (fin:∀S' Z1 Z2,Z1.Perm (A++V)->Srt (leZ cz) Z1->Z2.Perm (B++D)->Srt (leZ cz) Z2->ArS S' R ty t b (P++((Z1++Z2)++Q))->G S') :
  wpD gt C F181.body.rt.rt.rt.rt.rt.rt.rt.rt.rt.rt ((0,.val (slA t xs.length xs))::(1,.val (.int .i64 a))::(3,.val (.int .i64 c))::(4,.val (.fn f [] cs))::(18,.val (.int .i64 mid))::(20,.val (.int .i64 s))::(24,.val (.int .i64 e))::z) S (bodyQ gt F181.res λr S'=>r=.ret (.tup [])/\G S'):=by
 have hlen:(P++(A++(V++(B++(D++Q))))).length=P.length+(A.length+(V.length+(B.length+(D.length+Q.length)))):=by simp only[lA]
 have next:∀(S:St) (Z1:List Nat) (z:Env),Z1.Perm (A++V)->Srt (leZ cz) Z1->ArS S R ty t b (P++(Z1++(B++(D++Q))))->wpD gt C F181.body.rt.rt.rt.rt.rt.rt.rt.rt.rt.rt.rt ((0,.val (slA t xs.length xs))::(3,.val (.int .i64 c))::(4,.val (.fn f [] cs))::(18,.val (.int .i64 mid))::(24,.val (.int .i64 e))::z) S (bodyQ gt F181.res λr S'=>r=.ret (.tup [])/\G S'):=λS Z1 z p1 s1 hA=>by
  have zl:=p1.length_eq;rw[lA]at zl;refine mrgLast_wp (gt:=gt) hm ih (P:=P++Z1) (B:=B) (D:=D) (Q:=Q) (by rw[lA];omega) (by rw[lA];omega) (by rw[lA];omega) hk2 (λx hx=>hn x (List.mem_append_right _ hx)) sB sD (by rw[hx];simp only[lA];omega) (by rw[hlen]at hl;simp only[lA];omega) (by rw[aA];exact hA) ?_;intro S' Z2 p2 s2 hA2;exact fin S' Z1 Z2 p1 s1 p2 s2 (by simpa only[aA] using hA2)
 have triv:(A=[]\/V=[])->∀(o1 o2:Ent) z,wpD gt C F181.body.rt.rt.rt.rt.rt.rt.rt.rt.rt.rt.rt ((0,.val (slA t xs.length xs))::(1,o1)::(3,.val (.int .i64 c))::(4,.val (.fn f [] cs))::(18,.val (.int .i64 mid))::(20,o2)::(24,.val (.int .i64 e))::z) S (bodyQ gt F181.res λr S'=>r=.ret (.tup [])/\G S'):=λh o1 o2 z =>
  mrgLast2_wp (gt:=gt) hm ih (P:=P++(A++V)) (B:=B) (D:=D) (Q:=Q) (by simp only[lA];omega) (by simp only[lA];omega) (by simp only[lA];omega) hk2 (λx hx=>hn x (List.mem_append_right _ hx)) sB sD (by rw[hx];simp only[lA];omega) (by rw[hlen]at hl;simp only[lA];omega) (by simpa only[aA] using hA) λS' Z2 p2 s2 hA2 =>
   fin S' (A++V) Z2 (List.Perm.refl _) (by rcases h with rfl | rfl;exact sV;rw[List.append_nil];exact sA) p2 s2 (by simpa only[aA] using hA2)
 conv=>whnf
 refine goW ?_;by_cases c1:(a:Int)<(s:Int)
 ·rw[dT c1];refine goW ?_;by_cases c2:(s:Int)<(mid:Int)
  ·rw[dT c2];have b1:A≠[]:=λh=>by rw[h]at h2;simp at h2;omega
   have b2:V≠[]:=λh=>by rw[h]at h1;simp at h1;omega
   refine goW ?_;refine call_rule (by rfl) (hm _ _ _ _ _ (ih S xs P A V (B++(D++Q)) a s mid (hk1 b1 b2) h0 h2 h1 b1 b2 (λx hx=>hn x (List.mem_append_left _ hx)) sA sV hx hl hA) ?_);rintro r S2 ⟨rfl,Z1,z1,z2,z3⟩;have next:=next S2 Z1 [] z1 z2 z3
   refine goK ?_
   with_unfolding_all exact next
  ·rw[dF c2];have triv:=triv (.inr (nL (by omega)));refine goK ?_
   with_unfolding_all exact triv _ _ _
 ·rw[dF c1];have triv:=triv (.inl (nL (by omega)));refine goK ?_
  with_unfolding_all exact triv _ _ _
theorem mrgFirst2_wp (hm:MonoC C){f:FuncId}{cs:List AV}{n k:Nat}{cz:Nat->Nat->Int}(ih:MrgC C R ty t b n (.fn f [] cs) cz k){S:St}{xs:List AV}{P A V B D Q:List Nat}{a mid s e c:Nat}{o:Ent}{z:Env}{G:St->Prop}
  (h0:a=P.length) (h1:mid=P.length+A.length+V.length) (h2:s=P.length+A.length) (h3:e=mid+B.length) (h4:c=e+D.length) (hk1:A≠[]->V≠[]->A.length+V.length<=k) (hk2:B≠[]->D≠[]->B.length+D.length<=k)
  (hn:∀x∈(A++V)++(B++D),x<n) (sA:Srt (leZ cz) A) (sV:Srt (leZ cz) V) (sB:Srt (leZ cz) B) (sD:Srt (leZ cz) D)
  (hx:xs.length=(P++(A++(V++(B++(D++Q))))).length) (hl:(P++(A++(V++(B++(D++Q))))).length<1152921504606846976) (hA:ArS S R ty t b (P++(A++(V++(B++(D++Q))))))
  (fin:∀S' Z1 Z2,Z1.Perm (A++V)->Srt (leZ cz) Z1->Z2.Perm (B++D)->Srt (leZ cz) Z2->ArS S' R ty t b (P++((Z1++Z2)++Q))->G S') :
  wpD gt C F181.body.rt.rt.rt.rt.rt.rt.rt.rt.rt.rt ((0,.val (slA t xs.length xs))::(1,.val (.int .i64 a))::(2,o)::(3,.val (.int .i64 c))::(4,.val (.fn f [] cs))::(18,.val (.int .i64 mid))::(20,.val (.int .i64 s))::(24,.val (.int .i64 e))::z) S (bodyQ gt F181.res λr S'=>r=.ret (.tup [])/\G S'):=by
 have hlen:(P++(A++(V++(B++(D++Q))))).length=P.length+(A.length+(V.length+(B.length+(D.length+Q.length)))):=by simp only[lA]
 have next:∀(S:St) (Z1:List Nat) (z:Env),Z1.Perm (A++V)->Srt (leZ cz) Z1->ArS S R ty t b (P++(Z1++(B++(D++Q))))->wpD gt C F181.body.rt.rt.rt.rt.rt.rt.rt.rt.rt.rt.rt ((0,.val (slA t xs.length xs))::(3,.val (.int .i64 c))::(4,.val (.fn f [] cs))::(18,.val (.int .i64 mid))::(24,.val (.int .i64 e))::z) S (bodyQ gt F181.res λr S'=>r=.ret (.tup [])/\G S'):=λS Z1 z p1 s1 hA=>by
  have zl:=p1.length_eq;rw[lA]at zl;refine mrgLast_wp (gt:=gt) hm ih (P:=P++Z1) (B:=B) (D:=D) (Q:=Q) (by rw[lA];omega) (by rw[lA];omega) (by rw[lA];omega) hk2 (λx hx=>hn x (List.mem_append_right _ hx)) sB sD (by rw[hx];simp only[lA];omega) (by rw[hlen]at hl;simp only[lA];omega) (by rw[aA];exact hA) ?_;intro S' Z2 p2 s2 hA2;exact fin S' Z1 Z2 p1 s1 p2 s2 (by simpa only[aA] using hA2)
 have triv:(A=[]\/V=[])->∀(o1 o2:Ent) z,wpD gt C F181.body.rt.rt.rt.rt.rt.rt.rt.rt.rt.rt.rt ((0,.val (slA t xs.length xs))::(1,o1)::(3,.val (.int .i64 c))::(4,.val (.fn f [] cs))::(18,.val (.int .i64 mid))::(20,o2)::(24,.val (.int .i64 e))::z) S (bodyQ gt F181.res λr S'=>r=.ret (.tup [])/\G S'):=λh o1 o2 z =>
  mrgLast2_wp (gt:=gt) hm ih (P:=P++(A++V)) (B:=B) (D:=D) (Q:=Q) (by simp only[lA];omega) (by simp only[lA];omega) (by simp only[lA];omega) hk2 (λx hx=>hn x (List.mem_append_right _ hx)) sB sD (by rw[hx];simp only[lA];omega) (by rw[hlen]at hl;simp only[lA];omega) (by simpa only[aA] using hA) λS' Z2 p2 s2 hA2 =>
   fin S' (A++V) Z2 (List.Perm.refl _) (by rcases h with rfl | rfl;exact sV;rw[List.append_nil];exact sA) p2 s2 (by simpa only[aA] using hA2)
 conv=>whnf
 refine goW ?_;by_cases c1:(a:Int)<(s:Int)
 ·rw[dT c1];refine goW ?_;by_cases c2:(s:Int)<(mid:Int)
  ·rw[dT c2];have b1:A≠[]:=λh=>by rw[h]at h2;simp at h2;omega
   have b2:V≠[]:=λh=>by rw[h]at h1;simp at h1;omega
   refine goW ?_;refine call_rule (by rfl) (hm _ _ _ _ _ (ih S xs P A V (B++(D++Q)) a s mid (hk1 b1 b2) h0 h2 h1 b1 b2 (λx hx=>hn x (List.mem_append_left _ hx)) sA sV hx hl hA) ?_);rintro r S2 ⟨rfl,Z1,z1,z2,z3⟩;have next:=next S2 Z1 [] z1 z2 z3
   refine goK ?_
   with_unfolding_all exact next
  ·rw[dF c2];have triv:=triv (.inr (nL (by omega)));refine goK ?_
   with_unfolding_all exact triv _ _ _
 ·rw[dF c1];have triv:=triv (.inl (nL (by omega)));refine goK ?_
  with_unfolding_all exact triv _ _ _
end

section
variable {gt:GT}{C:CallT}{R:List Rs}{ty:TypeId}{t b:Nat}
theorem mrgRot_wp (hm:MonoC C){f:FuncId}{cs:List AV}{n k:Nat}{cz:Nat->Nat->Int}(ih:MrgC C R ty t b n (.fn f [] cs) cz k)(hr:RotC C R ty t b (.fn f [] cs)){S:St}{xs:List AV}{P A V B D Q:List Nat}{a m mid s e c:Nat}{z:Env}{G:St->Prop}
  (h0:a=P.length) (hmm:m=P.length+A.length+B.length) (h1:mid=P.length+A.length+V.length) (h2:s=P.length+A.length) (h3:e=mid+B.length) (h4:c=e+D.length) (hk1:A≠[]->V≠[]->A.length+V.length<=k) (hk2:B≠[]->D≠[]->B.length+D.length<=k)
  (hn:∀x∈(A++V)++(B++D),x<n) (sA:Srt (leZ cz) A) (sV:Srt (leZ cz) V) (sB:Srt (leZ cz) B) (sD:Srt (leZ cz) D)
  (hx:xs.length=(P++(A++(B++(V++(D++Q))))).length) (hl:(P++(A++(B++(V++(D++Q))))).length<1152921504606846976) (hA:ArS S R ty t b (P++(A++(B++(V++(D++Q))))))
  (fin:∀S' Z1 Z2,Z1.Perm (A++V)->Srt (leZ cz) Z1->Z2.Perm (B++D)->Srt (leZ cz) Z2->ArS S' R ty t b (P++((Z1++Z2)++Q))->G S') :
  wpD gt C F181.body.rt.rt.rt.rt.rt.rt.rt.rt.rt ((0,.val (slA t xs.length xs))::(1,.val (.int .i64 a))::(2,.val (.int .i64 m))::(3,.val (.int .i64 c))::(4,.val (.fn f [] cs))::(18,.val (.int .i64 mid))::(20,.val (.int .i64 s))::(24,.val (.int .i64 e))::z) S (bodyQ gt F181.res λr S'=>r=.ret (.tup [])/\G S'):=by
 have hlen:(P++(A++(B++(V++(D++Q))))).length=P.length+(A.length+(B.length+(V.length+(D.length+Q.length)))):=by simp only[lA]
 have hlen2:(P++(A++(V++(B++(D++Q))))).length=P.length+(A.length+(B.length+(V.length+(D.length+Q.length)))):=by simp only[lA];omega
 rw[hlen]at hx hl;have triv:(B=[]\/V=[])->∀(o:Ent) z,wpD gt C F181.body.rt.rt.rt.rt.rt.rt.rt.rt.rt.rt ((0,.val (slA t xs.length xs))::(1,.val (.int .i64 a))::(2,o)::(3,.val (.int .i64 c))::(4,.val (.fn f [] cs))::(18,.val (.int .i64 mid))::(20,.val (.int .i64 s))::(24,.val (.int .i64 e))::z) S (bodyQ gt F181.res λr S'=>r=.ret (.tup [])/\G S'):=λh o z =>
  mrgFirst2_wp (gt:=gt) hm ih (P:=P) (A:=A) (V:=V) (B:=B) (D:=D) (Q:=Q) h0 h1 h2 h3 h4 hk1 hk2 hn sA sV sB sD (by rw[hlen2];exact hx) (by rw[hlen2];exact hl) (by rcases h with rfl | rfl<;>exact hA) fin
 have next:∀(S:St) z,ArS S R ty t b (P++(A++(V++(B++(D++Q)))))->wpD gt C F181.body.rt.rt.rt.rt.rt.rt.rt.rt.rt.rt ((0,.val (slA t xs.length xs))::(1,.val (.int .i64 a))::(3,.val (.int .i64 c))::(4,.val (.fn f [] cs))::(18,.val (.int .i64 mid))::(20,.val (.int .i64 s))::(24,.val (.int .i64 e))::z) S (bodyQ gt F181.res λr S'=>r=.ret (.tup [])/\G S'):=λS z hA =>
  mrgFirst_wp (gt:=gt) hm ih (P:=P) (A:=A) (V:=V) (B:=B) (D:=D) (Q:=Q) h0 h1 h2 h3 h4 hk1 hk2 hn sA sV sB sD (by rw[hlen2];exact hx) (by rw[hlen2];exact hl) hA fin
 conv=>whnf
 refine goW ?_;by_cases c1:(s:Int)<(m:Int)
 ·rw[dT c1];refine goW ?_;by_cases c2:(m:Int)<(e:Int)
  ·rw[dT c2];have b1:B≠[]:=λh=>by rw[h]at hmm;simp at hmm;omega
   have b2:V≠[]:=λh=>by rw[h]at h1;simp at h1;omega
   refine goW ?_;refine call_rule (by rfl) (hm _ _ _ _ _ (hr S xs (P++A) B V (D++Q) s m e (by rw[lA];exact h2) (by rw[lA];exact hmm) (by rw[lA];omega) b1 b2 (by simp only[lA];omega) (by simp only[lA];omega) (by rw[aA];exact hA)) ?_);rintro r S2 ⟨rfl,hA2⟩;rw[aA]at hA2;have next:=next S2 [] hA2
   refine goK ?_
   with_unfolding_all exact next
  ·rw[dF c2];have triv:=triv (.inr (nL (by omega)));refine goK ?_
   with_unfolding_all exact triv _ _
 ·rw[dF c1];have triv:=triv (.inl (nL (by omega)));refine goK ?_
  with_unfolding_all exact triv _ _
abbrev E_sr (t:Nat)(xs:List AV)(a m c:Nat)(g:AV)(mid n s r p:Nat):Env:=[(0,.val (slA t xs.length xs)),(1,.val (.int .i64 a)),(2,.val (.int .i64 m)),(3,.val (.int .i64 c)),(4,.val g),(18,.val (.int .i64 mid)),(19,.val (.int .i64 n)),(20,.val (.int .i64 s)),(21,.val (.int .i64 r)),(22,.val (.int .i64 p))]
theorem mrgSeek_wp (hm:MonoC C){f:FuncId}{cs:List AV}{n k:Nat}{cz:Nat->Nat->Int}(hz:Cz cz)(hc:CmpC C f cs R ty t b n cz)(ih:MrgC C R ty t b n (.fn f [] cs) cz k)(hr:RotC C R ty t b (.fn f [] cs)){S:St}{xs:List AV}{P X Y Q:List Nat}{a m c mid nn lo hi hN l0 h0:Nat}{z:Env}{G:St->Prop}
  (ha:a=P.length) (hmm:m=P.length+X.length) (hcc:c=P.length+X.length+Y.length) (hmid:mid=P.length+hN) (hnn:nn=mid+m) (hlo:lo=P.length+l0) (hhi:hi=P.length+h0)
  (rng:(l0=0/\h0=X.length/\X.length<=hN/\hN<=Y.length)\/(l0+Y.length=hN/\h0=hN/\hN<=X.length)) (hk1:hN<=k) (hk2:X.length+Y.length<=k+hN)
  (hn:∀x∈X++Y,x<n) (sX:Srt (leZ cz) X) (sY:Srt (leZ cz) Y) (hN0:0<hN)
  (hx:xs.length=(P++(X++(Y++Q))).length) (hl:(P++(X++(Y++Q))).length<1152921504606846976) (hA:ArS S R ty t b (P++(X++(Y++Q))))
  (fin:∀S' Z,Z.Perm (X++Y)->Srt (leZ cz) Z->ArS S' R ty t b (P++(Z++Q))->G S') :
  wpD gt C F181.body.rt.rt.rt.rt.rt.rt ((0,.val (slA t xs.length xs))::(1,.val (.int .i64 a))::(2,.val (.int .i64 m))::(3,.val (.int .i64 c))::(4,.val (.fn f [] cs))::(18,.val (.int .i64 mid))::(19,.val (.int .i64 nn))::(20,.val (.int .i64 lo))::(21,.val (.int .i64 hi))::z) S (bodyQ gt F181.res λr S'=>r=.ret (.tup [])/\G S'):=by
 have hlen:(P++(X++(Y++Q))).length=P.length+(X.length+(Y.length+Q.length)):=by simp only[lA]
 have hl':=hl;rw[hlen]at hl';have wp:wr .i64 ((nn:Int)-1)=((nn-1:Nat):Int):=by rw[wr64 (by omega) (by omega)];omega
 conv=>whnf
 refine goW ?_;rw[wp];refine loop_rule hm (α:=Nat×Nat) (λq env S'=>env=E_sr t xs a m c (.fn f [] cs) mid nn (P.length+q.1) (P.length+q.2) (nn-1)/\l0<=q.1/\q.1<=q.2/\q.2<=h0/\S'=S/\(q.1=l0\/∃x y,X[q.1-1]? = some x/\Y[hN-q.1]? = some y/\leZ cz x y)/\(q.2=h0\/∃x y,X[q.2]? = some x/\Y[hN-1-q.2]? = some y/\leZ cz y x)) (λq=>q.2-q.1) ?_
  (a:=(l0,h0)) ⟨by rw[hlo,hhi],nR _,by simp only;omega,nR _,rfl,.inl rfl,.inl rfl⟩
 rintro⟨i,j⟩ env S' ⟨rfl,i0,hij0,j0,rfl,q1,q2⟩;simp only at i0 hij0 j0 q1 q2;refine goW ?_;by_cases hij:((P.length+i:Nat):Int)<((P.length+j:Nat):Int)
 ·rw[dT hij];obtain⟨r,hr⟩:∃r,r=(i+j) / 2:=⟨_,rfl⟩
  have hri:i<=r:=by omega
  have hrj:r<j:=by omega
  have hrX:r<X.length:=by omega
  have hrY:hN-1-r<Y.length:=by omega
  have g0:(P++(X++(Y++Q)))[P.length+r]? = some X[r]:=by
   rw[List.getElem?_append_right (by omega),show P.length+r-P.length=r by omega,List.getElem?_append_left hrX];exact gE hrX
  have g1:(P++(X++(Y++Q)))[P.length+X.length+(hN-1-r)]? = some Y[hN-1-r]:=by
   rw[<-aA,List.getElem?_append_right (by rw[lA];omega),show P.length+X.length+(hN-1-r)-(P++X).length=hN-1-r by rw[lA];omega,List.getElem?_append_left hrY];exact gE hrY
  have hcall:=hc S' _ Y[hN-1-r] X[r] hA (hn _ (List.mem_append_right _ (List.getElem_mem hrY))) (hn _ (List.mem_append_left _ (List.getElem_mem hrX)));have e0:X[r]? = some X[r]:=gE hrX;have e1:Y[hN-1-r]? = some Y[hN-1-r]:=gE hrY;generalize Y[hN-1-r]=y at g1 hcall e1;generalize X[r]=x at g0 hcall e0;have w1:wr .i64 (((nn-1:Nat):Int)-((P.length+r:Nat):Int))=((P.length+X.length+(hN-1-r):Nat):Int):=by rw[wr64 (by omega) (by omega)];omega
  refine goW ?_;rw[midW (by omega),show (P.length+i+(P.length+j)) / 2=P.length+r by omega];refine goW ?_;rw[w1];refine step_ruleDO rfl rfl (sx_ia (k:=P.length+X.length+(hN-1-r)) rfl rfl (by omega)) (goW ?_);refine step_ruleDO rfl rfl (sx_ldEl (agg:=false) rfl (hA.els hx) (ints_get g1) rfl) (goW ?_);refine step_ruleDO rfl rfl (sx_ia (k:=P.length+r) rfl rfl (by omega)) (goW ?_);refine step_ruleDO rfl rfl (sx_ldEl (agg:=false) rfl (hA.els hx) (ints_get g0) rfl) (goW ?_);refine call_ruleD (by rfl) (hm _ _ _ _ _ hcall ?_);rintro r' S3 ⟨rfl,rfl⟩;refine goW ?_;by_cases hlt:cz y x<0
  ·rw[dT hlt];refine goW ?_;refine⟨(i,r),⟨rfl,i0,hri,by simp only;omega,rfl,q1,.inr ⟨x,y,e0,e1,hz.asy hlt⟩⟩,by simp only;omega⟩
  ·rw[dF hlt];refine goW ?_;refine⟨(r+1,j),⟨?_,by simp only;omega,by simp only;omega,j0,rfl,.inr ⟨x,y,e0,?_,by unfold leZ;omega⟩,q2⟩,by simp only;omega⟩
   ·rw[wrNat (by omega)]
    try rfl
   ·rw[show hN-(r+1)=hN-1-r by omega];exact e1
 ·rw[dF hij];obtain rfl:i=j:=by omega
  have iX:i<=X.length:=by omega
  have tY:hN-i<=Y.length:=by omega
  have tA:(X.take i).length=i:=by rw[lT];omega
  have tB:(X.drop i).length=X.length-i:=lD;have tV:(Y.take (hN-i)).length=hN-i:=by rw[lT];omega
  have tD:(Y.drop (hN-i)).length=Y.length-(hN-i):=lD;have hX:X.take i++X.drop i=X:=tkD _ _;have hY:Y.take (hN-i)++Y.drop (hN-i)=Y:=tkD _ _;have sX':=sX;have sY':=sY;rw[<-hX]at sX';rw[<-hY]at sY';obtain⟨sA,sB,sAB⟩:=srt_app.1 sX';obtain⟨sV,sD,sVD⟩:=srt_app.1 sY';have sAD:∀u∈X.take i,∀v∈Y.drop (hN-i),leZ cz u v:=ends_le (le:=leZ cz) (λh h'=>hz.tr h h') sA sD (λu v e1 e2=>by
   rw[tA]at e1;rcases q1 with q1 | ⟨x,y,f1,f2,f3⟩
   ·exfalso;rcases rng with rng | rng
    ·rw[show i=0 by omega]at e1;simp at e1
    ·rw[List.getElem?_eq_none (show (Y.drop (hN-i)).length<=0 by rw[tD];omega)]at e2;cases e2
   ·rw[List.getElem?_drop,Nat.add_zero,f2]at e2;have:i≠0:=λh=>by rw[h]at e1;simp at e1
    rw[List.getElem?_take_of_lt (by omega),f1]at e1;cases e1;cases e2;exact f3) (λa=>hz.rf a)
  have sVB:∀u∈Y.take (hN-i),∀v∈X.drop i,leZ cz u v:=ends_le (le:=leZ cz) (λh h'=>hz.tr h h') sV sB (λu v e1 e2=>by
   rw[tV]at e1;rcases q2 with q2 | ⟨x,y,f1,f2,f3⟩
   ·exfalso;rcases rng with rng | rng
    ·rw[List.getElem?_eq_none (show (X.drop i).length<=0 by rw[tB];omega)]at e2;cases e2
    ·rw[show hN-i=0 by omega]at e1;simp at e1
   ·rw[List.getElem?_drop,Nat.add_zero,f1]at e2;have:hN-i≠0:=λh=>by rw[h]at e1;simp at e1
    rw[List.getElem?_take_of_lt (by omega),show hN-i-1=hN-1-i by omega,f2]at e1;cases e1;cases e2;exact f3) (λa=>hz.rf a)
  have mo:∀S' Z1 Z2,Z1.Perm (X.take i++Y.take (hN-i))->Srt (leZ cz) Z1->Z2.Perm (X.drop i++Y.drop (hN-i))->Srt (leZ cz) Z2->ArS S' R ty t b (P++((Z1++Z2)++Q))->G S':=λS' Z1 Z2 p1 z1 p2 z2 hA=>by
   obtain⟨m1,m2⟩:=merge_ok z1 z2 p1 p2 sAB sAD sVB sVD;rw[hX,hY]at m2;exact fin S' _ m2 m1 hA
  have hn':∀x∈(X.take i++Y.take (hN-i))++(X.drop i++Y.drop (hN-i)),x<n:=λx hx=>hn x (by
   rw[aA,List.mem_append,List.mem_append,List.mem_append]at hx;rw[List.mem_append];rcases hx with h | h | h | h
   ·exact .inl (List.mem_of_mem_take h)
   ·exact .inr (List.mem_of_mem_take h)
   ·exact .inl (List.mem_of_mem_drop h)
   ·exact .inr (List.mem_of_mem_drop h))
  have hl2:P++(X++(Y++Q))=P++(X.take i++(X.drop i++(Y.take (hN-i)++(Y.drop (hN-i)++Q)))):=by
   rw[<-aA (X.take i),hX,<-aA (Y.take (hN-i)),hY]
  rw[hl2]at hx hl hA;have w1:wr .i64 ((nn:Int)-((P.length+i:Nat):Int))=((mid+(X.length-i):Nat):Int):=by rw[wr64 (by omega) (by omega)];omega
  have next:=mrgRot_wp (gt:=gt) (z:=[]) hm ih hr (a:=a) (m:=m) (mid:=mid) (s:=P.length+i) (e:=mid+(X.length-i)) (c:=c) ha (by rw[tA,tB];omega) (by rw[tA,tV];omega) (by rw[tA]) (by rw[tB]) (by rw[tD];omega) (λ_ _=>by rw[tA,tV];omega) (λ_ _=>by rw[tB,tD];omega) hn' sA sV sB sD hx hl hA mo
  clear mo hn' sAD sVB sAB sVD
  conv=>whnf
  refine sI (by rfl) ?_
  conv=>whnf
  refine sI (by rfl) ?_
  conv=>whnf
  refine sI (by rfl) ?_
  conv=>whnf
  refine sI (by rfl) ?_
  conv=>whnf
  rw[w1];refine goK ?_
  with_unfolding_all exact next
end

section
variable {gt:GT}{C:CallT}{R:List Rs}{ty:TypeId}{t b:Nat}
theorem mrg3_wp (hm:MonoC C){f:FuncId}{cs:List AV}{n k:Nat}{cz:Nat->Nat->Int}(hz:Cz cz)(hc:CmpC C f cs R ty t b n cz)(ih:MrgC C R ty t b n (.fn f [] cs) cz k)(hr:RotC C R ty t b (.fn f [] cs)){S:St}{xs:List AV}{P X Y Q:List Nat}{a m c:Nat}
  (ha:a=P.length) (hmm:m=P.length+X.length) (hcc:c=P.length+X.length+Y.length) (hX:2<=X.length) (hY:2<=Y.length) (hk:X.length+Y.length<=k+1) (hn:∀x∈X++Y,x<n) (sX:Srt (leZ cz) X) (sY:Srt (leZ cz) Y)
  (hx:xs.length=(P++(X++(Y++Q))).length) (hl:(P++(X++(Y++Q))).length<1152921504606846976) (hA:ArS S R ty t b (P++(X++(Y++Q)))) :
  wpF gt C F181 [slA t xs.length xs,.int .i64 a,.int .i64 m,.int .i64 c,.fn f [] cs] S λr S'=>r=.ret (.tup [])/\∃Z,Z.Perm (X++Y)/\Srt (leZ cz) Z/\ArS S' R ty t b (P++(Z++Q)):=by
 have hlen:(P++(X++(Y++Q))).length=P.length+(X.length+(Y.length+Q.length)):=by simp only[lA]
 have hl':=hl;rw[hlen]at hl';obtain⟨hN,hNe⟩:∃h,h=(X.length+Y.length) / 2:=⟨_,rfl⟩
 have w1:wr .i64 ((m:Int)-(a:Int))=(X.length:Int):=by rw[wr64 (by omega) (by omega)];omega
 have w2:wr .i64 ((c:Int)-(m:Int))=(Y.length:Int):=by rw[wr64 (by omega) (by omega)];omega
 have w3:wr .i64 (((P.length+hN:Nat):Int)+(m:Int))=((P.length+hN+m:Nat):Int):=by rw[wr64 (by omega) (by omega)];omega
 have next:∀(l0 h0 lo hi:Nat) (z:Env),lo=P.length+l0->hi=P.length+h0->((l0=0/\h0=X.length/\X.length<=hN/\hN<=Y.length)\/(l0+Y.length=hN/\h0=hN/\hN<=X.length))->_:=λl0 h0 lo hi z e1 e2 e3 =>
  mrgSeek_wp (gt:=gt) (z:=z) (G:=λS'=>∃Z,Z.Perm (X++Y)/\Srt (leZ cz) Z/\ArS S' R ty t b (P++(Z++Q))) hm hz hc ih hr (a:=a) (m:=m) (c:=c) (mid:=P.length+hN) (nn:=P.length+hN+m) ha hmm hcc rfl rfl e1 e2 e3 (by omega) (by omega) hn sX sY (by omega) hx hl hA (λS' Z p s h=>⟨Z,p,s,h⟩)
 refine⟨rfl,?_⟩;refine goW ?_;rw[w1,eqI_false (show ¬(X.length:Int)=1 by omega)];refine goW ?_;rw[w2,eqI_false (show ¬(Y.length:Int)=1 by omega)];refine goW ?_;rw[midW (by omega),show (a+c) / 2=P.length+hN by omega];refine goW ?_;rw[w3];by_cases hc1:(m:Int) > ((P.length+hN:Nat):Int)
 ·rw[dT hc1];have next:=next (hN-Y.length) hN (P.length+hN+m-c) (P.length+hN) [] (by omega) rfl (.inr (by omega))
  have w4:wr .i64 (((P.length+hN+m:Nat):Int)-(c:Int))=((P.length+hN+m-c:Nat):Int):=by rw[wr64 (by omega) (by omega)];omega
  refine goJ ?_;refine goJ ?_;rw[w4]
  with_unfolding_all exact next
 ·rw[dF hc1];have next:=next 0 X.length a m [] (by omega) hmm (.inl (by omega))
  refine goJ ?_;refine goJ ?_
  with_unfolding_all exact next
end

section
variable {gt:GT}{C:CallT}{R:List Rs}{ty:TypeId}{t b:Nat}
theorem mrgC (hm:MonoC C)(hI:∀us S Q,wpF gt C F181 us S Q->C 181 us S Q){f:FuncId}{cs:List AV}{n:Nat}{cz:Nat->Nat->Int}(hz:Cz cz)(hc:CmpC C f cs R ty t b n cz)(hr:RotC C R ty t b (.fn f [] cs)):∀k,MrgC C R ty t b n (.fn f [] cs) cz k
 | 0=>λS xs P X Y Q a m c hk _ _ _ hX hY=>by
  exfalso;have:=List.length_pos_iff.2 hX;omega
 | k+1=>λS xs P X Y Q a m c hk ha hmm hcc hX hY hn sX sY hx hl hA=>hI _ _ _ (by
  have lX:=List.length_pos_iff.2 hX;have lY:=List.length_pos_iff.2 hY;by_cases c1:X.length=1
  ·obtain⟨x,rfl⟩:=List.length_eq_one_iff.1 c1;have:=mrg1_wp (gt:=gt) hm hz hc (P:=P) (Y:=Y) (Q:=Q) (x:=x) (S:=S) (xs:=xs) (λy hy=>hn y (List.mem_append_right _ hy)) (hn x (by simp)) sY hx hl hA;rw[ha,hmm,hcc];exact this
  ·by_cases c2:Y.length=1
   ·obtain⟨y,rfl⟩:=List.length_eq_one_iff.1 c2;have:=mrg2_wp (gt:=gt) hm hz hc (P:=P) (Y:=X) (Q:=Q) (x:=y) (S:=S) (xs:=xs) (λx hx=>hn x (List.mem_append_left _ hx)) (hn y (by simp)) sX (by omega) hx hl hA;rw[ha,hmm,hcc];exact this
   ·exact mrg3_wp hm hz hc (mrgC hm hI hz hc hr k) hr ha hmm hcc (by omega) (by omega) hk hn sX sY hx hl hA)
def StbC (C:CallT)(R:List Rs)(ty:TypeId)(t b n:Nat)(g:AV)(cz:Nat->Nat->Int)(h:FuncId)(ar:List AV->List AV):Prop :=
 ∀(S:St) (xs:List AV) (L:List Nat),(∀x∈L,x<n)->xs.length=L.length->L.length<1152921504606846976->ArS S R ty t b L ->
  C h (ar xs) S λr S'=>r=.ret (.tup [])/\∃Z,Z.Perm L/\Srt (leZ cz) Z/\ArS S' R ty t b Z
abbrev E_s1 (t:Nat)(xs:List AV)(g:AV)(bs a c:Nat):Env:=[(0,.val (slA t xs.length xs)),(1,.val (.int .i64 xs.length)),(2,.val g),(6,.val (.int .i64 bs)),(7,.val (.int .i64 a)),(8,.val (.int .i64 c))]
abbrev E_s2 (t:Nat)(xs:List AV)(g:AV)(bs:Nat):Env:=[(0,.val (slA t xs.length xs)),(1,.val (.int .i64 xs.length)),(2,.val g),(6,.val (.int .i64 bs))]
theorem take_drop2 (u:List Nat)(k:Nat):u.take k++((u.drop k).take k++u.drop (2*k))=u:=by
 rw[show u.drop (2*k)=(u.drop k).drop k by rw[List.drop_drop];congr 1;omega,tkD,tkD]
theorem stb_wp (hm:MonoC C){f:FuncId}{cs:List AV}{n:Nat}{cz:Nat->Nat->Int}(hi:InsC C R ty t b n (.fn f [] cs) cz)(hg:∀k,MrgC C R ty t b n (.fn f [] cs) cz k){S:St}{xs:List AV}{L:List Nat}(hn:∀x∈L,x<n)(hx:xs.length=L.length)(hl:L.length<1152921504606846976)(hA:ArS S R ty t b L) :
  wpF gt C F150 [slA t xs.length xs,.int .i64 xs.length,.fn f [] cs] S λr S'=>r=.ret (.tup [])/\∃Z,Z.Perm L/\Srt (leZ cz) Z/\ArS S' R ty t b Z:=by
 refine⟨rfl,?_⟩;refine goW ?_;refine loop_rule hm (α:=List Nat×List Nat) (λq env S'=>env=E_s1 t xs (.fn f [] cs) 20 q.1.length (q.1.length+20)/\(q.1++q.2).Perm L/\Blk (leZ cz) 20 q.1/\q.1.length % 20=0/\ArS S' R ty t b (q.1++q.2)) (λq=>q.2.length) ?_ (a:=([],L)) ⟨rfl,List.Perm.refl _,Blk.nil,rfl,hA⟩;rintro⟨d,u⟩ env S1 ⟨rfl,hp,hb,hd,hA⟩;simp only at hp hb hd hA;have pl:=hp.length_eq;rw[lA]at pl;have hun:∀x∈u,x<n:=λx hx=>hn x (hp.mem_iff.1 (List.mem_append_right _ hx));refine goW ?_;by_cases c1:((d.length+20:Nat):Int)<=(xs.length:Int)
 ·rw[dT c1];have ht:(u.take 20).length=20:=by rw[lT];omega
  have hA':ArS S1 R ty t b (d++(u.take 20++u.drop 20)):=by rw[tkD];exact hA
  refine goW ?_;refine call_rule (by rfl) (hm _ _ _ _ _ (hi S1 xs d (u.take 20) (u.drop 20) d.length (d.length+20) rfl (by rw[ht]) (λx hx=>hun x (List.mem_of_mem_take hx)) (by rw[tkD,lA];omega) (by rw[tkD,lA];omega) hA') ?_);rintro r S2 ⟨rfl,Z,z1,z2,z3⟩;have zl:=z1.length_eq;rw[ht]at zl;refine goW ?_;refine⟨(d++Z,u.drop 20),⟨?_,?_,hb.app (by omega) hd (Blk.of z2),by rw[lA,zl];omega,by rw[aA];exact z3⟩,by simp only[lD];omega⟩
  ·simp only[E_s1];rw[show wr .i64 (((d.length+20:Nat):Int)+((20:Nat):Int))=((d.length+20+20:Nat):Int) by rw[wr64 (by omega) (by omega)];omega,lA,zl]
  ·refine List.Perm.trans ?_ hp;simp only;rw[aA];refine List.Perm.append_left d ?_;have:=List.Perm.append_right (u.drop 20) z1;rw[tkD]at this;exact this
 ·rw[dF c1];have hA':ArS S1 R ty t b (d++(u++[])):=by rw[List.append_nil];exact hA
  refine goW ?_;refine call_rule (by rfl) (hm _ _ _ _ _ (hi S1 xs d u [] d.length xs.length rfl (by omega) hun (by rw[List.append_nil,lA];omega) (by rw[List.append_nil,lA];omega) hA') ?_);rintro r S2 ⟨rfl,Z,z1,z2,z3⟩;have zl:=z1.length_eq;refine goW ?_;have hp2:(d++Z).Perm L:=(List.Perm.append_left d z1).trans hp;have hb2:Blk (leZ cz) 20 (d++Z):=hb.app (by omega) hd (Blk.of z2);rw[List.append_nil]at z3;generalize d++Z=D at hp2 hb2 z3
  clear hp hb hd hA hA' pl hun c1 z1 z2 zl
  refine loop_rule hm (α:=List Nat×Nat) (λq env S'=>env=E_s2 t xs (.fn f [] cs) q.2/\q.1.Perm L/\0<q.2/\q.2<2305843009213693952/\Blk (leZ cz) q.2 q.1/\ArS S' R ty t b q.1) (λq=>xs.length-q.2) ?_ (a:=(D,20)) ⟨rfl,hp2,by simp only;omega,by simp only;omega,hb2,z3⟩
  clear hp2 hb2 z3 D Z
  rintro⟨D,bs⟩ env S3 ⟨rfl,hp,b0,b1,hb,hA⟩;simp only at hp b0 b1 hb hA;refine goW ?_;by_cases c2:(bs:Int)<(xs.length:Int)
  ·rw[dT c2];refine goW ?_;have w2:wr .i64 (2*(bs:Int))=((2*bs:Nat):Int):=by rw[wr64 (by omega) (by omega)];omega
   rw[w2];refine loop_rule hm (α:=List Nat×List Nat) (λq env S'=>env=E_s1 t xs (.fn f [] cs) bs q.1.length (q.1.length+2*bs)/\(q.1++q.2).Perm L/\Blk (leZ cz) (2*bs) q.1/\q.1.length % (2*bs)=0/\Blk (leZ cz) bs q.2/\ArS S' R ty t b (q.1++q.2)) (λq=>q.2.length) ?_ (a:=([],D)) ⟨by simp[E_s1],hp,Blk.nil,by simp,hb,hA⟩
   clear hp hb hA
   rintro⟨d,u⟩ env S4 ⟨rfl,hp,hd,hdl,hb,hA⟩;simp only at hp hd hdl hb hA;have pl:=hp.length_eq;rw[lA]at pl;have hun:∀x∈u,x<n:=λx hx=>hn x (hp.mem_iff.1 (List.mem_append_right _ hx));refine goW ?_;by_cases c3:((d.length+2*bs:Nat):Int)<=(xs.length:Int)
   ·rw[dT c3];have ht:(u.take bs).length=bs:=by rw[lT];omega
    have ht2:((u.drop bs).take bs).length=bs:=by rw[lT,lD];omega
    have h3:=take_drop2 u bs;have hA':ArS S4 R ty t b (d++(u.take bs++((u.drop bs).take bs++u.drop (2*bs)))):=by rw[h3];exact hA
    rw[<-h3]at hb;have b1':Blk (leZ cz) bs (u.take bs):=Blk.take hb;have b2':=Blk.drop hb b0 (by rw[ht];exact Nat.mod_self _);have b3':=Blk.drop b2' b0 (by rw[ht2];exact Nat.mod_self _);have w3:wr .i64 ((d.length:Int)+(bs:Int))=((d.length+bs:Nat):Int):=by rw[wr64 (by omega) (by omega)];omega
    have w4:wr .i64 (((d.length+2*bs:Nat):Int)+((2*bs:Nat):Int))=((d.length+2*bs+2*bs:Nat):Int):=by rw[wr64 (by omega) (by omega)];omega
    have hcall:=hg (bs+bs) S4 xs d (u.take bs) ((u.drop bs).take bs) (u.drop (2*bs)) d.length (d.length+bs) (d.length+2*bs) (by rw[ht,ht2];omega) rfl (by rw[ht]) (by rw[ht,ht2];omega) (λh=>by rw[h]at ht;simp at ht;omega) (λh=>by rw[h]at ht2;simp at ht2;omega) (λx hx=>hun x (by rw[<-h3];simp only[List.mem_append]at hx ⊢;rcases hx with h | h;exact .inl h;exact .inr (.inl h))) (b1'.srt (by omega)) (b2'.take.srt (by omega)) (by rw[h3,lA];omega) (by rw[h3,lA];omega) hA';refine goW ?_;rw[w3];refine call_rule (by rfl) (hm _ _ _ _ _ hcall ?_);rintro r S5 ⟨rfl,Z,z1,z2,z3⟩;have zl:=z1.length_eq;rw[lA,ht,ht2]at zl;refine goW ?_;rw[w2,w4];refine⟨(d++Z,u.drop (2*bs)),⟨?_,?_,hd.app (by omega) hdl (Blk.of z2),?_,b3',by rw[aA];exact z3⟩,by simp only[lD];omega⟩
    ·rw[lA,zl];simp only[E_s1];rw[show d.length+(bs+bs)=d.length+2*bs by omega]
    ·refine List.Perm.trans ?_ hp;simp only;rw[aA];refine List.Perm.append_left d ?_;have:=List.Perm.append_right (u.drop (2*bs)) z1;rw[aA,h3]at this;exact this
    ·simp only;rw[lA,zl,show bs+bs=2*bs by omega,Nat.add_mod_right];exact hdl
   ·rw[dF c3];have w3:wr .i64 ((d.length:Int)+(bs:Int))=((d.length+bs:Nat):Int):=by rw[wr64 (by omega) (by omega)];omega
    have w4:wr .i64 ((bs:Int)*2)=((bs*2:Nat):Int):=by rw[wr64 (by omega) (by omega)];omega
    refine goW ?_;rw[w3];by_cases c4:((d.length+bs:Nat):Int)<(xs.length:Int)
    ·rw[dT c4];have ht:(u.take bs).length=bs:=by rw[lT];omega
     have ht2:(u.drop bs).length=u.length-bs:=lD;have h3:u.take bs++(u.drop bs++[])=u:=by rw[List.append_nil,tkD]
     have hA':ArS S4 R ty t b (d++(u.take bs++(u.drop bs++[]))):=by rw[h3];exact hA
     rw[<-tkD bs u]at hb;have b1':Blk (leZ cz) bs (u.take bs):=Blk.take hb;have b2':=Blk.drop hb b0 (by rw[ht];exact Nat.mod_self _);have hcall:=hg u.length S4 xs d (u.take bs) (u.drop bs) [] d.length (d.length+bs) xs.length (by rw[ht,ht2];omega) rfl (by rw[ht]) (by rw[ht,ht2];omega) (λh=>by rw[h]at ht;simp at ht;omega) (λh=>by rw[h]at ht2;simp at ht2;omega) (λx hx=>hun x (by rw[tkD]at hx;exact hx)) (b1'.srt (by omega)) (b2'.srt (by omega)) (by rw[h3,lA];omega) (by rw[h3,lA];omega) hA';refine goW ?_;refine call_rule (by rfl) (hm _ _ _ _ _ hcall ?_);rintro r S5 ⟨rfl,Z,z1,z2,z3⟩;rw[tkD]at z1;rw[List.append_nil]at z3;refine goW ?_;rw[w4];refine⟨(d++Z,2*bs),⟨by simp only[E_s2];rw[Nat.mul_comm],(List.Perm.append_left d z1).trans hp,by simp only;omega,by simp only;omega,hd.app (by omega) hdl (Blk.of z2),z3⟩,by simp only;omega⟩
    ·rw[dF c4];refine goW ?_;rw[w4];refine⟨(d++u,2*bs),⟨by simp only[E_s2];rw[Nat.mul_comm],hp,by simp only;omega,by simp only;omega,hd.app (by omega) hdl (Blk.of (hb.srt (by omega))),hA⟩,by simp only;omega⟩
  ·rw[dF c2];refine goW ?_;have pl:=hp.length_eq;exact⟨_,rfl,rfl,D,hp,hb.srt (by omega),hA⟩
end
end Go.Dn

namespace Go.Dn
open Go Go.Proofs.C1
theorem cmpB_cons (a b:UInt8)(x y:List UInt8):cmpB (a::x) (b::y)=if a.toNat=b.toNat then cmpB x y else if a.toNat<b.toNat then -1 else 1:=by
 rw[cmpB];by_cases h:a.toNat=b.toNat
 ·rw[if_pos h,h,Nat.beq_refl];rfl
 ·have:Nat.beq a.toNat b.toNat=false:=by
   cases q:Nat.beq a.toNat b.toNat with
   | false=>rfl
   | true=>exact absurd (bE q) h
  rw[if_neg h,this];by_cases k:a.toNat<b.toNat
  ·rw[if_pos k,show Nat.blt a.toNat b.toNat=true from Nat.ble_eq_true_of_le k];rfl
  ·have:Nat.blt a.toNat b.toNat=false:=by
    cases q:Nat.blt a.toNat b.toNat with
    | false=>rfl
    | true=>exact absurd (bL q) k
   rw[if_neg k,this];rfl
theorem cmpB_self:∀a:List UInt8,cmpB a a=0
 | []=>rfl
 | a::x=>by rw[cmpB_cons,if_pos rfl];exact cmpB_self x
theorem cmpB_anti:∀a b:List UInt8,cmpB b a=- cmpB a b
 | [],[]=>rfl
 | [],_::_=>rfl
 | _::_,[]=>rfl
 | a::x,b::y=>by
  rw[cmpB_cons,cmpB_cons];by_cases h:a.toNat=b.toNat
  ·rw[if_pos h,if_pos h.symm];exact cmpB_anti x y
  ·rw[if_neg h,if_neg (λe=>h e.symm)];by_cases k:a.toNat<b.toNat
   ·rw[if_pos k,if_neg (by omega)];rfl
   ·rw[if_neg k,if_pos (by omega)]
theorem cmpB_zero:∀{a b:List UInt8},cmpB a b=0->a=b
 | [],[],_=>rfl
 | [],_::_,h=>by rw[show cmpB [] (_::_)=-1 from rfl]at h;exact absurd h (by decide)
 | _::_,[],h=>by rw[show cmpB (_::_) []=1 from rfl]at h;exact absurd h (by decide)
 | a::x,b::y,h=>by
  rw[cmpB_cons]at h;by_cases e:a.toNat=b.toNat
  ·rw[if_pos e]at h;rw[cmpB_zero h,UInt8.toNat_inj.1 e]
  ·rw[if_neg e]at h;by_cases k:a.toNat<b.toNat
   ·rw[if_pos k]at h;cases h
   ·rw[if_neg k]at h;cases h
theorem cmpB_tr:∀{a b c:List UInt8},0<=cmpB b a->0<=cmpB c b->0<=cmpB c a
 | [],_,[],_,_=>by decide
 | [],_,_::_,_,_=>by rw[show cmpB (_::_) []=1 from rfl];decide
 | _::_,[],_,h,_=>absurd h (by rw[show cmpB [] (_::_)=-1 from rfl];decide)
 | _::_,_::_,[],_,h=>absurd h (by rw[show cmpB [] (_::_)=-1 from rfl];decide)
 | a::x,b::y,c::z,h,k=>by
  rw[cmpB_cons]at h k ⊢;by_cases e:b.toNat=a.toNat
  ·rw[if_pos e]at h;by_cases e2:c.toNat=b.toNat
   ·rw[if_pos e2]at k;rw[if_pos (by omega)];exact cmpB_tr h k
   ·rw[if_neg e2]at k;rw[if_neg (by omega)];by_cases l:c.toNat<b.toNat
    ·rw[if_pos l]at k;exact absurd k (by decide)
    ·rw[if_neg (by omega)];decide
  ·rw[if_neg e]at h;by_cases l:b.toNat<a.toNat
   ·rw[if_pos l]at h;exact absurd h (by decide)
   ·by_cases e2:c.toNat=b.toNat
    ·rw[if_neg (by omega),if_neg (by omega)];decide
    ·rw[if_neg e2]at k;by_cases l2:c.toNat<b.toNat
     ·rw[if_pos l2]at k;exact absurd k (by decide)
     ·rw[if_neg (by omega),if_neg (by omega)];decide
def czK (keys:List (List UInt8))(i j:Nat):Int:=cmpB (keys.getD i []) (keys.getD j [])
theorem czK_cz (keys:List (List UInt8)):Cz (czK keys) where
 rf a:=by unfold czK;rw[cmpB_self];exact Int.le_refl 0
 tr h k:=cmpB_tr h k
 asy {a b} h:=by
  unfold czK at h ⊢;rw[cmpB_anti];omega
def ordK (keys:List (List UInt8)):List Nat:=(List.range keys.length).mergeSort λi j=>decide (0<=czK keys j i)
theorem ordK_perm (keys:List (List UInt8)):(ordK keys).Perm (List.range keys.length):=List.mergeSort_perm _ _
theorem ordK_srt (keys:List (List UInt8)):Srt (leZ (czK keys)) (ordK keys):=by
 have:=List.pairwise_mergeSort (le:=λi j=>decide (0<=czK keys j i)) (λa b c h k=>by
  simp only[decide_eq_true_eq]at h k ⊢;exact(czK_cz keys).tr h k) (λa b=>by
  simp only[Bool.or_eq_true,decide_eq_true_eq];rcases Int.lt_or_le (czK keys b a) 0 with q | q
  ·exact .inr ((czK_cz keys).asy q)
  ·exact .inl q) (List.range keys.length)
 exact this.imp λh=>of_decide_eq_true h
theorem ordK_len (keys:List (List UInt8)):(ordK keys).length=keys.length:=by rw[(ordK_perm keys).length_eq,List.length_range]
theorem ordK_lt {keys:List (List UInt8)}{i:Nat}(h:i∈ordK keys):i<keys.length:=List.mem_range.1 ((ordK_perm keys).mem_iff.1 h)
theorem ordK_uniq {keys:List (List UInt8)}(hd:keys.Nodup){Z:List Nat}(hp:Z.Perm (List.range keys.length))(hs:Srt (leZ (czK keys)) Z):Z=ordK keys:=by
 refine List.Perm.eq_of_pairwise (λa b ha hb h k=>?_) hs (ordK_srt keys) (hp.trans (ordK_perm keys).symm);have la:=List.mem_range.1 (hp.mem_iff.1 ha);have lb:=ordK_lt hb;unfold leZ czK at h k;rw[cmpB_anti]at h;have:=cmpB_zero (a:=keys.getD a []) (b:=keys.getD b []) (by omega);rw[List.getD_eq_getElem?_getD,List.getD_eq_getElem?_getD,gE la,gE lb]at this;exact(List.getElem_inj hd).1 this
end Go.Dn

namespace Go.Dn
open Go Go.Proofs.C1
set_option maxRecDepth 100000
attribute [local irreducible] afterS keepE
theorem sx_ldBx {gt:GT}{d:Option Nat}{env:Env}{S:St}{R:List Rs}(h:Hs S R)(i:Nat){id:Nat}{ty:TypeId}{v:AV}(hi:R[i]? = some (.bx id ty [v]))(hn:notAgg v=true){a:DOpd}(ha:loc env a=some (.hp id 0)) :
  stepO gt d env S (.ld false 1 a)=.done (putV d v env) S:=by
 have hb:=(h.ok i _ hi).2;have:ldL gt env S false 1 (.hp id 0)=some v:=by
  simp only[ldL,ldC,hb,cut];show mkv false [v]=some v;simp only[mkv,hn,cond_true,cond_false]
 simp only[stepO,ha,this,SR.val]
section
variable {gt:GT}{C:CallT}
theorem cmpS_wp {a c:List UInt8}:wpF gt C F145 [.str a,.str c] St.init (Ret (.int .i64 (cmpB a c))):=by
 refine⟨rfl,?_⟩;refine goW ?_;exact⟨_,rfl,Ret.sta trivial⟩
theorem compare_wp (hm:MonoC C)(h:∀a c,PF C 145 [.str a,.str c] (.int .i64 (cmpB a c))){a c:List UInt8}:wpF gt C F104 [.str a,.str c] St.init (Ret (.int .i64 (cmpB a c))):=by
 refine⟨rfl,?_⟩;refine goW ?_;refine call_pf hm (by rfl) (h a c) (goW ?_);exact⟨_,rfl,Ret.sta trivial⟩
abbrev R_k (keys:List (List UInt8)):List Rs:=[.bx 0 22 [.sl 1 stat (strs keys)]]
theorem ord1_wp (hm:MonoC C)(h:∀a c,PF C 104 [.str a,.str c] (.int .i64 (cmpB a c))){keys:List (List UInt8)}{S:St}{ty:TypeId}{t b:Nat}{l:List Nat}{i j:Nat}(hA:ArS S (R_k keys) ty t b l)(hi:i<keys.length)(hj:j<keys.length) :
  wpF gt C F113 [.int .i64 i,.int .i64 j,.ptr 0 0] S λr S'=>r=.ret (.int .i64 (czK keys i j))/\S'=S:=by
 have ei:keys.getD i []=keys[i]:=by rw[List.getD_eq_getElem?_getD,gE hi];rfl
 have ej:keys.getD j []=keys[j]:=by rw[List.getD_eq_getElem?_getD,gE hj];rfl
 unfold czK;rw[ei,ej];have si:=strs_at hi;have sj:=strs_at hj;generalize keys[i]=x at si;generalize keys[j]=y at sj;have li:i<(strs keys).length:=by rw[strs_length];exact hi
 have lj:j<(strs keys).length:=by rw[strs_length];exact hj
 refine⟨rfl,?_⟩;refine goW ?_;refine step_ruleDO rfl rfl (sx_ldBx hA 0 rfl rfl rfl) (goW ?_);refine step_ruleDO rfl rfl (sx_ia (k:=i) rfl rfl li) (goW ?_);refine step_ruleDO rfl rfl (sx_ldEl (agg:=false) rfl rfl si rfl) (goW ?_);refine step_ruleDO rfl rfl (sx_ldBx hA 0 rfl rfl rfl) (goW ?_);refine step_ruleDO rfl rfl (sx_ia (k:=j) rfl rfl lj) (goW ?_);refine step_ruleDO rfl rfl (sx_ldEl (agg:=false) rfl rfl sj rfl) (goW ?_);refine call_pfD hm (by rfl) (h x y) (goW ?_);exact⟨_,rfl,rfl,rfl⟩
def SstC (C:CallT)(R:List Rs)(ty:TypeId)(t b n:Nat)(g:AV)(cz:Nat->Nat->Int):Prop :=
 StbC C R ty t b n g cz 112 λxs=>[slA t xs.length xs,g]
theorem sst_wp (hm:MonoC C){R:List Rs}{ty:TypeId}{t b n:Nat}{f:FuncId}{cs:List AV}{cz:Nat->Nat->Int}(h:StbC C R ty t b n (.fn f [] cs) cz 150 λxs=>[slA t xs.length xs,.int .i64 xs.length,.fn f [] cs]){S:St}{xs:List AV}{L:List Nat}(hn:∀x∈L,x<n)(hx:xs.length=L.length)(hl:L.length<1152921504606846976)(hA:ArS S R ty t b L) :
  wpF gt C F112 [slA t xs.length xs,.fn f [] cs] S λr S'=>r=.ret (.tup [])/\∃Z,Z.Perm L/\Srt (leZ cz) Z/\ArS S' R ty t b Z:=by
 refine⟨rfl,?_⟩;refine goW ?_;refine call_rule (by rfl) (hm _ _ _ _ _ (h S xs L hn hx hl hA) ?_);rintro r S2 ⟨rfl,Z,z1,z2,z3⟩;refine goW ?_;exact⟨_,rfl,rfl,Z,z1,z2,z3⟩
abbrev slN:AV:=.sl 1 ⟨none,0,some 0,false⟩ []
theorem ins0_wp {S:St}{g:AV}:wpF gt C F180 [slN,.int .i64 0,.int .i64 0,g] S λr S'=>r=.ret (.tup [])/\S'=S:=by
 refine⟨rfl,?_⟩;refine goW ?_;refine⟨1,?_⟩;refine goW ?_;exact⟨_,rfl,rfl,rfl⟩
theorem stb0_wp (hm:MonoC C){g:AV}(h:∀S,C 180 [slN,.int .i64 0,.int .i64 0,g] S λr S'=>r=.ret (.tup [])/\S'=S){S:St}:wpF gt C F150 [slN,.int .i64 0,g] S λr S'=>r=.ret (.tup [])/\S'=S:=by
 refine⟨rfl,?_⟩;refine goW ?_;refine⟨1,?_⟩;refine goW ?_;refine call_rule (by rfl) (hm _ _ _ _ _ (h S) ?_);rintro r S2 ⟨rfl,rfl⟩;refine goW ?_;refine⟨1,?_⟩;refine goW ?_;exact⟨_,rfl,rfl,rfl⟩
theorem sst0_wp (hm:MonoC C){g:AV}(h:∀S,C 150 [slN,.int .i64 0,g] S λr S'=>r=.ret (.tup [])/\S'=S){S:St}:wpF gt C F112 [slN,g] S λr S'=>r=.ret (.tup [])/\S'=S:=by
 refine⟨rfl,?_⟩;refine goW ?_;refine call_rule (by rfl) (hm _ _ _ _ _ (h S) ?_);rintro r S2 ⟨rfl,rfl⟩;refine goW ?_;exact⟨_,rfl,rfl,rfl⟩
theorem order0_wp (hm:MonoC C)(h:∀S,C 112 [slN,.fn 113 [] [.ptr 0 0]] S λr S'=>r=.ret (.tup [])/\S'=S):wpF gt C F64 [.sl 1 stat []] St.init (Ret (.sl 1 stat [])):=by
 refine⟨rfl,?_⟩;refine goW ?_;refine⟨1,?_⟩;refine goW ?_;refine call_rule (by rfl) (hm _ _ _ _ _ (h _) ?_);rintro r S2 ⟨rfl,rfl⟩;refine goW ?_;exact⟨_,rfl,_,rfl,by simp only[Rdo];exact⟨trivial,_,_,false,[],rfl,rfl,by simp only[Rdos]⟩⟩
abbrev E_or (t n i:Nat)(xs:List AV):Env:=[(1,.val (.ptr 0 0)),(3,.val (slA t n xs)),(9,.val (.int .i64 n)),(10,.val (.int .i64 i))]
theorem ints_zero (n:Nat):List.replicate n (.int .i64 0)=ints (List.replicate n 0):=by simp[ints]
theorem order_wp (hm:MonoC C){keys:List (List UInt8)}(h:∀t b,SstC C (R_k keys) 3 t b keys.length (.fn 113 [] [.ptr 0 0]) (czK keys))(hd:keys.Nodup)(h0:0<keys.length)(hl:keys.length<1099511627776) :
  wpF gt C F64 [.sl 1 stat (strs keys)] St.init (Ret (.sl 1 stat (ints (ordK keys)))):=by
 have sl:(strs keys).length=keys.length:=strs_length keys;refine⟨rfl,?_⟩;refine goW ?_;have hb:=Hs.init.newBox 22 [.sl 1 stat (strs keys)];refine r_mks (n:=keys.length) (c:=keys.length) hb trivial (by rw[<-sl];rfl) (by rw[<-sl];rfl) (nR _) h0 (by omega) (by omega) rfl ?_;intro t b S hS;have hA:ArS S (R_k keys) 3 t b (List.replicate keys.length 0):=by
  unfold ArS;rw[<-ints_zero,List.append_nil];exact hS
 clear hS hb
 have hxl:(List.replicate keys.length (AV.int .i64 0)).length=keys.length:=List.length_replicate;generalize List.replicate keys.length (AV.int .i64 0)=xs at hxl;refine goW ?_;rw[hxl];refine loop_rule hm (α:=Nat) (λi env S'=>env=E_or t keys.length i xs/\i<=keys.length/\ArS S' (R_k keys) 3 t b (List.range i++List.replicate (keys.length-i) 0)) (λi=>keys.length-i) ?_ (a:=0) ⟨rfl,Nat.zero_le _,by simpa using hA⟩
 clear hA
 rintro i env S' ⟨rfl,hi,hA⟩;refine goW ?_;by_cases c:(i:Int)<(keys.length:Int)
 ·rw[dT c];have hset:(List.range i++List.replicate (keys.length-i) 0).set i i=List.range (i+1)++List.replicate (keys.length-(i+1)) 0:=by
   obtain⟨m,hm⟩:∃m,keys.length-i=m+1:=⟨keys.length-i-1,by omega⟩
   rw[hm,List.replicate_succ,set_mid (by rw[List.length_range]),show keys.length-(i+1)=m by omega,List.range_succ,aA];rfl
  have hll:xs.length=(List.range i++List.replicate (keys.length-i) 0).length:=by rw[hxl,lA,List.length_range,List.length_replicate];omega
  refine goW ?_;refine step_ruleO (sx_ia (k:=i) rfl rfl (by omega)) (goW ?_);refine st_runP (hA.st hll rfl rfl (by omega)) (by trivial) ?_;intro S2 hA2;rw[hset]at hA2;refine goW ?_;refine⟨i+1,⟨?_,by omega,hA2⟩,by omega⟩;rw[wrNat (by omega)]
  try rfl
 ·rw[dF c];obtain rfl:i=keys.length:=by omega
  rw[Nat.sub_self,List.replicate_zero,List.append_nil]at hA;have hcall:=h t b S' xs (List.range keys.length) (λx hx=>List.mem_range.1 hx) (by rw[hxl,List.length_range]) (by rw[List.length_range];omega) hA;simp only[hxl]at hcall;refine goW ?_;refine call_rule (by rfl) (hm _ _ _ _ _ hcall ?_);rintro r S2 ⟨rfl,Z,z1,z2,z3⟩;rw[ordK_uniq hd z1 z2]at z3;refine goW ?_;exact⟨_,rfl,_,rfl,by simp only[Rdo];exact⟨trivial,_,_,false,_,rfl,z3.els (by rw[hxl,ordK_len]),Stas.rdos _ (by
   generalize ordK keys=l
   induction l with
   | nil=>trivial
   | cons a r ih=>exact⟨trivial,ih⟩)⟩⟩
end

def zPT:PT:=.mk 0 [] [] []
mutual
def sortT:PT->PT
 |.mk k s keys kids=>if k=7/\keys.length=kids.length then .mk k s ((ordK keys).map λi=>keys.getD i []) ((ordK keys).map λi=>(sortTs kids).getD i zPT) else .mk k s keys (sortTs kids)
def sortTs:List PT->List PT
 | []=>[]
 | t::r=>sortT t::sortTs r
end
theorem sortTs_map:∀l:List PT,sortTs l=l.map sortT
 | []=>rfl
 | t::r=>by simp only[sortTs,List.map_cons,sortTs_map r]
mutual
def PT.nd:PT->Prop
 |.mk k _ keys kids=>(k=7->keys.length=kids.length->keys.Nodup/\keys.length<1099511627776)/\PT.nds kids
def PT.nds:List PT->Prop
 | []=>True
 | t::r=>t.nd/\PT.nds r
end
theorem PT.nds_get:∀{l:List PT} {i:Nat} (h:i<l.length),PT.nds l->(l[i]).nd
 | a::r,0,_,h=>by simp only[PT.nds]at h;exact h.1
 | a::r,i+1,hi,h=>by simp only[PT.nds]at h;exact PT.nds_get (l:=r) (i:=i) (by simpa using hi) h.2
def DC.lft:DC->DC |.seq a _=>a | c=>c
section
variable {gt:GT}{C:CallT}
abbrev E_so1 (k:Int)(s:List UInt8)(keys:List (List UInt8))(o1 o2:SI)(all kids:List PT)(i:Int):Env :=
 [(2,.box zT),(3,.box [.int .i64 k,.str s,.sl 1 o1 (strs keys),.sl 4 o2 (encTs kids)]),(32,.val (.sl 4 stat (encTs all))),(33,.val (.int .i64 (encTs all).length)),(34,.val (.int .i64 i))]
abbrev E_so2 (t:PT)(k:Int)(s:List UInt8)(keys:List (List UInt8))(o1 o2:SI)(kids:List PT)(L:List Nat)(i:Int):Env :=
 [(1,.box (encT t).cells),(2,.box zT),(3,.box [.int .i64 k,.str s,.sl 1 o1 (strs keys),.sl 4 o2 (encTs kids)]),(49,.val (.sl 1 stat (ints L))),(50,.val (.int .i64 (ints L).length)),(51,.val (.int .i64 i))]
theorem sorted1_wp (hm:MonoC C){k:Int}{s:List UInt8}{keys:List (List UInt8)}{kids:List PT}(ih:∀u,u.n<(PT.mk k s keys kids).n->u.ok->u.nd->PF C 34 [encT u] (encT (sortT u)))(hk:(PT.mk k s keys kids).ok)(hd:PT.nds kids){S:St}(hR:Hs S [.gr 9 ⟨none,0,some 0,true⟩ [],.gr 25 ⟨none,0,some 0,true⟩ []]){z:Env} :
  wpD gt C (.seq F34.body.rt.rt.lft.rt F34.body.rt.rt.rt) ((1,.box (encT (.mk k s keys kids)).cells)::(2,.box zT)::(3,.box [.int .i64 k,.str s,.sl 1 ⟨none,0,some 0,true⟩ [],.sl 4 ⟨none,0,some 0,true⟩ []])::(24,.val (.bool true))::z) S (bodyQ gt F34.res (Ret (encT (.mk k s keys (sortTs kids))))):=by
 simp only[PT.ok]at hk;obtain⟨hk1,hk2,hk3⟩:=hk
 conv=>whnf
 refine goW ?_;refine r_app hR 0 rfl trivial rfl rfl rfl (by rw[strs_length];simpa using hk1) (by rw[strs_length];simp;omega) (by decide) (by decide) (cells_strs keys) ?_;intro o1 S1 hR;refine goW ?_;have hlen:=encTs_len kids;refine loop_rule hm (α:=Nat) (λi env S'=>i<=kids.length/\∃o2,Hs S' [.gr 9 o1 (strs keys),.gr 25 o2 (encTs ((sortTs kids).take i))]/\env=E_so1 k s keys o1 o2 kids ((sortTs kids).take i) i) (λi=>kids.length-i) ?_ (a:=0) ⟨Nat.zero_le _,_,hR,rfl⟩;rintro i env S' ⟨hi,o2,hR,rfl⟩;have hsl:(sortTs kids).length=kids.length:=by rw[sortTs_map,List.length_map]
 refine goW ?_;by_cases h:(i:Int)<(encTs kids).length
 ·rw[dT h];refine goW ?_;have hik:i<kids.length:=by omega
  have his:i<(sortTs kids).length:=by omega
  have hge:(sortTs kids)[i]=sortT kids[i]:=by simp only[sortTs_map,List.getElem_map]
  refine step_ruleO (sx_ia (k:=i) rfl rfl (by omega)) (goW ?_);refine step_ruleO (sx_ldEl (agg:=true) rfl rfl (encTs_get hik) (rdT _)) ?_;have ihk:=ih _ (kid_lt hik) (PT.oks_get hk3 (gE hik)) (PT.nds_get hik hd);have hok:=encT_ok (sortT kids[i]);have hts:encTs ((sortTs kids).take (i+1))=encTs ((sortTs kids).take i)++[encT (sortT kids[i])]:=by rw[tS his,encTs_app,hge];rfl
  obtain⟨ka,sa,xa,ya,he⟩:=encT_agg kids[i];obtain⟨kb,sb,xb,yb,he2⟩:=encT_agg (sortT kids[i]);rw[he2]at ihk hts hok;rw[he]at ihk ⊢;refine goW ?_;refine call_pfD hm (by rfl) ihk (goW ?_);have hlt:(encTs ((sortTs kids).take i)).length=i:=by rw[encTs_len,lT];omega
  refine r_appD hR 1 rfl (by trivial) rfl rfl rfl (by rw[hlt];simp;omega) (by rw[hlt];simp;omega) (by decide) (by decide) hok ?_;intro o3 S3 hR;refine goW ?_;refine⟨i+1,⟨by omega,o3,by rw[hts];exact hR,?_⟩,by omega⟩;rw[wrNat (by omega)];simp only[E_so1,hts]
  try rfl
 ·rw[dF h];refine goW ?_;have:(sortTs kids).take i=sortTs kids:=List.take_of_length_le (by omega);rw[this]at hR ⊢;exact⟨_,rfl,_,rfl,rdo_T hR (i:=0) (j:=1) rfl rfl⟩
theorem sorted2_wp (hm:MonoC C)(ho:∀keys:List (List UInt8),keys.Nodup->keys.length<1099511627776->PF C 64 [.sl 1 stat (strs keys)] (.sl 1 stat (ints (ordK keys)))){k:Int}{s:List UInt8}{keys:List (List UInt8)}{kids:List PT}(ih:∀u,u.n<(PT.mk k s keys kids).n->u.ok->u.nd->PF C 34 [encT u] (encT (sortT u)))(hk:(PT.mk k s keys kids).ok)(hd:PT.nds kids)(hdk:keys.Nodup)(hl:keys.length=kids.length)(hl2:keys.length<1099511627776){S:St}(hR:Hs S [.gr 9 ⟨none,0,some 0,true⟩ [],.gr 25 ⟨none,0,some 0,true⟩ []]){z:Env} :
  wpD gt C (.seq F34.body.rt.rt.lft.rt F34.body.rt.rt.rt) ((1,.box (encT (.mk k s keys kids)).cells)::(2,.box zT)::(3,.box [.int .i64 k,.str s,.sl 1 ⟨none,0,some 0,true⟩ [],.sl 4 ⟨none,0,some 0,true⟩ []])::(24,.val (.bool false))::z) S (bodyQ gt F34.res (Ret (encT (.mk k s ((ordK keys).map λi=>keys.getD i []) ((ordK keys).map λi=>(sortTs kids).getD i zPT))))):=by
 simp only[PT.ok]at hk;obtain⟨hk1,hk2,hk3⟩:=hk;have ho:=ho keys hdk hl2;have hL:=@ordK_lt keys;have hLl:=ordK_len keys;generalize ordK keys=L at ho hL hLl;have hil:=ints_len L;have hsl:(sortTs kids).length=kids.length:=by rw[sortTs_map,List.length_map]
 have l1:=strs_length keys;have l2:=encTs_len kids
 conv=>whnf
 refine goW ?_;refine call_pf hm (by rfl) ho (goW ?_);refine loop_rule hm (α:=Nat) (λi env S'=>i<=L.length/\∃o1 o2,Hs S' [.gr 9 o1 (strs ((L.take i).map λi=>keys.getD i [])),.gr 25 o2 (encTs ((L.take i).map λi=>(sortTs kids).getD i zPT))]/\env=E_so2 (.mk k s keys kids) k s ((L.take i).map λi=>keys.getD i []) o1 o2 ((L.take i).map λi=>(sortTs kids).getD i zPT) L i) (λi=>L.length-i) ?_ (a:=0) ⟨Nat.zero_le _,_,_,hR,rfl⟩;rintro i env S' ⟨hi,o1,o2,hR,rfl⟩;refine goW ?_;by_cases h:(i:Int)<(ints L).length
 ·rw[dT h];refine goW ?_;have hik:i<L.length:=by omega
  have hj:=hL (List.getElem_mem hik);have hgi:(ints L)[i]? = some (.int .i64 (L[i]:Nat)):=ints_get (gE hik);have htk:L.take (i+1)=L.take i++[L[i]]:=tS hik;generalize L[i]=j at hj hgi htk;have hjk:j<kids.length:=by omega
  have g1:keys.getD j []=keys[j]:=by rw[List.getD_eq_getElem?_getD,gE hj];rfl
  have g2:(sortTs kids).getD j zPT=sortT kids[j]:=by rw[List.getD_eq_getElem?_getD,gE (by omega)];simp only[sortTs_map,List.getElem_map,Option.getD_some]
  have hks:strs ((L.take (i+1)).map λi=>keys.getD i [])=strs ((L.take i).map λi=>keys.getD i [])++[.str keys[j]]:=by rw[htk,List.map_append,List.map_cons,List.map_nil,g1];simp[strs]
  have hts:encTs ((L.take (i+1)).map λi=>(sortTs kids).getD i zPT)=encTs ((L.take i).map λi=>(sortTs kids).getD i zPT)++[encT (sortT kids[j])]:=by rw[htk,List.map_append,List.map_cons,List.map_nil,g2,encTs_app];rfl
  have sj:=strs_at hj;generalize keys[j]=kj at hks sj;have ihk:=ih _ (kid_lt hjk) (PT.oks_get hk3 (gE hjk)) (PT.nds_get hjk hd);have hok:=encT_ok (sortT kids[j]);have hej:=encTs_get hjk;obtain⟨ka,sa,xa,ya,he⟩:=encT_agg kids[j];obtain⟨kb,sb,xb,yb,he2⟩:=encT_agg (sortT kids[j]);rw[he2]at ihk hts hok;have hrd:=rdT kids[j];rw[he]at ihk hej hrd;refine step_ruleO (sx_ia (k:=i) rfl rfl (by omega)) (goW ?_);refine step_ruleO (sx_ldEl (agg:=false) rfl rfl hgi rfl) (goW ?_);refine step_ruleDO rfl rfl (sx_ia (k:=j) rfl rfl (by omega)) (goW ?_);refine step_ruleDO rfl rfl (sx_ldEl (agg:=false) rfl rfl sj rfl) (goW ?_);have hlt1:(strs ((L.take i).map λi=>keys.getD i [])).length=i:=by rw[strs_length,List.length_map,lT];omega
  refine r_appD hR 0 rfl (by trivial) rfl rfl rfl (by rw[hlt1];simp;omega) (by rw[hlt1];simp;omega) (by decide) (by decide) (by rfl) ?_;intro o3 S3 hR;refine goW ?_;refine step_ruleDO rfl rfl (sx_ia (k:=j) rfl rfl (by omega)) (goW ?_);refine step_ruleDO rfl rfl (sx_ldEl (agg:=true) rfl rfl hej hrd) (goW ?_);refine call_pfD hm (by rfl) ihk (goW ?_);have hlt:(encTs ((L.take i).map λi=>(sortTs kids).getD i zPT)).length=i:=by rw[encTs_len,List.length_map,lT];omega
  refine r_appD hR 1 rfl (by trivial) rfl rfl rfl (by rw[hlt];simp;omega) (by rw[hlt];simp;omega) (by decide) (by decide) hok ?_;intro o4 S4 hR;refine goW ?_;refine⟨i+1,⟨by omega,o3,o4,by rw[hts,hks];exact hR,?_⟩,by omega⟩;rw[wrNat (by omega)];simp only[E_so2,hts,hks]
  try rfl
 ·rw[dF h];refine goW ?_;have:L.take i=L:=List.take_of_length_le (by omega);rw[this]at hR ⊢;exact⟨_,rfl,_,rfl,rdo_T hR (i:=0) (j:=1) rfl rfl⟩
theorem sorted_wp (hm:MonoC C)(ho:∀keys:List (List UInt8),keys.Nodup->keys.length<1099511627776->PF C 64 [.sl 1 stat (strs keys)] (.sl 1 stat (ints (ordK keys)))){t:PT}(ih:∀u,u.n<t.n->u.ok->u.nd->PF C 34 [encT u] (encT (sortT u)))(hk:t.ok)(hd:t.nd):wpF gt C F34 [encT t] St.init (Ret (encT (sortT t))):=by
 obtain⟨k,s,keys,kids⟩:=t;simp only[PT.nd]at hd;obtain⟨hd1,hd2⟩:=hd;have hR:=(Hs.init.addNil 9 true).addNil 25 true;have l1:=strs_length keys;have l2:=encTs_len kids;have r1:=sorted1_wp (gt:=gt) (z:=[]) hm ih hk hd2 hR;have no:¬(k=7/\keys.length=kids.length)->sortT (.mk k s keys kids)=.mk k s keys (sortTs kids):=λh=>by rw[sortT,if_neg h]
 refine⟨rfl,?_⟩;refine goW ?_;by_cases c1:k=7
 ·rw[neI_false c1];refine goW ?_;by_cases c2:keys.length=kids.length
  ·rw[neI_false (show ((strs keys).length:Int)=((encTs kids).length:Int) by omega)];rw[show sortT (.mk k s keys kids)=_ by rw[sortT,if_pos ⟨c1,c2⟩]];have r2:=sorted2_wp (gt:=gt) (z:=[]) hm ho ih hk hd2 (hd1 c1 c2).1 c2 (hd1 c1 c2).2 hR
   clear r1 no
   with_unfolding_all exact r2
  ·rw[neI_true (show ¬((strs keys).length:Int)=((encTs kids).length:Int) by omega),no (λh=>c2 h.2)]
   with_unfolding_all exact r1
 ·rw[neI_true c1,no (λh=>c1 h.1)];refine goJ ?_
  with_unfolding_all exact r1
end
end Go.Dn

namespace Go.Dn
open Go Go.Proofs.C1
theorem unlike_nodup:∀{seen keys:List (List UInt8)},unlikeB seen keys=true->keys.Nodup/\∀x∈keys,x ∉ seen
 | _,[],_=>⟨List.nodup_nil,by simp⟩
 | seen,s::r,h=>by
  simp only[unlikeB]at h;by_cases hs:s∈seen
  ·rw[if_pos hs]at h;cases h
  ·rw[if_neg hs,bA]at h;obtain⟨a,b⟩:=unlike_nodup h.2;refine⟨List.nodup_cons.2 ⟨λhm=>b s hm (by simp),a⟩,λx hx=>?_⟩;rcases List.mem_cons.1 hx with rfl | hx
   ·exact hs
   ·exact λhm=>b x hx (by simp[hm])
theorem formed_parts {k:Int}{s:List UInt8}{keys:List (List UInt8)}{kids:List PT}(h:formedB (.mk k s keys kids)=true) :
  formedBs kids=true/\(k=7->s=[]/\keys.length=kids.length/\keys.Nodup)/\(k≠7->keys=[])/\(k≠7->k≠6->kids=[])/\(k=6->s=[]):=by
 simp only[formedB,bA]at h;obtain⟨h1,h2⟩:=h;refine⟨h1,?_⟩;unfold shapeB at h2;by_cases k1:k=1
 ·rw[if_pos k1]at h2;simp only[bA,decide_eq_true_eq]at h2;exact⟨λe=>by omega,λ_=>nL h2.1.1,λ_ _=>nL h2.1.2,λe=>by omega⟩
 rw[if_neg k1]at h2;by_cases k2:k=2
 ·rw[if_pos k2]at h2;simp only[bA,decide_eq_true_eq]at h2;exact⟨λe=>by omega,λ_=>nL h2.1.1,λ_ _=>nL h2.1.2,λe=>by omega⟩
 rw[if_neg k2]at h2;by_cases k3:k=3
 ·rw[if_pos k3,bA,bA]at h2;have a:=of_decide_eq_true h2.1.1;have b:=of_decide_eq_true h2.1.2;exact⟨λe=>by omega,λ_=>nL a,λ_ _=>nL b,λe=>by omega⟩
 rw[if_neg k3]at h2;by_cases k4:k=4
 ·rw[if_pos k4,bA,bA]at h2;have a:=of_decide_eq_true h2.1.1;have b:=of_decide_eq_true h2.1.2;exact⟨λe=>by omega,λ_=>nL a,λ_ _=>nL b,λe=>by omega⟩
 rw[if_neg k4]at h2;by_cases k5:k=5
 ·rw[if_pos k5,bA,bA]at h2;have a:=of_decide_eq_true h2.1.1;have b:=of_decide_eq_true h2.1.2;exact⟨λe=>by omega,λ_=>nL a,λ_ _=>nL b,λe=>by omega⟩
 rw[if_neg k5]at h2;by_cases k6:k=6
 ·rw[if_pos k6,bA]at h2;have b:=of_decide_eq_true h2.2;exact⟨λe=>by omega,λ_=>nL b,λ_ e=>absurd k6 e,λ_=>beqB_iff.1 h2.1⟩
 rw[if_neg k6]at h2;by_cases k7:k=7
 ·rw[if_pos k7,bA,bA]at h2;have a:=of_decide_eq_true h2.2.1;exact⟨λ_=>⟨beqB_iff.1 h2.1,a,(unlike_nodup h2.2.2).1⟩,λe=>absurd k7 e,λe=>absurd k7 e,λe=>absurd e k6⟩
 ·rw[if_neg k7]at h2;cases h2
theorem formedBs_get:∀{l:List PT} {i:Nat} (h:i<l.length),formedBs l=true->formedB l[i]=true
 | a::r,0,_,h=>by simp only[formedBs,bA]at h;exact h.1
 | a::r,i+1,hi,h=>by simp only[formedBs,bA]at h;exact formedBs_get (l:=r) (i:=i) (by simpa using hi) h.2
theorem PT.len_nsq:∀l:List PT,l.length<=PT.ns l
 | []=>nR _
 | t::r=>by have:=PT.n_pos t;have:=PT.len_nsq r;simp only[PT.ns,lC];omega
mutual
theorem formed_nd:∀{t:PT},formedB t=true->t.n<1099511627776->t.nd
 |.mk k s keys kids,h,hn=>by
  obtain⟨h1,h2,_⟩:=formed_parts h;simp only[PT.n]at hn;simp only[PT.nd];have:=PT.len_nsq kids;exact⟨λhk hl=>⟨(h2 hk).2.2,by omega⟩,formed_nds h1 (by omega)⟩
theorem formed_nds:∀{l:List PT},formedBs l=true->PT.ns l<1099511627776->PT.nds l
 | [],_,_=>trivial
 | t::r,h,hn=>by
  simp only[formedBs,bA]at h;simp only[PT.ns]at hn;simp only[PT.nds];exact⟨formed_nd h.1 (by omega),formed_nds h.2 (by omega)⟩
end
theorem perm_of_sub {α:Type}:∀{l l':List α},l.Nodup->(∀x∈l,x∈l')->l'.length<=l.length->l.Perm l'
 | [],l',_,_,h=>by rw[nL (Nat.le_zero.1 h)]
 | a::r,l',hd,hs,h=>by
  obtain⟨s,t,rfl⟩:=List.append_of_mem (hs a (by simp));have hd:=List.nodup_cons.1 hd;have ih:=perm_of_sub (l:=r) (l':=s++t) hd.2 (λx hx=>by
   have:=hs x (by simp[hx]);rw[List.mem_append,List.mem_cons]at this;rw[List.mem_append];rcases this with q | rfl | q
   ·exact .inl q
   ·exact absurd hx hd.1
   ·exact .inr q) (by simp only[lA,lC]at h ⊢;omega)
  exact(List.Perm.cons a ih).trans List.perm_middle.symm
theorem map_pair {α β γ:Type}{f f':α->β}{g g':α->γ}:∀{l l':List α},l.map f=l'.map f'->l.map g=l'.map g'->(l.map λx=>(f x,g x))=l'.map λx=>(f' x,g' x)
 | [],[],_,_=>rfl
 | a::r,b::q,h,k=>by
  simp only[List.map_cons,List.cons.injEq]at h k ⊢;exact⟨by rw[h.1,k.1],map_pair h.2 k.2⟩
 | [],b::q,h,_=>by cases h
 | a::r,[],h,_=>by cases h
theorem rec_eq {α:Type}{z:α}{keys keys':List (List UInt8)}{vals vals':List α}(hd:keys.Nodup)(hd':keys'.Nodup) :
  (((ordK keys).map λi=>keys.getD i [])=((ordK keys').map λi=>keys'.getD i [])/\((ordK keys).map λi=>vals.getD i z)=((ordK keys').map λi=>vals'.getD i z)) ↔
  (keys.length=keys'.length/\∀i<keys.length,∃j<keys'.length,keys.getD i []=keys'.getD j []/\vals.getD i z=vals'.getD j z):=by
 have p1:=(ordK_perm keys).map λi=>(keys.getD i [],vals.getD i z)
 have p2:=(ordK_perm keys').map λi=>(keys'.getD i [],vals'.getD i z)
 constructor
 ·rintro⟨h1,h2⟩;have h:=map_pair h1 h2;rw[h]at p1;have p:=p1.symm.trans p2;have hl:=p.length_eq;simp only[List.length_map,List.length_range]at hl;refine⟨hl,λi hi=>?_⟩;have:(keys.getD i [],vals.getD i z)∈(List.range keys'.length).map λi=>(keys'.getD i [],vals'.getD i z):=p.mem_iff.1 (List.mem_map.2 ⟨i,List.mem_range.2 hi,rfl⟩);obtain⟨j,hj,e⟩:=List.mem_map.1 this;simp only[Prod.mk.injEq]at e;exact⟨j,List.mem_range.1 hj,e.1.symm,e.2.symm⟩
 ·rintro⟨hl,h⟩;have inj:∀{ks:List (List UInt8)},ks.Nodup->∀{i j:Nat},i<ks.length->j<ks.length->ks.getD i []=ks.getD j []->i=j:=λhd i j hi hj e=>by
   rw[List.getD_eq_getElem?_getD,List.getD_eq_getElem?_getD,gE hi,gE hj]at e;exact(List.getElem_inj hd).1 e
  have nd:((List.range keys.length).map λi=>(keys.getD i [],vals.getD i z)).Nodup:=by
   rw[List.Nodup,List.pairwise_map];refine List.Pairwise.imp_of_mem ?_ (List.nodup_range (n:=keys.length));intro a b ha hb hne e;simp only[Prod.mk.injEq]at e;exact hne (inj hd (List.mem_range.1 ha) (List.mem_range.1 hb) e.1)
  have p:=perm_of_sub (l':=(List.range keys'.length).map λi=>(keys'.getD i [],vals'.getD i z)) nd (λx hx=>by
   obtain⟨i,hi,rfl⟩:=List.mem_map.1 hx;obtain⟨j,hj,e1,e2⟩:=h i (List.mem_range.1 hi);exact List.mem_map.2 ⟨j,List.mem_range.2 hj,by rw[e1,e2]⟩) (by simp[hl])
  have q:=p1.trans (p.trans p2.symm);have s1:((ordK keys).map λi=>(keys.getD i [],vals.getD i z)).Pairwise λa b=>0<=cmpB b.1 a.1:=List.pairwise_map.2 ((ordK_srt keys).imp λh=>h);have s2:((ordK keys').map λi=>(keys'.getD i [],vals'.getD i z)).Pairwise λa b=>0<=cmpB b.1 a.1:=List.pairwise_map.2 ((ordK_srt keys').imp λh=>h);have e:=List.Perm.eq_of_pairwise (λa b ha hb h k=>by
   have ha:=(q.trans p2).mem_iff.1 ha;have hb:=p2.mem_iff.1 hb;obtain⟨i,hi,rfl⟩:=List.mem_map.1 ha;obtain⟨j,hj,rfl⟩:=List.mem_map.1 hb;rw[cmpB_anti]at h;have:=inj hd' (List.mem_range.1 hi) (List.mem_range.1 hj) (cmpB_zero (by simp only at h k ⊢;omega));rw[this]) s1 s2 q
  have e1:=congrArg (List.map Prod.fst) e;have e2:=congrArg (List.map Prod.snd) e;rw[List.map_map,List.map_map]at e1 e2;exact⟨e1,e2⟩
theorem sortTs_getD {l:List PT}{i:Nat}(h:i<l.length):(sortTs l).getD i zPT=sortT l[i]:=by
 rw[List.getD_eq_getElem?_getD,gE (by rw[sortTs_map,List.length_map];exact h)];simp only[sortTs_map,List.getElem_map,Option.getD_some]
theorem getD_at {α:Type}{l:List α}{i:Nat}{z:α}(h:i<l.length):l.getD i z=l[i]:=by
 rw[List.getD_eq_getElem?_getD,gE h];rfl
theorem sort_rec {s s':List UInt8}{keys keys':List (List UInt8)}{kids kids':List PT}(hd:keys.Nodup)(hd':keys'.Nodup)(hl:keys.length=kids.length)(hl':keys'.length=kids'.length) :
  sortT (.mk 7 s keys kids)=sortT (.mk 7 s' keys' kids')↔s=s'/\kids.length=kids'.length/\∀i,(hi:i<kids.length)->∃j,∃hj:j<kids'.length,keys.getD i []=keys'.getD j []/\sortT kids[i]=sortT kids'[j]:=by
 rw[sortT,sortT,if_pos ⟨rfl,hl⟩,if_pos ⟨rfl,hl'⟩];simp only[PT.mk.injEq,true_and];rw[rec_eq hd hd',hl,hl'];refine and_congr_right λ_=>and_congr_right λ_=>forall_congr' λi=>⟨λh hi=>?_,λh hi=>?_⟩
 ·obtain⟨j,hj,e1,e2⟩:=h hi;rw[sortTs_getD hi,sortTs_getD hj]at e2;exact⟨j,hj,e1,e2⟩
 ·obtain⟨j,hj,e1,e2⟩:=h hi;refine⟨j,hj,e1,?_⟩;rw[sortTs_getD hi,sortTs_getD hj];exact e2
theorem sort_list {k k':Int}{s s':List UInt8}{kids kids':List PT}(hk:k≠7)(hk':k'≠7):sortT (.mk k s [] kids)=sortT (.mk k' s' [] kids')↔k=k'/\s=s'/\kids.map sortT=kids'.map sortT:=by
 rw[sortT,sortT,if_neg (λh=>hk h.1),if_neg (λh=>hk' h.1)];simp only[PT.mk.injEq,true_and,sortTs_map]
def sameB (a b:PT):Bool:=if formedB a && formedB b then eqT (sortT a) (sortT b) else eqT a b
end Go.Dn

namespace Go.Dn
open Go Go.Proofs.C1
set_option maxRecDepth 100000
attribute [local irreducible] afterS keepE
theorem oks_iff:∀{l:List PT},PT.oks l↔∀u∈l,u.ok
 | []=>⟨λ_ u h=>by simp at h,λ_=>trivial⟩
 | t::r=>by
  simp only[PT.oks,oks_iff (l:=r),List.mem_cons];exact⟨λh u hu=>by rcases hu with rfl | hu;exact h.1;exact h.2 u hu,λh=>⟨h t (.inl rfl),λu hu=>h u (.inr hu)⟩⟩
mutual
theorem sort_ok:∀{t:PT},t.ok->(sortT t).ok
 |.mk k s keys kids,h=>by
  simp only[PT.ok]at h;have hs:=sorts_ok h.2.2;have hsl:(sortTs kids).length=kids.length:=by rw[sortTs_map,List.length_map]
  rw[sortT];split
  ·simp only[PT.ok,List.length_map,ordK_len];refine⟨h.1,by omega,oks_iff.2 λu hu=>?_⟩;obtain⟨i,hi,rfl⟩:=List.mem_map.1 hu;have:=ordK_lt hi;rw[getD_at (by omega)];exact oks_iff.1 hs _ (List.getElem_mem _)
  ·simp only[PT.ok];exact⟨h.1,by omega,hs⟩
theorem sorts_ok:∀{l:List PT},PT.oks l->PT.oks (sortTs l)
 | [],_=>trivial
 | t::r,h=>by
  simp only[PT.oks]at h;simp only[sortTs,PT.oks];exact⟨sort_ok h.1,sorts_ok h.2⟩
end
section
variable {gt:GT}{C:CallT}
abbrev E_eql (a c:List (List UInt8))(i:Nat):Env:=[(0,.val (.sl 1 stat (strs a))),(1,.val (.sl 1 stat (strs c))),(12,.val (.int .i64 (strs a).length)),(13,.val (.int .i64 i))]
theorem slEqual_wp (hm:MonoC C){a c:List (List UInt8)}(hl:a.length<4611686018427387904):wpF gt C F100 [.sl 1 stat (strs a),.sl 1 stat (strs c)] St.init (Ret (.bool (decide (a=c)))):=by
 have no:∀{S:St},¬a=c->Ret (.bool (decide (a=c))) (.ret (.bool false)) S:=λh=>by rw[dF h];exact Ret.sta trivial
 have l1:=strs_length a;have l2:=strs_length c;refine⟨rfl,?_⟩;refine goW ?_;by_cases z:((strs a).length:Int)=(strs c).length
 case neg =>
  rw[neI_true z];refine goW ?_;exact⟨_,rfl,no λh=>by rw[h]at z;exact z rfl⟩
 rw[neI_false z];refine goW ?_;refine loop_rule hm (α:=Nat) (λi env S'=>i<=a.length/\env=E_eql a c i/\S'=St.init/\a.take i=c.take i) (λi=>a.length-i) ?_ (a:=0) ⟨Nat.zero_le _,rfl,rfl,rfl⟩;rintro i env S' ⟨hi,rfl,rfl,hp⟩;refine goW ?_;by_cases h:(i:Int)<(strs a).length
 ·rw[dT h];refine goW ?_;have hik:i<a.length:=by omega
  have hik':i<c.length:=by omega
  refine step_ruleDO rfl rfl (sx_ia (k:=i) rfl rfl (by omega)) (goW ?_);refine step_ruleDO rfl rfl (sx_ldEl (agg:=false) rfl rfl (strs_at hik) rfl) (goW ?_);refine step_ruleDO rfl rfl (sx_ia (k:=i) rfl rfl (by omega)) (goW ?_);refine step_ruleDO rfl rfl (sx_ldEl (agg:=false) rfl rfl (strs_at hik') rfl) (goW ?_);by_cases z:a[i]=c[i]
  ·rw[beqB_true z];refine goW ?_;refine⟨i+1,⟨by omega,?_,rfl,?_⟩,by omega⟩
   ·rw[wrNat (by omega)];try rfl
   ·rw[tS hik,tS hik',hp,z]
  ·rw[beqB_false z];refine goW ?_;exact⟨_,rfl,no λh=>by subst h;exact z rfl⟩
 rw[dF h];refine goW ?_;rw[List.take_of_length_le (by omega),List.take_of_length_le (by omega)]at hp;refine⟨_,rfl,?_⟩;rw[dT hp];exact Ret.sta trivial
abbrev E_eqf (f:FuncId)(a c:List PT)(i:Nat):Env:=[(1,.val (.sl 4 stat (encTs c))),(2,.val (.fn f [] [])),(15,.val (.sl 4 stat (encTs a))),(16,.val (.int .i64 (encTs a).length)),(17,.val (.int .i64 i))]
theorem eqTs_false {a c:List PT}(h:¬a=c):eqTs a c=false:=by
 cases hh:eqTs a c with
 | false=>rfl
 | true=>exact absurd (eqTs_iff.1 hh) h
theorem eqFunc_wp (hm:MonoC C){a c:List PT}(ih:∀u,u.n<=PT.ns a->u.ok->∀v,PF C 58 [encT u,encT v] (.bool (eqT u v)))(hk:PT.oks a)(hl:a.length<4611686018427387904) :
  wpF gt C F101 [.sl 4 stat (encTs a),.sl 4 stat (encTs c),.fn 58 [] []] St.init (Ret (.bool (eqTs a c))):=by
 have no:∀{S:St},¬a=c->Ret (.bool (eqTs a c)) (.ret (.bool false)) S:=λh=>by rw[eqTs_false h];exact Ret.sta trivial
 have l1:=encTs_len a;have l2:=encTs_len c;refine⟨rfl,?_⟩;refine goW ?_;by_cases z:((encTs a).length:Int)=(encTs c).length
 case neg =>
  rw[neI_true z];refine goW ?_;exact⟨_,rfl,no λh=>by rw[h]at z;exact z rfl⟩
 rw[neI_false z];refine goW ?_;refine loop_rule hm (α:=Nat) (λi env S'=>i<=a.length/\env=E_eqf 58 a c i/\S'=St.init/\a.take i=c.take i) (λi=>a.length-i) ?_ (a:=0) ⟨Nat.zero_le _,rfl,rfl,rfl⟩;rintro i env S' ⟨hi,rfl,rfl,hp⟩;refine goW ?_;by_cases h:(i:Int)<(encTs a).length
 ·rw[dT h];refine goW ?_;have hik:i<a.length:=by omega
  have hik':i<c.length:=by omega
  have ihk:=ih _ (PT.ns_mem (List.getElem_mem hik)) (PT.oks_get hk (gE hik)) c[i];have e1:=encTs_get hik;have e2:=encTs_get hik';have r1:=rdT a[i];have r2:=rdT c[i];obtain⟨k1,s1,x1,y1,g1⟩:=encT_agg a[i];obtain⟨k2,s2,x2,y2,g2⟩:=encT_agg c[i];rw[g1]at ihk e1 r1;rw[g2]at ihk e2 r2;refine step_ruleO (sx_ia (k:=i) rfl rfl (by omega)) (goW ?_);refine step_ruleO (sx_ldEl (agg:=true) rfl rfl e1 r1) (goW ?_);refine step_ruleO (sx_ia (k:=i) rfl rfl (by omega)) (goW ?_);refine step_ruleO (sx_ldEl (agg:=true) rfl rfl e2 r2) (goW ?_);refine call_pf hm (by rfl) ihk (goW ?_);by_cases z:a[i]=c[i]
  ·rw[eqT_true z];refine goW ?_;refine⟨i+1,⟨by omega,?_,rfl,?_⟩,by omega⟩
   ·rw[wrNat (by omega)];try rfl
   ·rw[tS hik,tS hik',hp,z]
  ·rw[eqT_false z];refine goW ?_;exact⟨_,rfl,no λh=>by subst h;exact z rfl⟩
 rw[dF h];refine goW ?_;rw[List.take_of_length_le (by omega),List.take_of_length_le (by omega)]at hp;refine⟨_,rfl,?_⟩;rw[eqTs_iff.2 hp];exact Ret.sta trivial
theorem identical_wp (hm:MonoC C){t u:PT}(hk:t.ok)(he:∀a c:List (List UInt8),a.length<4611686018427387904->PF C 100 [.sl 1 stat (strs a),.sl 1 stat (strs c)] (.bool (decide (a=c))))(hf:∀c:List PT,PF C 101 [.sl 4 stat (encTs t.kids),.sl 4 stat (encTs c),.fn 58 [] []] (.bool (eqTs t.kids c))) :
  wpF gt C F58 [encT t,encT u] St.init (Ret (.bool (eqT t u))):=by
 obtain⟨k,s,keys,kids⟩:=t;obtain⟨k',s',keys',kids'⟩:=u;simp only[PT.ok]at hk;have he:=he keys keys' (by omega);have hf:=hf kids';simp only[PT.kids]at hf;rw[eqT];refine⟨rfl,?_⟩;refine goW ?_;by_cases z0:k=k'
 case neg =>
  rw[eqI_false z0,dF z0];refine goW ?_;exact⟨_,rfl,Ret.sta trivial⟩
 rw[eqI_true z0,dT z0];refine goW ?_;by_cases z1:s=s'
 case neg =>
  rw[beqB_false z1,dF z1];refine goW ?_;exact⟨_,rfl,Ret.sta trivial⟩
 rw[beqB_true z1,dT z1];refine goW ?_;by_cases z2:keys=keys'
 case neg =>
  rw[dF z2]at he;refine call_pf hm (by rfl) he ?_;rw[dF z2];refine goW ?_;exact⟨_,rfl,Ret.sta trivial⟩
 rw[dT z2]at he;refine call_pf hm (by rfl) he ?_;rw[dT z2];refine goW ?_;refine call_pf hm (by rfl) hf (goW ?_);exact⟨_,rfl,Ret.sta trivial⟩
theorem same_wp (hm:MonoC C)(hi:∀t u:PT,t.ok->PF C 58 [encT t,encT u] (.bool (eqT t u)))(hs:∀t:PT,t.ok->t.nd->PF C 34 [encT t] (encT (sortT t)))
  {a c:PT} (ha:PF C 50 [encT a] (.bool (formedB a))) (hc:PF C 50 [encT c] (.bool (formedB c))) (a1:a.ok) (a2:formedB a=true->a.nd) (c1:c.ok) (c2:formedB c=true->c.nd) :
  wpF gt C F24 [encT a,encT c] St.init (Ret (.bool (sameB a c))):=by
 have h1:=hi a c a1;have h2:=hi (sortT a) (sortT c) (sort_ok a1);have s1:=hs a a1;have s2:=hs c c1;have key:∀r,sameB a c=r->(formedB a=true->formedB c=true->eqT (sortT a) (sortT c)=r)/\(¬(formedB a=true/\formedB c=true)->eqT a c=r):=λr e=>by
  unfold sameB at e;refine⟨λx y=>?_,λn=>?_⟩
  ·rw[x,y]at e;exact e
  ·rw[if_neg (by rw[bA];exact n)]at e;exact e
 generalize hr:sameB a c=res;obtain⟨k1,k2⟩:=key res hr
 clear key hr
 obtain⟨ka,sa,xa,ya,ga⟩:=encT_agg a;obtain⟨kc,sc,xc,yc,gc⟩:=encT_agg c;rw[ga]at ha h1 s1 ⊢;rw[gc]at hc h1 s2 ⊢;cases fa:formedB a with
 | false =>
  rw[fa]at ha;rw[k2 (by simp[fa])]at h1;refine⟨rfl,?_⟩;refine goW ?_;refine call_pf hm (by rfl) ha (goW ?_);refine call_pf hm (by rfl) h1 (goW ?_);exact⟨_,rfl,Ret.sta trivial⟩
 | true =>
  cases fc:formedB c with
  | false =>
   rw[fa]at ha;rw[fc]at hc;rw[k2 (by simp[fc])]at h1;refine⟨rfl,?_⟩;refine goW ?_;refine call_pf hm (by rfl) ha (goW ?_);refine call_pf hm (by rfl) hc (goW ?_);refine call_pf hm (by rfl) h1 (goW ?_);exact⟨_,rfl,Ret.sta trivial⟩
  | true =>
   rw[fa]at ha;rw[fc]at hc;rw[k1 fa fc]at h2;have s1:=s1 (a2 fa);have s2:=s2 (c2 fc);obtain⟨ka',sa',xa',ya',ga'⟩:=encT_agg (sortT a);obtain⟨kc',sc',xc',yc',gc'⟩:=encT_agg (sortT c);rw[ga']at s1 h2;rw[gc']at s2 h2;refine⟨rfl,?_⟩;refine goW ?_;refine call_pf hm (by rfl) ha (goW ?_);refine call_pf hm (by rfl) hc (goW ?_);refine call_pfD hm (by rfl) s1 (goW ?_);refine call_pfD hm (by rfl) s2 (goW ?_);refine call_pfD hm (by rfl) h2 (goW ?_);exact⟨_,rfl,Ret.sta trivial⟩
end

section
variable {gt:GT}{C:CallT}
end

section
variable {S:St}{R:List Rs}{ty:TypeId}{o:SI}{xs:List AV}{l:List Nat}
end
section
variable {gt:GT}{C:CallT}
end

section
variable {gt:GT}{C:CallT}
end

section
variable {gt:GT}{C:CallT}
end
end Go.Dn

namespace Go.Proofs.YthgidapmofcloaaGreatDoor.Fn
open Go.ChangeShapes Go.WideShapes Go.ChangeAt Go.RowKit Go.Dn
section
variable {R:List Rs}{ty:TypeId}{t b:Nat}
theorem swapC (g:AV):SwapC A R ty t b g:=λS xs P X M Y Q a c n ha hc hn hx hl hxy hA=>by
 subst ha hc hn;exact AC_intro Tryz.checked.mixed Tryz.func218 (by kernel_rfl) C1.F218_ok (swap_wp hm hx hl hxy hA)
theorem rotC (f:FuncId)(cs:List AV):RotC A R ty t b (.fn f [] cs):=λS xs P X Y Q a m c ha hmm hc h1 h2 hx hl hA=>by
 subst ha hmm hc;exact AC_intro Tryz.checked.mixed Tryz.func201 (by kernel_rfl) C1.F201_ok (rot_wp hm (swapC _) h1 h2 hx hl hA)
theorem insC {f:FuncId}{cs:List AV}{n:Nat}{cz:Nat->Nat->Int}(hz:Cz cz)(hc:CmpC A f cs R ty t b n cz):InsC A R ty t b n (.fn f [] cs) cz:=λS xs P X Q a c ha hcc hX hx hl hA=>by
 subst ha hcc;exact AC_intro Tryz.checked.mixed Tryz.func180 (by kernel_rfl) C1.F180_ok (ins_wp hm hz hc hX hx hl hA)
theorem mrgA {f:FuncId}{cs:List AV}{n:Nat}{cz:Nat->Nat->Int}(hz:Cz cz)(hc:CmpC A f cs R ty t b n cz):∀k,MrgC A R ty t b n (.fn f [] cs) cz k :=
 mrgC (gt:=gtT) hm (λus S Q h=>AC_intro Tryz.checked.mixed Tryz.func181 (by kernel_rfl) C1.F181_ok h) hz hc (rotC f cs)
theorem stbC {f:FuncId}{cs:List AV}{n:Nat}{cz:Nat->Nat->Int}(hz:Cz cz)(hc:CmpC A f cs R ty t b n cz):StbC A R ty t b n (.fn f [] cs) cz 150 λxs=>[slA t xs.length xs,.int .i64 xs.length,.fn f [] cs]:=λS xs L hn hx hl hA =>
 AC_intro Tryz.checked.mixed Tryz.func150 (by kernel_rfl) C1.F150_ok (stb_wp hm (insC hz hc) (mrgA hz hc) hn hx hl hA)
theorem sstC {f:FuncId}{cs:List AV}{n:Nat}{cz:Nat->Nat->Int}(hz:Cz cz)(hc:CmpC A f cs R ty t b n cz):SstC A R ty t b n (.fn f [] cs) cz:=λS xs L hn hx hl hA =>
 AC_intro Tryz.checked.mixed Tryz.func112 (by kernel_rfl) C1.F112_ok (sst_wp hm (stbC hz hc) hn hx hl hA)
end
theorem ins0 (g:AV)(S:St):A 180 [slN,.int .i64 0,.int .i64 0,g] S λr S'=>r=.ret (.tup [])/\S'=S :=
 AC_intro Tryz.checked.mixed Tryz.func180 (by kernel_rfl) C1.F180_ok ins0_wp
theorem stb0 (g:AV)(S:St):A 150 [slN,.int .i64 0,g] S λr S'=>r=.ret (.tup [])/\S'=S :=
 AC_intro Tryz.checked.mixed Tryz.func150 (by kernel_rfl) C1.F150_ok (stb0_wp hm (ins0 g))
theorem sst0 (g:AV)(S:St):A 112 [slN,g] S λr S'=>r=.ret (.tup [])/\S'=S :=
 AC_intro Tryz.checked.mixed Tryz.func112 (by kernel_rfl) C1.F112_ok (sst0_wp hm (stb0 g))
theorem cmpS (a c:List UInt8):PF A 145 [.str a,.str c] (.int .i64 (cmpB a c)) :=
 pf Tryz.func145 (by kernel_rfl) C1.F145_ok (s2 trivial trivial) cmpS_wp
theorem compareS (a c:List UInt8):PF A 104 [.str a,.str c] (.int .i64 (cmpB a c)) :=
 pf Tryz.func104 (by kernel_rfl) C1.F104_ok (s2 trivial trivial) (compare_wp hm cmpS)
theorem ord1 (keys:List (List UInt8))(ty:TypeId)(t b:Nat):CmpC A 113 [.ptr 0 0] (R_k keys) ty t b keys.length (czK keys):=λS l i j hA hi hj =>
 AC_intro Tryz.checked.mixed Tryz.func113 (by kernel_rfl) C1.F113_ok (ord1_wp hm compareS hA hi hj)
theorem order (keys:List (List UInt8))(hd:keys.Nodup)(hl:keys.length<1099511627776):PF A 64 [.sl 1 stat (strs keys)] (.sl 1 stat (ints (ordK keys))) :=
 pf Tryz.func64 (by kernel_rfl) C1.F64_ok (s1 (sK keys)) (by
  cases keys with
  | nil =>
   have e:ordK ([]:List (List UInt8))=[]:=nL (ordK_len []);rw[e];exact order0_wp hm (sst0 _)
  | cons k r=>exact order_wp hm (λt b=>sstC (czK_cz _) (ord1 _ _ t b)) hd (by simp) hl)
theorem sorted:∀t:PT,t.ok->t.nd->PF A 34 [encT t] (encT (sortT t)) :=
 indT λt ih hk hd=>pf Tryz.func34 (by kernel_rfl) C1.F34_ok (s1 (sta_T t)) (sorted_wp hm order ih hk hd)
theorem slEqual (a c:List (List UInt8))(h:a.length<4611686018427387904):PF A 100 [.sl 1 stat (strs a),.sl 1 stat (strs c)] (.bool (decide (a=c))) :=
 pf Tryz.func100 (by kernel_rfl) C1.F100_ok (s2 (sK a) (sK c)) (slEqual_wp hm h)
theorem identical:∀t u:PT,t.ok->PF A 58 [encT t,encT u] (.bool (eqT t u)) :=
 indT λt ih u h=>pf Tryz.func58 (by kernel_rfl) C1.F58_ok (s2 (sta_T t) (sta_T u)) (identical_wp hm h slEqual λc =>
  pf Tryz.func101 (by kernel_rfl) C1.F101_ok (s3 (sta_sl (sta_Ts t.kids)) (sta_sl (sta_Ts c)) ⟨trivial,trivial⟩)
   (eqFunc_wp hm (λv hv hk w=>ih v (by cases t;simp only[PT.kids,PT.n]at hv ⊢;omega) w hk) (by cases t;simp only[PT.ok]at h;exact h.2.2) (by cases t;simp only[PT.ok]at h;simp only[PT.kids];omega)))
theorem same (a c:PT)(a0:a.sok)(a1:a.ok)(a2:a.n<1099511627776)(c0:c.sok)(c1:c.ok)(c2:c.n<1099511627776):PF A 24 [encT a,encT c] (.bool (sameB a c)) :=
 pf Tryz.func24 (by kernel_rfl) C1.F24_ok (s2 (sta_T a) (sta_T c)) (same_wp hm identical sorted (formed a a0) (formed c c0) a1 (λh=>formed_nd h a2) c1 (λh=>formed_nd h c2))
end Go.Proofs.YthgidapmofcloaaGreatDoor.Fn

namespace Go.Dn
open Go Go.Proofs.C1
set_option maxRecDepth 100000
attribute [local irreducible] afterS keepE
section
variable {gt:GT}{d:Option Nat}{env:Env}{S:St}{R:List Rs}
theorem sx_ldB0 (h:Hs S R)(i:Nat){id:Nat}{ty:TypeId}{v w:AV}(hi:R[i]? = some (.bx id ty [v,w]))(hn:notAgg v=true){a:DOpd}(ha:loc env a=some (.hp id 0)) :
  stepO gt d env S (.ld false 1 a)=.done (putV d v env) S:=by
 have hb:=(h.ok i _ hi).2;have:ldL gt env S false 1 (.hp id 0)=some v:=by
  simp only[ldL,ldC,hb,cut];show mkv false [v]=some v;simp only[mkv,hn,cond_true,cond_false]
 simp only[stepO,ha,this,SR.val]
theorem sx_ldB1 (h:Hs S R)(i:Nat){id:Nat}{ty:TypeId}{v w:AV}(hi:R[i]? = some (.bx id ty [v,w]))(hn:notAgg w=true){a:DOpd}(ha:loc env a=some (.hp id 1)) :
  stepO gt d env S (.ld false 1 a)=.done (putV d w env) S:=by
 have hb:=(h.ok i _ hi).2;have:ldL gt env S false 1 (.hp id 1)=some w:=by
  simp only[ldL,ldC,hb,cut];show mkv false [w]=some w;simp only[mkv,hn,cond_true,cond_false]
 simp only[stepO,ha,this,SR.val]
theorem st_B0 (h:Hs S R)(i:Nat){id:Nat}{ty:TypeId}{v w v':AV}(hi:R[i]? = some (.bx id ty [v,w])){a x:DOpd}(ha:loc env a=some (.hp id 0))(hx:opd env x=some v')(hc:v'.cells=[v'])(ho:ok1 v'=true) :
  ∃S',stepO gt d env S (.st 1 a x)=.done (putV d .undef env) S'/\Hs S' (R.set i (.bx id ty [v',w])):=by
 have hb:=(h.ok i _ hi).2;refine⟨_,?_,h.boxTo hi [v',w]⟩;simp only[stepO,ha,hx,hc,stL,hb,List.all_cons,List.all_nil,ho];rfl
theorem st_B1 (h:Hs S R)(i:Nat){id:Nat}{ty:TypeId}{v w v':AV}(hi:R[i]? = some (.bx id ty [v,w])){a x:DOpd}(ha:loc env a=some (.hp id 1))(hx:opd env x=some v')(hc:v'.cells=[v'])(ho:ok1 v'=true) :
  ∃S',stepO gt d env S (.st 1 a x)=.done (putV d .undef env) S'/\Hs S' (R.set i (.bx id ty [v,v'])):=by
 have hb:=(h.ok i _ hi).2;refine⟨_,?_,h.boxTo hi [v,v']⟩;simp only[stepO,ha,hx,hc,stL,hb,List.all_cons,List.all_nil,ho];rfl
theorem sx_cvU (h:Hs S R)(i:Nat){id:Nat}{ty:TypeId}{v w:AV}(hi:R[i]? = some (.bx id ty [v,w])){x:DOpd}(hx:opd env x=some (.ptr id 0)):stepO gt d env S (.cvU x)=.done (putV d (.ptr id 0) env) S:=by
 have hb:=(h.ok i _ hi).2;simp only[stepO,hx,hb];rfl
theorem sx_cvP (h:Hs S R)(i:Nat){id:Nat}{ty:TypeId}{v w:AV}(hi:R[i]? = some (.bx id ty [v,w])){x:DOpd}(hx:opd env x=some (.ptr id 0)){ok:List (TypeId×Nat×Nat)}(ho:ok.any (λp=>Nat.beq p.1 ty && (Nat.beq p.2.1 0 && Nat.ble p.2.2 2))=true) :
  stepO gt d env S (.cvP ok x)=.done (putV d (.ptr id 0) env) S:=by
 have hb:=(h.ok i _ hi).2;simp only[stepO,hx,hb,lC,lN,Nat.zero_add,Nat.reduceAdd,ho,cond_true]
theorem sx_nePtr {id:Nat}{x y:DOpd}(hx:opd env x=some (.ptr id 0))(hy:opd env y=some (.ptr id 0)):stepO gt d env S (.bin .neq (some .ptr) x y)=.done (putV d (.bool false) env) S:=by
 simp only[stepO,hx,hy,binV,eqv,eqPtr,Nat.beq_refl,cond_true,Option.map_some,SR.val];rfl
end
theorem sx_ustr {gt:GT}{d:Option Nat}{env:Env}{S:St}{x y:DOpd}{t l n m:Nat}{ty:TypeId}{xs:List AV}{s:List UInt8}(hx:opd env x=some (.eptr 1 ⟨some (t,l),0,none,false⟩ xs 0 0))(hy:opd env y=some (.int .i64 (Int.ofNat n)))(hn:n=xs.length)(hb:bytes? xs=some s)(hl:n<=17592186044416)
  (hr:rd S ⟨some (t,l),0,none,false⟩=.here) (ht:lk S.tip t=some (some (m,ty,false))):stepO gt d env S (.ustr ty x y)=.done (putV d (.str s) env) { S with tip:=(t,none)::S.tip }:=by
 have h3:Nat.ble n 17592186044416=true:=Nat.ble_eq_true_of_le hl;simp only[stepO,hx,hy,hr,ht,Nat.beq_refl,<-hn,h3,hb,Bool.and_true,cond_true]
abbrev R_b (id:Nat)(ty:TypeId)(p:AV)(o:SI)(acc:List UInt8):List Rs:=[.bx id ty [p,.sl 1 o (ofBytes acc)],.gr 5 o (ofBytes acc)]
def BS (S:St)(id:Nat)(ty:TypeId)(acc:List UInt8):Prop:=(ty=76\/ty=78)/\∃p o,(p=.nilp\/p=.ptr id 0)/\Hs S (R_b id ty p o acc)
section
variable {gt:GT}{C:CallT}
theorem copyCheck_wp (hm:MonoC C){S:St}{id:Nat}{ty:TypeId}{acc:List UInt8}(h:BS S id ty acc):wpF gt C F159 [.ptr id 0] S λr S'=>r=.ret (.tup [])/\∃o,Hs S' (R_b id ty (.ptr id 0) o acc):=by
 obtain⟨hty,p,o,hp,h⟩:=h;refine⟨rfl,?_⟩;rcases hp with rfl | rfl
 ·refine goW ?_;refine step_ruleO (sx_ldB0 h 0 rfl rfl rfl) (goW ?_);refine step_ruleO (sx_cvU h 0 rfl rfl) (goW ?_);refine step_ruleO (sx_cvP h 0 rfl rfl (by rcases hty with rfl | rfl<;>rfl)) (goW ?_);refine st_runP (st_B0 h 0 rfl rfl rfl rfl rfl) (by trivial) ?_;intro S2 h2;refine goW ?_;exact⟨_,rfl,rfl,o,h2⟩
 ·refine goW ?_;refine step_ruleO (sx_ldB0 h 0 rfl rfl rfl) (goW ?_);refine step_ruleO (sx_ldB0 h 0 rfl rfl rfl) (goW ?_);refine step_ruleO (sx_nePtr rfl rfl) (goW ?_);exact⟨_,rfl,rfl,o,h⟩
theorem writeString_wp (hm:MonoC C)(hc:∀(S:St) (id:Nat) (ty:TypeId) (acc:List UInt8),BS S id ty acc->C 159 [.ptr id 0] S λr S'=>r=.ret (.tup [])/\∃o,Hs S' (R_b id ty (.ptr id 0) o acc))
  {S:St} {id:Nat} {ty:TypeId} {acc s:List UInt8} (h:BS S id ty acc) (hl:acc.length+s.length<1099511627776) :
  wpF gt C F128 [.ptr id 0,.str s] S λr S'=>r=.ret (.tup [.int .i64 s.length,.nilif])/\BS S' id ty (acc++s):=by
 have hc:=hc S id ty acc h;obtain⟨hty,_⟩:=h;have l1:=ofBytes_len acc;have l2:=ofBytes_len s;refine⟨rfl,?_⟩;refine goW ?_;refine call_rule (by rfl) (hm _ _ _ _ _ hc ?_);rintro r S2 ⟨rfl,o,h⟩;refine goW ?_;refine step_ruleO (sx_ldB1 h 0 rfl rfl rfl) (goW ?_);refine r_app h 1 rfl (by trivial) rfl rfl rfl (by rw[l1,l2];omega) (by rw[l1,l2];omega) (by decide) (by decide) (ofBytes_ok s) ?_;intro o3 S3 h;refine goW ?_;refine st_runP (st_B1 h 0 rfl rfl rfl rfl rfl) (by trivial) ?_;intro S4 h;refine goW ?_;refine⟨_,rfl,rfl,hty,.ptr id 0,o3,.inr rfl,?_⟩;rw[show R_b id ty (.ptr id 0) o3 (acc++s)=[.bx id ty [.ptr id 0,.sl 1 o3 (ofBytes acc++ofBytes s)],.gr 5 o3 (ofBytes acc++ofBytes s)] by unfold R_b;rw[ofBytes_app]];exact h
theorem writeByte_wp (hm:MonoC C)(hc:∀(S:St) (id:Nat) (ty:TypeId) (acc:List UInt8),BS S id ty acc->C 159 [.ptr id 0] S λr S'=>r=.ret (.tup [])/\∃o,Hs S' (R_b id ty (.ptr id 0) o acc))
  {S:St} {id:Nat} {ty:TypeId} {acc:List UInt8} {c:UInt8} (h:BS S id ty acc) (hl:acc.length<1099511627776) :
  wpF gt C F129 [.ptr id 0,.int .u8 c.toNat] S λr S'=>r=.ret .nilif/\BS S' id ty (acc++[c]):=by
 have hc:=hc S id ty acc h;obtain⟨hty,_⟩:=h;have l1:=ofBytes_len acc;refine⟨rfl,?_⟩;refine goW ?_;refine call_rule (by rfl) (hm _ _ _ _ _ hc ?_);rintro r S2 ⟨rfl,o,h⟩;refine goW ?_;refine step_ruleO (sx_ldB1 h 0 rfl rfl rfl) (goW ?_);obtain⟨h,hsrc⟩:=h.bldT 5 1;refine r_app h 1 rfl trivial rfl rfl (hsrc _ _ _) (by rw[l1];simp;omega) (by rw[l1];simp;omega) (by decide) (by decide) rfl ?_;intro o3 S3 h;refine goW ?_;refine st_runP (st_B1 h 0 rfl rfl rfl rfl rfl) (by trivial) ?_;intro S4 h;refine goW ?_;refine⟨_,rfl,rfl,hty,.ptr id 0,o3,.inr rfl,?_⟩;rw[show R_b id ty (.ptr id 0) o3 (acc++[c])=[.bx id ty [.ptr id 0,.sl 1 o3 (ofBytes acc++ofBytes [c])],.gr 5 o3 (ofBytes acc++ofBytes [c])] by unfold R_b;rw[ofBytes_app]];exact h
theorem bLen_wp {S:St}{id:Nat}{ty:TypeId}{acc:List UInt8}(h:BS S id ty acc):wpF gt C F48 [.ptr id 0] S λr S'=>r=.ret (.int .i64 acc.length)/\S'=S:=by
 obtain⟨hty,p,o,hp,h⟩:=h;have l1:=ofBytes_len acc;refine⟨rfl,?_⟩;refine goW ?_;refine step_ruleO (sx_ldB1 h 0 rfl rfl rfl) (goW ?_);refine⟨_,rfl,?_,rfl⟩;rw[l1]
theorem bString_wp {S:St}{id:Nat}{ty:TypeId}{acc:List UInt8}(h:BS S id ty acc)(h0:acc≠[])(hl:acc.length<=17592186044416):wpF gt C F49 [.ptr id 0] S λr S'=>r=.ret (.str acc):=by
 obtain⟨hty,p,o,hp,h⟩:=h;have l1:=ofBytes_len acc;obtain⟨a,r,rfl⟩:=List.exists_cons_of_ne_nil h0;have hg:=h.ok 1 _ rfl;have hbs:=bytes_of (a::r);rcases hg with⟨_,_,_,e⟩ | ⟨t,l,rfl,g1,g2,g3,g4,g5⟩
 ·cases e
 refine⟨rfl,?_⟩;refine goW ?_;refine step_ruleDO rfl rfl (sx_ldB1 h 0 rfl rfl rfl) (goW ?_);refine step_ruleDO rfl rfl (sx_ldB1 h 0 rfl rfl rfl) (goW ?_);refine step_ruleDO rfl rfl (sx_ustr rfl rfl rfl hbs (by rw[l1];exact hl) (RsOK.rd (.inr ⟨t,l,rfl,g1,g2,g3,g4,g5⟩)) g3) (goW ?_);exact⟨_,rfl,rfl⟩
end

def shortB (b:UInt8):UInt8:=if b=34\/b=92 then b else if b=8 then 98 else if b=9 then 116 else if b=10 then 110 else if b=12 then 102 else if b=13 then 114 else 0
def hexB (n:Nat):UInt8:=if n<10 then UInt8.ofNat (48+n) else UInt8.ofNat (87+n)
def escB (b:UInt8):List UInt8:=if shortB b≠0 then [92,shortB b] else if b.toNat<32\/b=127 then [92,117,48,48,hexB (b.toNat / 16),hexB (b.toNat % 16)] else [b]
def escs:List UInt8->List UInt8
 | []=>[]
 | b::r=>escB b++escs r
def quoteB (s:List UInt8):List UInt8:=34::escs s++[34]
theorem escB_len (b:UInt8):(escB b).length<=6:=by unfold escB;split<;>(try split)<;>simp
theorem escs_len:∀s:List UInt8,(escs s).length<=6*s.length
 | []=>nR _
 | b::r=>by have:=escB_len b;have:=escs_len r;simp only[escs,lA,lC];omega
theorem escs_app:∀a b:List UInt8,escs (a++b)=escs a++escs b
 | [],_=>rfl
 | x::r,b=>by simp only[List.cons_append,escs,escs_app r b,aA]
theorem quoteB_len (s:List UInt8):(quoteB s).length<=6*s.length+2:=by have:=escs_len s;simp only[quoteB,lA,lC,lN];omega
theorem u8_ne {b c:UInt8}(h:¬b=c):¬(b.toNat:Int)=c.toNat:=λe=>h (UInt8.toNat_inj.1 (by omega))
theorem b_ne {b c:UInt8}{n:Int}(h:¬b=c)(e:(c.toNat:Int)=n):¬(b.toNat:Int)=n:=e ▸ u8_ne h
theorem and15_all:(List.range 256).all (λn=>IntKind.i64.wrap ((BitVec.ofInt IntKind.i64.bits (n:Int) &&& BitVec.ofInt IntKind.i64.bits 15).toNat) == ((n % 16:Nat):Int))=true:=by kernel_rfl
theorem and15 {n:Nat}(h:n<256):IntKind.i64.wrap ((BitVec.ofInt IntKind.i64.bits (n:Int) &&& BitVec.ofInt IntKind.i64.bits 15).toNat)=((n % 16:Nat):Int):=by
 have:=List.all_eq_true.1 and15_all n (List.mem_range.2 h);simpa using this
theorem hexL {m:Nat}(h:m<16):([48,49,50,51,52,53,54,55,56,57,97,98,99,100,101,102]:List UInt8)[m]? = some (hexB m):=by
 have:(List.range 16).all (λm=>([48,49,50,51,52,53,54,55,56,57,97,98,99,100,101,102]:List UInt8)[m]? == some (hexB m))=true:=by kernel_rfl
 have:=List.all_eq_true.1 this m (List.mem_range.2 h);simpa using this
section
variable {gt:GT}{C:CallT}
theorem short_wp {b:UInt8}:wpF gt C F130 [.int .u8 b.toNat] St.init (Ret (.int .u8 (shortB b).toNat)):=by
 have ret:∀{o:UInt8} {S:St},shortB b=o->Ret (.int .u8 (shortB b).toNat) (.ret (.int .u8 o.toNat)) S:=λh=>by rw[h];exact Ret.sta trivial
 have hf:shortB b=if b=34\/b=92 then b else if b=8 then 98 else if b=9 then 116 else if b=10 then 110 else if b=12 then 102 else if b=13 then 114 else 0:=rfl
 generalize shortB b=res at ret hf ⊢;refine⟨rfl,?_⟩;refine goW ?_;by_cases h1:b=34
 ·rw[eqI_true (show (b.toNat:Int)=34 by rw[h1];rfl)];refine goW ?_;exact⟨_,rfl,ret (by rw[hf,if_pos (.inl h1)])⟩
 rw[eqI_false (b_ne (n:=34) h1 rfl)];refine goW ?_;by_cases h2:b=92
 ·rw[eqI_true (show (b.toNat:Int)=92 by rw[h2];rfl)];refine goW ?_;exact⟨_,rfl,ret (by rw[hf,if_pos (.inr h2)])⟩
 rw[eqI_false (b_ne (n:=92) h2 rfl)];rw[if_neg (by rintro (h | h);exact h1 h;exact h2 h)]at hf;refine goW ?_;by_cases h3:b=8
 ·rw[eqI_true (show (b.toNat:Int)=8 by rw[h3];rfl)];refine goW ?_;exact⟨_,rfl,ret (o:=98) (by rw[hf,if_pos h3])⟩
 rw[eqI_false (b_ne (n:=8) h3 rfl)];rw[if_neg h3]at hf;refine goW ?_;by_cases h4:b=9
 ·rw[eqI_true (show (b.toNat:Int)=9 by rw[h4];rfl)];refine goW ?_;exact⟨_,rfl,ret (o:=116) (by rw[hf,if_pos h4])⟩
 rw[eqI_false (b_ne (n:=9) h4 rfl)];rw[if_neg h4]at hf;refine goW ?_;by_cases h5:b=10
 ·rw[eqI_true (show (b.toNat:Int)=10 by rw[h5];rfl)];refine goW ?_;exact⟨_,rfl,ret (o:=110) (by rw[hf,if_pos h5])⟩
 rw[eqI_false (b_ne (n:=10) h5 rfl)];rw[if_neg h5]at hf;refine goW ?_;by_cases h6:b=12
 ·rw[eqI_true (show (b.toNat:Int)=12 by rw[h6];rfl)];refine goW ?_;exact⟨_,rfl,ret (o:=102) (by rw[hf,if_pos h6])⟩
 rw[eqI_false (b_ne (n:=12) h6 rfl)];rw[if_neg h6]at hf;refine goW ?_;by_cases h7:b=13
 ·rw[eqI_true (show (b.toNat:Int)=13 by rw[h7];rfl)];refine goW ?_;exact⟨_,rfl,ret (o:=114) (by rw[hf,if_pos h7])⟩
 rw[eqI_false (b_ne (n:=13) h7 rfl)];rw[if_neg h7]at hf;refine goW ?_;exact⟨_,rfl,ret (o:=0) hf⟩
theorem tdigit_wp {n:Nat}(h:n<256):wpF gt C F131 [.int .i64 n] St.init (Ret (.int .u8 (hexB (n % 16)).toNat)):=by
 refine⟨rfl,?_⟩;refine goW ?_;rw[and15 h];refine step_ruleO (sx_ixS (k:=n % 16) rfl rfl (hexL (by omega))) (goW ?_);exact⟨_,rfl,Ret.sta trivial⟩
end

theorem hs_newB (ty:TypeId)(hty:ty=76\/ty=78):BS { St.init with nb:=St.init.nb+1,boxes:=(St.init.nb,some (ty,[.nilp,.sl 1 ⟨none,0,some 0,true⟩ []]))::St.init.boxes } 0 ty [] :=
 ⟨hty,.nilp,⟨none,0,some 0,true⟩,.inl rfl,(Hs.init.newBox ty [.nilp,.sl 1 ⟨none,0,some 0,true⟩ []]).addNil 5 true⟩
section
variable {gt:GT}{C:CallT}
abbrev E_qt (s:List UInt8)(i:Int):Env:=[(0,.val (.str s)),(4,.val (.ptr 0 0)),(13,.val (.int .i64 s.length)),(14,.val (.int .i64 i))]
theorem quote_wp (hm:MonoC C)(hv:∀s:List UInt8,s.length<4611686018427387904->PF C 82 [.str s] (.bool (validB s)))
  (hwb:∀(S:St) (id:Nat) (ty:TypeId) (acc:List UInt8) (c:UInt8),BS S id ty acc->acc.length<1099511627776->C 129 [.ptr id 0,.int .u8 c.toNat] S λr S'=>r=.ret .nilif/\BS S' id ty (acc++[c]))
  (hws:∀(S:St) (id:Nat) (ty:TypeId) (acc s:List UInt8),BS S id ty acc->acc.length+s.length<1099511627776->C 128 [.ptr id 0,.str s] S λr S'=>r=.ret (.tup [.int .i64 s.length,.nilif])/\BS S' id ty (acc++s))
  (hst:∀(S:St) (id:Nat) (ty:TypeId) (acc:List UInt8),BS S id ty acc->acc≠[]->acc.length<=17592186044416->C 49 [.ptr id 0] S λr S'=>r=.ret (.str acc))
  (hsh:∀b:UInt8,PF C 130 [.int .u8 b.toNat] (.int .u8 (shortB b).toNat)) (hdg:∀n:Nat,n<256->PF C 131 [.int .i64 n] (.int .u8 (hexB (n % 16)).toNat))
  {s:List UInt8} (hl:s.length<4294967281):wpF gt C F80 [.str s] St.init (Ret (.tup [.str (if validB s=true then quoteB s else []),.int .i64 (if validB s=true then 0 else 10)])):=by
 have hv:=hv s (by omega);refine⟨rfl,?_⟩;refine goW ?_;refine call_pf hm (by rfl) hv ?_;cases validB s with
 | false =>
  refine goW ?_;exact⟨_,rfl,Ret.sta ⟨trivial,trivial,trivial⟩⟩
 | true =>
 refine goW ?_;have hb:=hs_newB 76 (.inl rfl);have w:C 129 [.ptr 0 0,.int .u8 34] _ _:=hwb _ 0 _ [] 34 hb (by simp);refine call_rule (by rfl) (hm _ _ _ _ _ w ?_);rintro r S1 ⟨rfl,hb⟩;refine goW ?_;refine loop_rule hm (α:=Nat) (λi env S'=>i<=s.length/\env=E_qt s i/\BS S' 0 76 (34::escs (s.take i))) (λi=>s.length-i) ?_ (a:=0) ⟨Nat.zero_le _,rfl,by simpa[escs] using hb⟩
 clear hb w
 rintro i env S' ⟨hi,rfl,hb⟩;have hal:=escs_len (s.take i);rw[lT]at hal;refine goW ?_;by_cases hc:(i:Int)<(s.length:Nat)
 case neg =>
  rw[dF hc];obtain rfl:i=s.length:=by omega
  rw[List.take_length]at hb hal;have w:C 129 [.ptr 0 0,.int .u8 34] _ _:=hwb _ 0 _ _ 34 hb (by simp only[lC];omega);refine goW ?_;refine call_rule (by rfl) (hm _ _ _ _ _ w ?_);rintro r S2 ⟨rfl,hb⟩;have w:=hst _ 0 _ _ hb (by simp) (by simp only[lA,lC,lN];omega);refine goW ?_;refine call_rule (by rfl) (hm _ _ _ _ _ w ?_);rintro r S3 rfl;refine goW ?_;exact⟨_,rfl,Ret.sta ⟨trivial,trivial,trivial⟩⟩
 rw[dT hc];have hik:i<s.length:=by omega
 have hbt:=u8_lt s[i];have hnx:34::escs (s.take (i+1))=(34::escs (s.take i))++escB s[i]:=by rw[tS hik,escs_app];simp[escs]
 have hgt:=gE hik;have hle:escB s[i]=if shortB s[i]≠0 then [92,shortB s[i]] else if s[i].toNat<32\/s[i]=127 then [92,117,48,48,hexB (s[i].toNat / 16),hexB (s[i].toNat % 16)] else [s[i]]:=rfl
 have hacc:(34::escs (s.take i)).length<549755813888:=by simp only[lC];omega
 have next:∀{S2:St},BS S2 0 76 (34::escs (s.take (i+1)))->∃a:Nat,(a<=s.length/\E_qt s (i+1:Nat)=E_qt s a/\BS S2 0 76 (34::escs (s.take a)))/\s.length-a<s.length-i:=λh=>⟨i+1,⟨by omega,rfl,h⟩,by omega⟩
 generalize 34::escs (s.take (i+1))=nx at hnx next
 generalize 34::escs (s.take i)=acc at hb hnx hacc;generalize s[i]=b at hgt hnx hle hbt;generalize escB b=es at hnx hle;have hsh:=hsh b;have d1:=hdg (b.toNat / 16) (by omega);have d2:=hdg b.toNat (by omega);rw[show b.toNat / 16 % 16=b.toNat / 16 by omega]at d1;generalize shortB b=sb at hsh hle;refine goW ?_;refine step_ruleO (sx_ixS (k:=i) rfl rfl hgt) (goW ?_);refine call_pf hm (by rfl) hsh (goW ?_);by_cases z:sb=0
 case neg =>
  rw[neI_true (b_ne (n:=0) z rfl)];rw[if_pos z]at hle;have w:C 129 [.ptr 0 0,.int .u8 92] _ _:=hwb _ 0 _ _ 92 hb (by omega);refine goW ?_;refine call_rule (by rfl) (hm _ _ _ _ _ w ?_);rintro r S2 ⟨rfl,hb⟩;have w:=hwb _ 0 _ _ sb hb (by simp only[lA,lC,lN];omega);refine goW ?_;refine call_rule (by rfl) (hm _ _ _ _ _ w ?_);rintro r S3 ⟨rfl,hb⟩;refine goW ?_;rw[wrNat (by omega)];exact next (by rw[hnx,hle];simpa using hb)
 rw[neI_false (show (sb.toNat:Int)=0 by rw[z];rfl)];rw[if_neg (λh=>h z)]at hle;have e4:wr .i64 ((b.toNat:Int).fdiv (2 ^ (min (Int.toNat 4) (IntKind.bits .u8))))=((b.toNat / 16:Nat):Int):=by
  rw[show (2:Int) ^ (min (Int.toNat 4) (IntKind.bits .u8))=16 from rfl,Int.fdiv_eq_ediv_of_nonneg _ (by omega),wr64 (by omega) (by omega)];omega
 have e5:wr .i64 (b.toNat:Int)=(b.toNat:Nat):=wr64 (by omega) (by omega);refine goW ?_;by_cases z2:b.toNat<32\/b=127
 ·rw[if_pos z2]at hle;by_cases c1:(b.toNat:Int)<32
  case' pos=>rw[dT c1]
  case' neg =>
   rw[dF c1];refine goW ?_;rw[eqI_true (show (b.toNat:Int)=127 by rcases z2 with h | h;omega;rw[h];rfl)]
  all_goals
   have w:=hws _ 0 _ _ [92,117,48,48] hb (by simp only[lC,lN];omega);refine goW ?_;refine call_rule (by rfl) (hm _ _ _ _ _ w ?_);rintro r S2 ⟨rfl,hb⟩;refine goW ?_;rw[e4];refine call_pf hm (by rfl) d1 ?_;have w:=hwb _ 0 _ _ (hexB (b.toNat / 16)) hb (by simp only[lA,lC,lN];omega);refine goW ?_;refine call_rule (by rfl) (hm _ _ _ _ _ w ?_);rintro r S3 ⟨rfl,hb⟩;refine goW ?_;rw[e5];refine call_pf hm (by rfl) d2 ?_;have w:=hwb _ 0 _ _ (hexB (b.toNat % 16)) hb (by simp only[lA,lC,lN];omega);refine goW ?_;refine call_rule (by rfl) (hm _ _ _ _ _ w ?_);rintro r S4 ⟨rfl,hb⟩;refine goW ?_;rw[wrNat (by omega)];exact next (by rw[hnx,hle];simpa using hb)
 rw[if_neg z2]at hle;rw[dF (show ¬(b.toNat:Int)<32 by omega)];refine goW ?_;rw[eqI_false (b_ne (n:=127) (λh=>z2 (.inr h)) rfl)];have w:=hwb _ 0 _ _ b hb (by omega);refine goW ?_;refine call_rule (by rfl) (hm _ _ _ _ _ w ?_);rintro r S2 ⟨rfl,hb⟩;refine goW ?_;rw[wrNat (by omega)];exact next (by rw[hnx,hle];exact hb)
end
end Go.Dn

namespace Go.Dn
open Go Go.Proofs.C1
theorem norm_split {s:List UInt8}(h:(normB s).2=0):(splitB s).2=0/\normB s=joinB (splitB s).1:=by
 unfold normB at h ⊢;by_cases z:(splitB s).2=0
 ·rw[if_pos z];exact⟨z,rfl⟩
 ·rw[if_neg z]at h;exact absurd h z
theorem formed_num {s:List UInt8}{keys:List (List UInt8)}{kids:List PT}(h:formedB (.mk 3 s keys kids)=true):(normB s).2=0/\(normB s).1=s:=by
 simp only[formedB,bA]at h;have h2:=h.2;unfold shapeB at h2;rw[if_neg (by omega),if_neg (by omega),if_pos rfl,bA]at h2;have h3:=h2.2;rw[bA]at h3;exact⟨of_decide_eq_true h3.1,beqB_iff.1 h3.2⟩
theorem unlike_iff:∀{keys seen:List (List UInt8)},unlikeB seen keys=true↔(∀x∈keys,validB x=true)/\keys.Nodup/\∀x∈keys,x ∉ seen
 | [],_=>by simp[unlikeB]
 | s::r,seen=>by
  simp only[unlikeB];by_cases hs:s∈seen
  ·rw[if_pos hs];exact⟨λh=>(by cases h),λh=>absurd hs (h.2.2 s (by simp))⟩
  ·rw[if_neg hs,bA,unlike_iff (keys:=r)];constructor
   ·rintro⟨v,a,b,c⟩;refine⟨λx hx=>?_,List.nodup_cons.2 ⟨λhm=>c s hm (by simp),b⟩,λx hx=>?_⟩
    ·rcases List.mem_cons.1 hx with rfl | hx
     ·exact v
     ·exact a x hx
    ·rcases List.mem_cons.1 hx with rfl | hx
     ·exact hs
     ·exact λhm=>c x hx (by simp[hm])
   ·rintro⟨a,b,c⟩;have b:=List.nodup_cons.1 b;refine⟨a s (by simp),λx hx=>a x (by simp[hx]),b.2,λx hx hm=>?_⟩;rw[List.mem_append,List.mem_singleton]at hm;rcases hm with hm | rfl
    ·exact c x (by simp[hx]) hm
    ·exact b.1 hx
theorem unlike_perm {a b:List (List UInt8)}(p:a.Perm b)(h:unlikeB [] b=true):unlikeB [] a=true:=by
 rw[unlike_iff]at h ⊢;exact⟨λx hx=>h.1 x (p.mem_iff.1 hx),p.nodup_iff.2 h.2.1,λx hx=>h.2.2 x (p.mem_iff.1 hx)⟩
theorem map_range_getD {α:Type}{z:α}(l:List α):((List.range l.length).map λi=>l.getD i z)=l:=by
 refine List.ext_getElem (by simp) λi h1 h2=>?_;rw[List.getElem_map,List.getElem_range,getD_at h2]
theorem ord_perm {α:Type}{z:α}(keys:List (List UInt8)){l:List α}(h:keys.length=l.length):((ordK keys).map λi=>l.getD i z).Perm l:=by
 have:=(ordK_perm keys).map λi=>l.getD i z;rw[h,map_range_getD]at this;exact this
theorem formedBs_iff:∀{l:List PT},formedBs l=true↔∀u∈l,formedB u=true
 | []=>by simp[formedBs]
 | t::r=>by simp[formedBs,formedBs_iff (l:=r)]
theorem ns_perm {a b:List PT}(p:a.Perm b):PT.ns a=PT.ns b:=by
 induction p with
 | nil=>rfl
 | cons x _ ih=>simp only[PT.ns,ih]
 | swap x y l=>simp only[PT.ns];omega
 | trans _ _ h1 h2=>rw[h1,h2]
theorem sortTs_len (l:List PT):(sortTs l).length=l.length:=by rw[sortTs_map,List.length_map]
mutual
theorem formed_sort:∀{t:PT},formedB t=true->formedB (sortT t)=true
 |.mk k s keys kids,h=>by
  have hk:=formeds_sort (l:=kids) (formed_parts h).1;simp only[formedB,bA]at h;rw[sortT];by_cases c:k=7/\keys.length=kids.length
  ·rw[if_pos c];obtain⟨rfl,hl⟩:=c;have p:=ord_perm (z:=([]:List UInt8)) keys (l:=keys) rfl;have q:=ord_perm (z:=zPT) keys (l:=sortTs kids) (by rw[sortTs_len,hl]);have sh:=h.2;simp only[formedB,bA];refine⟨formedBs_iff.2 λu hu=>formedBs_iff.1 hk u (q.mem_iff.1 hu),?_⟩;unfold shapeB at sh ⊢;rw[if_neg (by omega),if_neg (by omega),if_neg (by omega),if_neg (by omega),if_neg (by omega),if_neg (by omega),if_pos rfl,bA,bA]at sh ⊢;refine⟨sh.1,?_,unlike_perm p sh.2.2⟩;simp
  ·rw[if_neg c];simp only[formedB,bA];exact⟨hk,by rw[sortTs_len];exact h.2⟩
theorem formeds_sort:∀{l:List PT},formedBs l=true->formedBs (sortTs l)=true
 | [],_=>rfl
 | t::r,h=>by
  simp only[formedBs,bA]at h;simp only[sortTs,formedBs,bA];exact⟨formed_sort h.1,formeds_sort h.2⟩
end
mutual
theorem sort_idem:∀{t:PT},formedB t=true->sortT (sortT t)=sortT t
 |.mk k s keys kids,h=>by
  obtain⟨p1,p7,p6,_⟩:=formed_parts h;have ih:=sorts_idem (l:=kids) p1;by_cases c:k=7
  ·subst c;obtain⟨_,hl,hd⟩:=p7 rfl;have e:sortT (.mk 7 s keys kids)=.mk 7 s ((ordK keys).map λi=>keys.getD i []) ((ordK keys).map λi=>(sortTs kids).getD i zPT):=by rw[sortT,if_pos ⟨rfl,hl⟩]
   have p:=ord_perm (z:=([]:List UInt8)) keys (l:=keys) rfl;have ol:=ordK_len keys
   conv=>lhs;rw[e]
   rw[sort_rec (p.nodup_iff.2 hd) hd (by simp) hl];refine⟨rfl,by simp[ol,hl],λi hi=>?_⟩;rw[List.length_map]at hi;have hj:=ordK_lt (List.getElem_mem hi);refine⟨(ordK keys)[i],by omega,?_,?_⟩
   ·rw[getD_at (by rw[List.length_map];exact hi),List.getElem_map]
   ·rw[List.getElem_map,sortTs_getD (by omega)];exact ih _ (List.getElem_mem _)
  ·rw[p6 c];have e:sortT (.mk k s [] kids)=.mk k s [] (sortTs kids):=by rw[sortT,if_neg (λh=>c h.1)]
   conv=>lhs;rw[e]
   rw[sort_list c c];refine⟨rfl,rfl,?_⟩;rw[sortTs_map,List.map_map];exact List.map_congr_left λu hu=>ih u hu
theorem sorts_idem:∀{l:List PT},formedBs l=true->∀u∈l,sortT (sortT u)=sortT u
 | [],_,u,hu=>by cases hu
 | t::r,h,u,hu=>by
  simp only[formedBs,bA]at h;rcases List.mem_cons.1 hu with e | hu
  ·rw[e];exact sort_idem h.1
  ·exact sorts_idem h.2 u hu
end
end Go.Dn

namespace Go.Dn
open Go Go.Proofs.C1
set_option maxRecDepth 100000
attribute [local irreducible] afterS keepE
section
variable {gt:GT}{C:CallT}
end

theorem formed_kind {k:Int}{s:List UInt8}{keys:List (List UInt8)}{kids:List PT}(h:formedB (.mk k s keys kids)=true):1<=k/\k<=7:=by
 simp only[formedB,bA]at h;have h2:=h.2;unfold shapeB at h2;refine Decidable.byContradiction λhc=>?_;rw[if_neg (by omega),if_neg (by omega),if_neg (by omega),if_neg (by omega),if_neg (by omega),if_neg (by omega),if_neg (by omega)]at h2;cases h2
section
variable {gt:GT}{C:CallT}
end

section
variable {gt:GT}{C:CallT}
end

section
variable {gt:GT}{C:CallT}
end

def sepB (n:Nat):List UInt8:=if n=0 then [] else [44,32]
def recB (keys texts:List (List UInt8)):Nat->List Nat->List UInt8
 | _,[]=>[]
 | n,i::r=>(sepB n++((quoteB (keys.getD i [])++[58,32])++texts.getD i []))++recB keys texts (n+1) r
def listB:Nat->List (List UInt8)->List UInt8
 | _,[]=>[]
 | n,t::r=>(sepB n++t)++listB (n+1) r
mutual
def textB:PT->List UInt8
 |.mk k s keys kids =>
  if k=1 then [110,117,108,108]
  else if k=2\/k=3 then s
  else if k=4 then quoteB s
  else if k=5 then 64::s
  else if k=6 then ([91]++listB 0 (textsB kids))++[93]
  else ([123]++recB keys (textsB kids) 0 (ordK keys))++[125]
def textsB:List PT->List (List UInt8)
 | []=>[]
 | t::r=>textB t::textsB r
end
theorem textsB_map:∀l:List PT,textsB l=l.map textB
 | []=>rfl
 | t::r=>by simp only[textsB,List.map_cons,textsB_map r]
theorem listB_snoc (t:List UInt8):∀(l:List (List UInt8)) (n:Nat),listB n (l++[t])=listB n l++(sepB (n+l.length)++t)
 | [],n=>by simp[listB]
 | a::r,n=>by simp only[List.cons_append,listB,listB_snoc t r (n+1),lC,aA];rw[show n+1+r.length=n+(r.length+1) by omega]
theorem recB_snoc {keys texts:List (List UInt8)}(i:Nat):∀(l:List Nat) (n:Nat),recB keys texts n (l++[i])=recB keys texts n l++(sepB (n+l.length)++((quoteB (keys.getD i [])++[58,32])++texts.getD i []))
 | [],n=>by simp[recB]
 | a::r,n=>by simp only[List.cons_append,recB,recB_snoc i r (n+1),lC,aA];rw[show n+1+r.length=n+(r.length+1) by omega]
def putB (acc s:List UInt8):List UInt8:=if acc.length<=65536 then acc++s else acc
def WrB (a f b:List UInt8):Prop:=b=a++f\/(65536<b.length/\65536<(a++f).length)
theorem WrB.nil (a:List UInt8):WrB a [] a:=.inl (by simp)
theorem WrB.put (a s:List UInt8):WrB a s (putB a s):=by
 unfold WrB putB;split
 ·exact .inl rfl
 ·exact .inr ⟨by omega,by rw[lA];omega⟩
theorem WrB.trans {a f b g c:List UInt8}(h:WrB a f b)(k:WrB b g c):WrB a (f++g) c:=by
 unfold WrB at *;rw[<-aA];rcases h with rfl | ⟨h1,h2⟩
 ·exact k
 ·refine .inr ⟨?_,by rw[lA];omega⟩;rcases k with rfl | ⟨k1,k2⟩
  ·rw[lA];omega
  ·exact k1
theorem putB_len {a s:List UInt8}(h:a.length<=68719476736)(k:s.length<=34359738368):(putB a s).length<=68719476736:=by
 unfold putB;split
 ·rw[lA];omega
 ·exact h
theorem formed_text {s:List UInt8}{keys:List (List UInt8)}{kids:List PT}(h:formedB (.mk 4 s keys kids)=true):validB s=true:=by
 simp only[formedB,bA]at h;have h2:=h.2;unfold shapeB at h2;rw[if_neg (by omega),if_neg (by omega),if_neg (by omega),if_pos rfl,bA]at h2;exact h2.2
theorem formed_keys {s:List UInt8}{keys:List (List UInt8)}{kids:List PT}(h:formedB (.mk 7 s keys kids)=true):∀x∈keys,validB x=true:=by
 simp only[formedB,bA]at h;have h2:=h.2;unfold shapeB at h2;rw[if_neg (by omega),if_neg (by omega),if_neg (by omega),if_neg (by omega),if_neg (by omega),if_neg (by omega),if_pos rfl,bA]at h2;have h3:=h2.2;rw[bA]at h3;exact(unlike_iff.1 h3.2).1
section
variable {gt:GT}{C:CallT}
theorem put_wp (hm:MonoC C)(hln:∀(S:St) (id:Nat) (ty:TypeId) (acc:List UInt8),BS S id ty acc->C 48 [.ptr id 0] S λr S'=>r=.ret (.int .i64 acc.length)/\S'=S)
  (hws:∀(S:St) (id:Nat) (ty:TypeId) (acc s:List UInt8),BS S id ty acc->acc.length+s.length<1099511627776->C 128 [.ptr id 0,.str s] S λr S'=>r=.ret (.tup [.int .i64 s.length,.nilif])/\BS S' id ty (acc++s))
  {S:St} {id:Nat} {acc s:List UInt8} (h:BS S id 78 acc) (hl:acc.length+s.length<1099511627776) :
  wpF gt C F79 [.ptr id 0,.str s] S λr S'=>r=.ret (.tup [])/\BS S' id 78 (putB acc s):=by
 have w1:=hln _ _ _ _ h;have w2:=hws _ _ _ _ s h hl;refine⟨rfl,?_⟩;refine goW ?_;refine call_rule (by rfl) (hm _ _ _ _ _ w1 ?_);rintro r S2 ⟨rfl,rfl⟩;refine goW ?_;unfold putB;by_cases c:(acc.length:Int)<=65536
 ·rw[dT c,if_pos (by omega)];refine goW ?_;refine call_rule (by rfl) (hm _ _ _ _ _ w2 ?_);rintro r S3 ⟨rfl,h⟩;refine goW ?_;exact⟨_,rfl,rfl,h⟩
 ·rw[dF c,if_neg (by omega)];refine goW ?_;exact⟨_,rfl,rfl,h⟩
def TWC (C:CallT)(t:PT):Prop:=∀(S:St) (id:Nat) (acc:List UInt8),BS S id 78 acc->acc.length<=68719476736->C 47 [.ptr id 0,encT t] S λr S'=>r=.ret (.tup [])/\∃acc',BS S' id 78 acc'/\acc'.length<=68719476736/\WrB acc (textB t) acc'
def PutC (C:CallT):Prop:=∀(S:St) (id:Nat) (acc s:List UInt8),BS S id 78 acc->acc.length+s.length<1099511627776->C 79 [.ptr id 0,.str s] S λr S'=>r=.ret (.tup [])/\BS S' id 78 (putB acc s)
abbrev E_wl (id:Nat)(kids:List PT)(i:Int):Env:=[(0,.val (.ptr id 0)),(48,.val (.sl 4 stat (encTs kids))),(49,.val (.int .i64 (encTs kids).length)),(50,.val (.int .i64 i))]
abbrev E_wr (id:Nat)(t:PT)(L:List Nat)(i:Int):Env:=[(0,.val (.ptr id 0)),(3,.box (encT t).cells),(71,.val (.sl 1 stat (ints L))),(72,.val (.int .i64 (ints L).length)),(73,.val (.int .i64 i))]
theorem wtree_wp (hm:MonoC C)(hp:PutC C)(hq:∀s:List UInt8,s.length<4294967281->PF C 80 [.str s] (.tup [.str (if validB s=true then quoteB s else []),.int .i64 (if validB s=true then 0 else 10)]))
  (ho:∀keys:List (List UInt8),keys.Nodup->keys.length<1099511627776->PF C 64 [.sl 1 stat (strs keys)] (.sl 1 stat (ints (ordK keys))))
  {t:PT} (ih:∀u,u.n<t.n->formedB u=true->u.ok->u.sok->TWC C u) (ft:formedB t=true) (hk:t.ok) (hs:t.sok) (hn:t.n<1099511627776) {S:St} {id:Nat} {acc:List UInt8} (hb:BS S id 78 acc) (hl:acc.length<=68719476736) :
  wpF gt C F47 [.ptr id 0,encT t] S λr S'=>r=.ret (.tup [])/\∃acc',BS S' id 78 acc'/\acc'.length<=68719476736/\WrB acc (textB t) acc':=by
 obtain⟨k,s,keys,kids⟩:=t;have kd:=formed_kind ft;have hvs:=λh:k=4=>formed_text (s:=s) (keys:=keys) (kids:=kids) (by rw[<-h];exact ft);have hvk:=λh:k=7=>formed_keys (s:=s) (keys:=keys) (kids:=kids) (by rw[<-h];exact ft);obtain⟨fk,f7,f6,_⟩:=formed_parts ft;simp only[PT.ok]at hk;obtain⟨hk1,hk2,hk3⟩:=hk;simp only[PT.sok]at hs;obtain⟨hs1,hs2,hs3,hs4,hs5⟩:=hs;have l1:=encTs_len kids;have l3:=strs_length keys;have hf:textB (.mk k s keys kids)=if k=1 then [110,117,108,108] else if k=2\/k=3 then s else if k=4 then quoteB s else if k=5 then 64::s else if k=6 then ([91]++listB 0 (textsB kids))++[93] else ([123]++recB keys (textsB kids) 0 (ordK keys))++[125]:=by rw[textB]
 generalize hT:textB (.mk k s keys kids)=T at hf ⊢;have out:∀{S':St} {acc':List UInt8},BS S' id 78 acc'->acc'.length<=68719476736->WrB acc T acc'->(Res.ret (.tup [])=.ret (.tup [])/\∃acc',BS S' id 78 acc'/\acc'.length<=68719476736/\WrB acc T acc'):=λa b c=>⟨rfl,_,a,b,c⟩
 have one:∀{q:List UInt8},T=q->q.length<=34359738368->C 79 [.ptr id 0,.str q] S λr S'=>r=.ret (.tup [])/\∃acc',BS S' id 78 acc'/\acc'.length<=68719476736/\WrB acc T acc':=λ{q} e h=>hm _ _ _ _ _ (hp S id acc q hb (by omega)) λr S' ⟨a,b⟩=>⟨a,_,b,putB_len hl h,e ▸ WrB.put acc q⟩
 have done:∀{r:Res} {S':St},(r=.ret (.tup [])/\∃acc',BS S' id 78 acc'/\acc'.length<=68719476736/\WrB acc T acc')->r=.ret (.tup []):=λh=>h.1;refine⟨rfl,?_⟩;have kc:k=1\/k=2\/k=3\/k=4\/k=5\/k=6\/k=7:=by omega
 rcases kc with rfl | rfl | rfl | rfl | rfl | rfl | rfl
 ·have w:=one (q:=[110,117,108,108]) hf (by simp);refine goW ?_;refine call_rule (by rfl) (hm _ _ _ _ _ w ?_);rintro r S2 ⟨rfl,h⟩;refine goW ?_;exact⟨_,rfl,rfl,h⟩
 ·have w:=one (q:=s) hf (by omega);refine goW ?_;refine call_rule (by rfl) (hm _ _ _ _ _ w ?_);rintro r S2 ⟨rfl,h⟩;refine goW ?_;exact⟨_,rfl,rfl,h⟩
 ·have w:=one (q:=s) hf (by omega);refine goW ?_;refine call_rule (by rfl) (hm _ _ _ _ _ w ?_);rintro r S2 ⟨rfl,h⟩;refine goW ?_;exact⟨_,rfl,rfl,h⟩
 ·have hq:=hq s hs1;rw[hvs rfl]at hq;have w:=one (q:=quoteB s) hf (by have:=quoteB_len s;omega);refine goW ?_;refine call_pf hm (by rfl) hq (goW ?_);refine call_rule (by rfl) (hm _ _ _ _ _ w ?_);rintro r S2 ⟨rfl,h⟩;refine goW ?_;exact⟨_,rfl,rfl,h⟩
 ·have w:=one (q:=64::s) hf (by simp only[lC];omega);refine goW ?_;refine step_ruleO (st_addS rfl rfl (by simp only[lC,lN];omega)) (goW ?_);refine call_rule (by rfl) (hm _ _ _ _ _ w ?_);rintro r S2 ⟨rfl,h⟩;refine goW ?_;exact⟨_,rfl,rfl,h⟩
 ·clear one out done
  have w:=hp S id acc [91] hb (by simp;omega);refine goW ?_;refine call_rule (by rfl) (hm _ _ _ _ _ w ?_);rintro r S2 ⟨rfl,hb2⟩;have hb2l:=putB_len (s:=[91]) hl (by simp);refine goW ?_;refine loop_rule hm (α:=Nat) (λi env S'=>i<=kids.length/\env=E_wl id kids i/\∃acc',BS S' id 78 acc'/\acc'.length<=68719476736/\WrB acc ([91]++listB 0 ((textsB kids).take i)) acc') (λi=>kids.length-i) ?_ (a:=0) ⟨Nat.zero_le _,rfl,_,hb2,hb2l,by simpa[listB] using WrB.put acc [91]⟩
  clear hb hb2 hb2l w
  rintro i env S' ⟨hi,rfl,acc',hb,hbl,hw⟩;refine goW ?_;by_cases hc:(i:Int)<(encTs kids).length
  case neg =>
   rw[dF hc];rw[List.take_of_length_le (by rw[textsB_map,List.length_map];omega)]at hw;have w:=hp S' id acc' [93] hb (by simp;omega);refine goW ?_;refine call_rule (by rfl) (hm _ _ _ _ _ w ?_);rintro r S3 ⟨rfl,hb3⟩;refine goW ?_;refine⟨_,rfl,rfl,_,hb3,putB_len hbl (by simp),?_⟩;rw[hf];exact hw.trans (WrB.put acc' [93])
  rw[dT hc];have hik:i<kids.length:=by omega
  have htk:listB 0 ((textsB kids).take (i+1))=listB 0 ((textsB kids).take i)++(sepB i++textB kids[i]):=by
   rw[textsB_map,tS (by rw[List.length_map];exact hik),listB_snoc,List.getElem_map,lT,Nat.min_eq_left (by rw[List.length_map];omega),Nat.zero_add]
  have e1:=encTs_get hik;have r1:=rdT kids[i];have ihk:=ih _ (kid_lt hik) (formedBs_get hik fk) (PT.oks_get hk3 (gE hik)) (PT.soks_get hik hs5);unfold TWC at ihk;obtain⟨ka,sa,xa,ya,ga⟩:=encT_agg kids[i];rw[ga]at ihk e1 r1;generalize textB kids[i]=tx at ihk htk;have fin:∀{S4:St} {acc2 acc3:List UInt8},WrB acc' (sepB i) acc2->BS S4 id 78 acc3->acc3.length<=68719476736->WrB acc2 tx acc3->∃a:Nat,(a<=kids.length/\E_wl id kids ((i+1:Nat):Int)=E_wl id kids a/\∃acc',BS S4 id 78 acc'/\acc'.length<=68719476736/\WrB acc ([91]++listB 0 ((textsB kids).take a)) acc')/\kids.length-a<kids.length-i :=
   λa b c d=>⟨i+1,⟨by omega,rfl,_,b,c,by rw[htk,<-aA];exact hw.trans (a.trans d)⟩,by omega⟩
  refine goW ?_;refine step_ruleO (sx_ia (k:=i) rfl rfl (by omega)) (goW ?_);refine step_ruleO (sx_ldEl (agg:=true) rfl rfl e1 r1) (goW ?_);by_cases z:(i:Int) > 0
  ·rw[dT z];have w:=hp S' id acc' [44,32] hb (by simp;omega);refine goW ?_;refine call_rule (by rfl) (hm _ _ _ _ _ w ?_);rintro r S3 ⟨rfl,hb3⟩;have w:=ihk S3 id _ hb3 (putB_len hbl (by simp));refine goW ?_;refine call_rule (by rfl) (hm _ _ _ _ _ w ?_);rintro r S4 ⟨rfl,acc3,b,c,d⟩;refine goW ?_;rw[wrNat (by omega)];exact fin (by unfold sepB;rw[if_neg (by omega)];exact WrB.put _ _) b c d
  ·rw[dF z];have w:=ihk S' id _ hb hbl;refine goW ?_;refine call_rule (by rfl) (hm _ _ _ _ _ w ?_);rintro r S4 ⟨rfl,acc3,b,c,d⟩;refine goW ?_;rw[wrNat (by omega)];exact fin (by unfold sepB;rw[if_pos (by omega)];exact WrB.nil _) b c d
 ·clear one out done
  have hd:=(f7 rfl).2.2;have hlk:=(f7 rfl).2.1;have w:=hp S id acc [123] hb (by simp;omega);have hnl:=PT.len_nsq kids;simp only[PT.n]at hn;have ho:=ho keys hd (by omega);have hL:=@ordK_lt keys;have hLl:=ordK_len keys;generalize ordK keys=L at ho hL hLl hf;have hil:=ints_len L;refine goW ?_;refine call_rule (by rfl) (hm _ _ _ _ _ w ?_);rintro r S2 ⟨rfl,hb2⟩;have hb2l:=putB_len (s:=[123]) hl (by simp);refine goW ?_;refine call_pf hm (by rfl) ho (goW ?_);refine loop_rule hm (α:=Nat) (λi env S'=>i<=L.length/\env=E_wr id (.mk 7 s keys kids) L i/\∃acc',BS S' id 78 acc'/\acc'.length<=68719476736/\WrB acc ([123]++recB keys (textsB kids) 0 (L.take i)) acc') (λi=>L.length-i) ?_ (a:=0) ⟨Nat.zero_le _,rfl,_,hb2,hb2l,by simpa[recB] using WrB.put acc [123]⟩
  clear hb hb2 hb2l w
  rintro i env S' ⟨hi,rfl,acc',hb,hbl,hw⟩;refine goW ?_;by_cases hc:(i:Int)<(ints L).length
  case neg =>
   rw[dF hc];rw[List.take_of_length_le (by omega)]at hw;have w:=hp S' id acc' [125] hb (by simp;omega);refine goW ?_;refine call_rule (by rfl) (hm _ _ _ _ _ w ?_);rintro r S3 ⟨rfl,hb3⟩;refine goW ?_;refine⟨_,rfl,rfl,_,hb3,putB_len hbl (by simp),?_⟩;rw[hf];exact hw.trans (WrB.put acc' [125])
  rw[dT hc];have hik:i<L.length:=by omega
  have hj:=hL (List.getElem_mem hik);have hgi:(ints L)[i]? = some (.int .i64 (L[i]:Nat)):=ints_get (gE hik);have htk:recB keys (textsB kids) 0 (L.take (i+1))=recB keys (textsB kids) 0 (L.take i)++(sepB i++((quoteB (keys.getD L[i] [])++[58,32])++(textsB kids).getD L[i] [])):=by
   rw[tS hik,recB_snoc,lT,Nat.min_eq_left (by omega),Nat.zero_add]
  generalize L[i]=j at hj hgi htk;have hjk:j<kids.length:=by omega
  have g1:keys.getD j []=keys[j]:=getD_at hj;have g2:(textsB kids).getD j []=textB kids[j]:=by rw[getD_at (by rw[textsB_map,List.length_map];exact hjk)];simp only[textsB_map,List.getElem_map]
  rw[g1,g2]at htk;have hkl:=hs2 keys[j] (List.getElem_mem hj);have hqk:=hq keys[j] hkl;rw[hvk rfl _ (List.getElem_mem hj),if_pos rfl,if_pos rfl]at hqk;have hql:=quoteB_len keys[j];have sj:=strs_at hj;generalize keys[j]=kj at hkl hqk sj htk hql;have e1:=encTs_get hjk;have r1:=rdT kids[j];have ihk:=ih _ (kid_lt hjk) (formedBs_get hjk fk) (PT.oks_get hk3 (gE hjk)) (PT.soks_get hjk hs5);unfold TWC at ihk;obtain⟨ka,sa,xa,ya,ga⟩:=encT_agg kids[j];rw[ga]at ihk e1 r1;generalize textB kids[j]=tx at ihk htk;have fin:∀{S4:St} {acc2 acc3:List UInt8},WrB acc' (sepB i) acc2->BS S4 id 78 acc3->acc3.length<=68719476736->WrB (putB acc2 (quoteB kj++[58,32])) tx acc3->∃a:Nat,(a<=L.length/\E_wr id (.mk 7 s keys kids) L ((i+1:Nat):Int)=E_wr id (.mk 7 s keys kids) L a/\∃acc',BS S4 id 78 acc'/\acc'.length<=68719476736/\WrB acc ([123]++recB keys (textsB kids) 0 (L.take a)) acc')/\L.length-a<L.length-i :=
   λa b c d=>⟨i+1,⟨by omega,rfl,_,b,c,by rw[htk,<-aA];exact hw.trans (a.trans ((WrB.put _ _).trans d))⟩,by omega⟩
  refine goW ?_;refine step_ruleO (sx_ia (k:=i) rfl rfl (by omega)) (goW ?_);refine step_ruleO (sx_ldEl (agg:=false) rfl rfl hgi rfl) (goW ?_);by_cases z:(i:Int) > 0
  case' pos =>
   rw[dT z];have w:=hp S' id acc' [44,32] hb (by simp;omega);refine goW ?_;refine call_rule (by rfl) (hm _ _ _ _ _ w ?_);rintro r S3 ⟨rfl,hb3⟩;have hbl3:=putB_len (s:=[44,32]) hbl (by simp);have sp:WrB acc' (sepB i) (putB acc' [44,32]):=by unfold sepB;rw[if_neg (by omega)];exact WrB.put _ _
   generalize putB acc' [44,32]=acc2 at hb3 hbl3 sp
  case' neg =>
   rw[dF z];have hb3:=hb;have hbl3:=hbl;have sp:WrB acc' (sepB i) acc':=by unfold sepB;rw[if_pos (by omega)];exact WrB.nil _
  all_goals
   refine goW ?_;refine step_ruleO (sx_ia (k:=j) rfl rfl (by omega)) (goW ?_);refine step_ruleO (sx_ldEl (agg:=false) rfl rfl sj rfl) (goW ?_);refine call_pf hm (by rfl) hqk (goW ?_);refine step_ruleO (st_addS rfl rfl (by simp only[lC,lN];omega)) ?_;have w:=hp _ id _ (quoteB kj++[58,32]) hb3 (by simp only[lA,lC,lN];omega);refine goW ?_;refine call_rule (by rfl) (hm _ _ _ _ _ w ?_);rintro r S5 ⟨rfl,hb5⟩;have w:=ihk S5 id _ hb5 (putB_len hbl3 (by simp only[lA,lC,lN];omega));refine goW ?_;refine step_ruleO (sx_ia (k:=j) rfl rfl (by omega)) (goW ?_);refine step_ruleO (sx_ldEl (agg:=true) rfl rfl e1 r1) (goW ?_);refine call_rule (by rfl) (hm _ _ _ _ _ w ?_);rintro r S4 ⟨rfl,acc3,b,c,d⟩;refine goW ?_;rw[wrNat (by omega)];exact fin sp b c d
end

section
variable {gt:GT}{C:CallT}
theorem right_formed {t:PT}(h:rightB t=0):formedB t=true:=by
 unfold rightB at h;split at h
 ·cases h
 ·split at h
  ·cases h
  ·split at h
   ·assumption
   ·cases h
end

theorem norm_ne {s:List UInt8}(h:(normB s).2=0):(normB s).1≠[]:=by
 obtain⟨_,e⟩:=norm_split h;rw[e]at h ⊢;generalize (splitB s).1=p at h;intro e;unfold joinB at h e;by_cases z1:runB p.2.1<p.2.1.length\/(hd 48 p.2.1=true\/tl 48 p.2.1=true)\/(p.2.1=[]/\(p.2.2≠0\/p.1=true))
 ·rw[if_pos z1]at h;cases h
 rw[if_neg z1]at h e;by_cases z2:p.2.2 < -999999\/999999<p.2.2
 ·rw[if_pos z2]at h;cases h
 rw[if_neg z2]at h e;by_cases z3:p.2.1=[]
 ·rw[if_pos z3]at e;cases e
 rw[if_neg z3]at h e;have key:((if p.1=true then [45]++p.2.1 else p.2.1)++(if p.2.2=0 then [] else [101]++itoaB p.2.2))≠[]:=by
  intro q;have q:=(List.append_eq_nil_iff.1 q).1;split at q
  ·cases q
  ·exact z3 q
 generalize ((if p.1=true then [45]++p.2.1 else p.2.1)++(if p.2.2=0 then [] else [101]++itoaB p.2.2))=w at h e key;by_cases z4:1000<w.length
 ·rw[if_pos z4]at h;cases h
 ·rw[if_neg z4]at e;exact key e
theorem textB_ne {t:PT}(h:formedB t=true):textB t≠[]:=by
 obtain⟨k,s,keys,kids⟩:=t;have kd:=formed_kind h;have kc:k=1\/k=2\/k=3\/k=4\/k=5\/k=6\/k=7:=by omega
 rw[textB];rcases kc with rfl | rfl | rfl | rfl | rfl | rfl | rfl
 ·simp
 ·simp only[formedB,bA]at h;have h2:=h.2;unfold shapeB at h2;rw[if_neg (by omega),if_pos rfl,bA,Bool.or_eq_true]at h2;rw[if_neg (by omega),if_pos (.inl rfl)];rcases h2.2 with e | e<;>rw[beqB_iff.1 e]<;>simp
 ·obtain⟨a,b⟩:=formed_num h;rw[if_neg (by omega),if_pos (.inr rfl),<-b];exact norm_ne a
 ·rw[if_neg (by omega),if_neg (by omega),if_pos rfl];simp[quoteB]
 ·rw[if_neg (by omega),if_neg (by omega),if_neg (by omega),if_pos rfl];simp
 ·rw[if_neg (by omega),if_neg (by omega),if_neg (by omega),if_neg (by omega),if_pos rfl];simp
 ·rw[if_neg (by omega),if_neg (by omega),if_neg (by omega),if_neg (by omega),if_neg (by omega)];simp
def textR (t:PT):List UInt8×Int:=if rightB t=0 then (if 65536<(textB t).length then ([],2) else (textB t,0)) else ([],rightB t)
theorem WrB.end {f b:List UInt8}(h:WrB [] f b):(65536<b.length↔65536<f.length)/\(¬65536<f.length->b=f):=by
 unfold WrB at h;rw[List.nil_append]at h;rcases h with rfl | ⟨a,c⟩
 ·exact⟨Iff.rfl,λ_=>rfl⟩
 ·exact⟨⟨λ_=>c,λ_=>a⟩,λh=>absurd c h⟩
section
variable {gt:GT}{C:CallT}
theorem tText_wp (hm:MonoC C){t:PT}(hr:PF C 16 [encT t] (.int .i64 (rightB t)))(hw:formedB t=true->TWC C t)
  (hln:∀(S:St) (id:Nat) (ty:TypeId) (acc:List UInt8),BS S id ty acc->C 48 [.ptr id 0] S λr S'=>r=.ret (.int .i64 acc.length)/\S'=S)
  (hst:∀(S:St) (id:Nat) (ty:TypeId) (acc:List UInt8),BS S id ty acc->acc≠[]->acc.length<=17592186044416->C 49 [.ptr id 0] S λr S'=>r=.ret (.str acc)) :
  wpF gt C F15 [encT t] St.init (Ret (.tup [.str (textR t).1,.int .i64 (textR t).2])):=by
 have ret:∀{o:List UInt8×Int} {S:St},textR t=o->Ret (.tup [.str (textR t).1,.int .i64 (textR t).2]) (.ret (.tup [.str o.1,.int .i64 o.2])) S:=λh=>by rw[h];exact Ret.sta ⟨trivial,trivial,trivial⟩
 have hf:textR t=if rightB t=0 then (if 65536<(textB t).length then ([],2) else (textB t,0)) else ([],rightB t):=rfl
 have fm:=right_formed (t:=t);have ne:=textB_ne (t:=t);generalize textR t=res at ret hf ⊢;generalize rightB t=e at hr hf fm;unfold TWC at hw;generalize textB t=tx at hf hw ne;obtain⟨ka,sa,xa,ya,ga⟩:=encT_agg t;rw[ga]at hr hw ⊢;refine⟨rfl,?_⟩;refine goW ?_;refine call_pf hm (by rfl) hr (goW ?_);by_cases z:e=0
 case neg =>
  rw[neI_true z];rw[if_neg z]at hf;refine goW ?_;exact⟨_,rfl,ret hf⟩
 rw[neI_false z];rw[if_pos z]at hf;have hb:=hs_newB 78 (.inr rfl);have w:=hw (fm z) _ 0 [] hb (by simp);refine goW ?_;refine call_rule (by rfl) (hm _ _ _ _ _ w ?_);rintro r S2 ⟨rfl,acc,hb,hl,hr⟩;obtain⟨e1,e2⟩:=hr.end;have w:=hln _ _ _ _ hb;refine goW ?_;refine call_rule (by rfl) (hm _ _ _ _ _ w ?_);rintro r S3 ⟨rfl,rfl⟩;refine goW ?_;by_cases c:(acc.length:Int) > 65536
 ·rw[dT c];rw[if_pos (e1.1 (by omega))]at hf;refine goW ?_;exact⟨_,rfl,ret hf⟩
 rw[dF c];have c2:¬65536<tx.length:=λh=>c (by have:=e1.2 h;omega);rw[if_neg c2]at hf;obtain rfl:=e2 c2;have w:=hst _ _ _ _ hb (ne (fm z)) (by omega);refine goW ?_;refine call_rule (by rfl) (hm _ _ _ _ _ w ?_);rintro r S4 rfl;refine goW ?_;exact⟨_,rfl,ret hf⟩
end

section
variable {gt:GT}{C:CallT}
end

section
variable {gt:GT}{C:CallT}
end
section
variable {gt:GT}{C:CallT}
end

section
variable {gt:GT}{C:CallT}
end
end Go.Dn

namespace Go.Proofs.YthgidapmofcloaaGreatDoor.Fn
open Go.ChangeShapes Go.WideShapes Go.ChangeAt Go.RowKit Go.Dn
theorem bCheck (S:St)(id:Nat)(ty:TypeId)(acc:List UInt8)(h:BS S id ty acc):A 159 [.ptr id 0] S λr S'=>r=.ret (.tup [])/\∃o,Hs S' (R_b id ty (.ptr id 0) o acc) :=
 AC_intro Tryz.checked.mixed Tryz.func159 (by kernel_rfl) C1.F159_ok (copyCheck_wp hm h)
theorem bStr (S:St)(id:Nat)(ty:TypeId)(acc s:List UInt8)(h:BS S id ty acc)(hl:acc.length+s.length<1099511627776):A 128 [.ptr id 0,.str s] S λr S'=>r=.ret (.tup [.int .i64 s.length,.nilif])/\BS S' id ty (acc++s) :=
 AC_intro Tryz.checked.mixed Tryz.func128 (by kernel_rfl) C1.F128_ok (writeString_wp hm bCheck h hl)
theorem bByte (S:St)(id:Nat)(ty:TypeId)(acc:List UInt8)(c:UInt8)(h:BS S id ty acc)(hl:acc.length<1099511627776):A 129 [.ptr id 0,.int .u8 c.toNat] S λr S'=>r=.ret .nilif/\BS S' id ty (acc++[c]) :=
 AC_intro Tryz.checked.mixed Tryz.func129 (by kernel_rfl) C1.F129_ok (writeByte_wp hm bCheck h hl)
theorem bLen (S:St)(id:Nat)(ty:TypeId)(acc:List UInt8)(h:BS S id ty acc):A 48 [.ptr id 0] S λr S'=>r=.ret (.int .i64 acc.length)/\S'=S :=
 AC_intro Tryz.checked.mixed Tryz.func48 (by kernel_rfl) C1.F48_ok (bLen_wp h)
theorem bString (S:St)(id:Nat)(ty:TypeId)(acc:List UInt8)(h:BS S id ty acc)(h0:acc≠[])(hl:acc.length<=17592186044416):A 49 [.ptr id 0] S λr S'=>r=.ret (.str acc) :=
 AC_intro Tryz.checked.mixed Tryz.func49 (by kernel_rfl) C1.F49_ok (bString_wp h h0 hl)
theorem short (b:UInt8):PF A 130 [.int .u8 b.toNat] (.int .u8 (shortB b).toNat) :=
 pf Tryz.func130 (by kernel_rfl) C1.F130_ok (s1 trivial) short_wp
theorem tdigit (n:Nat)(h:n<256):PF A 131 [.int .i64 n] (.int .u8 (hexB (n % 16)).toNat) :=
 pf Tryz.func131 (by kernel_rfl) C1.F131_ok (s1 trivial) (tdigit_wp h)
theorem quote (s:List UInt8)(h:s.length<4294967281):PF A 80 [.str s] (.tup [.str (if validB s=true then quoteB s else []),.int .i64 (if validB s=true then 0 else 10)]) :=
 pf Tryz.func80 (by kernel_rfl) C1.F80_ok (s1 trivial) (quote_wp hm validU bByte bStr bString short tdigit h)
theorem putT:PutC A:=λS id acc s h hl =>
 AC_intro Tryz.checked.mixed Tryz.func79 (by kernel_rfl) C1.F79_ok (put_wp hm bLen bStr h hl)
theorem wtree:∀t:PT,formedB t=true->t.ok->t.sok->t.n<1099511627776->TWC A t :=
 indT λt ih ft hk hs hn S id acc hb hl=>AC_intro Tryz.checked.mixed Tryz.func47 (by kernel_rfl) C1.F47_ok (wtree_wp hm putT quote order (λu h a b c=>ih u h a b c (by omega)) ft hk hs hn hb hl)
theorem tText (t:PT)(hk:t.ok)(hs:t.sok)(hn:t.n<1099511627776):PF A 15 [encT t] (.tup [.str (textR t).1,.int .i64 (textR t).2]) :=
 pf Tryz.func15 (by kernel_rfl) C1.F15_ok (s1 (sta_T t)) (tText_wp hm (right t (by omega) hs) (λh=>wtree t h hk hs hn) bLen bString)
end Go.Proofs.YthgidapmofcloaaGreatDoor.Fn

namespace Go.Proofs.YthgidapmofcloaaGreatDoor
open Go.Dn
theorem bulk_keys:∀l:List (List UInt8),bulkAs (strs l)<=1048576->(∀s∈l,s.length<=1048576)/\l.length<=1048576
 | [],_=>⟨λs h=>by simp at h,by simp⟩
 | a::r,h=>by
  have e:strs (a::r)=.str a::strs r:=rfl;rw[e]at h;simp only[bulkAs,bulkA]at h;have ih:=bulk_keys r (by omega);have h0:=bulk_strs0 r;refine⟨λs hs=>?_,by simp only[lC];omega⟩;rcases List.mem_cons.1 hs with rfl | hs
  ·omega
  ·exact ih.1 s hs
mutual
theorem bulk_sok:∀t:PT,bulkA (encT t)<=1048576->t.sok/\t.n<=bulkA (encT t)
 |.mk k s keys kids,h=>by
  simp only[encT,bulkA,bulkAs]at h ⊢;have h1:=bulk_keys keys (by omega);have h2:=bulk_soks kids (by omega);have h3:=bulk_Ts kids (by omega);simp only[PT.sok,PT.n];exact⟨⟨by omega,λs hs=>by have:=h1.1 s hs;omega,by omega,by omega,h2.1⟩,by omega⟩
theorem bulk_soks:∀l:List PT,bulkAs (encTs l)<=1048576->PT.soks l/\PT.ns l<=bulkAs (encTs l)
 | [],_=>⟨trivial,Nat.zero_le _⟩
 | t::r,h=>by
  simp only[encTs,bulkAs]at h;have h1:=bulk_sok t (by omega);have h2:=bulk_soks r (by omega);simp only[PT.soks,encTs,bulkAs,PT.ns];exact⟨⟨h1.1,h2.1⟩,by omega⟩
end
end Go.Proofs.YthgidapmofcloaaGreatDoor

namespace Go.Dn
open Go Go.Proofs.C1
set_option maxRecDepth 100000
def chN (c:Nat):Prop:=c<55296\/(57343<c/\c<=1114111)
theorem charB_iff {c:Nat}:charB (c:Int)=true↔chN c:=by
 unfold charB chN;rw[decide_eq_true_eq];omega
def encL:List Nat->List UInt8
 | []=>[]
 | c::r=>encC c++encL r
theorem encL_app:∀a b:List Nat,encL (a++b)=encL a++encL b
 | [],_=>rfl
 | c::r,b=>by simp only[List.cons_append,encL,encL_app r b,aA]
theorem encC_lo {c:Nat}(h:c<128):encC c=[UInt8.ofNat c]:=by unfold encC;rw[if_pos h]
theorem u8of {n:Nat}(h:n<256):(UInt8.ofNat n).toNat=n:=by rw[UInt8.toNat_ofNat',Nat.mod_eq_of_lt h]
theorem u8eq {b:UInt8}{n:Nat}(h:b.toNat=n):UInt8.ofNat n=b:=by
 have:=u8_lt b;exact UInt8.toNat_inj.1 (by rw[u8of (by omega),h])
theorem encC_hi {c:Nat}(h:128<=c)(hc:c<=1114111):∀b∈encC c,128<=b.toNat:=by
 intro b hb;unfold encC at hb;rw[if_neg (by omega)]at hb;by_cases h1:c<2048
 ·rw[if_pos h1]at hb;simp only[List.mem_cons,List.not_mem_nil,or_false]at hb;rcases hb with rfl | rfl<;>rw[u8of (by omega)]<;>omega
 rw[if_neg h1]at hb;by_cases h2:c<65536
 ·rw[if_pos h2]at hb;simp only[List.mem_cons,List.not_mem_nil,or_false]at hb;rcases hb with rfl | rfl | rfl<;>rw[u8of (by omega)]<;>omega
 rw[if_neg h2]at hb;simp only[List.mem_cons,List.not_mem_nil,or_false]at hb;rcases hb with rfl | rfl | rfl | rfl<;>rw[u8of (by omega)]<;>omega
theorem firstC_enc {c:Nat}(h:chN c)(r:List UInt8):firstC (encC c++r)=(c,(encC c).length):=by
 have hb:charB (c:Int)=true:=charB_iff.2 h;unfold chN at h;unfold encC;by_cases h0:c<128
 ·rw[if_pos h0];simp only[List.cons_append,List.nil_append,firstC,u8of (show c<256 by omega),leadB,if_pos h0];rw[if_neg (by omega)];simp only[show 1-1=0 from rfl,contV];rw[hb];simp
 rw[if_neg h0];by_cases h1:c<2048
 ·rw[if_pos h1];have e1:(UInt8.ofNat (192+c / 64)).toNat=192+c / 64:=u8of (by omega);have e2:(UInt8.ofNat (128+c % 64)).toNat=128+c % 64:=u8of (by omega);simp only[List.cons_append,List.nil_append,firstC,e1,leadB];rw[if_neg (show ¬192+c / 64<128 by omega),if_neg (show ¬192+c / 64<192 by omega),if_pos (show 192+c / 64<224 by omega)];rw[if_neg (by simp)];simp only[show 2-1=0+1 from rfl,contV,e2];rw[if_pos (by omega)];simp only;rw[show (192+c / 64-192)*64+(128+c % 64-128)=c by omega,hb];simp;omega
 rw[if_neg h1];by_cases h2:c<65536
 ·rw[if_pos h2];have e1:(UInt8.ofNat (224+c / 4096)).toNat=224+c / 4096:=u8of (by omega);have e2:(UInt8.ofNat (128+c / 64 % 64)).toNat=128+c / 64 % 64:=u8of (by omega);have e3:(UInt8.ofNat (128+c % 64)).toNat=128+c % 64:=u8of (by omega);simp only[List.cons_append,List.nil_append,firstC,e1,leadB];rw[if_neg (show ¬224+c / 4096<128 by omega),if_neg (show ¬224+c / 4096<192 by omega),if_neg (show ¬224+c / 4096<224 by omega),if_pos (show 224+c / 4096<240 by omega)];rw[if_neg (by simp)];simp only[show 3-1=0+1+1 from rfl,contV,e2,e3];rw[if_pos (by omega),if_pos (by omega)];simp only;rw[show ((224+c / 4096-224)*64+(128+c / 64 % 64-128))*64+(128+c % 64-128)=c by omega,hb];simp;omega
 rw[if_neg h2];have e1:(UInt8.ofNat (240+c / 262144)).toNat=240+c / 262144:=u8of (by omega);have e2:(UInt8.ofNat (128+c / 4096 % 64)).toNat=128+c / 4096 % 64:=u8of (by omega);have e3:(UInt8.ofNat (128+c / 64 % 64)).toNat=128+c / 64 % 64:=u8of (by omega);have e4:(UInt8.ofNat (128+c % 64)).toNat=128+c % 64:=u8of (by omega);simp only[List.cons_append,List.nil_append,firstC,e1,leadB];rw[if_neg (show ¬240+c / 262144<128 by omega),if_neg (show ¬240+c / 262144<192 by omega),if_neg (show ¬240+c / 262144<224 by omega),if_neg (show ¬240+c / 262144<240 by omega),if_pos (show 240+c / 262144<248 by omega)];rw[if_neg (by simp)];simp only[show 4-1=0+1+1+1 from rfl,contV,e2,e3,e4];rw[if_pos (by omega),if_pos (by omega),if_pos (by omega)];simp only;rw[show (((240+c / 262144-240)*64+(128+c / 4096 % 64-128))*64+(128+c / 64 % 64-128))*64+(128+c % 64-128)=c by omega,hb];simp;omega
theorem firstC_dec {s:List UInt8}(h:(firstC s).2≠0):chN (firstC s).1/\∃r,s=encC (firstC s).1++r/\(firstC s).2=(encC (firstC s).1).length:=by
 cases s with
 | nil=>exact absurd rfl h
 | cons b r =>
  have hb:=u8_lt b;simp only[firstC]at h ⊢;by_cases h1:(leadB b.toNat).1=0\/r.length+1<(leadB b.toNat).1
  ·rw[if_pos h1]at h;exact absurd rfl h
  rw[if_neg h1]at h ⊢;cases hc:contV ((leadB b.toNat).1-1) r (leadB b.toNat).2.1 with
  | none=>rw[hc]at h;exact absurd rfl h
  | some c =>
   rw[hc]at h;simp only at h ⊢;by_cases h2:c<(leadB b.toNat).2.2\/charB c=false
   ·rw[if_pos h2]at h;exact absurd rfl h
   rw[if_neg h2];have hch:chN c:=charB_iff.1 (by cases q:charB (c:Int) with | true=>rfl | false=>exact absurd (.inr q) h2);refine⟨hch,?_⟩;have h3:(leadB b.toNat).2.2<=c:=by omega
   unfold chN at hch;unfold leadB at hc h3 h1 ⊢
   dsimp only
   by_cases a1:b.toNat<128
   ·rw[if_pos a1]at hc ⊢;simp only[show 1-1=0 from rfl,contV,oI]at hc;subst hc;rw[encC_lo a1,u8eq rfl];exact⟨r,rfl,rfl⟩
   rw[if_neg a1]at hc h3 h1 ⊢;by_cases a2:b.toNat<192
   ·rw[if_pos a2]at h1;exact absurd (.inl rfl) h1
   rw[if_neg a2]at hc h3 h1 ⊢;by_cases a3:b.toNat<224
   ·rw[if_pos a3]at hc h3 ⊢;cases r with
    | nil=>simp only[show 2-1=0+1 from rfl,contV]at hc;cases hc
    | cons x r =>
     simp only[show 2-1=0+1 from rfl,contV]at hc h3;by_cases b1:128<=x.toNat/\x.toNat<192
     ·rw[if_pos b1,oI]at hc;subst hc;refine⟨r,?_,?_⟩<;>unfold encC<;>rw[if_neg (by omega),if_pos (by omega)]
      ·rw[u8eq (b:=b) (by omega),u8eq (b:=x) (by omega)];rfl
      ·rfl
     ·rw[if_neg b1]at hc;cases hc
   rw[if_neg a3]at hc h3 h1 ⊢;by_cases a4:b.toNat<240
   ·rw[if_pos a4]at hc h3 ⊢;cases r with
    | nil=>simp only[show 3-1=0+1+1 from rfl,contV]at hc;cases hc
    | cons x r =>
     simp only[show 3-1=0+1+1 from rfl,contV]at hc h3;by_cases b1:128<=x.toNat/\x.toNat<192
     case neg=>rw[if_neg b1]at hc;cases hc
     rw[if_pos b1]at hc;cases r with
     | nil=>simp only[contV]at hc;cases hc
     | cons y r =>
      simp only[contV]at hc;by_cases b2:128<=y.toNat/\y.toNat<192
      case neg=>rw[if_neg b2]at hc;cases hc
      rw[if_pos b2,oI]at hc;subst hc;refine⟨r,?_,?_⟩<;>unfold encC<;>rw[if_neg (by omega),if_neg (by omega),if_pos (by omega)]
      ·rw[u8eq (b:=b) (by omega),u8eq (b:=x) (by omega),u8eq (b:=y) (by omega)];rfl
      ·rfl
   rw[if_neg a4]at hc h3 h1 ⊢;by_cases a5:b.toNat<248
   case neg=>rw[if_neg a5]at h1;exact absurd (.inl rfl) h1
   rw[if_pos a5]at hc h3 ⊢;cases r with
   | nil=>simp only[show 4-1=0+1+1+1 from rfl,contV]at hc;cases hc
   | cons x r =>
    simp only[show 4-1=0+1+1+1 from rfl,contV]at hc h3;by_cases b1:128<=x.toNat/\x.toNat<192
    case neg=>rw[if_neg b1]at hc;cases hc
    rw[if_pos b1]at hc;cases r with
    | nil=>simp only[contV]at hc;cases hc
    | cons y r =>
     simp only[contV]at hc;by_cases b2:128<=y.toNat/\y.toNat<192
     case neg=>rw[if_neg b2]at hc;cases hc
     rw[if_pos b2]at hc;cases r with
     | nil=>simp only[contV]at hc;cases hc
     | cons z r =>
      simp only[contV]at hc;by_cases b3:128<=z.toNat/\z.toNat<192
      case neg=>rw[if_neg b3]at hc;cases hc
      rw[if_pos b3,oI]at hc;subst hc;refine⟨r,?_,?_⟩<;>unfold encC<;>rw[if_neg (by omega),if_neg (by omega),if_neg (by omega)]
      ·rw[u8eq (b:=b) (by omega),u8eq (b:=x) (by omega),u8eq (b:=y) (by omega),u8eq (b:=z) (by omega)];rfl
      ·rfl
theorem valid_dec:∀(n:Nat) (s:List UInt8) (k:Nat),s.length<=n->badI s k<0->∃cs,(∀c∈cs,chN c)/\s=encL cs:=by
 intro n
 induction n with
 | zero =>
  intro s k hn _;obtain rfl:s=[]:=nL (by omega);exact⟨[],λc hc=>(by cases hc),rfl⟩
 | succ n ih =>
  intro s k hn hv;by_cases h:s=[]
  ·subst h;exact⟨[],λc hc=>(by cases hc),rfl⟩
  by_cases h0:(firstC s).2=0
  ·rw[badI_bad h h0]at hv;omega
  ·rw[badI_go h h0]at hv;obtain⟨h1,r,h2,h3⟩:=firstC_dec h0;have h4:=(encC_len (firstC s).1).1;have h5:s.drop (firstC s).2=r:=by
    rw[h3];generalize (firstC s).1=c at h2 ⊢;subst h2;exact List.drop_left
   rw[h5]at hv;obtain⟨cs,h6,h7⟩:=ih r _ (by have:=congrArg List.length h2;rw[lA]at this;omega) hv;refine⟨(firstC s).1::cs,λc hc=>?_,?_⟩
   ·rcases List.mem_cons.1 hc with rfl | hc
    ·exact h1
    ·exact h6 c hc
   ·rw[encL,<-h7];exact h2
theorem valid_enc:∀(cs:List Nat) (k:Nat),(∀c∈cs,chN c)->badI (encL cs) k<0
 | [],k,_=>by rw[encL,badI_nil];decide
 | c::r,k,h=>by
  have h1:=firstC_enc (h c (List.mem_cons_self ..)) (encL r);have h4:=(encC_len c).1;have hne:encL (c::r)≠[]:=λe=>by have:=congrArg List.length e;rw[encL,lA,lN]at this;omega
  have h2:firstC (encL (c::r))=(c,(encC c).length):=h1;rw[badI_go hne (by rw[h2];show (encC c).length≠0;omega),h2];rw[encL,List.drop_left];exact valid_enc r _ λd hd=>h d (List.mem_cons_of_mem _ hd)
theorem valid_iff {s:List UInt8}{k:Nat}:badI s k<0↔∃cs,(∀c∈cs,chN c)/\s=encL cs:=⟨λh=>valid_dec _ s k (nR _) h,λ⟨cs,h1,h2⟩=>h2 ▸ valid_enc cs k h1⟩

theorem hexV_hexB {n:Nat}(h:n<16):hexV (hexB n)=n:=by
 have:∀n:Fin 16,hexV (hexB n.val)=(n.val:Int):=by decide
 exact this ⟨n,h⟩
theorem quoL_byte {b:UInt8}{r:List UInt8}{i:Nat}{acc:List UInt8}(h1:b.toNat≠34)(h2:32<=b.toNat)(h3:b.toNat≠92):quoL (b::r) i acc=quoL r (i+1) (acc++[b]):=by
 rw[quoL,if_neg h1,if_neg (by omega),if_neg h3]
theorem quoL_raw {r:List UInt8}:∀{a:List UInt8} {i:Nat} {acc:List UInt8},(∀b∈a,128<=b.toNat)->quoL (a++r) i acc=quoL r (i+a.length) (acc++a)
 | [],i,acc,_=>by simp
 | b::a,i,acc,h=>by
  have:=h b (List.mem_cons_self ..);rw[List.cons_append,quoL_byte (by omega) (by omega) (by omega),quoL_raw (λx hx=>h x (List.mem_cons_of_mem _ hx)),lC,aA];rw[show i+1+a.length=i+(a.length+1) by omega];rfl
theorem quoL_slash {r:List UInt8}{i:Nat}{acc:List UInt8}{p:Nat×Nat}(h:escU r=some p):quoL (92::r) i acc=quoL (r.drop p.2) (i+1+p.2) (acc++encC p.1):=by
 rw[quoL,if_neg (by decide),if_neg (by decide),if_pos (show (92:UInt8).toNat=92 from rfl),h]
theorem escU_u (R:List UInt8):escU (117::R)=pairB R:=rfl
theorem quoL_esc (b:UInt8)(r:List UInt8)(i:Nat)(acc:List UInt8):quoL (escB b++r) i acc=quoL r (i+(escB b).length) (acc++[b]):=by
 unfold escB;by_cases h1:shortB b≠0
 ·rw[if_pos h1];have key:escU (shortB b::r)=some (b.toNat,1)/\b.toNat<128:=by
   unfold shortB at h1 ⊢;by_cases a1:b=34\/b=92
   ·rw[if_pos a1];rcases a1 with rfl | rfl<;>exact⟨rfl,by decide⟩
   rw[if_neg a1]at h1 ⊢;by_cases a2:b=8
   ·subst a2;exact⟨rfl,by decide⟩
   rw[if_neg a2]at h1 ⊢;by_cases a3:b=9
   ·subst a3;exact⟨rfl,by decide⟩
   rw[if_neg a3]at h1 ⊢;by_cases a4:b=10
   ·subst a4;exact⟨rfl,by decide⟩
   rw[if_neg a4]at h1 ⊢;by_cases a5:b=12
   ·subst a5;exact⟨rfl,by decide⟩
   rw[if_neg a5]at h1 ⊢;by_cases a6:b=13
   ·subst a6;exact⟨rfl,by decide⟩
   rw[if_neg a6]at h1;exact absurd rfl h1
  show quoL (92::(shortB b::r)) i acc=_;rw[quoL_slash key.1,encC_lo key.2,u8eq rfl];rfl
 rw[if_neg h1];have h1:shortB b=0:=Decidable.byContradiction h1;have hb:=u8_lt b;by_cases h2:b.toNat<32\/b=127
 ·rw[if_pos h2];have hb2:b.toNat<128:=by rcases h2 with h | rfl;omega;decide
  have key:escU (117::48::48::hexB (b.toNat / 16)::hexB (b.toNat % 16)::r)=some (b.toNat,5):=by
   have e:numH (48::48::hexB (b.toNat / 16)::hexB (b.toNat % 16)::r) 4 0=b.toNat:=by
    simp only[numH,hexV_hexB (show b.toNat / 16<16 by omega),hexV_hexB (show b.toNat % 16<16 by omega),show hexV 48=0 from rfl];rw[if_neg (by decide),if_neg (by decide),if_neg (by omega),if_neg (by omega)];simp only[Int.toNat_natCast,show (0:Int).toNat=0 from rfl];omega
   rw[escU_u];unfold pairB;rw[e,if_neg (by omega),if_pos (.inl (by omega)),Int.toNat_natCast]
  show quoL (92::(117::48::48::hexB (b.toNat / 16)::hexB (b.toNat % 16)::r)) i acc=_;rw[quoL_slash key,encC_lo hb2,u8eq rfl];rfl
 ·rw[if_neg h2];have n1:¬b=34:=λe=>by subst e;exact absurd h1 (by decide)
  have n2:¬b=92:=λe=>by subst e;exact absurd h1 (by decide)
  have m1:b.toNat≠34:=λe=>n1 (UInt8.toNat_inj.1 e);have m2:b.toNat≠92:=λe=>n2 (UInt8.toNat_inj.1 e);exact quoL_byte m1 (by omega) m2
theorem quoL_escs (rest:List UInt8):∀(s:List UInt8) (i:Nat) (acc:List UInt8),quoL (escs s++(34::rest)) i acc=.ok (acc++s) (i+(escs s).length+1)
 | [],i,acc=>by
  show quoL (34::rest) i acc=_;rw[quoL,if_pos (show (34:UInt8).toNat=34 from rfl),List.append_nil];rfl
 | b::s,i,acc=>by
  rw[escs,aA,quoL_esc,quoL_escs rest s,aA,lA];rw[show i+(escB b).length+(escs s).length+1=i+((escB b).length+(escs s).length)+1 by omega];rfl
theorem quoB_quote (s rest:List UInt8):quoB (quoteB s++rest)=.ok s (quoteB s).length:=by
 unfold quoteB;rw[List.cons_append,List.cons_append,aA];show (if (34:UInt8).toNat=34 then quoL (escs s++(34::rest)) 1 [] else .bad 0 13)=_;rw[if_pos (show (34:UInt8).toNat=34 from rfl),quoL_escs];simp only[List.nil_append,lC,lA,lN];rw[show 1+(escs s).length+1=(escs s).length+0+1+1 by omega]
theorem numH_last:∀{k:Nat} {s:List UInt8} {n:Nat},0<=numH s (k+1) n->∃b,s[k]? = some b/\b.toNat<128
 | k,[],n,h=>by rw[numH]at h;omega
 | 0,b::r,n,h=>by
  rw[numH]at h;by_cases hb:hexV b<0
  ·rw[if_pos hb]at h;omega
  ·refine⟨b,rfl,?_⟩;unfold hexV at hb;by_cases h1:48<=b.toNat/\b.toNat<=57
   ·omega
   ·rw[if_neg h1]at hb;by_cases h2:97<=b.toNat/\b.toNat<=102
    ·omega
    ·rw[if_neg h2]at hb;by_cases h3:65<=b.toNat/\b.toNat<=70
     ·omega
     ·rw[if_neg h3]at hb;omega
 | k+1,b::r,n,h=>by
  rw[numH]at h;by_cases hb:hexV b<0
  ·rw[if_pos hb]at h;omega
  ·rw[if_neg hb]at h;rw[List.getElem?_cons_succ];exact numH_last h
theorem escU_last {s:List UInt8}{p:Nat×Nat}(h:escU s=some p):1<=p.2/\chN p.1/\∃b,s[p.2-1]? = some b/\b.toNat<128:=by
 cases s with
 | nil=>cases h
 | cons c r =>
  simp only[escU]at h;have one:∀{x:Nat},x<128->c.toNat<128->some (x,1)=some p->1<=p.2/\chN p.1/\∃b,(c::r)[p.2-1]? = some b/\b.toNat<128:=λhx hc e=>by
   cases e;exact⟨nR _,.inl (by show _<_;omega),c,rfl,hc⟩
  by_cases h1:c.toNat=34\/c.toNat=92\/c.toNat=47
  ·rw[if_pos h1]at h;exact one (by omega) (by omega) h
  rw[if_neg h1]at h;by_cases h2:c.toNat=98
  ·rw[if_pos h2]at h;exact one (by omega) (by omega) h
  rw[if_neg h2]at h;by_cases h3:c.toNat=116
  ·rw[if_pos h3]at h;exact one (by omega) (by omega) h
  rw[if_neg h3]at h;by_cases h4:c.toNat=110
  ·rw[if_pos h4]at h;exact one (by omega) (by omega) h
  rw[if_neg h4]at h;by_cases h5:c.toNat=102
  ·rw[if_pos h5]at h;exact one (by omega) (by omega) h
  rw[if_neg h5]at h;by_cases h6:c.toNat=114
  ·rw[if_pos h6]at h;exact one (by omega) (by omega) h
  rw[if_neg h6]at h;by_cases h7:c.toNat=117
  case neg=>rw[if_neg h7]at h;cases h
  rw[if_pos h7]at h;have b1:=numH_bd (s:=r) (k:=4) (n:=0);have b2:=numH_bd (s:=r.drop 6) (k:=4) (n:=0);rw[show (((0+1)*16 ^ 4:Nat):Int)=65536 by decide]at b1 b2;unfold pairB at h;by_cases h8:numH r 4 0<0
  ·rw[if_pos h8]at h;cases h
  rw[if_neg h8]at h;by_cases h9:numH r 4 0<55296\/numH r 4 0 > 57343
  ·rw[if_pos h9]at h;cases h;obtain⟨b,e1,e2⟩:=numH_last (k:=3) (n:=0) (s:=r) (show 0<=numH r 4 0 by omega);exact⟨show 1<=5 by decide,by show chN (numH r 4 0).toNat;unfold chN;omega,b,by show (c::r)[4]? = some b;rw[List.getElem?_cons_succ];exact e1,e2⟩
  rw[if_neg h9]at h;by_cases h10:numH r 4 0 ≥ 56320\/decide ([92,117] <+: r.drop 4)=false
  ·rw[if_pos h10]at h;cases h
  rw[if_neg h10]at h;by_cases h11:numH (r.drop 6) 4 0<56320\/numH (r.drop 6) 4 0 > 57343
  ·rw[if_pos h11]at h;cases h
  rw[if_neg h11]at h;cases h;obtain⟨b,e1,e2⟩:=numH_last (k:=3) (n:=0) (s:=r.drop 6) (show 0<=numH (r.drop 6) 4 0 by omega);refine⟨show 1<=11 by decide,?_,b,?_,e2⟩
  ·show chN (65536+(numH r 4 0-55296)*1024+numH (r.drop 6) 4 0-56320).toNat;unfold chN;omega
  ·show (c::r)[10]? = some b;rw[List.getElem?_cons_succ,<-e1,List.getElem?_drop]
theorem encL_at:∀(cs:List Nat) (i:Nat) (b:UInt8),(∀c∈cs,chN c)->(encL cs)[i]? = some b->b.toNat<128->∃r,(∀c∈r,chN c)/\(encL cs).drop i=encL (b.toNat::r)
 | [],i,b,_,h,_=>by simp[encL]at h
 | c::r,i,b,hc,h,hb=>by
  have h1:=hc c (List.mem_cons_self ..);by_cases hi:i<(encC c).length
  ·rw[encL,List.getElem?_append_left hi]at h;have hm:b∈encC c:=List.mem_iff_getElem?.2 ⟨i,h⟩;by_cases h2:c<128
   ·rw[encC_lo h2]at h hi;simp only[lC,lN]at hi;obtain rfl:i=0:=by omega
    simp only[List.getElem?_cons_zero,oI]at h;subst h;rw[u8of (by omega)];exact⟨r,λd hd=>hc d (List.mem_cons_of_mem _ hd),rfl⟩
   ·have:=encC_hi (by omega) (by unfold chN at h1;omega) b hm;omega
  ·rw[encL,List.getElem?_append_right (by omega)]at h;obtain⟨r',h3,h4⟩:=encL_at r _ b (λd hd=>hc d (List.mem_cons_of_mem _ hd)) h hb;refine⟨r',h3,?_⟩;rw[encL,List.drop_append,List.drop_eq_nil_of_le (by omega),List.nil_append];exact h4
theorem quoL_valid:∀(n:Nat) (cs:List Nat) (i:Nat) (az:List Nat) (t:List UInt8) (k:Nat),(encL cs).length<=n->(∀c∈cs,chN c)->(∀c∈az,chN c)->quoL (encL cs) i (encL az)=.ok t k->∃ts,(∀c∈ts,chN c)/\t=encL ts:=by
 intro n
 induction n with
 | zero =>
  intro cs i az t k hn hc ha h;have e:encL cs=[]:=nL (by omega);rw[e,quoL]at h;cases h
 | succ n ih =>
  intro cs i az t k hn hc ha h;cases cs with
  | nil=>rw[encL,quoL]at h;cases h
  | cons c r =>
   have hc1:=hc c (List.mem_cons_self ..);have hcr:∀d∈r,chN d:=λd hd=>hc d (List.mem_cons_of_mem _ hd);have hl:=(encC_len c).1;rw[encL,lA]at hn;by_cases h1:c<128
   case neg =>
    rw[encL,quoL_raw (encC_hi (by omega) (by unfold chN at hc1;omega))]at h;refine ih r _ (az++[c]) t k (by omega) hcr (λd hd=>?_) (by rw[encL_app,encL,encL,List.append_nil];exact h);rcases List.mem_append.1 hd with hd | hd
    ·exact ha d hd
    ·rw[List.mem_singleton.1 hd];exact hc1
   rw[encL,encC_lo h1,List.cons_append,List.nil_append,quoL,u8of (by omega)]at h;by_cases h2:c=34
   ·rw[if_pos h2]at h;cases h;exact⟨az,ha,rfl⟩
   rw[if_neg h2]at h;by_cases h3:c<32
   ·rw[if_pos h3]at h;cases h
   rw[if_neg h3]at h;by_cases h4:c=92
   case neg =>
    rw[if_neg h4]at h;refine ih r _ (az++[c]) t k (by omega) hcr (λd hd=>?_) (by rw[encL_app,encL,encL,List.append_nil,encC_lo h1];exact h);rcases List.mem_append.1 hd with hd | hd
    ·exact ha d hd
    ·rw[List.mem_singleton.1 hd];exact hc1
   rw[if_pos h4]at h;cases he:escU (encL r) with
   | none=>rw[he]at h;cases h
   | some p =>
    rw[he]at h;simp only at h;obtain⟨e1,e2,b,e3,e4⟩:=escU_last he;obtain⟨r',f1,f2⟩:=encL_at r (p.2-1) b hcr e3 e4;have f3:(encL r).drop p.2=encL r':=by
     rw[show p.2=(p.2-1)+1 by omega,<-List.drop_drop,f2,encL,encC_lo e4];rfl
    have f4:(encL r').length<=n:=by
     have g1:=congrArg List.length f3;rw[lD]at g1;omega
    rw[f3]at h;refine ih r' _ (az++[p.1]) t k f4 f1 (λd hd=>?_) (by rw[encL_app,encL,encL,List.append_nil];exact h);rcases List.mem_append.1 hd with hd | hd
    ·exact ha d hd
    ·rw[List.mem_singleton.1 hd];exact e2

theorem dig_of {n:Nat}(h:n<10):dig (UInt8.ofNat (48+n))=true:=by rw[dig_iff,u8of (by omega)];omega
theorem decB_dig (n:Nat):∀b∈decB n,dig b=true:=by
 induction n using Nat.strongRecOn with
 | _ n ih =>
  intro b hb;by_cases h:n<10
  ·rw[decB,dif_pos h,List.mem_singleton]at hb;rw[hb];exact dig_of h
  ·rw[decB_step h]at hb;rcases List.mem_append.1 hb with hb | hb
   ·exact ih (n / 10) (by omega) b hb
   ·rw[List.mem_singleton.1 hb];exact dig_of (by omega)
theorem decB_ne (n:Nat):decB n≠[]:=by
 by_cases h:n<10
 ·rw[decB,dif_pos h];exact List.cons_ne_nil _ _
 ·rw[decB_step h];simp
theorem decB_hd {n:Nat}(h0:0<n):hd 48 (decB n)=false:=by
 induction n using Nat.strongRecOn with
 | _ n ih =>
  by_cases h:n<10
  ·rw[decB,dif_pos h];show (UInt8.ofNat (48+n) == 48)=false;rw[beq_eq_false_iff_ne];intro e;have:=congrArg UInt8.toNat e;rw[u8of (by omega)]at this;have e48:(48:UInt8).toNat=48:=rfl;omega
  ·rw[decB_step h];have h1:=ih (n / 10) (by omega) (by omega);have h2:=decB_ne (n / 10);cases e:decB (n / 10) with
   | nil=>exact absurd e h2
   | cons b r=>rw[e]at h1;exact h1
theorem decB_len10:∀{k n:Nat},n<10 ^ k->0<k->(decB n).length<=k
 | 0,_,_,h=>by omega
 | k+1,n,h,_=>by
  by_cases hn:n<10
  ·rw[decB,dif_pos hn];simp
  ·rw[decB_step hn,lA];have hk:0<k:=by
    rcases Nat.eq_zero_or_pos k with rfl | hk
    ·omega
    ·exact hk
   have:=decB_len10 (k:=k) (n:=n / 10) (by rw[Nat.pow_succ]at h;omega) hk;simp only[lC,lN];omega
theorem valB_dec (n:Nat):valB 0 (decB n)=n:=by
 induction n using Nat.strongRecOn with
 | _ n ih =>
  by_cases h:n<10
  ·have e:decB n=[UInt8.ofNat (48+n)]:=by rw[decB,dif_pos h]
   have e2:valB 0 [UInt8.ofNat (48+n)]=0*10+((UInt8.ofNat (48+n)).toNat-48):=by rw[valB_cons,valB_nil]
   rw[e,e2,u8of (by omega)];omega
  ·have e:=valB_snoc (UInt8.ofNat (48+n % 10)) (decB (n / 10)) 0;rw[ih (n / 10) (by omega),u8of (by omega)]at e;exact(congrArg (valB 0) (decB_step h)).trans (e.trans (by omega))
theorem runB_pre:∀{w:List UInt8} (r:List UInt8),(∀b∈w,dig b=true)->(r=[]\/∃c t,r=c::t/\dig c=false)->runB (w++r)=w.length
 | [],r,_,h=>by
  rcases h with rfl | ⟨c,t,rfl,hc⟩
  ·rfl
  ·simp only[List.nil_append,runB,hc,lN,Bool.false_eq_true,if_false]
 | b::w,r,h,hr=>by
  have hb:=h b (List.mem_cons_self ..);simp only[List.cons_append,runB,hb,if_true,lC,runB_pre r (λx hx=>h x (List.mem_cons_of_mem _ hx)) hr]
theorem runB_dig:∀{w:List UInt8},¬runB w<w.length->∀b∈w,dig b=true
 | [],_,b,hb=>by cases hb
 | x::w,h,b,hb=>by
  by_cases hx:dig x=true
  ·simp only[runB,hx,if_true,lC]at h;rcases List.mem_cons.1 hb with rfl | hb
   ·exact hx
   ·exact runB_dig (by omega) b hb
  ·simp only[runB,hx,lC,Bool.false_eq_true,if_false]at h;omega
abbrev exB (x:Int):List UInt8:=if x=0 then [] else [101]++itoaB x
theorem hd_false {c:UInt8}{b:UInt8}{r:List UInt8}(h:b≠c):hd c (b::r)=false:=beq_eq_false_iff_ne.2 h
theorem dig_ne {b c:UInt8}(h:dig b=true)(hc:dig c=false):b≠c:=λe=>by rw[e,hc]at h;cases h
theorem itoa_cases (x:Int)(hx:x≠0):∃m:Nat,0<m/\((x=m/\itoaB x=decB m)\/(x=-(m:Int)/\itoaB x=45::decB m)):=by
 unfold itoaB;by_cases h:x<0
 ·refine⟨x.natAbs,by omega,.inr ⟨by omega,by rw[if_pos h]⟩⟩
 ·refine⟨x.toNat,by omega,.inl ⟨by omega,by rw[if_neg h]⟩⟩
theorem trimL_hd {cs:List UInt8}{b:UInt8}{r:List UInt8}(h:cs.contains b=false):trimL cs (b::r)=b::r:=by
 unfold trimL;rw[List.dropWhile_cons_of_neg (by rw[h];exact Bool.false_ne_true)]
theorem dig_not {b:UInt8}(h:dig b=true):([43,45]:List UInt8).contains b=false:=by
 have h1:=dig_ne h (show dig 43=false by decide);have h2:=dig_ne h (show dig 45=false by decide);simp[h1,h2]
theorem dec_cons (m:Nat):∃b r,decB m=b::r/\dig b=true:=by
 cases e:decB m with
 | nil=>exact absurd e (decB_ne m)
 | cons b r=>exact⟨b,r,rfl,decB_dig m b (by rw[e];exact List.mem_cons_self ..)⟩
theorem expT_itoa {x:Int}{m:Nat}(h0:0<m)(h:itoaB x=decB m\/itoaB x=45::decB m):expT (itoaB x)=decB m:=by
 obtain⟨b,r,e,hb⟩:=dec_cons m;have h1:=decB_hd h0;have e1:trimL [43,45] (decB m)=decB m:=by rw[e];exact trimL_hd (dig_not hb)
 have e2:trimL [48] (decB m)=decB m:=by
  rw[e]at h1 ⊢;refine trimL_hd ?_;have:b≠48:=λq=>by rw[q]at h1;cases h1
  simp[this]
 unfold expT;rcases h with h | h
 ·rw[h,e1,e2]
 ·rw[h,show trimL [43,45] (45::decB m)=trimL [43,45] (decB m) from rfl,e1,e2]
theorem expB_itoa {x:Int}(hx:x≠0)(h1:-999999<=x)(h2:x<=999999):expB (itoaB x)=some x:=by
 obtain⟨m,h0,h⟩:=itoa_cases x hx;have e:=expT_itoa h0 (h.imp And.right And.right);have hl:=decB_len10 (k:=6) (n:=m) (by rcases h with⟨h,_⟩ | ⟨h,_⟩<;>omega) (by decide);unfold expB;rw[e,if_neg (by omega),valB_dec];rcases h with⟨h3,h4⟩ | ⟨h3,h4⟩
 ·obtain⟨b,r,e5,hb⟩:=dec_cons m;rw[h4,e5,hd_false (dig_ne hb (by decide))];simp[h3]
 ·rw[h4,show hd 45 (45::decB m)=true from rfl];simp[h3]
theorem trim_same {w:List UInt8}(h:w≠[])(h1:hd 48 w=false)(h2:tl 48 w=false):trimL [48] w=w/\trimR [48] w=w:=by
 have key:∀{v:List UInt8},v≠[]->hd 48 v=false->trimL [48] v=v:=λ{v} hv h=>by
  cases v with
  | nil=>exact absurd rfl hv
  | cons b r =>
   refine trimL_hd ?_;have:b≠48:=λq=>by rw[q]at h;cases h
   simp[this]
 refine⟨key h h1,?_⟩;have:=key (v:=w.reverse) (by simpa using h) h2;unfold trimR;unfold trimL at this;rw[this,List.reverse_reverse]
theorem split_join {neg:Bool}{w:List UInt8}{x:Int}(hw:w≠[])(hd1:∀b∈w,dig b=true)(h1:hd 48 w=false)(h2:tl 48 w=false)(hx1:-999999<=x)(hx2:x<=999999)
  (hl:((if neg=true then [45]++w else w)++exB x).length<=1000):splitB ((if neg=true then [45]++w else w)++exB x)=((neg,w,x),0):=by
 obtain⟨b,r,hb⟩:∃b r,w=b::r:=by
  cases w with
  | nil=>exact absurd rfl hw
  | cons b r=>exact⟨b,r,rfl⟩
 have hdb:dig b=true:=hd1 b (by rw[hb];exact List.mem_cons_self ..);have hex:exB x=[]\/∃c t,exB x=c::t/\dig c=false:=by
  unfold exB;by_cases h:x=0
  ·rw[if_pos h];exact .inl rfl
  ·rw[if_neg h];exact .inr ⟨101,itoaB x,rfl,by decide⟩
 have hrun:=runB_pre (exB x) hd1 hex;have hwl:0<w.length:=by rw[hb];simp
 have hcutE:cutE neg w [] (exB x)=some (neg,w,[],if x=0 then [] else itoaB x):=by
  unfold cutE exB;by_cases h:x=0
  ·rw[if_pos h,if_pos h,if_pos rfl]
  ·rw[if_neg h,if_neg h];obtain⟨m,h0,hm⟩:=itoa_cases x h;have e1:expD (itoaB x)=decB m:=by
    obtain⟨c,t,e5,hc⟩:=dec_cons m;rcases hm with⟨_,h4⟩ | ⟨_,h4⟩
    ·unfold expD;rw[h4,e5,hd_false (dig_ne hc (by decide)),hd_false (dig_ne hc (by decide))];rfl
    ·rw[h4];rfl
   have e2:=runB_pre (w:=decB m) [] (decB_dig m) (.inl rfl);rw[List.append_nil]at e2;have e0:List.drop 1 (([101]:List UInt8)++itoaB x)=itoaB x:=rfl;rw[if_neg (by simp),if_neg (by intro q;exact absurd q.1 (by show ¬hd 101 (101::itoaB x)=false;simp[hd])),e0,e1,if_neg (by rw[e2];intro q;exact q.elim (decB_ne m) (λq=>by omega))]
 have hcutP:cutP neg (w++exB x)=some (neg,w,[],if x=0 then [] else itoaB x):=by
  unfold cutP;have e46:hd 46 ((w++exB x).drop w.length)=false:=by
   rw[List.drop_left];rcases hex with e | ⟨c,t,e,hc⟩
   ·rw[e];rfl
   ·unfold exB at e ⊢;by_cases h:x=0
    ·rw[if_pos h];rfl
    ·rw[if_neg h];rfl
  have e48:hd 48 (w++exB x)=false:=by rw[hb]at h1 ⊢;exact h1
  rw[hrun,if_neg (by rw[e48];intro q;exact q.elim (λq=>by omega) (λq=>Bool.noConfusion q.2)),e46];simp only[Bool.false_eq_true,if_false];rw[List.take_left,List.drop_left];exact hcutE
 have hcut:cutB ((if neg=true then [45]++w else w)++exB x)=some (neg,w,[],if x=0 then [] else itoaB x):=by
  unfold cutB;cases neg with
  | true =>
   simp only[if_true];rw[show hd 45 (([45]++w)++exB x)=true from rfl,if_pos rfl];exact hcutP
  | false =>
   simp only[Bool.false_eq_true,if_false];have:hd 45 (w++exB x)=false:=by rw[hb];exact hd_false (dig_ne hdb (by decide))
   rw[this];simp only[Bool.false_eq_true,if_false];exact hcutP
 have hexp:expB (if x=0 then [] else itoaB x)=some x:=by
  by_cases h:x=0
  ·rw[if_pos h,h];rfl
  ·rw[if_neg h];exact expB_itoa h hx1 hx2
 obtain⟨t1,t2⟩:=trim_same hw h1 h2;unfold splitB;rw[hcut];simp only;rw[if_neg (by omega),hexp];simp only;rw[List.append_nil,t1,t2,if_neg hw];simp
theorem norm_made {s:List UInt8}(h:(normB s).2=0):(normB s).1=[48]\/∃(neg:Bool) (w:List UInt8) (x:Int),w≠[]/\(∀b∈w,dig b=true)/\hd 48 w=false/\tl 48 w=false/\-999999<=x/\x<=999999 /\
  (normB s).1=(if neg=true then [45]++w else w)++exB x/\(normB s).1.length<=1000/\joinB (neg,w,x)=((normB s).1,0):=by
 obtain⟨_,e⟩:=norm_split h;rw[e]at h ⊢;generalize (splitB s).1=p at h;obtain⟨neg,w,x⟩:=p;have hj:=h;unfold joinB at h ⊢;simp only at h ⊢;by_cases z1:runB w<w.length\/(hd 48 w=true\/tl 48 w=true)\/(w=[]/\(x≠0\/neg=true))
 ·rw[if_pos z1]at h;cases h
 rw[if_neg z1]at h ⊢;by_cases z2:x < -999999\/999999<x
 ·rw[if_pos z2]at h;cases h
 rw[if_neg z2]at h ⊢;by_cases z3:w=[]
 ·rw[if_pos z3];exact .inl rfl
 rw[if_neg z3]at h ⊢;by_cases z4:1000<((if neg=true then [45]++w else w)++(if x=0 then [] else [101]++itoaB x)).length
 ·rw[if_pos z4]at h;cases h
 rw[if_neg z4]at h ⊢;refine .inr ⟨neg,w,x,z3,runB_dig (λq=>z1 (.inl q)),?_,?_,by omega,by omega,rfl,by simp only;omega,?_⟩
 ·cases q:hd 48 w with
  | true=>exact absurd (.inr (.inl (.inl q))) z1
  | false=>rfl
 ·cases q:tl 48 w with
  | true=>exact absurd (.inr (.inl (.inr q))) z1
  | false=>rfl
 ·rw[if_neg z1,if_neg z2,if_neg z3,if_neg z4]
theorem norm_idem {s:List UInt8}(h:(normB s).2=0):normB (normB s).1=((normB s).1,0):=by
 rcases norm_made h with e | ⟨neg,w,x,h1,h2,h3,h4,h5,h6,h7,h8,h9⟩
 ·rw[e];decide
 ·have hs:=split_join (neg:=neg) h1 h2 h3 h4 h5 h6 (by rw[<-h7];exact h8);rw[<-h7]at hs;generalize (normB s).1=y at hs h9 ⊢;unfold normB;rw[hs];simp only[if_true];exact h9
theorem norm_bytes {s:List UInt8}(h:(normB s).2=0):(∀b∈(normB s).1,numC b=true)/\∃c r,(normB s).1=c::r/\(digC c || Nat.beq c.toNat 45)=true:=by
 have dg:∀{b:UInt8},dig b=true->digC b=true:=λhb=>by rw[dig_iff]at hb;rw[digC_iff];exact hb
 have nd:∀{b:UInt8},dig b=true->numC b=true:=λhb=>by unfold numC;rw[dg hb];rfl
 have n45:numC 45=true:=by decide
 have nx:∀x:Int,∀b∈exB x,numC b=true:=λx b hb=>by
  unfold exB at hb;by_cases hx:x=0
  ·rw[if_pos hx]at hb;cases hb
  ·rw[if_neg hx]at hb;rcases List.mem_cons.1 hb with rfl | hb
   ·decide
   ·obtain⟨m,_,hm⟩:=itoa_cases x hx;rcases hm with⟨_,e⟩ | ⟨_,e⟩
    ·rw[e]at hb;exact nd (decB_dig m b hb)
    ·rw[e]at hb;rcases List.mem_cons.1 hb with rfl | hb
     ·exact n45
     ·exact nd (decB_dig m b hb)
 rcases norm_made h with e | ⟨neg,w,x,h1,h2,h3,h4,h5,h6,h7,h8,h9⟩
 ·rw[e];exact⟨λb hb=>by rw[List.mem_singleton.1 hb];decide,48,[],rfl,by decide⟩
 ·rw[h7];cases w with
  | nil=>exact absurd rfl h1
  | cons b r =>
   cases neg with
   | true =>
    refine⟨λc hc=>?_,45,_,rfl,by decide⟩;rcases List.mem_append.1 hc with hc | hc
    ·rcases List.mem_cons.1 hc with rfl | hc
     ·exact n45
     ·exact nd (h2 c hc)
    ·exact nx x c hc
   | false =>
    refine⟨λc hc=>?_,b,_,rfl,by rw[dg (h2 b (List.mem_cons_self ..))];rfl⟩;rcases List.mem_append.1 hc with hc | hc
    ·exact nd (h2 c hc)
    ·exact nx x c hc
end Go.Dn
