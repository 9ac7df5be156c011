/- Sorting in place: two rows merged: where they are cut, and the turn. The walk to the next region's end, as a lemma that a tactic of its own serves. Sorting in place: two rows merged; all of it. Sorting in place: all of it. Texts compared byte by byte: an order; the places of a list of keys, by them. The places of a record's keys, by the keys: tree.order. Trees with the keys of all records in order: tree.Sorted. Trees whose keys are in order: when they are the same. Trees that are the same: tree.identical, tree.Same. Trees that are the same: the reference's answer. The reference's places of keys: emendref3.Order. Trees with the keys of all records in order: the reference's answer. The law 'TreeSames', walked. Sorting, and what hangs on it, as contracts. What is read is right where little is read. Pairings with rising places, at the least cost: the law, without a program. Pairings by key, and the first items of a list that are right: the laws, without a program. The key of a tree; the law, without a program. Numbers handed in a list; emendbook.Within. Own lists of numbers, made with room and grown within it. Chapter 13's first walks: emendlaw13.cut, align.Place, align.keyOf. A row of a drawn region that would read the same again. Chapter 13: the key of a tree. Maps whose keys are small arrays of numbers, as lists of pairs. Two tables of numbers, row by row, each row a list of its own. Chapter 13: align.Key. Chapter 13: the table of costs, of the program. Chapter 13: align.Cost. Chapter 13: align.Do; the reference's Place, key, Key, Do. Chapter 13: the reference's Key. Chapter 13: lists of numbers held against each other; what a pairing costs; the law 'AlignTells', walked. Chapter 13: the laws 'AlignSame' and 'AlignCheapest', walked. Chapter 13: the law 'AlignTurned', walked. Chapter 13: align.Right of a pairing; the law's own keys (tree.Get handed an own path). Chapter 13: the law 'AlignFair', walked. The functions of chapter 13, as contracts, each by its code. A part of a function's code, by its place: walks in pieces. -/
import Derived.Test.YtbojekglccdajaaGreatDoorIn
set_option linter.unusedSimpArgs false
set_option linter.unusedVariables false
namespace Go.Dn
open Go Go.Proofs.C1
set_option maxRecDepth 100000
attribute [local irreducible] afterS keepE
section
variable {gt:GT}{C:CallT}{R:List Rs}{ty:TypeId}{t b:Nat}
set_option maxHeartbeats 8000000 in
theorem mrgRot_wp (hm:MonoC C){f:FuncId}{cs:List AV}{n k:Nat}{cz:Nat->Nat->Int}(ih:MrgC C R ty t b n (.fn f [] cs) cz k)(hr:RotC C R ty t b (.fn f [] cs)){S:St}{xs:List AV}{P A V B D Q:List Nat}{a m mid s e c:Nat}{z:Env}{G:St->Prop}
  (h0:a=P.length) (hmm:m=P.length+A.length+B.length) (h1:mid=P.length+A.length+V.length) (h2:s=P.length+A.length) (h3:e=mid+B.length) (h4:c=e+D.length) (hk1:A≠[]->V≠[]->A.length+V.length<=k) (hk2:B≠[]->D≠[]->B.length+D.length<=k)
  (hn:∀x∈(A++V)++(B++D),x<n) (sA:Srt (leZ cz) A) (sV:Srt (leZ cz) V) (sB:Srt (leZ cz) B) (sD:Srt (leZ cz) D)
  (hx:xs.length=(P++(A++(B++(V++(D++Q))))).length) (hl:(P++(A++(B++(V++(D++Q))))).length<1152921504606846976) (hA:ArS S R ty t b (P++(A++(B++(V++(D++Q))))))
  (fin:∀S' Z1 Z2,Z1.Perm (A++V)->Srt (leZ cz) Z1->Z2.Perm (B++D)->Srt (leZ cz) Z2->ArS S' R ty t b (P++((Z1++Z2)++Q))->G S') :
  wpD gt C F138.body.rt.rt.rt.rt.rt.rt.rt.rt.rt ((0,.val (slA t xs.length xs))::(1,.val (.int .i64 a))::(2,.val (.int .i64 m))::(3,.val (.int .i64 c))::(4,.val (.fn f [] cs))::(18,.val (.int .i64 mid))::(20,.val (.int .i64 s))::(24,.val (.int .i64 e))::z) S (bodyQ gt F138.res λr S'=>r=.ret (.tup [])/\G S'):=by
 have hlen:(P++(A++(B++(V++(D++Q))))).length=P.length+(A.length+(B.length+(V.length+(D.length+Q.length)))):=by simp only[lA]
 have hlen2:(P++(A++(V++(B++(D++Q))))).length=P.length+(A.length+(B.length+(V.length+(D.length+Q.length)))):=by simp only[lA];omega
 rw[hlen]at hx hl;have triv:(B=[]\/V=[])->∀(o:Ent) z,wpD gt C F138.body.rt.rt.rt.rt.rt.rt.rt.rt.rt.rt ((0,.val (slA t xs.length xs))::(1,.val (.int .i64 a))::(2,o)::(3,.val (.int .i64 c))::(4,.val (.fn f [] cs))::(18,.val (.int .i64 mid))::(20,.val (.int .i64 s))::(24,.val (.int .i64 e))::z) S (bodyQ gt F138.res λr S'=>r=.ret (.tup [])/\G S'):=λh o z =>
  mrgFirst2_wp (gt:=gt) hm ih (P:=P) (A:=A) (V:=V) (B:=B) (D:=D) (Q:=Q) h0 h1 h2 h3 h4 hk1 hk2 hn sA sV sB sD (by rw[hlen2];exact hx) (by rw[hlen2];exact hl) (by rcases h with rfl | rfl<;>exact hA) fin
 have next:∀(S:St) z,ArS S R ty t b (P++(A++(V++(B++(D++Q)))))->wpD gt C F138.body.rt.rt.rt.rt.rt.rt.rt.rt.rt.rt ((0,.val (slA t xs.length xs))::(1,.val (.int .i64 a))::(3,.val (.int .i64 c))::(4,.val (.fn f [] cs))::(18,.val (.int .i64 mid))::(20,.val (.int .i64 s))::(24,.val (.int .i64 e))::z) S (bodyQ gt F138.res λr S'=>r=.ret (.tup [])/\G S'):=λS z hA =>
  mrgFirst_wp (gt:=gt) hm ih (P:=P) (A:=A) (V:=V) (B:=B) (D:=D) (Q:=Q) h0 h1 h2 h3 h4 hk1 hk2 hn sA sV sB sD (by rw[hlen2];exact hx) (by rw[hlen2];exact hl) hA fin
 conv=>whnf
 refine goW ?_;by_cases c1:(s:Int)<(m:Int)
 ·rw[dT c1];refine goW ?_;by_cases c2:(m:Int)<(e:Int)
  ·rw[dT c2];have b1:B≠[]:=λh=>by rw[h]at hmm;simp at hmm;omega
   have b2:V≠[]:=λh=>by rw[h]at h1;simp at h1;omega
   refine goW ?_;refine call_rule (by rfl) (hm _ _ _ _ _ (hr S xs (P++A) B V (D++Q) s m e (by rw[lA];exact h2) (by rw[lA];exact hmm) (by rw[lA];omega) b1 b2 (by simp only[lA];omega) (by simp only[lA];omega) (by rw[aA];exact hA)) ?_);rintro r S2 ⟨rfl,hA2⟩;rw[aA]at hA2;have next:=next S2 [] hA2
   refine goK ?_
   with_unfolding_all exact next
  ·rw[dF c2];have triv:=triv (.inr (nL (by omega)));refine goK ?_
   with_unfolding_all exact triv _ _
 ·rw[dF c1];have triv:=triv (.inl (nL (by omega)));refine goK ?_
  with_unfolding_all exact triv _ _
abbrev E_sr (t:Nat)(xs:List AV)(a m c:Nat)(g:AV)(mid n s r p:Nat):Env:=[(0,.val (slA t xs.length xs)),(1,.val (.int .i64 a)),(2,.val (.int .i64 m)),(3,.val (.int .i64 c)),(4,.val g),(18,.val (.int .i64 mid)),(19,.val (.int .i64 n)),(20,.val (.int .i64 s)),(21,.val (.int .i64 r)),(22,.val (.int .i64 p))]
set_option maxHeartbeats 8000000 in
theorem mrgSeek_wp (hm:MonoC C){f:FuncId}{cs:List AV}{n k:Nat}{cz:Nat->Nat->Int}(hz:Cz cz)(hc:CmpC C f cs R ty t b n cz)(ih:MrgC C R ty t b n (.fn f [] cs) cz k)(hr:RotC C R ty t b (.fn f [] cs)){S:St}{xs:List AV}{P X Y Q:List Nat}{a m c mid nn lo hi hN l0 h0:Nat}{z:Env}{G:St->Prop}
  (ha:a=P.length) (hmm:m=P.length+X.length) (hcc:c=P.length+X.length+Y.length) (hmid:mid=P.length+hN) (hnn:nn=mid+m) (hlo:lo=P.length+l0) (hhi:hi=P.length+h0)
  (rng:(l0=0/\h0=X.length/\X.length<=hN/\hN<=Y.length)\/(l0+Y.length=hN/\h0=hN/\hN<=X.length)) (hk1:hN<=k) (hk2:X.length+Y.length<=k+hN)
  (hn:∀x∈X++Y,x<n) (sX:Srt (leZ cz) X) (sY:Srt (leZ cz) Y) (hN0:0<hN)
  (hx:xs.length=(P++(X++(Y++Q))).length) (hl:(P++(X++(Y++Q))).length<1152921504606846976) (hA:ArS S R ty t b (P++(X++(Y++Q))))
  (fin:∀S' Z,Z.Perm (X++Y)->Srt (leZ cz) Z->ArS S' R ty t b (P++(Z++Q))->G S') :
  wpD gt C F138.body.rt.rt.rt.rt.rt.rt ((0,.val (slA t xs.length xs))::(1,.val (.int .i64 a))::(2,.val (.int .i64 m))::(3,.val (.int .i64 c))::(4,.val (.fn f [] cs))::(18,.val (.int .i64 mid))::(19,.val (.int .i64 nn))::(20,.val (.int .i64 lo))::(21,.val (.int .i64 hi))::z) S (bodyQ gt F138.res λr S'=>r=.ret (.tup [])/\G S'):=by
 have hlen:(P++(X++(Y++Q))).length=P.length+(X.length+(Y.length+Q.length)):=by simp only[lA]
 have hl':=hl;rw[hlen]at hl';have wp:wr .i64 ((nn:Int)-1)=((nn-1:Nat):Int):=by rw[wr64 (by omega) (by omega)];omega
 conv=>whnf
 refine goW ?_;rw[wp];refine loop_rule hm (α:=Nat×Nat) (λq env S'=>env=E_sr t xs a m c (.fn f [] cs) mid nn (P.length+q.1) (P.length+q.2) (nn-1)/\l0<=q.1/\q.1<=q.2/\q.2<=h0/\S'=S/\(q.1=l0\/∃x y,X[q.1-1]? = some x/\Y[hN-q.1]? = some y/\leZ cz x y)/\(q.2=h0\/∃x y,X[q.2]? = some x/\Y[hN-1-q.2]? = some y/\leZ cz y x)) (λq=>q.2-q.1) ?_
  (a:=(l0,h0)) ⟨by rw[hlo,hhi],nR _,by simp only;omega,nR _,rfl,.inl rfl,.inl rfl⟩
 rintro⟨i,j⟩ env S' ⟨rfl,i0,hij0,j0,rfl,q1,q2⟩;simp only at i0 hij0 j0 q1 q2;refine goW ?_;by_cases hij:((P.length+i:Nat):Int)<((P.length+j:Nat):Int)
 ·rw[dT hij];obtain⟨r,hr⟩:∃r,r=(i+j) / 2:=⟨_,rfl⟩
  have hri:i<=r:=by omega
  have hrj:r<j:=by omega
  have hrX:r<X.length:=by omega
  have hrY:hN-1-r<Y.length:=by omega
  have g0:(P++(X++(Y++Q)))[P.length+r]? = some X[r]:=by
   rw[List.getElem?_append_right (by omega),show P.length+r-P.length=r by omega,List.getElem?_append_left hrX];exact gE hrX
  have g1:(P++(X++(Y++Q)))[P.length+X.length+(hN-1-r)]? = some Y[hN-1-r]:=by
   rw[<-aA,List.getElem?_append_right (by rw[lA];omega),show P.length+X.length+(hN-1-r)-(P++X).length=hN-1-r by rw[lA];omega,List.getElem?_append_left hrY];exact gE hrY
  have hcall:=hc S' _ Y[hN-1-r] X[r] hA (hn _ (List.mem_append_right _ (List.getElem_mem hrY))) (hn _ (List.mem_append_left _ (List.getElem_mem hrX)));have e0:X[r]? = some X[r]:=gE hrX;have e1:Y[hN-1-r]? = some Y[hN-1-r]:=gE hrY;generalize Y[hN-1-r]=y at g1 hcall e1;generalize X[r]=x at g0 hcall e0;have w1:wr .i64 (((nn-1:Nat):Int)-((P.length+r:Nat):Int))=((P.length+X.length+(hN-1-r):Nat):Int):=by rw[wr64 (by omega) (by omega)];omega
  refine goW ?_;rw[midW (by omega),show (P.length+i+(P.length+j)) / 2=P.length+r by omega];refine goW ?_;rw[w1];refine step_ruleDO rfl rfl (sx_ia (k:=P.length+X.length+(hN-1-r)) rfl rfl (by omega)) (goW ?_);refine step_ruleDO rfl rfl (sx_ldEl (agg:=false) rfl (hA.els hx) (ints_get g1) rfl) (goW ?_);refine step_ruleDO rfl rfl (sx_ia (k:=P.length+r) rfl rfl (by omega)) (goW ?_);refine step_ruleDO rfl rfl (sx_ldEl (agg:=false) rfl (hA.els hx) (ints_get g0) rfl) (goW ?_);refine call_ruleD (by rfl) (hm _ _ _ _ _ hcall ?_);rintro r' S3 ⟨rfl,rfl⟩;refine goW ?_;by_cases hlt:cz y x<0
  ·rw[dT hlt];refine goW ?_;refine⟨(i,r),⟨rfl,i0,hri,by simp only;omega,rfl,q1,.inr ⟨x,y,e0,e1,hz.asy hlt⟩⟩,by simp only;omega⟩
  ·rw[dF hlt];refine goW ?_;refine⟨(r+1,j),⟨?_,by simp only;omega,by simp only;omega,j0,rfl,.inr ⟨x,y,e0,?_,by unfold leZ;omega⟩,q2⟩,by simp only;omega⟩
   ·rw[wrNat (by omega)]
    try rfl
   ·rw[show hN-(r+1)=hN-1-r by omega];exact e1
 ·rw[dF hij];obtain rfl:i=j:=by omega
  have iX:i<=X.length:=by omega
  have tY:hN-i<=Y.length:=by omega
  have tA:(X.take i).length=i:=by rw[lT];omega
  have tB:(X.drop i).length=X.length-i:=lD;have tV:(Y.take (hN-i)).length=hN-i:=by rw[lT];omega
  have tD:(Y.drop (hN-i)).length=Y.length-(hN-i):=lD;have hX:X.take i++X.drop i=X:=tkD _ _;have hY:Y.take (hN-i)++Y.drop (hN-i)=Y:=tkD _ _;have sX':=sX;have sY':=sY;rw[<-hX]at sX';rw[<-hY]at sY';obtain⟨sA,sB,sAB⟩:=srt_app.1 sX';obtain⟨sV,sD,sVD⟩:=srt_app.1 sY';have sAD:∀u∈X.take i,∀v∈Y.drop (hN-i),leZ cz u v:=ends_le (le:=leZ cz) (λh h'=>hz.tr h h') sA sD (λu v e1 e2=>by
   rw[tA]at e1;rcases q1 with q1 | ⟨x,y,f1,f2,f3⟩
   ·exfalso;rcases rng with rng | rng
    ·rw[show i=0 by omega]at e1;simp at e1
    ·rw[List.getElem?_eq_none (show (Y.drop (hN-i)).length<=0 by rw[tD];omega)]at e2;cases e2
   ·rw[List.getElem?_drop,Nat.add_zero,f2]at e2;have:i≠0:=λh=>by rw[h]at e1;simp at e1
    rw[List.getElem?_take_of_lt (by omega),f1]at e1;cases e1;cases e2;exact f3) (λa=>hz.rf a)
  have sVB:∀u∈Y.take (hN-i),∀v∈X.drop i,leZ cz u v:=ends_le (le:=leZ cz) (λh h'=>hz.tr h h') sV sB (λu v e1 e2=>by
   rw[tV]at e1;rcases q2 with q2 | ⟨x,y,f1,f2,f3⟩
   ·exfalso;rcases rng with rng | rng
    ·rw[List.getElem?_eq_none (show (X.drop i).length<=0 by rw[tB];omega)]at e2;cases e2
    ·rw[show hN-i=0 by omega]at e1;simp at e1
   ·rw[List.getElem?_drop,Nat.add_zero,f1]at e2;have:hN-i≠0:=λh=>by rw[h]at e1;simp at e1
    rw[List.getElem?_take_of_lt (by omega),show hN-i-1=hN-1-i by omega,f2]at e1;cases e1;cases e2;exact f3) (λa=>hz.rf a)
  have mo:∀S' Z1 Z2,Z1.Perm (X.take i++Y.take (hN-i))->Srt (leZ cz) Z1->Z2.Perm (X.drop i++Y.drop (hN-i))->Srt (leZ cz) Z2->ArS S' R ty t b (P++((Z1++Z2)++Q))->G S':=λS' Z1 Z2 p1 z1 p2 z2 hA=>by
   obtain⟨m1,m2⟩:=merge_ok z1 z2 p1 p2 sAB sAD sVB sVD;rw[hX,hY]at m2;exact fin S' _ m2 m1 hA
  have hn':∀x∈(X.take i++Y.take (hN-i))++(X.drop i++Y.drop (hN-i)),x<n:=λx hx=>hn x (by
   rw[aA,List.mem_append,List.mem_append,List.mem_append]at hx;rw[List.mem_append];rcases hx with h | h | h | h
   ·exact .inl (List.mem_of_mem_take h)
   ·exact .inr (List.mem_of_mem_take h)
   ·exact .inl (List.mem_of_mem_drop h)
   ·exact .inr (List.mem_of_mem_drop h))
  have hl2:P++(X++(Y++Q))=P++(X.take i++(X.drop i++(Y.take (hN-i)++(Y.drop (hN-i)++Q)))):=by
   rw[<-aA (X.take i),hX,<-aA (Y.take (hN-i)),hY]
  rw[hl2]at hx hl hA;have w1:wr .i64 ((nn:Int)-((P.length+i:Nat):Int))=((mid+(X.length-i):Nat):Int):=by rw[wr64 (by omega) (by omega)];omega
  have next:=mrgRot_wp (gt:=gt) (z:=[]) hm ih hr (a:=a) (m:=m) (mid:=mid) (s:=P.length+i) (e:=mid+(X.length-i)) (c:=c) ha (by rw[tA,tB];omega) (by rw[tA,tV];omega) (by rw[tA]) (by rw[tB]) (by rw[tD];omega) (λ_ _=>by rw[tA,tV];omega) (λ_ _=>by rw[tB,tD];omega) hn' sA sV sB sD hx hl hA mo
  clear mo hn' sAD sVB sAB sVD
  conv=>whnf
  refine sI (by rfl) ?_
  conv=>whnf
  refine sI (by rfl) ?_
  conv=>whnf
  refine sI (by rfl) ?_
  conv=>whnf
  refine sI (by rfl) ?_
  conv=>whnf
  rw[w1];refine goK ?_
  with_unfolding_all exact next
end
end Go.Dn

namespace Go.Dn
open Go
theorem goJ {G G':Prop}(k:G')(h:G'->G:=by
 intro hk;((try refine And.intro (by rfl) ?_);(conv=>whnf);(repeat (refine sI (by rfl) ?_;conv=>whnf));(generalize hE:keepE _ _=e0;revert hE;apply kI;(repeat (first | exact kN _ | (apply kC;with_unfolding_all rfl;rfl)));rintro rfl));exact hk):G:=h k
end Go.Dn

namespace Go.Dn
open Go Go.Proofs.C1
set_option maxRecDepth 100000
attribute [local irreducible] afterS keepE
section
variable {gt:GT}{C:CallT}{R:List Rs}{ty:TypeId}{t b:Nat}
set_option maxHeartbeats 8000000 in
theorem mrg3_wp (hm:MonoC C){f:FuncId}{cs:List AV}{n k:Nat}{cz:Nat->Nat->Int}(hz:Cz cz)(hc:CmpC C f cs R ty t b n cz)(ih:MrgC C R ty t b n (.fn f [] cs) cz k)(hr:RotC C R ty t b (.fn f [] cs)){S:St}{xs:List AV}{P X Y Q:List Nat}{a m c:Nat}
  (ha:a=P.length) (hmm:m=P.length+X.length) (hcc:c=P.length+X.length+Y.length) (hX:2<=X.length) (hY:2<=Y.length) (hk:X.length+Y.length<=k+1) (hn:∀x∈X++Y,x<n) (sX:Srt (leZ cz) X) (sY:Srt (leZ cz) Y)
  (hx:xs.length=(P++(X++(Y++Q))).length) (hl:(P++(X++(Y++Q))).length<1152921504606846976) (hA:ArS S R ty t b (P++(X++(Y++Q)))) :
  wpF gt C F138 [slA t xs.length xs,.int .i64 a,.int .i64 m,.int .i64 c,.fn f [] cs] S λr S'=>r=.ret (.tup [])/\∃Z,Z.Perm (X++Y)/\Srt (leZ cz) Z/\ArS S' R ty t b (P++(Z++Q)):=by
 have hlen:(P++(X++(Y++Q))).length=P.length+(X.length+(Y.length+Q.length)):=by simp only[lA]
 have hl':=hl;rw[hlen]at hl';obtain⟨hN,hNe⟩:∃h,h=(X.length+Y.length) / 2:=⟨_,rfl⟩
 have w1:wr .i64 ((m:Int)-(a:Int))=(X.length:Int):=by rw[wr64 (by omega) (by omega)];omega
 have w2:wr .i64 ((c:Int)-(m:Int))=(Y.length:Int):=by rw[wr64 (by omega) (by omega)];omega
 have w3:wr .i64 (((P.length+hN:Nat):Int)+(m:Int))=((P.length+hN+m:Nat):Int):=by rw[wr64 (by omega) (by omega)];omega
 have next:∀(l0 h0 lo hi:Nat) (z:Env),lo=P.length+l0->hi=P.length+h0->((l0=0/\h0=X.length/\X.length<=hN/\hN<=Y.length)\/(l0+Y.length=hN/\h0=hN/\hN<=X.length))->_:=λl0 h0 lo hi z e1 e2 e3 =>
  mrgSeek_wp (gt:=gt) (z:=z) (G:=λS'=>∃Z,Z.Perm (X++Y)/\Srt (leZ cz) Z/\ArS S' R ty t b (P++(Z++Q))) hm hz hc ih hr (a:=a) (m:=m) (c:=c) (mid:=P.length+hN) (nn:=P.length+hN+m) ha hmm hcc rfl rfl e1 e2 e3 (by omega) (by omega) hn sX sY (by omega) hx hl hA (λS' Z p s h=>⟨Z,p,s,h⟩)
 refine⟨rfl,?_⟩;refine goW ?_;rw[w1,eqI_false (show ¬(X.length:Int)=1 by omega)];refine goW ?_;rw[w2,eqI_false (show ¬(Y.length:Int)=1 by omega)];refine goW ?_;rw[midW (by omega),show (a+c) / 2=P.length+hN by omega];refine goW ?_;rw[w3];by_cases hc1:(m:Int) > ((P.length+hN:Nat):Int)
 ·rw[dT hc1];have next:=next (hN-Y.length) hN (P.length+hN+m-c) (P.length+hN) [] (by omega) rfl (.inr (by omega))
  have w4:wr .i64 (((P.length+hN+m:Nat):Int)-(c:Int))=((P.length+hN+m-c:Nat):Int):=by rw[wr64 (by omega) (by omega)];omega
  refine goJ ?_;refine goJ ?_;rw[w4]
  with_unfolding_all exact next
 ·rw[dF hc1];have next:=next 0 X.length a m [] (by omega) hmm (.inl (by omega))
  refine goJ ?_;refine goJ ?_
  with_unfolding_all exact next
end

section
variable {gt:GT}{C:CallT}{R:List Rs}{ty:TypeId}{t b:Nat}
theorem mrgC (hm:MonoC C)(hI:∀us S Q,wpF gt C F138 us S Q->C 138 us S Q){f:FuncId}{cs:List AV}{n:Nat}{cz:Nat->Nat->Int}(hz:Cz cz)(hc:CmpC C f cs R ty t b n cz)(hr:RotC C R ty t b (.fn f [] cs)):∀k,MrgC C R ty t b n (.fn f [] cs) cz k
 | 0=>λS xs P X Y Q a m c hk _ _ _ hX hY=>by
  exfalso;have:=List.length_pos_iff.2 hX;omega
 | k+1=>λS xs P X Y Q a m c hk ha hmm hcc hX hY hn sX sY hx hl hA=>hI _ _ _ (by
  have lX:=List.length_pos_iff.2 hX;have lY:=List.length_pos_iff.2 hY;by_cases c1:X.length=1
  ·obtain⟨x,rfl⟩:=List.length_eq_one_iff.1 c1;have:=mrg1_wp (gt:=gt) hm hz hc (P:=P) (Y:=Y) (Q:=Q) (x:=x) (S:=S) (xs:=xs) (λy hy=>hn y (List.mem_append_right _ hy)) (hn x (by simp)) sY hx hl hA;rw[ha,hmm,hcc];exact this
  ·by_cases c2:Y.length=1
   ·obtain⟨y,rfl⟩:=List.length_eq_one_iff.1 c2;have:=mrg2_wp (gt:=gt) hm hz hc (P:=P) (Y:=X) (Q:=Q) (x:=y) (S:=S) (xs:=xs) (λx hx=>hn x (List.mem_append_left _ hx)) (hn y (by simp)) sX (by omega) hx hl hA;rw[ha,hmm,hcc];exact this
   ·exact mrg3_wp hm hz hc (mrgC hm hI hz hc hr k) hr ha hmm hcc (by omega) (by omega) hk hn sX sY hx hl hA)
def StbC (C:CallT)(R:List Rs)(ty:TypeId)(t b n:Nat)(g:AV)(cz:Nat->Nat->Int)(h:FuncId)(ar:List AV->List AV):Prop :=
 ∀(S:St) (xs:List AV) (L:List Nat),(∀x∈L,x<n)->xs.length=L.length->L.length<1152921504606846976->ArS S R ty t b L ->
  C h (ar xs) S λr S'=>r=.ret (.tup [])/\∃Z,Z.Perm L/\Srt (leZ cz) Z/\ArS S' R ty t b Z
abbrev E_s1 (t:Nat)(xs:List AV)(g:AV)(bs a c:Nat):Env:=[(0,.val (slA t xs.length xs)),(1,.val (.int .i64 xs.length)),(2,.val g),(6,.val (.int .i64 bs)),(7,.val (.int .i64 a)),(8,.val (.int .i64 c))]
abbrev E_s2 (t:Nat)(xs:List AV)(g:AV)(bs:Nat):Env:=[(0,.val (slA t xs.length xs)),(1,.val (.int .i64 xs.length)),(2,.val g),(6,.val (.int .i64 bs))]
theorem take_drop2 (u:List Nat)(k:Nat):u.take k++((u.drop k).take k++u.drop (2*k))=u:=by
 rw[show u.drop (2*k)=(u.drop k).drop k by rw[List.drop_drop];congr 1;omega,tkD,tkD]
set_option maxHeartbeats 8000000 in
theorem stb_wp (hm:MonoC C){f:FuncId}{cs:List AV}{n:Nat}{cz:Nat->Nat->Int}(hi:InsC C R ty t b n (.fn f [] cs) cz)(hg:∀k,MrgC C R ty t b n (.fn f [] cs) cz k){S:St}{xs:List AV}{L:List Nat}(hn:∀x∈L,x<n)(hx:xs.length=L.length)(hl:L.length<1152921504606846976)(hA:ArS S R ty t b L) :
  wpF gt C F115 [slA t xs.length xs,.int .i64 xs.length,.fn f [] cs] S λr S'=>r=.ret (.tup [])/\∃Z,Z.Perm L/\Srt (leZ cz) Z/\ArS S' R ty t b Z:=by
 refine⟨rfl,?_⟩;refine goW ?_;refine loop_rule hm (α:=List Nat×List Nat) (λq env S'=>env=E_s1 t xs (.fn f [] cs) 20 q.1.length (q.1.length+20)/\(q.1++q.2).Perm L/\Blk (leZ cz) 20 q.1/\q.1.length % 20=0/\ArS S' R ty t b (q.1++q.2)) (λq=>q.2.length) ?_ (a:=([],L)) ⟨rfl,List.Perm.refl _,Blk.nil,rfl,hA⟩;rintro⟨d,u⟩ env S1 ⟨rfl,hp,hb,hd,hA⟩;simp only at hp hb hd hA;have pl:=hp.length_eq;rw[lA]at pl;have hun:∀x∈u,x<n:=λx hx=>hn x (hp.mem_iff.1 (List.mem_append_right _ hx));refine goW ?_;by_cases c1:((d.length+20:Nat):Int)<=(xs.length:Int)
 ·rw[dT c1];have ht:(u.take 20).length=20:=by rw[lT];omega
  have hA':ArS S1 R ty t b (d++(u.take 20++u.drop 20)):=by rw[tkD];exact hA
  refine goW ?_;refine call_rule (by rfl) (hm _ _ _ _ _ (hi S1 xs d (u.take 20) (u.drop 20) d.length (d.length+20) rfl (by rw[ht]) (λx hx=>hun x (List.mem_of_mem_take hx)) (by rw[tkD,lA];omega) (by rw[tkD,lA];omega) hA') ?_);rintro r S2 ⟨rfl,Z,z1,z2,z3⟩;have zl:=z1.length_eq;rw[ht]at zl;refine goW ?_;refine⟨(d++Z,u.drop 20),⟨?_,?_,hb.app (by omega) hd (Blk.of z2),by rw[lA,zl];omega,by rw[aA];exact z3⟩,by simp only[lD];omega⟩
  ·simp only[E_s1];rw[show wr .i64 (((d.length+20:Nat):Int)+((20:Nat):Int))=((d.length+20+20:Nat):Int) by rw[wr64 (by omega) (by omega)];omega,lA,zl]
  ·refine List.Perm.trans ?_ hp;simp only;rw[aA];refine List.Perm.append_left d ?_;have:=List.Perm.append_right (u.drop 20) z1;rw[tkD]at this;exact this
 ·rw[dF c1];have hA':ArS S1 R ty t b (d++(u++[])):=by rw[List.append_nil];exact hA
  refine goW ?_;refine call_rule (by rfl) (hm _ _ _ _ _ (hi S1 xs d u [] d.length xs.length rfl (by omega) hun (by rw[List.append_nil,lA];omega) (by rw[List.append_nil,lA];omega) hA') ?_);rintro r S2 ⟨rfl,Z,z1,z2,z3⟩;have zl:=z1.length_eq;refine goW ?_;have hp2:(d++Z).Perm L:=(List.Perm.append_left d z1).trans hp;have hb2:Blk (leZ cz) 20 (d++Z):=hb.app (by omega) hd (Blk.of z2);rw[List.append_nil]at z3;generalize d++Z=D at hp2 hb2 z3
  clear hp hb hd hA hA' pl hun c1 z1 z2 zl
  refine loop_rule hm (α:=List Nat×Nat) (λq env S'=>env=E_s2 t xs (.fn f [] cs) q.2/\q.1.Perm L/\0<q.2/\q.2<2305843009213693952/\Blk (leZ cz) q.2 q.1/\ArS S' R ty t b q.1) (λq=>xs.length-q.2) ?_ (a:=(D,20)) ⟨rfl,hp2,by simp only;omega,by simp only;omega,hb2,z3⟩
  clear hp2 hb2 z3 D Z
  rintro⟨D,bs⟩ env S3 ⟨rfl,hp,b0,b1,hb,hA⟩;simp only at hp b0 b1 hb hA;refine goW ?_;by_cases c2:(bs:Int)<(xs.length:Int)
  ·rw[dT c2];refine goW ?_;have w2:wr .i64 (2*(bs:Int))=((2*bs:Nat):Int):=by rw[wr64 (by omega) (by omega)];omega
   rw[w2];refine loop_rule hm (α:=List Nat×List Nat) (λq env S'=>env=E_s1 t xs (.fn f [] cs) bs q.1.length (q.1.length+2*bs)/\(q.1++q.2).Perm L/\Blk (leZ cz) (2*bs) q.1/\q.1.length % (2*bs)=0/\Blk (leZ cz) bs q.2/\ArS S' R ty t b (q.1++q.2)) (λq=>q.2.length) ?_ (a:=([],D)) ⟨by simp[E_s1],hp,Blk.nil,by simp,hb,hA⟩
   clear hp hb hA
   rintro⟨d,u⟩ env S4 ⟨rfl,hp,hd,hdl,hb,hA⟩;simp only at hp hd hdl hb hA;have pl:=hp.length_eq;rw[lA]at pl;have hun:∀x∈u,x<n:=λx hx=>hn x (hp.mem_iff.1 (List.mem_append_right _ hx));refine goW ?_;by_cases c3:((d.length+2*bs:Nat):Int)<=(xs.length:Int)
   ·rw[dT c3];have ht:(u.take bs).length=bs:=by rw[lT];omega
    have ht2:((u.drop bs).take bs).length=bs:=by rw[lT,lD];omega
    have h3:=take_drop2 u bs;have hA':ArS S4 R ty t b (d++(u.take bs++((u.drop bs).take bs++u.drop (2*bs)))):=by rw[h3];exact hA
    rw[<-h3]at hb;have b1':Blk (leZ cz) bs (u.take bs):=Blk.take hb;have b2':=Blk.drop hb b0 (by rw[ht];exact Nat.mod_self _);have b3':=Blk.drop b2' b0 (by rw[ht2];exact Nat.mod_self _);have w3:wr .i64 ((d.length:Int)+(bs:Int))=((d.length+bs:Nat):Int):=by rw[wr64 (by omega) (by omega)];omega
    have w4:wr .i64 (((d.length+2*bs:Nat):Int)+((2*bs:Nat):Int))=((d.length+2*bs+2*bs:Nat):Int):=by rw[wr64 (by omega) (by omega)];omega
    have hcall:=hg (bs+bs) S4 xs d (u.take bs) ((u.drop bs).take bs) (u.drop (2*bs)) d.length (d.length+bs) (d.length+2*bs) (by rw[ht,ht2];omega) rfl (by rw[ht]) (by rw[ht,ht2];omega) (λh=>by rw[h]at ht;simp at ht;omega) (λh=>by rw[h]at ht2;simp at ht2;omega) (λx hx=>hun x (by rw[<-h3];simp only[List.mem_append]at hx ⊢;rcases hx with h | h;exact .inl h;exact .inr (.inl h))) (b1'.srt (by omega)) (b2'.take.srt (by omega)) (by rw[h3,lA];omega) (by rw[h3,lA];omega) hA';refine goW ?_;rw[w3];refine call_rule (by rfl) (hm _ _ _ _ _ hcall ?_);rintro r S5 ⟨rfl,Z,z1,z2,z3⟩;have zl:=z1.length_eq;rw[lA,ht,ht2]at zl;refine goW ?_;rw[w2,w4];refine⟨(d++Z,u.drop (2*bs)),⟨?_,?_,hd.app (by omega) hdl (Blk.of z2),?_,b3',by rw[aA];exact z3⟩,by simp only[lD];omega⟩
    ·rw[lA,zl];simp only[E_s1];rw[show d.length+(bs+bs)=d.length+2*bs by omega]
    ·refine List.Perm.trans ?_ hp;simp only;rw[aA];refine List.Perm.append_left d ?_;have:=List.Perm.append_right (u.drop (2*bs)) z1;rw[aA,h3]at this;exact this
    ·simp only;rw[lA,zl,show bs+bs=2*bs by omega,Nat.add_mod_right];exact hdl
   ·rw[dF c3];have w3:wr .i64 ((d.length:Int)+(bs:Int))=((d.length+bs:Nat):Int):=by rw[wr64 (by omega) (by omega)];omega
    have w4:wr .i64 ((bs:Int)*2)=((bs*2:Nat):Int):=by rw[wr64 (by omega) (by omega)];omega
    refine goW ?_;rw[w3];by_cases c4:((d.length+bs:Nat):Int)<(xs.length:Int)
    ·rw[dT c4];have ht:(u.take bs).length=bs:=by rw[lT];omega
     have ht2:(u.drop bs).length=u.length-bs:=lD;have h3:u.take bs++(u.drop bs++[])=u:=by rw[List.append_nil,tkD]
     have hA':ArS S4 R ty t b (d++(u.take bs++(u.drop bs++[]))):=by rw[h3];exact hA
     rw[<-tkD bs u]at hb;have b1':Blk (leZ cz) bs (u.take bs):=Blk.take hb;have b2':=Blk.drop hb b0 (by rw[ht];exact Nat.mod_self _);have hcall:=hg u.length S4 xs d (u.take bs) (u.drop bs) [] d.length (d.length+bs) xs.length (by rw[ht,ht2];omega) rfl (by rw[ht]) (by rw[ht,ht2];omega) (λh=>by rw[h]at ht;simp at ht;omega) (λh=>by rw[h]at ht2;simp at ht2;omega) (λx hx=>hun x (by rw[tkD]at hx;exact hx)) (b1'.srt (by omega)) (b2'.srt (by omega)) (by rw[h3,lA];omega) (by rw[h3,lA];omega) hA';refine goW ?_;refine call_rule (by rfl) (hm _ _ _ _ _ hcall ?_);rintro r S5 ⟨rfl,Z,z1,z2,z3⟩;rw[tkD]at z1;rw[List.append_nil]at z3;refine goW ?_;rw[w4];refine⟨(d++Z,2*bs),⟨by simp only[E_s2];rw[Nat.mul_comm],(List.Perm.append_left d z1).trans hp,by simp only;omega,by simp only;omega,hd.app (by omega) hdl (Blk.of z2),z3⟩,by simp only;omega⟩
    ·rw[dF c4];refine goW ?_;rw[w4];refine⟨(d++u,2*bs),⟨by simp only[E_s2];rw[Nat.mul_comm],hp,by simp only;omega,by simp only;omega,hd.app (by omega) hdl (Blk.of (hb.srt (by omega))),hA⟩,by simp only;omega⟩
  ·rw[dF c2];refine goW ?_;have pl:=hp.length_eq;exact⟨_,rfl,rfl,D,hp,hb.srt (by omega),hA⟩
end
end Go.Dn

namespace Go.Dn
open Go Go.Proofs.C1
theorem cmpB_cons (a b:UInt8)(x y:List UInt8):cmpB (a::x) (b::y)=if a.toNat=b.toNat then cmpB x y else if a.toNat<b.toNat then -1 else 1:=by
 rw[cmpB];by_cases h:a.toNat=b.toNat
 ·rw[if_pos h,h,Nat.beq_refl];rfl
 ·have:Nat.beq a.toNat b.toNat=false:=by
   cases q:Nat.beq a.toNat b.toNat with
   | false=>rfl
   | true=>exact absurd (bE q) h
  rw[if_neg h,this];by_cases k:a.toNat<b.toNat
  ·rw[if_pos k,show Nat.blt a.toNat b.toNat=true from Nat.ble_eq_true_of_le k];rfl
  ·have:Nat.blt a.toNat b.toNat=false:=by
    cases q:Nat.blt a.toNat b.toNat with
    | false=>rfl
    | true=>exact absurd (bL q) k
   rw[if_neg k,this];rfl
theorem cmpB_self:∀a:List UInt8,cmpB a a=0
 | []=>rfl
 | a::x=>by rw[cmpB_cons,if_pos rfl];exact cmpB_self x
theorem cmpB_anti:∀a b:List UInt8,cmpB b a=- cmpB a b
 | [],[]=>rfl
 | [],_::_=>rfl
 | _::_,[]=>rfl
 | a::x,b::y=>by
  rw[cmpB_cons,cmpB_cons];by_cases h:a.toNat=b.toNat
  ·rw[if_pos h,if_pos h.symm];exact cmpB_anti x y
  ·rw[if_neg h,if_neg (λe=>h e.symm)];by_cases k:a.toNat<b.toNat
   ·rw[if_pos k,if_neg (by omega)];rfl
   ·rw[if_neg k,if_pos (by omega)]
theorem cmpB_zero:∀{a b:List UInt8},cmpB a b=0->a=b
 | [],[],_=>rfl
 | [],_::_,h=>by rw[show cmpB [] (_::_)=-1 from rfl]at h;exact absurd h (by decide)
 | _::_,[],h=>by rw[show cmpB (_::_) []=1 from rfl]at h;exact absurd h (by decide)
 | a::x,b::y,h=>by
  rw[cmpB_cons]at h;by_cases e:a.toNat=b.toNat
  ·rw[if_pos e]at h;rw[cmpB_zero h,UInt8.toNat_inj.1 e]
  ·rw[if_neg e]at h;by_cases k:a.toNat<b.toNat
   ·rw[if_pos k]at h;cases h
   ·rw[if_neg k]at h;cases h
theorem cmpB_tr:∀{a b c:List UInt8},0<=cmpB b a->0<=cmpB c b->0<=cmpB c a
 | [],_,[],_,_=>by decide
 | [],_,_::_,_,_=>by rw[show cmpB (_::_) []=1 from rfl];decide
 | _::_,[],_,h,_=>absurd h (by rw[show cmpB [] (_::_)=-1 from rfl];decide)
 | _::_,_::_,[],_,h=>absurd h (by rw[show cmpB [] (_::_)=-1 from rfl];decide)
 | a::x,b::y,c::z,h,k=>by
  rw[cmpB_cons]at h k ⊢;by_cases e:b.toNat=a.toNat
  ·rw[if_pos e]at h;by_cases e2:c.toNat=b.toNat
   ·rw[if_pos e2]at k;rw[if_pos (by omega)];exact cmpB_tr h k
   ·rw[if_neg e2]at k;rw[if_neg (by omega)];by_cases l:c.toNat<b.toNat
    ·rw[if_pos l]at k;exact absurd k (by decide)
    ·rw[if_neg (by omega)];decide
  ·rw[if_neg e]at h;by_cases l:b.toNat<a.toNat
   ·rw[if_pos l]at h;exact absurd h (by decide)
   ·by_cases e2:c.toNat=b.toNat
    ·rw[if_neg (by omega),if_neg (by omega)];decide
    ·rw[if_neg e2]at k;by_cases l2:c.toNat<b.toNat
     ·rw[if_pos l2]at k;exact absurd k (by decide)
     ·rw[if_neg (by omega),if_neg (by omega)];decide
def czK (keys:List (List UInt8))(i j:Nat):Int:=cmpB (keys.getD i []) (keys.getD j [])
theorem czK_cz (keys:List (List UInt8)):Cz (czK keys) where
 rf a:=by unfold czK;rw[cmpB_self];exact Int.le_refl 0
 tr h k:=cmpB_tr h k
 asy {a b} h:=by
  unfold czK at h ⊢;rw[cmpB_anti];omega
def ordK (keys:List (List UInt8)):List Nat:=(List.range keys.length).mergeSort λi j=>decide (0<=czK keys j i)
theorem ordK_perm (keys:List (List UInt8)):(ordK keys).Perm (List.range keys.length):=List.mergeSort_perm _ _
theorem ordK_srt (keys:List (List UInt8)):Srt (leZ (czK keys)) (ordK keys):=by
 have:=List.pairwise_mergeSort (le:=λi j=>decide (0<=czK keys j i)) (λa b c h k=>by
  simp only[decide_eq_true_eq]at h k ⊢;exact(czK_cz keys).tr h k) (λa b=>by
  simp only[Bool.or_eq_true,decide_eq_true_eq];rcases Int.lt_or_le (czK keys b a) 0 with q | q
  ·exact .inr ((czK_cz keys).asy q)
  ·exact .inl q) (List.range keys.length)
 exact this.imp λh=>of_decide_eq_true h
theorem ordK_len (keys:List (List UInt8)):(ordK keys).length=keys.length:=by rw[(ordK_perm keys).length_eq,List.length_range]
theorem ordK_lt {keys:List (List UInt8)}{i:Nat}(h:i∈ordK keys):i<keys.length:=List.mem_range.1 ((ordK_perm keys).mem_iff.1 h)
theorem ordK_uniq {keys:List (List UInt8)}(hd:keys.Nodup){Z:List Nat}(hp:Z.Perm (List.range keys.length))(hs:Srt (leZ (czK keys)) Z):Z=ordK keys:=by
 refine List.Perm.eq_of_pairwise (λa b ha hb h k=>?_) hs (ordK_srt keys) (hp.trans (ordK_perm keys).symm);have la:=List.mem_range.1 (hp.mem_iff.1 ha);have lb:=ordK_lt hb;unfold leZ czK at h k;rw[cmpB_anti]at h;have:=cmpB_zero (a:=keys.getD a []) (b:=keys.getD b []) (by omega);rw[List.getD_eq_getElem?_getD,List.getD_eq_getElem?_getD,gE la,gE lb]at this;exact(List.getElem_inj hd).1 this
end Go.Dn

namespace Go.Dn
open Go Go.Proofs.C1
set_option maxRecDepth 100000
attribute [local irreducible] afterS keepE
theorem sx_ldBx {gt:GT}{d:Option Nat}{env:Env}{S:St}{R:List Rs}(h:Hs S R)(i:Nat){id:Nat}{ty:TypeId}{v:AV}(hi:R[i]? = some (.bx id ty [v]))(hn:notAgg v=true){a:DOpd}(ha:loc env a=some (.hp id 0)) :
  stepO gt d env S (.ld false 1 a)=.done (putV d v env) S:=by
 have hb:=(h.ok i _ hi).2;have:ldL gt env S false 1 (.hp id 0)=some v:=by
  simp only[ldL,ldC,hb,cut];show mkv false [v]=some v;simp only[mkv,hn,cond_true,cond_false]
 simp only[stepO,ha,this,SR.val]
section
variable {gt:GT}{C:CallT}
theorem cmpS_wp {a c:List UInt8}:wpF gt C F116 [.str a,.str c] St.init (Ret (.int .i64 (cmpB a c))):=by
 refine⟨rfl,?_⟩;refine goW ?_;exact⟨_,rfl,Ret.sta trivial⟩
theorem compare_wp (hm:MonoC C)(h:∀a c,PF C 116 [.str a,.str c] (.int .i64 (cmpB a c))){a c:List UInt8}:wpF gt C F91 [.str a,.str c] St.init (Ret (.int .i64 (cmpB a c))):=by
 refine⟨rfl,?_⟩;refine goW ?_;refine call_pf hm (by rfl) (h a c) (goW ?_);exact⟨_,rfl,Ret.sta trivial⟩
abbrev R_k (keys:List (List UInt8)):List Rs:=[.bx 0 45 [.sl 1 stat (strs keys)]]
set_option maxHeartbeats 2000000 in
theorem ord1_wp (hm:MonoC C)(h:∀a c,PF C 91 [.str a,.str c] (.int .i64 (cmpB a c))){keys:List (List UInt8)}{S:St}{ty:TypeId}{t b:Nat}{l:List Nat}{i j:Nat}(hA:ArS S (R_k keys) ty t b l)(hi:i<keys.length)(hj:j<keys.length) :
  wpF gt C F90 [.int .i64 i,.int .i64 j,.ptr 0 0] S λr S'=>r=.ret (.int .i64 (czK keys i j))/\S'=S:=by
 have ei:keys.getD i []=keys[i]:=by rw[List.getD_eq_getElem?_getD,gE hi];rfl
 have ej:keys.getD j []=keys[j]:=by rw[List.getD_eq_getElem?_getD,gE hj];rfl
 unfold czK;rw[ei,ej];have si:=strs_at hi;have sj:=strs_at hj;generalize keys[i]=x at si;generalize keys[j]=y at sj;have li:i<(strs keys).length:=by rw[strs_length];exact hi
 have lj:j<(strs keys).length:=by rw[strs_length];exact hj
 refine⟨rfl,?_⟩;refine goW ?_;refine step_ruleDO rfl rfl (sx_ldBx hA 0 rfl rfl rfl) (goW ?_);refine step_ruleDO rfl rfl (sx_ia (k:=i) rfl rfl li) (goW ?_);refine step_ruleDO rfl rfl (sx_ldEl (agg:=false) rfl rfl si rfl) (goW ?_);refine step_ruleDO rfl rfl (sx_ldBx hA 0 rfl rfl rfl) (goW ?_);refine step_ruleDO rfl rfl (sx_ia (k:=j) rfl rfl lj) (goW ?_);refine step_ruleDO rfl rfl (sx_ldEl (agg:=false) rfl rfl sj rfl) (goW ?_);refine call_pfD hm (by rfl) (h x y) (goW ?_);exact⟨_,rfl,rfl,rfl⟩
def SstC (C:CallT)(R:List Rs)(ty:TypeId)(t b n:Nat)(g:AV)(cz:Nat->Nat->Int):Prop :=
 StbC C R ty t b n g cz 89 λxs=>[slA t xs.length xs,g]
theorem sst_wp (hm:MonoC C){R:List Rs}{ty:TypeId}{t b n:Nat}{f:FuncId}{cs:List AV}{cz:Nat->Nat->Int}(h:StbC C R ty t b n (.fn f [] cs) cz 115 λxs=>[slA t xs.length xs,.int .i64 xs.length,.fn f [] cs]){S:St}{xs:List AV}{L:List Nat}(hn:∀x∈L,x<n)(hx:xs.length=L.length)(hl:L.length<1152921504606846976)(hA:ArS S R ty t b L) :
  wpF gt C F89 [slA t xs.length xs,.fn f [] cs] S λr S'=>r=.ret (.tup [])/\∃Z,Z.Perm L/\Srt (leZ cz) Z/\ArS S' R ty t b Z:=by
 refine⟨rfl,?_⟩;refine goW ?_;refine call_rule (by rfl) (hm _ _ _ _ _ (h S xs L hn hx hl hA) ?_);rintro r S2 ⟨rfl,Z,z1,z2,z3⟩;refine goW ?_;exact⟨_,rfl,rfl,Z,z1,z2,z3⟩
abbrev slN:AV:=.sl 1 ⟨none,0,some 0,false⟩ []
theorem ins0_wp {S:St}{g:AV}:wpF gt C F137 [slN,.int .i64 0,.int .i64 0,g] S λr S'=>r=.ret (.tup [])/\S'=S:=by
 refine⟨rfl,?_⟩;refine goW ?_;refine⟨1,?_⟩;refine goW ?_;exact⟨_,rfl,rfl,rfl⟩
theorem stb0_wp (hm:MonoC C){g:AV}(h:∀S,C 137 [slN,.int .i64 0,.int .i64 0,g] S λr S'=>r=.ret (.tup [])/\S'=S){S:St}:wpF gt C F115 [slN,.int .i64 0,g] S λr S'=>r=.ret (.tup [])/\S'=S:=by
 refine⟨rfl,?_⟩;refine goW ?_;refine⟨1,?_⟩;refine goW ?_;refine call_rule (by rfl) (hm _ _ _ _ _ (h S) ?_);rintro r S2 ⟨rfl,rfl⟩;refine goW ?_;refine⟨1,?_⟩;refine goW ?_;exact⟨_,rfl,rfl,rfl⟩
theorem sst0_wp (hm:MonoC C){g:AV}(h:∀S,C 115 [slN,.int .i64 0,g] S λr S'=>r=.ret (.tup [])/\S'=S){S:St}:wpF gt C F89 [slN,g] S λr S'=>r=.ret (.tup [])/\S'=S:=by
 refine⟨rfl,?_⟩;refine goW ?_;refine call_rule (by rfl) (hm _ _ _ _ _ (h S) ?_);rintro r S2 ⟨rfl,rfl⟩;refine goW ?_;exact⟨_,rfl,rfl,rfl⟩
theorem order0_wp (hm:MonoC C)(h:∀S,C 89 [slN,.fn 90 [] [.ptr 0 0]] S λr S'=>r=.ret (.tup [])/\S'=S):wpF gt C F72 [.sl 1 stat []] St.init (Ret (.sl 1 stat [])):=by
 refine⟨rfl,?_⟩;refine goW ?_;refine⟨1,?_⟩;refine goW ?_;refine call_rule (by rfl) (hm _ _ _ _ _ (h _) ?_);rintro r S2 ⟨rfl,rfl⟩;refine goW ?_;exact⟨_,rfl,_,rfl,by simp only[Rdo];exact⟨trivial,_,_,false,[],rfl,rfl,by simp only[Rdos]⟩⟩
abbrev E_or (t n i:Nat)(xs:List AV):Env:=[(1,.val (.ptr 0 0)),(3,.val (slA t n xs)),(9,.val (.int .i64 n)),(10,.val (.int .i64 i))]
theorem ints_zero (n:Nat):List.replicate n (.int .i64 0)=ints (List.replicate n 0):=by simp[ints]
set_option maxHeartbeats 4000000 in
theorem order_wp (hm:MonoC C){keys:List (List UInt8)}(h:∀t b,SstC C (R_k keys) 3 t b keys.length (.fn 90 [] [.ptr 0 0]) (czK keys))(hd:keys.Nodup)(h0:0<keys.length)(hl:keys.length<1099511627776) :
  wpF gt C F72 [.sl 1 stat (strs keys)] St.init (Ret (.sl 1 stat (ints (ordK keys)))):=by
 have sl:(strs keys).length=keys.length:=strs_length keys;refine⟨rfl,?_⟩;refine goW ?_;have hb:=Hs.init.newBox 45 [.sl 1 stat (strs keys)];refine r_mks (n:=keys.length) (c:=keys.length) hb trivial (by rw[<-sl];rfl) (by rw[<-sl];rfl) (nR _) h0 (by omega) (by omega) rfl ?_;intro t b S hS;have hA:ArS S (R_k keys) 3 t b (List.replicate keys.length 0):=by
  unfold ArS;rw[<-ints_zero,List.append_nil];exact hS
 clear hS hb
 have hxl:(List.replicate keys.length (AV.int .i64 0)).length=keys.length:=List.length_replicate;generalize List.replicate keys.length (AV.int .i64 0)=xs at hxl;refine goW ?_;rw[hxl];refine loop_rule hm (α:=Nat) (λi env S'=>env=E_or t keys.length i xs/\i<=keys.length/\ArS S' (R_k keys) 3 t b (List.range i++List.replicate (keys.length-i) 0)) (λi=>keys.length-i) ?_ (a:=0) ⟨rfl,Nat.zero_le _,by simpa using hA⟩
 clear hA
 rintro i env S' ⟨rfl,hi,hA⟩;refine goW ?_;by_cases c:(i:Int)<(keys.length:Int)
 ·rw[dT c];have hset:(List.range i++List.replicate (keys.length-i) 0).set i i=List.range (i+1)++List.replicate (keys.length-(i+1)) 0:=by
   obtain⟨m,hm⟩:∃m,keys.length-i=m+1:=⟨keys.length-i-1,by omega⟩
   rw[hm,List.replicate_succ,set_mid (by rw[List.length_range]),show keys.length-(i+1)=m by omega,List.range_succ,aA];rfl
  have hll:xs.length=(List.range i++List.replicate (keys.length-i) 0).length:=by rw[hxl,lA,List.length_range,List.length_replicate];omega
  refine goW ?_;refine step_ruleO (sx_ia (k:=i) rfl rfl (by omega)) (goW ?_);refine st_runP (hA.st hll rfl rfl (by omega)) (by trivial) ?_;intro S2 hA2;rw[hset]at hA2;refine goW ?_;refine⟨i+1,⟨?_,by omega,hA2⟩,by omega⟩;rw[wrNat (by omega)]
  try rfl
 ·rw[dF c];obtain rfl:i=keys.length:=by omega
  rw[Nat.sub_self,List.replicate_zero,List.append_nil]at hA;have hcall:=h t b S' xs (List.range keys.length) (λx hx=>List.mem_range.1 hx) (by rw[hxl,List.length_range]) (by rw[List.length_range];omega) hA;simp only[hxl]at hcall;refine goW ?_;refine call_rule (by rfl) (hm _ _ _ _ _ hcall ?_);rintro r S2 ⟨rfl,Z,z1,z2,z3⟩;rw[ordK_uniq hd z1 z2]at z3;refine goW ?_;exact⟨_,rfl,_,rfl,by simp only[Rdo];exact⟨trivial,_,_,false,_,rfl,z3.els (by rw[hxl,ordK_len]),Stas.rdos _ (by
   generalize ordK keys=l
   induction l with
   | nil=>trivial
   | cons a r ih=>exact⟨trivial,ih⟩)⟩⟩
end

def zPT:PT:=.mk 0 [] [] []
mutual
def sortT:PT->PT
 |.mk k s keys kids=>if k=7/\keys.length=kids.length then .mk k s ((ordK keys).map λi=>keys.getD i []) ((ordK keys).map λi=>(sortTs kids).getD i zPT) else .mk k s keys (sortTs kids)
def sortTs:List PT->List PT
 | []=>[]
 | t::r=>sortT t::sortTs r
end
theorem sortTs_map:∀l:List PT,sortTs l=l.map sortT
 | []=>rfl
 | t::r=>by simp only[sortTs,List.map_cons,sortTs_map r]
mutual
def PT.nd:PT->Prop
 |.mk k _ keys kids=>(k=7->keys.length=kids.length->keys.Nodup/\keys.length<1099511627776)/\PT.nds kids
def PT.nds:List PT->Prop
 | []=>True
 | t::r=>t.nd/\PT.nds r
end
theorem PT.nds_get:∀{l:List PT} {i:Nat} (h:i<l.length),PT.nds l->(l[i]).nd
 | a::r,0,_,h=>by simp only[PT.nds]at h;exact h.1
 | a::r,i+1,hi,h=>by simp only[PT.nds]at h;exact PT.nds_get (l:=r) (i:=i) (by simpa using hi) h.2
def DC.lft:DC->DC |.seq a _=>a | c=>c
section
variable {gt:GT}{C:CallT}
abbrev E_so1 (k:Int)(s:List UInt8)(keys:List (List UInt8))(o1 o2:SI)(all kids:List PT)(i:Int):Env :=
 [(2,.box zT),(3,.box [.int .i64 k,.str s,.sl 1 o1 (strs keys),.sl 4 o2 (encTs kids)]),(32,.val (.sl 4 stat (encTs all))),(33,.val (.int .i64 (encTs all).length)),(34,.val (.int .i64 i))]
abbrev E_so2 (t:PT)(k:Int)(s:List UInt8)(keys:List (List UInt8))(o1 o2:SI)(kids:List PT)(L:List Nat)(i:Int):Env :=
 [(1,.box (encT t).cells),(2,.box zT),(3,.box [.int .i64 k,.str s,.sl 1 o1 (strs keys),.sl 4 o2 (encTs kids)]),(49,.val (.sl 1 stat (ints L))),(50,.val (.int .i64 (ints L).length)),(51,.val (.int .i64 i))]
set_option maxHeartbeats 4000000 in
theorem sorted1_wp (hm:MonoC C){k:Int}{s:List UInt8}{keys:List (List UInt8)}{kids:List PT}(ih:∀u,u.n<(PT.mk k s keys kids).n->u.ok->u.nd->PF C 45 [encT u] (encT (sortT u)))(hk:(PT.mk k s keys kids).ok)(hd:PT.nds kids){S:St}(hR:Hs S [.gr 9 ⟨none,0,some 0,true⟩ [],.gr 47 ⟨none,0,some 0,true⟩ []]){z:Env} :
  wpD gt C (.seq F45.body.rt.rt.lft.rt F45.body.rt.rt.rt) ((1,.box (encT (.mk k s keys kids)).cells)::(2,.box zT)::(3,.box [.int .i64 k,.str s,.sl 1 ⟨none,0,some 0,true⟩ [],.sl 4 ⟨none,0,some 0,true⟩ []])::(24,.val (.bool true))::z) S (bodyQ gt F45.res (Ret (encT (.mk k s keys (sortTs kids))))):=by
 simp only[PT.ok]at hk;obtain⟨hk1,hk2,hk3⟩:=hk
 conv=>whnf
 refine goW ?_;refine r_app hR 0 rfl trivial rfl rfl rfl (by rw[strs_length];simpa using hk1) (by rw[strs_length];simp;omega) (by decide) (by decide) (cells_strs keys) ?_;intro o1 S1 hR;refine goW ?_;have hlen:=encTs_len kids;refine loop_rule hm (α:=Nat) (λi env S'=>i<=kids.length/\∃o2,Hs S' [.gr 9 o1 (strs keys),.gr 47 o2 (encTs ((sortTs kids).take i))]/\env=E_so1 k s keys o1 o2 kids ((sortTs kids).take i) i) (λi=>kids.length-i) ?_ (a:=0) ⟨Nat.zero_le _,_,hR,rfl⟩;rintro i env S' ⟨hi,o2,hR,rfl⟩;have hsl:(sortTs kids).length=kids.length:=by rw[sortTs_map,List.length_map]
 refine goW ?_;by_cases h:(i:Int)<(encTs kids).length
 ·rw[dT h];refine goW ?_;have hik:i<kids.length:=by omega
  have his:i<(sortTs kids).length:=by omega
  have hge:(sortTs kids)[i]=sortT kids[i]:=by simp only[sortTs_map,List.getElem_map]
  refine step_ruleO (sx_ia (k:=i) rfl rfl (by omega)) (goW ?_);refine step_ruleO (sx_ldEl (agg:=true) rfl rfl (encTs_get hik) (rdT _)) ?_;have ihk:=ih _ (kid_lt hik) (PT.oks_get hk3 (gE hik)) (PT.nds_get hik hd);have hok:=encT_ok (sortT kids[i]);have hts:encTs ((sortTs kids).take (i+1))=encTs ((sortTs kids).take i)++[encT (sortT kids[i])]:=by rw[tS his,encTs_app,hge];rfl
  obtain⟨ka,sa,xa,ya,he⟩:=encT_agg kids[i];obtain⟨kb,sb,xb,yb,he2⟩:=encT_agg (sortT kids[i]);rw[he2]at ihk hts hok;rw[he]at ihk ⊢;refine goW ?_;refine call_pfD hm (by rfl) ihk (goW ?_);have hlt:(encTs ((sortTs kids).take i)).length=i:=by rw[encTs_len,lT];omega
  refine r_appD hR 1 rfl (by trivial) rfl rfl rfl (by rw[hlt];simp;omega) (by rw[hlt];simp;omega) (by decide) (by decide) hok ?_;intro o3 S3 hR;refine goW ?_;refine⟨i+1,⟨by omega,o3,by rw[hts];exact hR,?_⟩,by omega⟩;rw[wrNat (by omega)];simp only[E_so1,hts]
  try rfl
 ·rw[dF h];refine goW ?_;have:(sortTs kids).take i=sortTs kids:=List.take_of_length_le (by omega);rw[this]at hR ⊢;exact⟨_,rfl,_,rfl,rdo_T hR (i:=0) (j:=1) rfl rfl⟩
set_option maxHeartbeats 4000000 in
theorem sorted2_wp (hm:MonoC C)(ho:∀keys:List (List UInt8),keys.Nodup->keys.length<1099511627776->PF C 72 [.sl 1 stat (strs keys)] (.sl 1 stat (ints (ordK keys)))){k:Int}{s:List UInt8}{keys:List (List UInt8)}{kids:List PT}(ih:∀u,u.n<(PT.mk k s keys kids).n->u.ok->u.nd->PF C 45 [encT u] (encT (sortT u)))(hk:(PT.mk k s keys kids).ok)(hd:PT.nds kids)(hdk:keys.Nodup)(hl:keys.length=kids.length)(hl2:keys.length<1099511627776){S:St}(hR:Hs S [.gr 9 ⟨none,0,some 0,true⟩ [],.gr 47 ⟨none,0,some 0,true⟩ []]){z:Env} :
  wpD gt C (.seq F45.body.rt.rt.lft.rt F45.body.rt.rt.rt) ((1,.box (encT (.mk k s keys kids)).cells)::(2,.box zT)::(3,.box [.int .i64 k,.str s,.sl 1 ⟨none,0,some 0,true⟩ [],.sl 4 ⟨none,0,some 0,true⟩ []])::(24,.val (.bool false))::z) S (bodyQ gt F45.res (Ret (encT (.mk k s ((ordK keys).map λi=>keys.getD i []) ((ordK keys).map λi=>(sortTs kids).getD i zPT))))):=by
 simp only[PT.ok]at hk;obtain⟨hk1,hk2,hk3⟩:=hk;have ho:=ho keys hdk hl2;have hL:=@ordK_lt keys;have hLl:=ordK_len keys;generalize ordK keys=L at ho hL hLl;have hil:=ints_len L;have hsl:(sortTs kids).length=kids.length:=by rw[sortTs_map,List.length_map]
 have l1:=strs_length keys;have l2:=encTs_len kids
 conv=>whnf
 refine goW ?_;refine call_pf hm (by rfl) ho (goW ?_);refine loop_rule hm (α:=Nat) (λi env S'=>i<=L.length/\∃o1 o2,Hs S' [.gr 9 o1 (strs ((L.take i).map λi=>keys.getD i [])),.gr 47 o2 (encTs ((L.take i).map λi=>(sortTs kids).getD i zPT))]/\env=E_so2 (.mk k s keys kids) k s ((L.take i).map λi=>keys.getD i []) o1 o2 ((L.take i).map λi=>(sortTs kids).getD i zPT) L i) (λi=>L.length-i) ?_ (a:=0) ⟨Nat.zero_le _,_,_,hR,rfl⟩;rintro i env S' ⟨hi,o1,o2,hR,rfl⟩;refine goW ?_;by_cases h:(i:Int)<(ints L).length
 ·rw[dT h];refine goW ?_;have hik:i<L.length:=by omega
  have hj:=hL (List.getElem_mem hik);have hgi:(ints L)[i]? = some (.int .i64 (L[i]:Nat)):=ints_get (gE hik);have htk:L.take (i+1)=L.take i++[L[i]]:=tS hik;generalize L[i]=j at hj hgi htk;have hjk:j<kids.length:=by omega
  have g1:keys.getD j []=keys[j]:=by rw[List.getD_eq_getElem?_getD,gE hj];rfl
  have g2:(sortTs kids).getD j zPT=sortT kids[j]:=by rw[List.getD_eq_getElem?_getD,gE (by omega)];simp only[sortTs_map,List.getElem_map,Option.getD_some]
  have hks:strs ((L.take (i+1)).map λi=>keys.getD i [])=strs ((L.take i).map λi=>keys.getD i [])++[.str keys[j]]:=by rw[htk,List.map_append,List.map_cons,List.map_nil,g1];simp[strs]
  have hts:encTs ((L.take (i+1)).map λi=>(sortTs kids).getD i zPT)=encTs ((L.take i).map λi=>(sortTs kids).getD i zPT)++[encT (sortT kids[j])]:=by rw[htk,List.map_append,List.map_cons,List.map_nil,g2,encTs_app];rfl
  have sj:=strs_at hj;generalize keys[j]=kj at hks sj;have ihk:=ih _ (kid_lt hjk) (PT.oks_get hk3 (gE hjk)) (PT.nds_get hjk hd);have hok:=encT_ok (sortT kids[j]);have hej:=encTs_get hjk;obtain⟨ka,sa,xa,ya,he⟩:=encT_agg kids[j];obtain⟨kb,sb,xb,yb,he2⟩:=encT_agg (sortT kids[j]);rw[he2]at ihk hts hok;have hrd:=rdT kids[j];rw[he]at ihk hej hrd;refine step_ruleO (sx_ia (k:=i) rfl rfl (by omega)) (goW ?_);refine step_ruleO (sx_ldEl (agg:=false) rfl rfl hgi rfl) (goW ?_);refine step_ruleDO rfl rfl (sx_ia (k:=j) rfl rfl (by omega)) (goW ?_);refine step_ruleDO rfl rfl (sx_ldEl (agg:=false) rfl rfl sj rfl) (goW ?_);have hlt1:(strs ((L.take i).map λi=>keys.getD i [])).length=i:=by rw[strs_length,List.length_map,lT];omega
  refine r_appD hR 0 rfl (by trivial) rfl rfl rfl (by rw[hlt1];simp;omega) (by rw[hlt1];simp;omega) (by decide) (by decide) (by rfl) ?_;intro o3 S3 hR;refine goW ?_;refine step_ruleDO rfl rfl (sx_ia (k:=j) rfl rfl (by omega)) (goW ?_);refine step_ruleDO rfl rfl (sx_ldEl (agg:=true) rfl rfl hej hrd) (goW ?_);refine call_pfD hm (by rfl) ihk (goW ?_);have hlt:(encTs ((L.take i).map λi=>(sortTs kids).getD i zPT)).length=i:=by rw[encTs_len,List.length_map,lT];omega
  refine r_appD hR 1 rfl (by trivial) rfl rfl rfl (by rw[hlt];simp;omega) (by rw[hlt];simp;omega) (by decide) (by decide) hok ?_;intro o4 S4 hR;refine goW ?_;refine⟨i+1,⟨by omega,o3,o4,by rw[hts,hks];exact hR,?_⟩,by omega⟩;rw[wrNat (by omega)];simp only[E_so2,hts,hks]
  try rfl
 ·rw[dF h];refine goW ?_;have:L.take i=L:=List.take_of_length_le (by omega);rw[this]at hR ⊢;exact⟨_,rfl,_,rfl,rdo_T hR (i:=0) (j:=1) rfl rfl⟩
set_option maxHeartbeats 4000000 in
theorem sorted_wp (hm:MonoC C)(ho:∀keys:List (List UInt8),keys.Nodup->keys.length<1099511627776->PF C 72 [.sl 1 stat (strs keys)] (.sl 1 stat (ints (ordK keys)))){t:PT}(ih:∀u,u.n<t.n->u.ok->u.nd->PF C 45 [encT u] (encT (sortT u)))(hk:t.ok)(hd:t.nd):wpF gt C F45 [encT t] St.init (Ret (encT (sortT t))):=by
 obtain⟨k,s,keys,kids⟩:=t;simp only[PT.nd]at hd;obtain⟨hd1,hd2⟩:=hd;have hR:=(Hs.init.addNil 9 true).addNil 47 true;have l1:=strs_length keys;have l2:=encTs_len kids;have r1:=sorted1_wp (gt:=gt) (z:=[]) hm ih hk hd2 hR;have no:¬(k=7/\keys.length=kids.length)->sortT (.mk k s keys kids)=.mk k s keys (sortTs kids):=λh=>by rw[sortT,if_neg h]
 refine⟨rfl,?_⟩;refine goW ?_;by_cases c1:k=7
 ·rw[neI_false c1];refine goW ?_;by_cases c2:keys.length=kids.length
  ·rw[neI_false (show ((strs keys).length:Int)=((encTs kids).length:Int) by omega)];rw[show sortT (.mk k s keys kids)=_ by rw[sortT,if_pos ⟨c1,c2⟩]];have r2:=sorted2_wp (gt:=gt) (z:=[]) hm ho ih hk hd2 (hd1 c1 c2).1 c2 (hd1 c1 c2).2 hR
   clear r1 no
   with_unfolding_all exact r2
  ·rw[neI_true (show ¬((strs keys).length:Int)=((encTs kids).length:Int) by omega),no (λh=>c2 h.2)]
   with_unfolding_all exact r1
 ·rw[neI_true c1,no (λh=>c1 h.1)];refine goJ ?_
  with_unfolding_all exact r1
end
end Go.Dn

namespace Go.Dn
open Go Go.Proofs.C1
theorem unlike_nodup:∀{seen keys:List (List UInt8)},unlikeB seen keys=true->keys.Nodup/\∀x∈keys,x ∉ seen
 | _,[],_=>⟨List.nodup_nil,by simp⟩
 | seen,s::r,h=>by
  simp only[unlikeB]at h;by_cases hs:s∈seen
  ·rw[if_pos hs]at h;cases h
  ·rw[if_neg hs,bA]at h;obtain⟨a,b⟩:=unlike_nodup h.2;refine⟨List.nodup_cons.2 ⟨λhm=>b s hm (by simp),a⟩,λx hx=>?_⟩;rcases List.mem_cons.1 hx with rfl | hx
   ·exact hs
   ·exact λhm=>b x hx (by simp[hm])
theorem formed_parts {k:Int}{s:List UInt8}{keys:List (List UInt8)}{kids:List PT}(h:formedB (.mk k s keys kids)=true) :
  formedBs kids=true/\(k=7->s=[]/\keys.length=kids.length/\keys.Nodup)/\(k≠7->keys=[])/\(k≠7->k≠6->kids=[])/\(k=6->s=[]):=by
 simp only[formedB,bA]at h;obtain⟨h1,h2⟩:=h;refine⟨h1,?_⟩;unfold shapeB at h2;by_cases k1:k=1
 ·rw[if_pos k1]at h2;simp only[bA,decide_eq_true_eq]at h2;exact⟨λe=>by omega,λ_=>nL h2.1.1,λ_ _=>nL h2.1.2,λe=>by omega⟩
 rw[if_neg k1]at h2;by_cases k2:k=2
 ·rw[if_pos k2]at h2;simp only[bA,decide_eq_true_eq]at h2;exact⟨λe=>by omega,λ_=>nL h2.1.1,λ_ _=>nL h2.1.2,λe=>by omega⟩
 rw[if_neg k2]at h2;by_cases k3:k=3
 ·rw[if_pos k3,bA,bA]at h2;have a:=of_decide_eq_true h2.1.1;have b:=of_decide_eq_true h2.1.2;exact⟨λe=>by omega,λ_=>nL a,λ_ _=>nL b,λe=>by omega⟩
 rw[if_neg k3]at h2;by_cases k4:k=4
 ·rw[if_pos k4,bA,bA]at h2;have a:=of_decide_eq_true h2.1.1;have b:=of_decide_eq_true h2.1.2;exact⟨λe=>by omega,λ_=>nL a,λ_ _=>nL b,λe=>by omega⟩
 rw[if_neg k4]at h2;by_cases k5:k=5
 ·rw[if_pos k5,bA,bA]at h2;have a:=of_decide_eq_true h2.1.1;have b:=of_decide_eq_true h2.1.2;exact⟨λe=>by omega,λ_=>nL a,λ_ _=>nL b,λe=>by omega⟩
 rw[if_neg k5]at h2;by_cases k6:k=6
 ·rw[if_pos k6,bA]at h2;have b:=of_decide_eq_true h2.2;exact⟨λe=>by omega,λ_=>nL b,λ_ e=>absurd k6 e,λ_=>beqB_iff.1 h2.1⟩
 rw[if_neg k6]at h2;by_cases k7:k=7
 ·rw[if_pos k7,bA,bA]at h2;have a:=of_decide_eq_true h2.2.1;exact⟨λ_=>⟨beqB_iff.1 h2.1,a,(unlike_nodup h2.2.2).1⟩,λe=>absurd k7 e,λe=>absurd k7 e,λe=>absurd e k6⟩
 ·rw[if_neg k7]at h2;cases h2
theorem formedBs_get:∀{l:List PT} {i:Nat} (h:i<l.length),formedBs l=true->formedB l[i]=true
 | a::r,0,_,h=>by simp only[formedBs,bA]at h;exact h.1
 | a::r,i+1,hi,h=>by simp only[formedBs,bA]at h;exact formedBs_get (l:=r) (i:=i) (by simpa using hi) h.2
theorem PT.len_nsq:∀l:List PT,l.length<=PT.ns l
 | []=>nR _
 | t::r=>by have:=PT.n_pos t;have:=PT.len_nsq r;simp only[PT.ns,lC];omega
mutual
theorem formed_nd:∀{t:PT},formedB t=true->t.n<1099511627776->t.nd
 |.mk k s keys kids,h,hn=>by
  obtain⟨h1,h2,_⟩:=formed_parts h;simp only[PT.n]at hn;simp only[PT.nd];have:=PT.len_nsq kids;exact⟨λhk hl=>⟨(h2 hk).2.2,by omega⟩,formed_nds h1 (by omega)⟩
theorem formed_nds:∀{l:List PT},formedBs l=true->PT.ns l<1099511627776->PT.nds l
 | [],_,_=>trivial
 | t::r,h,hn=>by
  simp only[formedBs,bA]at h;simp only[PT.ns]at hn;simp only[PT.nds];exact⟨formed_nd h.1 (by omega),formed_nds h.2 (by omega)⟩
end
theorem perm_of_sub {α:Type}:∀{l l':List α},l.Nodup->(∀x∈l,x∈l')->l'.length<=l.length->l.Perm l'
 | [],l',_,_,h=>by rw[nL (Nat.le_zero.1 h)]
 | a::r,l',hd,hs,h=>by
  obtain⟨s,t,rfl⟩:=List.append_of_mem (hs a (by simp));have hd:=List.nodup_cons.1 hd;have ih:=perm_of_sub (l:=r) (l':=s++t) hd.2 (λx hx=>by
   have:=hs x (by simp[hx]);rw[List.mem_append,List.mem_cons]at this;rw[List.mem_append];rcases this with q | rfl | q
   ·exact .inl q
   ·exact absurd hx hd.1
   ·exact .inr q) (by simp only[lA,lC]at h ⊢;omega)
  exact(List.Perm.cons a ih).trans List.perm_middle.symm
theorem map_pair {α β γ:Type}{f f':α->β}{g g':α->γ}:∀{l l':List α},l.map f=l'.map f'->l.map g=l'.map g'->(l.map λx=>(f x,g x))=l'.map λx=>(f' x,g' x)
 | [],[],_,_=>rfl
 | a::r,b::q,h,k=>by
  simp only[List.map_cons,List.cons.injEq]at h k ⊢;exact⟨by rw[h.1,k.1],map_pair h.2 k.2⟩
 | [],b::q,h,_=>by cases h
 | a::r,[],h,_=>by cases h
theorem rec_eq {α:Type}{z:α}{keys keys':List (List UInt8)}{vals vals':List α}(hd:keys.Nodup)(hd':keys'.Nodup) :
  (((ordK keys).map λi=>keys.getD i [])=((ordK keys').map λi=>keys'.getD i [])/\((ordK keys).map λi=>vals.getD i z)=((ordK keys').map λi=>vals'.getD i z)) ↔
  (keys.length=keys'.length/\∀i<keys.length,∃j<keys'.length,keys.getD i []=keys'.getD j []/\vals.getD i z=vals'.getD j z):=by
 have p1:=(ordK_perm keys).map λi=>(keys.getD i [],vals.getD i z)
 have p2:=(ordK_perm keys').map λi=>(keys'.getD i [],vals'.getD i z)
 constructor
 ·rintro⟨h1,h2⟩;have h:=map_pair h1 h2;rw[h]at p1;have p:=p1.symm.trans p2;have hl:=p.length_eq;simp only[List.length_map,List.length_range]at hl;refine⟨hl,λi hi=>?_⟩;have:(keys.getD i [],vals.getD i z)∈(List.range keys'.length).map λi=>(keys'.getD i [],vals'.getD i z):=p.mem_iff.1 (List.mem_map.2 ⟨i,List.mem_range.2 hi,rfl⟩);obtain⟨j,hj,e⟩:=List.mem_map.1 this;simp only[Prod.mk.injEq]at e;exact⟨j,List.mem_range.1 hj,e.1.symm,e.2.symm⟩
 ·rintro⟨hl,h⟩;have inj:∀{ks:List (List UInt8)},ks.Nodup->∀{i j:Nat},i<ks.length->j<ks.length->ks.getD i []=ks.getD j []->i=j:=λhd i j hi hj e=>by
   rw[List.getD_eq_getElem?_getD,List.getD_eq_getElem?_getD,gE hi,gE hj]at e;exact(List.getElem_inj hd).1 e
  have nd:((List.range keys.length).map λi=>(keys.getD i [],vals.getD i z)).Nodup:=by
   rw[List.Nodup,List.pairwise_map];refine List.Pairwise.imp_of_mem ?_ (List.nodup_range (n:=keys.length));intro a b ha hb hne e;simp only[Prod.mk.injEq]at e;exact hne (inj hd (List.mem_range.1 ha) (List.mem_range.1 hb) e.1)
  have p:=perm_of_sub (l':=(List.range keys'.length).map λi=>(keys'.getD i [],vals'.getD i z)) nd (λx hx=>by
   obtain⟨i,hi,rfl⟩:=List.mem_map.1 hx;obtain⟨j,hj,e1,e2⟩:=h i (List.mem_range.1 hi);exact List.mem_map.2 ⟨j,List.mem_range.2 hj,by rw[e1,e2]⟩) (by simp[hl])
  have q:=p1.trans (p.trans p2.symm);have s1:((ordK keys).map λi=>(keys.getD i [],vals.getD i z)).Pairwise λa b=>0<=cmpB b.1 a.1:=List.pairwise_map.2 ((ordK_srt keys).imp λh=>h);have s2:((ordK keys').map λi=>(keys'.getD i [],vals'.getD i z)).Pairwise λa b=>0<=cmpB b.1 a.1:=List.pairwise_map.2 ((ordK_srt keys').imp λh=>h);have e:=List.Perm.eq_of_pairwise (λa b ha hb h k=>by
   have ha:=(q.trans p2).mem_iff.1 ha;have hb:=p2.mem_iff.1 hb;obtain⟨i,hi,rfl⟩:=List.mem_map.1 ha;obtain⟨j,hj,rfl⟩:=List.mem_map.1 hb;rw[cmpB_anti]at h;have:=inj hd' (List.mem_range.1 hi) (List.mem_range.1 hj) (cmpB_zero (by simp only at h k ⊢;omega));rw[this]) s1 s2 q
  have e1:=congrArg (List.map Prod.fst) e;have e2:=congrArg (List.map Prod.snd) e;rw[List.map_map,List.map_map]at e1 e2;exact⟨e1,e2⟩
theorem sortTs_getD {l:List PT}{i:Nat}(h:i<l.length):(sortTs l).getD i zPT=sortT l[i]:=by
 rw[List.getD_eq_getElem?_getD,gE (by rw[sortTs_map,List.length_map];exact h)];simp only[sortTs_map,List.getElem_map,Option.getD_some]
theorem getD_at {α:Type}{l:List α}{i:Nat}{z:α}(h:i<l.length):l.getD i z=l[i]:=by
 rw[List.getD_eq_getElem?_getD,gE h];rfl
theorem sort_rec {s s':List UInt8}{keys keys':List (List UInt8)}{kids kids':List PT}(hd:keys.Nodup)(hd':keys'.Nodup)(hl:keys.length=kids.length)(hl':keys'.length=kids'.length) :
  sortT (.mk 7 s keys kids)=sortT (.mk 7 s' keys' kids')↔s=s'/\kids.length=kids'.length/\∀i,(hi:i<kids.length)->∃j,∃hj:j<kids'.length,keys.getD i []=keys'.getD j []/\sortT kids[i]=sortT kids'[j]:=by
 rw[sortT,sortT,if_pos ⟨rfl,hl⟩,if_pos ⟨rfl,hl'⟩];simp only[PT.mk.injEq,true_and];rw[rec_eq hd hd',hl,hl'];refine and_congr_right λ_=>and_congr_right λ_=>forall_congr' λi=>⟨λh hi=>?_,λh hi=>?_⟩
 ·obtain⟨j,hj,e1,e2⟩:=h hi;rw[sortTs_getD hi,sortTs_getD hj]at e2;exact⟨j,hj,e1,e2⟩
 ·obtain⟨j,hj,e1,e2⟩:=h hi;refine⟨j,hj,e1,?_⟩;rw[sortTs_getD hi,sortTs_getD hj];exact e2
theorem sort_list {k k':Int}{s s':List UInt8}{kids kids':List PT}(hk:k≠7)(hk':k'≠7):sortT (.mk k s [] kids)=sortT (.mk k' s' [] kids')↔k=k'/\s=s'/\kids.map sortT=kids'.map sortT:=by
 rw[sortT,sortT,if_neg (λh=>hk h.1),if_neg (λh=>hk' h.1)];simp only[PT.mk.injEq,true_and,sortTs_map]
theorem sort_k (t:PT):(sortT t).k=t.k/\(sortT t).s=t.s:=by
 obtain⟨k,s,keys,kids⟩:=t;rw[sortT];split<;>exact⟨rfl,rfl⟩
def sameB (a b:PT):Bool:=if formedB a && formedB b then eqT (sortT a) (sortT b) else eqT a b
end Go.Dn

namespace Go.Dn
open Go Go.Proofs.C1
set_option maxRecDepth 100000
attribute [local irreducible] afterS keepE
theorem oks_iff:∀{l:List PT},PT.oks l↔∀u∈l,u.ok
 | []=>⟨λ_ u h=>by simp at h,λ_=>trivial⟩
 | t::r=>by
  simp only[PT.oks,oks_iff (l:=r),List.mem_cons];exact⟨λh u hu=>by rcases hu with rfl | hu;exact h.1;exact h.2 u hu,λh=>⟨h t (.inl rfl),λu hu=>h u (.inr hu)⟩⟩
mutual
theorem sort_ok:∀{t:PT},t.ok->(sortT t).ok
 |.mk k s keys kids,h=>by
  simp only[PT.ok]at h;have hs:=sorts_ok h.2.2;have hsl:(sortTs kids).length=kids.length:=by rw[sortTs_map,List.length_map]
  rw[sortT];split
  ·simp only[PT.ok,List.length_map,ordK_len];refine⟨h.1,by omega,oks_iff.2 λu hu=>?_⟩;obtain⟨i,hi,rfl⟩:=List.mem_map.1 hu;have:=ordK_lt hi;rw[getD_at (by omega)];exact oks_iff.1 hs _ (List.getElem_mem _)
  ·simp only[PT.ok];exact⟨h.1,by omega,hs⟩
theorem sorts_ok:∀{l:List PT},PT.oks l->PT.oks (sortTs l)
 | [],_=>trivial
 | t::r,h=>by
  simp only[PT.oks]at h;simp only[sortTs,PT.oks];exact⟨sort_ok h.1,sorts_ok h.2⟩
end
section
variable {gt:GT}{C:CallT}
abbrev E_eql (a c:List (List UInt8))(i:Nat):Env:=[(0,.val (.sl 1 stat (strs a))),(1,.val (.sl 1 stat (strs c))),(12,.val (.int .i64 (strs a).length)),(13,.val (.int .i64 i))]
set_option maxHeartbeats 2000000 in
theorem slEqual_wp (hm:MonoC C){a c:List (List UInt8)}(hl:a.length<4611686018427387904):wpF gt C F70 [.sl 1 stat (strs a),.sl 1 stat (strs c)] St.init (Ret (.bool (decide (a=c)))):=by
 have no:∀{S:St},¬a=c->Ret (.bool (decide (a=c))) (.ret (.bool false)) S:=λh=>by rw[dF h];exact Ret.sta trivial
 have l1:=strs_length a;have l2:=strs_length c;refine⟨rfl,?_⟩;refine goW ?_;by_cases z:((strs a).length:Int)=(strs c).length
 case neg =>
  rw[neI_true z];refine goW ?_;exact⟨_,rfl,no λh=>by rw[h]at z;exact z rfl⟩
 rw[neI_false z];refine goW ?_;refine loop_rule hm (α:=Nat) (λi env S'=>i<=a.length/\env=E_eql a c i/\S'=St.init/\a.take i=c.take i) (λi=>a.length-i) ?_ (a:=0) ⟨Nat.zero_le _,rfl,rfl,rfl⟩;rintro i env S' ⟨hi,rfl,rfl,hp⟩;refine goW ?_;by_cases h:(i:Int)<(strs a).length
 ·rw[dT h];refine goW ?_;have hik:i<a.length:=by omega
  have hik':i<c.length:=by omega
  refine step_ruleDO rfl rfl (sx_ia (k:=i) rfl rfl (by omega)) (goW ?_);refine step_ruleDO rfl rfl (sx_ldEl (agg:=false) rfl rfl (strs_at hik) rfl) (goW ?_);refine step_ruleDO rfl rfl (sx_ia (k:=i) rfl rfl (by omega)) (goW ?_);refine step_ruleDO rfl rfl (sx_ldEl (agg:=false) rfl rfl (strs_at hik') rfl) (goW ?_);by_cases z:a[i]=c[i]
  ·rw[beqB_true z];refine goW ?_;refine⟨i+1,⟨by omega,?_,rfl,?_⟩,by omega⟩
   ·rw[wrNat (by omega)];try rfl
   ·rw[tS hik,tS hik',hp,z]
  ·rw[beqB_false z];refine goW ?_;exact⟨_,rfl,no λh=>by subst h;exact z rfl⟩
 rw[dF h];refine goW ?_;rw[List.take_of_length_le (by omega),List.take_of_length_le (by omega)]at hp;refine⟨_,rfl,?_⟩;rw[dT hp];exact Ret.sta trivial
abbrev E_eqf (f:FuncId)(a c:List PT)(i:Nat):Env:=[(1,.val (.sl 4 stat (encTs c))),(2,.val (.fn f [] [])),(15,.val (.sl 4 stat (encTs a))),(16,.val (.int .i64 (encTs a).length)),(17,.val (.int .i64 i))]
theorem eqTs_false {a c:List PT}(h:¬a=c):eqTs a c=false:=by
 cases hh:eqTs a c with
 | false=>rfl
 | true=>exact absurd (eqTs_iff.1 hh) h
set_option maxHeartbeats 2000000 in
theorem eqFunc_wp (hm:MonoC C){a c:List PT}(ih:∀u,u.n<=PT.ns a->u.ok->∀v,PF C 44 [encT u,encT v] (.bool (eqT u v)))(hk:PT.oks a)(hl:a.length<4611686018427387904) :
  wpF gt C F71 [.sl 4 stat (encTs a),.sl 4 stat (encTs c),.fn 44 [] []] St.init (Ret (.bool (eqTs a c))):=by
 have no:∀{S:St},¬a=c->Ret (.bool (eqTs a c)) (.ret (.bool false)) S:=λh=>by rw[eqTs_false h];exact Ret.sta trivial
 have l1:=encTs_len a;have l2:=encTs_len c;refine⟨rfl,?_⟩;refine goW ?_;by_cases z:((encTs a).length:Int)=(encTs c).length
 case neg =>
  rw[neI_true z];refine goW ?_;exact⟨_,rfl,no λh=>by rw[h]at z;exact z rfl⟩
 rw[neI_false z];refine goW ?_;refine loop_rule hm (α:=Nat) (λi env S'=>i<=a.length/\env=E_eqf 44 a c i/\S'=St.init/\a.take i=c.take i) (λi=>a.length-i) ?_ (a:=0) ⟨Nat.zero_le _,rfl,rfl,rfl⟩;rintro i env S' ⟨hi,rfl,rfl,hp⟩;refine goW ?_;by_cases h:(i:Int)<(encTs a).length
 ·rw[dT h];refine goW ?_;have hik:i<a.length:=by omega
  have hik':i<c.length:=by omega
  have ihk:=ih _ (PT.ns_mem (List.getElem_mem hik)) (PT.oks_get hk (gE hik)) c[i];have e1:=encTs_get hik;have e2:=encTs_get hik';have r1:=rdT a[i];have r2:=rdT c[i];obtain⟨k1,s1,x1,y1,g1⟩:=encT_agg a[i];obtain⟨k2,s2,x2,y2,g2⟩:=encT_agg c[i];rw[g1]at ihk e1 r1;rw[g2]at ihk e2 r2;refine step_ruleO (sx_ia (k:=i) rfl rfl (by omega)) (goW ?_);refine step_ruleO (sx_ldEl (agg:=true) rfl rfl e1 r1) (goW ?_);refine step_ruleO (sx_ia (k:=i) rfl rfl (by omega)) (goW ?_);refine step_ruleO (sx_ldEl (agg:=true) rfl rfl e2 r2) (goW ?_);refine call_pf hm (by rfl) ihk (goW ?_);by_cases z:a[i]=c[i]
  ·rw[eqT_true z];refine goW ?_;refine⟨i+1,⟨by omega,?_,rfl,?_⟩,by omega⟩
   ·rw[wrNat (by omega)];try rfl
   ·rw[tS hik,tS hik',hp,z]
  ·rw[eqT_false z];refine goW ?_;exact⟨_,rfl,no λh=>by subst h;exact z rfl⟩
 rw[dF h];refine goW ?_;rw[List.take_of_length_le (by omega),List.take_of_length_le (by omega)]at hp;refine⟨_,rfl,?_⟩;rw[eqTs_iff.2 hp];exact Ret.sta trivial
set_option maxHeartbeats 2000000 in
theorem identical_wp (hm:MonoC C){t u:PT}(hk:t.ok)(he:∀a c:List (List UInt8),a.length<4611686018427387904->PF C 70 [.sl 1 stat (strs a),.sl 1 stat (strs c)] (.bool (decide (a=c))))(hf:∀c:List PT,PF C 71 [.sl 4 stat (encTs t.kids),.sl 4 stat (encTs c),.fn 44 [] []] (.bool (eqTs t.kids c))) :
  wpF gt C F44 [encT t,encT u] St.init (Ret (.bool (eqT t u))):=by
 obtain⟨k,s,keys,kids⟩:=t;obtain⟨k',s',keys',kids'⟩:=u;simp only[PT.ok]at hk;have he:=he keys keys' (by omega);have hf:=hf kids';simp only[PT.kids]at hf;rw[eqT];refine⟨rfl,?_⟩;refine goW ?_;by_cases z0:k=k'
 case neg =>
  rw[eqI_false z0,dF z0];refine goW ?_;exact⟨_,rfl,Ret.sta trivial⟩
 rw[eqI_true z0,dT z0];refine goW ?_;by_cases z1:s=s'
 case neg =>
  rw[beqB_false z1,dF z1];refine goW ?_;exact⟨_,rfl,Ret.sta trivial⟩
 rw[beqB_true z1,dT z1];refine goW ?_;by_cases z2:keys=keys'
 case neg =>
  rw[dF z2]at he;refine call_pf hm (by rfl) he ?_;rw[dF z2];refine goW ?_;exact⟨_,rfl,Ret.sta trivial⟩
 rw[dT z2]at he;refine call_pf hm (by rfl) he ?_;rw[dT z2];refine goW ?_;refine call_pf hm (by rfl) hf (goW ?_);exact⟨_,rfl,Ret.sta trivial⟩
set_option maxHeartbeats 2000000 in
theorem same_wp (hm:MonoC C)(hi:∀t u:PT,t.ok->PF C 44 [encT t,encT u] (.bool (eqT t u)))(hs:∀t:PT,t.ok->t.nd->PF C 45 [encT t] (encT (sortT t)))
  {a c:PT} (ha:PF C 43 [encT a] (.bool (formedB a))) (hc:PF C 43 [encT c] (.bool (formedB c))) (a1:a.ok) (a2:formedB a=true->a.nd) (c1:c.ok) (c2:formedB c=true->c.nd) :
  wpF gt C F31 [encT a,encT c] St.init (Ret (.bool (sameB a c))):=by
 have h1:=hi a c a1;have h2:=hi (sortT a) (sortT c) (sort_ok a1);have s1:=hs a a1;have s2:=hs c c1;have key:∀r,sameB a c=r->(formedB a=true->formedB c=true->eqT (sortT a) (sortT c)=r)/\(¬(formedB a=true/\formedB c=true)->eqT a c=r):=λr e=>by
  unfold sameB at e;refine⟨λx y=>?_,λn=>?_⟩
  ·rw[x,y]at e;exact e
  ·rw[if_neg (by rw[bA];exact n)]at e;exact e
 generalize hr:sameB a c=res;obtain⟨k1,k2⟩:=key res hr
 clear key hr
 obtain⟨ka,sa,xa,ya,ga⟩:=encT_agg a;obtain⟨kc,sc,xc,yc,gc⟩:=encT_agg c;rw[ga]at ha h1 s1 ⊢;rw[gc]at hc h1 s2 ⊢;cases fa:formedB a with
 | false =>
  rw[fa]at ha;rw[k2 (by simp[fa])]at h1;refine⟨rfl,?_⟩;refine goW ?_;refine call_pf hm (by rfl) ha (goW ?_);refine call_pf hm (by rfl) h1 (goW ?_);exact⟨_,rfl,Ret.sta trivial⟩
 | true =>
  cases fc:formedB c with
  | false =>
   rw[fa]at ha;rw[fc]at hc;rw[k2 (by simp[fc])]at h1;refine⟨rfl,?_⟩;refine goW ?_;refine call_pf hm (by rfl) ha (goW ?_);refine call_pf hm (by rfl) hc (goW ?_);refine call_pf hm (by rfl) h1 (goW ?_);exact⟨_,rfl,Ret.sta trivial⟩
  | true =>
   rw[fa]at ha;rw[fc]at hc;rw[k1 fa fc]at h2;have s1:=s1 (a2 fa);have s2:=s2 (c2 fc);obtain⟨ka',sa',xa',ya',ga'⟩:=encT_agg (sortT a);obtain⟨kc',sc',xc',yc',gc'⟩:=encT_agg (sortT c);rw[ga']at s1 h2;rw[gc']at s2 h2;refine⟨rfl,?_⟩;refine goW ?_;refine call_pf hm (by rfl) ha (goW ?_);refine call_pf hm (by rfl) hc (goW ?_);refine call_pfD hm (by rfl) s1 (goW ?_);refine call_pfD hm (by rfl) s2 (goW ?_);refine call_pfD hm (by rfl) h2 (goW ?_);exact⟨_,rfl,Ret.sta trivial⟩
end

theorem plc_spec (key:List UInt8):∀(l:List (List UInt8)) (i:Nat),(plc key l i=-1/\key ∉ l)\/∃m,m<l.length/\plc key l i=((i+m:Nat):Int)/\l.getD m []=key
 | [],_=>.inl ⟨rfl,by simp⟩
 | a::r,i=>by
  simp only[plc];by_cases h:a=key
  ·rw[if_pos h];exact .inr ⟨0,by simp,by simp,by simpa using h⟩
  ·rw[if_neg h];rcases plc_spec key r (i+1) with⟨h1,h2⟩ | ⟨m,h1,h2,h3⟩
   ·exact .inl ⟨h1,λhm=>by rcases List.mem_cons.1 hm with e | e;exact h e.symm;exact h2 e⟩
   ·exact .inr ⟨m+1,by simpa using h1,by rw[h2];congr 1;omega,by simpa using h3⟩
def sk (kids:List PT)(i:Nat):PT:=(sortTs kids).getD i zPT
theorem getD_sk {kids:List PT}{i:Nat}(h:i<kids.length):sk kids i=sortT kids[i]:=sortTs_getD h
def GoodK (k:Int)(keys keys':List (List UInt8))(kids kids':List PT)(i:Nat):Prop :=
 (k=7/\∃j<kids'.length,keys.getD i []=keys'.getD j []/\sk kids i=sk kids' j)\/(k≠7/\sk kids i=sk kids' i)
theorem good_iff {k:Int}{s:List UInt8}{keys keys':List (List UInt8)}{kids kids':List PT}(f:formedB (.mk k s keys kids)=true)(f':formedB (.mk k s keys' kids')=true)(hl:kids.length=kids'.length) :
  sortT (.mk k s keys kids)=sortT (.mk k s keys' kids')↔∀i<kids.length,GoodK k keys keys' kids kids' i:=by
 obtain⟨_,a1,a2,_⟩:=formed_parts f;obtain⟨_,b1,b2,_⟩:=formed_parts f';by_cases k7:k=7
 ·subst k7;rw[sort_rec (a1 rfl).2.2 (b1 rfl).2.2 (a1 rfl).2.1 (b1 rfl).2.1];constructor
  ·rintro⟨_,_,h⟩ i hi;obtain⟨j,hj,e1,e2⟩:=h i hi;exact .inl ⟨rfl,j,hj,e1,by rw[getD_sk hi,getD_sk hj,e2]⟩
  ·intro h;refine⟨rfl,hl,λi hi=>?_⟩;rcases h i hi with⟨_,j,hj,e1,e2⟩ | ⟨e,_⟩
   ·rw[getD_sk hi,getD_sk hj]at e2;exact⟨j,hj,e1,e2⟩
   ·exact absurd rfl e
 ·rw[a2 k7,b2 k7,sort_list k7 k7];have e:kids.map sortT=kids'.map sortT↔∀i<kids.length,sk kids i=sk kids' i:=by
   constructor
   ·intro h i _;unfold sk;rw[sortTs_map,sortTs_map,h]
   ·intro h;refine List.ext_getElem (by simp[hl]) λi h1 h2=>?_;rw[List.length_map]at h1 h2;have:=h i h1;rw[getD_sk h1,getD_sk h2]at this;rw[List.getElem_map,List.getElem_map,this]
  rw[e];constructor
  ·rintro⟨_,_,h⟩ i hi;exact .inr ⟨k7,h i hi⟩
  ·intro h;refine⟨rfl,rfl,λi hi=>?_⟩;rcases h i hi with⟨e,_⟩ | ⟨_,e⟩
   ·exact absurd e k7
   ·exact e
section
variable {gt:GT}{C:CallT}
abbrev E_alk (t u:PT)(i:Nat):Env:=[(2,.box (encT t).cells),(3,.box (encT u).cells),(5,.val (.int .i64 i))]
set_option maxHeartbeats 8000000 in
theorem alike_wp (hm:MonoC C)(hpl:∀(keys:List (List UInt8)) (key:List UInt8),keys.length<4611686018427387904->PF C 50 [.sl 1 stat (strs keys),.str key] (.int .i64 (plc key keys 0)))
  {t u:PT} (ih:∀x,x.n<t.n->formedB x=true->x.ok->∀y,formedB y=true->y.ok->PF C 48 [encT x,encT y] (.bool (eqT (sortT x) (sortT y)))) (ft:formedB t=true) (hk:t.ok) (fu:formedB u=true) (hk':u.ok) :
  wpF gt C F48 [encT t,encT u] St.init (Ret (.bool (eqT (sortT t) (sortT u)))):=by
 obtain⟨k,s,keys,kids⟩:=t;obtain⟨k',s',keys',kids'⟩:=u;obtain⟨fk,f7,f6,_⟩:=formed_parts ft;obtain⟨fk',f7',f6',_⟩:=formed_parts fu;simp only[PT.ok]at hk hk';obtain⟨hk1,hk2,hk3⟩:=hk;obtain⟨hk1',hk2',hk3'⟩:=hk';have l1:=encTs_len kids;have l2:=encTs_len kids';have l3:=strs_length keys;have l4:=strs_length keys';have ne:¬sortT (.mk k s keys kids)=sortT (.mk k' s' keys' kids')->eqT (sortT (.mk k s keys kids)) (sortT (.mk k' s' keys' kids'))=false:=eqT_false;have eq:sortT (.mk k s keys kids)=sortT (.mk k' s' keys' kids')->eqT (sortT (.mk k s keys kids)) (sortT (.mk k' s' keys' kids'))=true:=eqT_true;generalize eqT (sortT (.mk k s keys kids)) (sortT (.mk k' s' keys' kids'))=res at ne eq ⊢;have ret:∀{z:Bool} {S:St},res=z->Ret (.bool res) (.ret (.bool z)) S:=λh=>by rw[h];exact Ret.sta trivial
 refine⟨rfl,?_⟩;refine goW ?_;by_cases z0:k=k'
 case neg =>
  rw[neI_true z0];refine goW ?_;exact⟨_,rfl,ret (ne λh=>z0 (by have:=congrArg PT.k h;rw[(sort_k _).1,(sort_k _).1]at this;exact this))⟩
 subst z0;rw[neI_false rfl];refine goW ?_;by_cases z1:s=s'
 case neg =>
  rw[beqB_false z1];refine goW ?_;exact⟨_,rfl,ret (ne λh=>z1 (by have:=congrArg PT.s h;rw[(sort_k _).2,(sort_k _).2]at this;exact this))⟩
 subst z1;rw[beqB_true rfl];refine goW ?_;have hlen:sortT (.mk k s keys kids)=sortT (.mk k s keys' kids')->kids.length=kids'.length:=λh=>by
  by_cases k7:k=7
  ·subst k7;exact((sort_rec (f7 rfl).2.2 (f7' rfl).2.2 (f7 rfl).2.1 (f7' rfl).2.1).1 h).2.1
  ·rw[f6 k7,f6' k7,sort_list k7 k7]at h;have:=congrArg List.length h.2.2;simpa using this
 by_cases z2:((encTs kids).length:Int)=(encTs kids').length
 case neg =>
  rw[neI_true z2];refine goW ?_;exact⟨_,rfl,ret (ne λh=>z2 (by have:=hlen h;omega))⟩
 rw[neI_false z2];have hl:kids.length=kids'.length:=by omega
 have gi:=good_iff ft fu hl;have h1:(∀i<kids.length,GoodK k keys keys' kids kids' i)->res=true:=λh=>eq (gi.2 h);have h2:∀i,i<kids.length->¬GoodK k keys keys' kids kids' i->res=false:=λi hi h=>ne λe=>h (gi.1 e i hi)
 clear ne eq gi hlen
 refine goW ?_;refine loop_rule hm (α:=Nat) (λi env S'=>i<=kids.length/\env=E_alk (.mk k s keys kids) (.mk k s keys' kids') i/\S'=St.init/\∀m<i,GoodK k keys keys' kids kids' m) (λi=>kids.length-i) ?_ (a:=0) ⟨Nat.zero_le _,rfl,rfl,λm h=>absurd h (Nat.not_lt_zero m)⟩;rintro i env S' ⟨hi,rfl,rfl,hp⟩;refine goW ?_;by_cases hc:(i:Int)<(encTs kids).length
 case neg =>
  rw[dF hc];refine goW ?_;exact⟨_,rfl,ret (h1 λm hm=>hp m (by omega))⟩
 rw[dT hc];have hik:i<kids.length:=by omega
 have hik2:i<kids'.length:=by omega
 refine goW ?_;by_cases k7:k=7
 ·rw[eqI_true k7];obtain⟨_,f72,f73⟩:=f7 k7;obtain⟨_,f72',f73'⟩:=f7' k7;have hiy:i<keys.length:=by omega
  have inj:∀{a c:Nat},a<keys'.length->c<keys'.length->keys'.getD a []=keys'.getD c []->a=c:=λha hc e=>by
   rw[getD_at ha,getD_at hc]at e;exact(List.getElem_inj f73').1 e
  have hcall:=hpl keys' keys[i] (by omega);have sp:=plc_spec keys[i] keys' 0;have hgd:keys.getD i []=keys[i]:=getD_at hiy;have si:=strs_at hiy;refine goW ?_;refine step_ruleDO rfl rfl (sx_ia (k:=i) rfl rfl (by omega)) (goW ?_);refine step_ruleDO rfl rfl (sx_ldEl (agg:=false) rfl rfl si rfl) (goW ?_);refine call_pfD hm (by rfl) hcall ?_;rcases sp with⟨e,hno⟩ | ⟨p,hpl,e,hpk⟩
  ·rw[e];refine goW ?_;refine⟨_,rfl,ret (h2 i hik λg=>?_)⟩;rcases g with⟨_,j,hj,e1,_⟩ | ⟨e,_⟩
   ·rw[hgd,getD_at (show j<keys'.length by omega)]at e1;exact hno (e1 ▸ List.getElem_mem _)
   ·exact e k7
  rw[e,Nat.zero_add];rw[<-hgd]at hpk;have hpl:p<kids'.length:=by omega
  refine goW ?_;rw[dF (show ¬((p:Nat):Int)<0 by omega)];refine goW ?_;have hkj:sk kids i=sortT kids[i]:=getD_sk (by omega);have hkj':sk kids' p=sortT kids'[p]:=getD_sk (by omega);have ihk:=ih _ (kid_lt hik) (formedBs_get hik fk) (PT.oks_get hk3 (gE hik)) kids'[p] (formedBs_get hpl fk') (PT.oks_get hk3' (gE hpl));have e1:=encTs_get hik;have e2:=encTs_get hpl;have r1:=rdT kids[i];have r2:=rdT kids'[p];obtain⟨k1,s1,x1,y1,g1⟩:=encT_agg kids[i];obtain⟨k2,s2,x2,y2,g2⟩:=encT_agg kids'[p];rw[g1]at ihk e1 r1;rw[g2]at ihk e2 r2;rw[<-hkj,<-hkj']at ihk;refine step_ruleDO rfl rfl (sx_ia (k:=i) rfl rfl (by omega)) (goW ?_);refine step_ruleDO rfl rfl (sx_ldEl (agg:=true) rfl rfl e1 r1) (goW ?_);refine step_ruleDO rfl rfl (sx_ia (k:=p) rfl rfl (by omega)) (goW ?_);refine step_ruleDO rfl rfl (sx_ldEl (agg:=true) rfl rfl e2 r2) (goW ?_);refine call_pfD hm (by rfl) ihk (goW ?_);by_cases z:sk kids i=sk kids' p
  ·rw[eqT_true z];refine goW ?_;refine⟨i+1,⟨by omega,?_,rfl,λm hmi=>?_⟩,by omega⟩
   ·rw[wrNat (by omega)];try rfl
   ·rcases Nat.lt_or_ge m i with q | q
    ·exact hp m q
    ·obtain rfl:m=i:=by omega
     exact .inl ⟨k7,p,hpl,hpk.symm,z⟩
  ·rw[eqT_false z];refine goW ?_;exact⟨_,rfl,ret (h2 i hik (λg=>by
    rcases g with⟨_,j,hj,q1,q2⟩ | ⟨e,_⟩
    ·have:j=p:=inj (by omega) (by omega) (by rw[<-q1,hpk]);rw[this]at q2;exact z q2
    ·exact e k7))⟩
 ·rw[eqI_false k7];refine goW ?_;have hkj:sk kids i=sortT kids[i]:=getD_sk (by omega);have hkj':sk kids' i=sortT kids'[i]:=getD_sk (by omega);have ihk:=ih _ (kid_lt hik) (formedBs_get hik fk) (PT.oks_get hk3 (gE hik)) kids'[i] (formedBs_get hik2 fk') (PT.oks_get hk3' (gE hik2));have e1:=encTs_get hik;have e2:=encTs_get hik2;have r1:=rdT kids[i];have r2:=rdT kids'[i];obtain⟨k1,s1,x1,y1,g1⟩:=encT_agg kids[i];obtain⟨k2,s2,x2,y2,g2⟩:=encT_agg kids'[i];rw[g1]at ihk e1 r1;rw[g2]at ihk e2 r2;rw[<-hkj,<-hkj']at ihk;refine step_ruleDO rfl rfl (sx_ia (k:=i) rfl rfl (by omega)) (goW ?_);refine step_ruleDO rfl rfl (sx_ldEl (agg:=true) rfl rfl e1 r1) (goW ?_);refine step_ruleDO rfl rfl (sx_ia (k:=i) rfl rfl (by omega)) (goW ?_);refine step_ruleDO rfl rfl (sx_ldEl (agg:=true) rfl rfl e2 r2) (goW ?_);refine call_pfD hm (by rfl) ihk (goW ?_);by_cases z:sk kids i=sk kids' i
  ·rw[eqT_true z];refine goW ?_;refine⟨i+1,⟨by omega,?_,rfl,λm hmi=>?_⟩,by omega⟩
   ·rw[wrNat (by omega)];try rfl
   ·rcases Nat.lt_or_ge m i with q | q
    ·exact hp m q
    ·obtain rfl:m=i:=by omega
     exact .inr ⟨k7,z⟩
  ·rw[eqT_false z];refine goW ?_;exact⟨_,rfl,ret (h2 i hik (λg=>by
    rcases g with⟨e,_⟩ | ⟨_,e⟩
    ·exact k7 e
    ·exact z e))⟩
set_option maxHeartbeats 2000000 in
theorem same3_wp (hm:MonoC C){a c:PT}(ha:PF C 47 [encT a] (.bool (formedB a)))(hc:PF C 47 [encT c] (.bool (formedB c)))
  (h1:formedB a=true->formedB c=true->PF C 48 [encT a,encT c] (.bool (eqT (sortT a) (sortT c)))) (h2:PF C 49 [encT a,encT c] (.bool (eqT a c))) :
  wpF gt C F34 [encT a,encT c] St.init (Ret (.bool (sameB a c))):=by
 have key:∀r,sameB a c=r->(formedB a=true->formedB c=true->eqT (sortT a) (sortT c)=r)/\(¬(formedB a=true/\formedB c=true)->eqT a c=r):=λr e=>by
  unfold sameB at e;refine⟨λx y=>?_,λn=>?_⟩
  ·rw[x,y]at e;exact e
  ·rw[if_neg (by rw[bA];exact n)]at e;exact e
 generalize hr:sameB a c=res;obtain⟨k1,k2⟩:=key res hr
 clear key hr
 obtain⟨ka,sa,xa,ya,ga⟩:=encT_agg a;obtain⟨kc,sc,xc,yc,gc⟩:=encT_agg c;rw[ga]at ha h1 h2 ⊢;rw[gc]at hc h1 h2 ⊢;cases fa:formedB a with
 | false =>
  rw[fa]at ha;rw[k2 (by simp[fa])]at h2;refine⟨rfl,?_⟩;refine goW ?_;refine call_pf hm (by rfl) ha (goW ?_);refine call_pf hm (by rfl) h2 (goW ?_);exact⟨_,rfl,Ret.sta trivial⟩
 | true =>
  rw[fa]at ha;rw[fa]at k2;cases fc:formedB c with
  | false =>
   rw[fc]at hc;rw[k2 (by simp[fc])]at h2;refine⟨rfl,?_⟩;refine goW ?_;refine call_pf hm (by rfl) ha (goW ?_);refine call_pf hm (by rfl) hc (goW ?_);refine call_pf hm (by rfl) h2 (goW ?_);exact⟨_,rfl,Ret.sta trivial⟩
  | true =>
   rw[fc]at hc;have h1:=h1 fa fc;rw[k1 fa fc]at h1;refine⟨rfl,?_⟩;refine goW ?_;refine call_pf hm (by rfl) ha (goW ?_);refine call_pf hm (by rfl) hc (goW ?_);refine call_pf hm (by rfl) h1 (goW ?_);exact⟨_,rfl,Ret.sta trivial⟩
end

section
variable {S:St}{R:List Rs}{ty:TypeId}{o:SI}{xs:List AV}{l:List Nat}
end
section
variable {gt:GT}{C:CallT}
end

section
variable {gt:GT}{C:CallT}
end

section
variable {gt:GT}{C:CallT}
end
end Go.Dn

namespace Go.Proofs.YtbojekglccdajaaGreatDoor.Fn
open Go.ChangeShapes Go.WideShapes Go.ChangeAt Go.RowKit Go.Dn
section
variable {R:List Rs}{ty:TypeId}{t b:Nat}
theorem swapC (g:AV):SwapC A R ty t b g:=λS xs P X M Y Q a c n ha hc hn hx hl hxy hA=>by
 subst ha hc hn;exact AC_intro Tryz.checked.mixed Tryz.func172 (by kernel_rfl) C1.F172_ok (swap_wp hm hx hl hxy hA)
theorem rotC (f:FuncId)(cs:List AV):RotC A R ty t b (.fn f [] cs):=λS xs P X Y Q a m c ha hmm hc h1 h2 hx hl hA=>by
 subst ha hmm hc;exact AC_intro Tryz.checked.mixed Tryz.func156 (by kernel_rfl) C1.F156_ok (rot_wp hm (swapC _) h1 h2 hx hl hA)
theorem insC {f:FuncId}{cs:List AV}{n:Nat}{cz:Nat->Nat->Int}(hz:Cz cz)(hc:CmpC A f cs R ty t b n cz):InsC A R ty t b n (.fn f [] cs) cz:=λS xs P X Q a c ha hcc hX hx hl hA=>by
 subst ha hcc;exact AC_intro Tryz.checked.mixed Tryz.func137 (by kernel_rfl) C1.F137_ok (ins_wp hm hz hc hX hx hl hA)
theorem mrgA {f:FuncId}{cs:List AV}{n:Nat}{cz:Nat->Nat->Int}(hz:Cz cz)(hc:CmpC A f cs R ty t b n cz):∀k,MrgC A R ty t b n (.fn f [] cs) cz k :=
 mrgC (gt:=gtT) hm (λus S Q h=>AC_intro Tryz.checked.mixed Tryz.func138 (by kernel_rfl) C1.F138_ok h) hz hc (rotC f cs)
theorem stbC {f:FuncId}{cs:List AV}{n:Nat}{cz:Nat->Nat->Int}(hz:Cz cz)(hc:CmpC A f cs R ty t b n cz):StbC A R ty t b n (.fn f [] cs) cz 115 λxs=>[slA t xs.length xs,.int .i64 xs.length,.fn f [] cs]:=λS xs L hn hx hl hA =>
 AC_intro Tryz.checked.mixed Tryz.func115 (by kernel_rfl) C1.F115_ok (stb_wp hm (insC hz hc) (mrgA hz hc) hn hx hl hA)
theorem sstC {f:FuncId}{cs:List AV}{n:Nat}{cz:Nat->Nat->Int}(hz:Cz cz)(hc:CmpC A f cs R ty t b n cz):SstC A R ty t b n (.fn f [] cs) cz:=λS xs L hn hx hl hA =>
 AC_intro Tryz.checked.mixed Tryz.func89 (by kernel_rfl) C1.F89_ok (sst_wp hm (stbC hz hc) hn hx hl hA)
end
theorem ins0 (g:AV)(S:St):A 137 [slN,.int .i64 0,.int .i64 0,g] S λr S'=>r=.ret (.tup [])/\S'=S :=
 AC_intro Tryz.checked.mixed Tryz.func137 (by kernel_rfl) C1.F137_ok ins0_wp
theorem stb0 (g:AV)(S:St):A 115 [slN,.int .i64 0,g] S λr S'=>r=.ret (.tup [])/\S'=S :=
 AC_intro Tryz.checked.mixed Tryz.func115 (by kernel_rfl) C1.F115_ok (stb0_wp hm (ins0 g))
theorem sst0 (g:AV)(S:St):A 89 [slN,g] S λr S'=>r=.ret (.tup [])/\S'=S :=
 AC_intro Tryz.checked.mixed Tryz.func89 (by kernel_rfl) C1.F89_ok (sst0_wp hm (stb0 g))
theorem cmpS (a c:List UInt8):PF A 116 [.str a,.str c] (.int .i64 (cmpB a c)) :=
 pf Tryz.func116 (by kernel_rfl) C1.F116_ok (s2 trivial trivial) cmpS_wp
theorem compareS (a c:List UInt8):PF A 91 [.str a,.str c] (.int .i64 (cmpB a c)) :=
 pf Tryz.func91 (by kernel_rfl) C1.F91_ok (s2 trivial trivial) (compare_wp hm cmpS)
theorem ord1 (keys:List (List UInt8))(ty:TypeId)(t b:Nat):CmpC A 90 [.ptr 0 0] (R_k keys) ty t b keys.length (czK keys):=λS l i j hA hi hj =>
 AC_intro Tryz.checked.mixed Tryz.func90 (by kernel_rfl) C1.F90_ok (ord1_wp hm compareS hA hi hj)
theorem order (keys:List (List UInt8))(hd:keys.Nodup)(hl:keys.length<1099511627776):PF A 72 [.sl 1 stat (strs keys)] (.sl 1 stat (ints (ordK keys))) :=
 pf Tryz.func72 (by kernel_rfl) C1.F72_ok (s1 (sK keys)) (by
  cases keys with
  | nil =>
   have e:ordK ([]:List (List UInt8))=[]:=nL (ordK_len []);rw[e];exact order0_wp hm (sst0 _)
  | cons k r=>exact order_wp hm (λt b=>sstC (czK_cz _) (ord1 _ _ t b)) hd (by simp) hl)
theorem sorted:∀t:PT,t.ok->t.nd->PF A 45 [encT t] (encT (sortT t)) :=
 indT λt ih hk hd=>pf Tryz.func45 (by kernel_rfl) C1.F45_ok (s1 (sta_T t)) (sorted_wp hm order ih hk hd)
theorem slEqual (a c:List (List UInt8))(h:a.length<4611686018427387904):PF A 70 [.sl 1 stat (strs a),.sl 1 stat (strs c)] (.bool (decide (a=c))) :=
 pf Tryz.func70 (by kernel_rfl) C1.F70_ok (s2 (sK a) (sK c)) (slEqual_wp hm h)
theorem identical:∀t u:PT,t.ok->PF A 44 [encT t,encT u] (.bool (eqT t u)) :=
 indT λt ih u h=>pf Tryz.func44 (by kernel_rfl) C1.F44_ok (s2 (sta_T t) (sta_T u)) (identical_wp hm h slEqual λc =>
  pf Tryz.func71 (by kernel_rfl) C1.F71_ok (s3 (sta_sl (sta_Ts t.kids)) (sta_sl (sta_Ts c)) ⟨trivial,trivial⟩)
   (eqFunc_wp hm (λv hv hk w=>ih v (by cases t;simp only[PT.kids,PT.n]at hv ⊢;omega) w hk) (by cases t;simp only[PT.ok]at h;exact h.2.2) (by cases t;simp only[PT.ok]at h;simp only[PT.kids];omega)))
theorem same (a c:PT)(a0:a.sok)(a1:a.ok)(a2:a.n<1099511627776)(c0:c.sok)(c1:c.ok)(c2:c.n<1099511627776):PF A 31 [encT a,encT c] (.bool (sameB a c)) :=
 pf Tryz.func31 (by kernel_rfl) C1.F31_ok (s2 (sta_T a) (sta_T c)) (same_wp hm identical sorted (formed a a0) (formed c c0) a1 (λh=>formed_nd h a2) c1 (λh=>formed_nd h c2))
theorem alike:∀t:PT,formedB t=true->t.ok->∀u,formedB u=true->u.ok->PF A 48 [encT t,encT u] (.bool (eqT (sortT t) (sortT u))) :=
 indT λt ih ft hk u fu hk'=>pf Tryz.func48 (by kernel_rfl) C1.F48_ok (s2 (sta_T t) (sta_T u)) (alike_wp hm place ih ft hk fu hk')
theorem same3 (a c:PT)(a0:a.sok)(a1:a.ok)(c0:c.sok)(c1:c.ok):PF A 34 [encT a,encT c] (.bool (sameB a c)) :=
 pf Tryz.func34 (by kernel_rfl) C1.F34_ok (s2 (sta_T a) (sta_T c)) (same3_wp hm (shaped a a0) (shaped c c0) (λh h'=>alike a h a1 c h' c1) (plain a c a1))
end Go.Proofs.YtbojekglccdajaaGreatDoor.Fn

namespace Go.Proofs.YtbojekglccdajaaGreatDoor
open Go.Dn
theorem bulk_keys:∀l:List (List UInt8),bulkAs (strs l)<=1048576->(∀s∈l,s.length<=1048576)/\l.length<=1048576
 | [],_=>⟨λs h=>by simp at h,by simp⟩
 | a::r,h=>by
  have e:strs (a::r)=.str a::strs r:=rfl;rw[e]at h;simp only[bulkAs,bulkA]at h;have ih:=bulk_keys r (by omega);have h0:=bulk_strs0 r;refine⟨λs hs=>?_,by simp only[lC];omega⟩;rcases List.mem_cons.1 hs with rfl | hs
  ·omega
  ·exact ih.1 s hs
mutual
theorem bulk_sok:∀t:PT,bulkA (encT t)<=1048576->t.sok/\t.n<=bulkA (encT t)
 |.mk k s keys kids,h=>by
  simp only[encT,bulkA,bulkAs]at h ⊢;have h1:=bulk_keys keys (by omega);have h2:=bulk_soks kids (by omega);have h3:=bulk_Ts kids (by omega);simp only[PT.sok,PT.n];exact⟨⟨by omega,λs hs=>by have:=h1.1 s hs;omega,by omega,by omega,h2.1⟩,by omega⟩
theorem bulk_soks:∀l:List PT,bulkAs (encTs l)<=1048576->PT.soks l/\PT.ns l<=bulkAs (encTs l)
 | [],_=>⟨trivial,Nat.zero_le _⟩
 | t::r,h=>by
  simp only[encTs,bulkAs]at h;have h1:=bulk_sok t (by omega);have h2:=bulk_soks r (by omega);simp only[PT.soks,encTs,bulkAs,PT.ns];exact⟨⟨h1.1,h2.1⟩,by omega⟩
end
end Go.Proofs.YtbojekglccdajaaGreatDoor

namespace Go.Dn
set_option maxRecDepth 100000
def prP (b:Bool):Nat:=if b then 0 else 3
def rowP (eq:Nat->Nat->Bool)(prev:Nat->Nat)(i:Nat):Nat->Nat
 | 0=>2*(i+1)
 | j+1=>min (min (prev j+prP (eq i j)) (prev (j+1)+2)) (rowP eq prev i j+2)
def costP (eq:Nat->Nat->Bool):Nat->Nat->Nat
 | 0=>λj=>2*j
 | i+1=>rowP eq (costP eq i) i
def backR (eq:Nat->Nat->Bool)(prev:Nat->List Int)(i:Nat):Nat->List Int
 | 0=>[]
 | j+1=>if costP eq (i+1) (j+1)=costP eq i j+prP (eq i j) then prev j++[(i:Int)] else if costP eq (i+1) (j+1)=costP eq i (j+1)+2 then prev (j+1) else backR eq prev i j++[-1]
def fromP (eq:Nat->Nat->Bool):Nat->Nat->List Int
 | 0=>λj=>List.replicate j (-1)
 | i+1=>backR eq (fromP eq i) i
section
variable {eq:Nat->Nat->Bool}
theorem costP_i0 (i:Nat):costP eq i 0=2*i:=by cases i<;>rfl
theorem costP_0j (j:Nat):costP eq 0 j=2*j:=rfl
theorem costP_ss (i j:Nat):costP eq (i+1) (j+1)=min (min (costP eq i j+prP (eq i j)) (costP eq i (j+1)+2)) (costP eq (i+1) j+2):=rfl
theorem costP_up (i j:Nat):costP eq (i+1) j<=costP eq i j+2:=by
 cases j with
 | zero=>rw[costP_i0,costP_i0];omega
 | succ j=>rw[costP_ss];omega
theorem costP_ups (i j:Nat):∀d,costP eq (i+d) j<=costP eq i j+2*d
 | 0=>by simp
 | d+1=>by
  have h1:=costP_ups i j d;have h2:=costP_up (eq:=eq) (i+d) j;rw[show i+(d+1)=i+d+1 by omega];omega
theorem costP_le (i j:Nat):costP eq i j<=2*(i+j):=by
 have h:=costP_ups (eq:=eq) 0 j i;rw[Nat.zero_add,costP_0j]at h;omega
theorem fromP_0 (j:Nat):fromP eq 0 j=List.replicate j (-1):=rfl
theorem fromP_i0 (i:Nat):fromP eq i 0=[]:=by cases i<;>rfl
theorem fromP_ss (i j:Nat):fromP eq (i+1) (j+1)=if costP eq (i+1) (j+1)=costP eq i j+prP (eq i j) then fromP eq i j++[(i:Int)] else if costP eq (i+1) (j+1)=costP eq i (j+1)+2 then fromP eq i (j+1) else fromP eq (i+1) j++[-1]:=rfl
theorem fromP_len:∀i j:Nat,(fromP eq i j).length=j:=by
 intro i
 induction i with
 | zero=>intro j;rw[fromP_0];simp
 | succ i ih =>
  intro j
  induction j with
  | zero=>rw[fromP_i0];rfl
  | succ j jh =>
   rw[fromP_ss];split
   ·rw[lA,ih];rfl
   ·split
    ·exact ih _
    ·rw[lA,jh];rfl
end

def cutL:Nat->Int->List PT->List PT
 | 0,_,_=>[]
 | _+1,_,[]=>[]
 | n+1,s,t::r=>if s<3000 then (if s+size3 t 3000<3000/\rightB t=0 then [t] else [])++cutL n (s+size3 t 3000) r else []
theorem cutL_mem:∀{n:Nat} {s:Int} {l:List PT} {x:PT},x∈cutL n s l->x∈l/\rightB x=0
 | 0,_,_,x,h=>by simp[cutL]at h
 | _+1,_,[],x,h=>by simp[cutL]at h
 | n+1,s,t::r,x,h=>by
  rw[cutL]at h;split at h
  ·rcases List.mem_append.1 h with h | h
   ·split at h
    ·rename_i hh;simp only[List.mem_singleton]at h;subst h;exact⟨by simp,hh.2⟩
    ·simp at h
   ·have:=cutL_mem h;exact⟨by simp[this.1],this.2⟩
  ·simp at h
theorem cutL_len:∀(n:Nat) (s:Int) (l:List PT),(cutL n s l).length<=n
 | 0,_,_=>by simp[cutL]
 | _+1,_,[]=>by simp[cutL]
 | n+1,s,t::r=>by
  have:=cutL_len n (s+size3 t 3000) r;rw[cutL];split
  ·rw[lA];split
   ·simp only[List.length_singleton];omega
   ·simp only[lN];omega
  ·simp
def pickK (mt:Nat->Bool)(taken:List Nat)(n:Nat):Option Nat:=(List.range n).find? λi=>!decide (i∈taken) && mt i
def keyP (n:Nat)(mt:Nat->Nat->Bool):Nat->Nat->List Nat->List Int
 | _,0,_=>[]
 | j,m+1,taken=>match pickK (λi=>mt i j) taken n with
  | some i=>(i:Int)::keyP n mt (j+1) m (taken++[i])
  | none=>-1::keyP n mt (j+1) m taken
theorem pickK_step (mt:Nat->Bool)(taken:List Nat)(n:Nat):pickK mt taken (n+1)=match pickK mt taken n with
  | some i=>some i
  | none=>if n ∉ taken/\mt n=true then some n else none:=by
 unfold pickK;rw[List.range_succ,List.find?_append];cases (List.range n).find? λi=>!decide (i∈taken) && mt i with
 | some i=>rfl
 | none =>
  simp only[Option.none_or,List.find?_singleton];by_cases h:n∈taken<;>cases mt n<;>simp[h]
section
variable {n:Nat}{mt:Nat->Nat->Bool}
theorem keyP_len:∀(m j:Nat) (taken:List Nat),(keyP n mt j m taken).length=m
 | 0,_,_=>rfl
 | m+1,j,taken=>by
  rw[keyP];split<;>simp only[lC,keyP_len m]
end

def leafK (k:Int):Bool:=decide (1<=k/\k<=5)
def keyRaw (t:PT)(key:List UInt8):PT×Bool :=
 if t.k=7/\0<=plc key t.keys 0 then match t.kids[(plc key t.keys 0).toNat]? with
  | some u=>(u,leafK u.k)
  | none=>(zPT,false)
 else (zPT,false)
def mtK (key:List UInt8)(o f:PT):Bool:=((keyRaw f key).2 == (keyRaw o key).2) && (!(keyRaw f key).2 || sameB (keyRaw f key).1 (keyRaw o key).1)
theorem formed_k {t:PT}(h:formedB t=true):1<=t.k/\t.k<=7:=by
 obtain⟨k,s,keys,kids⟩:=t;simp only[formedB,bA]at h;have hs:=h.2;simp only[PT.k];refine Classical.byContradiction λhn=>?_;rw[shapeB,if_neg (by omega),if_neg (by omega),if_neg (by omega),if_neg (by omega),if_neg (by omega),if_neg (by omega),if_neg (by omega)]at hs;cases hs
theorem formed_kid:∀{l:List PT} {x:PT},formedBs l=true->x∈l->formedB x=true
 | t::r,x,h,hx=>by
  simp only[formedBs,bA]at h;rcases List.mem_cons.1 hx with rfl | hx
  ·exact h.1
  ·exact formed_kid h.2 hx
end Go.Dn

namespace Go.Dn
open Go Go.Proofs.C1
set_option maxRecDepth 100000
attribute [local irreducible] afterS keepE
def intsZ (l:List Int):List AV:=l.map λn=>.int .i64 n
theorem intsZ_len (l:List Int):(intsZ l).length=l.length:=by simp[intsZ]
theorem intsZ_get {l:List Int}{i:Nat}(h:i<l.length):(intsZ l)[i]? = some (.int .i64 l[i]):=by simp[intsZ,h]
section
variable {gt:GT}{C:CallT}
end

theorem intsZ_el (l:List Int):∀y∈intsZ l,El false 1 y:=λy hy=>by
 simp only[intsZ,List.mem_map]at hy;obtain⟨n,_,rfl⟩:=hy;exact⟨rfl,rfl⟩
theorem intsZ_app (a b:List Int):intsZ (a++b)=intsZ a++intsZ b:=by simp[intsZ]
theorem intsZ_sta (l:List Int):Stas (intsZ l):=by
 induction l with
 | nil=>trivial
 | cons a r ih=>exact⟨trivial,ih⟩
theorem intsZ_rep (n:Nat)(k:Int):intsZ (List.replicate n k)=List.replicate n (.int .i64 k):=by simp[intsZ]
def ArZ (S:St)(R:List Rs)(ty:TypeId)(t b:Nat)(l:List Int)(post:List AV):Prop:=Hs S (R++[.bx b ty ((intsZ l).flatMap AV.cells++post),.mk t t b])
section
variable {S:St}{R:List Rs}{ty:TypeId}{t b:Nat}{l:List Int}{post:List AV}
theorem ArZ.hi:(R++[Rs.bx b ty ((intsZ l).flatMap AV.cells++post),Rs.mk t t b])[R.length]? = some (.bx b ty ((intsZ l).flatMap AV.cells++post)):=by simp
theorem ArZ.hj:(R++[Rs.bx b ty ((intsZ l).flatMap AV.cells++post),Rs.mk t t b])[R.length+1]? = some (.mk t t b):=by simp
theorem ArZ.els (h:ArZ S R ty t b l post){n:Option Nat}{nl:Bool}{xs:List AV}(hx:xs.length=l.length):elems S false 1 ⟨some (t,t),0,n,nl⟩ xs=some (intsZ l):=by
 have:=arr_els h ArZ.hi ArZ.hj (intsZ_el l) (off:=0) (cap:=n) (nl:=nl) (xs:=xs) (by rw[intsZ_len];omega);rw[List.drop_zero,hx,List.take_of_length_le (by rw[intsZ_len];omega)]at this;exact this
theorem ArZ.rdo (h:ArZ S R ty t b l post){n:Option Nat}{nl:Bool}{xs:List AV}(hx:xs.length=l.length):Rdo S (.sl 1 stat (intsZ l)) (.sl 1 ⟨some (t,t),0,n,nl⟩ xs):=by
 simp only[Rdo];exact⟨trivial,_,_,false,_,rfl,h.els hx,Stas.rdos _ (intsZ_sta l)⟩
theorem ArZ.st (h:ArZ S R ty t b l post){gt:GT}{d:Option Nat}{env:Env}{a x:DOpd}{n:Option Nat}{nl:Bool}{xs:List AV}{k:Nat}{v:Int}(hx:xs.length=l.length)(ha:loc env a=some (.el 1 ⟨some (t,t),0,n,nl⟩ xs k 0))(hv:opd env x=some (.int .i64 v))(hk:k<l.length) :
  ∃S',stepO gt d env S (.st 1 a x)=.done (putV d .undef env) S'/\ArZ S' R ty t b (l.set k v) post:=by
 obtain⟨S',h1,h2⟩:=arr_st h R.length ArZ.hi ArZ.hj (λy hy=>(intsZ_el l y hy).1) (gt:=gt) (d:=d) (env:=env) (a:=a) (x:=x) (xs:=xs) (so:=0) (k:=k) (off:=0) (sz:=1) (cap:=n) (nl:=nl) (v:=.int .i64 v) (v':=.int .i64 v) ha hv rfl (by omega) (by rw[intsZ_len];omega) (nR 1) (by
  have hc:(intsZ l)[0+k]'(by rw[intsZ_len];omega)=.int .i64 (l[k]):=by simp[intsZ]
  rw[hc];rfl)
 refine⟨S',h1,?_⟩;have e:(intsZ l).set k (.int .i64 v)=intsZ (l.set k v):=by simp[intsZ,List.map_set]
 rw[Nat.zero_add,e]at h2;unfold ArZ;simpa using h2
theorem ArZ.app (h:ArZ S R ty t b l post){gt:GT}{d:Option Nat}{env:Env}{x y:DOpd}{cap:Nat}{nl:Bool}{xs:List AV}{yv:AV}{v:Int}{ty2:TypeId}(hx:opd env x=some (.sl 1 ⟨some (t,t),0,some cap,nl⟩ xs))(hxl:xs.length=l.length)(hy:opd env y=some yv)(hys:srcE S false 1 yv=some [.int .i64 v])
  (hcap:l.length+1<=cap) (hpost:1<=post.length) (hb:l.length+1<=17592186044416) :
  ∃S',stepO gt d env S (.app false ty2 1 8 x y)=.done (putV d (.sl 1 ⟨some (t,t),0,some cap,nl⟩ (intsZ (l++[v]))) env) S'/\ArZ S' R ty t b (l++[v]) (post.drop 1):=by
 obtain⟨S',h1,h2⟩:=arr_app h R.length ArZ.hi ArZ.hj (intsZ_el l) (gt:=gt) (d:=d) (env:=env) (x:=x) (y:=y) (ty2:=ty2) (bytes:=8) hx (by rw[intsZ_len];exact hxl) hy hys rfl rfl (by decide) (by rw[intsZ_len];exact hcap) hpost (by rw[intsZ_len];omega) (by rw[intsZ_len];omega) (by decide);have e:intsZ l++[.int .i64 v]=intsZ (l++[v]):=by rw[intsZ_app];rfl
 rw[e]at h1 h2;refine⟨S',h1,?_⟩;unfold ArZ;simpa using h2
end
theorem ArZ.of0 {S:St}{R:List Rs}{ty:TypeId}{t b c:Nat}(h:Hs S (R++[.bx b ty ((List.replicate c (AV.int .i64 0)).flatMap AV.cells)]++[.mk t t b])):ArZ S R ty t b [] (List.replicate c (.int .i64 0)):=by
 have e:(List.replicate c (AV.int .i64 0)).flatMap AV.cells=List.replicate c (.int .i64 0):=by
  induction c with
  | zero=>rfl
  | succ c ih=>rw[List.replicate_succ,List.flatMap_cons,List.flatMap_replicate] ;simp[AV.cells]
 unfold ArZ;rw[e]at h;simpa[intsZ] using h
theorem ArZ.ofC {S:St}{R:List Rs}{ty:TypeId}{t b c:Nat}(h:Hs S (R++[.bx b ty ((List.replicate c (AV.int .i64 0)).flatMap AV.cells)]++[.mk t t b])):ArZ S R ty t b (List.replicate c 0) []:=by
 unfold ArZ;rw[intsZ_rep];simpa using h

section
variable {gt:GT}{C:CallT}
abbrev E_cutT (l:List PT)(n:Int)(o:SI)(out:List PT)(s:Int)(i:Int):Env:=[(0,.val (.sl 4 stat (encTs l))),(1,.val (.int .i64 n)),(5,.val (.sl 4 o (encTs out))),(6,.val (.int .i64 s)),(7,.val (.int .i64 i))]
theorem cutL_stop {n:Nat}{s:Int}{l:List PT}(h:¬s<3000):cutL n s l=[]:=by
 cases n with
 | zero=>rfl
 | succ n=>cases l with
  | nil=>rfl
  | cons t r=>rw[cutL,if_neg h]
set_option maxHeartbeats 4000000 in
theorem cutT_wp (hm:MonoC C){l:List PT}{n:Nat}(hl:l.length<1099511627776)(hn:n<1000000)(hsz:∀t:PT,PF C 32 [encT t,.int .i64 3000] (.int .i64 (size3 t 3000)))
  (hr:∀t∈l,PF C 33 [encT t] (.int .i64 (rightB t))):wpF gt C F18 [.sl 4 stat (encTs l),.int .i64 n] St.init (Ret (.sl 4 stat (encTs (cutL n 0 l)))):=by
 have ll:=encTs_len l;refine⟨rfl,?_⟩;refine goW ?_;refine loop_rule hm (α:=Nat) (λi env S'=>∃o out s,Hs S' [.gr 47 o (encTs out)]/\cutL n 0 l=out++cutL (n-i) s (l.drop i)/\i<=l.length/\i<=n/\out.length<=i/\0<=s/\s<=6000/\env=E_cutT l n o out s i) (λi=>l.length-i) ?_ (a:=0) ⟨_,[],0,Hs.init.addNil 47 true,rfl,Nat.zero_le _,Nat.zero_le _,nR _,by omega,by omega,rfl⟩;rintro i env S' ⟨o,out,s,hR,hp,hi,hin,hol,h0,h1,rfl⟩;have fin:cutL (n-i) s (l.drop i)=[]->Ret (.sl 4 stat (encTs (cutL n 0 l))) (.ret (.sl 4 o (encTs out))) S':=λe=>by
  rw[hp,e,List.append_nil];exact⟨_,rfl,hR.rdo (i:=0) rfl (rdos_Ts _)⟩
 refine goW ?_;by_cases c1:(i:Int)<(encTs l).length
 case neg =>
  rw[dF c1];refine goW ?_;exact⟨_,rfl,fin (by rw[List.drop_eq_nil_of_le (by omega)];cases n-i<;>rfl)⟩
 rw[dT c1];refine goW ?_;by_cases c2:(i:Int)<n
 case neg =>
  rw[dF c2];refine goW ?_;exact⟨_,rfl,fin (by rw[show n-i=0 by omega];rfl)⟩
 rw[dT c2];refine goW ?_;by_cases c3:s<3000
 case neg =>
  rw[dF c3];refine goW ?_;exact⟨_,rfl,fin (cutL_stop c3)⟩
 rw[dT c3]
 clear fin
 have hik:i<l.length:=by omega
 have hst:cutL (n-i) s (l.drop i)=(if s+size3 l[i] 3000<3000/\rightB l[i]=0 then [l[i]] else [])++cutL (n-(i+1)) (s+size3 l[i] 3000) (l.drop (i+1)):=by
  rw[dC hik,show n-i=(n-(i+1))+1 by omega,cutL,if_pos c3]
 rw[hst]at hp
 clear hst
 have hge:=encTs_get hik;have hrd:=rdT l[i];have hok:=encT_ok l[i];have hsz:=hsz l[i];have hr:=hr l[i] (List.getElem_mem hik);have p1:=size3_pos l[i] 3000;have p2:=size3_le l[i] 3000;have happ:encTs (out++[l[i]])=encTs out++[encT l[i]]:=by rw[encTs_app];rfl
 have hol2:=encTs_len out;obtain⟨w0,w1,w2,w3,he⟩:=encT_agg l[i];rw[he]at hge hrd hsz hr hok happ;generalize size3 l[i] 3000=sz at hsz hp p1 p2;generalize rightB l[i]=rb at hr hp;refine goW ?_;refine step_ruleO (sx_ia (k:=i) rfl rfl (by omega)) (goW ?_);refine step_ruleO (sx_ldEl (agg:=true) rfl rfl hge hrd) (goW ?_);refine call_pf hm (by rfl) hsz (goW ?_);rw[wr64 (n:=s+sz) (by omega) (by omega)];by_cases c4:s+sz<3000
 case neg =>
  rw[dF c4];rw[if_neg (λe=>c4 e.1),List.nil_append]at hp;refine goW ?_;refine⟨i+1,⟨o,out,s+sz,hR,hp,by omega,by omega,by omega,by omega,by omega,?_⟩,by omega⟩;rw[wrNat (by omega)];try rfl
 rw[dT c4];refine goW ?_;refine st_any (by exact rfl) (sx_ia (k:=i) rfl rfl (by omega)) (goW ?_);refine st_any (by exact rfl) (sx_ldEl (agg:=true) rfl rfl hge hrd) (goW ?_);refine call_pf hm (by rfl) hr (goW ?_);by_cases c5:rb=0
 case neg =>
  rw[eqI_false c5];rw[if_neg (λe=>c5 e.2),List.nil_append]at hp;refine goW ?_;refine⟨i+1,⟨o,out,s+sz,hR,hp,by omega,by omega,by omega,by omega,by omega,?_⟩,by omega⟩;rw[wrNat (by omega)];try rfl
 rw[eqI_true c5];rw[if_pos ⟨c4,c5⟩]at hp;refine goW ?_;refine step_ruleO (sx_ia (k:=i) rfl rfl (by omega)) (goW ?_);refine step_ruleO (sx_ldEl (agg:=true) rfl rfl hge hrd) (goW ?_);obtain⟨hR,hsrc⟩:=hR.bldT 47 1;refine r_app hR 0 rfl trivial rfl rfl (hsrc _ _ _) (by rw[hol2];simp;omega) (by rw[hol2];simp;omega) (by decide) (by decide) rfl ?_;intro o3 S3 hR;refine goW ?_;refine⟨i+1,⟨o3,out++[l[i]],s+sz,?_,by rw[hp,aA],by omega,by omega,by simp;omega,by omega,by omega,?_⟩,by omega⟩
 ·rw[happ];exact hR
 ·simp only[E_cutT,happ];rw[wrNat (by omega)];try rfl
def placeL (n m:Nat):List Int:=(List.range m).map λi=>if i<n then (i:Int) else -1
theorem placeL_len (n m:Nat):(placeL n m).length=m:=by simp[placeL]
theorem placeL_step (n m:Nat):placeL n (m+1)=placeL n m++[if m<n then (m:Int) else -1]:=by simp[placeL,List.range_succ]
abbrev E_place (old:List PT)(t c:Nat)(L:List Int)(m i:Int):Env:=[(0,.val (.sl 4 stat (encTs old))),(5,.val (.sl 1 ⟨some (t,t),0,some c,false⟩ (intsZ L))),(11,.val (.int .i64 m)),(12,.val (.int .i64 i))]
set_option maxHeartbeats 4000000 in
theorem place13_wp (hm:MonoC C){old fresh:List PT}(hl:fresh.length<1099511627776):wpF gt C F15 [.sl 4 stat (encTs old),.sl 4 stat (encTs fresh)] St.init (Ret (.sl 1 stat (intsZ (placeL old.length fresh.length)))):=by
 have lo:=encTs_len old;have lf:=encTs_len fresh;cases fresh with
 | nil =>
  refine⟨rfl,?_⟩;refine goW ?_;refine loop_rule hm (α:=Unit) (λ_ env S'=>env=[(0,.val (.sl 4 stat (encTs old))),(5,.val (.sl 1 ⟨none,0,some 0,false⟩ [])),(11,.val (.int .i64 0)),(12,.val (.int .i64 0))]/\S'=St.init) (λ_=>0) ?_ (a:=()) ⟨rfl,rfl⟩;rintro _ env S' ⟨rfl,rfl⟩;refine goW ?_;exact⟨_,rfl,_,rfl,rdo_nil0⟩
 | cons f0 fr =>
 have hpos:0<(f0::fr).length:=by simp
 generalize f0::fr=fresh at hl lf hpos;refine⟨rfl,?_⟩;refine goW ?_;refine r_mks (n:=0) (c:=fresh.length) Hs.init trivial rfl (by rw[<-lf];rfl) (Nat.zero_le _) hpos (by omega) (by omega) rfl ?_;intro t b S hS;have hA:=ArZ.of0 hS
 clear hS
 refine goW ?_;refine loop_rule hm (α:=Nat) (λi env S'=>∃post,ArZ S' [] 3 t b (placeL old.length i) post/\post.length=fresh.length-i/\i<=fresh.length/\env=E_place old t fresh.length (placeL old.length i) (encTs fresh).length i) (λi=>fresh.length-i) ?_ (a:=0) ⟨_,hA,by rw[List.length_replicate];omega,Nat.zero_le _,rfl⟩
 clear hA
 rintro i env S' ⟨post,hA,hpl,hi,rfl⟩;have hll:=placeL_len old.length i;have hlz:(intsZ (placeL old.length i)).length=(placeL old.length i).length:=intsZ_len _;refine goW ?_;by_cases c:(i:Int)<(encTs fresh).length
 case neg =>
  rw[dF c];obtain rfl:i=fresh.length:=by omega
  refine goW ?_;exact⟨_,rfl,_,rfl,hA.rdo hlz⟩
 rw[dT c];have hst:=placeL_step old.length i;have fin:∀(S2:St) (v:Int),(if i<old.length then (i:Int) else -1)=v->ArZ S2 [] 3 t b (placeL old.length i++[v]) (post.drop 1)->∃a':Nat,(∃post,ArZ S2 [] 3 t b (placeL old.length a') post/\post.length=fresh.length-a'/\a'<=fresh.length /\
   [(0,Ent.val (.sl 4 stat (encTs old))),(5,.val (.sl 1 ⟨some (t,t),0,some fresh.length,false⟩ (intsZ (placeL old.length i++[v])))),(11,.val (.int .i64 (encTs fresh).length)),(12,.val (.int .i64 ((i+1:Nat):Int)))]=E_place old t fresh.length (placeL old.length a') (encTs fresh).length a')/\fresh.length-a'<fresh.length-i:=λS2 v e h=>by
  subst e;rw[<-hst]at h ⊢;exact⟨i+1,⟨_,h,by simp;omega,by omega,rfl⟩,by omega⟩
 refine goW ?_;by_cases c2:(i:Int)<(encTs old).length
 ·rw[dT c2];refine goW ?_;obtain⟨hA,hsrc⟩:=Hs.bldT hA 3 1;refine st_runP (ArZ.app hA rfl hlz rfl (hsrc _ _ _) (by omega) (by omega) (by omega)) trivial ?_;intro S2 hA2;refine goW ?_;rw[wrNat (by omega)];exact fin S2 _ (if_pos (by omega)) hA2
 ·rw[dF c2];refine goW ?_;obtain⟨hA,hsrc⟩:=Hs.bldT hA 3 1;refine st_runP (ArZ.app hA rfl hlz rfl (hsrc _ _ _) (by omega) (by omega) (by omega)) trivial ?_;intro S2 hA2;refine goW ?_;rw[wrNat (by omega)];exact fin S2 _ (if_neg (by omega)) hA2
end
end Go.Dn

namespace Go.Dn
open Go
theorem beqSI_refl (o:SI):beqSI o o=true:=by
 obtain⟨t,a,c,n⟩:=o;rcases t with _ | ⟨_,_⟩<;>cases c<;>simp[beqSI,beqT,beqO]
mutual
theorem beqA_T:∀t:PT,beqA (encT t) (encT t)=true
 |.mk k s keys kids=>by
  have h1:beqB s s=true:=beqB_iff.2 rfl;have h2:beqAL (strs keys) (strs keys)=true:=beqA_strs keys;simp[encT,beqA,beqAL,beqSI_refl,h1,h2,beqA_Ts kids]
theorem beqA_Ts:∀l:List PT,beqAL (encTs l) (encTs l)=true
 | []=>rfl
 | t::r=>by simp[encTs,beqAL,beqA_T t,beqA_Ts r]
theorem beqA_strs:∀l:List (List UInt8),beqAL (strs l) (strs l)=true
 | []=>rfl
 | a::r=>by
  have h1:beqB a a=true:=beqB_iff.2 rfl;have e:strs (a::r)=.str a::strs r:=rfl;simp[e,beqAL,beqA,h1,beqA_strs r]
end
theorem beqA_int {k:IntKind}{n:Int}:beqA (.int k n) (.int k n)=true:=by simp[beqA]
theorem beqA_map {n:Nat}:beqA (.map n) (.map n)=true:=by simp[beqA]
theorem stab_nil {gt:GT}{env:Env}{S:St}:stab gt [] env S=true:=rfl
theorem stab_at {gt:GT}{d:Nat}{op:DOp}{gd:Option (Nat×Bool)}{l:Option Nat}{xs:List (DI×Option Nat)}{env:Env}{S:St}{v:AV}(h0:isLoc op=false)(h1:conform l env op=true)(hg:Gd env gd)(h:stepO gt (some d) env S op=.done (putV (some d) v env) S)
  (h2:lk env d=some (.val v)) (hb:beqA v v=true) (r:stab gt xs env S=true):stab gt ((⟨some d,op,gd⟩,l)::xs) env S=true:=by
 have hs:stepD gt (⟨some d,op,gd⟩,l) env S=.done (putV (some d) v env) S:=by
  rw[<-h];cases gd with
  | none=>simp only[stepD,stepDO,h0,h1,cond_false,cond_true]
  | some p =>
   obtain⟨g,w⟩:=p;have hg:lk env g=some (.val (.bool w)):=hg;simp only[stepD,stepDO,h0,h1,cond_false,cond_true,hg,beq_self_eq_true]
 unfold stab at r ⊢;rw[List.all_cons,r,Bool.and_true];unfold stays;simp only[hs,h2];have:lk (putV (some d) v env) d=some (.val v):=lk_same _ _ _;rw[this];exact hb
end Go.Dn

namespace Go.Dn
open Go Go.Proofs.C1
set_option maxRecDepth 100000
attribute [local irreducible] afterS keepE
theorem encT_k (t:PT):∃s a b,encT t=.agg [.int .i64 t.k,.str s,.sl 1 stat a,.sl 4 stat b]:=by
 cases t;exact⟨_,_,_,rfl⟩
section
variable {gt:GT}{C:CallT}
set_option maxHeartbeats 4000000 in
theorem scalar_wp {k:Int}:wpF gt C F42 [.int .i64 k] St.init (Ret (.bool (leafK k))):=by
 refine⟨rfl,?_⟩;refine goW ?_;by_cases h:k ≥ 1
 ·rw[dT h];refine goW ?_;refine⟨_,rfl,?_⟩;rw[show leafK k=decide (k<=5) by simp only[leafK];congr 1;simp;intro;exact h];exact Ret.sta trivial
 ·rw[dF h];refine goW ?_;refine⟨_,rfl,?_⟩;rw[show leafK k=false by simp[leafK];omega];exact Ret.sta trivial
theorem keyRaw_mk {s:List UInt8}{keys:List (List UInt8)}{kids:List PT}{key:List UInt8}{i:Nat}(h:plc key keys 0=i):keyRaw (.mk 7 s keys kids) key=match kids[i]? with
  | some u=>(u,leafK u.k)
  | none=>(zPT,false):=by
 unfold keyRaw;simp only[PT.k,PT.keys,PT.kids,h];rw[if_pos (show True/\(0:Int)<=(i:Int) from ⟨trivial,by omega⟩),Int.toNat_natCast]
 try rfl
theorem keyRaw_none {s:List UInt8}{keys:List (List UInt8)}{kids:List PT}{key:List UInt8}(h:plc key keys 0<0):keyRaw (.mk 7 s keys kids) key=(zPT,false):=by
 unfold keyRaw;simp only[PT.k,PT.keys,PT.kids];rw[if_neg (by omega)]
abbrev E_keyOf (t:PT)(key:List UInt8)(keys:List (List UInt8))(i:Int):Env:=[(1,.val (.str key)),(2,.box (encT t).cells),(4,.box zT),(13,.val (.sl 1 stat (strs keys))),(14,.val (.int .i64 (strs keys).length)),(15,.val (.int .i64 i))]
set_option maxHeartbeats 4000000 in
theorem keyOf_wp (hm:MonoC C)(hs:∀k:Int,PF C 42 [.int .i64 k] (.bool (leafK k))){t:PT}{key:List UInt8}(hk:t.ok):wpF gt C F30 [encT t,.str key] St.init (Ret (.tup [encT (keyRaw t key).1,.bool (keyRaw t key).2])):=by
 obtain⟨k,s,keys,kids⟩:=t;simp only[PT.ok]at hk;obtain⟨hk1,hk2,hk3⟩:=hk;have l1:=strs_length keys;have l2:=encTs_len kids;have ret:∀{x:PT} {b:Bool} {y:AV} {S:St},keyRaw (.mk k s keys kids) key=(x,b)->Rdo S (encT x) y->Ret (.tup [encT (keyRaw (.mk k s keys kids) key).1,.bool (keyRaw (.mk k s keys kids) key).2]) (.ret (.tup [y,.bool b])) S:=λh hr=>by
  rw[h];exact ret_tup2 hr trivial
 refine⟨rfl,?_⟩;refine goW ?_;by_cases k7:k=7
 case neg =>
  rw[neI_true k7];refine goW ?_;exact⟨_,rfl,ret (x:=zPT) (by unfold keyRaw;rw[if_neg (λe=>k7 e.1)]) rdo_zT⟩
 rw[neI_false k7];subst k7;refine goW ?_;refine loop_rule hm (α:=Nat) (λi env S'=>i<=keys.length/\env=E_keyOf (.mk 7 s keys kids) key keys i/\S'=St.init/\(plc key keys 0=plc key (keys.drop i) i\/keyRaw (.mk 7 s keys kids) key=(zPT,false)/\kids.length<=i)) (λi=>keys.length-i) ?_ (a:=0) ⟨Nat.zero_le _,rfl,rfl,.inl rfl⟩;rintro i env S' ⟨hi,rfl,rfl,hp⟩;refine goW ?_;by_cases c:(i:Int)<(strs keys).length
 case neg =>
  rw[dF c];have hz:keyRaw (.mk 7 s keys kids) key=(zPT,false):=by
   rcases hp with hp | hp
   ·rw[List.drop_eq_nil_of_le (by omega)]at hp;exact keyRaw_none (by rw[hp];simp[plc])
   ·exact hp.1
  refine goW ?_;exact⟨_,rfl,ret hz rdo_zT⟩
 rw[dT c];have hik:i<keys.length:=by omega
 refine goW ?_;refine step_ruleO (sx_ia (k:=i) rfl rfl (by omega)) (goW ?_);refine step_ruleO (sx_ldEl (agg:=false) rfl rfl (strs_at hik) rfl) (goW ?_);by_cases e:keys[i]=key
 case neg =>
  rw[beqB_false e];refine goW ?_;refine⟨i+1,⟨by omega,by rw[wrNat (by omega)];try rfl,rfl,?_⟩,by omega⟩;rcases hp with hp | hp
  ·rw[plc_step hik,if_neg e]at hp;exact .inl hp
  ·exact .inr ⟨hp.1,by omega⟩
 rw[beqB_true e];refine goW ?_;by_cases c2:(i:Int)<(encTs kids).length
 case neg =>
  rw[dF c2];refine goW ?_;refine⟨i+1,⟨by omega,by rw[wrNat (by omega)];try rfl,rfl,.inr ⟨?_,by omega⟩⟩,by omega⟩;rcases hp with hp | hp
  ·rw[plc_step hik,if_pos e]at hp;rw[keyRaw_mk hp,List.getElem?_eq_none (by omega)]
  ·exact hp.1
 rw[dT c2];have hin:i<kids.length:=by omega
 have hz:keyRaw (.mk 7 s keys kids) key=(kids[i],leafK kids[i].k):=by
  rcases hp with hp | hp
  ·rw[plc_step hik,if_pos e]at hp;rw[keyRaw_mk hp,gE hin]
  ·omega
 clear hp
 have hge:=encTs_get hin;have hrd:=rdT kids[i];have hs:=hs kids[i].k;have st:=sta_T kids[i];have hbq:=beqA_T kids[i];obtain⟨w1,w2,w3,he⟩:=encT_k kids[i];have ret:=ret hz (Sta.rdo (S:=St.init) _ st);rw[he]at hge hrd ret hbq;generalize leafK kids[i].k=lk at hs ret;generalize kids[i].k=kk at *;refine goW ?_;refine step_ruleDO rfl rfl (sx_ia (k:=i) rfl rfl (by omega)) (goW ?_);refine step_ruleDO rfl rfl (sx_ldEl (agg:=true) rfl rfl hge hrd) (goW ?_);refine step_ruleDO rfl rfl (sx_ia (k:=i) rfl rfl (by omega)) (goW ?_);refine step_ruleDO rfl rfl (sx_ldEl (agg:=true) rfl rfl hge rfl) (goW ?_);refine call_pfD hm (by rfl) hs ?_;refine⟨stab_at rfl rfl trivial (sx_ldEl (agg:=true) rfl rfl hge hrd) rfl hbq stab_nil,?_⟩;refine goW ?_;exact⟨_,rfl,ret⟩
end
end Go.Dn

namespace Go.Dn
open Go
set_option maxRecDepth 100000
structure KeyOK {κ:Type}[DecidableEq κ](ek:EqK)(kv:κ->AV):Prop where
 eq:∀a b,eqv ek (kv a) (kv b)=some (decide (a=b))
 kv:∀a,keyV ek (kv a)=true
abbrev ek1:EqK:=.st [(0,.int)]
abbrev ek2:EqK:=.st [(0,.int),(1,.int)]
abbrev kv1 (a:Int):AV:=.agg [.int .i64 a]
abbrev kv2 (a:Int×Int):AV:=.agg [.int .i64 a.1,.int .i64 a.2]
theorem keyOK1:KeyOK ek1 kv1 where
 eq a b:=by
  by_cases h:a=b
  ·subst h;simp[eqv,eqvs,aggs,eqInt]
  ·have hb:(a == b)=false:=by simp[h]
   simp[eqv,eqvs,aggs,eqInt,h,hb]
 kv a:=rfl
theorem keyOK2:KeyOK ek2 kv2 where
 eq a b:=by
  obtain⟨a1,a2⟩:=a;obtain⟨b1,b2⟩:=b;by_cases h:a1=b1
  ·subst h;by_cases h2:a2=b2
   ·subst h2;simp[eqv,eqvs,aggs,eqInt]
   ·have hb:(a2 == b2)=false:=by simp[h2]
    simp[eqv,eqvs,aggs,eqInt,h2,hb]
  ·have hb:(a1 == b1)=false:=by simp[h]
   simp[eqv,eqvs,aggs,eqInt,h,hb]
 kv a:=rfl
section
variable {κ:Type}[DecidableEq κ]
def mapE (kv:κ->AV)(l:List (κ×Int)):List (AV×AV):=l.map λp=>(kv p.1,.int .i64 p.2)
def posM (k:κ):List (κ×Int)->Nat->Option (Nat×Int)
 | [],_=>none
 | (k',v)::r,i=>if k=k' then some (i,v) else posM k r (i+1)
def getM (k:κ):List (κ×Int)->Option Int
 | []=>none
 | (k',v)::r=>if k=k' then some v else getM k r
def putM (k:κ)(v:Int):List (κ×Int)->List (κ×Int)
 | []=>[(k,v)]
 | (k',v')::r=>if k=k' then (k,v)::r else (k',v')::putM k v r
theorem posM_getM (k:κ):∀(l:List (κ×Int)) (i:Nat),(posM k l i).map (·.2)=getM k l
 | [],_=>rfl
 | (k',v)::r,i=>by
  simp only[posM,getM];split
  ·rfl
  ·exact posM_getM k r (i+1)
theorem posM_put {k:κ}{v:Int}:∀(l:List (κ×Int)) (i:Nat),putM k v l=match posM k l i with
  | some p=>l.set (p.1-i) (k,v)
  | none=>l++[(k,v)]
 | [],_=>rfl
 | (k',v')::r,i=>by
  have ih:=posM_put (k:=k) (v:=v) r (i+1);have hlt:∀(r:List (κ×Int)) (i:Nat) (p:Nat×Int),posM k r i=some p->i<=p.1:=λr=>by
   induction r with
   | nil=>intro i p h;cases h
   | cons q r ih =>
    intro i p h;simp only[posM]at h;split at h
    ·cases h;exact nR _
    ·have:=ih _ _ h;omega
  simp only[posM,putM];by_cases e:k=k'
  ·simp only[if_pos e,Nat.sub_self,List.set_cons_zero]
  ·simp only[if_neg e];rw[ih];cases h:posM k r (i+1) with
   | none=>rfl
   | some p =>
    have:=hlt r (i+1) p h;simp only;rw[show p.1-i=(p.1-(i+1))+1 by omega,List.set_cons_succ]
theorem posM_key {k:κ}:∀{l:List (κ×Int)} {i:Nat} {p:Nat×Int},posM k l i=some p->i<=p.1/\l[p.1-i]? = some (k,p.2)
 | (k',v')::r,i,p,h=>by
  simp only[posM]at h;split at h
  ·rename_i e;subst e;cases h;simp
  ·obtain⟨h1,h2⟩:=posM_key h;refine⟨by omega,?_⟩;rw[show p.1-i=(p.1-(i+1))+1 by omega,List.getElem?_cons_succ];exact h2
theorem getM_put (k k':κ)(v:Int):∀l:List (κ×Int),getM k' (putM k v l)=if k'=k then some v else getM k' l
 | []=>rfl
 | (q,w)::r=>by
  have ih:=getM_put k k' v r;simp only[putM];by_cases e:k=q
  ·subst e;simp only[if_true,getM];split<;>rfl
  ·rw[if_neg e];simp only[getM,ih];by_cases e2:k'=q
   ·subst e2;rw[if_pos rfl,if_neg (λh=>e h.symm),if_pos rfl]
   ·rw[if_neg e2,if_neg e2]
variable {ek:EqK}{kv:κ->AV}
theorem fkM (hk:KeyOK ek kv)(k:κ):∀(l:List (κ×Int)) (i:Nat),findK ek (kv k) (mapE kv l) i=some ((posM k l i).map λp=>(p.1,AV.int .i64 p.2))
 | [],_=>rfl
 | (k',v)::r,i=>by
  have ih:=fkM hk k r (i+1);simp only[mapE,List.map_cons,findK,posM,hk.eq]at ih ⊢;by_cases h:k=k'
  ·rw[dT h,if_pos h];rfl
  ·rw[dF h,if_neg h];exact ih
theorem sx_lkpM (hk:KeyOK ek kv){gt:GT}{d:Option Nat}{env:Env}{S:St}{R:List Rs}{m k:DOpd}{id:Nat}{l:List (κ×Int)}{s:κ}(hR:Hs S R)(i:Nat)(hi:R[i]? = some (.mp id (mapE kv l)))(hm:opd env m=some (.map id))(hkk:opd env k=some (kv s)) :
  stepO gt d env S (.lkp ek (.int .i64 0) m k false)=.done (putV d (.int .i64 ((getM s l).getD 0)) env) S:=by
 have hl:=(hR.ok i _ hi).2;simp only[stepO,hm,hkk,hk.kv,cond_true,hl,fkM hk,<-posM_getM s l 0];cases posM s l 0<;>rfl
theorem r_mupM (hk:KeyOK ek kv){gt:GT}{d:Option Nat}{env:Env}{S:St}{R:List Rs}{m k x:DOpd}{id:Nat}{l:List (κ×Int)}{s:κ}{v:Int}(hR:Hs S R)(i:Nat)(hi:R[i]? = some (.mp id (mapE kv l)))(hm:opd env m=some (.map id))(hkk:opd env k=some (kv s))(hx:opd env x=some (.int .i64 v)) :
  ∃S',stepO gt d env S (.mup ek m k x)=.done (putV d .undef env) S'/\Hs S' (R.set i (.mp id (mapE kv (putM s v l)))):=by
 have hl:=(hR.ok i _ hi).2;refine⟨_,?_,hR.mapTo hi (mapE kv (putM s v l))⟩;simp only[stepO,hm,hkk,hx,hk.kv,cond_true,hl,fkM hk];rw[posM_put l 0];cases hp:posM s l 0 with
 | none=>simp only[Option.map_none];simp[mapE]
 | some p =>
  obtain⟨j,w⟩:=p;obtain⟨_,h3⟩:=posM_key hp;rw[Nat.sub_zero]at h3;have:keyAt ek (mapE kv l) j=true:=by simp[keyAt,mapE,h3,hk.kv]
  simp only[Option.map_some,this,cond_true];simp[mapE,List.map_set]
theorem r_mpeM (hk:KeyOK ek kv){gt:GT}{d:Option Nat}{env:Env}{S:St}{R:List Rs}{m k:DOpd}{id:Nat}{l:List (κ×Int)}{s:κ}(hR:Hs S R)(i:Nat)(hi:R[i]? = some (.mp id (mapE kv l)))(hm:opd env m=some (.map id))(hkk:opd env k=some (kv s)) :
  ∃(p:Nat) (S':St),stepO gt d env S (.mpe ek (.int .i64 0) m k)=.done (putV d (.tup [.int .i64 ((getM s l).getD 0),.int .i64 p]) env) S'/\Hs S' (R.set i (.mp id (mapE kv (putM s ((getM s l).getD 0) l)))) /\
   (putM s ((getM s l).getD 0) l)[p]? = some (s,(getM s l).getD 0)/\∀v,(putM s ((getM s l).getD 0) l).set p (s,v)=putM s v l:=by
 have hl:=(hR.ok i _ hi).2;cases hp:posM s l 0 with
 | none =>
  have hg:getM s l=none:=by rw[<-posM_getM s l 0,hp];rfl
  have hpt:∀v,putM s v l=l++[(s,v)]:=λv=>by rw[posM_put l 0,hp]
  refine⟨l.length,_,?_,hR.mapTo hi (mapE kv (putM s ((getM s l).getD 0) l)),?_,?_⟩
  rotate_left
  ·rw[hpt,List.getElem?_append_right (nR _),Nat.sub_self];rfl
  ·intro v;rw[hpt,hpt,List.set_append_right _ _ (nR _),Nat.sub_self];rfl
  ·simp only[stepO,hm,hkk,hk.kv,cond_true,hl,fkM hk,hp,Option.map_none,hg,Option.getD_none,hpt];simp[mapE]
 | some p =>
  obtain⟨j,w⟩:=p;obtain⟨_,h3⟩:=posM_key hp;rw[Nat.sub_zero]at h3;have hg:getM s l=some w:=by rw[<-posM_getM s l 0,hp];rfl
  have hpt:∀v,putM s v l=l.set j (s,v):=λv=>by rw[posM_put l 0,hp];rfl
  have hj:j<l.length:=by
   rcases Nat.lt_or_ge j l.length with h | h
   ·exact h
   ·rw[List.getElem?_eq_none h]at h3;cases h3
  have hka:keyAt ek (mapE kv l) j=true:=by simp[keyAt,mapE,h3,hk.kv]
  refine⟨j,_,?_,hR.mapTo hi (mapE kv (putM s ((getM s l).getD 0) l)),?_,?_⟩
  rotate_left
  ·rw[hpt,hg,List.getElem?_set_self hj]
  ·intro v;rw[hpt,hpt,List.set_set]
  ·simp only[stepO,hm,hkk,hk.kv,cond_true,hl,fkM hk,hp,Option.map_some,hka,hg,Option.getD_some,hpt];simp[mapE,List.map_set]
omit [DecidableEq κ] in
theorem r_ensM {gt:GT}{d:Option Nat}{env:Env}{S:St}{R:List Rs}{m k x:DOpd}{id p:Nat}{l:List (κ×Int)}{s:κ}{u v:Int}(hR:Hs S R)(i:Nat)(hi:R[i]? = some (.mp id (mapE kv l)))(hm:opd env m=some (.map id))(hkk:opd env k=some (.int .i64 p))(hx:opd env x=some (.int .i64 v))(hp:l[p]? = some (s,u)) :
  ∃S',stepO gt d env S (.ens m k x)=.done (putV d .undef env) S'/\Hs S' (R.set i (.mp id (mapE kv (l.set p (s,v))))):=by
 have hl:=(hR.ok i _ hi).2;refine⟨_,?_,hR.mapTo hi (mapE kv (l.set p (s,v)))⟩;have:(mapE kv l)[p]? = some (kv s,.int .i64 u):=by simp[mapE,hp]
 simp only[stepO,hm,hkk,hx,hl];simp only[this];simp[mapE,List.map_set]
end

section
variable {α β:Type}{f:α->List β}
theorem blk_len (hf:∀a,(f a).length=4):∀l:List α,(l.flatMap f).length=4*l.length
 | []=>rfl
 | a::r=>by rw[List.flatMap_cons,lA,hf,blk_len hf r,lC];omega
theorem blk_get (hf:∀a,(f a).length=4):∀{l:List α} {i j:Nat} {a:α},j<4->l[i]? = some a->(l.flatMap f)[4*i+j]? = (f a)[j]?
 | a::r,0,j,b,hj,h=>by
  rw[List.getElem?_cons_zero]at h;cases h;rw[List.flatMap_cons,Nat.mul_zero,Nat.zero_add,List.getElem?_append_left (by rw[hf];exact hj)]
 | a::r,i+1,j,b,hj,h=>by
  rw[List.flatMap_cons,List.getElem?_append_right (by rw[hf];omega),hf,show 4*(i+1)+j-4=4*i+j by omega];exact blk_get hf hj (by simpa using h)
theorem blk_set (hf:∀a,(f a).length=4):∀{l:List α} {i j:Nat} {a a':α} {x:β},j<4->l[i]? = some a->f a'=(f a).set j x->(l.flatMap f).set (4*i+j) x=(l.set i a').flatMap f
 | a::r,0,j,b,b',x,hj,h,e=>by
  rw[List.getElem?_cons_zero]at h;cases h;rw[List.flatMap_cons,List.set_cons_zero,List.flatMap_cons,Nat.mul_zero,Nat.zero_add,List.set_append_left _ _ (by rw[hf];exact hj),e]
 | a::r,i+1,j,b,b',x,hj,h,e=>by
  rw[List.flatMap_cons,List.set_cons_succ,List.flatMap_cons,List.set_append_right _ _ (by rw[hf];omega),hf,show 4*(i+1)+j-4=4*i+j by omega];rw[blk_set hf hj (by simpa using h) e]
end
structure Rw where
 tp:Nat
 bp:Nat
 tc:Nat
 bc:Nat
 p:List Int
 c:List Int
def rwR (ty:TypeId)(r:Rw):List Rs:=[.bx r.bp ty ((intsZ r.p).flatMap AV.cells++[]),.mk r.tp r.tp r.bp,.bx r.bc ty ((intsZ r.c).flatMap AV.cells++[]),.mk r.tc r.tc r.bc]
theorem rwR_len (ty:TypeId)(r:Rw):(rwR ty r).length=4:=rfl
def slR (t m:Nat):AV:=.sl 1 ⟨some (t,t),0,some m,false⟩ (List.replicate m (.int .i64 0))
def outs (z:AV)(n m:Nat)(ts:List Nat):List AV:=ts.map (λt=>slR t m)++List.replicate (n-ts.length) z
theorem outs_len {z:AV}{n m:Nat}{ts:List Nat}(h:ts.length<=n):(outs z n m ts).length=n:=by simp[outs];omega
theorem outs_get {z:AV}{n m:Nat}{ts:List Nat}{i t:Nat}(h:ts[i]? = some t):(outs z n m ts)[i]? = some (slR t m):=by
 have hi:i<ts.length:=by
  rcases Nat.lt_or_ge i ts.length with h1 | h1
  ·exact h1
  ·rw[List.getElem?_eq_none h1]at h;cases h
 unfold outs;rw[List.getElem?_append_left (by simp;exact hi),List.getElem?_map,h];rfl
theorem outs_set {z:AV}{n m:Nat}{ts:List Nat}{t:Nat}(h:ts.length<n):(outs z n m ts).set ts.length (slR t m)=outs z n m (ts++[t]):=by
 unfold outs;rw[show n-ts.length=(n-(ts++[t]).length)+1 by simp;omega,List.replicate_succ,List.set_append_right _ _ (by simp),List.length_map,Nat.sub_self,List.set_cons_zero,List.map_append,aA];rfl
def MatR (tyS ty:TypeId)(z:AV)(tP bP tC bC n m:Nat)(tsP tsC:List Nat)(rows:List Rw)(tail:List Rs):List Rs :=
 [.bx bP tyS ((outs z n m tsP).flatMap AV.cells++[]),.mk tP tP bP,.bx bC tyS ((outs z n m tsC).flatMap AV.cells++[]),.mk tC tC bC]++(rows.flatMap (rwR ty)++tail)
section
variable {S:St}{tyS ty:TypeId}{z:AV}{tP bP tC bC n m:Nat}{tsP tsC:List Nat}{rows:List Rw}{tail:List Rs}
theorem outs_el (hz:El false 1 z):∀{ts:List Nat},∀y∈outs z n m ts,El false 1 y:=λ{ts} y hy=>by
 unfold outs at hy;rcases List.mem_append.1 hy with h | h
 ·obtain⟨t,_,rfl⟩:=List.mem_map.1 h;exact⟨rfl,rfl⟩
 ·rw[List.eq_of_mem_replicate h];exact hz
theorem MatR.row {i j:Nat}{r:Rw}(hj:j<4)(h:rows[i]? = some r):(MatR tyS ty z tP bP tC bC n m tsP tsC rows tail)[4+(4*i+j)]? = (rwR ty r)[j]?:=by
 have hi:i<rows.length:=by
  rcases Nat.lt_or_ge i rows.length with h1 | h1
  ·exact h1
  ·rw[List.getElem?_eq_none h1]at h;cases h
 unfold MatR;rw[List.getElem?_append_right (by simp),show 4+(4*i+j)-_=4*i+j by simp,List.getElem?_append_left (by rw[blk_len (rwR_len ty)];omega)];exact blk_get (rwR_len ty) hj h
theorem MatR.tails (k:Nat):(MatR tyS ty z tP bP tC bC n m tsP tsC rows tail)[4+4*rows.length+k]? = tail[k]?:=by
 unfold MatR;rw[List.getElem?_append_right (by simp;omega),show 4+4*rows.length+k-_=4*rows.length+k by simp;omega,List.getElem?_append_right (by rw[blk_len (rwR_len ty)];omega),blk_len (rwR_len ty),Nat.add_sub_cancel_left]
theorem MatR.setRow {i j:Nat}{r r':Rw}{x:Rs}(hj:j<4)(h:rows[i]? = some r)(e:rwR ty r'=(rwR ty r).set j x):(MatR tyS ty z tP bP tC bC n m tsP tsC rows tail).set (4+(4*i+j)) x=MatR tyS ty z tP bP tC bC n m tsP tsC (rows.set i r') tail:=by
 have hi:i<rows.length:=by
  rcases Nat.lt_or_ge i rows.length with h1 | h1
  ·exact h1
  ·rw[List.getElem?_eq_none h1]at h;cases h
 unfold MatR;rw[List.set_append_right _ _ (by simp),show 4+(4*i+j)-_=4*i+j by simp,List.set_append_left _ _ (by rw[blk_len (rwR_len ty)];omega),blk_set (rwR_len ty) hj h e]
theorem MatR.setTail {k:Nat}{x:Rs}:(MatR tyS ty z tP bP tC bC n m tsP tsC rows tail).set (4+4*rows.length+k) x=MatR tyS ty z tP bP tC bC n m tsP tsC rows (tail.set k x):=by
 unfold MatR;rw[List.set_append_right _ _ (by simp;omega),show 4+4*rows.length+k-_=4*rows.length+k by simp;omega,List.set_append_right _ _ (by rw[blk_len (rwR_len ty)];omega),blk_len (rwR_len ty),Nat.add_sub_cancel_left]
theorem MatR.join {r:Rw}(h:Hs S (MatR tyS ty z tP bP tC bC n m tsP tsC rows (rwR ty r++tail))):Hs S (MatR tyS ty z tP bP tC bC n m tsP tsC (rows++[r]) tail):=by
 unfold MatR at h ⊢;rw[List.flatMap_append,List.flatMap_singleton,aA];exact h
variable (hR:Hs S (MatR tyS ty z tP bP tC bC n m tsP tsC rows tail))
include hR
theorem MatR.elsP (hz:El false 1 z)(hl:tsP.length<=n){cap:Option Nat}{nl:Bool}{xs:List AV}(hx:xs.length=n):elems S false 1 ⟨some (tP,tP),0,cap,nl⟩ xs=some (outs z n m tsP):=by
 have:=arr_els hR (i:=0) (j:=1) rfl rfl (outs_el hz) (off:=0) (cap:=cap) (nl:=nl) (xs:=xs) (by rw[outs_len hl];omega);rw[List.drop_zero,List.take_of_length_le (by rw[outs_len hl];omega)]at this;exact this
theorem MatR.elsC (hz:El false 1 z)(hl:tsC.length<=n){cap:Option Nat}{nl:Bool}{xs:List AV}(hx:xs.length=n):elems S false 1 ⟨some (tC,tC),0,cap,nl⟩ xs=some (outs z n m tsC):=by
 have:=arr_els hR (i:=2) (j:=3) rfl rfl (outs_el hz) (off:=0) (cap:=cap) (nl:=nl) (xs:=xs) (by rw[outs_len hl];omega);rw[List.drop_zero,List.take_of_length_le (by rw[outs_len hl];omega)]at this;exact this
theorem MatR.rowP {i:Nat}{r:Rw}(h:rows[i]? = some r){cap:Option Nat}{nl:Bool}{xs:List AV}(hx:xs.length=r.p.length):elems S false 1 ⟨some (r.tp,r.tp),0,cap,nl⟩ xs=some (intsZ r.p):=by
 have h0:=MatR.row (tyS:=tyS) (ty:=ty) (z:=z) (tP:=tP) (bP:=bP) (tC:=tC) (bC:=bC) (n:=n) (m:=m) (tsP:=tsP) (tsC:=tsC) (tail:=tail) (j:=0) (by omega) h;have h1:=MatR.row (tyS:=tyS) (ty:=ty) (z:=z) (tP:=tP) (bP:=bP) (tC:=tC) (bC:=bC) (n:=n) (m:=m) (tsP:=tsP) (tsC:=tsC) (tail:=tail) (j:=1) (by omega) h;have:=arr_els hR h0 h1 (intsZ_el r.p) (off:=0) (cap:=cap) (nl:=nl) (xs:=xs) (by rw[intsZ_len];omega);rw[List.drop_zero,List.take_of_length_le (by rw[intsZ_len];omega)]at this;exact this
theorem MatR.rowC {i:Nat}{r:Rw}(h:rows[i]? = some r){cap:Option Nat}{nl:Bool}{xs:List AV}(hx:xs.length=r.c.length):elems S false 1 ⟨some (r.tc,r.tc),0,cap,nl⟩ xs=some (intsZ r.c):=by
 have h0:=MatR.row (tyS:=tyS) (ty:=ty) (z:=z) (tP:=tP) (bP:=bP) (tC:=tC) (bC:=bC) (n:=n) (m:=m) (tsP:=tsP) (tsC:=tsC) (tail:=tail) (j:=2) (by omega) h;have h1:=MatR.row (tyS:=tyS) (ty:=ty) (z:=z) (tP:=tP) (bP:=bP) (tC:=tC) (bC:=bC) (n:=n) (m:=m) (tsP:=tsP) (tsC:=tsC) (tail:=tail) (j:=3) (by omega) h;have:=arr_els hR h0 h1 (intsZ_el r.c) (off:=0) (cap:=cap) (nl:=nl) (xs:=xs) (by rw[intsZ_len];omega);rw[List.drop_zero,List.take_of_length_le (by rw[intsZ_len];omega)]at this;exact this
theorem MatR.putP (hz:El false 1 z)(hl:tsP.length<n){gt:GT}{d:Option Nat}{env:Env}{a x:DOpd}{cap:Option Nat}{nl:Bool}{xs:List AV}{k t:Nat}(hx:xs.length=n)(ha:loc env a=some (.el 1 ⟨some (tP,tP),0,cap,nl⟩ xs k 0))(hv:opd env x=some (slR t m))(hk:k=tsP.length) :
  ∃S',stepO gt d env S (.st 1 a x)=.done (putV d .undef env) S'/\Hs S' (MatR tyS ty z tP bP tC bC n m (tsP++[t]) tsC rows tail):=by
 subst hk;have hol:=outs_len (z:=z) (m:=m) (Nat.le_of_lt hl);obtain⟨S',h1,h2⟩:=arr_st hR 0 (j:=1) rfl rfl (λy hy=>(outs_el hz y hy).1) (gt:=gt) (d:=d) (env:=env) (a:=a) (x:=x) (xs:=xs) (so:=0) (k:=tsP.length) (off:=0) (sz:=1) (cap:=cap) (nl:=nl) (v:=slR t m) (v':=slR t m) ha hv rfl (by omega) (by rw[hol];omega) (nR 1) (by
  have hc:=(outs_el (n:=n) (m:=m) hz _ (List.getElem_mem (l:=outs z n m tsP) (n:=0+tsP.length) (by rw[hol];omega))).1
  match h:((outs z n m tsP)[0+tsP.length]'(by rw[hol];omega)).cells,hc with
  | [c],_=>rfl)
 refine⟨S',h1,?_⟩;rw[Nat.zero_add,outs_set hl]at h2;exact h2
theorem MatR.putC (hz:El false 1 z)(hl:tsC.length<n){gt:GT}{d:Option Nat}{env:Env}{a x:DOpd}{cap:Option Nat}{nl:Bool}{xs:List AV}{k t:Nat}(hx:xs.length=n)(ha:loc env a=some (.el 1 ⟨some (tC,tC),0,cap,nl⟩ xs k 0))(hv:opd env x=some (slR t m))(hk:k=tsC.length) :
  ∃S',stepO gt d env S (.st 1 a x)=.done (putV d .undef env) S'/\Hs S' (MatR tyS ty z tP bP tC bC n m tsP (tsC++[t]) rows tail):=by
 subst hk;have hol:=outs_len (z:=z) (m:=m) (Nat.le_of_lt hl);obtain⟨S',h1,h2⟩:=arr_st hR 2 (j:=3) rfl rfl (λy hy=>(outs_el hz y hy).1) (gt:=gt) (d:=d) (env:=env) (a:=a) (x:=x) (xs:=xs) (so:=0) (k:=tsC.length) (off:=0) (sz:=1) (cap:=cap) (nl:=nl) (v:=slR t m) (v':=slR t m) ha hv rfl (by omega) (by rw[hol];omega) (nR 1) (by
  have hc:=(outs_el (n:=n) (m:=m) hz _ (List.getElem_mem (l:=outs z n m tsC) (n:=0+tsC.length) (by rw[hol];omega))).1
  match h:((outs z n m tsC)[0+tsC.length]'(by rw[hol];omega)).cells,hc with
  | [c],_=>rfl)
 refine⟨S',h1,?_⟩;rw[Nat.zero_add,outs_set hl]at h2;exact h2
theorem MatR.stP {i:Nat}{r:Rw}(h:rows[i]? = some r){gt:GT}{d:Option Nat}{env:Env}{a x:DOpd}{cap:Option Nat}{nl:Bool}{xs:List AV}{k:Nat}{v:Int}(hx:xs.length=r.p.length)(ha:loc env a=some (.el 1 ⟨some (r.tp,r.tp),0,cap,nl⟩ xs k 0))(hv:opd env x=some (.int .i64 v))(hk:k<r.p.length) :
  ∃S',stepO gt d env S (.st 1 a x)=.done (putV d .undef env) S'/\Hs S' (MatR tyS ty z tP bP tC bC n m tsP tsC (rows.set i { r with p:=r.p.set k v }) tail):=by
 have h0:=MatR.row (tyS:=tyS) (ty:=ty) (z:=z) (tP:=tP) (bP:=bP) (tC:=tC) (bC:=bC) (n:=n) (m:=m) (tsP:=tsP) (tsC:=tsC) (tail:=tail) (j:=0) (by omega) h;have h1:=MatR.row (tyS:=tyS) (ty:=ty) (z:=z) (tP:=tP) (bP:=bP) (tC:=tC) (bC:=bC) (n:=n) (m:=m) (tsP:=tsP) (tsC:=tsC) (tail:=tail) (j:=1) (by omega) h;obtain⟨S',e1,e2⟩:=arr_st hR _ h0 h1 (λy hy=>(intsZ_el r.p y hy).1) (gt:=gt) (d:=d) (env:=env) (a:=a) (x:=x) (xs:=xs) (so:=0) (k:=k) (off:=0) (sz:=1) (cap:=cap) (nl:=nl) (v:=.int .i64 v) (v':=.int .i64 v) ha hv rfl (by omega) (by rw[intsZ_len];omega) (nR 1) (by
  have hc:(intsZ r.p)[0+k]'(by rw[intsZ_len];omega)=.int .i64 (r.p[k]):=by simp[intsZ]
  rw[hc];rfl)
 refine⟨S',e1,?_⟩;rw[Nat.zero_add,MatR.setRow (r':={ r with p:=r.p.set k v }) (by omega) h (by simp[rwR,intsZ,List.map_set])]at e2;exact e2
theorem MatR.stC {i:Nat}{r:Rw}(h:rows[i]? = some r){gt:GT}{d:Option Nat}{env:Env}{a x:DOpd}{cap:Option Nat}{nl:Bool}{xs:List AV}{k:Nat}{v:Int}(hx:xs.length=r.c.length)(ha:loc env a=some (.el 1 ⟨some (r.tc,r.tc),0,cap,nl⟩ xs k 0))(hv:opd env x=some (.int .i64 v))(hk:k<r.c.length) :
  ∃S',stepO gt d env S (.st 1 a x)=.done (putV d .undef env) S'/\Hs S' (MatR tyS ty z tP bP tC bC n m tsP tsC (rows.set i { r with c:=r.c.set k v }) tail):=by
 have h0:=MatR.row (tyS:=tyS) (ty:=ty) (z:=z) (tP:=tP) (bP:=bP) (tC:=tC) (bC:=bC) (n:=n) (m:=m) (tsP:=tsP) (tsC:=tsC) (tail:=tail) (j:=2) (by omega) h;have h1:=MatR.row (tyS:=tyS) (ty:=ty) (z:=z) (tP:=tP) (bP:=bP) (tC:=tC) (bC:=bC) (n:=n) (m:=m) (tsP:=tsP) (tsC:=tsC) (tail:=tail) (j:=3) (by omega) h;obtain⟨S',e1,e2⟩:=arr_st hR _ h0 h1 (λy hy=>(intsZ_el r.c y hy).1) (gt:=gt) (d:=d) (env:=env) (a:=a) (x:=x) (xs:=xs) (so:=0) (k:=k) (off:=0) (sz:=1) (cap:=cap) (nl:=nl) (v:=.int .i64 v) (v':=.int .i64 v) ha hv rfl (by omega) (by rw[intsZ_len];omega) (nR 1) (by
  have hc:(intsZ r.c)[0+k]'(by rw[intsZ_len];omega)=.int .i64 (r.c[k]):=by simp[intsZ]
  rw[hc];rfl)
 refine⟨S',e1,?_⟩;rw[Nat.zero_add,MatR.setRow (r':={ r with c:=r.c.set k v }) (by omega) h (by simp[rwR,intsZ,List.map_set])]at e2;exact e2
end
end Go.Dn

namespace Go.Dn
open Go Go.Proofs.C1
set_option maxRecDepth 100000
attribute [local irreducible] afterS keepE
def mtL (key:List UInt8)(old fresh:List PT)(i j:Nat):Bool:=mtK key ((old[i]?).getD zPT) ((fresh[j]?).getD zPT)
def takM (M:List (Int×Int))(taken:List Nat):Prop:=∀i:Nat,(getM (i:Int) M).getD 0=if i∈taken then 1 else 0
theorem takM.nil:takM [] []:=λi=>by simp[getM]
theorem takM.add {M:List (Int×Int)}{taken:List Nat}(h:takM M taken)(i:Nat):takM (putM (i:Int) 1 M) (taken++[i]):=λk=>by
 rw[getM_put];by_cases e:(k:Int)=i
 ·rw[if_pos e];have:k=i:=by omega
  simp[this]
 ·rw[if_neg e,h k];have:k≠i:=by omega
  simp[this]
theorem sx_lkpV {κ:Type}[DecidableEq κ]{ek:EqK}{kv:κ->AV}(hk:KeyOK ek kv){gt:GT}{d:Option Nat}{env:Env}{S:St}{R:List Rs}{m k:DOpd}{id:Nat}{l:List (κ×Int)}{s:κ}{v:Int}(hR:Hs S R)(i:Nat)(hi:R[i]? = some (.mp id (mapE kv l)))(hm:opd env m=some (.map id))(hkk:opd env k=some (kv s))(hv:(getM s l).getD 0=v) :
  stepO gt d env S (.lkp ek (.int .i64 0) m k false)=.done (putV d (.int .i64 v) env) S:=by
 subst hv;exact sx_lkpM hk hR i hi hm hkk
section
variable {gt:GT}{C:CallT}
theorem r_mpeD {κ:Type}[DecidableEq κ]{ek:EqK}{kv:κ->AV}(hk:KeyOK ek kv){d:Option Nat}{env:Env}{S:St}{R:List Rs}{m k:DOpd}{id:Nat}{l:List (κ×Int)}{s:κ}{v:Int}{gd:Option (Nat×Bool)}{lo:Option Nat}{K:Env->St->Prop}{Q:Ex->Env->St->Prop}(hR:Hs S R)(i:Nat)(hi:R[i]? = some (.mp id (mapE kv l)))
  (hg:Gd env gd) (hm:opd env m=some (.map id)) (hkk:opd env k=some (kv s)) (hv:(getM s l).getD 0=v)
  (next:∀(p:Nat) (S':St),Hs S' (R.set i (.mp id (mapE kv (putM s v l))))->(putM s v l)[p]? = some (s,v)->(∀u,(putM s v l).set p (s,u)=putM s u l)->K (putV d (.tup [.int .i64 v,.int .i64 p]) env) S') :
  afterS C d env S K Q (stepD gt (⟨d,.mpe ek (.int .i64 0) m k,gd⟩,lo) env S):=by
 obtain⟨p,S',h1,h2,h3,h4⟩:=r_mpeM hk (gt:=gt) (d:=d) hR i hi hm hkk;rw[hv]at h1 h2 h3 h4;exact st_anyD hg rfl rfl h1 (next p S' h2 h3 h4)
abbrev E_key (old fresh:List PT)(key:List UInt8)(t c:Nat)(L:List Int)(j:Int):Env :=
 [(0,.val (.sl 4 stat (encTs old))),(2,.val (.str key)),(7,.val (.map 0)),(8,.val (.sl 1 ⟨some (t,t),0,some c,false⟩ (intsZ L))),(22,.val (.sl 4 stat (encTs fresh))),(23,.val (.int .i64 (encTs fresh).length)),(24,.val (.int .i64 j))]
abbrev E_key2 (old fresh:List PT)(key:List UInt8)(t c:Nat)(L:List Int)(j:Int)(a:List AV)(has:Bool)(from_ i:Int):Env :=
 [(0,.val (.sl 4 stat (encTs old))),(2,.val (.str key)),(7,.val (.map 0)),(8,.val (.sl 1 ⟨some (t,t),0,some c,false⟩ (intsZ L))),(11,.box a),(12,.val (.bool has)),(13,.val (.int .i64 from_)),(22,.val (.sl 4 stat (encTs fresh))),(23,.val (.int .i64 (encTs fresh).length)),(24,.val (.int .i64 j)),
  (34,.val (.sl 4 stat (encTs old))),(35,.val (.int .i64 (encTs old).length)),(36,.val (.int .i64 i))]
set_option maxHeartbeats 16000000 in
theorem key13_wp (hm:MonoC C){old fresh:List PT}{key:List UInt8}(hlo:old.length<1099511627776)(hl:fresh.length<1099511627776)
  (hko:∀t∈old,PF C 30 [encT t,.str key] (.tup [encT (keyRaw t key).1,.bool (keyRaw t key).2])) (hkf:∀t∈fresh,PF C 30 [encT t,.str key] (.tup [encT (keyRaw t key).1,.bool (keyRaw t key).2]))
  (hsm:∀o∈old,∀f∈fresh,PF C 31 [encT (keyRaw f key).1,encT (keyRaw o key).1] (.bool (sameB (keyRaw f key).1 (keyRaw o key).1))) :
  wpF gt C F16 [.sl 4 stat (encTs old),.sl 4 stat (encTs fresh),.str key] St.init (Ret (.sl 1 stat (intsZ (keyP old.length (mtL key old fresh) 0 fresh.length [])))):=by
 have lo:=encTs_len old;have lf:=encTs_len fresh;cases fresh with
 | nil =>
  refine⟨rfl,?_⟩;refine goW ?_;refine loop_rule hm (α:=Unit) (λ_ env S'=>env=[(0,.val (.sl 4 stat (encTs old))),(2,.val (.str key)),(7,.val (.map 0)),(8,.val (.sl 1 ⟨none,0,some 0,false⟩ [])),(22,.val (.sl 4 stat [])),(23,.val (.int .i64 0)),(24,.val (.int .i64 0))]) (λ_=>0) ?_ (a:=()) rfl;rintro _ env S' rfl;refine goW ?_;exact⟨_,rfl,_,rfl,rdo_nil0⟩
 | cons f0 fr =>
 have hpos:0<(f0::fr).length:=by simp
 generalize f0::fr=fresh at hl lf hpos hkf hsm;refine⟨rfl,?_⟩;have hR:=hs_mkm0;refine goW ?_;refine r_mks (n:=0) (c:=fresh.length) hR trivial rfl (by rw[<-lf];rfl) (Nat.zero_le _) hpos (by omega) (by omega) rfl ?_;intro t b S hS;have hA:=ArZ.of0 hS
 clear hS hR
 refine goW ?_;refine loop_rule hm (α:=Nat) (λj env S'=>∃post L M taken,ArZ S' [.mp 0 (mapE kv1 M)] 3 t b L post/\takM M taken/\L.length=j/\post.length=fresh.length-j/\j<=fresh.length /\
   keyP old.length (mtL key old fresh) 0 fresh.length []=L++keyP old.length (mtL key old fresh) j (fresh.length-j) taken/\env=E_key old fresh key t fresh.length L j) (λj=>fresh.length-j) ?_ (a:=0)
  ⟨_,[],[],[],hA,takM.nil,rfl,by rw[List.length_replicate];omega,Nat.zero_le _,rfl,rfl⟩
 clear hA
 rintro j env S' ⟨post,L,M,taken,hA,hT,hLl,hpl,hj,hp,rfl⟩;have hlz:(intsZ L).length=L.length:=intsZ_len _;refine goW ?_;by_cases c:(j:Int)<(encTs fresh).length
 case neg =>
  rw[dF c];obtain rfl:j=fresh.length:=by omega
  rw[Nat.sub_self,keyP,List.append_nil]at hp;refine goW ?_;exact⟨_,rfl,_,rfl,by rw[hp];exact hA.rdo hlz⟩
 rw[dT c];have hjf:j<fresh.length:=by omega
 have hge:=encTs_get hjf;have hrd:=rdT fresh[j];have hkj:=hkf fresh[j] (List.getElem_mem hjf);have hsj:=λo ho=>hsm o ho fresh[j] (List.getElem_mem hjf);have hmt:∀i,(h:i<old.length)->mtL key old fresh i j=(((keyRaw fresh[j] key).2 == (keyRaw old[i] key).2) && (!(keyRaw fresh[j] key).2 || sameB (keyRaw fresh[j] key).1 (keyRaw old[i] key).1)):=λi h=>by
  unfold mtL mtK;rw[gE h,gE hjf];rfl
 rw[show fresh.length-j=(fresh.length-(j+1))+1 by omega,keyP]at hp;obtain⟨_,_,_,_,he⟩:=encT_agg fresh[j];rw[he]at hge hrd hkj;generalize (keyRaw fresh[j] key).2=has at hkj hmt;generalize (keyRaw fresh[j] key).1=ka at hkj hmt hsj;obtain⟨_,_,_,_,hea⟩:=encT_agg ka;rw[hea]at hkj hsj;refine goW ?_;refine step_ruleO (sx_ia (k:=j) rfl rfl (by omega)) (goW ?_);refine step_ruleO (sx_ldEl (agg:=true) rfl rfl hge hrd) (goW ?_);refine call_pf hm (by rfl) hkj (goW ?_);refine loop_rule hm (α:=Nat) (λi env S'=>∃M from_,ArZ S' [.mp 0 (mapE kv1 M)] 3 t b L post/\i<=old.length/\env=E_key2 old fresh key t fresh.length L j _ has from_ i /\
   ((from_=-1/\pickK (λi=>mtL key old fresh i j) taken i=none/\takM M taken)\/∃q:Nat,from_=q/\pickK (λi=>mtL key old fresh i j) taken i=some q/\takM M (taken++[q]))) (λi=>old.length-i) ?_ (a:=0)
  ⟨M,-1,hA,Nat.zero_le _,rfl,.inl ⟨rfl,rfl,hT⟩⟩
 clear hT hA
 rintro i env S' ⟨M,from_,hA,hi,rfl,hq⟩;refine goW ?_;by_cases c2:(i:Int)<(encTs old).length
 case neg =>
  rw[dF c2];obtain rfl:i=old.length:=by omega
  have hend:∃taken' v,from_=v/\takM M taken'/\keyP old.length (mtL key old fresh) 0 fresh.length []=(L++[v])++keyP old.length (mtL key old fresh) (j+1) (fresh.length-(j+1)) taken':=by
   rcases hq with⟨rfl,hq,hT⟩ | ⟨q,rfl,hq,hT⟩
   ·rw[hq]at hp;exact⟨taken,-1,rfl,hT,by rw[hp,aA];rfl⟩
   ·rw[hq]at hp;exact⟨taken++[q],q,rfl,hT,by rw[hp,aA];rfl⟩
  obtain⟨taken',v,rfl,hT,hp'⟩:=hend;refine goW ?_;obtain⟨hA,hsrc⟩:=Hs.bldT hA 3 1;refine st_runP (ArZ.app hA rfl hlz rfl (hsrc _ _ _) (by omega) (by omega) (by omega)) trivial ?_;intro S2 hA2;refine goW ?_;rw[wrNat (by omega)]
  clear hq hp
  exact⟨j+1,⟨_,_,M,taken',hA2,hT,by simp[hLl],by simp;omega,by omega,hp',rfl⟩,by omega⟩
 rw[dT c2];have hio:i<old.length:=by omega
 have hgi:=encTs_get hio;have hri:=rdT old[i];have hki:=hko old[i] (List.getElem_mem hio);have hsi:=hsj old[i] (List.getElem_mem hio);have hmi:=hmt i hio;have hst:=pickK_step (λi=>mtL key old fresh i j) taken i;simp only[hmi]at hst
 clear hmi hmt hsj hsm hkf hko
 obtain⟨_,_,_,_,he2⟩:=encT_agg old[i];rw[he2]at hgi hri hki;generalize (keyRaw old[i] key).2=is at hki hst;generalize (keyRaw old[i] key).1=kb at hki hst hsi;obtain⟨_,_,_,_,heb⟩:=encT_agg kb;rw[heb]at hki hsi;generalize sameB ka kb=sb at hsi hst;refine goW ?_;refine step_ruleO (sx_ia (k:=i) rfl rfl (by omega)) (goW ?_);refine step_ruleO (sx_ldEl (agg:=true) rfl rfl hgi hri) (goW ?_);refine call_pf hm (by rfl) hki ?_;have nxt:∀(f2:Int) (M2:List (Int×Int)) (S2:St),ArZ S2 [.mp 0 (mapE kv1 M2)] 3 t b L post->((f2=-1/\pickK (λi=>mtL key old fresh i j) taken (i+1)=none/\takM M2 taken)\/∃q:Nat,f2=q/\pickK (λi=>mtL key old fresh i j) taken (i+1)=some q/\takM M2 (taken++[q])) ->
   ∃b_1:Nat,(∃M3 f3,ArZ S2 [.mp 0 (mapE kv1 M3)] 3 t b L post/\b_1<=old.length/\E_key2 old fresh key t fresh.length L j (encT ka).cells has f2 ((i+1:Nat):Int)=E_key2 old fresh key t fresh.length L j (encT ka).cells has f3 b_1 /\
    ((f3=-1/\pickK (λi=>mtL key old fresh i j) taken b_1=none/\takM M3 taken)\/∃q:Nat,f3=q/\pickK (λi=>mtL key old fresh i j) taken b_1=some q/\takM M3 (taken++[q])))/\old.length-b_1<old.length-i:=λf2 M2 S2 h1 h2 =>
  ⟨i+1,⟨M2,f2,h1,by omega,rfl,h2⟩,by clear hq h2 hp;omega⟩
 rw[hea]at nxt
 clear hp
 rcases hq with⟨rfl,hq,hT⟩ | ⟨q,rfl,hq,hT⟩
 case inr =>
  rw[hq]at hst;refine goW ?_;rw[wrNat (by omega)];exact nxt _ M _ hA (.inr ⟨q,rfl,hst,hT⟩)
 rw[hq]at hst;simp only at hst;have pick:(i ∉ taken/\((has == is) && (!has || sb))=true)->pickK (λi=>mtL key old fresh i j) taken (i+1)=some i:=λh=>by rw[hst,if_pos h]
 have lone:¬(i ∉ taken/\((has == is) && (!has || sb))=true)->pickK (λi=>mtL key old fresh i j) taken (i+1)=none:=λh=>by rw[hst,if_neg h]
 clear hst hq
 have hTi:=hT i;by_cases ht:i∈taken
 ·rw[if_pos ht]at hTi;have hl:=lone λh=>h.1 ht;refine goW ?_;refine st_any (by exact rfl) (sx_lkpV keyOK1 hA 0 rfl rfl rfl hTi) (goW ?_);rw[wrNat (by omega)];exact nxt _ M _ hA (.inl ⟨rfl,hl,hT⟩)
 rw[if_neg ht]at hTi;refine goW ?_;refine st_any (by exact rfl) (sx_lkpV keyOK1 hA 0 rfl rfl rfl hTi) ?_;cases has with
 | false =>
  cases is with
  | true =>
   have hl:=lone λh=>by simp at h
   refine goW ?_;rw[wrNat (by omega)];exact nxt _ M _ hA (.inl ⟨rfl,hl,hT⟩)
  | false =>
   have hl:=pick ⟨ht,by simp⟩;refine goW ?_;refine step_ruleDO rfl rfl (sx_lkpV keyOK1 hA 0 rfl rfl rfl hTi) (goW ?_);refine r_mpeD keyOK1 hA 0 rfl trivial rfl rfl hTi ?_;intro p S2 hR2 hp1 hp2;refine⟨stab_at rfl rfl trivial (sx_lkpV keyOK1 hR2 0 rfl rfl rfl (by rw[getM_put,if_pos rfl];rfl)) rfl beqA_int stab_nil,?_⟩;refine goW ?_;refine st_runPD (r_ensM hR2 0 rfl rfl rfl rfl hp1) trivial rfl rfl ?_;intro S3 hR3;rw[hp2]at hR3;refine goW ?_;rw[wrNat (by omega)];exact nxt _ _ _ hR3 (.inr ⟨i,rfl,hl,hT.add i⟩)
 | true =>
 cases is with
 | false =>
  have hl:=lone λh=>by simp at h
  refine goW ?_;rw[wrNat (by omega)];exact nxt _ M _ hA (.inl ⟨rfl,hl,hT⟩)
 | true =>
  refine goW ?_;refine call_pf hm (by rfl) hsi ?_;cases sb with
  | false =>
   have hl:=lone λh=>by simp at h
   refine goW ?_;rw[wrNat (by omega)];exact nxt _ M _ hA (.inl ⟨rfl,hl,hT⟩)
  | true =>
   have hl:=pick ⟨ht,by simp⟩;refine goW ?_;refine step_ruleDO rfl rfl (sx_lkpV keyOK1 hA 0 rfl rfl rfl hTi) (goW ?_);refine r_mpeD keyOK1 hA 0 rfl trivial rfl rfl hTi ?_;intro p S2 hR2 hp1 hp2;refine⟨stab_at rfl rfl trivial (sx_lkpV keyOK1 hR2 0 rfl rfl rfl (by rw[getM_put,if_pos rfl];rfl)) rfl beqA_int stab_nil,?_⟩;refine goW ?_;refine st_runPD (r_ensM hR2 0 rfl rfl rfl rfl hp1) trivial rfl rfl ?_;intro S3 hR3;rw[hp2]at hR3;refine goW ?_;rw[wrNat (by omega)];exact nxt _ _ _ hR3 (.inr ⟨i,rfl,hl,hT.add i⟩)
end

def eqL (old fresh:List PT)(i j:Nat):Bool:=sameB ((old[i]?).getD zPT) ((fresh[j]?).getD zPT)
theorem eqL_at {old fresh:List PT}{i j:Nat}(hi:i<old.length)(hj:j<fresh.length):eqL old fresh i j=sameB old[i] fresh[j]:=by
 unfold eqL;rw[gE hi,gE hj];rfl
section
variable {gt:GT}{C:CallT}
theorem sx_ldTb {d:Option Nat}{env:Env}{S:St}{a:DOpd}{id off sz:Nat}{g:Bool}{ty:TypeId}{cs:List AV}{v:AV}(hb:lk S.boxes id=some (some (ty,cs)))(ha:loc env a=some (.hp id off))(hm:(cut cs off sz).bind (mkv g)=some v) :
  stepO gt d env S (.ld g sz a)=.done (putV d v env) S:=by
 simp only[stepO,ha,ldL,ldC,hb];cases hc:cut cs off sz with
 | none=>rw[hc]at hm;cases hm
 | some c=>rw[hc]at hm;simp only[Option.bind_some]at hm;simp only[hm,SR.val]
theorem min_bif (p q:Int):(bif decide (q<p) then q else p)=min p q:=by
 by_cases h:q<p
 ·rw[dT h,cond_true];omega
 ·rw[dF h,cond_false];omega
abbrev TbC (old fresh:List PT)(mid:Nat):List AV:=[.sl 4 stat (encTs old),.sl 4 stat (encTs fresh),.map mid]
abbrev TbS (S:St)(id mid:Nat)(old fresh:List PT):Prop:=lk S.boxes id=some (some (56,TbC old fresh mid))
set_option maxHeartbeats 4000000 in
theorem pair13_wp (hm:MonoC C){S:St}{id mid:Nat}{old fresh:List PT}{i j:Nat}(hi:i<old.length)(hj:j<fresh.length)(hlo:old.length<1099511627776)(hl:fresh.length<1099511627776)(hb:TbS S id mid old fresh)
  (hsm:PF C 31 [encT old[i],encT fresh[j]] (.bool (sameB old[i] fresh[j]))) :
  wpF gt C F28 [.ptr id 0,.int .i64 ((i+1:Nat):Int),.int .i64 ((j+1:Nat):Int)] S λr S'=>r=.ret (.int .i64 (prP (eqL old fresh i j)))/\S'=S:=by
 have lo:=encTs_len old;have lf:=encTs_len fresh;have hgi:=encTs_get hi;have hgj:=encTs_get hj;have hri:=rdT old[i];have hrj:=rdT fresh[j];rw[eqL_at hi hj];obtain⟨_,_,_,_,he⟩:=encT_agg old[i];obtain⟨_,_,_,_,he2⟩:=encT_agg fresh[j];rw[he]at hgi hri hsm;rw[he2]at hgj hrj hsm;generalize sameB old[i] fresh[j]=sb at hsm;refine⟨rfl,?_⟩;refine goW ?_;refine step_ruleDO rfl rfl (sx_ldTb (v:=.sl 4 stat (encTs old)) hb rfl rfl) (goW ?_);rw[wr64 (n:=((i+1:Nat):Int)-1) (by omega) (by omega),show ((i+1:Nat):Int)-1=(i:Int) by omega];refine step_ruleDO rfl rfl (sx_ia (k:=i) rfl rfl (by omega)) (goW ?_);refine step_ruleDO rfl rfl (sx_ldEl (agg:=true) rfl rfl hgi hri) (goW ?_);refine step_ruleDO rfl rfl (sx_ldTb (v:=.sl 4 stat (encTs fresh)) hb rfl rfl) (goW ?_);rw[wr64 (n:=((j+1:Nat):Int)-1) (by omega) (by omega),show ((j+1:Nat):Int)-1=(j:Int) by omega];refine step_ruleDO rfl rfl (sx_ia (k:=j) rfl rfl (by omega)) (goW ?_);refine step_ruleDO rfl rfl (sx_ldEl (agg:=true) rfl rfl hgj hrj) (goW ?_);refine call_pfD hm (by rfl) hsm ?_;cases sb with
 | true =>
  refine goW ?_;exact⟨_,rfl,rfl,rfl⟩
 | false =>
  refine goW ?_;exact⟨_,rfl,rfl,rfl⟩
abbrev R_tb (R:List Rs)(mid id:Nat)(old fresh:List PT)(M:List ((Int×Int)×Int)):List Rs:=R++[.mp mid (mapE kv2 M),.bx id 56 (TbC old fresh mid)]
theorem R_tb.mp {R:List Rs}{mid id:Nat}{old fresh:List PT}{M:List ((Int×Int)×Int)}:(R_tb R mid id old fresh M)[R.length]? = some (.mp mid (mapE kv2 M)):=by simp[R_tb]
theorem R_tb.bx {R:List Rs}{mid id:Nat}{old fresh:List PT}{M:List ((Int×Int)×Int)}:(R_tb R mid id old fresh M)[R.length+1]? = some (.bx id 56 (TbC old fresh mid)):=by simp[R_tb]
theorem R_tb.set {R:List Rs}{mid id:Nat}{old fresh:List PT}{M M':List ((Int×Int)×Int)}:(R_tb R mid id old fresh M).set R.length (.mp mid (mapE kv2 M'))=R_tb R mid id old fresh M':=by simp[R_tb]
theorem R_tb.box {S:St}{R:List Rs}{mid id:Nat}{old fresh:List PT}{M:List ((Int×Int)×Int)}(h:Hs S (R_tb R mid id old fresh M)):TbS S id mid old fresh:=(h.ok _ _ R_tb.bx).2
abbrev E_fill (id n:Nat)(i:Int):Env:=[(0,.val (.ptr id 0)),(9,.val (.int .i64 ((n+1:Nat):Int))),(10,.val (.int .i64 i))]
abbrev E_fill2 (id n m:Nat)(i j:Int):Env:=[(0,.val (.ptr id 0)),(2,.val (.int .i64 i)),(9,.val (.int .i64 ((n+1:Nat):Int))),(10,.val (.int .i64 i)),(18,.val (.int .i64 ((m+1:Nat):Int))),(19,.val (.int .i64 j))]
def Filled (eq:Nat->Nat->Bool)(M:List ((Int×Int)×Int))(m i j:Nat):Prop:=∀a b:Nat,(a<i/\b<=m\/a=i/\b<j)->(getM ((a:Int),(b:Int)) M).getD 0=(costP eq a b:Int)
theorem Filled.put {eq:Nat->Nat->Bool}{M:List ((Int×Int)×Int)}{m i j:Nat}{v:Int}(h:Filled eq M m i j)(hv:v=(costP eq i j:Int)):Filled eq (putM ((i:Int),(j:Int)) v M) m i (j+1):=λa b hab=>by
 rw[getM_put];by_cases e:((a:Int),(b:Int))=((i:Int),(j:Int))
 ·rw[if_pos e];simp only[Prod.mk.injEq]at e;obtain⟨rfl,rfl⟩:a=i/\b=j:=by omega
  exact hv
 ·rw[if_neg e];simp only[Prod.mk.injEq]at e;exact h a b (by omega)
set_option maxHeartbeats 16000000 in
theorem fill13_wp (hm:MonoC C){S:St}{R:List Rs}{id mid:Nat}{old fresh:List PT}(hlo:old.length<1099511627776)(hl:fresh.length<1099511627776)(hR:Hs S (R_tb R mid id old fresh []))
  (hpr:∀(S:St) (i j:Nat),i<old.length->j<fresh.length->TbS S id mid old fresh->C 28 [.ptr id 0,.int .i64 ((i+1:Nat):Int),.int .i64 ((j+1:Nat):Int)] S λr S'=>r=.ret (.int .i64 (prP (eqL old fresh i j)))/\S'=S) :
  wpF gt C F27 [.ptr id 0] S λr S'=>r=.ret (.tup [])/\∃M,Hs S' (R_tb R mid id old fresh M)/\∀a b:Nat,a<=old.length->b<=fresh.length->(getM ((a:Int),(b:Int)) M).getD 0=(costP (eqL old fresh) a b:Int):=by
 have lo:=encTs_len old;have lf:=encTs_len fresh;have hb:=R_tb.box hR;refine⟨rfl,?_⟩;refine goW ?_;refine step_ruleO (sx_ldTb (v:=.sl 4 stat (encTs old)) hb rfl rfl) (goW ?_);rw[lo,wrNat (by omega)];refine loop_rule hm (α:=Nat) (λi env S'=>∃M,Hs S' (R_tb R mid id old fresh M)/\Filled (eqL old fresh) M fresh.length i 0/\i<=old.length+1/\env=E_fill id old.length i) (λi=>old.length+1-i) ?_ (a:=0)
  ⟨[],hR,λa b h=>by omega,Nat.zero_le _,rfl⟩
 clear hR hb
 rintro i env S' ⟨M,hR,hF,hi,rfl⟩;have hb:=R_tb.box hR;refine goW ?_;by_cases c:(i:Int)<((old.length+1:Nat):Int)
 case neg =>
  rw[dF c];refine goW ?_;exact⟨_,rfl,rfl,M,hR,λa b ha hb=>hF a b (by omega)⟩
 rw[dT c];refine goW ?_;refine step_ruleO (sx_ldTb (v:=.sl 4 stat (encTs fresh)) hb rfl rfl) (goW ?_);rw[lf,wrNat (by omega)];refine loop_rule hm (α:=Nat) (λj env S'=>∃M,Hs S' (R_tb R mid id old fresh M)/\Filled (eqL old fresh) M fresh.length i j/\j<=fresh.length+1/\env=E_fill2 id old.length fresh.length i j) (λj=>fresh.length+1-j) ?_ (a:=0)
  ⟨M,hR,hF,Nat.zero_le _,rfl⟩
 clear hR hb hF
 rintro j env S' ⟨M,hR,hF,hj,rfl⟩;have hb:=R_tb.box hR;refine goW ?_;by_cases c2:(j:Int)<((fresh.length+1:Nat):Int)
 case neg =>
  rw[dF c2];refine goW ?_;rw[wrNat (by omega)];exact⟨i+1,⟨M,hR,λa b h=>hF a b (by omega),by omega,rfl⟩,by omega⟩
 rw[dT c2];have fin:∀(v:Int) (S2:St),v=(costP (eqL old fresh) i j:Int)->Hs S2 ((R_tb R mid id old fresh M).set R.length (.mp mid (mapE kv2 (putM ((i:Int),(j:Int)) v M)))) ->
   ∃b_1:Nat,(∃M,Hs S2 (R_tb R mid id old fresh M)/\Filled (eqL old fresh) M fresh.length i b_1/\b_1<=fresh.length+1/\E_fill2 id old.length fresh.length i ((j+1:Nat):Int)=E_fill2 id old.length fresh.length i b_1)/\fresh.length+1-b_1<fresh.length+1-j:=λv S2 hv h=>by
  rw[R_tb.set]at h;exact⟨j+1,⟨_,h,hF.put hv,by omega,rfl⟩,by omega⟩
 have border:i=0\/j=0->(2:Int)*((i:Int)+j)=(costP (eqL old fresh) i j:Int):=λh=>by
  rcases h with rfl | rfl
  ·rw[costP_0j];omega
  ·rw[costP_i0];omega
 refine goW ?_;by_cases ci:(i:Int)=0
 ·have hbo:=border (.inl (by omega));rw[eqI_true ci];refine goW ?_;refine step_ruleO (sx_ldTb (v:=.map mid) hb rfl rfl) (goW ?_);rw[wr64 (n:=(i:Int)+j) (by omega) (by omega),wr64 (n:=(2:Int)*((i:Int)+j)) (by omega) (by omega)];refine st_runP (r_mupM keyOK2 (s:=((i:Int),(j:Int))) hR _ R_tb.mp rfl rfl rfl) trivial ?_;intro S2 hR2;refine goW ?_;rw[wrNat (by omega)];exact fin _ S2 hbo hR2
 rw[eqI_false ci];refine goW ?_;by_cases cj:(j:Int)=0
 ·have hbo:=border (.inr (by omega));rw[eqI_true cj];refine goW ?_;refine step_ruleO (sx_ldTb (v:=.map mid) hb rfl rfl) (goW ?_);rw[wr64 (n:=(i:Int)+j) (by omega) (by omega),wr64 (n:=(2:Int)*((i:Int)+j)) (by omega) (by omega)];refine st_runP (r_mupM keyOK2 (s:=((i:Int),(j:Int))) hR _ R_tb.mp rfl rfl rfl) trivial ?_;intro S2 hR2;refine goW ?_;rw[wrNat (by omega)];exact fin _ S2 hbo hR2
 rw[eqI_false cj]
 clear border
 obtain⟨i,rfl⟩:∃k,i=k+1:=⟨i-1,by omega⟩
 obtain⟨j,rfl⟩:∃k,j=k+1:=⟨j-1,by omega⟩
 have f1:=hF i j (by omega);have f2:=hF i (j+1) (by omega);have f3:=hF (i+1) j (by omega);have hpr:=hpr S' i j (by omega) (by omega) hb;have hc:=costP_ss (eq:=eqL old fresh) i j;have b1:=costP_le (eq:=eqL old fresh) i j;have b2:=costP_le (eq:=eqL old fresh) i (j+1);have b3:=costP_le (eq:=eqL old fresh) (i+1) j;have b4:prP (eqL old fresh i j)<=3:=by unfold prP;split<;>omega
 generalize costP (eqL old fresh) i j=c1 at f1 hc b1;generalize costP (eqL old fresh) i (j+1)=c2 at f2 hc b2;generalize costP (eqL old fresh) (i+1) j=c3 at f3 hc b3;generalize prP (eqL old fresh i j)=pr at hpr hc b4;have e1:∀k:Nat,((k+1:Nat):Int)-1=k:=λk=>by omega
 refine goW ?_;refine step_ruleDO rfl rfl (sx_ldTb (v:=.map mid) hb rfl rfl) (goW ?_);refine step_ruleDO rfl rfl (sx_ldTb (v:=.map mid) hb rfl rfl) (goW ?_);rw[wr64 (n:=((i+1:Nat):Int)-1) (by omega) (by omega),wr64 (n:=((j+1:Nat):Int)-1) (by omega) (by omega),e1 i,e1 j];refine step_ruleDO rfl rfl (sx_lkpV keyOK2 (s:=((i:Int),(j:Int))) hR _ R_tb.mp rfl rfl f1) (goW ?_);refine step_ruleDO rfl rfl (sx_ldTb (v:=.map mid) hb rfl rfl) (goW ?_);rw[wr64 (n:=((i+1:Nat):Int)-1) (by omega) (by omega),e1 i];refine step_ruleDO rfl rfl (sx_lkpV keyOK2 (s:=((i:Int),((j+1:Nat):Int))) hR _ R_tb.mp rfl rfl f2) (goW ?_);refine step_ruleDO rfl rfl (sx_ldTb (v:=.map mid) hb rfl rfl) (goW ?_);rw[wr64 (n:=((j+1:Nat):Int)-1) (by omega) (by omega),e1 j];refine step_ruleDO rfl rfl (sx_lkpV keyOK2 (s:=(((i+1:Nat):Int),(j:Int))) hR _ R_tb.mp rfl rfl f3) (goW ?_);refine call_ruleD (by rfl) (hm _ _ _ _ _ hpr ?_);rintro r S2 ⟨rfl,hS⟩;subst hS;refine⟨(stab_at rfl rfl trivial (sx_ldTb (v:=.map mid) hb rfl rfl) rfl beqA_map (stab_at rfl rfl trivial (sx_ldTb (v:=.map mid) hb rfl rfl) rfl beqA_map (stab_at rfl rfl trivial (sx_lkpV keyOK2 (s:=((i:Int),(j:Int))) hR _ R_tb.mp rfl rfl f1) rfl beqA_int (stab_at rfl rfl trivial (sx_ldTb (v:=.map mid) hb rfl rfl) rfl beqA_map (stab_at rfl rfl trivial (sx_lkpV keyOK2 (s:=((i:Int),((j+1:Nat):Int))) hR _ R_tb.mp rfl rfl f2) rfl beqA_int (stab_at rfl rfl trivial (sx_ldTb (v:=.map mid) hb rfl rfl) rfl beqA_map (stab_at rfl rfl trivial (sx_lkpV keyOK2 (s:=(((i+1:Nat):Int),(j:Int))) hR _ R_tb.mp rfl rfl f3) rfl beqA_int stab_nil))))))),?_⟩;refine goW ?_;rw[wr64 (n:=(c1:Int)+pr) (by omega) (by omega),wr64 (n:=(c2:Int)+2) (by omega) (by omega),wr64 (n:=(c3:Int)+2) (by omega) (by omega)];refine st_runPD (r_mupM keyOK2 (s:=(((i+1:Nat):Int),((j+1:Nat):Int))) hR _ R_tb.mp rfl rfl rfl) trivial rfl rfl ?_;intro S3 hR3;refine goW ?_;rw[wrNat (by omega)];exact fin _ S3 (by rw[hc,min_bif,min_bif];omega) hR3
end

theorem Hs.newMap {S:St}{R:List Rs}(h:Hs S R):Hs { S with nm:=S.nm+1,maps:=(S.nm,[])::S.maps } (R++[.mp S.nm []]):=by
 refine h.more (S':={ S with nm:=S.nm+1,maps:=(S.nm,[])::S.maps }) (r':=.mp S.nm []) (λt ht=>h.wf t ht) ⟨nR _,nR _,Nat.le_succ _,λ_ _ _=>⟨rfl,rfl⟩,λ_ _ _=>rfl,λ_ _ _ h=>h,λi hi _=>lk_ne _ _ (by omega),λ_ _ _=>rfl⟩ ⟨Nat.lt_succ_self _,lk_same _ _ _⟩ λj s hs=>?_;have:=h.ok j s hs;cases s with
 | mp i es=>intro e;have:=this.1;omega
 | _=>trivial
def bigP (n m:Nat):Prop:=0<n/\65536 / n<m
instance (n m:Nat):Decidable (bigP n m):=inferInstanceAs (Decidable (_/\_))
def encCost (eq:Nat->Nat->Bool)(n m:Nat):AV:=if bigP n m then .tup [.sl 1 stat [],.int .i64 0,.int .i64 52] else .tup [.sl 1 stat (intsZ (fromP eq n m)),.int .i64 (costP eq n m),.int .i64 0]
section
variable {gt:GT}{C:CallT}
theorem sx_quo {d:Option Nat}{env:Env}{S:St}{x y:DOpd}{a n:Nat}(hx:opd env x=some (.int .i64 (a:Int)))(hy:opd env y=some (.int .i64 (n:Int)))(h:0<n)(ha:a<4611686018427387904):stepO gt d env S (.bin .quo none x y)=.done (putV d (.int .i64 ((a / n:Nat):Int)) env) S:=by
 have e:(a:Int).tdiv (n:Int)=((a / n:Nat):Int):=by rw[Int.ofNat_tdiv]
 have hle:a / n<=a:=Nat.div_le_self _ _;simp only[stepO,hx,hy,binV,binI,eqI_false (show ¬(n:Int)=0 by omega),if_true,cond_false,SR.val,e];generalize a / n=q at *;rw[wr64 (by omega) (by omega)]
abbrev E_c0 (old fresh:List PT)(t m:Nat)(i:Int):Env:=[(0,.val (.sl 4 stat (encTs old))),(1,.val (.sl 4 stat (encTs fresh))),(7,.val (.sl 1 ⟨some (t,t),0,some m,false⟩ (List.replicate m (.int .i64 0)))),(28,.val (.int .i64 m)),(29,.val (.int .i64 i))]
abbrev E_cb (old fresh:List PT)(t m id:Nat)(i j:Int):Env:=[(0,.val (.sl 4 stat (encTs old))),(1,.val (.sl 4 stat (encTs fresh))),(7,.val (.sl 1 ⟨some (t,t),0,some m,false⟩ (List.replicate m (.int .i64 0)))),(9,.val (.ptr id 0)),(10,.val (.int .i64 i)),(11,.val (.int .i64 j))]
set_option maxHeartbeats 16000000 in
theorem cost13_wp (hm:MonoC C){old fresh:List PT}(hlo:old.length<1099511627776)(hl:fresh.length<1099511627776)
  (hpr:∀(S:St) (id mid i j:Nat),i<old.length->j<fresh.length->TbS S id mid old fresh->C 28 [.ptr id 0,.int .i64 ((i+1:Nat):Int),.int .i64 ((j+1:Nat):Int)] S λr S'=>r=.ret (.int .i64 (prP (eqL old fresh i j)))/\S'=S)
  (hfl:∀(S:St) (R:List Rs) (id mid:Nat),Hs S (R_tb R mid id old fresh [])->C 27 [.ptr id 0] S λr S'=>r=.ret (.tup [])/\∃M,Hs S' (R_tb R mid id old fresh M)/\∀a b:Nat,a<=old.length->b<=fresh.length->(getM ((a:Int),(b:Int)) M).getD 0=(costP (eqL old fresh) a b:Int)) :
  wpF gt C F11 [.sl 4 stat (encTs old),.sl 4 stat (encTs fresh)] St.init (Ret (encCost (eqL old fresh) old.length fresh.length)):=by
 have lo:=encTs_len old;have lf:=encTs_len fresh;by_cases hbig:bigP old.length fresh.length
 ·have hret:encCost (eqL old fresh) old.length fresh.length=.tup [.sl 1 stat [],.int .i64 0,.int .i64 52]:=by unfold encCost;rw[if_pos hbig]
  rw[hret];obtain⟨h1,h2⟩:=hbig;refine⟨rfl,?_⟩;refine goW ?_;rw[dT (show ((encTs old).length:Int) > 0 by omega)];refine goW ?_;refine st_any (by exact rfl) (sx_quo (a:=65536) (n:=(encTs old).length) rfl rfl (by omega) (by omega)) ?_;rw[lo]at *;refine goW ?_;generalize 65536 / old.length=q at *;rw[lf,dT (show (fresh.length:Int) > (q:Int) by omega)];refine goW ?_;exact⟨_,rfl,ret_tup3 (x:=.sl 1 ⟨none,0,some 0,true⟩ []) rdo_nil0 trivial trivial⟩
 have hret:encCost (eqL old fresh) old.length fresh.length=.tup [.sl 1 stat (intsZ (fromP (eqL old fresh) old.length fresh.length)),.int .i64 (costP (eqL old fresh) old.length fresh.length),.int .i64 0]:=by unfold encCost;rw[if_neg hbig]
 rw[hret]
 clear hret
 have hq:0<old.length->fresh.length<=65536 / old.length:=λh=>by
  rcases Nat.lt_or_ge (65536 / old.length) fresh.length with h2 | h2
  ·exact absurd ⟨h,h2⟩ hbig
  ·exact h2
 clear hbig
 have hc0:=costP_i0 (eq:=eqL old fresh);by_cases n0:old.length=0
 ·refine⟨rfl,?_⟩;refine goW ?_;rw[dF (show ¬((encTs old).length:Int) > 0 by omega)];refine goW ?_;by_cases m0:fresh.length=0
  ·obtain rfl:=nL m0;obtain rfl:=nL n0;refine goW ?_;refine loop_rule hm (α:=Unit) (λ_ env S'=>env=[(0,.val (.sl 4 stat [])),(1,.val (.sl 4 stat [])),(7,.val (.sl 1 ⟨none,0,some 0,false⟩ [])),(28,.val (.int .i64 0)),(29,.val (.int .i64 0))]) (λ_=>0) ?_ (a:=()) rfl;rintro _ env S' rfl;refine goW ?_;exact⟨_,rfl,ret_tup3 (x:=.sl 1 ⟨none,0,some 0,false⟩ []) rdo_nil0 trivial trivial⟩
  have hpos:0<fresh.length:=by omega
  refine r_mks (n:=fresh.length) (c:=fresh.length) Hs.init trivial (by rw[<-lf];rfl) (by rw[<-lf];rfl) (nR _) hpos (by omega) (by omega) rfl ?_;intro t b S hS;have hA:=ArZ.ofC hS
  clear hS
  refine goW ?_;rw[List.length_replicate];refine loop_rule hm (α:=Nat) (λi env S'=>ArZ S' [] 3 t b (List.replicate i (-1)++List.replicate (fresh.length-i) 0) []/\i<=fresh.length/\env=E_c0 old fresh t fresh.length i) (λi=>fresh.length-i) ?_ (a:=0) ⟨hA,Nat.zero_le _,rfl⟩
  clear hA
  rintro i env S' ⟨hA,hi,rfl⟩;refine goW ?_;by_cases c:(i:Int)<fresh.length
  case pos =>
   rw[dT c];refine goW ?_;refine step_ruleO (sx_ia (k:=i) rfl rfl (by rw[List.length_replicate];omega)) (goW ?_);refine st_runP (ArZ.st hA (k:=i) (v:=-1) (by simp;omega) rfl rfl (by simp;omega)) trivial ?_;intro S2 hA2;refine goW ?_;refine⟨i+1,⟨?_,by omega,by rw[wrNat (by omega)];try rfl⟩,by omega⟩;rw[show fresh.length-i=(fresh.length-(i+1))+1 by omega,List.replicate_succ,set_mid (by simp)]at hA2;rw[List.replicate_succ',aA];exact hA2
  rw[dF c];obtain rfl:i=fresh.length:=by omega
  rw[Nat.sub_self,List.replicate_zero,List.append_nil]at hA;have hlr:(List.replicate fresh.length (AV.int .i64 0)).length=(List.replicate fresh.length (-1:Int)).length:=by simp
  refine goW ?_;rw[eqI_true (show ((encTs old).length:Int)=0 by omega)];refine goW ?_;rw[wr64 (n:=((encTs old).length:Int)+(encTs fresh).length) (by omega) (by omega),wr64 (n:=(2:Int)*(((encTs old).length:Int)+(encTs fresh).length)) (by omega) (by omega)];refine⟨_,rfl,?_⟩;rw[n0,fromP_0,costP_0j,show ((2*fresh.length:Nat):Int)=(2:Int)*(((encTs old).length:Int)+(encTs fresh).length) by omega];exact ret_tup3 (hA.rdo hlr) trivial trivial
 ·have hq:=hq (by omega);refine⟨rfl,?_⟩;refine goW ?_;rw[dT (show ((encTs old).length:Int) > 0 by omega)];refine goW ?_;refine st_any (by exact rfl) (sx_quo (a:=65536) (n:=(encTs old).length) rfl rfl (by omega) (by omega)) ?_;rw[lo];generalize 65536 / old.length=q at *;refine goW ?_;rw[dF (show ¬((encTs fresh).length:Int) > (q:Int) by omega)];refine goW ?_;by_cases m0:fresh.length=0
  ·obtain rfl:=nL m0;refine goW ?_;refine loop_rule hm (α:=Unit) (λ_ env S'=>env=[(0,.val (.sl 4 stat (encTs old))),(1,.val (.sl 4 stat [])),(7,.val (.sl 1 ⟨none,0,some 0,false⟩ [])),(28,.val (.int .i64 0)),(29,.val (.int .i64 0))]) (λ_=>0) ?_ (a:=()) rfl;rintro _ env S' rfl;refine goW ?_;rw[eqI_false (show ¬((encTs old).length:Int)=0 by omega)];refine goW ?_;rw[show ((([]:List AV).length:Nat):Int)=0 from rfl,wr64 (n:=((encTs old).length:Int)+0) (by omega) (by omega),wr64 (n:=(2:Int)*(((encTs old).length:Int)+0)) (by omega) (by omega)];refine⟨_,rfl,?_⟩;rw[lN,fromP_i0,hc0,show ((2*old.length:Nat):Int)=(2:Int)*(((encTs old).length:Int)+0) by omega];exact ret_tup3 (x:=.sl 1 ⟨none,0,some 0,false⟩ []) rdo_nil0 trivial trivial
  have hpos:0<fresh.length:=by omega
  refine r_mks (n:=fresh.length) (c:=fresh.length) Hs.init trivial (by rw[<-lf];rfl) (by rw[<-lf];rfl) (nR _) hpos (by omega) (by omega) rfl ?_;intro t b S hS;have hA:=ArZ.ofC hS
  clear hS
  refine goW ?_;rw[List.length_replicate];refine loop_rule hm (α:=Nat) (λi env S'=>ArZ S' [] 3 t b (List.replicate i (-1)++List.replicate (fresh.length-i) 0) []/\i<=fresh.length/\env=E_c0 old fresh t fresh.length i) (λi=>fresh.length-i) ?_ (a:=0) ⟨hA,Nat.zero_le _,rfl⟩
  clear hA
  rintro i env S' ⟨hA,hi,rfl⟩;refine goW ?_;by_cases c:(i:Int)<fresh.length
  case pos =>
   rw[dT c];refine goW ?_;refine step_ruleO (sx_ia (k:=i) rfl rfl (by rw[List.length_replicate];omega)) (goW ?_);refine st_runP (ArZ.st hA (k:=i) (v:=-1) (by simp;omega) rfl rfl (by simp;omega)) trivial ?_;intro S2 hA2;refine goW ?_;refine⟨i+1,⟨?_,by omega,by rw[wrNat (by omega)];try rfl⟩,by omega⟩;rw[show fresh.length-i=(fresh.length-(i+1))+1 by omega,List.replicate_succ,set_mid (by simp)]at hA2;rw[List.replicate_succ',aA];exact hA2
  rw[dF c];obtain rfl:i=fresh.length:=by omega
  rw[Nat.sub_self,List.replicate_zero,List.append_nil]at hA;have hlr:(List.replicate fresh.length (AV.int .i64 0)).length=(List.replicate fresh.length (-1:Int)).length:=by simp
  refine goW ?_;rw[eqI_false (show ¬((encTs old).length:Int)=0 by omega)];refine goW ?_;rw[eqI_false (show ¬((encTs fresh).length:Int)=0 by omega)];refine goW ?_;have hT:=(Hs.newMap hA).newBox 56 (TbC old fresh S'.nm)
  clear hlr
  generalize hid:S'.nb=id at hT;generalize hmid:S'.nm=mid at hT;have hT2:=hfl _ [.bx b 3 ((intsZ (List.replicate fresh.length (-1))).flatMap AV.cells++[]),.mk t t b] id mid hT;subst hid;subst hmid;refine call_rule (by rfl) (hm _ _ _ _ _ hT2 ?_)
  clear hT hT2 hA
  generalize S'.nb=id;generalize S'.nm=mid
  clear S'
  rintro r S2 ⟨rfl,M,hT,hM⟩;refine goW ?_;refine loop_rule hm (α:=Nat×Nat) (λa env S'=>∃suf,Hs S' (R_tb [.bx b 3 ((intsZ (List.replicate a.2 (-1)++suf)).flatMap AV.cells++[]),.mk t t b] mid id old fresh M)/\a.1<=old.length/\a.2<=fresh.length/\a.2+suf.length=fresh.length /\
   fromP (eqL old fresh) old.length fresh.length=fromP (eqL old fresh) a.1 a.2++suf/\env=E_cb old fresh t fresh.length id a.1 a.2) (λa=>a.1+a.2) ?_ (a:=(old.length,fresh.length)) ⟨[],by simpa only[List.append_nil] using hT,nR _,nR _,rfl,by rw[List.append_nil],?_⟩
  case refine_2=>simp only[E_cb,lo,lf];try rfl
  clear hT S2
  rintro⟨i,j⟩ env S' ⟨suf,hT,hi,hj,hs,hp,rfl⟩;simp only at hT hi hj hs hp;have hb:=R_tb.box hT;have fin:fromP (eqL old fresh) i j=List.replicate j (-1)->∀{k:Nat},k=0->(Ret (.tup [.sl 1 stat (intsZ (fromP (eqL old fresh) old.length fresh.length)),.int .i64 (costP (eqL old fresh) old.length fresh.length),.int .i64 0])) (.ret (.tup [.sl 1 ⟨some (t,t),0,some fresh.length,false⟩ (List.replicate fresh.length (.int .i64 0)),.int .i64 (costP (eqL old fresh) old.length fresh.length),.int .i64 0])) S':=λe _ _=>by
   refine ret_tup3 ?_ trivial trivial;rw[hp,e];have hT2:ArZ S' [] 3 t b (List.replicate j (-1)++suf) []:=hT.less (λx=>x) (λ_ _ _ _ e=>e) λx hx=>by
    match x,hx with
    | 0,_=>rfl
    | 1,_=>rfl
   exact hT2.rdo (by simp;omega)
  have hfin:=hM old.length fresh.length (nR _) (nR _);refine goW ?_;by_cases zi:(i:Int)=0
  ·rw[dF (show ¬(i:Int) > 0 by omega)];refine goW ?_;refine step_ruleDO rfl rfl (sx_ldTb (v:=.map mid) hb rfl rfl) (goW ?_);rw[lo,lf];refine step_ruleDO rfl rfl (sx_lkpV keyOK2 (s:=((old.length:Int),(fresh.length:Int))) hT _ R_tb.mp rfl rfl hfin) (goW ?_);exact⟨_,rfl,fin (by first | rw[Int.natCast_eq_zero.1 zi,fromP_0] | (rw[Int.natCast_eq_zero.1 zj,fromP_i0];rfl)) rfl⟩
  rw[dT (show (i:Int) > 0 by omega)];refine goW ?_;by_cases zj:(j:Int)=0
  ·rw[dF (show ¬(j:Int) > 0 by omega)];refine goW ?_;refine step_ruleDO rfl rfl (sx_ldTb (v:=.map mid) hb rfl rfl) (goW ?_);rw[lo,lf];refine step_ruleDO rfl rfl (sx_lkpV keyOK2 (s:=((old.length:Int),(fresh.length:Int))) hT _ R_tb.mp rfl rfl hfin) (goW ?_);exact⟨_,rfl,fin (by rw[Int.natCast_eq_zero.1 zj,fromP_i0];rfl) rfl⟩
  rw[dT (show (j:Int) > 0 by omega)]
  clear fin hfin
  obtain⟨i,rfl⟩:∃k,i=k+1:=⟨i-1,by omega⟩
  obtain⟨j,rfl⟩:∃k,j=k+1:=⟨j-1,by omega⟩
  have f0:=hM (i+1) (j+1) hi hj;have f1:=hM i j (by omega) (by omega);have f2:=hM i (j+1) (by omega) hj;have hpr:=hpr S' id mid i j (by omega) (by omega) hb;rw[fromP_ss]at hp;have b1:=costP_le (eq:=eqL old fresh) i j;have b2:=costP_le (eq:=eqL old fresh) i (j+1);have b0:=costP_le (eq:=eqL old fresh) (i+1) (j+1);have b4:prP (eqL old fresh i j)<=3:=by unfold prP;split<;>omega
  have e1:∀k:Nat,((k+1:Nat):Int)-1=k:=λk=>by omega
  have e2:fresh.length=(List.replicate (j+1) (-1:Int)++suf).length:=by simp;omega
  refine goW ?_;refine step_ruleO (sx_ldTb (v:=.map mid) hb rfl rfl) (goW ?_);refine step_ruleO (sx_lkpV keyOK2 (s:=(((i+1:Nat):Int),((j+1:Nat):Int))) hT _ R_tb.mp rfl rfl f0) (goW ?_);refine step_ruleDO rfl rfl (sx_ldTb (v:=.map mid) hb rfl rfl) (goW ?_);rw[wr64 (n:=((i+1:Nat):Int)-1) (by omega) (by omega),wr64 (n:=((j+1:Nat):Int)-1) (by omega) (by omega),e1 i,e1 j];refine step_ruleDO rfl rfl (sx_lkpV keyOK2 (s:=((i:Int),(j:Int))) hT _ R_tb.mp rfl rfl f1) (goW ?_);refine call_ruleD (by rfl) (hm _ _ _ _ _ hpr ?_);rintro r S2 ⟨rfl,hS⟩;subst hS;refine⟨stab_at rfl rfl trivial (sx_ldTb (v:=.map mid) hb rfl rfl) rfl beqA_map (stab_at rfl rfl trivial (sx_lkpV keyOK2 (s:=((i:Int),(j:Int))) hT _ R_tb.mp rfl rfl f1) rfl beqA_int stab_nil),?_⟩;refine goW ?_;rw[wr64 (n:=(costP (eqL old fresh) i j:Int)+prP (eqL old fresh i j)) (by omega) (by omega)];by_cases q1:(costP (eqL old fresh) (i+1) (j+1):Int)=(costP (eqL old fresh) i j:Int)+prP (eqL old fresh i j)
  ·rw[eqI_true q1];rw[if_pos (by omega)]at hp;refine goW ?_;rw[wr64 (n:=((i+1:Nat):Int)-1) (by omega) (by omega),wr64 (n:=((j+1:Nat):Int)-1) (by omega) (by omega),e1 i,e1 j];refine step_ruleO (sx_ia (k:=j) rfl rfl (by rw[List.length_replicate];omega)) (goW ?_);refine st_runP (arr_st hT 0 (j:=1) (k:=j) (so:=0) (off:=0) (v:=.int .i64 (i:Int)) (v':=.int .i64 (i:Int)) rfl rfl (λy hy=>(intsZ_el _ y hy).1) rfl rfl rfl (by rw[List.length_replicate];omega) (by rw[intsZ_len];omega) (nR 1) (by
    have hc:=(intsZ_el (List.replicate (j+1) (-1)++suf) _ (List.getElem_mem (n:=0+j) (by rw[intsZ_len];omega))).1
    match h:((intsZ (List.replicate (j+1) (-1)++suf))[0+j]'(by rw[intsZ_len];omega)).cells,hc with
    | [c],_=>rfl)) trivial ?_
   intro S3 hT3;refine goW ?_;rw[wr64 (n:=((i+1:Nat):Int)-1) (by omega) (by omega),wr64 (n:=((j+1:Nat):Int)-1) (by omega) (by omega),e1 i,e1 j];refine⟨(i,j),⟨(i:Int)::suf,?_,by simp only;omega,by simp only;omega,by simp;omega,by rw[hp,aA];rfl,rfl⟩,by simp only;omega⟩;have e3:(intsZ (List.replicate (j+1) (-1)++suf)).set (0+j) (.int .i64 (i:Int))=intsZ (List.replicate j (-1)++(i:Int)::suf):=by
    rw[Nat.zero_add,show intsZ (List.replicate (j+1) (-1)++suf)=intsZ (List.replicate j (-1))++(.int .i64 (-1)::intsZ suf) by rw[List.replicate_succ',aA,intsZ_app];rfl,set_mid (by rw[intsZ_len];simp),intsZ_app];rfl
   rw[e3]at hT3;exact hT3
  rw[eqI_false q1];rw[if_neg (by omega)]at hp;refine goW ?_;refine step_ruleO (sx_ldTb (v:=.map mid) hb rfl rfl) (goW ?_);rw[wr64 (n:=((i+1:Nat):Int)-1) (by omega) (by omega),e1 i];refine step_ruleO (sx_lkpV keyOK2 (s:=((i:Int),((j+1:Nat):Int))) hT _ R_tb.mp rfl rfl f2) (goW ?_);rw[wr64 (n:=(costP (eqL old fresh) i (j+1):Int)+2) (by omega) (by omega)];by_cases q2:(costP (eqL old fresh) (i+1) (j+1):Int)=(costP (eqL old fresh) i (j+1):Int)+2
  ·rw[eqI_true q2];rw[if_pos (by omega)]at hp;refine goW ?_;rw[wr64 (n:=((i+1:Nat):Int)-1) (by omega) (by omega),e1 i];exact⟨(i,j+1),⟨suf,hT,by simp only;omega,by simp only;omega,by simp only;omega,hp,rfl⟩,by simp only;omega⟩
  ·rw[eqI_false q2];rw[if_neg (by omega)]at hp;refine goW ?_;rw[wr64 (n:=((j+1:Nat):Int)-1) (by omega) (by omega),e1 j];refine⟨(i+1,j),⟨-1::suf,?_,by simp only;omega,by simp only;omega,by simp;omega,by rw[hp,aA];rfl,rfl⟩,by simp only;omega⟩;rw[List.replicate_succ',aA]at hT;exact hT
end

def encDo (eq mt:Nat->Nat->Bool)(how:Int)(n m:Nat):AV :=
 if how=1 then .tup [.sl 1 stat (intsZ (placeL n m)),.int .i64 0] else if how=2 then .tup [.sl 1 stat (intsZ (keyP n mt 0 m [])),.int .i64 0] else
 if how=3 then (if bigP n m then .tup [.sl 1 stat (intsZ []),.int .i64 52] else .tup [.sl 1 stat (intsZ (fromP eq n m)),.int .i64 0]) else .tup [.sl 1 stat [],.int .i64 1]
section
variable {gt:GT}{C:CallT}
set_option maxHeartbeats 4000000 in
theorem do13_wp (hm:MonoC C){how:Int}{key:List UInt8}{old fresh:List PT}{eq mt:Nat->Nat->Bool}
  (hpl:PF C 15 [.sl 4 stat (encTs old),.sl 4 stat (encTs fresh)] (.sl 1 stat (intsZ (placeL old.length fresh.length))))
  (hke:PF C 16 [.sl 4 stat (encTs old),.sl 4 stat (encTs fresh),.str key] (.sl 1 stat (intsZ (keyP old.length mt 0 fresh.length []))))
  (hco:PF C 11 [.sl 4 stat (encTs old),.sl 4 stat (encTs fresh)] (encCost eq old.length fresh.length)) :
  wpF gt C F13 [.int .i64 how,.str key,.sl 4 stat (encTs old),.sl 4 stat (encTs fresh)] St.init (Ret (encDo eq mt how old.length fresh.length)):=by
 have hs:∀l:List Int,Sta (.sl 1 stat (intsZ l)):=λl=>sta_sl (intsZ_sta l);refine⟨rfl,?_⟩;refine goW ?_;by_cases h1:how=1
 ·rw[eqI_true h1];refine goW ?_;refine call_pf hm (by rfl) hpl (goW ?_);exact⟨_,rfl,by unfold encDo;rw[if_pos h1];exact ret_tup2 (hs _).rdo trivial⟩
 rw[eqI_false h1];refine goW ?_;by_cases h2:how=2
 ·rw[eqI_true h2];refine goW ?_;refine call_pf hm (by rfl) hke (goW ?_);exact⟨_,rfl,by unfold encDo;rw[if_neg h1,if_pos h2];exact ret_tup2 (hs _).rdo trivial⟩
 rw[eqI_false h2];refine goW ?_;by_cases h3:how=3
 ·rw[eqI_true h3];unfold encCost at hco;unfold encDo;rw[if_neg h1,if_neg h2,if_pos h3];by_cases hb:bigP old.length fresh.length
  ·rw[if_pos hb]at hco ⊢;refine goW ?_;refine call_pf hm (by rfl) hco (goW ?_);exact⟨_,rfl,ret_tup2 (hs []).rdo trivial⟩
  ·rw[if_neg hb]at hco ⊢;refine goW ?_;refine call_pf hm (by rfl) hco (goW ?_);exact⟨_,rfl,ret_tup2 (hs _).rdo trivial⟩
 ·rw[eqI_false h3];refine goW ?_;exact⟨_,rfl,by unfold encDo;rw[if_neg h1,if_neg h2,if_neg h3];exact ret_tup2 (x:=.sl 1 ⟨none,0,some 0,true⟩ []) rdo_nil0 trivial⟩
set_option maxHeartbeats 4000000 in
theorem doR_wp (hm:MonoC C){how:Int}{key:List UInt8}{old fresh:List PT}{eq mt:Nat->Nat->Bool}
  (hpl:PF C 21 [.sl 4 stat (encTs old),.sl 4 stat (encTs fresh)] (.sl 1 stat (intsZ (placeL old.length fresh.length))))
  (hke:PF C 22 [.sl 4 stat (encTs old),.sl 4 stat (encTs fresh),.str key] (.sl 1 stat (intsZ (keyP old.length mt 0 fresh.length []))))
  (hco:PF C 19 [.sl 4 stat (encTs old),.sl 4 stat (encTs fresh)] (encCost eq old.length fresh.length)) :
  wpF gt C F20 [.int .i64 how,.str key,.sl 4 stat (encTs old),.sl 4 stat (encTs fresh)] St.init (Ret (encDo eq mt how old.length fresh.length)):=by
 have hs:∀l:List Int,Sta (.sl 1 stat (intsZ l)):=λl=>sta_sl (intsZ_sta l);refine⟨rfl,?_⟩;refine goW ?_;by_cases h1:how=1
 ·rw[eqI_true h1];refine goW ?_;refine call_pf hm (by rfl) hpl (goW ?_);exact⟨_,rfl,by unfold encDo;rw[if_pos h1];exact ret_tup2 (hs _).rdo trivial⟩
 rw[eqI_false h1];refine goW ?_;by_cases h2:how=2
 ·rw[eqI_true h2];refine goW ?_;refine call_pf hm (by rfl) hke (goW ?_);exact⟨_,rfl,by unfold encDo;rw[if_neg h1,if_pos h2];exact ret_tup2 (hs _).rdo trivial⟩
 rw[eqI_false h2];refine goW ?_;by_cases h3:how=3
 ·rw[eqI_true h3];unfold encCost at hco;unfold encDo;rw[if_neg h1,if_neg h2,if_pos h3];by_cases hb:bigP old.length fresh.length
  ·rw[if_pos hb]at hco ⊢;refine goW ?_;refine call_pf hm (by rfl) hco (goW ?_);exact⟨_,rfl,ret_tup2 (hs []).rdo trivial⟩
  ·rw[if_neg hb]at hco ⊢;refine goW ?_;refine call_pf hm (by rfl) hco (goW ?_);exact⟨_,rfl,ret_tup2 (hs _).rdo trivial⟩
 ·rw[eqI_false h3];refine goW ?_;exact⟨_,rfl,by unfold encDo;rw[if_neg h1,if_neg h2,if_neg h3];exact ret_tup2 (x:=.sl 1 ⟨none,0,some 0,true⟩ []) rdo_nil0 trivial⟩
abbrev E_plR (old fresh:List PT)(o:SI)(L:List Int)(i:Int):Env:=[(0,.val (.sl 4 stat (encTs old))),(1,.val (.sl 4 stat (encTs fresh))),(5,.val (.sl 1 o (intsZ L))),(6,.val (.int .i64 i))]
set_option maxHeartbeats 4000000 in
theorem placeR13_wp (hm:MonoC C){old fresh:List PT}(hl:fresh.length<1099511627776):wpF gt C F21 [.sl 4 stat (encTs old),.sl 4 stat (encTs fresh)] St.init (Ret (.sl 1 stat (intsZ (placeL old.length fresh.length)))):=by
 have lo:=encTs_len old;have lf:=encTs_len fresh;refine⟨rfl,?_⟩;refine goW ?_;refine loop_rule hm (α:=Nat) (λi env S'=>∃o,Hs S' [.gr 3 o (intsZ (placeL old.length i))]/\i<=fresh.length/\env=E_plR old fresh o (placeL old.length i) i) (λi=>fresh.length-i) ?_ (a:=0) ⟨_,Hs.init.addNil 3 true,Nat.zero_le _,rfl⟩;rintro i env S' ⟨o,hR,hi,rfl⟩;have hll:(intsZ (placeL old.length i)).length=i:=by rw[intsZ_len,placeL_len]
 refine goW ?_;by_cases c:(i:Int)<(encTs fresh).length
 case neg =>
  rw[dF c];obtain rfl:i=fresh.length:=by omega
  refine goW ?_;exact⟨_,rfl,_,rfl,hR.rdo (i:=0) rfl (Stas.rdos _ (intsZ_sta _))⟩
 rw[dT c];have fin:∀(S2:St) (o2:SI) (v:Int),(if i<old.length then (i:Int) else -1)=v->Hs S2 [.gr 3 o2 (intsZ (placeL old.length i)++[.int .i64 v])]->∃b:Nat,(∃o,Hs S2 [.gr 3 o (intsZ (placeL old.length b))]/\b<=fresh.length /\
   [(0,Ent.val (.sl 4 stat (encTs old))),(1,.val (.sl 4 stat (encTs fresh))),(5,.val (.sl 1 o2 (intsZ (placeL old.length i)++[.int .i64 v]))),(6,.val (.int .i64 ((i+1:Nat):Int)))]=E_plR old fresh o (placeL old.length b) b)/\fresh.length-b<fresh.length-i:=λS2 o2 v e h=>by
  subst e;have e2:intsZ (placeL old.length i)++[.int .i64 (if i<old.length then (i:Int) else -1)]=intsZ (placeL old.length (i+1)):=by rw[placeL_step,intsZ_app];rfl
  rw[e2]at h ⊢;exact⟨i+1,⟨o2,h,by omega,rfl⟩,by omega⟩
 refine goW ?_;by_cases c2:(i:Int)<(encTs old).length
 ·rw[dT c2];refine goW ?_;obtain⟨hR,hsrc⟩:=hR.bldT 3 1;refine r_app hR 0 rfl trivial rfl rfl (hsrc _ _ _) (by rw[hll];simp;omega) (by rw[hll];simp;omega) (by decide) (by decide) rfl ?_;intro o3 S3 hR;refine goW ?_;rw[wrNat (by omega)];exact fin S3 o3 _ (if_pos (by omega)) hR
 ·rw[dF c2];refine goW ?_;obtain⟨hR,hsrc⟩:=hR.bldT 3 1;refine r_app hR 0 rfl trivial rfl rfl (hsrc _ _ _) (by rw[hll];simp;omega) (by rw[hll];simp;omega) (by decide) (by decide) rfl ?_;intro o3 S3 hR;refine goW ?_;rw[wrNat (by omega)];exact fin S3 o3 _ (if_neg (by omega)) hR
def keyR3 (t:PT)(key:List UInt8):PT×Bool:=if (keyRaw t key).2=true then ((keyRaw t key).1,true) else (zPT,false)
set_option maxHeartbeats 4000000 in
theorem keyR_wp (hm:MonoC C){t:PT}{key:List UInt8}(hk:t.ok)(hf:formedB t=true)(hpl:PF C 50 [.sl 1 stat (strs t.keys),.str key] (.int .i64 (plc key t.keys 0))) :
  wpF gt C F35 [encT t,.str key] St.init (Ret (.tup [encT (keyR3 t key).1,.bool (keyR3 t key).2])):=by
 have hkids:∀x∈t.kids,formedB x=true:=λx hx=>by
  obtain⟨k,s,keys,kids⟩:=t;simp only[formedB,bA]at hf;exact formed_kid hf.1 hx
 obtain⟨k,s,keys,kids⟩:=t;have l1:=strs_length keys;have l2:=encTs_len kids;simp only[PT.keys,PT.kids]at hpl hkids;have hplt:=plc_lt key keys 0;simp only[PT.ok]at hk;have hz:(keyRaw (.mk k s keys kids) key).2=false->Ret (.tup [encT (keyR3 (.mk k s keys kids) key).1,.bool (keyR3 (.mk k s keys kids) key).2]) (.ret (.tup [.agg zT,.bool false])) St.init:=λh=>by
  unfold keyR3;rw[h,if_neg (by simp)];exact ret_tup2 rdo_zT trivial
 have hkr:keyRaw (.mk k s keys kids) key=if k=7/\0<=plc key keys 0 then match kids[(plc key keys 0).toNat]? with
  | some u=>(u,leafK u.k)
  | none=>(zPT,false)
 else (zPT,false):=rfl
 generalize plc key keys 0=pl at hpl hplt hkr;refine⟨rfl,?_⟩;refine goW ?_;refine call_pf hm (by rfl) hpl (goW ?_);by_cases k7:k=7
 case neg =>
  rw[neI_true k7];refine goW ?_;exact⟨_,rfl,hz (by rw[hkr,if_neg (λe=>k7 e.1)])⟩
 rw[neI_false k7];refine goW ?_;by_cases p0:pl<0
 ·rw[dT p0];refine goW ?_;exact⟨_,rfl,hz (by rw[hkr,if_neg (λe=>by omega)])⟩
 rw[dF p0];rw[if_pos ⟨k7,by omega⟩]at hkr;obtain⟨i,rfl⟩:∃i:Nat,pl=i:=⟨pl.toNat,by omega⟩
 rw[Int.toNat_natCast]at hkr;refine goW ?_;by_cases p1:(i:Int) ≥ (encTs kids).length
 ·rw[dT p1];rw[List.getElem?_eq_none (by omega)]at hkr;refine goW ?_;exact⟨_,rfl,hz (by rw[hkr])⟩
 rw[dF p1];have hi:i<kids.length:=by omega
 rw[gE hi]at hkr;simp only at hkr;have hge:=encTs_get hi;have hrd:=rdT kids[i];have hfk:=formed_k (hkids _ (List.getElem_mem hi));have hr:leafK kids[i].k=true->Ret (.tup [encT (keyR3 (.mk k s keys kids) key).1,.bool (keyR3 (.mk k s keys kids) key).2]) (.ret (.tup [encT kids[i],.bool true])) St.init:=λh=>by
  unfold keyR3;rw[hkr,if_pos h];exact ret_tup2 (sta_T _).rdo trivial
 obtain⟨w1,w2,w3,he⟩:=encT_k kids[i];rw[he]at hge hrd hr;generalize kids[i].k=kk at *;refine goW ?_;refine st_any (by exact rfl) (sx_ia (k:=i) rfl rfl (by omega)) (goW ?_);refine st_any (by exact rfl) (sx_ldEl (agg:=true) rfl rfl hge rfl) (goW ?_);by_cases c6:kk ≥ 6
 ·rw[dT c6];refine goW ?_;exact⟨_,rfl,hz (by rw[hkr];unfold leafK;exact dF (by omega))⟩
 ·rw[dF c6];refine goW ?_;refine step_ruleO (sx_ia (k:=i) rfl rfl (by omega)) (goW ?_);refine step_ruleO (sx_ldEl (agg:=true) rfl rfl hge hrd) (goW ?_);exact⟨_,rfl,hr (by unfold leafK;exact dT ⟨hfk.1,by omega⟩)⟩
end

theorem pickK_mono {mt:Nat->Bool}{taken:List Nat}{a q:Nat}(h:pickK mt taken a=some q):∀d,pickK mt taken (a+d)=some q
 | 0=>h
 | d+1=>by rw[<-Nat.add_assoc,pickK_step,pickK_mono h d]
def usedL (n:Nat)(taken:List Nat):List AV:=(List.range n).map λi=>.bool (decide (i∈taken))
theorem usedL_len (n:Nat)(taken:List Nat):(usedL n taken).length=n:=by simp[usedL]
theorem usedL_get {n:Nat}{taken:List Nat}{i:Nat}(h:i<n):(usedL n taken)[i]? = some (.bool (decide (i∈taken))):=by simp[usedL,h]
theorem usedL_el {n:Nat}{taken:List Nat}:∀y∈usedL n taken,El false 1 y:=λy hy=>by
 simp only[usedL,List.mem_map]at hy;obtain⟨i,_,rfl⟩:=hy;exact⟨rfl,rfl⟩
theorem usedL_nil (n:Nat):usedL n []=List.replicate n (.bool false):=by
 refine List.eq_replicate_iff.2 ⟨usedL_len _ _,λy hy=>?_⟩;simp only[usedL,List.mem_map]at hy;obtain⟨i,_,rfl⟩:=hy;simp
theorem usedL_set {n:Nat}{taken:List Nat}{q:Nat}:(usedL n taken).set q (.bool true)=usedL n (taken++[q]):=by
 refine List.ext_getElem? λi=>?_;by_cases e:q=i
 ·subst e;by_cases h:q<n
  ·rw[List.getElem?_set_self (by rw[usedL_len];exact h),usedL_get h];simp
  ·rw[List.getElem?_eq_none (by rw[List.length_set,usedL_len];omega),List.getElem?_eq_none (by rw[usedL_len];omega)]
 ·rw[List.getElem?_set_ne e];by_cases h:i<n
  ·rw[usedL_get h,usedL_get h];have:i≠q:=λh=>e h.symm;simp[this]
  ·rw[List.getElem?_eq_none (by rw[usedL_len];omega),List.getElem?_eq_none (by rw[usedL_len];omega)]
def usR (ty:TypeId)(t b n:Nat)(taken:List Nat):List Rs:=if n=0 then [] else [.bx b ty ((usedL n taken).flatMap AV.cells++[]),.mk t t b]
def usV (t n:Nat):AV:=if n=0 then .sl 1 ⟨none,0,some 0,false⟩ [] else .sl 1 ⟨some (t,t),0,some n,false⟩ (List.replicate n (.bool false))
section
variable {gt:GT}{C:CallT}
abbrev E_kr (old fresh:List PT)(key:List UInt8)(u:AV)(o:SI)(L:List Int)(j:Int):Env :=
 [(0,.val (.sl 4 stat (encTs old))),(1,.val (.sl 4 stat (encTs fresh))),(2,.val (.str key)),(7,.val u),(8,.val (.sl 1 o (intsZ L))),(9,.val (.int .i64 j))]
abbrev E_kr2 (old fresh:List PT)(key:List UInt8)(u:AV)(o:SI)(L:List Int)(j:Int)(a:List AV)(has:Bool)(at_ i:Int):Env :=
 [(0,.val (.sl 4 stat (encTs old))),(1,.val (.sl 4 stat (encTs fresh))),(2,.val (.str key)),(7,.val u),(8,.val (.sl 1 o (intsZ L))),(9,.val (.int .i64 j)),(10,.box a),(11,.val (.bool has)),(12,.val (.int .i64 at_)),(13,.val (.int .i64 i))]
theorem keyR3_mt {a b:PT}{key:List UInt8}:mtK key b a=(((keyR3 a key).2 == (keyR3 b key).2) && (!(keyR3 a key).2 || sameB (keyR3 a key).1 (keyR3 b key).1)):=by
 unfold mtK keyR3;cases h1:(keyRaw a key).2<;>cases h2:(keyRaw b key).2<;>simp
set_option maxHeartbeats 16000000 in
theorem keyR13_wp (hm:MonoC C){old fresh:List PT}{key:List UInt8}(hlo:old.length<549755813888)(hl:fresh.length<549755813888)
  (hko:∀t∈old,PF C 35 [encT t,.str key] (.tup [encT (keyR3 t key).1,.bool (keyR3 t key).2])) (hkf:∀t∈fresh,PF C 35 [encT t,.str key] (.tup [encT (keyR3 t key).1,.bool (keyR3 t key).2]))
  (hsm:∀o∈old,∀f∈fresh,PF C 34 [encT (keyR3 f key).1,encT (keyR3 o key).1] (.bool (sameB (keyR3 f key).1 (keyR3 o key).1))) :
  wpF gt C F22 [.sl 4 stat (encTs old),.sl 4 stat (encTs fresh),.str key] St.init (Ret (.sl 1 stat (intsZ (keyP old.length (mtL key old fresh) 0 fresh.length [])))):=by
 have lo:=encTs_len old;have lf:=encTs_len fresh;have init:∀(K:Env->St->Prop) (Q:Ex->Env->St->Prop) (env:Env),opd env (.t 17)=some (.int .i64 (encTs old).length)->(∀t b S',Hs S' (.gr 3 ⟨none,0,some 0,true⟩ []::usR 4 t b old.length [])->K ((18,.val (usV t old.length))::env) S') ->
   afterS C (some 18) env St.init K Q (stepI gt ⟨some 18,.mks 4 1 1 (.bool false) (.t 17) (.t 17),none⟩ env St.init):=λK Q env h17 h=>by
  have hR:=Hs.init.addNil 3 true;rw[lo]at h17;by_cases n0:old.length=0
  ·refine st_any (by exact trivial) (env':=(18,.val (.sl 1 ⟨none,0,some 0,false⟩ []))::env) (S':=St.init) ?_ ?_
   ·simp only[stepO,h17,n0];rfl
   ·have:=h 0 0 St.init (by unfold usR;rw[if_pos n0];exact hR);unfold usV at this;rw[if_pos n0]at this;exact this
  ·refine r_mks (n:=old.length) (c:=old.length) hR trivial (by rw[h17];rfl) (by rw[h17];rfl) (nR _) (by omega) (by omega) (by omega) rfl ?_;intro t b S hS;have:=h t b S (by
    unfold usR;rw[if_neg n0,usedL_nil];simpa using hS)
   unfold usV at this;rw[if_neg n0]at this;exact this
 refine⟨rfl,?_⟩;refine goW ?_;refine init _ _ _ rfl ?_
 clear init
 intro t b S hR;generalize hu:usV t old.length=u;refine goW ?_;refine loop_rule hm (α:=Nat) (λj env S'=>∃o L taken,Hs S' (.gr 3 o (intsZ L)::usR 4 t b old.length taken)/\L.length=j/\j<=fresh.length /\
   keyP old.length (mtL key old fresh) 0 fresh.length []=L++keyP old.length (mtL key old fresh) j (fresh.length-j) taken/\env=E_kr old fresh key u o L j) (λj=>fresh.length-j) ?_ (a:=0)
  ⟨_,[],[],hR,rfl,Nat.zero_le _,rfl,rfl⟩
 clear hR
 rintro j env S' ⟨o,L,taken,hR,hLl,hj,hp,rfl⟩;have hlz:(intsZ L).length=L.length:=intsZ_len _;refine goW ?_;by_cases c:(j:Int)<(encTs fresh).length
 case neg =>
  rw[dF c];obtain rfl:j=fresh.length:=by omega
  rw[Nat.sub_self,keyP,List.append_nil]at hp;refine goW ?_;exact⟨_,rfl,_,rfl,by rw[hp];exact hR.rdo (i:=0) rfl (Stas.rdos _ (intsZ_sta _))⟩
 rw[dT c];have hjf:j<fresh.length:=by omega
 have hge:=encTs_get hjf;have hrd:=rdT fresh[j];have hkj:=hkf fresh[j] (List.getElem_mem hjf);have hsj:=λo ho=>hsm o ho fresh[j] (List.getElem_mem hjf);have hmt:∀i,(h:i<old.length)->mtL key old fresh i j=(((keyR3 fresh[j] key).2 == (keyR3 old[i] key).2) && (!(keyR3 fresh[j] key).2 || sameB (keyR3 fresh[j] key).1 (keyR3 old[i] key).1)):=λi h=>by
  unfold mtL;rw[gE h,gE hjf];exact keyR3_mt
 rw[show fresh.length-j=(fresh.length-(j+1))+1 by omega,keyP]at hp;obtain⟨_,_,_,_,he⟩:=encT_agg fresh[j];rw[he]at hge hrd hkj;generalize (keyR3 fresh[j] key).2=has at hkj hmt;generalize (keyR3 fresh[j] key).1=ka at hkj hmt hsj;obtain⟨_,_,_,_,hea⟩:=encT_agg ka;rw[hea]at hkj hsj;refine goW ?_;refine step_ruleO (sx_ia (k:=j) rfl rfl (by omega)) (goW ?_);refine step_ruleO (sx_ldEl (agg:=true) rfl rfl hge hrd) (goW ?_);refine call_pf hm (by rfl) hkj (goW ?_);refine loop_rule hm (α:=Nat) (λi env S'=>∃at_ taken',Hs S' (.gr 3 o (intsZ L)::usR 4 t b old.length taken')/\i<=old.length/\env=E_kr2 old fresh key u o L j _ has at_ i /\
   ((at_=-1/\pickK (λi=>mtL key old fresh i j) taken i=none/\taken'=taken)\/∃q:Nat,at_=q/\pickK (λi=>mtL key old fresh i j) taken old.length=some q/\taken'=taken++[q])) (λi=>old.length-i) ?_ (a:=0)
  ⟨-1,taken,hR,Nat.zero_le _,rfl,.inl ⟨rfl,rfl,rfl⟩⟩
 clear hR
 rintro i env S' ⟨at_,taken',hR,hi,rfl,hq⟩;have done:((at_=-1/\pickK (λi=>mtL key old fresh i j) taken old.length=none/\taken'=taken)\/∃q:Nat,at_=q/\pickK (λi=>mtL key old fresh i j) taken old.length=some q/\taken'=taken++[q]) ->
   keyP old.length (mtL key old fresh) 0 fresh.length []=(L++[at_])++keyP old.length (mtL key old fresh) (j+1) (fresh.length-(j+1)) taken':=λh=>by
  rcases h with⟨e1,h,e2⟩ | ⟨q,e1,h,e2⟩
  ·rw[h]at hp;rw[hp,e1,e2,aA];rfl
  ·rw[h]at hp;rw[hp,e1,e2,aA];rfl
 clear hp
 refine goW ?_;by_cases c2:(i:Int)<(encTs old).length
 case neg =>
  rw[dF c2];obtain rfl:i=old.length:=by omega
  have hp:=done hq
  clear done hq
  refine goW ?_;obtain⟨hR,hsrc⟩:=hR.bldT 3 1;refine r_app hR 0 rfl trivial rfl rfl (hsrc _ _ _) (by rw[hlz];simp;omega) (by rw[hlz];simp;omega) (by decide) (by decide) rfl ?_;intro o3 S3 hR;refine goW ?_;rw[wrNat (by omega)];refine⟨j+1,⟨o3,L++[at_],taken',by rw[intsZ_app];exact hR,by simp[hLl],by omega,hp,by rw[E_kr,intsZ_app];try rfl⟩,by clear hp;omega⟩
 rw[dT c2];rcases hq with⟨rfl,hq,rfl⟩ | ⟨q,rfl,hq,rfl⟩
 case inr =>
  have hp:=done (.inr ⟨q,rfl,hq,rfl⟩)
  clear done
  refine goW ?_;obtain⟨hR,hsrc⟩:=hR.bldT 3 1;refine r_app hR 0 rfl trivial rfl rfl (hsrc _ _ _) (by rw[hlz];simp;omega) (by rw[hlz];simp;omega) (by decide) (by decide) rfl ?_;intro o3 S3 hR;refine goW ?_;rw[wrNat (by omega)];refine⟨j+1,⟨o3,L++[(q:Int)],taken++[q],by rw[intsZ_app];exact hR,by simp[hLl],by omega,hp,by rw[E_kr,intsZ_app];try rfl⟩,by clear hp hq;omega⟩
 clear done
 have hio:i<old.length:=by omega
 have hgi:=encTs_get hio;have hri:=rdT old[i];have hki:=hko old[i] (List.getElem_mem hio);have hsi:=hsj old[i] (List.getElem_mem hio);have hmi:=hmt i hio;have hst:=pickK_step (λi=>mtL key old fresh i j) taken' i;simp only[hmi,hq]at hst
 clear hmi hmt hsj hsm hkf hko
 obtain⟨_,_,_,_,he2⟩:=encT_agg old[i];rw[he2]at hgi hri hki;generalize (keyR3 old[i] key).2=is at hki hst;generalize (keyR3 old[i] key).1=kb at hki hst hsi;obtain⟨_,_,_,_,heb⟩:=encT_agg kb;rw[heb]at hki hsi;generalize sameB ka kb=sb at hsi hst;have pick:(i ∉ taken'/\((has == is) && (!has || sb))=true)->pickK (λi=>mtL key old fresh i j) taken' old.length=some i:=λh=>by
  have:=pickK_mono (mt:=λi=>mtL key old fresh i j) (taken:=taken') (a:=i+1) (q:=i) (by rw[hst,if_pos h]) (old.length-(i+1))
  rwa [show i+1+(old.length-(i+1))=old.length by omega]at this
 have lone:¬(i ∉ taken'/\((has == is) && (!has || sb))=true)->pickK (λi=>mtL key old fresh i j) taken' (i+1)=none:=λh=>by rw[hst,if_neg h]
 clear hst hq
 have hn0:¬old.length=0:=by omega
 have hub:u=.sl 1 ⟨some (t,t),0,some old.length,false⟩ (List.replicate old.length (.bool false)):=by rw[<-hu];unfold usV;rw[if_neg hn0]
 have hU:∀tk,usR 4 t b old.length tk=[.bx b 4 ((usedL old.length tk).flatMap AV.cells++[]),.mk t t b]:=λtk=>by unfold usR;rw[if_neg hn0]
 have nxt:∀(v:Int) (tk:List Nat) (S2:St),Hs S2 (.gr 3 o (intsZ L)::usR 4 t b old.length tk)->((v=-1/\pickK (λi=>mtL key old fresh i j) taken' (i+1)=none/\tk=taken')\/∃q:Nat,v=q/\pickK (λi=>mtL key old fresh i j) taken' old.length=some q/\tk=taken'++[q]) ->
   ∃b_1:Nat,(∃at_ tk,Hs S2 (.gr 3 o (intsZ L)::usR 4 t b old.length tk)/\b_1<=old.length/\E_kr2 old fresh key u o L j (encT ka).cells has v ((i+1:Nat):Int)=E_kr2 old fresh key u o L j (encT ka).cells has at_ b_1 /\
    ((at_=-1/\pickK (λi=>mtL key old fresh i j) taken' b_1=none/\tk=taken')\/∃q:Nat,at_=q/\pickK (λi=>mtL key old fresh i j) taken' old.length=some q/\tk=taken'++[q]))/\old.length-b_1<old.length-i:=λv tk S2 h1 h2 =>
  ⟨i+1,⟨v,tk,h1,by omega,rfl,h2⟩,by clear h2;omega⟩
 rw[hea]at nxt;rw[hub]at nxt ⊢;have hel:elems S' false 1 ⟨some (t,t),0,some old.length,false⟩ (List.replicate old.length (.bool false))=some (usedL old.length taken'):=by
  rw[hU]at hR;have:=arr_els hR (i:=1) (j:=2) rfl rfl usedL_el (off:=0) (cap:=some old.length) (nl:=false) (xs:=List.replicate old.length (.bool false)) (by rw[usedL_len];simp);rw[List.drop_zero,List.length_replicate,List.take_of_length_le (by rw[usedL_len];omega)]at this;exact this
 have hget:=usedL_get (taken:=taken') hio;refine goW ?_;refine step_ruleO (sx_ia (k:=i) rfl rfl (by omega)) (goW ?_);refine step_ruleO (sx_ldEl (agg:=true) rfl rfl hgi hri) (goW ?_);refine call_pf hm (by rfl) hki ?_;have put:∀{env:Env},loc env (.t 75)=some (.el 1 ⟨some (t,t),0,some old.length,false⟩ (List.replicate old.length (.bool false)) i 0)->∃S2,stepO gt none env S' (.st 1 (.t 75) (.c (.bool true)))=.done (putV none .undef env) S2/\Hs S2 (.gr 3 o (intsZ L)::usR 4 t b old.length (taken'++[i])):=λ{env} hloc=>by
  rw[hU]at hR;obtain⟨S2,h1,h2⟩:=arr_st hR 1 (j:=2) rfl rfl (λy hy=>(usedL_el y hy).1) (gt:=gt) (d:=none) (env:=env) (a:=.t 75) (x:=.c (.bool true)) (xs:=List.replicate old.length (.bool false)) (so:=0) (k:=i) (off:=0) (sz:=1) (v:=.bool true) (v':=.bool true) hloc rfl rfl (by simp;omega) (by rw[usedL_len];omega) (nR 1) (by
   have hc:=(usedL_el (n:=old.length) (taken:=taken') _ (List.getElem_mem (n:=0+i) (by rw[usedL_len];omega))).1
   match h:((usedL old.length taken')[0+i]'(by rw[usedL_len];omega)).cells,hc with
   | [c],_=>rfl)
  refine⟨S2,h1,?_⟩;rw[Nat.zero_add,usedL_set]at h2;rw[hU];exact h2
 refine goW ?_;refine step_ruleO (sx_ia (k:=i) rfl rfl (by rw[List.length_replicate];omega)) (goW ?_);refine step_ruleO (sx_ldEl (agg:=false) rfl hel hget rfl) ?_;by_cases ht:i∈taken'
 ·have hl:=lone λh=>h.1 ht;rw[dT ht];refine goW ?_;rw[wrNat (by omega)];exact nxt _ _ _ hR (.inl ⟨rfl,hl,rfl⟩)
 rw[dF ht];cases has with
 | false =>
  cases is with
  | true =>
   have hl:=lone λh=>by simp at h
   refine goW ?_;rw[wrNat (by omega)];exact nxt _ _ _ hR (.inl ⟨rfl,hl,rfl⟩)
  | false =>
   have hl:=pick ⟨ht,by simp⟩;refine goW ?_;refine step_ruleO (sx_ia (k:=i) rfl rfl (by rw[List.length_replicate];omega)) (goW ?_);refine st_runP (put rfl) trivial ?_;intro S3 hR3;refine goW ?_;rw[wrNat (by omega)];exact nxt _ _ _ hR3 (.inr ⟨i,rfl,hl,rfl⟩)
 | true =>
 cases is with
 | false =>
  have hl:=lone λh=>by simp at h
  refine goW ?_;rw[wrNat (by omega)];exact nxt _ _ _ hR (.inl ⟨rfl,hl,rfl⟩)
 | true =>
  refine goW ?_;refine call_pf hm (by rfl) hsi ?_;cases sb with
  | false =>
   have hl:=lone λh=>by simp at h
   refine goW ?_;rw[wrNat (by omega)];exact nxt _ _ _ hR (.inl ⟨rfl,hl,rfl⟩)
  | true =>
   have hl:=pick ⟨ht,by simp⟩;refine goW ?_;refine step_ruleO (sx_ia (k:=i) rfl rfl (by rw[List.length_replicate];omega)) (goW ?_);refine st_runP (put rfl) trivial ?_;intro S3 hR3;refine goW ?_;rw[wrNat (by omega)];exact nxt _ _ _ hR3 (.inr ⟨i,rfl,hl,rfl⟩)
end

section
variable {gt:GT}{C:CallT}
abbrev E_sI (l:List Int)(i:Int):Env:=[(0,.val (.sl 1 stat (intsZ l))),(1,.val (.sl 1 stat (intsZ l))),(5,.val (.int .i64 i))]
set_option maxHeartbeats 4000000 in
theorem sameI_wp (hm:MonoC C){l:List Int}(hl:l.length<4611686018427387904):wpF gt C F14 [.sl 1 stat (intsZ l),.sl 1 stat (intsZ l)] St.init (Ret (.bool true)):=by
 have ll:=intsZ_len l;refine⟨rfl,?_⟩;refine goW ?_;rw[neI_false (rfl:((intsZ l).length:Int)=(intsZ l).length)];refine goW ?_;refine loop_rule hm (α:=Nat) (λi env S'=>i<=l.length/\env=E_sI l i/\S'=St.init) (λi=>l.length-i) ?_ (a:=0) ⟨Nat.zero_le _,rfl,rfl⟩;rintro i env S' ⟨hi,rfl,rfl⟩;refine goW ?_;by_cases c:(i:Int)<(intsZ l).length
 case neg =>
  rw[dF c];refine goW ?_;exact⟨_,rfl,Ret.sta trivial⟩
 rw[dT c];have hil:i<l.length:=by omega
 have hg:=intsZ_get hil;generalize l[i]=x at hg;refine goW ?_;refine step_ruleDO rfl rfl (sx_ia (k:=i) rfl rfl (by omega)) (goW ?_);refine step_ruleDO rfl rfl (sx_ldEl (agg:=false) rfl rfl hg rfl) (goW ?_);refine step_ruleDO rfl rfl (sx_ia (k:=i) rfl rfl (by omega)) (goW ?_);refine step_ruleDO rfl rfl (sx_ldEl (agg:=false) rfl rfl hg rfl) (goW ?_);rw[neI_false (rfl:x=x)];refine goW ?_;refine⟨i+1,⟨by omega,by rw[wrNat (by omega)];try rfl,rfl⟩,by omega⟩
set_option maxHeartbeats 8000000 in
theorem alignTells_wp (hm:MonoC C)(hruns:PF C 3 [] (.bool true)){old0 fresh0 old fresh:List PT}{key:List UInt8}{how c e:Int}{F L P K:List Int}
  (hc1:PF C 18 [.sl 4 stat (encTs old0),.int .i64 40] (.sl 4 stat (encTs old))) (hc2:PF C 18 [.sl 4 stat (encTs fresh0),.int .i64 40] (.sl 4 stat (encTs fresh)))
  (hco:PF C 11 [.sl 4 stat (encTs old),.sl 4 stat (encTs fresh)] (.tup [.sl 1 stat (intsZ F),.int .i64 c,.int .i64 0])) (hcoR:PF C 19 [.sl 4 stat (encTs old),.sl 4 stat (encTs fresh)] (.tup [.sl 1 stat (intsZ F),.int .i64 c,.int .i64 0]))
  (hdo:PF C 13 [.int .i64 how,.str key,.sl 4 stat (encTs old),.sl 4 stat (encTs fresh)] (.tup [.sl 1 stat (intsZ L),.int .i64 e])) (hdoR:PF C 20 [.int .i64 how,.str key,.sl 4 stat (encTs old),.sl 4 stat (encTs fresh)] (.tup [.sl 1 stat (intsZ L),.int .i64 e]))
  (hpl:PF C 15 [.sl 4 stat (encTs old),.sl 4 stat (encTs fresh)] (.sl 1 stat (intsZ P))) (hplR:PF C 21 [.sl 4 stat (encTs old),.sl 4 stat (encTs fresh)] (.sl 1 stat (intsZ P)))
  (hke:PF C 16 [.sl 4 stat (encTs old),.sl 4 stat (encTs fresh),.str key] (.sl 1 stat (intsZ K))) (hkeR:PF C 22 [.sl 4 stat (encTs old),.sl 4 stat (encTs fresh),.str key] (.sl 1 stat (intsZ K)))
  (hF:PF C 14 [.sl 1 stat (intsZ F),.sl 1 stat (intsZ F)] (.bool true)) (hL:PF C 14 [.sl 1 stat (intsZ L),.sl 1 stat (intsZ L)] (.bool true))
  (hP:PF C 14 [.sl 1 stat (intsZ P),.sl 1 stat (intsZ P)] (.bool true)) (hK:PF C 14 [.sl 1 stat (intsZ K),.sl 1 stat (intsZ K)] (.bool true)) :
  wpF gt C F4 [.sl 4 stat (encTs old0),.sl 4 stat (encTs fresh0),.str key,.int .i64 how] St.init (Ret (.bool true)):=by
 refine⟨rfl,?_⟩;refine goW ?_;refine call_pf hm (by rfl) hc1 (goW ?_);refine call_pf hm (by rfl) hc2 (goW ?_);refine call_pf hm (by rfl) hco (goW ?_);refine call_pf hm (by rfl) hcoR (goW ?_);refine call_pf hm (by rfl) hdo (goW ?_);refine call_pf hm (by rfl) hdoR (goW ?_);refine call_pf hm (by rfl) hF (goW ?_);rw[eqI_true (rfl:c=c)];refine goW ?_;refine call_pf hm (by rfl) hL (goW ?_);rw[eqI_true (rfl:e=e)];refine goW ?_;refine call_pf hm (by rfl) hpl (goW ?_);refine call_pf hm (by rfl) hplR (goW ?_);refine call_pf hm (by rfl) hP (goW ?_);refine call_pf hm (by rfl) hke (goW ?_);refine call_pf hm (by rfl) hkeR (goW ?_);refine call_pf hm (by rfl) hK (goW ?_);refine call_pf hm (by rfl) hruns (goW ?_);exact⟨_,rfl,Ret.sta trivial⟩
end

section
variable {gt:GT}{C:CallT}
end

section
variable {gt:GT}{C:CallT}
end

section
variable {gt:GT}{C:CallT}
end

section
variable {gt:GT}{C:CallT}
end
end Go.Dn

namespace Go.Dn
theorem formed_ok {t:PT}(h:rightB t=0):formedB t=true:=by
 unfold rightB at h;split at h
 ·cases h
 ·split at h
  ·cases h
  ·split at h
   ·assumption
   ·cases h
structure GdT (t:PT):Prop where
 sok:t.sok
 ok:t.ok
 n:t.n<1099511627776
theorem GdT.zero:GdT zPT:=⟨by unfold zPT;simp[PT.sok,PT.soks],by unfold zPT;simp[PT.ok,PT.oks],by unfold zPT;simp[PT.n,PT.ns]⟩
theorem GdT.kid {t:PT}(h:GdT t){i:Nat}(hi:i<t.kids.length):GdT t.kids[i]:=by
 obtain⟨k,s,keys,kids⟩:=t;obtain⟨h1,h2,h3⟩:=h;simp only[PT.kids]at hi ⊢;simp only[PT.sok,PT.ok]at h1 h2;exact⟨PT.soks_get hi h1.2.2.2.2,PT.oks_get h2.2.2 (gE hi),by have:=kid_lt (k:=k) (s:=s) (keys:=keys) hi;omega⟩
theorem GdT.keyRaw {t:PT}(h:GdT t)(key:List UInt8):GdT (keyRaw t key).1:=by
 unfold Dn.keyRaw;split
 ·split
  ·rename_i u hu;have hi:(plc key t.keys 0).toNat<t.kids.length:=by
    rcases Nat.lt_or_ge (plc key t.keys 0).toNat t.kids.length with h1 | h1
    ·exact h1
    ·rw[List.getElem?_eq_none h1]at hu;cases hu
   rw[gE hi]at hu;cases hu;exact h.kid hi
  ·exact GdT.zero
 ·exact GdT.zero
theorem not_big {n m:Nat}(hn:n<=40)(hm:m<=40):¬bigP n m:=λ⟨h0,h1⟩=>by
 have:65536 / 40<=65536 / n:=Nat.div_le_div_left hn h0;omega
theorem cost_small {eq:Nat->Nat->Bool}{n m:Nat}(hn:n<=40)(hm:m<=40):encCost eq n m=.tup [.sl 1 stat (intsZ (fromP eq n m)),.int .i64 (costP eq n m),.int .i64 0]:=by
 unfold encCost;rw[if_neg (not_big hn hm)]
def wayL (eq mt:Nat->Nat->Bool)(n m:Nat)(how:Int):List Int:=if how=1 then placeL n m else if how=2 then keyP n mt 0 m [] else if how=3 then fromP eq n m else []
def wayE (how:Int):Int:=if how=1\/how=2\/how=3 then 0 else 1
theorem do_small {eq mt:Nat->Nat->Bool}{n m:Nat}{how:Int}(hn:n<=40)(hm:m<=40):encDo eq mt how n m=.tup [.sl 1 stat (intsZ (wayL eq mt n m how)),.int .i64 (wayE how)]:=by
 unfold encDo wayL wayE;rw[if_neg (not_big hn hm)];by_cases h1:how=1
 ·simp[h1]
 by_cases h2:how=2
 ·simp[h2]
 by_cases h3:how=3
 ·simp[h3]
 simp[h1,h2,h3];rfl
end Go.Dn
namespace Go.Proofs.YtbojekglccdajaaGreatDoor
open Go.Dn
theorem bulk_mem:∀{l:List PT} {t:PT},t∈l->bulkA (encT t)<=bulkAs (encTs l)
 | a::r,t,h=>by
  simp only[encTs,bulkAs];rcases List.mem_cons.1 h with rfl | h
  ·omega
  ·have:=bulk_mem h;omega
theorem bulk_len (l:List PT):l.length<=bulkAs (encTs l):=by
 induction l with
 | nil=>exact Nat.zero_le _
 | cons t r ih =>
  simp only[encTs,bulkAs,lC];have:1<=bulkA (encT t):=by cases t;simp only[encT,bulkA];omega
  omega
theorem bulk_good {t:PT}(h:bulkA (encT t)<=1048576):GdT t:=⟨(bulk_sok t h).1,(bulk_T t h),by have:=(bulk_sok t h).2;omega⟩
end Go.Proofs.YtbojekglccdajaaGreatDoor
namespace Go.Proofs.YtbojekglccdajaaGreatDoor.Fn
open Go.ChangeShapes Go.WideShapes Go.ChangeAt Go.RowKit Go.Dn
theorem sTs (l:List PT):Sta (.sl 4 stat (encTs l)):=sta_sl (sta_Ts l)
theorem sZ (l:List Int):Sta (.sl 1 stat (intsZ l)):=sta_sl (intsZ_sta l)
theorem sameG {a c:PT}(h:GdT a)(k:GdT c):PF A 31 [encT a,encT c] (.bool (sameB a c)):=same a c h.sok h.ok h.n k.sok k.ok k.n
theorem cut13 {l:List PT}{n:Nat}(h:bulkAs (encTs l)<=1048576)(hn:n<1000000):PF A 18 [.sl 4 stat (encTs l),.int .i64 n] (.sl 4 stat (encTs (Dn.cutL n 0 l))) :=
 pf Tryz.func18 (by kernel_rfl) C1.F18_ok (s2 (sTs l) trivial) (cutT_wp hm (by have:=bulk_len l;omega) hn (λt=>size3 t 3000 (by decide))
  λt ht=>right3 t (by have:=bulk_mem ht;have:=(bulk_good (t:=t) (by omega)).n;omega) (bulk_good (by have:=bulk_mem ht;omega)).sok)
theorem cut_good {l:List PT}{n:Nat}(h:bulkAs (encTs l)<=1048576):∀t∈Dn.cutL n 0 l,GdT t/\formedB t=true:=λt ht=>by
 obtain⟨h1,h2⟩:=cutL_mem ht;exact⟨bulk_good (by have:=bulk_mem h1;omega),formed_ok h2⟩
theorem scalarK (k:Int):PF A 42 [.int .i64 k] (.bool (leafK k)) :=
 pf Tryz.func42 (by kernel_rfl) C1.F42_ok (s1 trivial) scalar_wp
theorem keyOf (t:PT)(key:List UInt8)(h:t.ok):PF A 30 [encT t,.str key] (.tup [encT (keyRaw t key).1,.bool (keyRaw t key).2]) :=
 pf Tryz.func30 (by kernel_rfl) C1.F30_ok (s2 (sta_T t) trivial) (keyOf_wp hm scalarK h)
theorem place13 (old fresh:List PT)(h:fresh.length<1099511627776):PF A 15 [.sl 4 stat (encTs old),.sl 4 stat (encTs fresh)] (.sl 1 stat (intsZ (placeL old.length fresh.length))) :=
 pf Tryz.func15 (by kernel_rfl) C1.F15_ok (s2 (sTs _) (sTs _)) (place13_wp hm h)
theorem key13 {old fresh:List PT}(key:List UInt8)(ho:∀t∈old,GdT t)(hf:∀t∈fresh,GdT t)(lo:old.length<549755813888)(lf:fresh.length<549755813888) :
  PF A 16 [.sl 4 stat (encTs old),.sl 4 stat (encTs fresh),.str key] (.sl 1 stat (intsZ (keyP old.length (mtL key old fresh) 0 fresh.length []))) :=
 pf Tryz.func16 (by kernel_rfl) C1.F16_ok (s3 (sTs _) (sTs _) trivial) (key13_wp hm (by omega) (by omega) (λt ht=>keyOf t key (ho t ht).ok) (λt ht=>keyOf t key (hf t ht).ok)
  λo h1 f h2=>sameG ((hf f h2).keyRaw key) ((ho o h1).keyRaw key))
theorem cost13 {old fresh:List PT}(ho:∀t∈old,GdT t)(hf:∀t∈fresh,GdT t)(lo:old.length<549755813888)(lf:fresh.length<549755813888) :
  PF A 11 [.sl 4 stat (encTs old),.sl 4 stat (encTs fresh)] (encCost (eqL old fresh) old.length fresh.length):=by
 have hpr:∀(S:St) (id mid i j:Nat),i<old.length->j<fresh.length->TbS S id mid old fresh->A 28 [.ptr id 0,.int .i64 ((i+1:Nat):Int),.int .i64 ((j+1:Nat):Int)] S λr S'=>r=.ret (.int .i64 (prP (eqL old fresh i j)))/\S'=S:=λS id mid i j hi hj hb =>
  AC_intro Tryz.checked.mixed Tryz.func28 (by kernel_rfl) C1.F28_ok (pair13_wp hm hi hj (by omega) (by omega) hb (sameG (ho _ (List.getElem_mem hi)) (hf _ (List.getElem_mem hj))))
 exact pf Tryz.func11 (by kernel_rfl) C1.F11_ok (s2 (sTs _) (sTs _)) (cost13_wp hm (by omega) (by omega) hpr
  λS R id mid h=>AC_intro Tryz.checked.mixed Tryz.func27 (by kernel_rfl) C1.F27_ok (fill13_wp hm (by omega) (by omega) h λS i j=>hpr S id mid i j))
theorem do13 {old fresh:List PT}(how:Int)(key:List UInt8)(ho:∀t∈old,GdT t)(hf:∀t∈fresh,GdT t)(lo:old.length<=40)(lf:fresh.length<=40) :
  PF A 13 [.int .i64 how,.str key,.sl 4 stat (encTs old),.sl 4 stat (encTs fresh)] (.tup [.sl 1 stat (intsZ (wayL (eqL old fresh) (mtL key old fresh) old.length fresh.length how)),.int .i64 (wayE how)]):=by
 rw[<-do_small lo lf];exact pf Tryz.func13 (by kernel_rfl) C1.F13_ok ⟨trivial,trivial,sTs _,sTs _,trivial⟩ (do13_wp hm (place13 old fresh (by omega)) (key13 key ho hf (by omega) (by omega)) (cost13 ho hf (by omega) (by omega)))
theorem sameI (l:List Int)(h:l.length<4611686018427387904):PF A 14 [.sl 1 stat (intsZ l),.sl 1 stat (intsZ l)] (.bool true) :=
 pf Tryz.func14 (by kernel_rfl) C1.F14_ok (s2 (sZ l) (sZ l)) (sameI_wp hm h)
end Go.Proofs.YtbojekglccdajaaGreatDoor.Fn

namespace Go.Dn
def subC:DC->List Nat->DC
 | c,[]=>c
 |.seq a _,0::p=>subC a p
 |.seq _ b,_::p=>subC b p
 |.cnd _ a _,0::p=>subC a p
 |.cnd _ _ b,_::p=>subC b p
 |.blk _ c,_::p=>subC c p
 |.lop c,_::p=>subC c p
 | _,_=>.fail
end Go.Dn
