/- Sorting in place: by insertion. Sorting in place: two rows merged, where one is of one. Sorting in place: two rows merged, where the other is of one. Sorting in place: two rows merged: turned round, and each half merged. Sorting in place: two rows merged: where they are cut, and the turn. The walk to the next region's end, as a lemma that a tactic of its own serves. Sorting in place: two rows merged; all of it. Sorting in place: all of it. Texts compared byte by byte: an order; the places of a list of keys, by them. The places of a record's keys, by the keys: tree.order. Trees with the keys of all records in order: tree.Sorted. Trees whose keys are in order: when they are the same. Trees that are the same: tree.identical, tree.Same. Trees that are the same: the reference's answer. The reference's places of keys: emendref3.Order. Trees with the keys of all records in order: the reference's answer. The law 'TreeSames', walked. Sorting, and what hangs on it, as contracts. Trees compared, and that this is an order. Trees whose keys are brought in order stay right and as great, and are then in order. Numbers compared: the program's answer. Trees compared: the program's answer. Numbers compared: the reference's answer. Trees compared: the reference's answer. The laws 'TreeCompares' and 'TreeOrder', walked. Comparing trees, as contracts. strings.Builder, walked. Texts between quotes: the program's and the reference's answer. A text between quotes: the program's answer. A tree's text: the program's writer. -/
import Derived.Test.YthgidapmofcloaaGreatDoorUn
set_option linter.unusedSimpArgs false
set_option linter.unusedVariables false
namespace Go.Dn
open Go Go.Proofs.C1
set_option maxRecDepth 100000
attribute [local irreducible] afterS keepE
structure Cz (cz:Nat→Nat→Int):Prop where
 rf:∀a,0≤cz a a
 tr:∀{a b c},0≤cz b a→0≤cz c b→0≤cz c a
 asy:∀{a b},cz a b<0→0≤cz b a
def leZ (cz:Nat→Nat→Int) (a b:Nat):Prop:=0≤cz b a
def CmpC (C:CallT) (f:FuncId) (cs:List AV) (R:List Rs) (ty:TypeId) (t b n:Nat) (cz:Nat→Nat→Int):Prop :=
 ∀(S:St) (l:List Nat) (i j:Nat),ArS S R ty t b l→i<n→j<n→C f (.int .i64 i::.int .i64 j::cs) S fun r S'=>r=.ret (.int .i64 (cz i j))∧S'=S
section
variable {gt:GT} {C:CallT} {R:List Rs} {ty:TypeId} {t b:Nat}
def InsC (C:CallT) (R:List Rs) (ty:TypeId) (t b n:Nat) (g:AV) (cz:Nat→Nat→Int):Prop :=
 ∀(S:St) (xs:List AV) (P X Q:List Nat) (a c:Nat),a=P.length→c=P.length+X.length→(∀x∈X,x<n)→xs.length=(P++(X++Q)).length→(P++(X++Q)).length<2305843009213693952→ArS S R ty t b (P++(X++Q)) →
  C 180 [slA t xs.length xs,.int .i64 a,.int .i64 c,g] S fun r S'=>r=.ret (.tup [])∧∃Z,Z.Perm X∧Srt (leZ cz) Z∧ArS S' R ty t b (P++(Z++Q))
abbrev E_in (t:Nat) (xs:List AV) (a c:Nat) (g:AV) (i:Nat):Env:=[(0,.val (slA t xs.length xs)),(1,.val (.int .i64 a)),(2,.val (.int .i64 c)),(3,.val g),(8,.val (.int .i64 i))]
abbrev E_in2 (t:Nat) (xs:List AV) (a c:Nat) (g:AV) (i j:Nat):Env:=[(0,.val (slA t xs.length xs)),(1,.val (.int .i64 a)),(2,.val (.int .i64 c)),(3,.val g),(8,.val (.int .i64 i)),(9,.val (.int .i64 j))]
theorem srt_ins {cz:Nat→Nat→Int} (hz:Cz cz) {L U:List Nat} {x:Nat} (h:Srt (leZ cz) (L++U)) (h1:∀u∈U,cz x u<0) (h2:∀v,L[L.length-1]? = some v→0≤cz x v):Srt (leZ cz) (L++(x::U)):=by
 obtain⟨a,c,d⟩:=srt_app.1 h
 have hL:∀u∈L,leZ cz u x:=fun u hu=>by
  have:=ends_le (le:=leZ cz) (fun h h'=>hz.tr h h') (x:=L) (y:=[x]) a (List.pairwise_singleton _ _) (fun u v e1 e2=>by
   simp only [List.getElem?_cons_zero,oI] at e2
   subst e2
   exact h2 u e1) (fun a=>hz.rf a)
  exact this u hu x (by simp)
 refine srt_app.2 ⟨a,List.pairwise_cons.2 ⟨fun u hu=>hz.asy (h1 u hu),c⟩,fun u hu v hv=>?_⟩
 rcases List.mem_cons.1 hv with rfl | hv
 ·exact hL u hu
 ·exact d u hu v hv
set_option maxHeartbeats 8000000 in
theorem ins_wp (hm:MonoC C) {f:FuncId} {cs:List AV} {n:Nat} {cz:Nat→Nat→Int} (hz:Cz cz) (hc:CmpC C f cs R ty t b n cz) {S:St} {xs:List AV} {P X Q:List Nat} (hX:∀x∈X,x<n) (hx:xs.length=(P++(X++Q)).length) (hl:(P++(X++Q)).length<2305843009213693952) (hA:ArS S R ty t b (P++(X++Q))) :
  wpF gt C F180 [slA t xs.length xs,.int .i64 P.length,.int .i64 ((P.length+X.length:Nat):Int),.fn f [] cs] S fun r S'=>r=.ret (.tup [])∧∃Z,Z.Perm X∧Srt (leZ cz) Z∧ArS S' R ty t b (P++(Z++Q)):=by
 have hlen:(P++(X++Q)).length=P.length+(X.length+Q.length):=by simp only [lA]
 rw [hlen] at hx hl
 refine⟨rfl,?_⟩
 refine goW ?_
 rw [wrNat (by omega)]
 refine loop_rule hm (α:=List Nat×List Nat×Nat) (fun a env S'=>env=E_in t xs P.length (P.length+X.length) (.fn f [] cs) a.2.2∧(a.2.2=P.length+a.1.length∨(a.2.1=[]∧P.length+X.length≤a.2.2∧a.2.2≤P.length+X.length+1))∧(a.1++a.2.1).Perm X∧Srt (leZ cz) a.1∧ArS S' R ty t b (P++(a.1++(a.2.1++Q)))) (fun a=>P.length+X.length+1-a.2.2) ?_
  (a:=(X.take 1,X.drop 1,P.length+1)) ⟨rfl,?_,by rw [tkD],?_,by rw [←aA (X.take 1),tkD];exact hA⟩
 case refine_2 =>
  cases X with
  | nil=>right;exact⟨rfl,by simp,by simp⟩
  | cons x r=>left;simp
 case refine_3 =>
  cases X with
  | nil=>exact List.Pairwise.nil
  | cons x r=>exact List.pairwise_singleton _ _
 rintro⟨Z,W,i⟩ env S' ⟨rfl,hi,hp,hs,hA⟩
 simp only at hi hp hs hA
 have hpl:=hp.length_eq
 rw [lA] at hpl
 have hmem:∀x∈Z++W,x<n:=fun x hx=>hX x (hp.mem_iff.1 hx)
 refine goW ?_
 by_cases hc1:(i:Int)<((P.length+X.length:Nat):Int)
 ·rw [dT hc1]
  have hi':i=P.length+Z.length:=by
   rcases hi with h | ⟨h1,h2,h3⟩
   ·exact h
   ·omega
  cases W with
  | nil=>simp only [List.length_nil] at hpl;omega
  | cons x W' =>
  simp only [lC] at hpl
  have hxn:x<n:=hmem x (by simp)
  refine goW ?_
  refine loop_rule hm (α:=List Nat×List Nat) (fun a env S'=>env=E_in2 t xs P.length (P.length+X.length) (.fn f [] cs) i (P.length+a.1.length)∧a.1++a.2=Z∧(∀u∈a.2,cz x u<0)∧ArS S' R ty t b (P++(a.1++(x::(a.2++(W'++Q)))))) (fun a=>a.1.length) ?_ (a:=(Z,[])) ⟨by rw [hi'],by simp,fun u hu=>by simp at hu,by simpa using hA⟩
  rintro⟨L,U⟩ env S2 ⟨rfl,hLU,hU,hA⟩
  simp only at hLU hU hA
  have hzl:=congrArg List.length hLU
  rw [lA] at hzl
  have hxl:xs.length=(P++(L++(x::(U++(W'++Q))))).length:=by simp only [lA,lC];omega
  have done:(∀v,L[L.length-1]? = some v→0≤cz x v)→∃a:List Nat×List Nat×Nat,(E_in t xs P.length (P.length+X.length) (.fn f [] cs) (i+1)=E_in t xs P.length (P.length+X.length) (.fn f [] cs) a.2.2∧(a.2.2=P.length+a.1.length∨(a.2.1=[]∧P.length+X.length≤a.2.2∧a.2.2≤P.length+X.length+1))∧(a.1++a.2.1).Perm X∧Srt (leZ cz) a.1∧ArS S2 R ty t b (P++(a.1++(a.2.1++Q))))∧P.length+X.length+1-a.2.2<P.length+X.length+1-i:=fun h=>by
   refine⟨(L++(x::U),W',i+1),⟨rfl,.inl (by simp only [lA,lC];omega),?_,?_,?_⟩,by simp only;omega⟩
   ·refine List.Perm.trans ?_ hp
    simp only
    rw [←hLU,aA,aA,List.cons_append]
    exact List.Perm.append_left L (List.perm_middle.symm)
   ·exact srt_ins hz (by rw [hLU];exact hs) hU h
   ·simpa only [aA,List.cons_append] using hA
  refine goW ?_
  rcases List.eq_nil_or_concat L with hL | ⟨L',v,hL⟩
  ·subst hL
   rw [dF (show ¬((P.length+([]:List Nat).length:Nat):Int) > (P.length:Int) by simp)]
   have done:=done (fun v h=>by simp at h)
   refine goW ?_
   rw [wrNat (by omega)]
   exact done
  rw [List.concat_eq_append] at hL
  subst hL
  have hvl:(L'++[v]).length=L'.length+1:=by simp
  rw [hvl] at hzl
  have hvn:v<n:=hmem v (by rw [←hLU];simp)
  have hA0:=hA
  have done:=fun (h:0≤cz x v)=>done (fun v' h'=>by
   rw [hvl,Nat.add_sub_cancel,get_mid rfl] at h'
   cases h';exact h)
  have e1:P++((L'++[v])++(x::(U++(W'++Q))))=(P++L')++(v::(x::(U++(W'++Q)))):=by simp only [aA,List.cons_append,List.nil_append]
  have e2:P++((L'++[v])++(x::(U++(W'++Q))))=(P++(L'++[v]))++(x::(U++(W'++Q))):=by simp only [aA,List.cons_append,List.nil_append]
  have g1:(P++((L'++[v])++(x::(U++(W'++Q)))))[P.length+L'.length]? = some v:=by rw [e1];exact get_mid (by rw [lA])
  have g2:(P++((L'++[v])++(x::(U++(W'++Q)))))[P.length+L'.length+1]? = some x:=by rw [e2];exact get_mid (by simp only [lA,lC,List.length_nil];omega)
  have s1:(P++((L'++[v])++(x::(U++(W'++Q))))).set (P.length+L'.length+1) v=(P++L')++(v::(v::(U++(W'++Q)))):=by
   rw [e2,set_mid (by simp only [lA,lC,List.length_nil];omega)]
   simp only [aA,List.cons_append,List.nil_append]
  have s2:((P++L')++(v::(v::(U++(W'++Q))))).set (P.length+L'.length) x=P++(L'++(x::((v::U)++(W'++Q)))):=by
   rw [set_mid (by rw [lA])]
   simp only [aA,List.cons_append]
  have hls:((P++L')++(v::(v::(U++(W'++Q))))).length=xs.length:=by rw [←s1,List.length_set,hxl]
  generalize hgl:P++((L'++[v])++(x::(U++(W'++Q))))=l at hA g1 g2 s1 hxl
  rw [hvl]
  have k1:P.length+L'.length<l.length:=by omega
  have k2:P.length+L'.length+1<l.length:=by omega
  have w1:wr .i64 (((P.length+(L'.length+1):Nat):Int)-1)=((P.length+L'.length:Nat):Int):=by rw [wr64 (by omega) (by omega)];omega
  rw [dT (show ((P.length+(L'.length+1):Nat):Int) > (P.length:Int) by omega)]
  refine goW ?_
  refine st_anyD (by exact rfl) rfl rfl (sx_ia (k:=P.length+L'.length+1) rfl rfl (by omega)) (goW ?_)
  refine st_anyD (by exact rfl) rfl rfl (sx_ldEl (agg:=false) rfl (hA.els hxl) (ints_get g2) rfl) (goW ?_)
  rw [w1]
  refine st_anyD (by exact rfl) rfl rfl (sx_ia (k:=P.length+L'.length) rfl rfl (by omega)) (goW ?_)
  refine st_anyD (by exact rfl) rfl rfl (sx_ldEl (agg:=false) rfl (hA.els hxl) (ints_get g1) rfl) (goW ?_)
  refine call_ruleD (by rfl) (hm _ _ _ _ _ (hc S2 l x v hA hxn hvn) ?_)
  rintro r S3 ⟨rfl,rfl⟩
  refine goW ?_
  by_cases hlt:cz x v<0
  case neg =>
   rw [dF hlt]
   have done:=done (by omega)
   refine goW ?_
   rw [wrNat (by omega)]
   exact done
  rw [dT hlt]
  refine goW ?_
  rw [w1]
  refine step_ruleDO rfl rfl (sx_ia (k:=P.length+L'.length) rfl rfl (by omega)) (goW ?_)
  refine step_ruleDO rfl rfl (sx_ldEl (agg:=false) rfl (hA.els hxl) (ints_get g1) rfl) (goW ?_)
  refine step_ruleDO rfl rfl (sx_ia (k:=P.length+L'.length+1) rfl rfl (by omega)) (goW ?_)
  refine step_ruleDO rfl rfl (sx_ldEl (agg:=false) rfl (hA.els hxl) (ints_get g2) rfl) (goW ?_)
  refine step_ruleDO rfl rfl (sx_ia (k:=P.length+L'.length+1) rfl rfl (by omega)) (goW ?_)
  refine st_runPD (hA.st hxl rfl rfl k2) (by trivial) rfl rfl ?_
  intro S4 hA
  rw [s1] at hA
  refine goW ?_
  refine step_ruleDO rfl rfl (sx_ia (k:=P.length+L'.length) rfl rfl (by omega)) (goW ?_)
  refine st_runPD (hA.st hls.symm rfl rfl (by omega)) (by trivial) rfl rfl ?_
  intro S5 hA
  rw [s2] at hA
  refine goW ?_
  refine⟨(L',v::U),⟨?_,by rw [←hLU];simp,fun u hu=>?_,hA⟩,by simp only [hvl];omega⟩
  ·rw [w1]
  ·rcases List.mem_cons.1 hu with rfl | hu
   ·exact hlt
   ·exact hU u hu
 ·rw [dF hc1]
  have hW:W=[]:=by
   rcases hi with h | ⟨h1,_⟩
   ·exact nL (by omega)
   ·exact h1
  subst hW
  rw [List.append_nil] at hp
  refine goW ?_
  exact⟨_,rfl,rfl,Z,hp,hs,by simpa using hA⟩
end

theorem ltZ_le {cz:Nat→Nat→Int} (hz:Cz cz) {u y x:Nat} (h:leZ cz u y) (h1:cz y x<0):cz u x<0:=by
 rcases Int.lt_or_le (cz u x) 0 with q | q
 ·exact q
 ·have:0≤cz y x:=hz.tr (a:=x) (b:=u) (c:=y) q h
  omega
theorem srt_take_le {cz:Nat→Nat→Int} (hz:Cz cz) {Y:List Nat} (h:Srt (leZ cz) Y) {k:Nat} (hk:k<Y.length):∀u∈Y.take (k+1),leZ cz u Y[k]:=by
 intro u hu
 obtain⟨i,hi,rfl⟩:=List.mem_iff_getElem.1 hu
 rw [lT] at hi
 rw [List.getElem_take]
 rcases Nat.lt_or_ge i k with q | q
 ·exact List.pairwise_iff_getElem.1 h i k (by omega) hk q
 ·have:i=k:=by omega
  subst this;exact hz.rf _
theorem srt_drop_ge {cz:Nat→Nat→Int} (hz:Cz cz) {Y:List Nat} (h:Srt (leZ cz) Y) {k:Nat} (hk:k<Y.length):∀u∈Y.drop k,leZ cz Y[k] u:=by
 intro u hu
 obtain⟨i,hi,rfl⟩:=List.mem_iff_getElem.1 hu
 rw [lD] at hi
 rw [List.getElem_drop]
 rcases Nat.eq_zero_or_pos i with q | q
 ·subst q;exact hz.rf _
 ·exact List.pairwise_iff_getElem.1 h k (k+i) hk (by omega) (by omega)
theorem srt_put {cz:Nat→Nat→Int} {Y:List Nat} {x p:Nat} (h:Srt (leZ cz) Y) (h1:∀u∈Y.take p,leZ cz u x) (h2:∀u∈Y.drop p,leZ cz x u):Srt (leZ cz) (Y.take p++(x::Y.drop p)):=by
 rw [←tkD p Y] at h
 obtain⟨a,c,d⟩:=srt_app.1 h
 refine srt_app.2 ⟨a,List.pairwise_cons.2 ⟨h2,c⟩,fun u hu v hv=>?_⟩
 rcases List.mem_cons.1 hv with rfl | hv
 ·exact h1 u hu
 ·exact d u hu v hv
theorem midW {i j:Nat} (h:i+j<9223372036854775808):wr .i64 ((wr .u64 (wr .i64 ((i:Int)+(j:Int)))).fdiv (2 ^ (min (Int.toNat 1) (IntKind.bits .u64))))=(((i+j) / 2:Nat):Int):=by
 rw [wr64 (n:=(i:Int)+(j:Int)) (by omega) (by omega),wr_eq .u64,show IntKind.u64.wrap ((i:Int)+(j:Int))=((i+j:Nat):Int) by
  have:∀n:Int,IntKind.u64.wrap n=n % 18446744073709551616:=fun n=>by simp [IntKind.wrap,IntKind.bits,IntKind.signed]
  rw [this];omega]
 rw [show min (Int.toNat 1) (IntKind.bits .u64)=1 by decide,show ((2:Int) ^ 1)=2 by decide,Int.fdiv_eq_ediv_of_nonneg _ (by decide),wr64 (by omega) (by omega)]
 omega
section
variable {gt:GT} {C:CallT} {R:List Rs} {ty:TypeId} {t b:Nat}
def MrgC (C:CallT) (R:List Rs) (ty:TypeId) (t b n:Nat) (g:AV) (cz:Nat→Nat→Int) (k:Nat):Prop :=
 ∀(S:St) (xs:List AV) (P X Y Q:List Nat) (a m c:Nat),X.length+Y.length≤k→a=P.length→m=P.length+X.length→c=P.length+X.length+Y.length→X≠[]→Y≠[]→(∀x∈X++Y,x<n)→Srt (leZ cz) X→Srt (leZ cz) Y→xs.length=(P++(X++(Y++Q))).length→(P++(X++(Y++Q))).length<1152921504606846976→ArS S R ty t b (P++(X++(Y++Q))) →
  C 181 [slA t xs.length xs,.int .i64 a,.int .i64 m,.int .i64 c,g] S fun r S'=>r=.ret (.tup [])∧∃Z,Z.Perm (X++Y)∧Srt (leZ cz) Z∧ArS S' R ty t b (P++(Z++Q))
abbrev E_m1 (t:Nat) (xs:List AV) (a:Nat) (g:AV) (i j:Nat):Env:=[(0,.val (slA t xs.length xs)),(1,.val (.int .i64 a)),(4,.val g),(10,.val (.int .i64 i)),(11,.val (.int .i64 j))]
abbrev E_m1b (t:Nat) (xs:List AV) (i k:Nat):Env:=[(0,.val (slA t xs.length xs)),(10,.val (.int .i64 i)),(13,.val (.int .i64 k))]
set_option maxHeartbeats 8000000 in
theorem mrg1_wp (hm:MonoC C) {f:FuncId} {cs:List AV} {n:Nat} {cz:Nat→Nat→Int} (hz:Cz cz) (hc:CmpC C f cs R ty t b n cz) {S:St} {xs:List AV} {P Y Q:List Nat} {x:Nat} (hY:∀y∈Y,y<n) (hxn:x<n) (hs:Srt (leZ cz) Y) (hx:xs.length=(P++(x::(Y++Q))).length) (hl:(P++(x::(Y++Q))).length<1152921504606846976) (hA:ArS S R ty t b (P++(x::(Y++Q)))) :
  wpF gt C F181 [slA t xs.length xs,.int .i64 P.length,.int .i64 ((P.length+1:Nat):Int),.int .i64 ((P.length+1+Y.length:Nat):Int),.fn f [] cs] S fun r S'=>r=.ret (.tup [])∧∃Z,Z.Perm (x::Y)∧Srt (leZ cz) Z∧ArS S' R ty t b (P++(Z++Q)):=by
 have hlen:(P++(x::(Y++Q))).length=P.length+(Y.length+Q.length+1):=by simp only [lA,lC]
 rw [hlen] at hl
 refine⟨rfl,?_⟩
 refine goW ?_
 rw [show wr .i64 (((P.length+1:Nat):Int)-(P.length:Int))=1 by rw [wr64 (by omega) (by omega)];omega]
 refine goW ?_
 refine loop_rule hm (α:=Nat×Nat) (fun a env S'=>env=E_m1 t xs P.length (.fn f [] cs) (P.length+1+a.1) (P.length+1+a.2)∧a.1≤a.2∧a.2≤Y.length∧S'=S∧(∀u∈Y.take a.1,cz u x<0)∧(∀u∈Y.drop a.2,0≤cz u x)) (fun a=>a.2-a.1) ?_ (a:=(0,Y.length)) ⟨rfl,Nat.zero_le _,Nat.le_refl _,rfl,by simp,by simp⟩
 rintro⟨i,j⟩ env S' ⟨rfl,h1,h2,rfl,h3,h4⟩
 simp only at h1 h2 h3 h4
 refine goW ?_
 by_cases hij:((P.length+1+i:Nat):Int)<((P.length+1+j:Nat):Int)
 ·rw [dT hij]
  obtain⟨r,hr⟩:∃r,r=(i+j) / 2:=⟨_,rfl⟩
  have hri:i≤r:=by omega
  have hrj:r<j:=by omega
  have hrY:r<Y.length:=by omega
  have g0:(P++(x::(Y++Q)))[P.length]? = some x:=get_mid rfl
  have g1:(P++(x::(Y++Q)))[P.length+1+r]? = some Y[r]:=by
   rw [List.getElem?_append_right (by omega),show P.length+1+r-P.length=r+1 by omega,List.getElem?_cons_succ,List.getElem?_append_left hrY]
   exact gE hrY
  have hcall:=hc S' _ Y[r] x hA (hY _ (List.getElem_mem hrY)) hxn
  have t1:=srt_take_le hz hs hrY
  have t2:=srt_drop_ge hz hs hrY
  generalize Y[r]=y at g1 hcall t1 t2
  refine goW ?_
  rw [midW (by omega),show (P.length+1+i+(P.length+1+j)) / 2=P.length+1+r by omega]
  refine step_ruleDO rfl rfl (sx_ia (k:=P.length+1+r) rfl rfl (by omega)) (goW ?_)
  refine step_ruleDO rfl rfl (sx_ldEl (agg:=false) rfl (hA.els hx) (ints_get g1) rfl) (goW ?_)
  refine step_ruleDO rfl rfl (sx_ia (k:=P.length) rfl rfl (by omega)) (goW ?_)
  refine step_ruleDO rfl rfl (sx_ldEl (agg:=false) rfl (hA.els hx) (ints_get g0) rfl) (goW ?_)
  refine call_ruleD (by rfl) (hm _ _ _ _ _ hcall ?_)
  rintro r' S3 ⟨rfl,rfl⟩
  refine goW ?_
  by_cases hlt:cz y x<0
  ·rw [dT hlt]
   refine goW ?_
   refine⟨(r+1,j),⟨?_,by simp only;omega,h2,rfl,fun u hu=>ltZ_le hz (t1 u hu) hlt,h4⟩,by simp only;omega⟩
   rw [wrNat (by omega)]
   try rfl
  ·rw [dF hlt]
   refine goW ?_
   refine⟨(i,r),⟨rfl,hri,by simp only;omega,rfl,h3,fun u hu=>?_⟩,by simp only;omega⟩
   exact hz.tr (a:=x) (b:=y) (c:=u) (by omega) (t2 u hu)
 ·rw [dF hij]
  obtain rfl:i=j:=by omega
  clear h1 hij
  refine goW ?_
  refine loop_rule hm (α:=Nat) (fun r env S'=>env=E_m1b t xs (P.length+1+i) (P.length+r)∧r≤i∧ArS S' R ty t b (P++(Y.take r++(x::(Y.drop r++Q))))) (fun r=>i-r) ?_ (a:=0) ⟨rfl,Nat.zero_le _,by simpa using hA⟩
  rintro r env S2 ⟨rfl,hri,hA⟩
  have hxr:xs.length=(P++(Y.take r++(x::(Y.drop r++Q)))).length:=by rw [hx];simp only [lA,lC,lT,lD];omega
  refine goW ?_
  rw [show wr .i64 (((P.length+1+i:Nat):Int)-1)=((P.length+i:Nat):Int) by rw [wr64 (by omega) (by omega)];omega]
  by_cases hlt:((P.length+r:Nat):Int)<((P.length+i:Nat):Int)
  ·rw [dT hlt]
   have hrY:r<Y.length:=by omega
   have hd:Y.drop r=Y[r]::Y.drop (r+1):=dC hrY
   have htk:Y.take (r+1)=Y.take r++[Y[r]]:=tS hrY
   have hltk:(Y.take r).length=r:=by rw [lT];omega
   rw [hd] at hA hxr
   generalize Y[r]=y at hA hxr htk
   clear hd
   have g0:(P++(Y.take r++(x::((y::Y.drop (r+1))++Q))))[P.length+r]? = some x:=by rw [←aA];exact get_mid (by rw [lA];omega)
   have g1:(P++(Y.take r++(x::((y::Y.drop (r+1))++Q))))[P.length+r+1]? = some y:=by
    rw [show P++(Y.take r++(x::((y::Y.drop (r+1))++Q)))=(P++(Y.take r++[x]))++(y::(Y.drop (r+1)++Q)) by simp only [aA,List.cons_append,List.nil_append]]
    exact get_mid (by simp only [lA,lC,List.length_nil];omega)
   have s1:(P++(Y.take r++(x::((y::Y.drop (r+1))++Q)))).set (P.length+r) y=(P++Y.take r)++(y::((y::Y.drop (r+1))++Q)):=by rw [←aA];exact set_mid (by rw [lA];omega)
   have s2:((P++Y.take r)++(y::((y::Y.drop (r+1))++Q))).set (P.length+r+1) x=P++(Y.take (r+1)++(x::(Y.drop (r+1)++Q))):=by
    rw [show (P++Y.take r)++(y::((y::Y.drop (r+1))++Q))=(P++(Y.take r++[y]))++(y::(Y.drop (r+1)++Q)) by simp only [aA,List.cons_append,List.nil_append],set_mid (by simp only [lA,lC,List.length_nil];omega),htk]
    simp only [aA,List.cons_append,List.nil_append]
   have hl1:((P++Y.take r)++(y::((y::Y.drop (r+1))++Q))).length=xs.length:=by rw [←s1,List.length_set,hxr]
   generalize P++(Y.take r++(x::((y::Y.drop (r+1))++Q)))=l at hA g0 g1 s1 hxr
   refine goW ?_
   rw [wrNat (by omega)]
   refine step_ruleDO rfl rfl (sx_ia (k:=P.length+r+1) rfl rfl (by omega)) (goW ?_)
   refine step_ruleDO rfl rfl (sx_ldEl (agg:=false) rfl (hA.els hxr) (ints_get g1) rfl) (goW ?_)
   refine step_ruleDO rfl rfl (sx_ia (k:=P.length+r) rfl rfl (by omega)) (goW ?_)
   refine step_ruleDO rfl rfl (sx_ldEl (agg:=false) rfl (hA.els hxr) (ints_get g0) rfl) (goW ?_)
   refine step_ruleDO rfl rfl (sx_ia (k:=P.length+r) rfl rfl (by omega)) (goW ?_)
   refine st_runPD (hA.st hxr rfl rfl (by omega)) (by trivial) rfl rfl ?_
   intro S4 hA
   rw [s1] at hA
   refine goW ?_
   refine step_ruleDO rfl rfl (sx_ia (k:=P.length+r+1) rfl rfl (by omega)) (goW ?_)
   refine st_runPD (hA.st hl1.symm rfl rfl (by omega)) (by trivial) rfl rfl ?_
   intro S5 hA
   rw [s2] at hA
   refine goW ?_
   refine⟨r+1,⟨?_,by omega,hA⟩,by omega⟩
   rw [wrNat (by omega)]
   try rfl
  ·rw [dF hlt]
   obtain rfl:r=i:=by omega
   refine goW ?_
   refine⟨_,rfl,rfl,Y.take r++(x::Y.drop r),?_,srt_put hs (fun u hu=>hz.asy (h3 u hu)) (fun u hu=>h4 u hu),by simpa only [aA,List.cons_append] using hA⟩
   have:=List.perm_middle (a:=x) (l₁:=Y.take r) (l₂:=Y.drop r)
   rwa [tkD] at this
end

section
variable {gt:GT} {C:CallT} {R:List Rs} {ty:TypeId} {t b:Nat}
abbrev E_m2 (t:Nat) (xs:List AV) (m:Nat) (g:AV) (i j:Nat):Env:=[(0,.val (slA t xs.length xs)),(2,.val (.int .i64 m)),(4,.val g),(14,.val (.int .i64 i)),(15,.val (.int .i64 j))]
abbrev E_m2b (t:Nat) (xs:List AV) (i k:Nat):Env:=[(0,.val (slA t xs.length xs)),(14,.val (.int .i64 i)),(17,.val (.int .i64 k))]
set_option maxHeartbeats 8000000 in
theorem mrg2_wp (hm:MonoC C) {f:FuncId} {cs:List AV} {n:Nat} {cz:Nat→Nat→Int} (hz:Cz cz) (hc:CmpC C f cs R ty t b n cz) {S:St} {xs:List AV} {P Y Q:List Nat} {x:Nat} (hY:∀y∈Y,y<n) (hxn:x<n) (hs:Srt (leZ cz) Y) (h2:2≤Y.length) (hx:xs.length=(P++(Y++(x::Q))).length) (hl:(P++(Y++(x::Q))).length<1152921504606846976) (hA:ArS S R ty t b (P++(Y++(x::Q)))) :
  wpF gt C F181 [slA t xs.length xs,.int .i64 P.length,.int .i64 ((P.length+Y.length:Nat):Int),.int .i64 ((P.length+Y.length+1:Nat):Int),.fn f [] cs] S fun r S'=>r=.ret (.tup [])∧∃Z,Z.Perm (Y++[x])∧Srt (leZ cz) Z∧ArS S' R ty t b (P++(Z++Q)):=by
 have hlen:(P++(Y++(x::Q))).length=P.length+(Y.length+(Q.length+1)):=by simp only [lA,lC]
 rw [hlen] at hl
 refine⟨rfl,?_⟩
 refine goW ?_
 rw [show wr .i64 (((P.length+Y.length:Nat):Int)-(P.length:Int))=(Y.length:Int) by rw [wr64 (by omega) (by omega)];omega,eqI_false (show ¬(Y.length:Int)=1 by omega)]
 refine goW ?_
 rw [show wr .i64 (((P.length+Y.length+1:Nat):Int)-((P.length+Y.length:Nat):Int))=1 by rw [wr64 (by omega) (by omega)];omega]
 refine goW ?_
 refine loop_rule hm (α:=Nat×Nat) (fun a env S'=>env=E_m2 t xs (P.length+Y.length) (.fn f [] cs) (P.length+a.1) (P.length+a.2)∧a.1≤a.2∧a.2≤Y.length∧S'=S∧(∀u∈Y.take a.1,0≤cz x u)∧(∀u∈Y.drop a.2,cz x u<0)) (fun a=>a.2-a.1) ?_ (a:=(0,Y.length)) ⟨rfl,Nat.zero_le _,Nat.le_refl _,rfl,by simp,by simp⟩
 rintro⟨i,j⟩ env S' ⟨rfl,h1,h2',rfl,h3,h4⟩
 simp only at h1 h2' h3 h4
 refine goW ?_
 by_cases hij:((P.length+i:Nat):Int)<((P.length+j:Nat):Int)
 ·rw [dT hij]
  obtain⟨r,hr⟩:∃r,r=(i+j) / 2:=⟨_,rfl⟩
  have hri:i≤r:=by omega
  have hrj:r<j:=by omega
  have hrY:r<Y.length:=by omega
  have g0:(P++(Y++(x::Q)))[P.length+Y.length]? = some x:=by rw [←aA];exact get_mid (by rw [lA])
  have g1:(P++(Y++(x::Q)))[P.length+r]? = some Y[r]:=by
   rw [List.getElem?_append_right (by omega),show P.length+r-P.length=r by omega,List.getElem?_append_left hrY]
   exact gE hrY
  have hcall:=hc S' _ x Y[r] hA hxn (hY _ (List.getElem_mem hrY))
  have t1:=srt_take_le hz hs hrY
  have t2:=srt_drop_ge hz hs hrY
  generalize Y[r]=y at g1 hcall t1 t2
  refine goW ?_
  rw [midW (by omega),show (P.length+i+(P.length+j)) / 2=P.length+r by omega]
  refine step_ruleDO rfl rfl (sx_ia (k:=P.length+Y.length) rfl rfl (by omega)) (goW ?_)
  refine step_ruleDO rfl rfl (sx_ldEl (agg:=false) rfl (hA.els hx) (ints_get g0) rfl) (goW ?_)
  refine step_ruleDO rfl rfl (sx_ia (k:=P.length+r) rfl rfl (by omega)) (goW ?_)
  refine step_ruleDO rfl rfl (sx_ldEl (agg:=false) rfl (hA.els hx) (ints_get g1) rfl) (goW ?_)
  refine call_ruleD (by rfl) (hm _ _ _ _ _ hcall ?_)
  rintro r' S3 ⟨rfl,rfl⟩
  refine goW ?_
  by_cases hlt:cz x y<0
  ·rw [dT hlt]
   refine goW ?_
   refine⟨(i,r),⟨rfl,hri,by simp only;omega,rfl,h3,fun u hu=>?_⟩,by simp only;omega⟩
   rcases Int.lt_or_le (cz x u) 0 with q | q
   ·exact q
   ·have:0≤cz x y:=hz.tr (a:=y) (b:=u) (c:=x) (t2 u hu) q
    omega
  ·rw [dF hlt]
   refine goW ?_
   refine⟨(r+1,j),⟨?_,by simp only;omega,h2',rfl,fun u hu=>?_,h4⟩,by simp only;omega⟩
   ·rw [wrNat (by omega)]
    try rfl
   ·exact hz.tr (a:=u) (b:=y) (c:=x) (t1 u hu) (by omega)
 ·rw [dF hij]
  obtain rfl:i=j:=by omega
  clear h1 hij
  refine goW ?_
  refine loop_rule hm (α:=Nat) (fun r env S'=>env=E_m2b t xs (P.length+i) (P.length+r)∧i≤r∧r≤Y.length∧ArS S' R ty t b (P++(Y.take r++(x::(Y.drop r++Q))))) (fun r=>r) ?_ (a:=Y.length) ⟨rfl,h2',Nat.le_refl _,by simpa using hA⟩
  rintro r env S2 ⟨rfl,hri,hrY,hA⟩
  have hxr:xs.length=(P++(Y.take r++(x::(Y.drop r++Q)))).length:=by rw [hx];simp only [lA,lC,lT,lD];omega
  refine goW ?_
  by_cases hlt:((P.length+r:Nat):Int) > ((P.length+i:Nat):Int)
  ·rw [dT hlt]
   obtain⟨q,rfl⟩:∃q,r=q+1:=⟨r-1,by omega⟩
   have hqY:q<Y.length:=by omega
   have hd:Y.drop q=Y[q]::Y.drop (q+1):=dC hqY
   have htk:Y.take (q+1)=Y.take q++[Y[q]]:=tS hqY
   have hltk:(Y.take q).length=q:=by rw [lT];omega
   rw [htk] at hA hxr
   generalize Y[q]=y at hA hxr hd
   clear htk
   have g0:(P++((Y.take q++[y])++(x::(Y.drop (q+1)++Q))))[P.length+q+1]? = some x:=by
    rw [←aA];exact get_mid (by simp only [lA,lC,List.length_nil];omega)
   have g1:(P++((Y.take q++[y])++(x::(Y.drop (q+1)++Q))))[P.length+q]? = some y:=by
    rw [show P++((Y.take q++[y])++(x::(Y.drop (q+1)++Q)))=(P++Y.take q)++(y::(x::(Y.drop (q+1)++Q))) by simp only [aA,List.cons_append,List.nil_append]]
    exact get_mid (by rw [lA];omega)
   have s1:(P++((Y.take q++[y])++(x::(Y.drop (q+1)++Q)))).set (P.length+q+1) y=(P++Y.take q)++(y::(y::(Y.drop (q+1)++Q))):=by
    rw [←aA,set_mid (by simp only [lA,lC,List.length_nil];omega)]
    simp only [aA,List.cons_append,List.nil_append]
   have s2:((P++Y.take q)++(y::(y::(Y.drop (q+1)++Q)))).set (P.length+q) x=P++(Y.take q++(x::(Y.drop q++Q))):=by
    rw [set_mid (by rw [lA];omega),hd]
    simp only [aA,List.cons_append]
   have hl1:((P++Y.take q)++(y::(y::(Y.drop (q+1)++Q)))).length=xs.length:=by rw [←s1,List.length_set,hxr]
   generalize P++((Y.take q++[y])++(x::(Y.drop (q+1)++Q)))=l at hA g0 g1 s1 hxr
   have w1:wr .i64 (((P.length+(q+1):Nat):Int)-1)=((P.length+q:Nat):Int):=by rw [wr64 (by omega) (by omega)];omega
   refine goW ?_
   rw [w1]
   refine step_ruleDO rfl rfl (sx_ia (k:=P.length+q) rfl rfl (by omega)) (goW ?_)
   refine step_ruleDO rfl rfl (sx_ldEl (agg:=false) rfl (hA.els hxr) (ints_get g1) rfl) (goW ?_)
   refine step_ruleDO rfl rfl (sx_ia (k:=P.length+q+1) rfl rfl (by omega)) (goW ?_)
   refine step_ruleDO rfl rfl (sx_ldEl (agg:=false) rfl (hA.els hxr) (ints_get g0) rfl) (goW ?_)
   refine step_ruleDO rfl rfl (sx_ia (k:=P.length+q+1) rfl rfl (by omega)) (goW ?_)
   refine st_runPD (hA.st hxr rfl rfl (by omega)) (by trivial) rfl rfl ?_
   intro S4 hA
   rw [s1] at hA
   refine goW ?_
   refine step_ruleDO rfl rfl (sx_ia (k:=P.length+q) rfl rfl (by omega)) (goW ?_)
   refine st_runPD (hA.st hl1.symm rfl rfl (by omega)) (by trivial) rfl rfl ?_
   intro S5 hA
   rw [s2] at hA
   refine goW ?_
   refine⟨q,⟨?_,by omega,by omega,hA⟩,by omega⟩
   rw [w1]
  ·rw [dF hlt]
   obtain rfl:r=i:=by omega
   refine goW ?_
   refine⟨_,rfl,rfl,Y.take r++(x::Y.drop r),?_,srt_put hs (fun u hu=>h3 u hu) (fun u hu=>hz.asy (h4 u hu)),by simpa only [aA,List.cons_append] using hA⟩
   have:=List.perm_middle (a:=x) (l₁:=Y.take r) (l₂:=Y.drop r)
   rw [tkD] at this
   exact this.trans (List.perm_append_singleton x Y).symm
end

section
variable {gt:GT} {C:CallT} {R:List Rs} {ty:TypeId} {t b:Nat}
set_option maxHeartbeats 8000000 in
theorem mrgLast_wp (hm:MonoC C) {f:FuncId} {cs:List AV} {n k:Nat} {cz:Nat→Nat→Int} (ih:MrgC C R ty t b n (.fn f [] cs) cz k) {S:St} {xs:List AV} {P B D Q:List Nat} {mid e c:Nat} {z:Env} {G:St→Prop}
  (h1:mid=P.length) (h2:e=P.length+B.length) (h3:c=P.length+B.length+D.length) (hk:B≠[]→D≠[]→B.length+D.length≤k) (hn:∀x∈B++D,x<n) (hB:Srt (leZ cz) B) (hD:Srt (leZ cz) D)
  (hx:xs.length=(P++(B++(D++Q))).length) (hl:(P++(B++(D++Q))).length<1152921504606846976) (hA:ArS S R ty t b (P++(B++(D++Q))))
  (fin:∀S' Z,Z.Perm (B++D)→Srt (leZ cz) Z→ArS S' R ty t b (P++(Z++Q))→G S') :
  wpD gt C F181.body.rt.rt.rt.rt.rt.rt.rt.rt.rt.rt.rt ((0,.val (slA t xs.length xs))::(3,.val (.int .i64 c))::(4,.val (.fn f [] cs))::(18,.val (.int .i64 mid))::(24,.val (.int .i64 e))::z) S (bodyQ gt F181.res fun r S'=>r=.ret (.tup [])∧G S'):=by
 have triv:(B=[]∨D=[])→G S:=fun h=>fin S (B++D) (List.Perm.refl _) (by rcases h with rfl | rfl;exact hD;rw [List.append_nil];exact hB) (by rw [aA];exact hA)
 conv=>whnf
 refine goW ?_
 by_cases c1:(mid:Int)<(e:Int)
 ·rw [dT c1]
  refine goW ?_
  by_cases c2:(e:Int)<(c:Int)
  ·rw [dT c2]
   have b1:B≠[]:=fun h=>by rw [h] at h2;simp at h2;omega
   have b2:D≠[]:=fun h=>by rw [h] at h3;simp at h3;omega
   refine goW ?_
   refine call_rule (by rfl) (hm _ _ _ _ _ (ih S xs P B D Q mid e c (hk b1 b2) h1 h2 h3 b1 b2 hn hB hD hx hl hA) ?_)
   rintro r S2 ⟨rfl,Z,z1,z2,z3⟩
   refine goW ?_
   exact⟨_,rfl,rfl,fin S2 Z z1 z2 z3⟩
  ·rw [dF c2]
   have:D=[]:=nL (by omega)
   refine goW ?_
   exact⟨_,rfl,rfl,triv (.inr this)⟩
 ·rw [dF c1]
  have:B=[]:=nL (by omega)
  refine goW ?_
  exact⟨_,rfl,rfl,triv (.inl this)⟩
set_option maxHeartbeats 8000000 in
theorem mrgLast2_wp (hm:MonoC C) {f:FuncId} {cs:List AV} {n k:Nat} {cz:Nat→Nat→Int} (ih:MrgC C R ty t b n (.fn f [] cs) cz k) {S:St} {xs:List AV} {P B D Q:List Nat} {mid e c:Nat} {o1 o2:Ent} {z:Env} {G:St→Prop}
  (h1:mid=P.length) (h2:e=P.length+B.length) (h3:c=P.length+B.length+D.length) (hk:B≠[]→D≠[]→B.length+D.length≤k) (hn:∀x∈B++D,x<n) (hB:Srt (leZ cz) B) (hD:Srt (leZ cz) D)
  (hx:xs.length=(P++(B++(D++Q))).length) (hl:(P++(B++(D++Q))).length<1152921504606846976) (hA:ArS S R ty t b (P++(B++(D++Q))))
  (fin:∀S' Z,Z.Perm (B++D)→Srt (leZ cz) Z→ArS S' R ty t b (P++(Z++Q))→G S') :
  wpD gt C F181.body.rt.rt.rt.rt.rt.rt.rt.rt.rt.rt.rt ((0,.val (slA t xs.length xs))::(1,o1)::(3,.val (.int .i64 c))::(4,.val (.fn f [] cs))::(18,.val (.int .i64 mid))::(20,o2)::(24,.val (.int .i64 e))::z) S (bodyQ gt F181.res fun r S'=>r=.ret (.tup [])∧G S'):=by
 have triv:(B=[]∨D=[])→G S:=fun h=>fin S (B++D) (List.Perm.refl _) (by rcases h with rfl | rfl;exact hD;rw [List.append_nil];exact hB) (by rw [aA];exact hA)
 conv=>whnf
 refine goW ?_
 by_cases c1:(mid:Int)<(e:Int)
 ·rw [dT c1]
  refine goW ?_
  by_cases c2:(e:Int)<(c:Int)
  ·rw [dT c2]
   have b1:B≠[]:=fun h=>by rw [h] at h2;simp at h2;omega
   have b2:D≠[]:=fun h=>by rw [h] at h3;simp at h3;omega
   refine goW ?_
   refine call_rule (by rfl) (hm _ _ _ _ _ (ih S xs P B D Q mid e c (hk b1 b2) h1 h2 h3 b1 b2 hn hB hD hx hl hA) ?_)
   rintro r S2 ⟨rfl,Z,z1,z2,z3⟩
   refine goW ?_
   exact⟨_,rfl,rfl,fin S2 Z z1 z2 z3⟩
  ·rw [dF c2]
   have:D=[]:=nL (by omega)
   refine goW ?_
   exact⟨_,rfl,rfl,triv (.inr this)⟩
 ·rw [dF c1]
  have:B=[]:=nL (by omega)
  refine goW ?_
  exact⟨_,rfl,rfl,triv (.inl this)⟩
set_option maxHeartbeats 8000000 in
theorem mrgFirst_wp (hm:MonoC C) {f:FuncId} {cs:List AV} {n k:Nat} {cz:Nat→Nat→Int} (ih:MrgC C R ty t b n (.fn f [] cs) cz k) {S:St} {xs:List AV} {P A V B D Q:List Nat} {a mid s e c:Nat} {z:Env} {G:St→Prop}
  (h0:a=P.length) (h1:mid=P.length+A.length+V.length) (h2:s=P.length+A.length) (h3:e=mid+B.length) (h4:c=e+D.length) (hk1:A≠[]→V≠[]→A.length+V.length≤k) (hk2:B≠[]→D≠[]→B.length+D.length≤k)
  (hn:∀x∈(A++V)++(B++D),x<n) (sA:Srt (leZ cz) A) (sV:Srt (leZ cz) V) (sB:Srt (leZ cz) B) (sD:Srt (leZ cz) D)
  (hx:xs.length=(P++(A++(V++(B++(D++Q))))).length) (hl:(P++(A++(V++(B++(D++Q))))).length<1152921504606846976) (hA:ArS S R ty t b (P++(A++(V++(B++(D++Q))))))
  (fin:∀S' Z1 Z2,Z1.Perm (A++V)→Srt (leZ cz) Z1→Z2.Perm (B++D)→Srt (leZ cz) Z2→ArS S' R ty t b (P++((Z1++Z2)++Q))→G S') :
  wpD gt C F181.body.rt.rt.rt.rt.rt.rt.rt.rt.rt.rt ((0,.val (slA t xs.length xs))::(1,.val (.int .i64 a))::(3,.val (.int .i64 c))::(4,.val (.fn f [] cs))::(18,.val (.int .i64 mid))::(20,.val (.int .i64 s))::(24,.val (.int .i64 e))::z) S (bodyQ gt F181.res fun r S'=>r=.ret (.tup [])∧G S'):=by
 have hlen:(P++(A++(V++(B++(D++Q))))).length=P.length+(A.length+(V.length+(B.length+(D.length+Q.length)))):=by simp only [lA]
 have next:∀(S:St) (Z1:List Nat) (z:Env),Z1.Perm (A++V)→Srt (leZ cz) Z1→ArS S R ty t b (P++(Z1++(B++(D++Q))))→wpD gt C F181.body.rt.rt.rt.rt.rt.rt.rt.rt.rt.rt.rt ((0,.val (slA t xs.length xs))::(3,.val (.int .i64 c))::(4,.val (.fn f [] cs))::(18,.val (.int .i64 mid))::(24,.val (.int .i64 e))::z) S (bodyQ gt F181.res fun r S'=>r=.ret (.tup [])∧G S'):=fun S Z1 z p1 s1 hA=>by
  have zl:=p1.length_eq
  rw [lA] at zl
  refine mrgLast_wp (gt:=gt) hm ih (P:=P++Z1) (B:=B) (D:=D) (Q:=Q) (by rw [lA];omega) (by rw [lA];omega) (by rw [lA];omega) hk2 (fun x hx=>hn x (List.mem_append_right _ hx)) sB sD (by rw [hx];simp only [lA];omega) (by rw [hlen] at hl;simp only [lA];omega) (by rw [aA];exact hA) ?_
  intro S' Z2 p2 s2 hA2
  exact fin S' Z1 Z2 p1 s1 p2 s2 (by simpa only [aA] using hA2)
 have triv:(A=[]∨V=[])→∀(o1 o2:Ent) z,wpD gt C F181.body.rt.rt.rt.rt.rt.rt.rt.rt.rt.rt.rt ((0,.val (slA t xs.length xs))::(1,o1)::(3,.val (.int .i64 c))::(4,.val (.fn f [] cs))::(18,.val (.int .i64 mid))::(20,o2)::(24,.val (.int .i64 e))::z) S (bodyQ gt F181.res fun r S'=>r=.ret (.tup [])∧G S'):=fun h o1 o2 z =>
  mrgLast2_wp (gt:=gt) hm ih (P:=P++(A++V)) (B:=B) (D:=D) (Q:=Q) (by simp only [lA];omega) (by simp only [lA];omega) (by simp only [lA];omega) hk2 (fun x hx=>hn x (List.mem_append_right _ hx)) sB sD (by rw [hx];simp only [lA];omega) (by rw [hlen] at hl;simp only [lA];omega) (by simpa only [aA] using hA) fun S' Z2 p2 s2 hA2 =>
   fin S' (A++V) Z2 (List.Perm.refl _) (by rcases h with rfl | rfl;exact sV;rw [List.append_nil];exact sA) p2 s2 (by simpa only [aA] using hA2)
 conv=>whnf
 refine goW ?_
 by_cases c1:(a:Int)<(s:Int)
 ·rw [dT c1]
  refine goW ?_
  by_cases c2:(s:Int)<(mid:Int)
  ·rw [dT c2]
   have b1:A≠[]:=fun h=>by rw [h] at h2;simp at h2;omega
   have b2:V≠[]:=fun h=>by rw [h] at h1;simp at h1;omega
   refine goW ?_
   refine call_rule (by rfl) (hm _ _ _ _ _ (ih S xs P A V (B++(D++Q)) a s mid (hk1 b1 b2) h0 h2 h1 b1 b2 (fun x hx=>hn x (List.mem_append_left _ hx)) sA sV hx hl hA) ?_)
   rintro r S2 ⟨rfl,Z1,z1,z2,z3⟩
   have next:=next S2 Z1 [] z1 z2 z3
   refine goK ?_
   with_unfolding_all exact next
  ·rw [dF c2]
   have triv:=triv (.inr (nL (by omega)))
   refine goK ?_
   with_unfolding_all exact triv _ _ _
 ·rw [dF c1]
  have triv:=triv (.inl (nL (by omega)))
  refine goK ?_
  with_unfolding_all exact triv _ _ _
set_option maxHeartbeats 8000000 in
theorem mrgFirst2_wp (hm:MonoC C) {f:FuncId} {cs:List AV} {n k:Nat} {cz:Nat→Nat→Int} (ih:MrgC C R ty t b n (.fn f [] cs) cz k) {S:St} {xs:List AV} {P A V B D Q:List Nat} {a mid s e c:Nat} {o:Ent} {z:Env} {G:St→Prop}
  (h0:a=P.length) (h1:mid=P.length+A.length+V.length) (h2:s=P.length+A.length) (h3:e=mid+B.length) (h4:c=e+D.length) (hk1:A≠[]→V≠[]→A.length+V.length≤k) (hk2:B≠[]→D≠[]→B.length+D.length≤k)
  (hn:∀x∈(A++V)++(B++D),x<n) (sA:Srt (leZ cz) A) (sV:Srt (leZ cz) V) (sB:Srt (leZ cz) B) (sD:Srt (leZ cz) D)
  (hx:xs.length=(P++(A++(V++(B++(D++Q))))).length) (hl:(P++(A++(V++(B++(D++Q))))).length<1152921504606846976) (hA:ArS S R ty t b (P++(A++(V++(B++(D++Q))))))
  (fin:∀S' Z1 Z2,Z1.Perm (A++V)→Srt (leZ cz) Z1→Z2.Perm (B++D)→Srt (leZ cz) Z2→ArS S' R ty t b (P++((Z1++Z2)++Q))→G S') :
  wpD gt C F181.body.rt.rt.rt.rt.rt.rt.rt.rt.rt.rt ((0,.val (slA t xs.length xs))::(1,.val (.int .i64 a))::(2,o)::(3,.val (.int .i64 c))::(4,.val (.fn f [] cs))::(18,.val (.int .i64 mid))::(20,.val (.int .i64 s))::(24,.val (.int .i64 e))::z) S (bodyQ gt F181.res fun r S'=>r=.ret (.tup [])∧G S'):=by
 have hlen:(P++(A++(V++(B++(D++Q))))).length=P.length+(A.length+(V.length+(B.length+(D.length+Q.length)))):=by simp only [lA]
 have next:∀(S:St) (Z1:List Nat) (z:Env),Z1.Perm (A++V)→Srt (leZ cz) Z1→ArS S R ty t b (P++(Z1++(B++(D++Q))))→wpD gt C F181.body.rt.rt.rt.rt.rt.rt.rt.rt.rt.rt.rt ((0,.val (slA t xs.length xs))::(3,.val (.int .i64 c))::(4,.val (.fn f [] cs))::(18,.val (.int .i64 mid))::(24,.val (.int .i64 e))::z) S (bodyQ gt F181.res fun r S'=>r=.ret (.tup [])∧G S'):=fun S Z1 z p1 s1 hA=>by
  have zl:=p1.length_eq
  rw [lA] at zl
  refine mrgLast_wp (gt:=gt) hm ih (P:=P++Z1) (B:=B) (D:=D) (Q:=Q) (by rw [lA];omega) (by rw [lA];omega) (by rw [lA];omega) hk2 (fun x hx=>hn x (List.mem_append_right _ hx)) sB sD (by rw [hx];simp only [lA];omega) (by rw [hlen] at hl;simp only [lA];omega) (by rw [aA];exact hA) ?_
  intro S' Z2 p2 s2 hA2
  exact fin S' Z1 Z2 p1 s1 p2 s2 (by simpa only [aA] using hA2)
 have triv:(A=[]∨V=[])→∀(o1 o2:Ent) z,wpD gt C F181.body.rt.rt.rt.rt.rt.rt.rt.rt.rt.rt.rt ((0,.val (slA t xs.length xs))::(1,o1)::(3,.val (.int .i64 c))::(4,.val (.fn f [] cs))::(18,.val (.int .i64 mid))::(20,o2)::(24,.val (.int .i64 e))::z) S (bodyQ gt F181.res fun r S'=>r=.ret (.tup [])∧G S'):=fun h o1 o2 z =>
  mrgLast2_wp (gt:=gt) hm ih (P:=P++(A++V)) (B:=B) (D:=D) (Q:=Q) (by simp only [lA];omega) (by simp only [lA];omega) (by simp only [lA];omega) hk2 (fun x hx=>hn x (List.mem_append_right _ hx)) sB sD (by rw [hx];simp only [lA];omega) (by rw [hlen] at hl;simp only [lA];omega) (by simpa only [aA] using hA) fun S' Z2 p2 s2 hA2 =>
   fin S' (A++V) Z2 (List.Perm.refl _) (by rcases h with rfl | rfl;exact sV;rw [List.append_nil];exact sA) p2 s2 (by simpa only [aA] using hA2)
 conv=>whnf
 refine goW ?_
 by_cases c1:(a:Int)<(s:Int)
 ·rw [dT c1]
  refine goW ?_
  by_cases c2:(s:Int)<(mid:Int)
  ·rw [dT c2]
   have b1:A≠[]:=fun h=>by rw [h] at h2;simp at h2;omega
   have b2:V≠[]:=fun h=>by rw [h] at h1;simp at h1;omega
   refine goW ?_
   refine call_rule (by rfl) (hm _ _ _ _ _ (ih S xs P A V (B++(D++Q)) a s mid (hk1 b1 b2) h0 h2 h1 b1 b2 (fun x hx=>hn x (List.mem_append_left _ hx)) sA sV hx hl hA) ?_)
   rintro r S2 ⟨rfl,Z1,z1,z2,z3⟩
   have next:=next S2 Z1 [] z1 z2 z3
   refine goK ?_
   with_unfolding_all exact next
  ·rw [dF c2]
   have triv:=triv (.inr (nL (by omega)))
   refine goK ?_
   with_unfolding_all exact triv _ _ _
 ·rw [dF c1]
  have triv:=triv (.inl (nL (by omega)))
  refine goK ?_
  with_unfolding_all exact triv _ _ _
end

section
variable {gt:GT} {C:CallT} {R:List Rs} {ty:TypeId} {t b:Nat}
set_option maxHeartbeats 8000000 in
theorem mrgRot_wp (hm:MonoC C) {f:FuncId} {cs:List AV} {n k:Nat} {cz:Nat→Nat→Int} (ih:MrgC C R ty t b n (.fn f [] cs) cz k) (hr:RotC C R ty t b (.fn f [] cs)) {S:St} {xs:List AV} {P A V B D Q:List Nat} {a m mid s e c:Nat} {z:Env} {G:St→Prop}
  (h0:a=P.length) (hmm:m=P.length+A.length+B.length) (h1:mid=P.length+A.length+V.length) (h2:s=P.length+A.length) (h3:e=mid+B.length) (h4:c=e+D.length) (hk1:A≠[]→V≠[]→A.length+V.length≤k) (hk2:B≠[]→D≠[]→B.length+D.length≤k)
  (hn:∀x∈(A++V)++(B++D),x<n) (sA:Srt (leZ cz) A) (sV:Srt (leZ cz) V) (sB:Srt (leZ cz) B) (sD:Srt (leZ cz) D)
  (hx:xs.length=(P++(A++(B++(V++(D++Q))))).length) (hl:(P++(A++(B++(V++(D++Q))))).length<1152921504606846976) (hA:ArS S R ty t b (P++(A++(B++(V++(D++Q))))))
  (fin:∀S' Z1 Z2,Z1.Perm (A++V)→Srt (leZ cz) Z1→Z2.Perm (B++D)→Srt (leZ cz) Z2→ArS S' R ty t b (P++((Z1++Z2)++Q))→G S') :
  wpD gt C F181.body.rt.rt.rt.rt.rt.rt.rt.rt.rt ((0,.val (slA t xs.length xs))::(1,.val (.int .i64 a))::(2,.val (.int .i64 m))::(3,.val (.int .i64 c))::(4,.val (.fn f [] cs))::(18,.val (.int .i64 mid))::(20,.val (.int .i64 s))::(24,.val (.int .i64 e))::z) S (bodyQ gt F181.res fun r S'=>r=.ret (.tup [])∧G S'):=by
 have hlen:(P++(A++(B++(V++(D++Q))))).length=P.length+(A.length+(B.length+(V.length+(D.length+Q.length)))):=by simp only [lA]
 have hlen2:(P++(A++(V++(B++(D++Q))))).length=P.length+(A.length+(B.length+(V.length+(D.length+Q.length)))):=by simp only [lA];omega
 rw [hlen] at hx hl
 have triv:(B=[]∨V=[])→∀(o:Ent) z,wpD gt C F181.body.rt.rt.rt.rt.rt.rt.rt.rt.rt.rt ((0,.val (slA t xs.length xs))::(1,.val (.int .i64 a))::(2,o)::(3,.val (.int .i64 c))::(4,.val (.fn f [] cs))::(18,.val (.int .i64 mid))::(20,.val (.int .i64 s))::(24,.val (.int .i64 e))::z) S (bodyQ gt F181.res fun r S'=>r=.ret (.tup [])∧G S'):=fun h o z =>
  mrgFirst2_wp (gt:=gt) hm ih (P:=P) (A:=A) (V:=V) (B:=B) (D:=D) (Q:=Q) h0 h1 h2 h3 h4 hk1 hk2 hn sA sV sB sD (by rw [hlen2];exact hx) (by rw [hlen2];exact hl) (by rcases h with rfl | rfl<;>exact hA) fin
 have next:∀(S:St) z,ArS S R ty t b (P++(A++(V++(B++(D++Q)))))→wpD gt C F181.body.rt.rt.rt.rt.rt.rt.rt.rt.rt.rt ((0,.val (slA t xs.length xs))::(1,.val (.int .i64 a))::(3,.val (.int .i64 c))::(4,.val (.fn f [] cs))::(18,.val (.int .i64 mid))::(20,.val (.int .i64 s))::(24,.val (.int .i64 e))::z) S (bodyQ gt F181.res fun r S'=>r=.ret (.tup [])∧G S'):=fun S z hA =>
  mrgFirst_wp (gt:=gt) hm ih (P:=P) (A:=A) (V:=V) (B:=B) (D:=D) (Q:=Q) h0 h1 h2 h3 h4 hk1 hk2 hn sA sV sB sD (by rw [hlen2];exact hx) (by rw [hlen2];exact hl) hA fin
 conv=>whnf
 refine goW ?_
 by_cases c1:(s:Int)<(m:Int)
 ·rw [dT c1]
  refine goW ?_
  by_cases c2:(m:Int)<(e:Int)
  ·rw [dT c2]
   have b1:B≠[]:=fun h=>by rw [h] at hmm;simp at hmm;omega
   have b2:V≠[]:=fun h=>by rw [h] at h1;simp at h1;omega
   refine goW ?_
   refine call_rule (by rfl) (hm _ _ _ _ _ (hr S xs (P++A) B V (D++Q) s m e (by rw [lA];exact h2) (by rw [lA];exact hmm) (by rw [lA];omega) b1 b2 (by simp only [lA];omega) (by simp only [lA];omega) (by rw [aA];exact hA)) ?_)
   rintro r S2 ⟨rfl,hA2⟩
   rw [aA] at hA2
   have next:=next S2 [] hA2
   refine goK ?_
   with_unfolding_all exact next
  ·rw [dF c2]
   have triv:=triv (.inr (nL (by omega)))
   refine goK ?_
   with_unfolding_all exact triv _ _
 ·rw [dF c1]
  have triv:=triv (.inl (nL (by omega)))
  refine goK ?_
  with_unfolding_all exact triv _ _
abbrev E_sr (t:Nat) (xs:List AV) (a m c:Nat) (g:AV) (mid n s r p:Nat):Env:=[(0,.val (slA t xs.length xs)),(1,.val (.int .i64 a)),(2,.val (.int .i64 m)),(3,.val (.int .i64 c)),(4,.val g),(18,.val (.int .i64 mid)),(19,.val (.int .i64 n)),(20,.val (.int .i64 s)),(21,.val (.int .i64 r)),(22,.val (.int .i64 p))]
set_option maxHeartbeats 8000000 in
theorem mrgSeek_wp (hm:MonoC C) {f:FuncId} {cs:List AV} {n k:Nat} {cz:Nat→Nat→Int} (hz:Cz cz) (hc:CmpC C f cs R ty t b n cz) (ih:MrgC C R ty t b n (.fn f [] cs) cz k) (hr:RotC C R ty t b (.fn f [] cs)) {S:St} {xs:List AV} {P X Y Q:List Nat} {a m c mid nn lo hi hN l0 h0:Nat} {z:Env} {G:St→Prop}
  (ha:a=P.length) (hmm:m=P.length+X.length) (hcc:c=P.length+X.length+Y.length) (hmid:mid=P.length+hN) (hnn:nn=mid+m) (hlo:lo=P.length+l0) (hhi:hi=P.length+h0)
  (rng:(l0=0∧h0=X.length∧X.length≤hN∧hN≤Y.length)∨(l0+Y.length=hN∧h0=hN∧hN≤X.length)) (hk1:hN≤k) (hk2:X.length+Y.length≤k+hN)
  (hn:∀x∈X++Y,x<n) (sX:Srt (leZ cz) X) (sY:Srt (leZ cz) Y) (hN0:0<hN)
  (hx:xs.length=(P++(X++(Y++Q))).length) (hl:(P++(X++(Y++Q))).length<1152921504606846976) (hA:ArS S R ty t b (P++(X++(Y++Q))))
  (fin:∀S' Z,Z.Perm (X++Y)→Srt (leZ cz) Z→ArS S' R ty t b (P++(Z++Q))→G S') :
  wpD gt C F181.body.rt.rt.rt.rt.rt.rt ((0,.val (slA t xs.length xs))::(1,.val (.int .i64 a))::(2,.val (.int .i64 m))::(3,.val (.int .i64 c))::(4,.val (.fn f [] cs))::(18,.val (.int .i64 mid))::(19,.val (.int .i64 nn))::(20,.val (.int .i64 lo))::(21,.val (.int .i64 hi))::z) S (bodyQ gt F181.res fun r S'=>r=.ret (.tup [])∧G S'):=by
 have hlen:(P++(X++(Y++Q))).length=P.length+(X.length+(Y.length+Q.length)):=by simp only [lA]
 have hl':=hl
 rw [hlen] at hl'
 have wp:wr .i64 ((nn:Int)-1)=((nn-1:Nat):Int):=by rw [wr64 (by omega) (by omega)];omega
 conv=>whnf
 refine goW ?_
 rw [wp]
 refine loop_rule hm (α:=Nat×Nat) (fun q env S'=>env=E_sr t xs a m c (.fn f [] cs) mid nn (P.length+q.1) (P.length+q.2) (nn-1)∧l0≤q.1∧q.1≤q.2∧q.2≤h0∧S'=S∧(q.1=l0∨∃x y,X[q.1-1]? = some x∧Y[hN-q.1]? = some y∧leZ cz x y)∧(q.2=h0∨∃x y,X[q.2]? = some x∧Y[hN-1-q.2]? = some y∧leZ cz y x)) (fun q=>q.2-q.1) ?_
  (a:=(l0,h0)) ⟨by rw [hlo,hhi],Nat.le_refl _,by simp only;omega,Nat.le_refl _,rfl,.inl rfl,.inl rfl⟩
 rintro⟨i,j⟩ env S' ⟨rfl,i0,hij0,j0,rfl,q1,q2⟩
 simp only at i0 hij0 j0 q1 q2
 refine goW ?_
 by_cases hij:((P.length+i:Nat):Int)<((P.length+j:Nat):Int)
 ·rw [dT hij]
  obtain⟨r,hr⟩:∃r,r=(i+j) / 2:=⟨_,rfl⟩
  have hri:i≤r:=by omega
  have hrj:r<j:=by omega
  have hrX:r<X.length:=by omega
  have hrY:hN-1-r<Y.length:=by omega
  have g0:(P++(X++(Y++Q)))[P.length+r]? = some X[r]:=by
   rw [List.getElem?_append_right (by omega),show P.length+r-P.length=r by omega,List.getElem?_append_left hrX]
   exact gE hrX
  have g1:(P++(X++(Y++Q)))[P.length+X.length+(hN-1-r)]? = some Y[hN-1-r]:=by
   rw [←aA,List.getElem?_append_right (by rw [lA];omega),show P.length+X.length+(hN-1-r)-(P++X).length=hN-1-r by rw [lA];omega,List.getElem?_append_left hrY]
   exact gE hrY
  have hcall:=hc S' _ Y[hN-1-r] X[r] hA (hn _ (List.mem_append_right _ (List.getElem_mem hrY))) (hn _ (List.mem_append_left _ (List.getElem_mem hrX)))
  have e0:X[r]? = some X[r]:=gE hrX
  have e1:Y[hN-1-r]? = some Y[hN-1-r]:=gE hrY
  generalize Y[hN-1-r]=y at g1 hcall e1
  generalize X[r]=x at g0 hcall e0
  have w1:wr .i64 (((nn-1:Nat):Int)-((P.length+r:Nat):Int))=((P.length+X.length+(hN-1-r):Nat):Int):=by rw [wr64 (by omega) (by omega)];omega
  refine goW ?_
  rw [midW (by omega),show (P.length+i+(P.length+j)) / 2=P.length+r by omega]
  refine goW ?_
  rw [w1]
  refine step_ruleDO rfl rfl (sx_ia (k:=P.length+X.length+(hN-1-r)) rfl rfl (by omega)) (goW ?_)
  refine step_ruleDO rfl rfl (sx_ldEl (agg:=false) rfl (hA.els hx) (ints_get g1) rfl) (goW ?_)
  refine step_ruleDO rfl rfl (sx_ia (k:=P.length+r) rfl rfl (by omega)) (goW ?_)
  refine step_ruleDO rfl rfl (sx_ldEl (agg:=false) rfl (hA.els hx) (ints_get g0) rfl) (goW ?_)
  refine call_ruleD (by rfl) (hm _ _ _ _ _ hcall ?_)
  rintro r' S3 ⟨rfl,rfl⟩
  refine goW ?_
  by_cases hlt:cz y x<0
  ·rw [dT hlt]
   refine goW ?_
   refine⟨(i,r),⟨rfl,i0,hri,by simp only;omega,rfl,q1,.inr ⟨x,y,e0,e1,hz.asy hlt⟩⟩,by simp only;omega⟩
  ·rw [dF hlt]
   refine goW ?_
   refine⟨(r+1,j),⟨?_,by simp only;omega,by simp only;omega,j0,rfl,.inr ⟨x,y,e0,?_,by unfold leZ;omega⟩,q2⟩,by simp only;omega⟩
   ·rw [wrNat (by omega)]
    try rfl
   ·rw [show hN-(r+1)=hN-1-r by omega];exact e1
 ·rw [dF hij]
  obtain rfl:i=j:=by omega
  have iX:i≤X.length:=by omega
  have tY:hN-i≤Y.length:=by omega
  have tA:(X.take i).length=i:=by rw [lT];omega
  have tB:(X.drop i).length=X.length-i:=lD
  have tV:(Y.take (hN-i)).length=hN-i:=by rw [lT];omega
  have tD:(Y.drop (hN-i)).length=Y.length-(hN-i):=lD
  have hX:X.take i++X.drop i=X:=tkD _ _
  have hY:Y.take (hN-i)++Y.drop (hN-i)=Y:=tkD _ _
  have sX':=sX
  have sY':=sY
  rw [←hX] at sX'
  rw [←hY] at sY'
  obtain⟨sA,sB,sAB⟩:=srt_app.1 sX'
  obtain⟨sV,sD,sVD⟩:=srt_app.1 sY'
  have sAD:∀u∈X.take i,∀v∈Y.drop (hN-i),leZ cz u v:=ends_le (le:=leZ cz) (fun h h'=>hz.tr h h') sA sD (fun u v e1 e2=>by
   rw [tA] at e1
   rcases q1 with q1 | ⟨x,y,f1,f2,f3⟩
   ·exfalso
    rcases rng with rng | rng
    ·rw [show i=0 by omega] at e1;simp at e1
    ·rw [List.getElem?_eq_none (show (Y.drop (hN-i)).length≤0 by rw [tD];omega)] at e2;cases e2
   ·rw [List.getElem?_drop,Nat.add_zero,f2] at e2
    have:i≠0:=fun h=>by rw [h] at e1;simp at e1
    rw [List.getElem?_take_of_lt (by omega),f1] at e1
    cases e1;cases e2;exact f3) (fun a=>hz.rf a)
  have sVB:∀u∈Y.take (hN-i),∀v∈X.drop i,leZ cz u v:=ends_le (le:=leZ cz) (fun h h'=>hz.tr h h') sV sB (fun u v e1 e2=>by
   rw [tV] at e1
   rcases q2 with q2 | ⟨x,y,f1,f2,f3⟩
   ·exfalso
    rcases rng with rng | rng
    ·rw [List.getElem?_eq_none (show (X.drop i).length≤0 by rw [tB];omega)] at e2;cases e2
    ·rw [show hN-i=0 by omega] at e1;simp at e1
   ·rw [List.getElem?_drop,Nat.add_zero,f1] at e2
    have:hN-i≠0:=fun h=>by rw [h] at e1;simp at e1
    rw [List.getElem?_take_of_lt (by omega),show hN-i-1=hN-1-i by omega,f2] at e1
    cases e1;cases e2;exact f3) (fun a=>hz.rf a)
  have mo:∀S' Z1 Z2,Z1.Perm (X.take i++Y.take (hN-i))→Srt (leZ cz) Z1→Z2.Perm (X.drop i++Y.drop (hN-i))→Srt (leZ cz) Z2→ArS S' R ty t b (P++((Z1++Z2)++Q))→G S':=fun S' Z1 Z2 p1 z1 p2 z2 hA=>by
   obtain⟨m1,m2⟩:=merge_ok z1 z2 p1 p2 sAB sAD sVB sVD
   rw [hX,hY] at m2
   exact fin S' _ m2 m1 hA
  have hn':∀x∈(X.take i++Y.take (hN-i))++(X.drop i++Y.drop (hN-i)),x<n:=fun x hx=>hn x (by
   rw [aA,List.mem_append,List.mem_append,List.mem_append] at hx
   rw [List.mem_append]
   rcases hx with h | h | h | h
   ·exact .inl (List.mem_of_mem_take h)
   ·exact .inr (List.mem_of_mem_take h)
   ·exact .inl (List.mem_of_mem_drop h)
   ·exact .inr (List.mem_of_mem_drop h))
  have hl2:P++(X++(Y++Q))=P++(X.take i++(X.drop i++(Y.take (hN-i)++(Y.drop (hN-i)++Q)))):=by
   rw [←aA (X.take i),hX,←aA (Y.take (hN-i)),hY]
  rw [hl2] at hx hl hA
  have w1:wr .i64 ((nn:Int)-((P.length+i:Nat):Int))=((mid+(X.length-i):Nat):Int):=by rw [wr64 (by omega) (by omega)];omega
  have next:=mrgRot_wp (gt:=gt) (z:=[]) hm ih hr (a:=a) (m:=m) (mid:=mid) (s:=P.length+i) (e:=mid+(X.length-i)) (c:=c) ha (by rw [tA,tB];omega) (by rw [tA,tV];omega) (by rw [tA]) (by rw [tB]) (by rw [tD];omega) (fun _ _=>by rw [tA,tV];omega) (fun _ _=>by rw [tB,tD];omega) hn' sA sV sB sD hx hl hA mo
  clear mo hn' sAD sVB sAB sVD
  conv=>whnf
  refine sI (by rfl) ?_
  conv=>whnf
  refine sI (by rfl) ?_
  conv=>whnf
  refine sI (by rfl) ?_
  conv=>whnf
  refine sI (by rfl) ?_
  conv=>whnf
  rw [w1]
  refine goK ?_
  with_unfolding_all exact next
end
end Go.Dn

namespace Go.Dn
open Go
theorem goJ {G G':Prop} (k:G') (h:G'→G:=by
 intro hk;((try refine And.intro (by rfl) ?_);(conv=>whnf);(repeat (refine sI (by rfl) ?_;conv=>whnf));(generalize hE:keepE _ _=e0;revert hE;apply kI;(repeat (first | exact kN _ | (apply kC;with_unfolding_all rfl;rfl)));rintro rfl));exact hk):G:=h k
end Go.Dn

namespace Go.Dn
open Go Go.Proofs.C1
set_option maxRecDepth 100000
attribute [local irreducible] afterS keepE
section
variable {gt:GT} {C:CallT} {R:List Rs} {ty:TypeId} {t b:Nat}
set_option maxHeartbeats 8000000 in
theorem mrg3_wp (hm:MonoC C) {f:FuncId} {cs:List AV} {n k:Nat} {cz:Nat→Nat→Int} (hz:Cz cz) (hc:CmpC C f cs R ty t b n cz) (ih:MrgC C R ty t b n (.fn f [] cs) cz k) (hr:RotC C R ty t b (.fn f [] cs)) {S:St} {xs:List AV} {P X Y Q:List Nat} {a m c:Nat}
  (ha:a=P.length) (hmm:m=P.length+X.length) (hcc:c=P.length+X.length+Y.length) (hX:2≤X.length) (hY:2≤Y.length) (hk:X.length+Y.length≤k+1) (hn:∀x∈X++Y,x<n) (sX:Srt (leZ cz) X) (sY:Srt (leZ cz) Y)
  (hx:xs.length=(P++(X++(Y++Q))).length) (hl:(P++(X++(Y++Q))).length<1152921504606846976) (hA:ArS S R ty t b (P++(X++(Y++Q)))) :
  wpF gt C F181 [slA t xs.length xs,.int .i64 a,.int .i64 m,.int .i64 c,.fn f [] cs] S fun r S'=>r=.ret (.tup [])∧∃Z,Z.Perm (X++Y)∧Srt (leZ cz) Z∧ArS S' R ty t b (P++(Z++Q)):=by
 have hlen:(P++(X++(Y++Q))).length=P.length+(X.length+(Y.length+Q.length)):=by simp only [lA]
 have hl':=hl
 rw [hlen] at hl'
 obtain⟨hN,hNe⟩:∃h,h=(X.length+Y.length) / 2:=⟨_,rfl⟩
 have w1:wr .i64 ((m:Int)-(a:Int))=(X.length:Int):=by rw [wr64 (by omega) (by omega)];omega
 have w2:wr .i64 ((c:Int)-(m:Int))=(Y.length:Int):=by rw [wr64 (by omega) (by omega)];omega
 have w3:wr .i64 (((P.length+hN:Nat):Int)+(m:Int))=((P.length+hN+m:Nat):Int):=by rw [wr64 (by omega) (by omega)];omega
 have next:∀(l0 h0 lo hi:Nat) (z:Env),lo=P.length+l0→hi=P.length+h0→((l0=0∧h0=X.length∧X.length≤hN∧hN≤Y.length)∨(l0+Y.length=hN∧h0=hN∧hN≤X.length))→_:=fun l0 h0 lo hi z e1 e2 e3 =>
  mrgSeek_wp (gt:=gt) (z:=z) (G:=fun S'=>∃Z,Z.Perm (X++Y)∧Srt (leZ cz) Z∧ArS S' R ty t b (P++(Z++Q))) hm hz hc ih hr (a:=a) (m:=m) (c:=c) (mid:=P.length+hN) (nn:=P.length+hN+m) ha hmm hcc rfl rfl e1 e2 e3 (by omega) (by omega) hn sX sY (by omega) hx hl hA (fun S' Z p s h=>⟨Z,p,s,h⟩)
 refine⟨rfl,?_⟩
 refine goW ?_
 rw [w1,eqI_false (show ¬(X.length:Int)=1 by omega)]
 refine goW ?_
 rw [w2,eqI_false (show ¬(Y.length:Int)=1 by omega)]
 refine goW ?_
 rw [midW (by omega),show (a+c) / 2=P.length+hN by omega]
 refine goW ?_
 rw [w3]
 by_cases hc1:(m:Int) > ((P.length+hN:Nat):Int)
 ·rw [dT hc1]
  have next:=next (hN-Y.length) hN (P.length+hN+m-c) (P.length+hN) [] (by omega) rfl (.inr (by omega))
  have w4:wr .i64 (((P.length+hN+m:Nat):Int)-(c:Int))=((P.length+hN+m-c:Nat):Int):=by rw [wr64 (by omega) (by omega)];omega
  refine goJ ?_
  refine goJ ?_
  rw [w4]
  with_unfolding_all exact next
 ·rw [dF hc1]
  have next:=next 0 X.length a m [] (by omega) hmm (.inl (by omega))
  refine goJ ?_
  refine goJ ?_
  with_unfolding_all exact next
end

section
variable {gt:GT} {C:CallT} {R:List Rs} {ty:TypeId} {t b:Nat}
theorem mrgC (hm:MonoC C) (hI:∀us S Q,wpF gt C F181 us S Q→C 181 us S Q) {f:FuncId} {cs:List AV} {n:Nat} {cz:Nat→Nat→Int} (hz:Cz cz) (hc:CmpC C f cs R ty t b n cz) (hr:RotC C R ty t b (.fn f [] cs)):∀k,MrgC C R ty t b n (.fn f [] cs) cz k
 | 0=>fun S xs P X Y Q a m c hk _ _ _ hX hY=>by
  exfalso
  have:=List.length_pos_iff.2 hX
  omega
 | k+1=>fun S xs P X Y Q a m c hk ha hmm hcc hX hY hn sX sY hx hl hA=>hI _ _ _ (by
  have lX:=List.length_pos_iff.2 hX
  have lY:=List.length_pos_iff.2 hY
  by_cases c1:X.length=1
  ·obtain⟨x,rfl⟩:=List.length_eq_one_iff.1 c1
   have:=mrg1_wp (gt:=gt) hm hz hc (P:=P) (Y:=Y) (Q:=Q) (x:=x) (S:=S) (xs:=xs) (fun y hy=>hn y (List.mem_append_right _ hy)) (hn x (by simp)) sY hx hl hA
   rw [ha,hmm,hcc]
   exact this
  ·by_cases c2:Y.length=1
   ·obtain⟨y,rfl⟩:=List.length_eq_one_iff.1 c2
    have:=mrg2_wp (gt:=gt) hm hz hc (P:=P) (Y:=X) (Q:=Q) (x:=y) (S:=S) (xs:=xs) (fun x hx=>hn x (List.mem_append_left _ hx)) (hn y (by simp)) sX (by omega) hx hl hA
    rw [ha,hmm,hcc]
    exact this
   ·exact mrg3_wp hm hz hc (mrgC hm hI hz hc hr k) hr ha hmm hcc (by omega) (by omega) hk hn sX sY hx hl hA)
def StbC (C:CallT) (R:List Rs) (ty:TypeId) (t b n:Nat) (g:AV) (cz:Nat→Nat→Int) (h:FuncId) (ar:List AV→List AV):Prop :=
 ∀(S:St) (xs:List AV) (L:List Nat),(∀x∈L,x<n)→xs.length=L.length→L.length<1152921504606846976→ArS S R ty t b L →
  C h (ar xs) S fun r S'=>r=.ret (.tup [])∧∃Z,Z.Perm L∧Srt (leZ cz) Z∧ArS S' R ty t b Z
abbrev E_s1 (t:Nat) (xs:List AV) (g:AV) (bs a c:Nat):Env:=[(0,.val (slA t xs.length xs)),(1,.val (.int .i64 xs.length)),(2,.val g),(6,.val (.int .i64 bs)),(7,.val (.int .i64 a)),(8,.val (.int .i64 c))]
abbrev E_s2 (t:Nat) (xs:List AV) (g:AV) (bs:Nat):Env:=[(0,.val (slA t xs.length xs)),(1,.val (.int .i64 xs.length)),(2,.val g),(6,.val (.int .i64 bs))]
theorem take_drop2 (u:List Nat) (k:Nat):u.take k++((u.drop k).take k++u.drop (2*k))=u:=by
 rw [show u.drop (2*k)=(u.drop k).drop k by rw [List.drop_drop];congr 1;omega,tkD,tkD]
set_option maxHeartbeats 8000000 in
theorem stb_wp (hm:MonoC C) {f:FuncId} {cs:List AV} {n:Nat} {cz:Nat→Nat→Int} (hi:InsC C R ty t b n (.fn f [] cs) cz) (hg:∀k,MrgC C R ty t b n (.fn f [] cs) cz k) {S:St} {xs:List AV} {L:List Nat} (hn:∀x∈L,x<n) (hx:xs.length=L.length) (hl:L.length<1152921504606846976) (hA:ArS S R ty t b L) :
  wpF gt C F150 [slA t xs.length xs,.int .i64 xs.length,.fn f [] cs] S fun r S'=>r=.ret (.tup [])∧∃Z,Z.Perm L∧Srt (leZ cz) Z∧ArS S' R ty t b Z:=by
 refine⟨rfl,?_⟩
 refine goW ?_
 refine loop_rule hm (α:=List Nat×List Nat) (fun q env S'=>env=E_s1 t xs (.fn f [] cs) 20 q.1.length (q.1.length+20)∧(q.1++q.2).Perm L∧Blk (leZ cz) 20 q.1∧q.1.length % 20=0∧ArS S' R ty t b (q.1++q.2)) (fun q=>q.2.length) ?_ (a:=([],L)) ⟨rfl,List.Perm.refl _,Blk.nil,rfl,hA⟩
 rintro⟨d,u⟩ env S1 ⟨rfl,hp,hb,hd,hA⟩
 simp only at hp hb hd hA
 have pl:=hp.length_eq
 rw [lA] at pl
 have hun:∀x∈u,x<n:=fun x hx=>hn x (hp.mem_iff.1 (List.mem_append_right _ hx))
 refine goW ?_
 by_cases c1:((d.length+20:Nat):Int)≤(xs.length:Int)
 ·rw [dT c1]
  have ht:(u.take 20).length=20:=by rw [lT];omega
  have hA':ArS S1 R ty t b (d++(u.take 20++u.drop 20)):=by rw [tkD];exact hA
  refine goW ?_
  refine call_rule (by rfl) (hm _ _ _ _ _ (hi S1 xs d (u.take 20) (u.drop 20) d.length (d.length+20) rfl (by rw [ht]) (fun x hx=>hun x (List.mem_of_mem_take hx)) (by rw [tkD,lA];omega) (by rw [tkD,lA];omega) hA') ?_)
  rintro r S2 ⟨rfl,Z,z1,z2,z3⟩
  have zl:=z1.length_eq
  rw [ht] at zl
  refine goW ?_
  refine⟨(d++Z,u.drop 20),⟨?_,?_,hb.app (by omega) hd (Blk.of z2),by rw [lA,zl];omega,by rw [aA];exact z3⟩,by simp only [lD];omega⟩
  ·simp only [E_s1]
   rw [show wr .i64 (((d.length+20:Nat):Int)+((20:Nat):Int))=((d.length+20+20:Nat):Int) by rw [wr64 (by omega) (by omega)];omega,lA,zl]
  ·refine List.Perm.trans ?_ hp
   simp only
   rw [aA]
   refine List.Perm.append_left d ?_
   have:=List.Perm.append_right (u.drop 20) z1
   rw [tkD] at this
   exact this
 ·rw [dF c1]
  have hA':ArS S1 R ty t b (d++(u++[])):=by rw [List.append_nil];exact hA
  refine goW ?_
  refine call_rule (by rfl) (hm _ _ _ _ _ (hi S1 xs d u [] d.length xs.length rfl (by omega) hun (by rw [List.append_nil,lA];omega) (by rw [List.append_nil,lA];omega) hA') ?_)
  rintro r S2 ⟨rfl,Z,z1,z2,z3⟩
  have zl:=z1.length_eq
  refine goW ?_
  have hp2:(d++Z).Perm L:=(List.Perm.append_left d z1).trans hp
  have hb2:Blk (leZ cz) 20 (d++Z):=hb.app (by omega) hd (Blk.of z2)
  rw [List.append_nil] at z3
  generalize d++Z=D at hp2 hb2 z3
  clear hp hb hd hA hA' pl hun c1 z1 z2 zl
  refine loop_rule hm (α:=List Nat×Nat) (fun q env S'=>env=E_s2 t xs (.fn f [] cs) q.2∧q.1.Perm L∧0<q.2∧q.2<2305843009213693952∧Blk (leZ cz) q.2 q.1∧ArS S' R ty t b q.1) (fun q=>xs.length-q.2) ?_ (a:=(D,20)) ⟨rfl,hp2,by simp only;omega,by simp only;omega,hb2,z3⟩
  clear hp2 hb2 z3 D Z
  rintro⟨D,bs⟩ env S3 ⟨rfl,hp,b0,b1,hb,hA⟩
  simp only at hp b0 b1 hb hA
  refine goW ?_
  by_cases c2:(bs:Int)<(xs.length:Int)
  ·rw [dT c2]
   refine goW ?_
   have w2:wr .i64 (2*(bs:Int))=((2*bs:Nat):Int):=by rw [wr64 (by omega) (by omega)];omega
   rw [w2]
   refine loop_rule hm (α:=List Nat×List Nat) (fun q env S'=>env=E_s1 t xs (.fn f [] cs) bs q.1.length (q.1.length+2*bs)∧(q.1++q.2).Perm L∧Blk (leZ cz) (2*bs) q.1∧q.1.length % (2*bs)=0∧Blk (leZ cz) bs q.2∧ArS S' R ty t b (q.1++q.2)) (fun q=>q.2.length) ?_ (a:=([],D)) ⟨by simp [E_s1],hp,Blk.nil,by simp,hb,hA⟩
   clear hp hb hA
   rintro⟨d,u⟩ env S4 ⟨rfl,hp,hd,hdl,hb,hA⟩
   simp only at hp hd hdl hb hA
   have pl:=hp.length_eq
   rw [lA] at pl
   have hun:∀x∈u,x<n:=fun x hx=>hn x (hp.mem_iff.1 (List.mem_append_right _ hx))
   refine goW ?_
   by_cases c3:((d.length+2*bs:Nat):Int)≤(xs.length:Int)
   ·rw [dT c3]
    have ht:(u.take bs).length=bs:=by rw [lT];omega
    have ht2:((u.drop bs).take bs).length=bs:=by rw [lT,lD];omega
    have h3:=take_drop2 u bs
    have hA':ArS S4 R ty t b (d++(u.take bs++((u.drop bs).take bs++u.drop (2*bs)))):=by rw [h3];exact hA
    rw [←h3] at hb
    have b1':Blk (leZ cz) bs (u.take bs):=Blk.take hb
    have b2':=Blk.drop hb b0 (by rw [ht];exact Nat.mod_self _)
    have b3':=Blk.drop b2' b0 (by rw [ht2];exact Nat.mod_self _)
    have w3:wr .i64 ((d.length:Int)+(bs:Int))=((d.length+bs:Nat):Int):=by rw [wr64 (by omega) (by omega)];omega
    have w4:wr .i64 (((d.length+2*bs:Nat):Int)+((2*bs:Nat):Int))=((d.length+2*bs+2*bs:Nat):Int):=by rw [wr64 (by omega) (by omega)];omega
    have hcall:=hg (bs+bs) S4 xs d (u.take bs) ((u.drop bs).take bs) (u.drop (2*bs)) d.length (d.length+bs) (d.length+2*bs) (by rw [ht,ht2];omega) rfl (by rw [ht]) (by rw [ht,ht2];omega) (fun h=>by rw [h] at ht;simp at ht;omega) (fun h=>by rw [h] at ht2;simp at ht2;omega) (fun x hx=>hun x (by rw [←h3];simp only [List.mem_append] at hx ⊢;rcases hx with h | h;exact .inl h;exact .inr (.inl h))) (b1'.srt (by omega)) (b2'.take.srt (by omega)) (by rw [h3,lA];omega) (by rw [h3,lA];omega) hA'
    refine goW ?_
    rw [w3]
    refine call_rule (by rfl) (hm _ _ _ _ _ hcall ?_)
    rintro r S5 ⟨rfl,Z,z1,z2,z3⟩
    have zl:=z1.length_eq
    rw [lA,ht,ht2] at zl
    refine goW ?_
    rw [w2,w4]
    refine⟨(d++Z,u.drop (2*bs)),⟨?_,?_,hd.app (by omega) hdl (Blk.of z2),?_,b3',by rw [aA];exact z3⟩,by simp only [lD];omega⟩
    ·rw [lA,zl]
     simp only [E_s1]
     rw [show d.length+(bs+bs)=d.length+2*bs by omega]
    ·refine List.Perm.trans ?_ hp
     simp only
     rw [aA]
     refine List.Perm.append_left d ?_
     have:=List.Perm.append_right (u.drop (2*bs)) z1
     rw [aA,h3] at this
     exact this
    ·simp only
     rw [lA,zl,show bs+bs=2*bs by omega,Nat.add_mod_right];exact hdl
   ·rw [dF c3]
    have w3:wr .i64 ((d.length:Int)+(bs:Int))=((d.length+bs:Nat):Int):=by rw [wr64 (by omega) (by omega)];omega
    have w4:wr .i64 ((bs:Int)*2)=((bs*2:Nat):Int):=by rw [wr64 (by omega) (by omega)];omega
    refine goW ?_
    rw [w3]
    by_cases c4:((d.length+bs:Nat):Int)<(xs.length:Int)
    ·rw [dT c4]
     have ht:(u.take bs).length=bs:=by rw [lT];omega
     have ht2:(u.drop bs).length=u.length-bs:=lD
     have h3:u.take bs++(u.drop bs++[])=u:=by rw [List.append_nil,tkD]
     have hA':ArS S4 R ty t b (d++(u.take bs++(u.drop bs++[]))):=by rw [h3];exact hA
     rw [←tkD bs u] at hb
     have b1':Blk (leZ cz) bs (u.take bs):=Blk.take hb
     have b2':=Blk.drop hb b0 (by rw [ht];exact Nat.mod_self _)
     have hcall:=hg u.length S4 xs d (u.take bs) (u.drop bs) [] d.length (d.length+bs) xs.length (by rw [ht,ht2];omega) rfl (by rw [ht]) (by rw [ht,ht2];omega) (fun h=>by rw [h] at ht;simp at ht;omega) (fun h=>by rw [h] at ht2;simp at ht2;omega) (fun x hx=>hun x (by rw [tkD] at hx;exact hx)) (b1'.srt (by omega)) (b2'.srt (by omega)) (by rw [h3,lA];omega) (by rw [h3,lA];omega) hA'
     refine goW ?_
     refine call_rule (by rfl) (hm _ _ _ _ _ hcall ?_)
     rintro r S5 ⟨rfl,Z,z1,z2,z3⟩
     rw [tkD] at z1
     rw [List.append_nil] at z3
     refine goW ?_
     rw [w4]
     refine⟨(d++Z,2*bs),⟨by simp only [E_s2];rw [Nat.mul_comm],(List.Perm.append_left d z1).trans hp,by simp only;omega,by simp only;omega,hd.app (by omega) hdl (Blk.of z2),z3⟩,by simp only;omega⟩
    ·rw [dF c4]
     refine goW ?_
     rw [w4]
     refine⟨(d++u,2*bs),⟨by simp only [E_s2];rw [Nat.mul_comm],hp,by simp only;omega,by simp only;omega,hd.app (by omega) hdl (Blk.of (hb.srt (by omega))),hA⟩,by simp only;omega⟩
  ·rw [dF c2]
   refine goW ?_
   have pl:=hp.length_eq
   exact⟨_,rfl,rfl,D,hp,hb.srt (by omega),hA⟩
end
end Go.Dn

namespace Go.Dn
open Go Go.Proofs.C1
theorem cmpB_cons (a b:UInt8) (x y:List UInt8):cmpB (a::x) (b::y)=if a.toNat=b.toNat then cmpB x y else if a.toNat<b.toNat then -1 else 1:=by
 rw [cmpB]
 by_cases h:a.toNat=b.toNat
 ·rw [if_pos h,h,Nat.beq_refl];rfl
 ·have:Nat.beq a.toNat b.toNat=false:=by
   cases q:Nat.beq a.toNat b.toNat with
   | false=>rfl
   | true=>exact absurd (bE q) h
  rw [if_neg h,this]
  by_cases k:a.toNat<b.toNat
  ·rw [if_pos k,show Nat.blt a.toNat b.toNat=true from Nat.ble_eq_true_of_le k];rfl
  ·have:Nat.blt a.toNat b.toNat=false:=by
    cases q:Nat.blt a.toNat b.toNat with
    | false=>rfl
    | true=>exact absurd (Nat.le_of_ble_eq_true q) k
   rw [if_neg k,this];rfl
theorem cmpB_self:∀a:List UInt8,cmpB a a=0
 | []=>rfl
 | a::x=>by rw [cmpB_cons,if_pos rfl];exact cmpB_self x
theorem cmpB_anti:∀a b:List UInt8,cmpB b a=- cmpB a b
 | [],[]=>rfl
 | [],_::_=>rfl
 | _::_,[]=>rfl
 | a::x,b::y=>by
  rw [cmpB_cons,cmpB_cons]
  by_cases h:a.toNat=b.toNat
  ·rw [if_pos h,if_pos h.symm];exact cmpB_anti x y
  ·rw [if_neg h,if_neg (fun e=>h e.symm)]
   by_cases k:a.toNat<b.toNat
   ·rw [if_pos k,if_neg (by omega)];rfl
   ·rw [if_neg k,if_pos (by omega)]
theorem cmpB_zero:∀{a b:List UInt8},cmpB a b=0→a=b
 | [],[],_=>rfl
 | [],_::_,h=>by rw [show cmpB [] (_::_)=-1 from rfl] at h;exact absurd h (by decide)
 | _::_,[],h=>by rw [show cmpB (_::_) []=1 from rfl] at h;exact absurd h (by decide)
 | a::x,b::y,h=>by
  rw [cmpB_cons] at h
  by_cases e:a.toNat=b.toNat
  ·rw [if_pos e] at h
   rw [cmpB_zero h,UInt8.toNat_inj.1 e]
  ·rw [if_neg e] at h
   by_cases k:a.toNat<b.toNat
   ·rw [if_pos k] at h;cases h
   ·rw [if_neg k] at h;cases h
theorem cmpB_tr:∀{a b c:List UInt8},0≤cmpB b a→0≤cmpB c b→0≤cmpB c a
 | [],_,[],_,_=>by decide
 | [],_,_::_,_,_=>by rw [show cmpB (_::_) []=1 from rfl];decide
 | _::_,[],_,h,_=>absurd h (by rw [show cmpB [] (_::_)=-1 from rfl];decide)
 | _::_,_::_,[],_,h=>absurd h (by rw [show cmpB [] (_::_)=-1 from rfl];decide)
 | a::x,b::y,c::z,h,k=>by
  rw [cmpB_cons] at h k ⊢
  by_cases e:b.toNat=a.toNat
  ·rw [if_pos e] at h
   by_cases e2:c.toNat=b.toNat
   ·rw [if_pos e2] at k
    rw [if_pos (by omega)]
    exact cmpB_tr h k
   ·rw [if_neg e2] at k
    rw [if_neg (by omega)]
    by_cases l:c.toNat<b.toNat
    ·rw [if_pos l] at k;exact absurd k (by decide)
    ·rw [if_neg (by omega)];decide
  ·rw [if_neg e] at h
   by_cases l:b.toNat<a.toNat
   ·rw [if_pos l] at h;exact absurd h (by decide)
   ·by_cases e2:c.toNat=b.toNat
    ·rw [if_neg (by omega),if_neg (by omega)];decide
    ·rw [if_neg e2] at k
     by_cases l2:c.toNat<b.toNat
     ·rw [if_pos l2] at k;exact absurd k (by decide)
     ·rw [if_neg (by omega),if_neg (by omega)];decide
def czK (keys:List (List UInt8)) (i j:Nat):Int:=cmpB (keys.getD i []) (keys.getD j [])
theorem czK_cz (keys:List (List UInt8)):Cz (czK keys) where
 rf a:=by unfold czK;rw [cmpB_self];exact Int.le_refl 0
 tr h k:=cmpB_tr h k
 asy {a b} h:=by
  unfold czK at h ⊢
  rw [cmpB_anti];omega
def ordK (keys:List (List UInt8)):List Nat:=(List.range keys.length).mergeSort fun i j=>decide (0≤czK keys j i)
theorem ordK_perm (keys:List (List UInt8)):(ordK keys).Perm (List.range keys.length):=List.mergeSort_perm _ _
theorem ordK_srt (keys:List (List UInt8)):Srt (leZ (czK keys)) (ordK keys):=by
 have:=List.pairwise_mergeSort (le:=fun i j=>decide (0≤czK keys j i)) (fun a b c h k=>by
  simp only [decide_eq_true_eq] at h k ⊢
  exact (czK_cz keys).tr h k) (fun a b=>by
  simp only [Bool.or_eq_true,decide_eq_true_eq]
  rcases Int.lt_or_le (czK keys b a) 0 with q | q
  ·exact .inr ((czK_cz keys).asy q)
  ·exact .inl q) (List.range keys.length)
 exact this.imp fun h=>of_decide_eq_true h
theorem ordK_len (keys:List (List UInt8)):(ordK keys).length=keys.length:=by rw [(ordK_perm keys).length_eq,List.length_range]
theorem ordK_lt {keys:List (List UInt8)} {i:Nat} (h:i∈ordK keys):i<keys.length:=List.mem_range.1 ((ordK_perm keys).mem_iff.1 h)
theorem ordK_uniq {keys:List (List UInt8)} (hd:keys.Nodup) {Z:List Nat} (hp:Z.Perm (List.range keys.length)) (hs:Srt (leZ (czK keys)) Z):Z=ordK keys:=by
 refine List.Perm.eq_of_pairwise (fun a b ha hb h k=>?_) hs (ordK_srt keys) (hp.trans (ordK_perm keys).symm)
 have la:=List.mem_range.1 (hp.mem_iff.1 ha)
 have lb:=ordK_lt hb
 unfold leZ czK at h k
 rw [cmpB_anti] at h
 have:=cmpB_zero (a:=keys.getD a []) (b:=keys.getD b []) (by omega)
 rw [List.getD_eq_getElem?_getD,List.getD_eq_getElem?_getD,gE la,gE lb] at this
 exact (List.getElem_inj hd).1 this
end Go.Dn

namespace Go.Dn
open Go Go.Proofs.C1
set_option maxRecDepth 100000
attribute [local irreducible] afterS keepE
theorem sx_ldBx {gt:GT} {d:Option Nat} {env:Env} {S:St} {R:List Rs} (h:Hs S R) (i:Nat) {id:Nat} {ty:TypeId} {v:AV} (hi:R[i]? = some (.bx id ty [v])) (hn:notAgg v=true) {a:DOpd} (ha:loc env a=some (.hp id 0)) :
  stepO gt d env S (.ld false 1 a)=.done (putV d v env) S:=by
 have hb:=(h.ok i _ hi).2
 have:ldL gt env S false 1 (.hp id 0)=some v:=by
  simp only [ldL,ldC,hb,cut]
  show mkv false [v]=some v
  simp only [mkv,hn,cond_true,cond_false]
 simp only [stepO,ha,this,SR.val]
section
variable {gt:GT} {C:CallT}
theorem cmpS_wp {a c:List UInt8}:wpF gt C F145 [.str a,.str c] St.init (Ret (.int .i64 (cmpB a c))):=by
 refine⟨rfl,?_⟩
 refine goW ?_
 exact⟨_,rfl,Ret.sta trivial⟩
theorem compare_wp (hm:MonoC C) (h:∀a c,PF C 145 [.str a,.str c] (.int .i64 (cmpB a c))) {a c:List UInt8}:wpF gt C F104 [.str a,.str c] St.init (Ret (.int .i64 (cmpB a c))):=by
 refine⟨rfl,?_⟩
 refine goW ?_
 refine call_pf hm (by rfl) (h a c) (goW ?_)
 exact⟨_,rfl,Ret.sta trivial⟩
abbrev R_k (keys:List (List UInt8)):List Rs:=[.bx 0 22 [.sl 1 stat (strs keys)]]
set_option maxHeartbeats 2000000 in
theorem ord1_wp (hm:MonoC C) (h:∀a c,PF C 104 [.str a,.str c] (.int .i64 (cmpB a c))) {keys:List (List UInt8)} {S:St} {ty:TypeId} {t b:Nat} {l:List Nat} {i j:Nat} (hA:ArS S (R_k keys) ty t b l) (hi:i<keys.length) (hj:j<keys.length) :
  wpF gt C F113 [.int .i64 i,.int .i64 j,.ptr 0 0] S fun r S'=>r=.ret (.int .i64 (czK keys i j))∧S'=S:=by
 have ei:keys.getD i []=keys[i]:=by rw [List.getD_eq_getElem?_getD,gE hi];rfl
 have ej:keys.getD j []=keys[j]:=by rw [List.getD_eq_getElem?_getD,gE hj];rfl
 unfold czK
 rw [ei,ej]
 have si:=strs_at hi
 have sj:=strs_at hj
 generalize keys[i]=x at si
 generalize keys[j]=y at sj
 have li:i<(strs keys).length:=by rw [strs_length];exact hi
 have lj:j<(strs keys).length:=by rw [strs_length];exact hj
 refine⟨rfl,?_⟩
 refine goW ?_
 refine step_ruleDO rfl rfl (sx_ldBx hA 0 rfl rfl rfl) (goW ?_)
 refine step_ruleDO rfl rfl (sx_ia (k:=i) rfl rfl li) (goW ?_)
 refine step_ruleDO rfl rfl (sx_ldEl (agg:=false) rfl rfl si rfl) (goW ?_)
 refine step_ruleDO rfl rfl (sx_ldBx hA 0 rfl rfl rfl) (goW ?_)
 refine step_ruleDO rfl rfl (sx_ia (k:=j) rfl rfl lj) (goW ?_)
 refine step_ruleDO rfl rfl (sx_ldEl (agg:=false) rfl rfl sj rfl) (goW ?_)
 refine call_pfD hm (by rfl) (h x y) (goW ?_)
 exact⟨_,rfl,rfl,rfl⟩
def SstC (C:CallT) (R:List Rs) (ty:TypeId) (t b n:Nat) (g:AV) (cz:Nat→Nat→Int):Prop :=
 StbC C R ty t b n g cz 112 fun xs=>[slA t xs.length xs,g]
theorem sst_wp (hm:MonoC C) {R:List Rs} {ty:TypeId} {t b n:Nat} {f:FuncId} {cs:List AV} {cz:Nat→Nat→Int} (h:StbC C R ty t b n (.fn f [] cs) cz 150 fun xs=>[slA t xs.length xs,.int .i64 xs.length,.fn f [] cs]) {S:St} {xs:List AV} {L:List Nat} (hn:∀x∈L,x<n) (hx:xs.length=L.length) (hl:L.length<1152921504606846976) (hA:ArS S R ty t b L) :
  wpF gt C F112 [slA t xs.length xs,.fn f [] cs] S fun r S'=>r=.ret (.tup [])∧∃Z,Z.Perm L∧Srt (leZ cz) Z∧ArS S' R ty t b Z:=by
 refine⟨rfl,?_⟩
 refine goW ?_
 refine call_rule (by rfl) (hm _ _ _ _ _ (h S xs L hn hx hl hA) ?_)
 rintro r S2 ⟨rfl,Z,z1,z2,z3⟩
 refine goW ?_
 exact⟨_,rfl,rfl,Z,z1,z2,z3⟩
abbrev slN:AV:=.sl 1 ⟨none,0,some 0,false⟩ []
theorem ins0_wp {S:St} {g:AV}:wpF gt C F180 [slN,.int .i64 0,.int .i64 0,g] S fun r S'=>r=.ret (.tup [])∧S'=S:=by
 refine⟨rfl,?_⟩
 refine goW ?_
 refine⟨1,?_⟩
 refine goW ?_
 exact⟨_,rfl,rfl,rfl⟩
theorem stb0_wp (hm:MonoC C) {g:AV} (h:∀S,C 180 [slN,.int .i64 0,.int .i64 0,g] S fun r S'=>r=.ret (.tup [])∧S'=S) {S:St}:wpF gt C F150 [slN,.int .i64 0,g] S fun r S'=>r=.ret (.tup [])∧S'=S:=by
 refine⟨rfl,?_⟩
 refine goW ?_
 refine⟨1,?_⟩
 refine goW ?_
 refine call_rule (by rfl) (hm _ _ _ _ _ (h S) ?_)
 rintro r S2 ⟨rfl,rfl⟩
 refine goW ?_
 refine⟨1,?_⟩
 refine goW ?_
 exact⟨_,rfl,rfl,rfl⟩
theorem sst0_wp (hm:MonoC C) {g:AV} (h:∀S,C 150 [slN,.int .i64 0,g] S fun r S'=>r=.ret (.tup [])∧S'=S) {S:St}:wpF gt C F112 [slN,g] S fun r S'=>r=.ret (.tup [])∧S'=S:=by
 refine⟨rfl,?_⟩
 refine goW ?_
 refine call_rule (by rfl) (hm _ _ _ _ _ (h S) ?_)
 rintro r S2 ⟨rfl,rfl⟩
 refine goW ?_
 exact⟨_,rfl,rfl,rfl⟩
theorem order0_wp (hm:MonoC C) (h:∀S,C 112 [slN,.fn 113 [] [.ptr 0 0]] S fun r S'=>r=.ret (.tup [])∧S'=S):wpF gt C F64 [.sl 1 stat []] St.init (Ret (.sl 1 stat [])):=by
 refine⟨rfl,?_⟩
 refine goW ?_
 refine⟨1,?_⟩
 refine goW ?_
 refine call_rule (by rfl) (hm _ _ _ _ _ (h _) ?_)
 rintro r S2 ⟨rfl,rfl⟩
 refine goW ?_
 exact⟨_,rfl,_,rfl,by simp only [Rdo];exact⟨trivial,_,_,false,[],rfl,rfl,by simp only [Rdos]⟩⟩
abbrev E_or (t n i:Nat) (xs:List AV):Env:=[(1,.val (.ptr 0 0)),(3,.val (slA t n xs)),(9,.val (.int .i64 n)),(10,.val (.int .i64 i))]
theorem ints_zero (n:Nat):List.replicate n (.int .i64 0)=ints (List.replicate n 0):=by simp [ints]
set_option maxHeartbeats 4000000 in
theorem order_wp (hm:MonoC C) {keys:List (List UInt8)} (h:∀t b,SstC C (R_k keys) 3 t b keys.length (.fn 113 [] [.ptr 0 0]) (czK keys)) (hd:keys.Nodup) (h0:0<keys.length) (hl:keys.length<1099511627776) :
  wpF gt C F64 [.sl 1 stat (strs keys)] St.init (Ret (.sl 1 stat (ints (ordK keys)))):=by
 have sl:(strs keys).length=keys.length:=strs_length keys
 refine⟨rfl,?_⟩
 refine goW ?_
 have hb:=Hs.init.newBox 22 [.sl 1 stat (strs keys)]
 refine r_mks (n:=keys.length) (c:=keys.length) hb trivial (by rw [←sl];rfl) (by rw [←sl];rfl) (Nat.le_refl _) h0 (by omega) (by omega) rfl ?_
 intro t b S hS
 have hA:ArS S (R_k keys) 3 t b (List.replicate keys.length 0):=by
  unfold ArS
  rw [←ints_zero,List.append_nil]
  exact hS
 clear hS hb
 have hxl:(List.replicate keys.length (AV.int .i64 0)).length=keys.length:=List.length_replicate
 generalize List.replicate keys.length (AV.int .i64 0)=xs at hxl
 refine goW ?_
 rw [hxl]
 refine loop_rule hm (α:=Nat) (fun i env S'=>env=E_or t keys.length i xs∧i≤keys.length∧ArS S' (R_k keys) 3 t b (List.range i++List.replicate (keys.length-i) 0)) (fun i=>keys.length-i) ?_ (a:=0) ⟨rfl,Nat.zero_le _,by simpa using hA⟩
 clear hA
 rintro i env S' ⟨rfl,hi,hA⟩
 refine goW ?_
 by_cases c:(i:Int)<(keys.length:Int)
 ·rw [dT c]
  have hset:(List.range i++List.replicate (keys.length-i) 0).set i i=List.range (i+1)++List.replicate (keys.length-(i+1)) 0:=by
   obtain⟨m,hm⟩:∃m,keys.length-i=m+1:=⟨keys.length-i-1,by omega⟩
   rw [hm,List.replicate_succ,set_mid (by rw [List.length_range]),show keys.length-(i+1)=m by omega,List.range_succ,aA];rfl
  have hll:xs.length=(List.range i++List.replicate (keys.length-i) 0).length:=by rw [hxl,lA,List.length_range,List.length_replicate];omega
  refine goW ?_
  refine step_ruleO (sx_ia (k:=i) rfl rfl (by omega)) (goW ?_)
  refine st_runP (hA.st hll rfl rfl (by omega)) (by trivial) ?_
  intro S2 hA2
  rw [hset] at hA2
  refine goW ?_
  refine⟨i+1,⟨?_,by omega,hA2⟩,by omega⟩
  rw [wrNat (by omega)]
  try rfl
 ·rw [dF c]
  obtain rfl:i=keys.length:=by omega
  rw [Nat.sub_self,List.replicate_zero,List.append_nil] at hA
  have hcall:=h t b S' xs (List.range keys.length) (fun x hx=>List.mem_range.1 hx) (by rw [hxl,List.length_range]) (by rw [List.length_range];omega) hA
  simp only [hxl] at hcall
  refine goW ?_
  refine call_rule (by rfl) (hm _ _ _ _ _ hcall ?_)
  rintro r S2 ⟨rfl,Z,z1,z2,z3⟩
  rw [ordK_uniq hd z1 z2] at z3
  refine goW ?_
  exact⟨_,rfl,_,rfl,by simp only [Rdo];exact⟨trivial,_,_,false,_,rfl,z3.els (by rw [hxl,ordK_len]),Stas.rdos _ (by
   generalize ordK keys=l
   induction l with
   | nil=>trivial
   | cons a r ih=>exact⟨trivial,ih⟩)⟩⟩
end

def zPT:PT:=.mk 0 [] [] []
mutual
def sortT:PT→PT
 |.mk k s keys kids=>if k=7∧keys.length=kids.length then .mk k s ((ordK keys).map fun i=>keys.getD i []) ((ordK keys).map fun i=>(sortTs kids).getD i zPT) else .mk k s keys (sortTs kids)
def sortTs:List PT→List PT
 | []=>[]
 | t::r=>sortT t::sortTs r
end
theorem sortTs_map:∀l:List PT,sortTs l=l.map sortT
 | []=>rfl
 | t::r=>by simp only [sortTs,List.map_cons,sortTs_map r]
mutual
def PT.nd:PT→Prop
 |.mk k _ keys kids=>(k=7→keys.length=kids.length→keys.Nodup∧keys.length<1099511627776)∧PT.nds kids
def PT.nds:List PT→Prop
 | []=>True
 | t::r=>t.nd∧PT.nds r
end
theorem PT.nds_get:∀{l:List PT} {i:Nat} (h:i<l.length),PT.nds l→(l[i]).nd
 | a::r,0,_,h=>by simp only [PT.nds] at h;exact h.1
 | a::r,i+1,hi,h=>by simp only [PT.nds] at h;exact PT.nds_get (l:=r) (i:=i) (by simpa using hi) h.2
def DC.lft:DC→DC |.seq a _=>a | c=>c
section
variable {gt:GT} {C:CallT}
abbrev E_so1 (k:Int) (s:List UInt8) (keys:List (List UInt8)) (o1 o2:SI) (all kids:List PT) (i:Int):Env :=
 [(2,.box zT),(3,.box [.int .i64 k,.str s,.sl 1 o1 (strs keys),.sl 4 o2 (encTs kids)]),(32,.val (.sl 4 stat (encTs all))),(33,.val (.int .i64 (encTs all).length)),(34,.val (.int .i64 i))]
abbrev E_so2 (t:PT) (k:Int) (s:List UInt8) (keys:List (List UInt8)) (o1 o2:SI) (kids:List PT) (L:List Nat) (i:Int):Env :=
 [(1,.box (encT t).cells),(2,.box zT),(3,.box [.int .i64 k,.str s,.sl 1 o1 (strs keys),.sl 4 o2 (encTs kids)]),(49,.val (.sl 1 stat (ints L))),(50,.val (.int .i64 (ints L).length)),(51,.val (.int .i64 i))]
set_option maxHeartbeats 4000000 in
theorem sorted1_wp (hm:MonoC C) {k:Int} {s:List UInt8} {keys:List (List UInt8)} {kids:List PT} (ih:∀u,u.n<(PT.mk k s keys kids).n→u.ok→u.nd→PF C 34 [encT u] (encT (sortT u))) (hk:(PT.mk k s keys kids).ok) (hd:PT.nds kids) {S:St} (hR:Hs S [.gr 9 ⟨none,0,some 0,true⟩ [],.gr 25 ⟨none,0,some 0,true⟩ []]) {z:Env} :
  wpD gt C (.seq F34.body.rt.rt.lft.rt F34.body.rt.rt.rt) ((1,.box (encT (.mk k s keys kids)).cells)::(2,.box zT)::(3,.box [.int .i64 k,.str s,.sl 1 ⟨none,0,some 0,true⟩ [],.sl 4 ⟨none,0,some 0,true⟩ []])::(24,.val (.bool true))::z) S (bodyQ gt F34.res (Ret (encT (.mk k s keys (sortTs kids))))):=by
 simp only [PT.ok] at hk
 obtain⟨hk1,hk2,hk3⟩:=hk
 conv=>whnf
 refine goW ?_
 refine r_app hR 0 rfl trivial rfl rfl rfl (by rw [strs_length];simpa using hk1) (by rw [strs_length];simp;omega) (by decide) (by decide) (cells_strs keys) ?_
 intro o1 S1 hR
 refine goW ?_
 have hlen:=encTs_len kids
 refine loop_rule hm (α:=Nat) (fun i env S'=>i≤kids.length∧∃o2,Hs S' [.gr 9 o1 (strs keys),.gr 25 o2 (encTs ((sortTs kids).take i))]∧env=E_so1 k s keys o1 o2 kids ((sortTs kids).take i) i) (fun i=>kids.length-i) ?_ (a:=0) ⟨Nat.zero_le _,_,hR,rfl⟩
 rintro i env S' ⟨hi,o2,hR,rfl⟩
 have hsl:(sortTs kids).length=kids.length:=by rw [sortTs_map,List.length_map]
 refine goW ?_
 by_cases h:(i:Int)<(encTs kids).length
 ·rw [dT h]
  refine goW ?_
  have hik:i<kids.length:=by omega
  have his:i<(sortTs kids).length:=by omega
  have hge:(sortTs kids)[i]=sortT kids[i]:=by simp only [sortTs_map,List.getElem_map]
  refine step_ruleO (sx_ia (k:=i) rfl rfl (by omega)) (goW ?_)
  refine step_ruleO (sx_ldEl (agg:=true) rfl rfl (encTs_get hik) (rdT _)) ?_
  have ihk:=ih _ (kid_lt hik) (PT.oks_get hk3 (gE hik)) (PT.nds_get hik hd)
  have hok:=encT_ok (sortT kids[i])
  have hts:encTs ((sortTs kids).take (i+1))=encTs ((sortTs kids).take i)++[encT (sortT kids[i])]:=by rw [tS his,encTs_app,hge];rfl
  obtain⟨ka,sa,xa,ya,he⟩:=encT_agg kids[i]
  obtain⟨kb,sb,xb,yb,he2⟩:=encT_agg (sortT kids[i])
  rw [he2] at ihk hts hok
  rw [he] at ihk ⊢
  refine goW ?_
  refine call_pfD hm (by rfl) ihk (goW ?_)
  have hlt:(encTs ((sortTs kids).take i)).length=i:=by rw [encTs_len,lT];omega
  refine r_appD hR 1 rfl (by trivial) rfl rfl rfl (by rw [hlt];simp;omega) (by rw [hlt];simp;omega) (by decide) (by decide) hok ?_
  intro o3 S3 hR
  refine goW ?_
  refine⟨i+1,⟨by omega,o3,by rw [hts];exact hR,?_⟩,by omega⟩
  rw [wrNat (by omega)]
  simp only [E_so1,hts]
  try rfl
 ·rw [dF h]
  refine goW ?_
  have:(sortTs kids).take i=sortTs kids:=List.take_of_length_le (by omega)
  rw [this] at hR ⊢
  exact⟨_,rfl,_,rfl,rdo_T hR (i:=0) (j:=1) rfl rfl⟩
set_option maxHeartbeats 4000000 in
theorem sorted2_wp (hm:MonoC C) (ho:∀keys:List (List UInt8),keys.Nodup→keys.length<1099511627776→PF C 64 [.sl 1 stat (strs keys)] (.sl 1 stat (ints (ordK keys)))) {k:Int} {s:List UInt8} {keys:List (List UInt8)} {kids:List PT} (ih:∀u,u.n<(PT.mk k s keys kids).n→u.ok→u.nd→PF C 34 [encT u] (encT (sortT u))) (hk:(PT.mk k s keys kids).ok) (hd:PT.nds kids) (hdk:keys.Nodup) (hl:keys.length=kids.length) (hl2:keys.length<1099511627776) {S:St} (hR:Hs S [.gr 9 ⟨none,0,some 0,true⟩ [],.gr 25 ⟨none,0,some 0,true⟩ []]) {z:Env} :
  wpD gt C (.seq F34.body.rt.rt.lft.rt F34.body.rt.rt.rt) ((1,.box (encT (.mk k s keys kids)).cells)::(2,.box zT)::(3,.box [.int .i64 k,.str s,.sl 1 ⟨none,0,some 0,true⟩ [],.sl 4 ⟨none,0,some 0,true⟩ []])::(24,.val (.bool false))::z) S (bodyQ gt F34.res (Ret (encT (.mk k s ((ordK keys).map fun i=>keys.getD i []) ((ordK keys).map fun i=>(sortTs kids).getD i zPT))))):=by
 simp only [PT.ok] at hk
 obtain⟨hk1,hk2,hk3⟩:=hk
 have ho:=ho keys hdk hl2
 have hL:=@ordK_lt keys
 have hLl:=ordK_len keys
 generalize ordK keys=L at ho hL hLl
 have hil:=ints_len L
 have hsl:(sortTs kids).length=kids.length:=by rw [sortTs_map,List.length_map]
 have l1:=strs_length keys
 have l2:=encTs_len kids
 conv=>whnf
 refine goW ?_
 refine call_pf hm (by rfl) ho (goW ?_)
 refine loop_rule hm (α:=Nat) (fun i env S'=>i≤L.length∧∃o1 o2,Hs S' [.gr 9 o1 (strs ((L.take i).map fun i=>keys.getD i [])),.gr 25 o2 (encTs ((L.take i).map fun i=>(sortTs kids).getD i zPT))]∧env=E_so2 (.mk k s keys kids) k s ((L.take i).map fun i=>keys.getD i []) o1 o2 ((L.take i).map fun i=>(sortTs kids).getD i zPT) L i) (fun i=>L.length-i) ?_ (a:=0) ⟨Nat.zero_le _,_,_,hR,rfl⟩
 rintro i env S' ⟨hi,o1,o2,hR,rfl⟩
 refine goW ?_
 by_cases h:(i:Int)<(ints L).length
 ·rw [dT h]
  refine goW ?_
  have hik:i<L.length:=by omega
  have hj:=hL (List.getElem_mem hik)
  have hgi:(ints L)[i]? = some (.int .i64 (L[i]:Nat)):=ints_get (gE hik)
  have htk:L.take (i+1)=L.take i++[L[i]]:=tS hik
  generalize L[i]=j at hj hgi htk
  have hjk:j<kids.length:=by omega
  have g1:keys.getD j []=keys[j]:=by rw [List.getD_eq_getElem?_getD,gE hj];rfl
  have g2:(sortTs kids).getD j zPT=sortT kids[j]:=by rw [List.getD_eq_getElem?_getD,gE (by omega)];simp only [sortTs_map,List.getElem_map,Option.getD_some]
  have hks:strs ((L.take (i+1)).map fun i=>keys.getD i [])=strs ((L.take i).map fun i=>keys.getD i [])++[.str keys[j]]:=by rw [htk,List.map_append,List.map_cons,List.map_nil,g1];simp [strs]
  have hts:encTs ((L.take (i+1)).map fun i=>(sortTs kids).getD i zPT)=encTs ((L.take i).map fun i=>(sortTs kids).getD i zPT)++[encT (sortT kids[j])]:=by rw [htk,List.map_append,List.map_cons,List.map_nil,g2,encTs_app];rfl
  have sj:=strs_at hj
  generalize keys[j]=kj at hks sj
  have ihk:=ih _ (kid_lt hjk) (PT.oks_get hk3 (gE hjk)) (PT.nds_get hjk hd)
  have hok:=encT_ok (sortT kids[j])
  have hej:=encTs_get hjk
  obtain⟨ka,sa,xa,ya,he⟩:=encT_agg kids[j]
  obtain⟨kb,sb,xb,yb,he2⟩:=encT_agg (sortT kids[j])
  rw [he2] at ihk hts hok
  have hrd:=rdT kids[j]
  rw [he] at ihk hej hrd
  refine step_ruleO (sx_ia (k:=i) rfl rfl (by omega)) (goW ?_)
  refine step_ruleO (sx_ldEl (agg:=false) rfl rfl hgi rfl) (goW ?_)
  refine step_ruleDO rfl rfl (sx_ia (k:=j) rfl rfl (by omega)) (goW ?_)
  refine step_ruleDO rfl rfl (sx_ldEl (agg:=false) rfl rfl sj rfl) (goW ?_)
  have hlt1:(strs ((L.take i).map fun i=>keys.getD i [])).length=i:=by rw [strs_length,List.length_map,lT];omega
  refine r_appD hR 0 rfl (by trivial) rfl rfl rfl (by rw [hlt1];simp;omega) (by rw [hlt1];simp;omega) (by decide) (by decide) (by rfl) ?_
  intro o3 S3 hR
  refine goW ?_
  refine step_ruleDO rfl rfl (sx_ia (k:=j) rfl rfl (by omega)) (goW ?_)
  refine step_ruleDO rfl rfl (sx_ldEl (agg:=true) rfl rfl hej hrd) (goW ?_)
  refine call_pfD hm (by rfl) ihk (goW ?_)
  have hlt:(encTs ((L.take i).map fun i=>(sortTs kids).getD i zPT)).length=i:=by rw [encTs_len,List.length_map,lT];omega
  refine r_appD hR 1 rfl (by trivial) rfl rfl rfl (by rw [hlt];simp;omega) (by rw [hlt];simp;omega) (by decide) (by decide) hok ?_
  intro o4 S4 hR
  refine goW ?_
  refine⟨i+1,⟨by omega,o3,o4,by rw [hts,hks];exact hR,?_⟩,by omega⟩
  rw [wrNat (by omega)]
  simp only [E_so2,hts,hks]
  try rfl
 ·rw [dF h]
  refine goW ?_
  have:L.take i=L:=List.take_of_length_le (by omega)
  rw [this] at hR ⊢
  exact⟨_,rfl,_,rfl,rdo_T hR (i:=0) (j:=1) rfl rfl⟩
set_option maxHeartbeats 4000000 in
theorem sorted_wp (hm:MonoC C) (ho:∀keys:List (List UInt8),keys.Nodup→keys.length<1099511627776→PF C 64 [.sl 1 stat (strs keys)] (.sl 1 stat (ints (ordK keys)))) {t:PT} (ih:∀u,u.n<t.n→u.ok→u.nd→PF C 34 [encT u] (encT (sortT u))) (hk:t.ok) (hd:t.nd):wpF gt C F34 [encT t] St.init (Ret (encT (sortT t))):=by
 obtain⟨k,s,keys,kids⟩:=t
 simp only [PT.nd] at hd
 obtain⟨hd1,hd2⟩:=hd
 have hR:=(Hs.init.addNil 9 true).addNil 25 true
 have l1:=strs_length keys
 have l2:=encTs_len kids
 have r1:=sorted1_wp (gt:=gt) (z:=[]) hm ih hk hd2 hR
 have no:¬(k=7∧keys.length=kids.length)→sortT (.mk k s keys kids)=.mk k s keys (sortTs kids):=fun h=>by rw [sortT,if_neg h]
 refine⟨rfl,?_⟩
 refine goW ?_
 by_cases c1:k=7
 ·rw [neI_false c1]
  refine goW ?_
  by_cases c2:keys.length=kids.length
  ·rw [neI_false (show ((strs keys).length:Int)=((encTs kids).length:Int) by omega)]
   rw [show sortT (.mk k s keys kids)=_ by rw [sortT,if_pos ⟨c1,c2⟩]]
   have r2:=sorted2_wp (gt:=gt) (z:=[]) hm ho ih hk hd2 (hd1 c1 c2).1 c2 (hd1 c1 c2).2 hR
   clear r1 no
   with_unfolding_all exact r2
  ·rw [neI_true (show ¬((strs keys).length:Int)=((encTs kids).length:Int) by omega),no (fun h=>c2 h.2)]
   with_unfolding_all exact r1
 ·rw [neI_true c1,no (fun h=>c1 h.1)]
  refine goJ ?_
  with_unfolding_all exact r1
end
end Go.Dn

namespace Go.Dn
open Go Go.Proofs.C1
theorem unlike_nodup:∀{seen keys:List (List UInt8)},unlikeB seen keys=true→keys.Nodup∧∀x∈keys,x ∉ seen
 | _,[],_=>⟨List.nodup_nil,by simp⟩
 | seen,s::r,h=>by
  simp only [unlikeB] at h
  by_cases hs:s∈seen
  ·rw [if_pos hs] at h;cases h
  ·rw [if_neg hs,bA] at h
   obtain⟨a,b⟩:=unlike_nodup h.2
   refine⟨List.nodup_cons.2 ⟨fun hm=>b s hm (by simp),a⟩,fun x hx=>?_⟩
   rcases List.mem_cons.1 hx with rfl | hx
   ·exact hs
   ·exact fun hm=>b x hx (by simp [hm])
theorem formed_parts {k:Int} {s:List UInt8} {keys:List (List UInt8)} {kids:List PT} (h:formedB (.mk k s keys kids)=true) :
  formedBs kids=true∧(k=7→s=[]∧keys.length=kids.length∧keys.Nodup)∧(k≠7→keys=[])∧(k≠7→k≠6→kids=[])∧(k=6→s=[]):=by
 simp only [formedB,bA] at h
 obtain⟨h1,h2⟩:=h
 refine⟨h1,?_⟩
 unfold shapeB at h2
 by_cases k1:k=1
 ·rw [if_pos k1] at h2;simp only [bA,decide_eq_true_eq] at h2
  exact⟨fun e=>by omega,fun _=>nL h2.1.1,fun _ _=>nL h2.1.2,fun e=>by omega⟩
 rw [if_neg k1] at h2
 by_cases k2:k=2
 ·rw [if_pos k2] at h2;simp only [bA,decide_eq_true_eq] at h2
  exact⟨fun e=>by omega,fun _=>nL h2.1.1,fun _ _=>nL h2.1.2,fun e=>by omega⟩
 rw [if_neg k2] at h2
 by_cases k3:k=3
 ·rw [if_pos k3,bA,bA] at h2
  have a:=of_decide_eq_true h2.1.1
  have b:=of_decide_eq_true h2.1.2
  exact⟨fun e=>by omega,fun _=>nL a,fun _ _=>nL b,fun e=>by omega⟩
 rw [if_neg k3] at h2
 by_cases k4:k=4
 ·rw [if_pos k4,bA,bA] at h2
  have a:=of_decide_eq_true h2.1.1
  have b:=of_decide_eq_true h2.1.2
  exact⟨fun e=>by omega,fun _=>nL a,fun _ _=>nL b,fun e=>by omega⟩
 rw [if_neg k4] at h2
 by_cases k5:k=5
 ·rw [if_pos k5,bA,bA] at h2
  have a:=of_decide_eq_true h2.1.1
  have b:=of_decide_eq_true h2.1.2
  exact⟨fun e=>by omega,fun _=>nL a,fun _ _=>nL b,fun e=>by omega⟩
 rw [if_neg k5] at h2
 by_cases k6:k=6
 ·rw [if_pos k6,bA] at h2
  have b:=of_decide_eq_true h2.2
  exact⟨fun e=>by omega,fun _=>nL b,fun _ e=>absurd k6 e,fun _=>beqB_iff.1 h2.1⟩
 rw [if_neg k6] at h2
 by_cases k7:k=7
 ·rw [if_pos k7,bA,bA] at h2
  have a:=of_decide_eq_true h2.2.1
  exact⟨fun _=>⟨beqB_iff.1 h2.1,a,(unlike_nodup h2.2.2).1⟩,fun e=>absurd k7 e,fun e=>absurd k7 e,fun e=>absurd e k6⟩
 ·rw [if_neg k7] at h2;cases h2
theorem formedBs_get:∀{l:List PT} {i:Nat} (h:i<l.length),formedBs l=true→formedB l[i]=true
 | a::r,0,_,h=>by simp only [formedBs,bA] at h;exact h.1
 | a::r,i+1,hi,h=>by simp only [formedBs,bA] at h;exact formedBs_get (l:=r) (i:=i) (by simpa using hi) h.2
theorem PT.len_nsq:∀l:List PT,l.length≤PT.ns l
 | []=>Nat.le_refl _
 | t::r=>by have:=PT.n_pos t;have:=PT.len_nsq r;simp only [PT.ns,lC];omega
mutual
theorem formed_nd:∀{t:PT},formedB t=true→t.n<1099511627776→t.nd
 |.mk k s keys kids,h,hn=>by
  obtain⟨h1,h2,_⟩:=formed_parts h
  simp only [PT.n] at hn
  simp only [PT.nd]
  have:=PT.len_nsq kids
  exact⟨fun hk hl=>⟨(h2 hk).2.2,by omega⟩,formed_nds h1 (by omega)⟩
theorem formed_nds:∀{l:List PT},formedBs l=true→PT.ns l<1099511627776→PT.nds l
 | [],_,_=>trivial
 | t::r,h,hn=>by
  simp only [formedBs,bA] at h
  simp only [PT.ns] at hn
  simp only [PT.nds]
  exact⟨formed_nd h.1 (by omega),formed_nds h.2 (by omega)⟩
end
theorem perm_of_sub {α:Type}:∀{l l':List α},l.Nodup→(∀x∈l,x∈l')→l'.length≤l.length→l.Perm l'
 | [],l',_,_,h=>by rw [nL (Nat.le_zero.1 h)]
 | a::r,l',hd,hs,h=>by
  obtain⟨s,t,rfl⟩:=List.append_of_mem (hs a (by simp))
  have hd:=List.nodup_cons.1 hd
  have ih:=perm_of_sub (l:=r) (l':=s++t) hd.2 (fun x hx=>by
   have:=hs x (by simp [hx])
   rw [List.mem_append,List.mem_cons] at this
   rw [List.mem_append]
   rcases this with q | rfl | q
   ·exact .inl q
   ·exact absurd hx hd.1
   ·exact .inr q) (by simp only [lA,lC] at h ⊢;omega)
  exact (List.Perm.cons a ih).trans List.perm_middle.symm
theorem map_pair {α β γ:Type} {f f':α→β} {g g':α→γ}:∀{l l':List α},l.map f=l'.map f'→l.map g=l'.map g'→(l.map fun x=>(f x,g x))=l'.map fun x=>(f' x,g' x)
 | [],[],_,_=>rfl
 | a::r,b::q,h,k=>by
  simp only [List.map_cons,List.cons.injEq] at h k ⊢
  exact⟨by rw [h.1,k.1],map_pair h.2 k.2⟩
 | [],b::q,h,_=>by cases h
 | a::r,[],h,_=>by cases h
theorem rec_eq {α:Type} {z:α} {keys keys':List (List UInt8)} {vals vals':List α} (hd:keys.Nodup) (hd':keys'.Nodup) :
  (((ordK keys).map fun i=>keys.getD i [])=((ordK keys').map fun i=>keys'.getD i [])∧((ordK keys).map fun i=>vals.getD i z)=((ordK keys').map fun i=>vals'.getD i z)) ↔
  (keys.length=keys'.length∧∀i<keys.length,∃j<keys'.length,keys.getD i []=keys'.getD j []∧vals.getD i z=vals'.getD j z):=by
 have p1:=(ordK_perm keys).map fun i=>(keys.getD i [],vals.getD i z)
 have p2:=(ordK_perm keys').map fun i=>(keys'.getD i [],vals'.getD i z)
 constructor
 ·rintro⟨h1,h2⟩
  have h:=map_pair h1 h2
  rw [h] at p1
  have p:=p1.symm.trans p2
  have hl:=p.length_eq
  simp only [List.length_map,List.length_range] at hl
  refine⟨hl,fun i hi=>?_⟩
  have:(keys.getD i [],vals.getD i z)∈(List.range keys'.length).map fun i=>(keys'.getD i [],vals'.getD i z):=p.mem_iff.1 (List.mem_map.2 ⟨i,List.mem_range.2 hi,rfl⟩)
  obtain⟨j,hj,e⟩:=List.mem_map.1 this
  simp only [Prod.mk.injEq] at e
  exact⟨j,List.mem_range.1 hj,e.1.symm,e.2.symm⟩
 ·rintro⟨hl,h⟩
  have inj:∀{ks:List (List UInt8)},ks.Nodup→∀{i j:Nat},i<ks.length→j<ks.length→ks.getD i []=ks.getD j []→i=j:=fun hd i j hi hj e=>by
   rw [List.getD_eq_getElem?_getD,List.getD_eq_getElem?_getD,gE hi,gE hj] at e
   exact (List.getElem_inj hd).1 e
  have nd:((List.range keys.length).map fun i=>(keys.getD i [],vals.getD i z)).Nodup:=by
   rw [List.Nodup,List.pairwise_map]
   refine List.Pairwise.imp_of_mem ?_ (List.nodup_range (n:=keys.length))
   intro a b ha hb hne e
   simp only [Prod.mk.injEq] at e
   exact hne (inj hd (List.mem_range.1 ha) (List.mem_range.1 hb) e.1)
  have p:=perm_of_sub (l':=(List.range keys'.length).map fun i=>(keys'.getD i [],vals'.getD i z)) nd (fun x hx=>by
   obtain⟨i,hi,rfl⟩:=List.mem_map.1 hx
   obtain⟨j,hj,e1,e2⟩:=h i (List.mem_range.1 hi)
   exact List.mem_map.2 ⟨j,List.mem_range.2 hj,by rw [e1,e2]⟩) (by simp [hl])
  have q:=p1.trans (p.trans p2.symm)
  have s1:((ordK keys).map fun i=>(keys.getD i [],vals.getD i z)).Pairwise fun a b=>0≤cmpB b.1 a.1:=List.pairwise_map.2 ((ordK_srt keys).imp fun h=>h)
  have s2:((ordK keys').map fun i=>(keys'.getD i [],vals'.getD i z)).Pairwise fun a b=>0≤cmpB b.1 a.1:=List.pairwise_map.2 ((ordK_srt keys').imp fun h=>h)
  have e:=List.Perm.eq_of_pairwise (fun a b ha hb h k=>by
   have ha:=(q.trans p2).mem_iff.1 ha
   have hb:=p2.mem_iff.1 hb
   obtain⟨i,hi,rfl⟩:=List.mem_map.1 ha
   obtain⟨j,hj,rfl⟩:=List.mem_map.1 hb
   rw [cmpB_anti] at h
   have:=inj hd' (List.mem_range.1 hi) (List.mem_range.1 hj) (cmpB_zero (by simp only at h k ⊢;omega))
   rw [this]) s1 s2 q
  have e1:=congrArg (List.map Prod.fst) e
  have e2:=congrArg (List.map Prod.snd) e
  rw [List.map_map,List.map_map] at e1 e2
  exact⟨e1,e2⟩
theorem sortTs_getD {l:List PT} {i:Nat} (h:i<l.length):(sortTs l).getD i zPT=sortT l[i]:=by
 rw [List.getD_eq_getElem?_getD,gE (by rw [sortTs_map,List.length_map];exact h)]
 simp only [sortTs_map,List.getElem_map,Option.getD_some]
theorem getD_at {α:Type} {l:List α} {i:Nat} {z:α} (h:i<l.length):l.getD i z=l[i]:=by
 rw [List.getD_eq_getElem?_getD,gE h];rfl
theorem sort_rec {s s':List UInt8} {keys keys':List (List UInt8)} {kids kids':List PT} (hd:keys.Nodup) (hd':keys'.Nodup) (hl:keys.length=kids.length) (hl':keys'.length=kids'.length) :
  sortT (.mk 7 s keys kids)=sortT (.mk 7 s' keys' kids')↔s=s'∧kids.length=kids'.length∧∀i,(hi:i<kids.length)→∃j,∃hj:j<kids'.length,keys.getD i []=keys'.getD j []∧sortT kids[i]=sortT kids'[j]:=by
 rw [sortT,sortT,if_pos ⟨rfl,hl⟩,if_pos ⟨rfl,hl'⟩]
 simp only [PT.mk.injEq,true_and]
 rw [rec_eq hd hd',hl,hl']
 refine and_congr_right fun _=>and_congr_right fun _=>forall_congr' fun i=>⟨fun h hi=>?_,fun h hi=>?_⟩
 ·obtain⟨j,hj,e1,e2⟩:=h hi
  rw [sortTs_getD hi,sortTs_getD hj] at e2
  exact⟨j,hj,e1,e2⟩
 ·obtain⟨j,hj,e1,e2⟩:=h hi
  refine⟨j,hj,e1,?_⟩
  rw [sortTs_getD hi,sortTs_getD hj];exact e2
theorem sort_list {k k':Int} {s s':List UInt8} {kids kids':List PT} (hk:k≠7) (hk':k'≠7):sortT (.mk k s [] kids)=sortT (.mk k' s' [] kids')↔k=k'∧s=s'∧kids.map sortT=kids'.map sortT:=by
 rw [sortT,sortT,if_neg (fun h=>hk h.1),if_neg (fun h=>hk' h.1)]
 simp only [PT.mk.injEq,true_and,sortTs_map]
theorem sort_k (t:PT):(sortT t).k=t.k∧(sortT t).s=t.s:=by
 obtain⟨k,s,keys,kids⟩:=t
 rw [sortT];split<;>exact⟨rfl,rfl⟩
def sameB (a b:PT):Bool:=if formedB a && formedB b then eqT (sortT a) (sortT b) else eqT a b
end Go.Dn

namespace Go.Dn
open Go Go.Proofs.C1
set_option maxRecDepth 100000
attribute [local irreducible] afterS keepE
theorem oks_iff:∀{l:List PT},PT.oks l↔∀u∈l,u.ok
 | []=>⟨fun _ u h=>by simp at h,fun _=>trivial⟩
 | t::r=>by
  simp only [PT.oks,oks_iff (l:=r),List.mem_cons]
  exact⟨fun h u hu=>by rcases hu with rfl | hu;exact h.1;exact h.2 u hu,fun h=>⟨h t (.inl rfl),fun u hu=>h u (.inr hu)⟩⟩
mutual
theorem sort_ok:∀{t:PT},t.ok→(sortT t).ok
 |.mk k s keys kids,h=>by
  simp only [PT.ok] at h
  have hs:=sorts_ok h.2.2
  have hsl:(sortTs kids).length=kids.length:=by rw [sortTs_map,List.length_map]
  rw [sortT]
  split
  ·simp only [PT.ok,List.length_map,ordK_len]
   refine⟨h.1,by omega,oks_iff.2 fun u hu=>?_⟩
   obtain⟨i,hi,rfl⟩:=List.mem_map.1 hu
   have:=ordK_lt hi
   rw [getD_at (by omega)]
   exact oks_iff.1 hs _ (List.getElem_mem _)
  ·simp only [PT.ok]
   exact⟨h.1,by omega,hs⟩
theorem sorts_ok:∀{l:List PT},PT.oks l→PT.oks (sortTs l)
 | [],_=>trivial
 | t::r,h=>by
  simp only [PT.oks] at h
  simp only [sortTs,PT.oks]
  exact⟨sort_ok h.1,sorts_ok h.2⟩
end
section
variable {gt:GT} {C:CallT}
abbrev E_eql (a c:List (List UInt8)) (i:Nat):Env:=[(0,.val (.sl 1 stat (strs a))),(1,.val (.sl 1 stat (strs c))),(12,.val (.int .i64 (strs a).length)),(13,.val (.int .i64 i))]
set_option maxHeartbeats 2000000 in
theorem slEqual_wp (hm:MonoC C) {a c:List (List UInt8)} (hl:a.length<4611686018427387904):wpF gt C F100 [.sl 1 stat (strs a),.sl 1 stat (strs c)] St.init (Ret (.bool (decide (a=c)))):=by
 have no:∀{S:St},¬a=c→Ret (.bool (decide (a=c))) (.ret (.bool false)) S:=fun h=>by rw [dF h];exact Ret.sta trivial
 have l1:=strs_length a
 have l2:=strs_length c
 refine⟨rfl,?_⟩
 refine goW ?_
 by_cases z:((strs a).length:Int)=(strs c).length
 case neg =>
  rw [neI_true z]
  refine goW ?_
  exact⟨_,rfl,no fun h=>by rw [h] at z;exact z rfl⟩
 rw [neI_false z]
 refine goW ?_
 refine loop_rule hm (α:=Nat) (fun i env S'=>i≤a.length∧env=E_eql a c i∧S'=St.init∧a.take i=c.take i) (fun i=>a.length-i) ?_ (a:=0) ⟨Nat.zero_le _,rfl,rfl,rfl⟩
 rintro i env S' ⟨hi,rfl,rfl,hp⟩
 refine goW ?_
 by_cases h:(i:Int)<(strs a).length
 ·rw [dT h]
  refine goW ?_
  have hik:i<a.length:=by omega
  have hik':i<c.length:=by omega
  refine step_ruleDO rfl rfl (sx_ia (k:=i) rfl rfl (by omega)) (goW ?_)
  refine step_ruleDO rfl rfl (sx_ldEl (agg:=false) rfl rfl (strs_at hik) rfl) (goW ?_)
  refine step_ruleDO rfl rfl (sx_ia (k:=i) rfl rfl (by omega)) (goW ?_)
  refine step_ruleDO rfl rfl (sx_ldEl (agg:=false) rfl rfl (strs_at hik') rfl) (goW ?_)
  by_cases z:a[i]=c[i]
  ·rw [beqB_true z]
   refine goW ?_
   refine⟨i+1,⟨by omega,?_,rfl,?_⟩,by omega⟩
   ·rw [wrNat (by omega)];try rfl
   ·rw [tS hik,tS hik',hp,z]
  ·rw [beqB_false z]
   refine goW ?_
   exact⟨_,rfl,no fun h=>by subst h;exact z rfl⟩
 rw [dF h]
 refine goW ?_
 rw [List.take_of_length_le (by omega),List.take_of_length_le (by omega)] at hp
 refine⟨_,rfl,?_⟩
 rw [dT hp]
 exact Ret.sta trivial
abbrev E_eqf (f:FuncId) (a c:List PT) (i:Nat):Env:=[(1,.val (.sl 4 stat (encTs c))),(2,.val (.fn f [] [])),(15,.val (.sl 4 stat (encTs a))),(16,.val (.int .i64 (encTs a).length)),(17,.val (.int .i64 i))]
theorem eqTs_false {a c:List PT} (h:¬a=c):eqTs a c=false:=by
 cases hh:eqTs a c with
 | false=>rfl
 | true=>exact absurd (eqTs_iff.1 hh) h
set_option maxHeartbeats 2000000 in
theorem eqFunc_wp (hm:MonoC C) {a c:List PT} (ih:∀u,u.n≤PT.ns a→u.ok→∀v,PF C 58 [encT u,encT v] (.bool (eqT u v))) (hk:PT.oks a) (hl:a.length<4611686018427387904) :
  wpF gt C F101 [.sl 4 stat (encTs a),.sl 4 stat (encTs c),.fn 58 [] []] St.init (Ret (.bool (eqTs a c))):=by
 have no:∀{S:St},¬a=c→Ret (.bool (eqTs a c)) (.ret (.bool false)) S:=fun h=>by rw [eqTs_false h];exact Ret.sta trivial
 have l1:=encTs_len a
 have l2:=encTs_len c
 refine⟨rfl,?_⟩
 refine goW ?_
 by_cases z:((encTs a).length:Int)=(encTs c).length
 case neg =>
  rw [neI_true z]
  refine goW ?_
  exact⟨_,rfl,no fun h=>by rw [h] at z;exact z rfl⟩
 rw [neI_false z]
 refine goW ?_
 refine loop_rule hm (α:=Nat) (fun i env S'=>i≤a.length∧env=E_eqf 58 a c i∧S'=St.init∧a.take i=c.take i) (fun i=>a.length-i) ?_ (a:=0) ⟨Nat.zero_le _,rfl,rfl,rfl⟩
 rintro i env S' ⟨hi,rfl,rfl,hp⟩
 refine goW ?_
 by_cases h:(i:Int)<(encTs a).length
 ·rw [dT h]
  refine goW ?_
  have hik:i<a.length:=by omega
  have hik':i<c.length:=by omega
  have ihk:=ih _ (PT.ns_mem (List.getElem_mem hik)) (PT.oks_get hk (gE hik)) c[i]
  have e1:=encTs_get hik
  have e2:=encTs_get hik'
  have r1:=rdT a[i]
  have r2:=rdT c[i]
  obtain⟨k1,s1,x1,y1,g1⟩:=encT_agg a[i]
  obtain⟨k2,s2,x2,y2,g2⟩:=encT_agg c[i]
  rw [g1] at ihk e1 r1
  rw [g2] at ihk e2 r2
  refine step_ruleO (sx_ia (k:=i) rfl rfl (by omega)) (goW ?_)
  refine step_ruleO (sx_ldEl (agg:=true) rfl rfl e1 r1) (goW ?_)
  refine step_ruleO (sx_ia (k:=i) rfl rfl (by omega)) (goW ?_)
  refine step_ruleO (sx_ldEl (agg:=true) rfl rfl e2 r2) (goW ?_)
  refine call_pf hm (by rfl) ihk (goW ?_)
  by_cases z:a[i]=c[i]
  ·rw [eqT_true z]
   refine goW ?_
   refine⟨i+1,⟨by omega,?_,rfl,?_⟩,by omega⟩
   ·rw [wrNat (by omega)];try rfl
   ·rw [tS hik,tS hik',hp,z]
  ·rw [eqT_false z]
   refine goW ?_
   exact⟨_,rfl,no fun h=>by subst h;exact z rfl⟩
 rw [dF h]
 refine goW ?_
 rw [List.take_of_length_le (by omega),List.take_of_length_le (by omega)] at hp
 refine⟨_,rfl,?_⟩
 rw [eqTs_iff.2 hp]
 exact Ret.sta trivial
set_option maxHeartbeats 2000000 in
theorem identical_wp (hm:MonoC C) {t u:PT} (hk:t.ok) (he:∀a c:List (List UInt8),a.length<4611686018427387904→PF C 100 [.sl 1 stat (strs a),.sl 1 stat (strs c)] (.bool (decide (a=c)))) (hf:∀c:List PT,PF C 101 [.sl 4 stat (encTs t.kids),.sl 4 stat (encTs c),.fn 58 [] []] (.bool (eqTs t.kids c))) :
  wpF gt C F58 [encT t,encT u] St.init (Ret (.bool (eqT t u))):=by
 obtain⟨k,s,keys,kids⟩:=t
 obtain⟨k',s',keys',kids'⟩:=u
 simp only [PT.ok] at hk
 have he:=he keys keys' (by omega)
 have hf:=hf kids'
 simp only [PT.kids] at hf
 rw [eqT]
 refine⟨rfl,?_⟩
 refine goW ?_
 by_cases z0:k=k'
 case neg =>
  rw [eqI_false z0,dF z0]
  refine goW ?_
  exact⟨_,rfl,Ret.sta trivial⟩
 rw [eqI_true z0,dT z0]
 refine goW ?_
 by_cases z1:s=s'
 case neg =>
  rw [beqB_false z1,dF z1]
  refine goW ?_
  exact⟨_,rfl,Ret.sta trivial⟩
 rw [beqB_true z1,dT z1]
 refine goW ?_
 by_cases z2:keys=keys'
 case neg =>
  rw [dF z2] at he
  refine call_pf hm (by rfl) he ?_
  rw [dF z2]
  refine goW ?_
  exact⟨_,rfl,Ret.sta trivial⟩
 rw [dT z2] at he
 refine call_pf hm (by rfl) he ?_
 rw [dT z2]
 refine goW ?_
 refine call_pf hm (by rfl) hf (goW ?_)
 exact⟨_,rfl,Ret.sta trivial⟩
set_option maxHeartbeats 2000000 in
theorem same_wp (hm:MonoC C) (hi:∀t u:PT,t.ok→PF C 58 [encT t,encT u] (.bool (eqT t u))) (hs:∀t:PT,t.ok→t.nd→PF C 34 [encT t] (encT (sortT t)))
  {a c:PT} (ha:PF C 50 [encT a] (.bool (formedB a))) (hc:PF C 50 [encT c] (.bool (formedB c))) (a1:a.ok) (a2:formedB a=true→a.nd) (c1:c.ok) (c2:formedB c=true→c.nd) :
  wpF gt C F24 [encT a,encT c] St.init (Ret (.bool (sameB a c))):=by
 have h1:=hi a c a1
 have h2:=hi (sortT a) (sortT c) (sort_ok a1)
 have s1:=hs a a1
 have s2:=hs c c1
 have key:∀r,sameB a c=r→(formedB a=true→formedB c=true→eqT (sortT a) (sortT c)=r)∧(¬(formedB a=true∧formedB c=true)→eqT a c=r):=fun r e=>by
  unfold sameB at e
  refine⟨fun x y=>?_,fun n=>?_⟩
  ·rw [x,y] at e;exact e
  ·rw [if_neg (by rw [bA];exact n)] at e;exact e
 generalize hr:sameB a c=res
 obtain⟨k1,k2⟩:=key res hr
 clear key hr
 obtain⟨ka,sa,xa,ya,ga⟩:=encT_agg a
 obtain⟨kc,sc,xc,yc,gc⟩:=encT_agg c
 rw [ga] at ha h1 s1 ⊢
 rw [gc] at hc h1 s2 ⊢
 cases fa:formedB a with
 | false =>
  rw [fa] at ha
  rw [k2 (by simp [fa])] at h1
  refine⟨rfl,?_⟩
  refine goW ?_
  refine call_pf hm (by rfl) ha (goW ?_)
  refine call_pf hm (by rfl) h1 (goW ?_)
  exact⟨_,rfl,Ret.sta trivial⟩
 | true =>
  cases fc:formedB c with
  | false =>
   rw [fa] at ha
   rw [fc] at hc
   rw [k2 (by simp [fc])] at h1
   refine⟨rfl,?_⟩
   refine goW ?_
   refine call_pf hm (by rfl) ha (goW ?_)
   refine call_pf hm (by rfl) hc (goW ?_)
   refine call_pf hm (by rfl) h1 (goW ?_)
   exact⟨_,rfl,Ret.sta trivial⟩
  | true =>
   rw [fa] at ha
   rw [fc] at hc
   rw [k1 fa fc] at h2
   have s1:=s1 (a2 fa)
   have s2:=s2 (c2 fc)
   obtain⟨ka',sa',xa',ya',ga'⟩:=encT_agg (sortT a)
   obtain⟨kc',sc',xc',yc',gc'⟩:=encT_agg (sortT c)
   rw [ga'] at s1 h2
   rw [gc'] at s2 h2
   refine⟨rfl,?_⟩
   refine goW ?_
   refine call_pf hm (by rfl) ha (goW ?_)
   refine call_pf hm (by rfl) hc (goW ?_)
   refine call_pfD hm (by rfl) s1 (goW ?_)
   refine call_pfD hm (by rfl) s2 (goW ?_)
   refine call_pfD hm (by rfl) h2 (goW ?_)
   exact⟨_,rfl,Ret.sta trivial⟩
end

section
variable {gt:GT} {C:CallT}
end

section
variable {S:St} {R:List Rs} {ty:TypeId} {o:SI} {xs:List AV} {l:List Nat}
end
section
variable {gt:GT} {C:CallT}
end

section
variable {gt:GT} {C:CallT}
end

section
variable {gt:GT} {C:CallT}
end
end Go.Dn

namespace Go.Proofs.YthgidapmofcloaaGreatDoor.Fn
open Go.ChangeShapes Go.WideShapes Go.ChangeAt Go.RowKit Go.Dn
section
variable {R:List Rs} {ty:TypeId} {t b:Nat}
theorem swapC (g:AV):SwapC A R ty t b g:=fun S xs P X M Y Q a c n ha hc hn hx hl hxy hA=>by
 subst ha hc hn
 exact AC_intro Tryz.checked.mixed Tryz.func218 (by kernel_rfl) C1.F218_ok (swap_wp hm hx hl hxy hA)
theorem rotC (f:FuncId) (cs:List AV):RotC A R ty t b (.fn f [] cs):=fun S xs P X Y Q a m c ha hmm hc h1 h2 hx hl hA=>by
 subst ha hmm hc
 exact AC_intro Tryz.checked.mixed Tryz.func201 (by kernel_rfl) C1.F201_ok (rot_wp hm (swapC _) h1 h2 hx hl hA)
theorem insC {f:FuncId} {cs:List AV} {n:Nat} {cz:Nat→Nat→Int} (hz:Cz cz) (hc:CmpC A f cs R ty t b n cz):InsC A R ty t b n (.fn f [] cs) cz:=fun S xs P X Q a c ha hcc hX hx hl hA=>by
 subst ha hcc
 exact AC_intro Tryz.checked.mixed Tryz.func180 (by kernel_rfl) C1.F180_ok (ins_wp hm hz hc hX hx hl hA)
theorem mrgA {f:FuncId} {cs:List AV} {n:Nat} {cz:Nat→Nat→Int} (hz:Cz cz) (hc:CmpC A f cs R ty t b n cz):∀k,MrgC A R ty t b n (.fn f [] cs) cz k :=
 mrgC (gt:=gtT) hm (fun us S Q h=>AC_intro Tryz.checked.mixed Tryz.func181 (by kernel_rfl) C1.F181_ok h) hz hc (rotC f cs)
theorem stbC {f:FuncId} {cs:List AV} {n:Nat} {cz:Nat→Nat→Int} (hz:Cz cz) (hc:CmpC A f cs R ty t b n cz):StbC A R ty t b n (.fn f [] cs) cz 150 fun xs=>[slA t xs.length xs,.int .i64 xs.length,.fn f [] cs]:=fun S xs L hn hx hl hA =>
 AC_intro Tryz.checked.mixed Tryz.func150 (by kernel_rfl) C1.F150_ok (stb_wp hm (insC hz hc) (mrgA hz hc) hn hx hl hA)
theorem sstC {f:FuncId} {cs:List AV} {n:Nat} {cz:Nat→Nat→Int} (hz:Cz cz) (hc:CmpC A f cs R ty t b n cz):SstC A R ty t b n (.fn f [] cs) cz:=fun S xs L hn hx hl hA =>
 AC_intro Tryz.checked.mixed Tryz.func112 (by kernel_rfl) C1.F112_ok (sst_wp hm (stbC hz hc) hn hx hl hA)
end
theorem ins0 (g:AV) (S:St):A 180 [slN,.int .i64 0,.int .i64 0,g] S fun r S'=>r=.ret (.tup [])∧S'=S :=
 AC_intro Tryz.checked.mixed Tryz.func180 (by kernel_rfl) C1.F180_ok ins0_wp
theorem stb0 (g:AV) (S:St):A 150 [slN,.int .i64 0,g] S fun r S'=>r=.ret (.tup [])∧S'=S :=
 AC_intro Tryz.checked.mixed Tryz.func150 (by kernel_rfl) C1.F150_ok (stb0_wp hm (ins0 g))
theorem sst0 (g:AV) (S:St):A 112 [slN,g] S fun r S'=>r=.ret (.tup [])∧S'=S :=
 AC_intro Tryz.checked.mixed Tryz.func112 (by kernel_rfl) C1.F112_ok (sst0_wp hm (stb0 g))
theorem cmpS (a c:List UInt8):PF A 145 [.str a,.str c] (.int .i64 (cmpB a c)) :=
 pf Tryz.func145 (by kernel_rfl) C1.F145_ok (s2 trivial trivial) cmpS_wp
theorem compareS (a c:List UInt8):PF A 104 [.str a,.str c] (.int .i64 (cmpB a c)) :=
 pf Tryz.func104 (by kernel_rfl) C1.F104_ok (s2 trivial trivial) (compare_wp hm cmpS)
theorem ord1 (keys:List (List UInt8)) (ty:TypeId) (t b:Nat):CmpC A 113 [.ptr 0 0] (R_k keys) ty t b keys.length (czK keys):=fun S l i j hA hi hj =>
 AC_intro Tryz.checked.mixed Tryz.func113 (by kernel_rfl) C1.F113_ok (ord1_wp hm compareS hA hi hj)
theorem order (keys:List (List UInt8)) (hd:keys.Nodup) (hl:keys.length<1099511627776):PF A 64 [.sl 1 stat (strs keys)] (.sl 1 stat (ints (ordK keys))) :=
 pf Tryz.func64 (by kernel_rfl) C1.F64_ok (s1 (sK keys)) (by
  cases keys with
  | nil =>
   have e:ordK ([]:List (List UInt8))=[]:=nL (ordK_len [])
   rw [e]
   exact order0_wp hm (sst0 _)
  | cons k r=>exact order_wp hm (fun t b=>sstC (czK_cz _) (ord1 _ _ t b)) hd (by simp) hl)
theorem sorted:∀t:PT,t.ok→t.nd→PF A 34 [encT t] (encT (sortT t)) :=
 indT fun t ih hk hd=>pf Tryz.func34 (by kernel_rfl) C1.F34_ok (s1 (sta_T t)) (sorted_wp hm order ih hk hd)
theorem slEqual (a c:List (List UInt8)) (h:a.length<4611686018427387904):PF A 100 [.sl 1 stat (strs a),.sl 1 stat (strs c)] (.bool (decide (a=c))) :=
 pf Tryz.func100 (by kernel_rfl) C1.F100_ok (s2 (sK a) (sK c)) (slEqual_wp hm h)
theorem identical:∀t u:PT,t.ok→PF A 58 [encT t,encT u] (.bool (eqT t u)) :=
 indT fun t ih u h=>pf Tryz.func58 (by kernel_rfl) C1.F58_ok (s2 (sta_T t) (sta_T u)) (identical_wp hm h slEqual fun c =>
  pf Tryz.func101 (by kernel_rfl) C1.F101_ok (s3 (sta_sl (sta_Ts t.kids)) (sta_sl (sta_Ts c)) ⟨trivial,trivial⟩)
   (eqFunc_wp hm (fun v hv hk w=>ih v (by cases t;simp only [PT.kids,PT.n] at hv ⊢;omega) w hk) (by cases t;simp only [PT.ok] at h;exact h.2.2) (by cases t;simp only [PT.ok] at h;simp only [PT.kids];omega)))
theorem same (a c:PT) (a0:a.sok) (a1:a.ok) (a2:a.n<1099511627776) (c0:c.sok) (c1:c.ok) (c2:c.n<1099511627776):PF A 24 [encT a,encT c] (.bool (sameB a c)) :=
 pf Tryz.func24 (by kernel_rfl) C1.F24_ok (s2 (sta_T a) (sta_T c)) (same_wp hm identical sorted (formed a a0) (formed c c0) a1 (fun h=>formed_nd h a2) c1 (fun h=>formed_nd h c2))
end Go.Proofs.YthgidapmofcloaaGreatDoor.Fn

namespace Go.Dn
open Go Go.Proofs.C1
def sgnI (n:Int):Int:=if n<0 then -1 else if 0<n then 1 else 0
def lexI (x y:Int):Int:=if x=0 then y else x
theorem sgnI_anti (n:Int):sgnI (-n)=- sgnI n:=by unfold sgnI;split<;>split<;>omega
theorem sgnI_zero {n:Int} (h:sgnI n=0):n=0:=by unfold sgnI at h;split at h<;>(try split at h)<;>omega
theorem lexI_anti (x y:Int):lexI (-x) (-y)=- lexI x y:=by unfold lexI;split<;>split<;>omega
def One3 (x:Int):Prop:=x=-1∨x=0∨x=1
def emB (d:List UInt8):Int:=if d=[] then 0 else 1
theorem emB_zero {d e:List UInt8} (h:emB d-emB e=0):d=[]↔e=[]:=by
 unfold emB at h
 by_cases a:d=[]<;>by_cases b:e=[]<;>simp [a,b] at h ⊢
theorem One3.em (d e:List UInt8):One3 (emB d-emB e):=by unfold One3 emB;split<;>split<;>omega
def ordP (a b:Parts3):Int:=lexI (emB a.2.1-emB b.2.1) (if a.2.1=[] then 0 else lexI (sgnI ((a.2.1.length+a.2.2)-(b.2.1.length+b.2.2))) (cmpB a.2.1 b.2.1))
theorem ordP_anti (a b:Parts3):ordP b a=- ordP a b:=by
 unfold ordP
 rw [←lexI_anti]
 by_cases h:emB a.2.1-emB b.2.1=0
 ·have e:=emB_zero h
  rw [show emB b.2.1-emB a.2.1=-(emB a.2.1-emB b.2.1) by omega]
  by_cases z:a.2.1=[]
  ·rw [if_pos z,if_pos (e.1 z)];rfl
  ·rw [if_neg z,if_neg (fun h=>z (e.2 h)),←lexI_anti,cmpB_anti a.2.1 b.2.1,←sgnI_anti]
   congr 3;omega
 ·unfold lexI
  rw [if_neg (by omega),if_neg (by omega)];omega
def sgP (a b:Parts3):Int:=if a.1=true then (if b.1=true then ordP b a else -1) else (if b.1=true then 1 else ordP a b)
theorem sgP_anti (a b:Parts3):sgP b a=- sgP a b:=by
 unfold sgP
 cases a.1<;>cases b.1<;>simp [ordP_anti a b]
def numB (a b:List UInt8):Int×Int:=if (normB a).2=0 then (if (normB b).2=0 then (sgP (splitB a).1 (splitB b).1,0) else (0,(normB b).2)) else (0,(normB a).2)
theorem numB_ok {a b:List UInt8} (ha:(normB a).2=0) (hb:(normB b).2=0):numB a b=(sgP (splitB a).1 (splitB b).1,0):=by
 unfold numB;rw [if_pos ha,if_pos hb]
theorem norm_split {s:List UInt8} (h:(normB s).2=0):(splitB s).2=0∧normB s=joinB (splitB s).1:=by
 unfold normB at h ⊢
 by_cases z:(splitB s).2=0
 ·rw [if_pos z];exact⟨z,rfl⟩
 ·rw [if_neg z] at h;exact absurd h z
def hdK:List (List UInt8)→List (List UInt8)→Int
 | a::_,b::_=>cmpB a b
 | _,_=>0
mutual
def cmpT:PT→PT→Int
 |.mk k s keys kids,.mk k' s' keys' kids'=>if k=k' then (if k=3∧(numB s s').2=0 then (numB s s').1 else lexI (cmpB s s') (cmpKs keys keys' kids kids')) else sgnI (k-k')
def cmpKs:List (List UInt8)→List (List UInt8)→List PT→List PT→Int
 | keys,keys',t::r,u::r'=>lexI (hdK keys keys') (lexI (cmpT t u) (cmpKs keys.tail keys'.tail r r'))
 | _,_,[],[]=>0
 | _,_,[],_::_=>-1
 | _,_,_::_,[]=>1
end
theorem hdK_anti (a b:List (List UInt8)):hdK b a=- hdK a b:=by
 cases a<;>cases b<;>simp only [hdK]<;>first | exact cmpB_anti _ _ | rfl
theorem numB_swap {a b:List UInt8}:((numB b a).2=0↔(numB a b).2=0)∧((numB a b).2=0→(numB b a).1=- (numB a b).1):=by
 unfold numB
 by_cases h:(normB a).2=0<;>by_cases k:(normB b).2=0<;>simp [h,k,sgP_anti (splitB a).1 (splitB b).1]
mutual
theorem cmpT_anti:∀t u:PT,cmpT u t=- cmpT t u
 |.mk k s keys kids,.mk k' s' keys' kids'=>by
  simp only [cmpT]
  by_cases h:k=k'
  ·subst h
   rw [if_pos rfl,if_pos rfl]
   obtain⟨n1,n2⟩:=numB_swap (a:=s) (b:=s')
   by_cases c:k=3∧(numB s s').2=0
   ·rw [if_pos c,if_pos ⟨c.1,n1.2 c.2⟩,n2 c.2]
   ·rw [if_neg c,if_neg (fun h=>c ⟨h.1,n1.1 h.2⟩),←lexI_anti,cmpB_anti s s',cmpKs_anti keys keys' kids kids']
  ·rw [if_neg h,if_neg (fun e=>h e.symm),←sgnI_anti];congr 1;omega
theorem cmpKs_anti:∀(keys keys':List (List UInt8)) (l l':List PT),cmpKs keys' keys l' l=- cmpKs keys keys' l l'
 | keys,keys',t::r,u::r'=>by
  simp only [cmpKs]
  rw [←lexI_anti,←lexI_anti,hdK_anti keys keys',cmpT_anti t u,cmpKs_anti keys.tail keys'.tail r r']
 | _,_,[],[]=>by simp only [cmpKs];rfl
 | _,_,[],_::_=>by simp only [cmpKs];rfl
 | _,_,_::_,[]=>by simp only [cmpKs]
end
theorem formed_num {s:List UInt8} {keys:List (List UInt8)} {kids:List PT} (h:formedB (.mk 3 s keys kids)=true):(normB s).2=0∧(normB s).1=s:=by
 simp only [formedB,bA] at h
 have h2:=h.2
 unfold shapeB at h2
 rw [if_neg (by omega),if_neg (by omega),if_pos rfl,bA] at h2
 have h3:=h2.2
 rw [bA] at h3
 exact⟨of_decide_eq_true h3.1,beqB_iff.1 h3.2⟩
theorem cmpT_self {t:PT}:cmpT t t=0:=by have:=cmpT_anti t t;omega

theorem unlike_iff:∀{keys seen:List (List UInt8)},unlikeB seen keys=true↔(∀x∈keys,validB x=true)∧keys.Nodup∧∀x∈keys,x ∉ seen
 | [],_=>by simp [unlikeB]
 | s::r,seen=>by
  simp only [unlikeB]
  by_cases hs:s∈seen
  ·rw [if_pos hs]
   exact⟨fun h=>(by cases h),fun h=>absurd hs (h.2.2 s (by simp))⟩
  ·rw [if_neg hs,bA,unlike_iff (keys:=r)]
   constructor
   ·rintro⟨v,a,b,c⟩
    refine⟨fun x hx=>?_,List.nodup_cons.2 ⟨fun hm=>c s hm (by simp),b⟩,fun x hx=>?_⟩
    ·rcases List.mem_cons.1 hx with rfl | hx
     ·exact v
     ·exact a x hx
    ·rcases List.mem_cons.1 hx with rfl | hx
     ·exact hs
     ·exact fun hm=>c x hx (by simp [hm])
   ·rintro⟨a,b,c⟩
    have b:=List.nodup_cons.1 b
    refine⟨a s (by simp),fun x hx=>a x (by simp [hx]),b.2,fun x hx hm=>?_⟩
    rw [List.mem_append,List.mem_singleton] at hm
    rcases hm with hm | rfl
    ·exact c x (by simp [hx]) hm
    ·exact b.1 hx
theorem unlike_perm {a b:List (List UInt8)} (p:a.Perm b) (h:unlikeB [] b=true):unlikeB [] a=true:=by
 rw [unlike_iff] at h ⊢
 exact⟨fun x hx=>h.1 x (p.mem_iff.1 hx),p.nodup_iff.2 h.2.1,fun x hx=>h.2.2 x (p.mem_iff.1 hx)⟩
theorem map_range_getD {α:Type} {z:α} (l:List α):((List.range l.length).map fun i=>l.getD i z)=l:=by
 refine List.ext_getElem (by simp) fun i h1 h2=>?_
 rw [List.getElem_map,List.getElem_range,getD_at h2]
theorem ord_perm {α:Type} {z:α} (keys:List (List UInt8)) {l:List α} (h:keys.length=l.length):((ordK keys).map fun i=>l.getD i z).Perm l:=by
 have:=(ordK_perm keys).map fun i=>l.getD i z
 rw [h,map_range_getD] at this
 exact this
theorem formedBs_iff:∀{l:List PT},formedBs l=true↔∀u∈l,formedB u=true
 | []=>by simp [formedBs]
 | t::r=>by simp [formedBs,formedBs_iff (l:=r)]
theorem ns_perm {a b:List PT} (p:a.Perm b):PT.ns a=PT.ns b:=by
 induction p with
 | nil=>rfl
 | cons x _ ih=>simp only [PT.ns,ih]
 | swap x y l=>simp only [PT.ns];omega
 | trans _ _ h1 h2=>rw [h1,h2]
theorem sortTs_len (l:List PT):(sortTs l).length=l.length:=by rw [sortTs_map,List.length_map]
mutual
theorem formed_sort:∀{t:PT},formedB t=true→formedB (sortT t)=true
 |.mk k s keys kids,h=>by
  have hk:=formeds_sort (l:=kids) (formed_parts h).1
  simp only [formedB,bA] at h
  rw [sortT]
  by_cases c:k=7∧keys.length=kids.length
  ·rw [if_pos c]
   obtain⟨rfl,hl⟩:=c
   have p:=ord_perm (z:=([]:List UInt8)) keys (l:=keys) rfl
   have q:=ord_perm (z:=zPT) keys (l:=sortTs kids) (by rw [sortTs_len,hl])
   have sh:=h.2
   simp only [formedB,bA]
   refine⟨formedBs_iff.2 fun u hu=>formedBs_iff.1 hk u (q.mem_iff.1 hu),?_⟩
   unfold shapeB at sh ⊢
   rw [if_neg (by omega),if_neg (by omega),if_neg (by omega),if_neg (by omega),if_neg (by omega),if_neg (by omega),if_pos rfl,bA,bA] at sh ⊢
   refine⟨sh.1,?_,unlike_perm p sh.2.2⟩
   simp
  ·rw [if_neg c]
   simp only [formedB,bA]
   exact⟨hk,by rw [sortTs_len];exact h.2⟩
theorem formeds_sort:∀{l:List PT},formedBs l=true→formedBs (sortTs l)=true
 | [],_=>rfl
 | t::r,h=>by
  simp only [formedBs,bA] at h
  simp only [sortTs,formedBs,bA]
  exact⟨formed_sort h.1,formeds_sort h.2⟩
end
theorem soks_iff:∀{l:List PT},PT.soks l↔∀u∈l,u.sok
 | []=>by simp [PT.soks]
 | t::r=>by simp [PT.soks,soks_iff (l:=r)]
mutual
theorem sort_sok:∀{t:PT},t.sok→(sortT t).sok
 |.mk k s keys kids,h=>by
  simp only [PT.sok] at h
  obtain⟨h1,h2,h3,h4,h5⟩:=h
  have hk:=sorts_sok h5
  rw [sortT]
  by_cases c:k=7∧keys.length=kids.length
  ·rw [if_pos c]
   have p:=ord_perm (z:=([]:List UInt8)) keys (l:=keys) rfl
   have q:=ord_perm (z:=zPT) keys (l:=sortTs kids) (by rw [sortTs_len,c.2])
   have ol:=ordK_len keys
   simp only [PT.sok,List.length_map,ol]
   exact⟨h1,fun x hx=>h2 x (p.mem_iff.1 hx),h3,by omega,soks_iff.2 fun u hu=>soks_iff.1 hk u (q.mem_iff.1 hu)⟩
  ·rw [if_neg c]
   simp only [PT.sok,sortTs_len]
   exact⟨h1,h2,h3,h4,hk⟩
theorem sorts_sok:∀{l:List PT},PT.soks l→PT.soks (sortTs l)
 | [],_=>trivial
 | t::r,h=>by
  simp only [PT.soks] at h
  simp only [sortTs,PT.soks]
  exact⟨sort_sok h.1,sorts_sok h.2⟩
end
end Go.Dn

namespace Go.Dn
open Go Go.Proofs.C1
set_option maxRecDepth 100000
attribute [local irreducible] afterS keepE
def rightN (s:List UInt8):Parts3×Int:=if (normB s).2=0 then ((splitB s).1,0) else (zeroP,(normB s).2)
def SmP (p:Parts3):Prop:=p.2.1.length≤1000∧-999999≤p.2.2∧p.2.2≤999999
theorem norm_small {s:List UInt8} (h:(normB s).2=0):SmP (splitB s).1:=by
 obtain⟨h1,h2⟩:=norm_split h
 refine⟨splitB_len h1,?_⟩
 rw [h2] at h
 unfold joinB at h
 split at h
 ·cases h
 ·split at h
  ·cases h
  ·omega
section
variable {gt:GT} {C:CallT}
set_option maxHeartbeats 2000000 in
theorem nright_wp (hm:MonoC C) (hn:∀s:List UInt8,s.length<4294967281→PF C 81 [.str s] (encJoin (normB s))) (hs:∀s:List UInt8,s.length<9223372036854775807→PF C 132 [.str s] (encSplit (splitB s)))
  {s:List UInt8} (hl:s.length<4294967281):wpF gt C F143 [.str s] St.init (Ret (encSplit (rightN s))):=by
 have hn:=hn s hl
 have hs:=hs s (by omega)
 have hsp:=fun h=>(norm_split (s:=s) h).1
 have ret:∀{o:Parts3×Int} {S:St},rightN s=o→Ret (encSplit (rightN s)) (.ret (encSplit o)) S:=fun h=>by rw [h];exact Ret.sta (sta_split _)
 have hf:rightN s=if (normB s).2=0 then ((splitB s).1,0) else (zeroP,(normB s).2):=rfl
 generalize rightN s=res at ret hf ⊢
 generalize normB s=nb at hn hsp hf
 generalize splitB s=sp at hs hsp hf
 obtain⟨a,e⟩:=nb
 obtain⟨⟨p1,p2,p3⟩,q⟩:=sp
 simp only at hsp hf
 refine⟨rfl,?_⟩
 refine goW ?_
 refine call_pf hm (by rfl) hn (goW ?_)
 by_cases z:e=0
 ·rw [neI_false z]
  rw [if_pos z] at hf
  obtain rfl:=hsp z
  refine goW ?_
  refine call_pf hm (by rfl) hs (goW ?_)
  exact⟨_,rfl,ret (o:=((p1,p2,p3),0)) hf⟩
 ·rw [neI_true z]
  rw [if_neg z] at hf
  refine goW ?_
  exact⟨_,rfl,ret (o:=(zeroP,e)) hf⟩
theorem sgnI_clamp (n:Int):(bif decide ((bif decide (n<1) then n else 1) > -1) then bif decide (n<1) then n else 1 else -1)=sgnI n:=by
 unfold sgnI
 simp only [cond_eq_ite,decide_eq_true_eq]
 repeat' split
 all_goals omega
set_option maxHeartbeats 2000000 in
theorem nsign_wp {n:Int}:wpF gt C F176 [.int .i64 n] St.init (Ret (.int .i64 (sgnI n))):=by
 refine⟨rfl,?_⟩
 refine goW ?_
 rw [sgnI_clamp]
 exact⟨_,rfl,Ret.sta trivial⟩
theorem min1 (d:List UInt8):(bif decide ((d.length:Int)<1) then (d.length:Int) else 1)=emB d:=by
 unfold emB
 cases d with
 | nil=>rfl
 | cons a r =>
  rw [dF (by simp only [lC];omega),if_neg (by simp)];rfl
theorem len_eq0 {d:List UInt8}:((d.length:Int) == 0)=decide (d=[]):=by
 cases d with
 | nil=>rfl
 | cons a r=>rw [dF (by simp)];simp;omega
set_option maxHeartbeats 4000000 in
theorem norder_wp (hm:MonoC C) (hs:∀n:Int,PF C 176 [.int .i64 n] (.int .i64 (sgnI n))) (hc:∀a c:List UInt8,PF C 104 [.str a,.str c] (.int .i64 (cmpB a c)))
  {a b:Parts3} (ha:SmP a) (hb:SmP b):wpF gt C F144 [encP a,encP b] St.init (Ret (.int .i64 (ordP a b))):=by
 obtain⟨a0,a1,a2⟩:=a
 obtain⟨b0,b1,b2⟩:=b
 obtain⟨x1,x2,x3⟩:=ha
 obtain⟨y1,y2,y3⟩:=hb
 simp only at x1 x2 x3 y1 y2 y3
 have ret:∀{o:Int} {S:St},ordP (a0,a1,a2) (b0,b1,b2)=o→Ret (.int .i64 (ordP (a0,a1,a2) (b0,b1,b2))) (.ret (.int .i64 o)) S:=fun h=>by rw [h];exact Ret.sta trivial
 have hf:ordP (a0,a1,a2) (b0,b1,b2)=lexI (emB a1-emB b1) (if a1=[] then 0 else lexI (sgnI ((a1.length+a2)-(b1.length+b2))) (cmpB a1 b1)):=rfl
 generalize ordP (a0,a1,a2) (b0,b1,b2)=res at ret hf ⊢
 have em1:=One3.em a1 b1
 refine⟨rfl,?_⟩
 refine goW ?_
 rw [len_eq0]
 by_cases z1:a1=[]
 ·rw [dT z1]
  refine goW ?_
  rw [min1 a1,min1 b1,wr64 (by unfold One3 at em1;omega) (by unfold One3 at em1;omega)]
  exact⟨_,rfl,ret (by rw [hf,if_pos z1];unfold lexI;split<;>omega)⟩
 rw [dF z1]
 rw [if_neg z1] at hf
 refine goW ?_
 rw [len_eq0]
 by_cases z2:b1=[]
 ·rw [dT z2]
  refine goW ?_
  rw [min1 a1,min1 b1,wr64 (by unfold One3 at em1;omega) (by unfold One3 at em1;omega)]
  refine⟨_,rfl,ret ?_⟩
  rw [hf,z2]
  unfold lexI emB
  rw [if_neg z1];rfl
 rw [dF z2]
 have he:emB a1-emB b1=0:=by unfold emB;rw [if_neg z1,if_neg z2];rfl
 rw [he] at hf
 clear em1
 refine goW ?_
 rw [wr64 (n:=(a1.length:Int)+a2) (by omega) (by omega),wr64 (n:=(b1.length:Int)+b2) (by omega) (by omega)]
 by_cases z3:(a1.length:Int)+a2=b1.length+b2
 ·rw [neI_false z3]
  refine goW ?_
  refine call_pf hm (by rfl) (hc a1 b1) (goW ?_)
  refine⟨_,rfl,ret ?_⟩
  rw [hf,z3,Int.sub_self];rfl
 ·rw [neI_true z3]
  refine goW ?_
  rw [wr64 (n:=(a1.length:Int)+a2) (by omega) (by omega),wr64 (n:=(a1.length:Int)+a2-b1.length) (by omega) (by omega),wr64 (n:=(a1.length:Int)+a2-b1.length-b2) (by omega) (by omega)]
  refine call_pf hm (by rfl) (hs _) (goW ?_)
  refine⟨_,rfl,ret ?_⟩
  rw [hf]
  unfold lexI
  rw [if_pos rfl,show (a1.length:Int)+a2-b1.length-b2=a1.length+a2-(b1.length+b2) by omega]
  rw [if_neg (fun h=>z3 (by have:=sgnI_zero h;omega))]
set_option maxHeartbeats 4000000 in
theorem ncompare_wp (hm:MonoC C) (hr:∀s:List UInt8,s.length<4294967281→PF C 143 [.str s] (encSplit (rightN s))) (ho:∀a b:Parts3,SmP a→SmP b→PF C 144 [encP a,encP b] (.int .i64 (ordP a b)))
  {s t:List UInt8} (hl:s.length<4294967281) (hl':t.length<4294967281):wpF gt C F103 [.str s,.str t] St.init (Ret (.tup [.int .i64 (numB s t).1,.int .i64 (numB s t).2])):=by
 have h1:=hr s hl
 have h2:=hr t hl'
 have s1:=norm_small (s:=s)
 have s2:=norm_small (s:=t)
 have ret:∀{o:Int×Int} {S:St},numB s t=o→Ret (.tup [.int .i64 (numB s t).1,.int .i64 (numB s t).2]) (.ret (.tup [.int .i64 o.1,.int .i64 o.2])) S:=fun h=>by rw [h];exact Ret.sta ⟨trivial,trivial,trivial⟩
 have hf:numB s t=if (normB s).2=0 then (if (normB t).2=0 then (sgP (splitB s).1 (splitB t).1,0) else (0,(normB t).2)) else (0,(normB s).2):=rfl
 generalize numB s t=res at ret hf ⊢
 unfold rightN at h1 h2
 generalize (normB s).2=e1 at h1 s1 hf
 generalize (normB t).2=e2 at h2 s2 hf
 generalize (splitB s).1=a at h1 s1 hf
 generalize (splitB t).1=b at h2 s2 hf
 have o1:=fun h h'=>ho a b (s1 h) (s2 h')
 have o2:=fun h h'=>ho b a (s2 h') (s1 h)
 clear s1 s2 ho hr
 obtain⟨a0,a1,a2⟩:=a
 obtain⟨b0,b1,b2⟩:=b
 refine⟨rfl,?_⟩
 refine goW ?_
 by_cases z1:e1=0
 case neg =>
  rw [if_neg z1] at h1 hf
  refine call_pf hm (by rfl) h1 (goW ?_)
  rw [neI_true z1]
  refine goW ?_
  exact⟨_,rfl,ret hf⟩
 rw [if_pos z1] at h1 hf
 refine call_pf hm (by rfl) h1 (goW ?_)
 by_cases z2:e2=0
 case neg =>
  rw [if_neg z2] at h2 hf
  refine call_pf hm (by rfl) h2 (goW ?_)
  rw [neI_true z2]
  refine goW ?_
  exact⟨_,rfl,ret hf⟩
 rw [if_pos z2] at h2 hf
 refine call_pf hm (by rfl) h2 (goW ?_)
 have o1:=o1 z1 z2
 have o2:=o2 z1 z2
 unfold sgP at hf
 cases a0 with
 | false =>
  cases b0 with
  | false =>
   simp only [Bool.false_eq_true,if_false] at hf
   refine goW ?_
   refine call_pf hm (by rfl) o1 (goW ?_)
   exact⟨_,rfl,ret hf⟩
  | true =>
   simp only [Bool.false_eq_true,if_false,if_true] at hf
   refine goW ?_
   exact⟨_,rfl,ret hf⟩
 | true =>
  cases b0 with
  | false =>
   simp only [Bool.false_eq_true,if_false,if_true] at hf
   refine goW ?_
   exact⟨_,rfl,ret hf⟩
  | true =>
   simp only [if_true] at hf
   refine goW ?_
   refine call_pf hm (by rfl) o2 (goW ?_)
   exact⟨_,rfl,ret hf⟩
end

theorem formed_kind {k:Int} {s:List UInt8} {keys:List (List UInt8)} {kids:List PT} (h:formedB (.mk k s keys kids)=true):1≤k∧k≤7:=by
 simp only [formedB,bA] at h
 have h2:=h.2
 unfold shapeB at h2
 refine Decidable.byContradiction fun hc=>?_
 rw [if_neg (by omega),if_neg (by omega),if_neg (by omega),if_neg (by omega),if_neg (by omega),if_neg (by omega),if_neg (by omega)] at h2
 cases h2
theorem hdK_at {keys keys':List (List UInt8)} {i:Nat} (h:i<keys.length) (h':i<keys'.length):hdK (keys.drop i) (keys'.drop i)=cmpB keys[i] keys'[i]:=by
 rw [dC h,dC h'];rfl
theorem cmpKs_step {keys keys':List (List UInt8)} {kids kids':List PT} {i:Nat} (h:i<kids.length) (h':i<kids'.length) :
  cmpKs (keys.drop i) (keys'.drop i) (kids.drop i) (kids'.drop i)=lexI (hdK (keys.drop i) (keys'.drop i)) (lexI (cmpT kids[i] kids'[i]) (cmpKs (keys.drop (i+1)) (keys'.drop (i+1)) (kids.drop (i+1)) (kids'.drop (i+1)))):=by
 rw [dC h,dC h',cmpKs,List.tail_drop,List.tail_drop]
theorem cmpKs_end {keys keys':List (List UInt8)} {kids kids':List PT} {i:Nat} (h:i≤kids.length) (h':i≤kids'.length) (e:i=kids.length∨i=kids'.length) :
  cmpKs (keys.drop i) (keys'.drop i) (kids.drop i) (kids'.drop i)=sgnI ((kids.length:Int)-kids'.length):=by
 rcases e with e | e
 ·rw [List.drop_eq_nil_of_le (show kids.length≤i by omega)]
  by_cases z:i<kids'.length
  ·rw [dC z,cmpKs]
   unfold sgnI
   rw [if_pos (by omega)]
  ·rw [List.drop_eq_nil_of_le (show kids'.length≤i by omega),cmpKs]
   unfold sgnI
   rw [if_neg (by omega),if_neg (by omega)]
 ·rw [List.drop_eq_nil_of_le (show kids'.length≤i by omega)]
  by_cases z:i<kids.length
  ·rw [dC z,cmpKs]
   unfold sgnI
   rw [if_neg (by omega),if_pos (by omega)]
  ·rw [List.drop_eq_nil_of_le (show kids.length≤i by omega),cmpKs]
   unfold sgnI
   rw [if_neg (by omega),if_neg (by omega)]
theorem lexI_zero' (y:Int):lexI 0 y=y:=rfl
theorem lexI_ne {x y:Int} (h:¬x=0):lexI x y=x:=by unfold lexI;rw [if_neg h]
section
variable {gt:GT} {C:CallT}
set_option maxHeartbeats 2000000 in
theorem tsign_wp {n:Int}:wpF gt C F102 [.int .i64 n] St.init (Ret (.int .i64 (sgnI n))):=by
 refine⟨rfl,?_⟩
 refine goW ?_
 rw [sgnI_clamp]
 exact⟨_,rfl,Ret.sta trivial⟩
abbrev E_tc (t u:PT) (n i:Int):Env:=[(2,.box (encT t).cells),(3,.box (encT u).cells),(50,.val (.int .i64 n)),(51,.val (.int .i64 i))]
set_option maxHeartbeats 8000000 in
theorem tcmp_wp (hm:MonoC C) (hsg:∀n:Int,PF C 102 [.int .i64 n] (.int .i64 (sgnI n))) (hc:∀a c:List UInt8,PF C 104 [.str a,.str c] (.int .i64 (cmpB a c)))
  (hn:∀s t:List UInt8,s.length<4294967281→t.length<4294967281→PF C 103 [.str s,.str t] (.tup [.int .i64 (numB s t).1,.int .i64 (numB s t).2]))
  {t u:PT} (ih:∀x,x.n<t.n→formedB x=true→x.ok→x.sok→∀y,formedB y=true→y.ok→y.sok→PF C 59 [encT x,encT y] (.int .i64 (cmpT x y)))
  (ft:formedB t=true) (hk:t.ok) (hs:t.sok) (fu:formedB u=true) (hk':u.ok) (hs':u.sok) :
  wpF gt C F59 [encT t,encT u] St.init (Ret (.int .i64 (cmpT t u))):=by
 obtain⟨k,s,keys,kids⟩:=t
 obtain⟨k',s',keys',kids'⟩:=u
 have kd:=formed_kind ft
 have kd':=formed_kind fu
 have n1:=fun h:k=3=>(formed_num (s:=s) (keys:=keys) (kids:=kids) (by rw [←h];exact ft)).1
 have n2:=fun h:k'=3=>(formed_num (s:=s') (keys:=keys') (kids:=kids') (by rw [←h];exact fu)).1
 obtain⟨fk,f7,f6,_⟩:=formed_parts ft
 obtain⟨fk',f7',f6',_⟩:=formed_parts fu
 simp only [PT.ok] at hk hk'
 obtain⟨hk1,hk2,hk3⟩:=hk
 obtain⟨hk1',hk2',hk3'⟩:=hk'
 simp only [PT.sok] at hs hs'
 obtain⟨hs1,hs2,hs3,hs4,hs5⟩:=hs
 obtain⟨hs1',hs2',hs3',hs4',hs5'⟩:=hs'
 have l1:=encTs_len kids
 have l2:=encTs_len kids'
 have l3:=strs_length keys
 have l4:=strs_length keys'
 have ret:∀{o:Int} {S:St},cmpT (.mk k s keys kids) (.mk k' s' keys' kids')=o→Ret (.int .i64 (cmpT (.mk k s keys kids) (.mk k' s' keys' kids'))) (.ret (.int .i64 o)) S:=fun h=>by rw [h];exact Ret.sta trivial
 have hf:cmpT (.mk k s keys kids) (.mk k' s' keys' kids')=if k=k' then (if k=3∧(numB s s').2=0 then (numB s s').1 else lexI (cmpB s s') (cmpKs keys keys' kids kids')) else sgnI (k-k'):=by simp only [cmpT]
 generalize cmpT (.mk k s keys kids) (.mk k' s' keys' kids')=res at ret hf ⊢
 refine⟨rfl,?_⟩
 refine goW ?_
 by_cases z0:k=k'
 case neg =>
  rw [neI_true z0]
  rw [if_neg z0] at hf
  refine goW ?_
  rw [wr64 (by omega) (by omega)]
  refine call_pf hm (by rfl) (hsg _) (goW ?_)
  exact⟨_,rfl,ret hf⟩
 subst z0
 rw [neI_false rfl]
 rw [if_pos rfl] at hf
 refine goW ?_
 by_cases k3:k=3
 ·rw [eqI_true k3]
  have hn:=hn s s' (by omega) (by omega)
  have z:(numB s s').2=0:=by rw [numB_ok (n1 k3) (n2 k3)]
  rw [if_pos ⟨k3,z⟩] at hf
  rw [z] at hn
  refine goW ?_
  refine call_pf hm (by rfl) hn (goW ?_)
  exact⟨_,rfl,ret hf⟩
 rw [eqI_false k3]
 rw [if_neg (fun h=>k3 h.1)] at hf
 refine goW ?_
 refine call_pf hm (by rfl) (hc s s') (goW ?_)
 by_cases z1:cmpB s s'=0
 case neg =>
  rw [neI_true z1]
  refine goW ?_
  exact⟨_,rfl,ret (by rw [hf,lexI_ne z1])⟩
 rw [neI_false z1]
 rw [z1,lexI_zero'] at hf
 refine goW ?_
 obtain⟨n,hmin,hn1,hn2,hn3⟩:∃n:Nat,(bif decide (((encTs kids').length:Int)<(encTs kids).length) then ((encTs kids').length:Int) else (encTs kids).length)=(n:Int)∧n≤kids.length∧n≤kids'.length∧(n=kids.length∨n=kids'.length):=by
  by_cases c:((encTs kids').length:Int)<(encTs kids).length
  ·exact⟨kids'.length,by rw [dT c,cond_true,l2],by omega,by omega,.inr rfl⟩
  ·exact⟨kids.length,by rw [dF c,cond_false,l1],by omega,by omega,.inl rfl⟩
 rw [hmin]
 refine loop_rule hm (α:=Nat) (fun i env S'=>i≤n∧env=E_tc (.mk k s keys kids) (.mk k s' keys' kids') n i∧S'=St.init∧res=cmpKs (keys.drop i) (keys'.drop i) (kids.drop i) (kids'.drop i)) (fun i=>n-i) ?_ (a:=0) ⟨Nat.zero_le _,rfl,rfl,hf⟩
 clear hf
 rintro i env S' ⟨hi,rfl,rfl,hf⟩
 refine goW ?_
 by_cases hlt:(i:Int)<n
 case neg =>
  rw [dF hlt]
  rw [cmpKs_end (by omega) (by omega) (by omega)] at hf
  refine goW ?_
  rw [wr64 (by omega) (by omega),l1,l2]
  refine call_pf hm (by rfl) (hsg _) (goW ?_)
  exact⟨_,rfl,ret hf⟩
 rw [dT hlt]
 have hik:i<kids.length:=by omega
 have hik':i<kids'.length:=by omega
 rw [cmpKs_step hik hik'] at hf
 have ihk:=ih _ (kid_lt hik) (formedBs_get hik fk) (PT.oks_get hk3 (gE hik)) (PT.soks_get hik hs5) kids'[i] (formedBs_get hik' fk') (PT.oks_get hk3' (gE hik')) (PT.soks_get hik' hs5')
 have e1:=encTs_get hik
 have e2:=encTs_get hik'
 have r1:=rdT kids[i]
 have r2:=rdT kids'[i]
 obtain⟨k1,s1,x1,y1,g1⟩:=encT_agg kids[i]
 obtain⟨k2,s2,x2,y2,g2⟩:=encT_agg kids'[i]
 rw [g1] at ihk e1 r1
 rw [g2] at ihk e2 r2
 have next:∀{w:Int},cmpT kids[i] kids'[i]=w→(w=0→res=lexI w (cmpKs (keys.drop (i+1)) (keys'.drop (i+1)) (kids.drop (i+1)) (kids'.drop (i+1)))→res=cmpKs (keys.drop (i+1)) (keys'.drop (i+1)) (kids.drop (i+1)) (kids'.drop (i+1))):=fun _ e h=>by rw [h,e,lexI_zero']
 generalize cmpT kids[i] kids'[i]=w at ihk hf next
 refine goW ?_
 by_cases k7:k=7
 ·have hy:i<keys.length:=by have:=(f7 k7).2.1;omega
  have hy':i<keys'.length:=by have:=(f7' k7).2.1;omega
  rw [hdK_at hy hy'] at hf
  have a1:=strs_at hy
  have a2:=strs_at hy'
  generalize keys[i]=q1 at a1 hf
  generalize keys'[i]=q2 at a2 hf
  rw [dT (show (i:Int)<(strs keys).length by omega)]
  refine goW ?_
  rw [dT (show (i:Int)<(strs keys').length by omega)]
  refine goW ?_
  refine step_ruleDO rfl rfl (sx_ia (k:=i) rfl rfl (by omega)) (goW ?_)
  refine step_ruleDO rfl rfl (sx_ldEl (agg:=false) rfl rfl a1 rfl) (goW ?_)
  refine step_ruleDO rfl rfl (sx_ia (k:=i) rfl rfl (by omega)) (goW ?_)
  refine step_ruleDO rfl rfl (sx_ldEl (agg:=false) rfl rfl a2 rfl) (goW ?_)
  refine call_pfD hm (by rfl) (hc q1 q2) (goW ?_)
  by_cases z2:cmpB q1 q2=0
  case neg =>
   rw [neI_true z2]
   refine goW ?_
   exact⟨_,rfl,ret (by rw [hf,lexI_ne z2])⟩
  rw [neI_false z2]
  rw [z2,lexI_zero'] at hf
  refine goW ?_
  refine step_ruleDO rfl rfl (sx_ia (k:=i) rfl rfl (by omega)) (goW ?_)
  refine step_ruleDO rfl rfl (sx_ldEl (agg:=true) rfl rfl e1 r1) (goW ?_)
  refine step_ruleDO rfl rfl (sx_ia (k:=i) rfl rfl (by omega)) (goW ?_)
  refine step_ruleDO rfl rfl (sx_ldEl (agg:=true) rfl rfl e2 r2) (goW ?_)
  refine call_pfD hm (by rfl) ihk (goW ?_)
  by_cases z3:w=0
  case neg =>
   rw [neI_true z3]
   refine goW ?_
   exact⟨_,rfl,ret (by rw [hf,lexI_ne z3])⟩
  rw [neI_false z3]
  refine goW ?_
  refine⟨i+1,⟨by omega,?_,rfl,by rw [hf,z3,lexI_zero']⟩,by omega⟩
  rw [wrNat (by omega)];try rfl
 ·have hy:keys=[]:=f6 k7
  have hz:hdK (keys.drop i) (keys'.drop i)=0:=by rw [hy];simp [hdK]
  rw [hz,lexI_zero'] at hf
  rw [dF (show ¬(i:Int)<(strs keys).length by rw [l3,hy];simp)]
  refine goW ?_
  refine step_ruleDO rfl rfl (sx_ia (k:=i) rfl rfl (by omega)) (goW ?_)
  refine step_ruleDO rfl rfl (sx_ldEl (agg:=true) rfl rfl e1 r1) (goW ?_)
  refine step_ruleDO rfl rfl (sx_ia (k:=i) rfl rfl (by omega)) (goW ?_)
  refine step_ruleDO rfl rfl (sx_ldEl (agg:=true) rfl rfl e2 r2) (goW ?_)
  refine call_pfD hm (by rfl) ihk (goW ?_)
  by_cases z3:w=0
  case neg =>
   rw [neI_true z3]
   refine goW ?_
   exact⟨_,rfl,ret (by rw [hf,lexI_ne z3])⟩
  rw [neI_false z3]
  refine goW ?_
  refine⟨i+1,⟨by omega,?_,rfl,by rw [hf,z3,lexI_zero']⟩,by omega⟩
  rw [wrNat (by omega)];try rfl
set_option maxHeartbeats 2000000 in
theorem tCompare_wp (hm:MonoC C) {t u:PT} (hs:PF C 34 [encT t] (encT (sortT t))) (hs':PF C 34 [encT u] (encT (sortT u))) (hc:PF C 59 [encT (sortT t),encT (sortT u)] (.int .i64 (cmpT (sortT t) (sortT u)))) :
  wpF gt C F25 [encT t,encT u] St.init (Ret (.int .i64 (cmpT (sortT t) (sortT u)))):=by
 have hne:∀{k s keys kids k' s' keys' kids'},¬k=k'→cmpT (sortT (.mk k s keys kids)) (sortT (.mk k' s' keys' kids'))=sgnI (k-k'):=fun {k s keys kids k' s' keys' kids'} h=>by
  have a:=(sort_k (.mk k s keys kids)).1
  have b:=(sort_k (.mk k' s' keys' kids')).1
  generalize sortT (.mk k s keys kids)=x at a
  generalize sortT (.mk k' s' keys' kids')=y at b
  obtain⟨xk,xs,xe,xi⟩:=x
  obtain⟨yk,ys,ye,yi⟩:=y
  simp only [PT.k] at a b
  subst a b
  rw [cmpT,if_neg h]
 obtain⟨k,s,keys,kids⟩:=t
 obtain⟨k',s',keys',kids'⟩:=u
 have hne:=hne (k:=k) (s:=s) (keys:=keys) (kids:=kids) (k':=k') (s':=s') (keys':=keys') (kids':=kids')
 obtain⟨ka,sa,xa,ya,ga⟩:=encT_agg (sortT (.mk k s keys kids))
 obtain⟨kb,sb,xb,yb,gb⟩:=encT_agg (sortT (.mk k' s' keys' kids'))
 rw [ga] at hs hc
 rw [gb] at hs' hc
 have ret:∀{o:Int} {S:St},cmpT (sortT (.mk k s keys kids)) (sortT (.mk k' s' keys' kids'))=o→Ret (.int .i64 (cmpT (sortT (.mk k s keys kids)) (sortT (.mk k' s' keys' kids')))) (.ret (.int .i64 o)) S:=fun h=>by rw [h];exact Ret.sta trivial
 generalize cmpT (sortT (.mk k s keys kids)) (sortT (.mk k' s' keys' kids'))=res at ret hc hne ⊢
 refine⟨rfl,?_⟩
 refine goW ?_
 by_cases z0:k=k'
 case neg =>
  have hne:=hne z0
  rw [neI_true z0]
  refine goW ?_
  by_cases z1:k<k'
  ·rw [dT z1]
   refine goW ?_
   exact⟨_,rfl,ret (by rw [hne];unfold sgnI;rw [if_pos (by omega)])⟩
  ·rw [dF z1]
   refine goW ?_
   exact⟨_,rfl,ret (by rw [hne];unfold sgnI;rw [if_neg (by omega),if_pos (by omega)])⟩
 rw [neI_false z0]
 refine goW ?_
 refine call_pfD hm (by rfl) hs (goW ?_)
 refine call_pfD hm (by rfl) hs' (goW ?_)
 refine call_pfD hm (by rfl) hc (goW ?_)
 exact⟨_,rfl,ret rfl⟩
end

section
variable {gt:GT} {C:CallT}
end

section
variable {gt:GT} {C:CallT}
end

section
variable {gt:GT} {C:CallT}
theorem right_formed {t:PT} (h:rightB t=0):formedB t=true:=by
 unfold rightB at h
 split at h
 ·cases h
 ·split at h
  ·cases h
  ·split at h
   ·assumption
   ·cases h
end
end Go.Dn

namespace Go.Proofs.YthgidapmofcloaaGreatDoor.Fn
open Go.ChangeShapes Go.WideShapes Go.ChangeAt Go.RowKit Go.Dn
theorem nright (s:List UInt8) (h:s.length<4294967281):PF A 143 [.str s] (encSplit (rightN s)) :=
 pf Tryz.func143 (by kernel_rfl) C1.F143_ok (s1 trivial) (nright_wp hm normal split h)
theorem nsign (n:Int):PF A 176 [.int .i64 n] (.int .i64 (sgnI n)) :=
 pf Tryz.func176 (by kernel_rfl) C1.F176_ok (s1 trivial) nsign_wp
theorem norder (a b:Parts3) (ha:SmP a) (hb:SmP b):PF A 144 [encP a,encP b] (.int .i64 (ordP a b)) :=
 pf Tryz.func144 (by kernel_rfl) C1.F144_ok (s2 ⟨trivial,trivial,trivial,trivial⟩ ⟨trivial,trivial,trivial,trivial⟩) (norder_wp hm nsign compareS ha hb)
theorem ncompare (s t:List UInt8) (h:s.length<4294967281) (h':t.length<4294967281):PF A 103 [.str s,.str t] (.tup [.int .i64 (numB s t).1,.int .i64 (numB s t).2]) :=
 pf Tryz.func103 (by kernel_rfl) C1.F103_ok (s2 trivial trivial) (ncompare_wp hm nright norder h h')
theorem tsign (n:Int):PF A 102 [.int .i64 n] (.int .i64 (sgnI n)) :=
 pf Tryz.func102 (by kernel_rfl) C1.F102_ok (s1 trivial) tsign_wp
theorem tcmp:∀t:PT,formedB t=true→t.ok→t.sok→∀u,formedB u=true→u.ok→u.sok→PF A 59 [encT t,encT u] (.int .i64 (cmpT t u)) :=
 indT fun t ih ft hk hs u fu hk' hs'=>pf Tryz.func59 (by kernel_rfl) C1.F59_ok (s2 (sta_T t) (sta_T u)) (tcmp_wp hm tsign compareS ncompare ih ft hk hs fu hk' hs')
theorem tCompare (t u:PT) (ft:formedB t=true) (hk:t.ok) (hs:t.sok) (hn:t.n<1099511627776) (fu:formedB u=true) (hk':u.ok) (hs':u.sok) (hn':u.n<1099511627776):PF A 25 [encT t,encT u] (.int .i64 (cmpT (sortT t) (sortT u))) :=
 pf Tryz.func25 (by kernel_rfl) C1.F25_ok (s2 (sta_T t) (sta_T u)) (tCompare_wp hm (sorted t hk (formed_nd ft hn)) (sorted u hk' (formed_nd fu hn')) (tcmp _ (formed_sort ft) (sort_ok hk) (sort_sok hs) _ (formed_sort fu) (sort_ok hk') (sort_sok hs')))
end Go.Proofs.YthgidapmofcloaaGreatDoor.Fn

namespace Go.Dn
open Go Go.Proofs.C1
set_option maxRecDepth 100000
attribute [local irreducible] afterS keepE
section
variable {gt:GT} {d:Option Nat} {env:Env} {S:St} {R:List Rs}
theorem sx_ldB0 (h:Hs S R) (i:Nat) {id:Nat} {ty:TypeId} {v w:AV} (hi:R[i]? = some (.bx id ty [v,w])) (hn:notAgg v=true) {a:DOpd} (ha:loc env a=some (.hp id 0)) :
  stepO gt d env S (.ld false 1 a)=.done (putV d v env) S:=by
 have hb:=(h.ok i _ hi).2
 have:ldL gt env S false 1 (.hp id 0)=some v:=by
  simp only [ldL,ldC,hb,cut]
  show mkv false [v]=some v
  simp only [mkv,hn,cond_true,cond_false]
 simp only [stepO,ha,this,SR.val]
theorem sx_ldB1 (h:Hs S R) (i:Nat) {id:Nat} {ty:TypeId} {v w:AV} (hi:R[i]? = some (.bx id ty [v,w])) (hn:notAgg w=true) {a:DOpd} (ha:loc env a=some (.hp id 1)) :
  stepO gt d env S (.ld false 1 a)=.done (putV d w env) S:=by
 have hb:=(h.ok i _ hi).2
 have:ldL gt env S false 1 (.hp id 1)=some w:=by
  simp only [ldL,ldC,hb,cut]
  show mkv false [w]=some w
  simp only [mkv,hn,cond_true,cond_false]
 simp only [stepO,ha,this,SR.val]
theorem st_B0 (h:Hs S R) (i:Nat) {id:Nat} {ty:TypeId} {v w v':AV} (hi:R[i]? = some (.bx id ty [v,w])) {a x:DOpd} (ha:loc env a=some (.hp id 0)) (hx:opd env x=some v') (hc:v'.cells=[v']) (ho:ok1 v'=true) :
  ∃S',stepO gt d env S (.st 1 a x)=.done (putV d .undef env) S'∧Hs S' (R.set i (.bx id ty [v',w])):=by
 have hb:=(h.ok i _ hi).2
 refine⟨_,?_,h.boxTo hi [v',w]⟩
 simp only [stepO,ha,hx,hc,stL,hb,List.all_cons,List.all_nil,ho]
 rfl
theorem st_B1 (h:Hs S R) (i:Nat) {id:Nat} {ty:TypeId} {v w v':AV} (hi:R[i]? = some (.bx id ty [v,w])) {a x:DOpd} (ha:loc env a=some (.hp id 1)) (hx:opd env x=some v') (hc:v'.cells=[v']) (ho:ok1 v'=true) :
  ∃S',stepO gt d env S (.st 1 a x)=.done (putV d .undef env) S'∧Hs S' (R.set i (.bx id ty [v,v'])):=by
 have hb:=(h.ok i _ hi).2
 refine⟨_,?_,h.boxTo hi [v,v']⟩
 simp only [stepO,ha,hx,hc,stL,hb,List.all_cons,List.all_nil,ho]
 rfl
theorem sx_cvU (h:Hs S R) (i:Nat) {id:Nat} {ty:TypeId} {v w:AV} (hi:R[i]? = some (.bx id ty [v,w])) {x:DOpd} (hx:opd env x=some (.ptr id 0)):stepO gt d env S (.cvU x)=.done (putV d (.ptr id 0) env) S:=by
 have hb:=(h.ok i _ hi).2
 simp only [stepO,hx,hb]
 rfl
theorem sx_cvP (h:Hs S R) (i:Nat) {id:Nat} {ty:TypeId} {v w:AV} (hi:R[i]? = some (.bx id ty [v,w])) {x:DOpd} (hx:opd env x=some (.ptr id 0)) {ok:List (TypeId×Nat×Nat)} (ho:ok.any (fun p=>Nat.beq p.1 ty && (Nat.beq p.2.1 0 && Nat.ble p.2.2 2))=true) :
  stepO gt d env S (.cvP ok x)=.done (putV d (.ptr id 0) env) S:=by
 have hb:=(h.ok i _ hi).2
 simp only [stepO,hx,hb,lC,List.length_nil,Nat.zero_add,Nat.reduceAdd,ho,cond_true]
theorem sx_nePtr {id:Nat} {x y:DOpd} (hx:opd env x=some (.ptr id 0)) (hy:opd env y=some (.ptr id 0)):stepO gt d env S (.bin .neq (some .ptr) x y)=.done (putV d (.bool false) env) S:=by
 simp only [stepO,hx,hy,binV,eqv,eqPtr,Nat.beq_refl,cond_true,Option.map_some,SR.val]
 rfl
end
theorem sx_ustr {gt:GT} {d:Option Nat} {env:Env} {S:St} {x y:DOpd} {t l n m:Nat} {ty:TypeId} {xs:List AV} {s:List UInt8} (hx:opd env x=some (.eptr 1 ⟨some (t,l),0,none,false⟩ xs 0 0)) (hy:opd env y=some (.int .i64 (Int.ofNat n))) (hn:n=xs.length) (hb:bytes? xs=some s) (hl:n≤17592186044416)
  (hr:rd S ⟨some (t,l),0,none,false⟩=.here) (ht:lk S.tip t=some (some (m,ty,false))):stepO gt d env S (.ustr ty x y)=.done (putV d (.str s) env) { S with tip:=(t,none)::S.tip }:=by
 have h3:Nat.ble n 17592186044416=true:=Nat.ble_eq_true_of_le hl
 simp only [stepO,hx,hy,hr,ht,Nat.beq_refl,←hn,h3,hb,Bool.and_true,cond_true]
abbrev R_b (id:Nat) (ty:TypeId) (p:AV) (o:SI) (acc:List UInt8):List Rs:=[.bx id ty [p,.sl 1 o (ofBytes acc)],.gr 5 o (ofBytes acc)]
def BS (S:St) (id:Nat) (ty:TypeId) (acc:List UInt8):Prop:=(ty=76∨ty=78)∧∃p o,(p=.nilp∨p=.ptr id 0)∧Hs S (R_b id ty p o acc)
section
variable {gt:GT} {C:CallT}
set_option maxHeartbeats 2000000 in
theorem copyCheck_wp (hm:MonoC C) {S:St} {id:Nat} {ty:TypeId} {acc:List UInt8} (h:BS S id ty acc):wpF gt C F159 [.ptr id 0] S fun r S'=>r=.ret (.tup [])∧∃o,Hs S' (R_b id ty (.ptr id 0) o acc):=by
 obtain⟨hty,p,o,hp,h⟩:=h
 refine⟨rfl,?_⟩
 rcases hp with rfl | rfl
 ·refine goW ?_
  refine step_ruleO (sx_ldB0 h 0 rfl rfl rfl) (goW ?_)
  refine step_ruleO (sx_cvU h 0 rfl rfl) (goW ?_)
  refine step_ruleO (sx_cvP h 0 rfl rfl (by rcases hty with rfl | rfl<;>rfl)) (goW ?_)
  refine st_runP (st_B0 h 0 rfl rfl rfl rfl rfl) (by trivial) ?_
  intro S2 h2
  refine goW ?_
  exact⟨_,rfl,rfl,o,h2⟩
 ·refine goW ?_
  refine step_ruleO (sx_ldB0 h 0 rfl rfl rfl) (goW ?_)
  refine step_ruleO (sx_ldB0 h 0 rfl rfl rfl) (goW ?_)
  refine step_ruleO (sx_nePtr rfl rfl) (goW ?_)
  exact⟨_,rfl,rfl,o,h⟩
set_option maxHeartbeats 2000000 in
theorem writeString_wp (hm:MonoC C) (hc:∀(S:St) (id:Nat) (ty:TypeId) (acc:List UInt8),BS S id ty acc→C 159 [.ptr id 0] S fun r S'=>r=.ret (.tup [])∧∃o,Hs S' (R_b id ty (.ptr id 0) o acc))
  {S:St} {id:Nat} {ty:TypeId} {acc s:List UInt8} (h:BS S id ty acc) (hl:acc.length+s.length<1099511627776) :
  wpF gt C F128 [.ptr id 0,.str s] S fun r S'=>r=.ret (.tup [.int .i64 s.length,.nilif])∧BS S' id ty (acc++s):=by
 have hc:=hc S id ty acc h
 obtain⟨hty,_⟩:=h
 have l1:=ofBytes_len acc
 have l2:=ofBytes_len s
 refine⟨rfl,?_⟩
 refine goW ?_
 refine call_rule (by rfl) (hm _ _ _ _ _ hc ?_)
 rintro r S2 ⟨rfl,o,h⟩
 refine goW ?_
 refine step_ruleO (sx_ldB1 h 0 rfl rfl rfl) (goW ?_)
 refine r_app h 1 rfl (by trivial) rfl rfl rfl (by rw [l1,l2];omega) (by rw [l1,l2];omega) (by decide) (by decide) (ofBytes_ok s) ?_
 intro o3 S3 h
 refine goW ?_
 refine st_runP (st_B1 h 0 rfl rfl rfl rfl rfl) (by trivial) ?_
 intro S4 h
 refine goW ?_
 refine⟨_,rfl,rfl,hty,.ptr id 0,o3,.inr rfl,?_⟩
 rw [show R_b id ty (.ptr id 0) o3 (acc++s)=[.bx id ty [.ptr id 0,.sl 1 o3 (ofBytes acc++ofBytes s)],.gr 5 o3 (ofBytes acc++ofBytes s)] by unfold R_b;rw [ofBytes_app]]
 exact h
set_option maxHeartbeats 2000000 in
theorem writeByte_wp (hm:MonoC C) (hc:∀(S:St) (id:Nat) (ty:TypeId) (acc:List UInt8),BS S id ty acc→C 159 [.ptr id 0] S fun r S'=>r=.ret (.tup [])∧∃o,Hs S' (R_b id ty (.ptr id 0) o acc))
  {S:St} {id:Nat} {ty:TypeId} {acc:List UInt8} {c:UInt8} (h:BS S id ty acc) (hl:acc.length<1099511627776) :
  wpF gt C F129 [.ptr id 0,.int .u8 c.toNat] S fun r S'=>r=.ret .nilif∧BS S' id ty (acc++[c]):=by
 have hc:=hc S id ty acc h
 obtain⟨hty,_⟩:=h
 have l1:=ofBytes_len acc
 refine⟨rfl,?_⟩
 refine goW ?_
 refine call_rule (by rfl) (hm _ _ _ _ _ hc ?_)
 rintro r S2 ⟨rfl,o,h⟩
 refine goW ?_
 refine step_ruleO (sx_ldB1 h 0 rfl rfl rfl) (goW ?_)
 obtain⟨h,hsrc⟩:=h.bldT 5 1
 refine r_app h 1 rfl trivial rfl rfl (hsrc _ _ _) (by rw [l1];simp;omega) (by rw [l1];simp;omega) (by decide) (by decide) rfl ?_
 intro o3 S3 h
 refine goW ?_
 refine st_runP (st_B1 h 0 rfl rfl rfl rfl rfl) (by trivial) ?_
 intro S4 h
 refine goW ?_
 refine⟨_,rfl,rfl,hty,.ptr id 0,o3,.inr rfl,?_⟩
 rw [show R_b id ty (.ptr id 0) o3 (acc++[c])=[.bx id ty [.ptr id 0,.sl 1 o3 (ofBytes acc++ofBytes [c])],.gr 5 o3 (ofBytes acc++ofBytes [c])] by unfold R_b;rw [ofBytes_app]]
 exact h
set_option maxHeartbeats 2000000 in
theorem bLen_wp {S:St} {id:Nat} {ty:TypeId} {acc:List UInt8} (h:BS S id ty acc):wpF gt C F48 [.ptr id 0] S fun r S'=>r=.ret (.int .i64 acc.length)∧S'=S:=by
 obtain⟨hty,p,o,hp,h⟩:=h
 have l1:=ofBytes_len acc
 refine⟨rfl,?_⟩
 refine goW ?_
 refine step_ruleO (sx_ldB1 h 0 rfl rfl rfl) (goW ?_)
 refine⟨_,rfl,?_,rfl⟩
 rw [l1]
set_option maxHeartbeats 2000000 in
theorem bString_wp {S:St} {id:Nat} {ty:TypeId} {acc:List UInt8} (h:BS S id ty acc) (h0:acc≠[]) (hl:acc.length≤17592186044416):wpF gt C F49 [.ptr id 0] S fun r S'=>r=.ret (.str acc):=by
 obtain⟨hty,p,o,hp,h⟩:=h
 have l1:=ofBytes_len acc
 obtain⟨a,r,rfl⟩:=List.exists_cons_of_ne_nil h0
 have hg:=h.ok 1 _ rfl
 have hbs:=bytes_of (a::r)
 rcases hg with⟨_,_,_,e⟩ | ⟨t,l,rfl,g1,g2,g3,g4,g5⟩
 ·cases e
 refine⟨rfl,?_⟩
 refine goW ?_
 refine step_ruleDO rfl rfl (sx_ldB1 h 0 rfl rfl rfl) (goW ?_)
 refine step_ruleDO rfl rfl (sx_ldB1 h 0 rfl rfl rfl) (goW ?_)
 refine step_ruleDO rfl rfl (sx_ustr rfl rfl rfl hbs (by rw [l1];exact hl) (RsOK.rd (.inr ⟨t,l,rfl,g1,g2,g3,g4,g5⟩)) g3) (goW ?_)
 exact⟨_,rfl,rfl⟩
end

def shortB (b:UInt8):UInt8:=if b=34∨b=92 then b else if b=8 then 98 else if b=9 then 116 else if b=10 then 110 else if b=12 then 102 else if b=13 then 114 else 0
def hexB (n:Nat):UInt8:=if n<10 then UInt8.ofNat (48+n) else UInt8.ofNat (87+n)
def escB (b:UInt8):List UInt8:=if shortB b≠0 then [92,shortB b] else if b.toNat<32∨b=127 then [92,117,48,48,hexB (b.toNat / 16),hexB (b.toNat % 16)] else [b]
def escs:List UInt8→List UInt8
 | []=>[]
 | b::r=>escB b++escs r
def quoteB (s:List UInt8):List UInt8:=34::escs s++[34]
theorem escB_len (b:UInt8):(escB b).length≤6:=by unfold escB;split<;>(try split)<;>simp
theorem escs_len:∀s:List UInt8,(escs s).length≤6*s.length
 | []=>Nat.le_refl _
 | b::r=>by have:=escB_len b;have:=escs_len r;simp only [escs,lA,lC];omega
theorem escs_app:∀a b:List UInt8,escs (a++b)=escs a++escs b
 | [],_=>rfl
 | x::r,b=>by simp only [List.cons_append,escs,escs_app r b,aA]
theorem quoteB_len (s:List UInt8):(quoteB s).length≤6*s.length+2:=by have:=escs_len s;simp only [quoteB,lA,lC,List.length_nil];omega
theorem u8_ne {b c:UInt8} (h:¬b=c):¬(b.toNat:Int)=c.toNat:=fun e=>h (UInt8.toNat_inj.1 (by omega))
theorem b_ne {b c:UInt8} {n:Int} (h:¬b=c) (e:(c.toNat:Int)=n):¬(b.toNat:Int)=n:=e ▸ u8_ne h
theorem and15_all:(List.range 256).all (fun n=>IntKind.i64.wrap ((BitVec.ofInt IntKind.i64.bits (n:Int) &&& BitVec.ofInt IntKind.i64.bits 15).toNat) == ((n % 16:Nat):Int))=true:=by kernel_rfl
theorem and15 {n:Nat} (h:n<256):IntKind.i64.wrap ((BitVec.ofInt IntKind.i64.bits (n:Int) &&& BitVec.ofInt IntKind.i64.bits 15).toNat)=((n % 16:Nat):Int):=by
 have:=List.all_eq_true.1 and15_all n (List.mem_range.2 h)
 simpa using this
theorem hexL {m:Nat} (h:m<16):([48,49,50,51,52,53,54,55,56,57,97,98,99,100,101,102]:List UInt8)[m]? = some (hexB m):=by
 have:(List.range 16).all (fun m=>([48,49,50,51,52,53,54,55,56,57,97,98,99,100,101,102]:List UInt8)[m]? == some (hexB m))=true:=by kernel_rfl
 have:=List.all_eq_true.1 this m (List.mem_range.2 h)
 simpa using this
section
variable {gt:GT} {C:CallT}
set_option maxHeartbeats 2000000 in
theorem short_wp {b:UInt8}:wpF gt C F130 [.int .u8 b.toNat] St.init (Ret (.int .u8 (shortB b).toNat)):=by
 have ret:∀{o:UInt8} {S:St},shortB b=o→Ret (.int .u8 (shortB b).toNat) (.ret (.int .u8 o.toNat)) S:=fun h=>by rw [h];exact Ret.sta trivial
 have hf:shortB b=if b=34∨b=92 then b else if b=8 then 98 else if b=9 then 116 else if b=10 then 110 else if b=12 then 102 else if b=13 then 114 else 0:=rfl
 generalize shortB b=res at ret hf ⊢
 refine⟨rfl,?_⟩
 refine goW ?_
 by_cases h1:b=34
 ·rw [eqI_true (show (b.toNat:Int)=34 by rw [h1];rfl)]
  refine goW ?_
  exact⟨_,rfl,ret (by rw [hf,if_pos (.inl h1)])⟩
 rw [eqI_false (b_ne (n:=34) h1 rfl)]
 refine goW ?_
 by_cases h2:b=92
 ·rw [eqI_true (show (b.toNat:Int)=92 by rw [h2];rfl)]
  refine goW ?_
  exact⟨_,rfl,ret (by rw [hf,if_pos (.inr h2)])⟩
 rw [eqI_false (b_ne (n:=92) h2 rfl)]
 rw [if_neg (by rintro (h | h);exact h1 h;exact h2 h)] at hf
 refine goW ?_
 by_cases h3:b=8
 ·rw [eqI_true (show (b.toNat:Int)=8 by rw [h3];rfl)]
  refine goW ?_
  exact⟨_,rfl,ret (o:=98) (by rw [hf,if_pos h3])⟩
 rw [eqI_false (b_ne (n:=8) h3 rfl)]
 rw [if_neg h3] at hf
 refine goW ?_
 by_cases h4:b=9
 ·rw [eqI_true (show (b.toNat:Int)=9 by rw [h4];rfl)]
  refine goW ?_
  exact⟨_,rfl,ret (o:=116) (by rw [hf,if_pos h4])⟩
 rw [eqI_false (b_ne (n:=9) h4 rfl)]
 rw [if_neg h4] at hf
 refine goW ?_
 by_cases h5:b=10
 ·rw [eqI_true (show (b.toNat:Int)=10 by rw [h5];rfl)]
  refine goW ?_
  exact⟨_,rfl,ret (o:=110) (by rw [hf,if_pos h5])⟩
 rw [eqI_false (b_ne (n:=10) h5 rfl)]
 rw [if_neg h5] at hf
 refine goW ?_
 by_cases h6:b=12
 ·rw [eqI_true (show (b.toNat:Int)=12 by rw [h6];rfl)]
  refine goW ?_
  exact⟨_,rfl,ret (o:=102) (by rw [hf,if_pos h6])⟩
 rw [eqI_false (b_ne (n:=12) h6 rfl)]
 rw [if_neg h6] at hf
 refine goW ?_
 by_cases h7:b=13
 ·rw [eqI_true (show (b.toNat:Int)=13 by rw [h7];rfl)]
  refine goW ?_
  exact⟨_,rfl,ret (o:=114) (by rw [hf,if_pos h7])⟩
 rw [eqI_false (b_ne (n:=13) h7 rfl)]
 rw [if_neg h7] at hf
 refine goW ?_
 exact⟨_,rfl,ret (o:=0) hf⟩
set_option maxHeartbeats 2000000 in
theorem tdigit_wp {n:Nat} (h:n<256):wpF gt C F131 [.int .i64 n] St.init (Ret (.int .u8 (hexB (n % 16)).toNat)):=by
 refine⟨rfl,?_⟩
 refine goW ?_
 rw [and15 h]
 refine step_ruleO (sx_ixS (k:=n % 16) rfl rfl (hexL (by omega))) (goW ?_)
 exact⟨_,rfl,Ret.sta trivial⟩
end

theorem hs_newB (ty:TypeId) (hty:ty=76∨ty=78):BS { St.init with nb:=St.init.nb+1,boxes:=(St.init.nb,some (ty,[.nilp,.sl 1 ⟨none,0,some 0,true⟩ []]))::St.init.boxes } 0 ty [] :=
 ⟨hty,.nilp,⟨none,0,some 0,true⟩,.inl rfl,(Hs.init.newBox ty [.nilp,.sl 1 ⟨none,0,some 0,true⟩ []]).addNil 5 true⟩
section
variable {gt:GT} {C:CallT}
abbrev E_qt (s:List UInt8) (i:Int):Env:=[(0,.val (.str s)),(4,.val (.ptr 0 0)),(13,.val (.int .i64 s.length)),(14,.val (.int .i64 i))]
set_option maxHeartbeats 8000000 in
theorem quote_wp (hm:MonoC C) (hv:∀s:List UInt8,s.length<4611686018427387904→PF C 82 [.str s] (.bool (validB s)))
  (hwb:∀(S:St) (id:Nat) (ty:TypeId) (acc:List UInt8) (c:UInt8),BS S id ty acc→acc.length<1099511627776→C 129 [.ptr id 0,.int .u8 c.toNat] S fun r S'=>r=.ret .nilif∧BS S' id ty (acc++[c]))
  (hws:∀(S:St) (id:Nat) (ty:TypeId) (acc s:List UInt8),BS S id ty acc→acc.length+s.length<1099511627776→C 128 [.ptr id 0,.str s] S fun r S'=>r=.ret (.tup [.int .i64 s.length,.nilif])∧BS S' id ty (acc++s))
  (hst:∀(S:St) (id:Nat) (ty:TypeId) (acc:List UInt8),BS S id ty acc→acc≠[]→acc.length≤17592186044416→C 49 [.ptr id 0] S fun r S'=>r=.ret (.str acc))
  (hsh:∀b:UInt8,PF C 130 [.int .u8 b.toNat] (.int .u8 (shortB b).toNat)) (hdg:∀n:Nat,n<256→PF C 131 [.int .i64 n] (.int .u8 (hexB (n % 16)).toNat))
  {s:List UInt8} (hl:s.length<4294967281):wpF gt C F80 [.str s] St.init (Ret (.tup [.str (if validB s=true then quoteB s else []),.int .i64 (if validB s=true then 0 else 10)])):=by
 have hv:=hv s (by omega)
 refine⟨rfl,?_⟩
 refine goW ?_
 refine call_pf hm (by rfl) hv ?_
 cases validB s with
 | false =>
  refine goW ?_
  exact⟨_,rfl,Ret.sta ⟨trivial,trivial,trivial⟩⟩
 | true =>
 refine goW ?_
 have hb:=hs_newB 76 (.inl rfl)
 have w:C 129 [.ptr 0 0,.int .u8 34] _ _:=hwb _ 0 _ [] 34 hb (by simp)
 refine call_rule (by rfl) (hm _ _ _ _ _ w ?_)
 rintro r S1 ⟨rfl,hb⟩
 refine goW ?_
 refine loop_rule hm (α:=Nat) (fun i env S'=>i≤s.length∧env=E_qt s i∧BS S' 0 76 (34::escs (s.take i))) (fun i=>s.length-i) ?_ (a:=0) ⟨Nat.zero_le _,rfl,by simpa [escs] using hb⟩
 clear hb w
 rintro i env S' ⟨hi,rfl,hb⟩
 have hal:=escs_len (s.take i)
 rw [lT] at hal
 refine goW ?_
 by_cases hc:(i:Int)<(s.length:Nat)
 case neg =>
  rw [dF hc]
  obtain rfl:i=s.length:=by omega
  rw [List.take_length] at hb hal
  have w:C 129 [.ptr 0 0,.int .u8 34] _ _:=hwb _ 0 _ _ 34 hb (by simp only [lC];omega)
  refine goW ?_
  refine call_rule (by rfl) (hm _ _ _ _ _ w ?_)
  rintro r S2 ⟨rfl,hb⟩
  have w:=hst _ 0 _ _ hb (by simp) (by simp only [lA,lC,List.length_nil];omega)
  refine goW ?_
  refine call_rule (by rfl) (hm _ _ _ _ _ w ?_)
  rintro r S3 rfl
  refine goW ?_
  exact⟨_,rfl,Ret.sta ⟨trivial,trivial,trivial⟩⟩
 rw [dT hc]
 have hik:i<s.length:=by omega
 have hbt:=u8_lt s[i]
 have hnx:34::escs (s.take (i+1))=(34::escs (s.take i))++escB s[i]:=by rw [tS hik,escs_app];simp [escs]
 have hgt:=gE hik
 have hle:escB s[i]=if shortB s[i]≠0 then [92,shortB s[i]] else if s[i].toNat<32∨s[i]=127 then [92,117,48,48,hexB (s[i].toNat / 16),hexB (s[i].toNat % 16)] else [s[i]]:=rfl
 have hacc:(34::escs (s.take i)).length<549755813888:=by simp only [lC];omega
 have next:∀{S2:St},BS S2 0 76 (34::escs (s.take (i+1)))→∃a:Nat,(a≤s.length∧E_qt s (i+1:Nat)=E_qt s a∧BS S2 0 76 (34::escs (s.take a)))∧s.length-a<s.length-i:=fun h=>⟨i+1,⟨by omega,rfl,h⟩,by omega⟩
 generalize 34::escs (s.take (i+1))=nx at hnx next
 generalize 34::escs (s.take i)=acc at hb hnx hacc
 generalize s[i]=b at hgt hnx hle hbt
 generalize escB b=es at hnx hle
 have hsh:=hsh b
 have d1:=hdg (b.toNat / 16) (by omega)
 have d2:=hdg b.toNat (by omega)
 rw [show b.toNat / 16 % 16=b.toNat / 16 by omega] at d1
 generalize shortB b=sb at hsh hle
 refine goW ?_
 refine step_ruleO (sx_ixS (k:=i) rfl rfl hgt) (goW ?_)
 refine call_pf hm (by rfl) hsh (goW ?_)
 by_cases z:sb=0
 case neg =>
  rw [neI_true (b_ne (n:=0) z rfl)]
  rw [if_pos z] at hle
  have w:C 129 [.ptr 0 0,.int .u8 92] _ _:=hwb _ 0 _ _ 92 hb (by omega)
  refine goW ?_
  refine call_rule (by rfl) (hm _ _ _ _ _ w ?_)
  rintro r S2 ⟨rfl,hb⟩
  have w:=hwb _ 0 _ _ sb hb (by simp only [lA,lC,List.length_nil];omega)
  refine goW ?_
  refine call_rule (by rfl) (hm _ _ _ _ _ w ?_)
  rintro r S3 ⟨rfl,hb⟩
  refine goW ?_
  rw [wrNat (by omega)]
  exact next (by rw [hnx,hle];simpa using hb)
 rw [neI_false (show (sb.toNat:Int)=0 by rw [z];rfl)]
 rw [if_neg (fun h=>h z)] at hle
 have e4:wr .i64 ((b.toNat:Int).fdiv (2 ^ (min (Int.toNat 4) (IntKind.bits .u8))))=((b.toNat / 16:Nat):Int):=by
  rw [show (2:Int) ^ (min (Int.toNat 4) (IntKind.bits .u8))=16 from rfl,Int.fdiv_eq_ediv_of_nonneg _ (by omega),wr64 (by omega) (by omega)]
  omega
 have e5:wr .i64 (b.toNat:Int)=(b.toNat:Nat):=wr64 (by omega) (by omega)
 refine goW ?_
 by_cases z2:b.toNat<32∨b=127
 ·rw [if_pos z2] at hle
  by_cases c1:(b.toNat:Int)<32
  case' pos=>rw [dT c1]
  case' neg =>
   rw [dF c1]
   refine goW ?_
   rw [eqI_true (show (b.toNat:Int)=127 by rcases z2 with h | h;omega;rw [h];rfl)]
  all_goals
   have w:=hws _ 0 _ _ [92,117,48,48] hb (by simp only [lC,List.length_nil];omega)
   refine goW ?_
   refine call_rule (by rfl) (hm _ _ _ _ _ w ?_)
   rintro r S2 ⟨rfl,hb⟩
   refine goW ?_
   rw [e4]
   refine call_pf hm (by rfl) d1 ?_
   have w:=hwb _ 0 _ _ (hexB (b.toNat / 16)) hb (by simp only [lA,lC,List.length_nil];omega)
   refine goW ?_
   refine call_rule (by rfl) (hm _ _ _ _ _ w ?_)
   rintro r S3 ⟨rfl,hb⟩
   refine goW ?_
   rw [e5]
   refine call_pf hm (by rfl) d2 ?_
   have w:=hwb _ 0 _ _ (hexB (b.toNat % 16)) hb (by simp only [lA,lC,List.length_nil];omega)
   refine goW ?_
   refine call_rule (by rfl) (hm _ _ _ _ _ w ?_)
   rintro r S4 ⟨rfl,hb⟩
   refine goW ?_
   rw [wrNat (by omega)]
   exact next (by rw [hnx,hle];simpa using hb)
 rw [if_neg z2] at hle
 rw [dF (show ¬(b.toNat:Int)<32 by omega)]
 refine goW ?_
 rw [eqI_false (b_ne (n:=127) (fun h=>z2 (.inr h)) rfl)]
 have w:=hwb _ 0 _ _ b hb (by omega)
 refine goW ?_
 refine call_rule (by rfl) (hm _ _ _ _ _ w ?_)
 rintro r S2 ⟨rfl,hb⟩
 refine goW ?_
 rw [wrNat (by omega)]
 exact next (by rw [hnx,hle];exact hb)
end

def sepB (n:Nat):List UInt8:=if n=0 then [] else [44,32]
def recB (keys texts:List (List UInt8)):Nat→List Nat→List UInt8
 | _,[]=>[]
 | n,i::r=>(sepB n++((quoteB (keys.getD i [])++[58,32])++texts.getD i []))++recB keys texts (n+1) r
def listB:Nat→List (List UInt8)→List UInt8
 | _,[]=>[]
 | n,t::r=>(sepB n++t)++listB (n+1) r
mutual
def textB:PT→List UInt8
 |.mk k s keys kids =>
  if k=1 then [110,117,108,108]
  else if k=2∨k=3 then s
  else if k=4 then quoteB s
  else if k=5 then 64::s
  else if k=6 then ([91]++listB 0 (textsB kids))++[93]
  else ([123]++recB keys (textsB kids) 0 (ordK keys))++[125]
def textsB:List PT→List (List UInt8)
 | []=>[]
 | t::r=>textB t::textsB r
end
theorem textsB_map:∀l:List PT,textsB l=l.map textB
 | []=>rfl
 | t::r=>by simp only [textsB,List.map_cons,textsB_map r]
theorem listB_snoc (t:List UInt8):∀(l:List (List UInt8)) (n:Nat),listB n (l++[t])=listB n l++(sepB (n+l.length)++t)
 | [],n=>by simp [listB]
 | a::r,n=>by simp only [List.cons_append,listB,listB_snoc t r (n+1),lC,aA];rw [show n+1+r.length=n+(r.length+1) by omega]
theorem recB_snoc {keys texts:List (List UInt8)} (i:Nat):∀(l:List Nat) (n:Nat),recB keys texts n (l++[i])=recB keys texts n l++(sepB (n+l.length)++((quoteB (keys.getD i [])++[58,32])++texts.getD i []))
 | [],n=>by simp [recB]
 | a::r,n=>by simp only [List.cons_append,recB,recB_snoc i r (n+1),lC,aA];rw [show n+1+r.length=n+(r.length+1) by omega]
def putB (acc s:List UInt8):List UInt8:=if acc.length≤65536 then acc++s else acc
def WrB (a f b:List UInt8):Prop:=b=a++f∨(65536<b.length∧65536<(a++f).length)
theorem WrB.nil (a:List UInt8):WrB a [] a:=.inl (by simp)
theorem WrB.put (a s:List UInt8):WrB a s (putB a s):=by
 unfold WrB putB
 split
 ·exact .inl rfl
 ·exact .inr ⟨by omega,by rw [lA];omega⟩
theorem WrB.trans {a f b g c:List UInt8} (h:WrB a f b) (k:WrB b g c):WrB a (f++g) c:=by
 unfold WrB at *
 rw [←aA]
 rcases h with rfl | ⟨h1,h2⟩
 ·exact k
 ·refine .inr ⟨?_,by rw [lA];omega⟩
  rcases k with rfl | ⟨k1,k2⟩
  ·rw [lA];omega
  ·exact k1
theorem putB_len {a s:List UInt8} (h:a.length≤68719476736) (k:s.length≤34359738368):(putB a s).length≤68719476736:=by
 unfold putB
 split
 ·rw [lA];omega
 ·exact h
theorem formed_text {s:List UInt8} {keys:List (List UInt8)} {kids:List PT} (h:formedB (.mk 4 s keys kids)=true):validB s=true:=by
 simp only [formedB,bA] at h
 have h2:=h.2
 unfold shapeB at h2
 rw [if_neg (by omega),if_neg (by omega),if_neg (by omega),if_pos rfl,bA] at h2
 exact h2.2
theorem formed_keys {s:List UInt8} {keys:List (List UInt8)} {kids:List PT} (h:formedB (.mk 7 s keys kids)=true):∀x∈keys,validB x=true:=by
 simp only [formedB,bA] at h
 have h2:=h.2
 unfold shapeB at h2
 rw [if_neg (by omega),if_neg (by omega),if_neg (by omega),if_neg (by omega),if_neg (by omega),if_neg (by omega),if_pos rfl,bA] at h2
 have h3:=h2.2
 rw [bA] at h3
 exact (unlike_iff.1 h3.2).1
section
variable {gt:GT} {C:CallT}
set_option maxHeartbeats 2000000 in
theorem put_wp (hm:MonoC C) (hln:∀(S:St) (id:Nat) (ty:TypeId) (acc:List UInt8),BS S id ty acc→C 48 [.ptr id 0] S fun r S'=>r=.ret (.int .i64 acc.length)∧S'=S)
  (hws:∀(S:St) (id:Nat) (ty:TypeId) (acc s:List UInt8),BS S id ty acc→acc.length+s.length<1099511627776→C 128 [.ptr id 0,.str s] S fun r S'=>r=.ret (.tup [.int .i64 s.length,.nilif])∧BS S' id ty (acc++s))
  {S:St} {id:Nat} {acc s:List UInt8} (h:BS S id 78 acc) (hl:acc.length+s.length<1099511627776) :
  wpF gt C F79 [.ptr id 0,.str s] S fun r S'=>r=.ret (.tup [])∧BS S' id 78 (putB acc s):=by
 have w1:=hln _ _ _ _ h
 have w2:=hws _ _ _ _ s h hl
 refine⟨rfl,?_⟩
 refine goW ?_
 refine call_rule (by rfl) (hm _ _ _ _ _ w1 ?_)
 rintro r S2 ⟨rfl,rfl⟩
 refine goW ?_
 unfold putB
 by_cases c:(acc.length:Int)≤65536
 ·rw [dT c,if_pos (by omega)]
  refine goW ?_
  refine call_rule (by rfl) (hm _ _ _ _ _ w2 ?_)
  rintro r S3 ⟨rfl,h⟩
  refine goW ?_
  exact⟨_,rfl,rfl,h⟩
 ·rw [dF c,if_neg (by omega)]
  refine goW ?_
  exact⟨_,rfl,rfl,h⟩
def TWC (C:CallT) (t:PT):Prop:=∀(S:St) (id:Nat) (acc:List UInt8),BS S id 78 acc→acc.length≤68719476736→C 47 [.ptr id 0,encT t] S fun r S'=>r=.ret (.tup [])∧∃acc',BS S' id 78 acc'∧acc'.length≤68719476736∧WrB acc (textB t) acc'
def PutC (C:CallT):Prop:=∀(S:St) (id:Nat) (acc s:List UInt8),BS S id 78 acc→acc.length+s.length<1099511627776→C 79 [.ptr id 0,.str s] S fun r S'=>r=.ret (.tup [])∧BS S' id 78 (putB acc s)
abbrev E_wl (id:Nat) (kids:List PT) (i:Int):Env:=[(0,.val (.ptr id 0)),(48,.val (.sl 4 stat (encTs kids))),(49,.val (.int .i64 (encTs kids).length)),(50,.val (.int .i64 i))]
abbrev E_wr (id:Nat) (t:PT) (L:List Nat) (i:Int):Env:=[(0,.val (.ptr id 0)),(3,.box (encT t).cells),(71,.val (.sl 1 stat (ints L))),(72,.val (.int .i64 (ints L).length)),(73,.val (.int .i64 i))]
set_option maxHeartbeats 16000000 in
theorem wtree_wp (hm:MonoC C) (hp:PutC C) (hq:∀s:List UInt8,s.length<4294967281→PF C 80 [.str s] (.tup [.str (if validB s=true then quoteB s else []),.int .i64 (if validB s=true then 0 else 10)]))
  (ho:∀keys:List (List UInt8),keys.Nodup→keys.length<1099511627776→PF C 64 [.sl 1 stat (strs keys)] (.sl 1 stat (ints (ordK keys))))
  {t:PT} (ih:∀u,u.n<t.n→formedB u=true→u.ok→u.sok→TWC C u) (ft:formedB t=true) (hk:t.ok) (hs:t.sok) (hn:t.n<1099511627776) {S:St} {id:Nat} {acc:List UInt8} (hb:BS S id 78 acc) (hl:acc.length≤68719476736) :
  wpF gt C F47 [.ptr id 0,encT t] S fun r S'=>r=.ret (.tup [])∧∃acc',BS S' id 78 acc'∧acc'.length≤68719476736∧WrB acc (textB t) acc':=by
 obtain⟨k,s,keys,kids⟩:=t
 have kd:=formed_kind ft
 have hvs:=fun h:k=4=>formed_text (s:=s) (keys:=keys) (kids:=kids) (by rw [←h];exact ft)
 have hvk:=fun h:k=7=>formed_keys (s:=s) (keys:=keys) (kids:=kids) (by rw [←h];exact ft)
 obtain⟨fk,f7,f6,_⟩:=formed_parts ft
 simp only [PT.ok] at hk
 obtain⟨hk1,hk2,hk3⟩:=hk
 simp only [PT.sok] at hs
 obtain⟨hs1,hs2,hs3,hs4,hs5⟩:=hs
 have l1:=encTs_len kids
 have l3:=strs_length keys
 have hf:textB (.mk k s keys kids)=if k=1 then [110,117,108,108] else if k=2∨k=3 then s else if k=4 then quoteB s else if k=5 then 64::s else if k=6 then ([91]++listB 0 (textsB kids))++[93] else ([123]++recB keys (textsB kids) 0 (ordK keys))++[125]:=by rw [textB]
 generalize hT:textB (.mk k s keys kids)=T at hf ⊢
 have out:∀{S':St} {acc':List UInt8},BS S' id 78 acc'→acc'.length≤68719476736→WrB acc T acc'→(Res.ret (.tup [])=.ret (.tup [])∧∃acc',BS S' id 78 acc'∧acc'.length≤68719476736∧WrB acc T acc'):=fun a b c=>⟨rfl,_,a,b,c⟩
 have one:∀{q:List UInt8},T=q→q.length≤34359738368→C 79 [.ptr id 0,.str q] S fun r S'=>r=.ret (.tup [])∧∃acc',BS S' id 78 acc'∧acc'.length≤68719476736∧WrB acc T acc':=fun {q} e h=>hm _ _ _ _ _ (hp S id acc q hb (by omega)) fun r S' ⟨a,b⟩=>⟨a,_,b,putB_len hl h,e ▸ WrB.put acc q⟩
 have done:∀{r:Res} {S':St},(r=.ret (.tup [])∧∃acc',BS S' id 78 acc'∧acc'.length≤68719476736∧WrB acc T acc')→r=.ret (.tup []):=fun h=>h.1
 refine⟨rfl,?_⟩
 have kc:k=1∨k=2∨k=3∨k=4∨k=5∨k=6∨k=7:=by omega
 rcases kc with rfl | rfl | rfl | rfl | rfl | rfl | rfl
 ·have w:=one (q:=[110,117,108,108]) hf (by simp)
  refine goW ?_
  refine call_rule (by rfl) (hm _ _ _ _ _ w ?_)
  rintro r S2 ⟨rfl,h⟩
  refine goW ?_
  exact⟨_,rfl,rfl,h⟩
 ·have w:=one (q:=s) hf (by omega)
  refine goW ?_
  refine call_rule (by rfl) (hm _ _ _ _ _ w ?_)
  rintro r S2 ⟨rfl,h⟩
  refine goW ?_
  exact⟨_,rfl,rfl,h⟩
 ·have w:=one (q:=s) hf (by omega)
  refine goW ?_
  refine call_rule (by rfl) (hm _ _ _ _ _ w ?_)
  rintro r S2 ⟨rfl,h⟩
  refine goW ?_
  exact⟨_,rfl,rfl,h⟩
 ·have hq:=hq s hs1
  rw [hvs rfl] at hq
  have w:=one (q:=quoteB s) hf (by have:=quoteB_len s;omega)
  refine goW ?_
  refine call_pf hm (by rfl) hq (goW ?_)
  refine call_rule (by rfl) (hm _ _ _ _ _ w ?_)
  rintro r S2 ⟨rfl,h⟩
  refine goW ?_
  exact⟨_,rfl,rfl,h⟩
 ·have w:=one (q:=64::s) hf (by simp only [lC];omega)
  refine goW ?_
  refine step_ruleO (st_addS rfl rfl (by simp only [lC,List.length_nil];omega)) (goW ?_)
  refine call_rule (by rfl) (hm _ _ _ _ _ w ?_)
  rintro r S2 ⟨rfl,h⟩
  refine goW ?_
  exact⟨_,rfl,rfl,h⟩
 ·clear one out done
  have w:=hp S id acc [91] hb (by simp;omega)
  refine goW ?_
  refine call_rule (by rfl) (hm _ _ _ _ _ w ?_)
  rintro r S2 ⟨rfl,hb2⟩
  have hb2l:=putB_len (s:=[91]) hl (by simp)
  refine goW ?_
  refine loop_rule hm (α:=Nat) (fun i env S'=>i≤kids.length∧env=E_wl id kids i∧∃acc',BS S' id 78 acc'∧acc'.length≤68719476736∧WrB acc ([91]++listB 0 ((textsB kids).take i)) acc') (fun i=>kids.length-i) ?_ (a:=0) ⟨Nat.zero_le _,rfl,_,hb2,hb2l,by simpa [listB] using WrB.put acc [91]⟩
  clear hb hb2 hb2l w
  rintro i env S' ⟨hi,rfl,acc',hb,hbl,hw⟩
  refine goW ?_
  by_cases hc:(i:Int)<(encTs kids).length
  case neg =>
   rw [dF hc]
   rw [List.take_of_length_le (by rw [textsB_map,List.length_map];omega)] at hw
   have w:=hp S' id acc' [93] hb (by simp;omega)
   refine goW ?_
   refine call_rule (by rfl) (hm _ _ _ _ _ w ?_)
   rintro r S3 ⟨rfl,hb3⟩
   refine goW ?_
   refine⟨_,rfl,rfl,_,hb3,putB_len hbl (by simp),?_⟩
   rw [hf]
   exact hw.trans (WrB.put acc' [93])
  rw [dT hc]
  have hik:i<kids.length:=by omega
  have htk:listB 0 ((textsB kids).take (i+1))=listB 0 ((textsB kids).take i)++(sepB i++textB kids[i]):=by
   rw [textsB_map,tS (by rw [List.length_map];exact hik),listB_snoc,List.getElem_map,lT,Nat.min_eq_left (by rw [List.length_map];omega),Nat.zero_add]
  have e1:=encTs_get hik
  have r1:=rdT kids[i]
  have ihk:=ih _ (kid_lt hik) (formedBs_get hik fk) (PT.oks_get hk3 (gE hik)) (PT.soks_get hik hs5)
  unfold TWC at ihk
  obtain⟨ka,sa,xa,ya,ga⟩:=encT_agg kids[i]
  rw [ga] at ihk e1 r1
  generalize textB kids[i]=tx at ihk htk
  have fin:∀{S4:St} {acc2 acc3:List UInt8},WrB acc' (sepB i) acc2→BS S4 id 78 acc3→acc3.length≤68719476736→WrB acc2 tx acc3→∃a:Nat,(a≤kids.length∧E_wl id kids ((i+1:Nat):Int)=E_wl id kids a∧∃acc',BS S4 id 78 acc'∧acc'.length≤68719476736∧WrB acc ([91]++listB 0 ((textsB kids).take a)) acc')∧kids.length-a<kids.length-i :=
   fun a b c d=>⟨i+1,⟨by omega,rfl,_,b,c,by rw [htk,←aA];exact hw.trans (a.trans d)⟩,by omega⟩
  refine goW ?_
  refine step_ruleO (sx_ia (k:=i) rfl rfl (by omega)) (goW ?_)
  refine step_ruleO (sx_ldEl (agg:=true) rfl rfl e1 r1) (goW ?_)
  by_cases z:(i:Int) > 0
  ·rw [dT z]
   have w:=hp S' id acc' [44,32] hb (by simp;omega)
   refine goW ?_
   refine call_rule (by rfl) (hm _ _ _ _ _ w ?_)
   rintro r S3 ⟨rfl,hb3⟩
   have w:=ihk S3 id _ hb3 (putB_len hbl (by simp))
   refine goW ?_
   refine call_rule (by rfl) (hm _ _ _ _ _ w ?_)
   rintro r S4 ⟨rfl,acc3,b,c,d⟩
   refine goW ?_
   rw [wrNat (by omega)]
   exact fin (by unfold sepB;rw [if_neg (by omega)];exact WrB.put _ _) b c d
  ·rw [dF z]
   have w:=ihk S' id _ hb hbl
   refine goW ?_
   refine call_rule (by rfl) (hm _ _ _ _ _ w ?_)
   rintro r S4 ⟨rfl,acc3,b,c,d⟩
   refine goW ?_
   rw [wrNat (by omega)]
   exact fin (by unfold sepB;rw [if_pos (by omega)];exact WrB.nil _) b c d
 ·clear one out done
  have hd:=(f7 rfl).2.2
  have hlk:=(f7 rfl).2.1
  have w:=hp S id acc [123] hb (by simp;omega)
  have hnl:=PT.len_nsq kids
  simp only [PT.n] at hn
  have ho:=ho keys hd (by omega)
  have hL:=@ordK_lt keys
  have hLl:=ordK_len keys
  generalize ordK keys=L at ho hL hLl hf
  have hil:=ints_len L
  refine goW ?_
  refine call_rule (by rfl) (hm _ _ _ _ _ w ?_)
  rintro r S2 ⟨rfl,hb2⟩
  have hb2l:=putB_len (s:=[123]) hl (by simp)
  refine goW ?_
  refine call_pf hm (by rfl) ho (goW ?_)
  refine loop_rule hm (α:=Nat) (fun i env S'=>i≤L.length∧env=E_wr id (.mk 7 s keys kids) L i∧∃acc',BS S' id 78 acc'∧acc'.length≤68719476736∧WrB acc ([123]++recB keys (textsB kids) 0 (L.take i)) acc') (fun i=>L.length-i) ?_ (a:=0) ⟨Nat.zero_le _,rfl,_,hb2,hb2l,by simpa [recB] using WrB.put acc [123]⟩
  clear hb hb2 hb2l w
  rintro i env S' ⟨hi,rfl,acc',hb,hbl,hw⟩
  refine goW ?_
  by_cases hc:(i:Int)<(ints L).length
  case neg =>
   rw [dF hc]
   rw [List.take_of_length_le (by omega)] at hw
   have w:=hp S' id acc' [125] hb (by simp;omega)
   refine goW ?_
   refine call_rule (by rfl) (hm _ _ _ _ _ w ?_)
   rintro r S3 ⟨rfl,hb3⟩
   refine goW ?_
   refine⟨_,rfl,rfl,_,hb3,putB_len hbl (by simp),?_⟩
   rw [hf]
   exact hw.trans (WrB.put acc' [125])
  rw [dT hc]
  have hik:i<L.length:=by omega
  have hj:=hL (List.getElem_mem hik)
  have hgi:(ints L)[i]? = some (.int .i64 (L[i]:Nat)):=ints_get (gE hik)
  have htk:recB keys (textsB kids) 0 (L.take (i+1))=recB keys (textsB kids) 0 (L.take i)++(sepB i++((quoteB (keys.getD L[i] [])++[58,32])++(textsB kids).getD L[i] [])):=by
   rw [tS hik,recB_snoc,lT,Nat.min_eq_left (by omega),Nat.zero_add]
  generalize L[i]=j at hj hgi htk
  have hjk:j<kids.length:=by omega
  have g1:keys.getD j []=keys[j]:=getD_at hj
  have g2:(textsB kids).getD j []=textB kids[j]:=by rw [getD_at (by rw [textsB_map,List.length_map];exact hjk)];simp only [textsB_map,List.getElem_map]
  rw [g1,g2] at htk
  have hkl:=hs2 keys[j] (List.getElem_mem hj)
  have hqk:=hq keys[j] hkl
  rw [hvk rfl _ (List.getElem_mem hj),if_pos rfl,if_pos rfl] at hqk
  have hql:=quoteB_len keys[j]
  have sj:=strs_at hj
  generalize keys[j]=kj at hkl hqk sj htk hql
  have e1:=encTs_get hjk
  have r1:=rdT kids[j]
  have ihk:=ih _ (kid_lt hjk) (formedBs_get hjk fk) (PT.oks_get hk3 (gE hjk)) (PT.soks_get hjk hs5)
  unfold TWC at ihk
  obtain⟨ka,sa,xa,ya,ga⟩:=encT_agg kids[j]
  rw [ga] at ihk e1 r1
  generalize textB kids[j]=tx at ihk htk
  have fin:∀{S4:St} {acc2 acc3:List UInt8},WrB acc' (sepB i) acc2→BS S4 id 78 acc3→acc3.length≤68719476736→WrB (putB acc2 (quoteB kj++[58,32])) tx acc3→∃a:Nat,(a≤L.length∧E_wr id (.mk 7 s keys kids) L ((i+1:Nat):Int)=E_wr id (.mk 7 s keys kids) L a∧∃acc',BS S4 id 78 acc'∧acc'.length≤68719476736∧WrB acc ([123]++recB keys (textsB kids) 0 (L.take a)) acc')∧L.length-a<L.length-i :=
   fun a b c d=>⟨i+1,⟨by omega,rfl,_,b,c,by rw [htk,←aA];exact hw.trans (a.trans ((WrB.put _ _).trans d))⟩,by omega⟩
  refine goW ?_
  refine step_ruleO (sx_ia (k:=i) rfl rfl (by omega)) (goW ?_)
  refine step_ruleO (sx_ldEl (agg:=false) rfl rfl hgi rfl) (goW ?_)
  by_cases z:(i:Int) > 0
  case' pos =>
   rw [dT z]
   have w:=hp S' id acc' [44,32] hb (by simp;omega)
   refine goW ?_
   refine call_rule (by rfl) (hm _ _ _ _ _ w ?_)
   rintro r S3 ⟨rfl,hb3⟩
   have hbl3:=putB_len (s:=[44,32]) hbl (by simp)
   have sp:WrB acc' (sepB i) (putB acc' [44,32]):=by unfold sepB;rw [if_neg (by omega)];exact WrB.put _ _
   generalize putB acc' [44,32]=acc2 at hb3 hbl3 sp
  case' neg =>
   rw [dF z]
   have hb3:=hb
   have hbl3:=hbl
   have sp:WrB acc' (sepB i) acc':=by unfold sepB;rw [if_pos (by omega)];exact WrB.nil _
  all_goals
   refine goW ?_
   refine step_ruleO (sx_ia (k:=j) rfl rfl (by omega)) (goW ?_)
   refine step_ruleO (sx_ldEl (agg:=false) rfl rfl sj rfl) (goW ?_)
   refine call_pf hm (by rfl) hqk (goW ?_)
   refine step_ruleO (st_addS rfl rfl (by simp only [lC,List.length_nil];omega)) ?_
   have w:=hp _ id _ (quoteB kj++[58,32]) hb3 (by simp only [lA,lC,List.length_nil];omega)
   refine goW ?_
   refine call_rule (by rfl) (hm _ _ _ _ _ w ?_)
   rintro r S5 ⟨rfl,hb5⟩
   have w:=ihk S5 id _ hb5 (putB_len hbl3 (by simp only [lA,lC,List.length_nil];omega))
   refine goW ?_
   refine step_ruleO (sx_ia (k:=j) rfl rfl (by omega)) (goW ?_)
   refine step_ruleO (sx_ldEl (agg:=true) rfl rfl e1 r1) (goW ?_)
   refine call_rule (by rfl) (hm _ _ _ _ _ w ?_)
   rintro r S4 ⟨rfl,acc3,b,c,d⟩
   refine goW ?_
   rw [wrNat (by omega)]
   exact fin sp b c d
end
end Go.Dn
