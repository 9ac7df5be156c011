/- Sorting in place: by insertion. Sorting in place: two rows merged, where one is of one. Sorting in place: two rows merged, where the other is of one. Sorting in place: two rows merged: turned round, and each half merged. Sorting in place: two rows merged: where they are cut, and the turn. The walk to the next region's end, as a lemma that a tactic of its own serves. Sorting in place: two rows merged; all of it. Sorting in place: all of it. Texts compared byte by byte: an order; the places of a list of keys, by them. The places of a record's keys, by the keys: tree.order. Trees with the keys of all records in order: tree.Sorted. Trees whose keys are in order: when they are the same. Trees that are the same: tree.identical, tree.Same. Trees that are the same: the reference's answer. The reference's places of keys: emendref3.Order. Trees with the keys of all records in order: the reference's answer. The law 'TreeSames', walked. Sorting, and what hangs on it, as contracts. What is read is right where little is read. Pairings with rising places, at the least cost: the law, without a program. Pairings by key, and the first items of a list that are right: the laws, without a program. The key of a tree; the law, without a program. Numbers handed in a list; emendbook.Within. Own lists of numbers, made with room and grown within it. Chapter 13's first walks: emendlaw13.cut, align.Place, align.keyOf. A row of a drawn region that would read the same again. Chapter 13: the key of a tree. Maps whose keys are small arrays of numbers, as lists of pairs. Two tables of numbers, row by row, each row a list of its own. Chapter 13: align.Key. Chapter 13: the table of costs, of the program. Chapter 13: align.Cost. Chapter 13: align.Do; the reference's Place, key, Key, Do. Chapter 13: the reference's Key. Chapter 13: lists of numbers held against each other; what a pairing costs; the law 'AlignTells', walked. Chapter 13: the laws 'AlignSame' and 'AlignCheapest', walked. Chapter 13: the law 'AlignTurned', walked. Chapter 13: align.Right of a pairing; the law's own keys (tree.Get handed an own path). Chapter 13: the law 'AlignFair', walked. The functions of chapter 13, as contracts, each by its code. -/
import Derived.Test.YtbojekglccdajaaGreatDoorJm
set_option linter.unusedSimpArgs false
set_option linter.unusedVariables false
namespace Go.Dn
open Go Go.Proofs.C1
set_option maxRecDepth 100000
attribute [local irreducible] afterS keepE
structure Cz (cz:Nat→Nat→Int):Prop where
 rf:∀a,0≤cz a a
 tr:∀{a b c},0≤cz b a→0≤cz c b→0≤cz c a
 asy:∀{a b},cz a b<0→0≤cz b a
def leZ (cz:Nat→Nat→Int) (a b:Nat):Prop:=0≤cz b a
def CmpC (C:CallT) (f:FuncId) (cs:List AV) (R:List Rs) (ty:TypeId) (t b n:Nat) (cz:Nat→Nat→Int):Prop :=
 ∀(S:St) (l:List Nat) (i j:Nat),ArS S R ty t b l→i<n→j<n→C f (.int .i64 i::.int .i64 j::cs) S fun r S'=>r=.ret (.int .i64 (cz i j))∧S'=S
section
variable {gt:GT} {C:CallT} {R:List Rs} {ty:TypeId} {t b:Nat}
def InsC (C:CallT) (R:List Rs) (ty:TypeId) (t b n:Nat) (g:AV) (cz:Nat→Nat→Int):Prop :=
 ∀(S:St) (xs:List AV) (P X Q:List Nat) (a c:Nat),a=P.length→c=P.length+X.length→(∀x∈X,x<n)→xs.length=(P++(X++Q)).length→(P++(X++Q)).length<2305843009213693952→ArS S R ty t b (P++(X++Q)) →
  C 137 [slA t xs.length xs,.int .i64 a,.int .i64 c,g] S fun r S'=>r=.ret (.tup [])∧∃Z,Z.Perm X∧Srt (leZ cz) Z∧ArS S' R ty t b (P++(Z++Q))
abbrev E_in (t:Nat) (xs:List AV) (a c:Nat) (g:AV) (i:Nat):Env:=[(0,.val (slA t xs.length xs)),(1,.val (.int .i64 a)),(2,.val (.int .i64 c)),(3,.val g),(8,.val (.int .i64 i))]
abbrev E_in2 (t:Nat) (xs:List AV) (a c:Nat) (g:AV) (i j:Nat):Env:=[(0,.val (slA t xs.length xs)),(1,.val (.int .i64 a)),(2,.val (.int .i64 c)),(3,.val g),(8,.val (.int .i64 i)),(9,.val (.int .i64 j))]
theorem srt_ins {cz:Nat→Nat→Int} (hz:Cz cz) {L U:List Nat} {x:Nat} (h:Srt (leZ cz) (L++U)) (h1:∀u∈U,cz x u<0) (h2:∀v,L[L.length-1]? = some v→0≤cz x v):Srt (leZ cz) (L++(x::U)):=by
 obtain⟨a,c,d⟩:=srt_app.1 h
 have hL:∀u∈L,leZ cz u x:=fun u hu=>by
  have:=ends_le (le:=leZ cz) (fun h h'=>hz.tr h h') (x:=L) (y:=[x]) a (List.pairwise_singleton _ _) (fun u v e1 e2=>by
   simp only [List.getElem?_cons_zero,oI] at e2
   subst e2
   exact h2 u e1) (fun a=>hz.rf a)
  exact this u hu x (by simp)
 refine srt_app.2 ⟨a,List.pairwise_cons.2 ⟨fun u hu=>hz.asy (h1 u hu),c⟩,fun u hu v hv=>?_⟩
 rcases List.mem_cons.1 hv with rfl | hv
 ·exact hL u hu
 ·exact d u hu v hv
set_option maxHeartbeats 8000000 in
theorem ins_wp (hm:MonoC C) {f:FuncId} {cs:List AV} {n:Nat} {cz:Nat→Nat→Int} (hz:Cz cz) (hc:CmpC C f cs R ty t b n cz) {S:St} {xs:List AV} {P X Q:List Nat} (hX:∀x∈X,x<n) (hx:xs.length=(P++(X++Q)).length) (hl:(P++(X++Q)).length<2305843009213693952) (hA:ArS S R ty t b (P++(X++Q))) :
  wpF gt C F137 [slA t xs.length xs,.int .i64 P.length,.int .i64 ((P.length+X.length:Nat):Int),.fn f [] cs] S fun r S'=>r=.ret (.tup [])∧∃Z,Z.Perm X∧Srt (leZ cz) Z∧ArS S' R ty t b (P++(Z++Q)):=by
 have hlen:(P++(X++Q)).length=P.length+(X.length+Q.length):=by simp only [lA]
 rw [hlen] at hx hl
 refine⟨rfl,?_⟩
 refine goW ?_
 rw [wrNat (by omega)]
 refine loop_rule hm (α:=List Nat×List Nat×Nat) (fun a env S'=>env=E_in t xs P.length (P.length+X.length) (.fn f [] cs) a.2.2∧(a.2.2=P.length+a.1.length∨(a.2.1=[]∧P.length+X.length≤a.2.2∧a.2.2≤P.length+X.length+1))∧(a.1++a.2.1).Perm X∧Srt (leZ cz) a.1∧ArS S' R ty t b (P++(a.1++(a.2.1++Q)))) (fun a=>P.length+X.length+1-a.2.2) ?_
  (a:=(X.take 1,X.drop 1,P.length+1)) ⟨rfl,?_,by rw [tkD],?_,by rw [←aA (X.take 1),tkD];exact hA⟩
 case refine_2 =>
  cases X with
  | nil=>right;exact⟨rfl,by simp,by simp⟩
  | cons x r=>left;simp
 case refine_3 =>
  cases X with
  | nil=>exact List.Pairwise.nil
  | cons x r=>exact List.pairwise_singleton _ _
 rintro⟨Z,W,i⟩ env S' ⟨rfl,hi,hp,hs,hA⟩
 simp only at hi hp hs hA
 have hpl:=hp.length_eq
 rw [lA] at hpl
 have hmem:∀x∈Z++W,x<n:=fun x hx=>hX x (hp.mem_iff.1 hx)
 refine goW ?_
 by_cases hc1:(i:Int)<((P.length+X.length:Nat):Int)
 ·rw [dT hc1]
  have hi':i=P.length+Z.length:=by
   rcases hi with h | ⟨h1,h2,h3⟩
   ·exact h
   ·omega
  cases W with
  | nil=>simp only [List.length_nil] at hpl;omega
  | cons x W' =>
  simp only [lC] at hpl
  have hxn:x<n:=hmem x (by simp)
  refine goW ?_
  refine loop_rule hm (α:=List Nat×List Nat) (fun a env S'=>env=E_in2 t xs P.length (P.length+X.length) (.fn f [] cs) i (P.length+a.1.length)∧a.1++a.2=Z∧(∀u∈a.2,cz x u<0)∧ArS S' R ty t b (P++(a.1++(x::(a.2++(W'++Q)))))) (fun a=>a.1.length) ?_ (a:=(Z,[])) ⟨by rw [hi'],by simp,fun u hu=>by simp at hu,by simpa using hA⟩
  rintro⟨L,U⟩ env S2 ⟨rfl,hLU,hU,hA⟩
  simp only at hLU hU hA
  have hzl:=congrArg List.length hLU
  rw [lA] at hzl
  have hxl:xs.length=(P++(L++(x::(U++(W'++Q))))).length:=by simp only [lA,lC];omega
  have done:(∀v,L[L.length-1]? = some v→0≤cz x v)→∃a:List Nat×List Nat×Nat,(E_in t xs P.length (P.length+X.length) (.fn f [] cs) (i+1)=E_in t xs P.length (P.length+X.length) (.fn f [] cs) a.2.2∧(a.2.2=P.length+a.1.length∨(a.2.1=[]∧P.length+X.length≤a.2.2∧a.2.2≤P.length+X.length+1))∧(a.1++a.2.1).Perm X∧Srt (leZ cz) a.1∧ArS S2 R ty t b (P++(a.1++(a.2.1++Q))))∧P.length+X.length+1-a.2.2<P.length+X.length+1-i:=fun h=>by
   refine⟨(L++(x::U),W',i+1),⟨rfl,.inl (by simp only [lA,lC];omega),?_,?_,?_⟩,by simp only;omega⟩
   ·refine List.Perm.trans ?_ hp
    simp only
    rw [←hLU,aA,aA,List.cons_append]
    exact List.Perm.append_left L (List.perm_middle.symm)
   ·exact srt_ins hz (by rw [hLU];exact hs) hU h
   ·simpa only [aA,List.cons_append] using hA
  refine goW ?_
  rcases List.eq_nil_or_concat L with hL | ⟨L',v,hL⟩
  ·subst hL
   rw [dF (show ¬((P.length+([]:List Nat).length:Nat):Int) > (P.length:Int) by simp)]
   have done:=done (fun v h=>by simp at h)
   refine goW ?_
   rw [wrNat (by omega)]
   exact done
  rw [List.concat_eq_append] at hL
  subst hL
  have hvl:(L'++[v]).length=L'.length+1:=by simp
  rw [hvl] at hzl
  have hvn:v<n:=hmem v (by rw [←hLU];simp)
  have hA0:=hA
  have done:=fun (h:0≤cz x v)=>done (fun v' h'=>by
   rw [hvl,Nat.add_sub_cancel,get_mid rfl] at h'
   cases h';exact h)
  have e1:P++((L'++[v])++(x::(U++(W'++Q))))=(P++L')++(v::(x::(U++(W'++Q)))):=by simp only [aA,List.cons_append,List.nil_append]
  have e2:P++((L'++[v])++(x::(U++(W'++Q))))=(P++(L'++[v]))++(x::(U++(W'++Q))):=by simp only [aA,List.cons_append,List.nil_append]
  have g1:(P++((L'++[v])++(x::(U++(W'++Q)))))[P.length+L'.length]? = some v:=by rw [e1];exact get_mid (by rw [lA])
  have g2:(P++((L'++[v])++(x::(U++(W'++Q)))))[P.length+L'.length+1]? = some x:=by rw [e2];exact get_mid (by simp only [lA,lC,List.length_nil];omega)
  have s1:(P++((L'++[v])++(x::(U++(W'++Q))))).set (P.length+L'.length+1) v=(P++L')++(v::(v::(U++(W'++Q)))):=by
   rw [e2,set_mid (by simp only [lA,lC,List.length_nil];omega)]
   simp only [aA,List.cons_append,List.nil_append]
  have s2:((P++L')++(v::(v::(U++(W'++Q))))).set (P.length+L'.length) x=P++(L'++(x::((v::U)++(W'++Q)))):=by
   rw [set_mid (by rw [lA])]
   simp only [aA,List.cons_append]
  have hls:((P++L')++(v::(v::(U++(W'++Q))))).length=xs.length:=by rw [←s1,List.length_set,hxl]
  generalize hgl:P++((L'++[v])++(x::(U++(W'++Q))))=l at hA g1 g2 s1 hxl
  rw [hvl]
  have k1:P.length+L'.length<l.length:=by omega
  have k2:P.length+L'.length+1<l.length:=by omega
  have w1:wr .i64 (((P.length+(L'.length+1):Nat):Int)-1)=((P.length+L'.length:Nat):Int):=by rw [wr64 (by omega) (by omega)];omega
  rw [dT (show ((P.length+(L'.length+1):Nat):Int) > (P.length:Int) by omega)]
  refine goW ?_
  refine st_anyD (by exact rfl) rfl rfl (sx_ia (k:=P.length+L'.length+1) rfl rfl (by omega)) (goW ?_)
  refine st_anyD (by exact rfl) rfl rfl (sx_ldEl (agg:=false) rfl (hA.els hxl) (ints_get g2) rfl) (goW ?_)
  rw [w1]
  refine st_anyD (by exact rfl) rfl rfl (sx_ia (k:=P.length+L'.length) rfl rfl (by omega)) (goW ?_)
  refine st_anyD (by exact rfl) rfl rfl (sx_ldEl (agg:=false) rfl (hA.els hxl) (ints_get g1) rfl) (goW ?_)
  refine call_ruleD (by rfl) (hm _ _ _ _ _ (hc S2 l x v hA hxn hvn) ?_)
  rintro r S3 ⟨rfl,rfl⟩
  refine goW ?_
  by_cases hlt:cz x v<0
  case neg =>
   rw [dF hlt]
   have done:=done (by omega)
   refine goW ?_
   rw [wrNat (by omega)]
   exact done
  rw [dT hlt]
  refine goW ?_
  rw [w1]
  refine step_ruleDO rfl rfl (sx_ia (k:=P.length+L'.length) rfl rfl (by omega)) (goW ?_)
  refine step_ruleDO rfl rfl (sx_ldEl (agg:=false) rfl (hA.els hxl) (ints_get g1) rfl) (goW ?_)
  refine step_ruleDO rfl rfl (sx_ia (k:=P.length+L'.length+1) rfl rfl (by omega)) (goW ?_)
  refine step_ruleDO rfl rfl (sx_ldEl (agg:=false) rfl (hA.els hxl) (ints_get g2) rfl) (goW ?_)
  refine step_ruleDO rfl rfl (sx_ia (k:=P.length+L'.length+1) rfl rfl (by omega)) (goW ?_)
  refine st_runPD (hA.st hxl rfl rfl k2) (by trivial) rfl rfl ?_
  intro S4 hA
  rw [s1] at hA
  refine goW ?_
  refine step_ruleDO rfl rfl (sx_ia (k:=P.length+L'.length) rfl rfl (by omega)) (goW ?_)
  refine st_runPD (hA.st hls.symm rfl rfl (by omega)) (by trivial) rfl rfl ?_
  intro S5 hA
  rw [s2] at hA
  refine goW ?_
  refine⟨(L',v::U),⟨?_,by rw [←hLU];simp,fun u hu=>?_,hA⟩,by simp only [hvl];omega⟩
  ·rw [w1]
  ·rcases List.mem_cons.1 hu with rfl | hu
   ·exact hlt
   ·exact hU u hu
 ·rw [dF hc1]
  have hW:W=[]:=by
   rcases hi with h | ⟨h1,_⟩
   ·exact nL (by omega)
   ·exact h1
  subst hW
  rw [List.append_nil] at hp
  refine goW ?_
  exact⟨_,rfl,rfl,Z,hp,hs,by simpa using hA⟩
end

theorem ltZ_le {cz:Nat→Nat→Int} (hz:Cz cz) {u y x:Nat} (h:leZ cz u y) (h1:cz y x<0):cz u x<0:=by
 rcases Int.lt_or_le (cz u x) 0 with q | q
 ·exact q
 ·have:0≤cz y x:=hz.tr (a:=x) (b:=u) (c:=y) q h
  omega
theorem srt_take_le {cz:Nat→Nat→Int} (hz:Cz cz) {Y:List Nat} (h:Srt (leZ cz) Y) {k:Nat} (hk:k<Y.length):∀u∈Y.take (k+1),leZ cz u Y[k]:=by
 intro u hu
 obtain⟨i,hi,rfl⟩:=List.mem_iff_getElem.1 hu
 rw [lT] at hi
 rw [List.getElem_take]
 rcases Nat.lt_or_ge i k with q | q
 ·exact List.pairwise_iff_getElem.1 h i k (by omega) hk q
 ·have:i=k:=by omega
  subst this;exact hz.rf _
theorem srt_drop_ge {cz:Nat→Nat→Int} (hz:Cz cz) {Y:List Nat} (h:Srt (leZ cz) Y) {k:Nat} (hk:k<Y.length):∀u∈Y.drop k,leZ cz Y[k] u:=by
 intro u hu
 obtain⟨i,hi,rfl⟩:=List.mem_iff_getElem.1 hu
 rw [lD] at hi
 rw [List.getElem_drop]
 rcases Nat.eq_zero_or_pos i with q | q
 ·subst q;exact hz.rf _
 ·exact List.pairwise_iff_getElem.1 h k (k+i) hk (by omega) (by omega)
theorem srt_put {cz:Nat→Nat→Int} {Y:List Nat} {x p:Nat} (h:Srt (leZ cz) Y) (h1:∀u∈Y.take p,leZ cz u x) (h2:∀u∈Y.drop p,leZ cz x u):Srt (leZ cz) (Y.take p++(x::Y.drop p)):=by
 rw [←tkD p Y] at h
 obtain⟨a,c,d⟩:=srt_app.1 h
 refine srt_app.2 ⟨a,List.pairwise_cons.2 ⟨h2,c⟩,fun u hu v hv=>?_⟩
 rcases List.mem_cons.1 hv with rfl | hv
 ·exact h1 u hu
 ·exact d u hu v hv
theorem midW {i j:Nat} (h:i+j<9223372036854775808):wr .i64 ((wr .u64 (wr .i64 ((i:Int)+(j:Int)))).fdiv (2 ^ (min (Int.toNat 1) (IntKind.bits .u64))))=(((i+j) / 2:Nat):Int):=by
 rw [wr64 (n:=(i:Int)+(j:Int)) (by omega) (by omega),wr_eq .u64,show IntKind.u64.wrap ((i:Int)+(j:Int))=((i+j:Nat):Int) by
  have:∀n:Int,IntKind.u64.wrap n=n % 18446744073709551616:=fun n=>by simp [IntKind.wrap,IntKind.bits,IntKind.signed]
  rw [this];omega]
 rw [show min (Int.toNat 1) (IntKind.bits .u64)=1 by decide,show ((2:Int) ^ 1)=2 by decide,Int.fdiv_eq_ediv_of_nonneg _ (by decide),wr64 (by omega) (by omega)]
 omega
section
variable {gt:GT} {C:CallT} {R:List Rs} {ty:TypeId} {t b:Nat}
def MrgC (C:CallT) (R:List Rs) (ty:TypeId) (t b n:Nat) (g:AV) (cz:Nat→Nat→Int) (k:Nat):Prop :=
 ∀(S:St) (xs:List AV) (P X Y Q:List Nat) (a m c:Nat),X.length+Y.length≤k→a=P.length→m=P.length+X.length→c=P.length+X.length+Y.length→X≠[]→Y≠[]→(∀x∈X++Y,x<n)→Srt (leZ cz) X→Srt (leZ cz) Y→xs.length=(P++(X++(Y++Q))).length→(P++(X++(Y++Q))).length<1152921504606846976→ArS S R ty t b (P++(X++(Y++Q))) →
  C 138 [slA t xs.length xs,.int .i64 a,.int .i64 m,.int .i64 c,g] S fun r S'=>r=.ret (.tup [])∧∃Z,Z.Perm (X++Y)∧Srt (leZ cz) Z∧ArS S' R ty t b (P++(Z++Q))
abbrev E_m1 (t:Nat) (xs:List AV) (a:Nat) (g:AV) (i j:Nat):Env:=[(0,.val (slA t xs.length xs)),(1,.val (.int .i64 a)),(4,.val g),(10,.val (.int .i64 i)),(11,.val (.int .i64 j))]
abbrev E_m1b (t:Nat) (xs:List AV) (i k:Nat):Env:=[(0,.val (slA t xs.length xs)),(10,.val (.int .i64 i)),(13,.val (.int .i64 k))]
set_option maxHeartbeats 8000000 in
theorem mrg1_wp (hm:MonoC C) {f:FuncId} {cs:List AV} {n:Nat} {cz:Nat→Nat→Int} (hz:Cz cz) (hc:CmpC C f cs R ty t b n cz) {S:St} {xs:List AV} {P Y Q:List Nat} {x:Nat} (hY:∀y∈Y,y<n) (hxn:x<n) (hs:Srt (leZ cz) Y) (hx:xs.length=(P++(x::(Y++Q))).length) (hl:(P++(x::(Y++Q))).length<1152921504606846976) (hA:ArS S R ty t b (P++(x::(Y++Q)))) :
  wpF gt C F138 [slA t xs.length xs,.int .i64 P.length,.int .i64 ((P.length+1:Nat):Int),.int .i64 ((P.length+1+Y.length:Nat):Int),.fn f [] cs] S fun r S'=>r=.ret (.tup [])∧∃Z,Z.Perm (x::Y)∧Srt (leZ cz) Z∧ArS S' R ty t b (P++(Z++Q)):=by
 have hlen:(P++(x::(Y++Q))).length=P.length+(Y.length+Q.length+1):=by simp only [lA,lC]
 rw [hlen] at hl
 refine⟨rfl,?_⟩
 refine goW ?_
 rw [show wr .i64 (((P.length+1:Nat):Int)-(P.length:Int))=1 by rw [wr64 (by omega) (by omega)];omega]
 refine goW ?_
 refine loop_rule hm (α:=Nat×Nat) (fun a env S'=>env=E_m1 t xs P.length (.fn f [] cs) (P.length+1+a.1) (P.length+1+a.2)∧a.1≤a.2∧a.2≤Y.length∧S'=S∧(∀u∈Y.take a.1,cz u x<0)∧(∀u∈Y.drop a.2,0≤cz u x)) (fun a=>a.2-a.1) ?_ (a:=(0,Y.length)) ⟨rfl,Nat.zero_le _,Nat.le_refl _,rfl,by simp,by simp⟩
 rintro⟨i,j⟩ env S' ⟨rfl,h1,h2,rfl,h3,h4⟩
 simp only at h1 h2 h3 h4
 refine goW ?_
 by_cases hij:((P.length+1+i:Nat):Int)<((P.length+1+j:Nat):Int)
 ·rw [dT hij]
  obtain⟨r,hr⟩:∃r,r=(i+j) / 2:=⟨_,rfl⟩
  have hri:i≤r:=by omega
  have hrj:r<j:=by omega
  have hrY:r<Y.length:=by omega
  have g0:(P++(x::(Y++Q)))[P.length]? = some x:=get_mid rfl
  have g1:(P++(x::(Y++Q)))[P.length+1+r]? = some Y[r]:=by
   rw [List.getElem?_append_right (by omega),show P.length+1+r-P.length=r+1 by omega,List.getElem?_cons_succ,List.getElem?_append_left hrY]
   exact gE hrY
  have hcall:=hc S' _ Y[r] x hA (hY _ (List.getElem_mem hrY)) hxn
  have t1:=srt_take_le hz hs hrY
  have t2:=srt_drop_ge hz hs hrY
  generalize Y[r]=y at g1 hcall t1 t2
  refine goW ?_
  rw [midW (by omega),show (P.length+1+i+(P.length+1+j)) / 2=P.length+1+r by omega]
  refine step_ruleDO rfl rfl (sx_ia (k:=P.length+1+r) rfl rfl (by omega)) (goW ?_)
  refine step_ruleDO rfl rfl (sx_ldEl (agg:=false) rfl (hA.els hx) (ints_get g1) rfl) (goW ?_)
  refine step_ruleDO rfl rfl (sx_ia (k:=P.length) rfl rfl (by omega)) (goW ?_)
  refine step_ruleDO rfl rfl (sx_ldEl (agg:=false) rfl (hA.els hx) (ints_get g0) rfl) (goW ?_)
  refine call_ruleD (by rfl) (hm _ _ _ _ _ hcall ?_)
  rintro r' S3 ⟨rfl,rfl⟩
  refine goW ?_
  by_cases hlt:cz y x<0
  ·rw [dT hlt]
   refine goW ?_
   refine⟨(r+1,j),⟨?_,by simp only;omega,h2,rfl,fun u hu=>ltZ_le hz (t1 u hu) hlt,h4⟩,by simp only;omega⟩
   rw [wrNat (by omega)]
   try rfl
  ·rw [dF hlt]
   refine goW ?_
   refine⟨(i,r),⟨rfl,hri,by simp only;omega,rfl,h3,fun u hu=>?_⟩,by simp only;omega⟩
   exact hz.tr (a:=x) (b:=y) (c:=u) (by omega) (t2 u hu)
 ·rw [dF hij]
  obtain rfl:i=j:=by omega
  clear h1 hij
  refine goW ?_
  refine loop_rule hm (α:=Nat) (fun r env S'=>env=E_m1b t xs (P.length+1+i) (P.length+r)∧r≤i∧ArS S' R ty t b (P++(Y.take r++(x::(Y.drop r++Q))))) (fun r=>i-r) ?_ (a:=0) ⟨rfl,Nat.zero_le _,by simpa using hA⟩
  rintro r env S2 ⟨rfl,hri,hA⟩
  have hxr:xs.length=(P++(Y.take r++(x::(Y.drop r++Q)))).length:=by rw [hx];simp only [lA,lC,lT,lD];omega
  refine goW ?_
  rw [show wr .i64 (((P.length+1+i:Nat):Int)-1)=((P.length+i:Nat):Int) by rw [wr64 (by omega) (by omega)];omega]
  by_cases hlt:((P.length+r:Nat):Int)<((P.length+i:Nat):Int)
  ·rw [dT hlt]
   have hrY:r<Y.length:=by omega
   have hd:Y.drop r=Y[r]::Y.drop (r+1):=dC hrY
   have htk:Y.take (r+1)=Y.take r++[Y[r]]:=tS hrY
   have hltk:(Y.take r).length=r:=by rw [lT];omega
   rw [hd] at hA hxr
   generalize Y[r]=y at hA hxr htk
   clear hd
   have g0:(P++(Y.take r++(x::((y::Y.drop (r+1))++Q))))[P.length+r]? = some x:=by rw [←aA];exact get_mid (by rw [lA];omega)
   have g1:(P++(Y.take r++(x::((y::Y.drop (r+1))++Q))))[P.length+r+1]? = some y:=by
    rw [show P++(Y.take r++(x::((y::Y.drop (r+1))++Q)))=(P++(Y.take r++[x]))++(y::(Y.drop (r+1)++Q)) by simp only [aA,List.cons_append,List.nil_append]]
    exact get_mid (by simp only [lA,lC,List.length_nil];omega)
   have s1:(P++(Y.take r++(x::((y::Y.drop (r+1))++Q)))).set (P.length+r) y=(P++Y.take r)++(y::((y::Y.drop (r+1))++Q)):=by rw [←aA];exact set_mid (by rw [lA];omega)
   have s2:((P++Y.take r)++(y::((y::Y.drop (r+1))++Q))).set (P.length+r+1) x=P++(Y.take (r+1)++(x::(Y.drop (r+1)++Q))):=by
    rw [show (P++Y.take r)++(y::((y::Y.drop (r+1))++Q))=(P++(Y.take r++[y]))++(y::(Y.drop (r+1)++Q)) by simp only [aA,List.cons_append,List.nil_append],set_mid (by simp only [lA,lC,List.length_nil];omega),htk]
    simp only [aA,List.cons_append,List.nil_append]
   have hl1:((P++Y.take r)++(y::((y::Y.drop (r+1))++Q))).length=xs.length:=by rw [←s1,List.length_set,hxr]
   generalize P++(Y.take r++(x::((y::Y.drop (r+1))++Q)))=l at hA g0 g1 s1 hxr
   refine goW ?_
   rw [wrNat (by omega)]
   refine step_ruleDO rfl rfl (sx_ia (k:=P.length+r+1) rfl rfl (by omega)) (goW ?_)
   refine step_ruleDO rfl rfl (sx_ldEl (agg:=false) rfl (hA.els hxr) (ints_get g1) rfl) (goW ?_)
   refine step_ruleDO rfl rfl (sx_ia (k:=P.length+r) rfl rfl (by omega)) (goW ?_)
   refine step_ruleDO rfl rfl (sx_ldEl (agg:=false) rfl (hA.els hxr) (ints_get g0) rfl) (goW ?_)
   refine step_ruleDO rfl rfl (sx_ia (k:=P.length+r) rfl rfl (by omega)) (goW ?_)
   refine st_runPD (hA.st hxr rfl rfl (by omega)) (by trivial) rfl rfl ?_
   intro S4 hA
   rw [s1] at hA
   refine goW ?_
   refine step_ruleDO rfl rfl (sx_ia (k:=P.length+r+1) rfl rfl (by omega)) (goW ?_)
   refine st_runPD (hA.st hl1.symm rfl rfl (by omega)) (by trivial) rfl rfl ?_
   intro S5 hA
   rw [s2] at hA
   refine goW ?_
   refine⟨r+1,⟨?_,by omega,hA⟩,by omega⟩
   rw [wrNat (by omega)]
   try rfl
  ·rw [dF hlt]
   obtain rfl:r=i:=by omega
   refine goW ?_
   refine⟨_,rfl,rfl,Y.take r++(x::Y.drop r),?_,srt_put hs (fun u hu=>hz.asy (h3 u hu)) (fun u hu=>h4 u hu),by simpa only [aA,List.cons_append] using hA⟩
   have:=List.perm_middle (a:=x) (l₁:=Y.take r) (l₂:=Y.drop r)
   rwa [tkD] at this
end

section
variable {gt:GT} {C:CallT} {R:List Rs} {ty:TypeId} {t b:Nat}
abbrev E_m2 (t:Nat) (xs:List AV) (m:Nat) (g:AV) (i j:Nat):Env:=[(0,.val (slA t xs.length xs)),(2,.val (.int .i64 m)),(4,.val g),(14,.val (.int .i64 i)),(15,.val (.int .i64 j))]
abbrev E_m2b (t:Nat) (xs:List AV) (i k:Nat):Env:=[(0,.val (slA t xs.length xs)),(14,.val (.int .i64 i)),(17,.val (.int .i64 k))]
set_option maxHeartbeats 8000000 in
theorem mrg2_wp (hm:MonoC C) {f:FuncId} {cs:List AV} {n:Nat} {cz:Nat→Nat→Int} (hz:Cz cz) (hc:CmpC C f cs R ty t b n cz) {S:St} {xs:List AV} {P Y Q:List Nat} {x:Nat} (hY:∀y∈Y,y<n) (hxn:x<n) (hs:Srt (leZ cz) Y) (h2:2≤Y.length) (hx:xs.length=(P++(Y++(x::Q))).length) (hl:(P++(Y++(x::Q))).length<1152921504606846976) (hA:ArS S R ty t b (P++(Y++(x::Q)))) :
  wpF gt C F138 [slA t xs.length xs,.int .i64 P.length,.int .i64 ((P.length+Y.length:Nat):Int),.int .i64 ((P.length+Y.length+1:Nat):Int),.fn f [] cs] S fun r S'=>r=.ret (.tup [])∧∃Z,Z.Perm (Y++[x])∧Srt (leZ cz) Z∧ArS S' R ty t b (P++(Z++Q)):=by
 have hlen:(P++(Y++(x::Q))).length=P.length+(Y.length+(Q.length+1)):=by simp only [lA,lC]
 rw [hlen] at hl
 refine⟨rfl,?_⟩
 refine goW ?_
 rw [show wr .i64 (((P.length+Y.length:Nat):Int)-(P.length:Int))=(Y.length:Int) by rw [wr64 (by omega) (by omega)];omega,eqI_false (show ¬(Y.length:Int)=1 by omega)]
 refine goW ?_
 rw [show wr .i64 (((P.length+Y.length+1:Nat):Int)-((P.length+Y.length:Nat):Int))=1 by rw [wr64 (by omega) (by omega)];omega]
 refine goW ?_
 refine loop_rule hm (α:=Nat×Nat) (fun a env S'=>env=E_m2 t xs (P.length+Y.length) (.fn f [] cs) (P.length+a.1) (P.length+a.2)∧a.1≤a.2∧a.2≤Y.length∧S'=S∧(∀u∈Y.take a.1,0≤cz x u)∧(∀u∈Y.drop a.2,cz x u<0)) (fun a=>a.2-a.1) ?_ (a:=(0,Y.length)) ⟨rfl,Nat.zero_le _,Nat.le_refl _,rfl,by simp,by simp⟩
 rintro⟨i,j⟩ env S' ⟨rfl,h1,h2',rfl,h3,h4⟩
 simp only at h1 h2' h3 h4
 refine goW ?_
 by_cases hij:((P.length+i:Nat):Int)<((P.length+j:Nat):Int)
 ·rw [dT hij]
  obtain⟨r,hr⟩:∃r,r=(i+j) / 2:=⟨_,rfl⟩
  have hri:i≤r:=by omega
  have hrj:r<j:=by omega
  have hrY:r<Y.length:=by omega
  have g0:(P++(Y++(x::Q)))[P.length+Y.length]? = some x:=by rw [←aA];exact get_mid (by rw [lA])
  have g1:(P++(Y++(x::Q)))[P.length+r]? = some Y[r]:=by
   rw [List.getElem?_append_right (by omega),show P.length+r-P.length=r by omega,List.getElem?_append_left hrY]
   exact gE hrY
  have hcall:=hc S' _ x Y[r] hA hxn (hY _ (List.getElem_mem hrY))
  have t1:=srt_take_le hz hs hrY
  have t2:=srt_drop_ge hz hs hrY
  generalize Y[r]=y at g1 hcall t1 t2
  refine goW ?_
  rw [midW (by omega),show (P.length+i+(P.length+j)) / 2=P.length+r by omega]
  refine step_ruleDO rfl rfl (sx_ia (k:=P.length+Y.length) rfl rfl (by omega)) (goW ?_)
  refine step_ruleDO rfl rfl (sx_ldEl (agg:=false) rfl (hA.els hx) (ints_get g0) rfl) (goW ?_)
  refine step_ruleDO rfl rfl (sx_ia (k:=P.length+r) rfl rfl (by omega)) (goW ?_)
  refine step_ruleDO rfl rfl (sx_ldEl (agg:=false) rfl (hA.els hx) (ints_get g1) rfl) (goW ?_)
  refine call_ruleD (by rfl) (hm _ _ _ _ _ hcall ?_)
  rintro r' S3 ⟨rfl,rfl⟩
  refine goW ?_
  by_cases hlt:cz x y<0
  ·rw [dT hlt]
   refine goW ?_
   refine⟨(i,r),⟨rfl,hri,by simp only;omega,rfl,h3,fun u hu=>?_⟩,by simp only;omega⟩
   rcases Int.lt_or_le (cz x u) 0 with q | q
   ·exact q
   ·have:0≤cz x y:=hz.tr (a:=y) (b:=u) (c:=x) (t2 u hu) q
    omega
  ·rw [dF hlt]
   refine goW ?_
   refine⟨(r+1,j),⟨?_,by simp only;omega,h2',rfl,fun u hu=>?_,h4⟩,by simp only;omega⟩
   ·rw [wrNat (by omega)]
    try rfl
   ·exact hz.tr (a:=u) (b:=y) (c:=x) (t1 u hu) (by omega)
 ·rw [dF hij]
  obtain rfl:i=j:=by omega
  clear h1 hij
  refine goW ?_
  refine loop_rule hm (α:=Nat) (fun r env S'=>env=E_m2b t xs (P.length+i) (P.length+r)∧i≤r∧r≤Y.length∧ArS S' R ty t b (P++(Y.take r++(x::(Y.drop r++Q))))) (fun r=>r) ?_ (a:=Y.length) ⟨rfl,h2',Nat.le_refl _,by simpa using hA⟩
  rintro r env S2 ⟨rfl,hri,hrY,hA⟩
  have hxr:xs.length=(P++(Y.take r++(x::(Y.drop r++Q)))).length:=by rw [hx];simp only [lA,lC,lT,lD];omega
  refine goW ?_
  by_cases hlt:((P.length+r:Nat):Int) > ((P.length+i:Nat):Int)
  ·rw [dT hlt]
   obtain⟨q,rfl⟩:∃q,r=q+1:=⟨r-1,by omega⟩
   have hqY:q<Y.length:=by omega
   have hd:Y.drop q=Y[q]::Y.drop (q+1):=dC hqY
   have htk:Y.take (q+1)=Y.take q++[Y[q]]:=tS hqY
   have hltk:(Y.take q).length=q:=by rw [lT];omega
   rw [htk] at hA hxr
   generalize Y[q]=y at hA hxr hd
   clear htk
   have g0:(P++((Y.take q++[y])++(x::(Y.drop (q+1)++Q))))[P.length+q+1]? = some x:=by
    rw [←aA];exact get_mid (by simp only [lA,lC,List.length_nil];omega)
   have g1:(P++((Y.take q++[y])++(x::(Y.drop (q+1)++Q))))[P.length+q]? = some y:=by
    rw [show P++((Y.take q++[y])++(x::(Y.drop (q+1)++Q)))=(P++Y.take q)++(y::(x::(Y.drop (q+1)++Q))) by simp only [aA,List.cons_append,List.nil_append]]
    exact get_mid (by rw [lA];omega)
   have s1:(P++((Y.take q++[y])++(x::(Y.drop (q+1)++Q)))).set (P.length+q+1) y=(P++Y.take q)++(y::(y::(Y.drop (q+1)++Q))):=by
    rw [←aA,set_mid (by simp only [lA,lC,List.length_nil];omega)]
    simp only [aA,List.cons_append,List.nil_append]
   have s2:((P++Y.take q)++(y::(y::(Y.drop (q+1)++Q)))).set (P.length+q) x=P++(Y.take q++(x::(Y.drop q++Q))):=by
    rw [set_mid (by rw [lA];omega),hd]
    simp only [aA,List.cons_append]
   have hl1:((P++Y.take q)++(y::(y::(Y.drop (q+1)++Q)))).length=xs.length:=by rw [←s1,List.length_set,hxr]
   generalize P++((Y.take q++[y])++(x::(Y.drop (q+1)++Q)))=l at hA g0 g1 s1 hxr
   have w1:wr .i64 (((P.length+(q+1):Nat):Int)-1)=((P.length+q:Nat):Int):=by rw [wr64 (by omega) (by omega)];omega
   refine goW ?_
   rw [w1]
   refine step_ruleDO rfl rfl (sx_ia (k:=P.length+q) rfl rfl (by omega)) (goW ?_)
   refine step_ruleDO rfl rfl (sx_ldEl (agg:=false) rfl (hA.els hxr) (ints_get g1) rfl) (goW ?_)
   refine step_ruleDO rfl rfl (sx_ia (k:=P.length+q+1) rfl rfl (by omega)) (goW ?_)
   refine step_ruleDO rfl rfl (sx_ldEl (agg:=false) rfl (hA.els hxr) (ints_get g0) rfl) (goW ?_)
   refine step_ruleDO rfl rfl (sx_ia (k:=P.length+q+1) rfl rfl (by omega)) (goW ?_)
   refine st_runPD (hA.st hxr rfl rfl (by omega)) (by trivial) rfl rfl ?_
   intro S4 hA
   rw [s1] at hA
   refine goW ?_
   refine step_ruleDO rfl rfl (sx_ia (k:=P.length+q) rfl rfl (by omega)) (goW ?_)
   refine st_runPD (hA.st hl1.symm rfl rfl (by omega)) (by trivial) rfl rfl ?_
   intro S5 hA
   rw [s2] at hA
   refine goW ?_
   refine⟨q,⟨?_,by omega,by omega,hA⟩,by omega⟩
   rw [w1]
  ·rw [dF hlt]
   obtain rfl:r=i:=by omega
   refine goW ?_
   refine⟨_,rfl,rfl,Y.take r++(x::Y.drop r),?_,srt_put hs (fun u hu=>h3 u hu) (fun u hu=>hz.asy (h4 u hu)),by simpa only [aA,List.cons_append] using hA⟩
   have:=List.perm_middle (a:=x) (l₁:=Y.take r) (l₂:=Y.drop r)
   rw [tkD] at this
   exact this.trans (List.perm_append_singleton x Y).symm
end

section
variable {gt:GT} {C:CallT} {R:List Rs} {ty:TypeId} {t b:Nat}
set_option maxHeartbeats 8000000 in
theorem mrgLast_wp (hm:MonoC C) {f:FuncId} {cs:List AV} {n k:Nat} {cz:Nat→Nat→Int} (ih:MrgC C R ty t b n (.fn f [] cs) cz k) {S:St} {xs:List AV} {P B D Q:List Nat} {mid e c:Nat} {z:Env} {G:St→Prop}
  (h1:mid=P.length) (h2:e=P.length+B.length) (h3:c=P.length+B.length+D.length) (hk:B≠[]→D≠[]→B.length+D.length≤k) (hn:∀x∈B++D,x<n) (hB:Srt (leZ cz) B) (hD:Srt (leZ cz) D)
  (hx:xs.length=(P++(B++(D++Q))).length) (hl:(P++(B++(D++Q))).length<1152921504606846976) (hA:ArS S R ty t b (P++(B++(D++Q))))
  (fin:∀S' Z,Z.Perm (B++D)→Srt (leZ cz) Z→ArS S' R ty t b (P++(Z++Q))→G S') :
  wpD gt C F138.body.rt.rt.rt.rt.rt.rt.rt.rt.rt.rt.rt ((0,.val (slA t xs.length xs))::(3,.val (.int .i64 c))::(4,.val (.fn f [] cs))::(18,.val (.int .i64 mid))::(24,.val (.int .i64 e))::z) S (bodyQ gt F138.res fun r S'=>r=.ret (.tup [])∧G S'):=by
 have triv:(B=[]∨D=[])→G S:=fun h=>fin S (B++D) (List.Perm.refl _) (by rcases h with rfl | rfl;exact hD;rw [List.append_nil];exact hB) (by rw [aA];exact hA)
 conv=>whnf
 refine goW ?_
 by_cases c1:(mid:Int)<(e:Int)
 ·rw [dT c1]
  refine goW ?_
  by_cases c2:(e:Int)<(c:Int)
  ·rw [dT c2]
   have b1:B≠[]:=fun h=>by rw [h] at h2;simp at h2;omega
   have b2:D≠[]:=fun h=>by rw [h] at h3;simp at h3;omega
   refine goW ?_
   refine call_rule (by rfl) (hm _ _ _ _ _ (ih S xs P B D Q mid e c (hk b1 b2) h1 h2 h3 b1 b2 hn hB hD hx hl hA) ?_)
   rintro r S2 ⟨rfl,Z,z1,z2,z3⟩
   refine goW ?_
   exact⟨_,rfl,rfl,fin S2 Z z1 z2 z3⟩
  ·rw [dF c2]
   have:D=[]:=nL (by omega)
   refine goW ?_
   exact⟨_,rfl,rfl,triv (.inr this)⟩
 ·rw [dF c1]
  have:B=[]:=nL (by omega)
  refine goW ?_
  exact⟨_,rfl,rfl,triv (.inl this)⟩
set_option maxHeartbeats 8000000 in
theorem mrgLast2_wp (hm:MonoC C) {f:FuncId} {cs:List AV} {n k:Nat} {cz:Nat→Nat→Int} (ih:MrgC C R ty t b n (.fn f [] cs) cz k) {S:St} {xs:List AV} {P B D Q:List Nat} {mid e c:Nat} {o1 o2:Ent} {z:Env} {G:St→Prop}
  (h1:mid=P.length) (h2:e=P.length+B.length) (h3:c=P.length+B.length+D.length) (hk:B≠[]→D≠[]→B.length+D.length≤k) (hn:∀x∈B++D,x<n) (hB:Srt (leZ cz) B) (hD:Srt (leZ cz) D)
  (hx:xs.length=(P++(B++(D++Q))).length) (hl:(P++(B++(D++Q))).length<1152921504606846976) (hA:ArS S R ty t b (P++(B++(D++Q))))
  (fin:∀S' Z,Z.Perm (B++D)→Srt (leZ cz) Z→ArS S' R ty t b (P++(Z++Q))→G S') :
  wpD gt C F138.body.rt.rt.rt.rt.rt.rt.rt.rt.rt.rt.rt ((0,.val (slA t xs.length xs))::(1,o1)::(3,.val (.int .i64 c))::(4,.val (.fn f [] cs))::(18,.val (.int .i64 mid))::(20,o2)::(24,.val (.int .i64 e))::z) S (bodyQ gt F138.res fun r S'=>r=.ret (.tup [])∧G S'):=by
 have triv:(B=[]∨D=[])→G S:=fun h=>fin S (B++D) (List.Perm.refl _) (by rcases h with rfl | rfl;exact hD;rw [List.append_nil];exact hB) (by rw [aA];exact hA)
 conv=>whnf
 refine goW ?_
 by_cases c1:(mid:Int)<(e:Int)
 ·rw [dT c1]
  refine goW ?_
  by_cases c2:(e:Int)<(c:Int)
  ·rw [dT c2]
   have b1:B≠[]:=fun h=>by rw [h] at h2;simp at h2;omega
   have b2:D≠[]:=fun h=>by rw [h] at h3;simp at h3;omega
   refine goW ?_
   refine call_rule (by rfl) (hm _ _ _ _ _ (ih S xs P B D Q mid e c (hk b1 b2) h1 h2 h3 b1 b2 hn hB hD hx hl hA) ?_)
   rintro r S2 ⟨rfl,Z,z1,z2,z3⟩
   refine goW ?_
   exact⟨_,rfl,rfl,fin S2 Z z1 z2 z3⟩
  ·rw [dF c2]
   have:D=[]:=nL (by omega)
   refine goW ?_
   exact⟨_,rfl,rfl,triv (.inr this)⟩
 ·rw [dF c1]
  have:B=[]:=nL (by omega)
  refine goW ?_
  exact⟨_,rfl,rfl,triv (.inl this)⟩
set_option maxHeartbeats 8000000 in
theorem mrgFirst_wp (hm:MonoC C) {f:FuncId} {cs:List AV} {n k:Nat} {cz:Nat→Nat→Int} (ih:MrgC C R ty t b n (.fn f [] cs) cz k) {S:St} {xs:List AV} {P A V B D Q:List Nat} {a mid s e c:Nat} {z:Env} {G:St→Prop}
  (h0:a=P.length) (h1:mid=P.length+A.length+V.length) (h2:s=P.length+A.length) (h3:e=mid+B.length) (h4:c=e+D.length) (hk1:A≠[]→V≠[]→A.length+V.length≤k) (hk2:B≠[]→D≠[]→B.length+D.length≤k)
  (hn:∀x∈(A++V)++(B++D),x<n) (sA:Srt (leZ cz) A) (sV:Srt (leZ cz) V) (sB:Srt (leZ cz) B) (sD:Srt (leZ cz) D)
  (hx:xs.length=(P++(A++(V++(B++(D++Q))))).length) (hl:(P++(A++(V++(B++(D++Q))))).length<1152921504606846976) (hA:ArS S R ty t b (P++(A++(V++(B++(D++Q))))))
  (fin:∀S' Z1 Z2,Z1.Perm (A++V)→Srt (leZ cz) Z1→Z2.Perm (B++D)→Srt (leZ cz) Z2→ArS S' R ty t b (P++((Z1++Z2)++Q))→G S') :
  wpD gt C F138.body.rt.rt.rt.rt.rt.rt.rt.rt.rt.rt ((0,.val (slA t xs.length xs))::(1,.val (.int .i64 a))::(3,.val (.int .i64 c))::(4,.val (.fn f [] cs))::(18,.val (.int .i64 mid))::(20,.val (.int .i64 s))::(24,.val (.int .i64 e))::z) S (bodyQ gt F138.res fun r S'=>r=.ret (.tup [])∧G S'):=by
 have hlen:(P++(A++(V++(B++(D++Q))))).length=P.length+(A.length+(V.length+(B.length+(D.length+Q.length)))):=by simp only [lA]
 have next:∀(S:St) (Z1:List Nat) (z:Env),Z1.Perm (A++V)→Srt (leZ cz) Z1→ArS S R ty t b (P++(Z1++(B++(D++Q))))→wpD gt C F138.body.rt.rt.rt.rt.rt.rt.rt.rt.rt.rt.rt ((0,.val (slA t xs.length xs))::(3,.val (.int .i64 c))::(4,.val (.fn f [] cs))::(18,.val (.int .i64 mid))::(24,.val (.int .i64 e))::z) S (bodyQ gt F138.res fun r S'=>r=.ret (.tup [])∧G S'):=fun S Z1 z p1 s1 hA=>by
  have zl:=p1.length_eq
  rw [lA] at zl
  refine mrgLast_wp (gt:=gt) hm ih (P:=P++Z1) (B:=B) (D:=D) (Q:=Q) (by rw [lA];omega) (by rw [lA];omega) (by rw [lA];omega) hk2 (fun x hx=>hn x (List.mem_append_right _ hx)) sB sD (by rw [hx];simp only [lA];omega) (by rw [hlen] at hl;simp only [lA];omega) (by rw [aA];exact hA) ?_
  intro S' Z2 p2 s2 hA2
  exact fin S' Z1 Z2 p1 s1 p2 s2 (by simpa only [aA] using hA2)
 have triv:(A=[]∨V=[])→∀(o1 o2:Ent) z,wpD gt C F138.body.rt.rt.rt.rt.rt.rt.rt.rt.rt.rt.rt ((0,.val (slA t xs.length xs))::(1,o1)::(3,.val (.int .i64 c))::(4,.val (.fn f [] cs))::(18,.val (.int .i64 mid))::(20,o2)::(24,.val (.int .i64 e))::z) S (bodyQ gt F138.res fun r S'=>r=.ret (.tup [])∧G S'):=fun h o1 o2 z =>
  mrgLast2_wp (gt:=gt) hm ih (P:=P++(A++V)) (B:=B) (D:=D) (Q:=Q) (by simp only [lA];omega) (by simp only [lA];omega) (by simp only [lA];omega) hk2 (fun x hx=>hn x (List.mem_append_right _ hx)) sB sD (by rw [hx];simp only [lA];omega) (by rw [hlen] at hl;simp only [lA];omega) (by simpa only [aA] using hA) fun S' Z2 p2 s2 hA2 =>
   fin S' (A++V) Z2 (List.Perm.refl _) (by rcases h with rfl | rfl;exact sV;rw [List.append_nil];exact sA) p2 s2 (by simpa only [aA] using hA2)
 conv=>whnf
 refine goW ?_
 by_cases c1:(a:Int)<(s:Int)
 ·rw [dT c1]
  refine goW ?_
  by_cases c2:(s:Int)<(mid:Int)
  ·rw [dT c2]
   have b1:A≠[]:=fun h=>by rw [h] at h2;simp at h2;omega
   have b2:V≠[]:=fun h=>by rw [h] at h1;simp at h1;omega
   refine goW ?_
   refine call_rule (by rfl) (hm _ _ _ _ _ (ih S xs P A V (B++(D++Q)) a s mid (hk1 b1 b2) h0 h2 h1 b1 b2 (fun x hx=>hn x (List.mem_append_left _ hx)) sA sV hx hl hA) ?_)
   rintro r S2 ⟨rfl,Z1,z1,z2,z3⟩
   have next:=next S2 Z1 [] z1 z2 z3
   refine goK ?_
   with_unfolding_all exact next
  ·rw [dF c2]
   have triv:=triv (.inr (nL (by omega)))
   refine goK ?_
   with_unfolding_all exact triv _ _ _
 ·rw [dF c1]
  have triv:=triv (.inl (nL (by omega)))
  refine goK ?_
  with_unfolding_all exact triv _ _ _
set_option maxHeartbeats 8000000 in
theorem mrgFirst2_wp (hm:MonoC C) {f:FuncId} {cs:List AV} {n k:Nat} {cz:Nat→Nat→Int} (ih:MrgC C R ty t b n (.fn f [] cs) cz k) {S:St} {xs:List AV} {P A V B D Q:List Nat} {a mid s e c:Nat} {o:Ent} {z:Env} {G:St→Prop}
  (h0:a=P.length) (h1:mid=P.length+A.length+V.length) (h2:s=P.length+A.length) (h3:e=mid+B.length) (h4:c=e+D.length) (hk1:A≠[]→V≠[]→A.length+V.length≤k) (hk2:B≠[]→D≠[]→B.length+D.length≤k)
  (hn:∀x∈(A++V)++(B++D),x<n) (sA:Srt (leZ cz) A) (sV:Srt (leZ cz) V) (sB:Srt (leZ cz) B) (sD:Srt (leZ cz) D)
  (hx:xs.length=(P++(A++(V++(B++(D++Q))))).length) (hl:(P++(A++(V++(B++(D++Q))))).length<1152921504606846976) (hA:ArS S R ty t b (P++(A++(V++(B++(D++Q))))))
  (fin:∀S' Z1 Z2,Z1.Perm (A++V)→Srt (leZ cz) Z1→Z2.Perm (B++D)→Srt (leZ cz) Z2→ArS S' R ty t b (P++((Z1++Z2)++Q))→G S') :
  wpD gt C F138.body.rt.rt.rt.rt.rt.rt.rt.rt.rt.rt ((0,.val (slA t xs.length xs))::(1,.val (.int .i64 a))::(2,o)::(3,.val (.int .i64 c))::(4,.val (.fn f [] cs))::(18,.val (.int .i64 mid))::(20,.val (.int .i64 s))::(24,.val (.int .i64 e))::z) S (bodyQ gt F138.res fun r S'=>r=.ret (.tup [])∧G S'):=by
 have hlen:(P++(A++(V++(B++(D++Q))))).length=P.length+(A.length+(V.length+(B.length+(D.length+Q.length)))):=by simp only [lA]
 have next:∀(S:St) (Z1:List Nat) (z:Env),Z1.Perm (A++V)→Srt (leZ cz) Z1→ArS S R ty t b (P++(Z1++(B++(D++Q))))→wpD gt C F138.body.rt.rt.rt.rt.rt.rt.rt.rt.rt.rt.rt ((0,.val (slA t xs.length xs))::(3,.val (.int .i64 c))::(4,.val (.fn f [] cs))::(18,.val (.int .i64 mid))::(24,.val (.int .i64 e))::z) S (bodyQ gt F138.res fun r S'=>r=.ret (.tup [])∧G S'):=fun S Z1 z p1 s1 hA=>by
  have zl:=p1.length_eq
  rw [lA] at zl
  refine mrgLast_wp (gt:=gt) hm ih (P:=P++Z1) (B:=B) (D:=D) (Q:=Q) (by rw [lA];omega) (by rw [lA];omega) (by rw [lA];omega) hk2 (fun x hx=>hn x (List.mem_append_right _ hx)) sB sD (by rw [hx];simp only [lA];omega) (by rw [hlen] at hl;simp only [lA];omega) (by rw [aA];exact hA) ?_
  intro S' Z2 p2 s2 hA2
  exact fin S' Z1 Z2 p1 s1 p2 s2 (by simpa only [aA] using hA2)
 have triv:(A=[]∨V=[])→∀(o1 o2:Ent) z,wpD gt C F138.body.rt.rt.rt.rt.rt.rt.rt.rt.rt.rt.rt ((0,.val (slA t xs.length xs))::(1,o1)::(3,.val (.int .i64 c))::(4,.val (.fn f [] cs))::(18,.val (.int .i64 mid))::(20,o2)::(24,.val (.int .i64 e))::z) S (bodyQ gt F138.res fun r S'=>r=.ret (.tup [])∧G S'):=fun h o1 o2 z =>
  mrgLast2_wp (gt:=gt) hm ih (P:=P++(A++V)) (B:=B) (D:=D) (Q:=Q) (by simp only [lA];omega) (by simp only [lA];omega) (by simp only [lA];omega) hk2 (fun x hx=>hn x (List.mem_append_right _ hx)) sB sD (by rw [hx];simp only [lA];omega) (by rw [hlen] at hl;simp only [lA];omega) (by simpa only [aA] using hA) fun S' Z2 p2 s2 hA2 =>
   fin S' (A++V) Z2 (List.Perm.refl _) (by rcases h with rfl | rfl;exact sV;rw [List.append_nil];exact sA) p2 s2 (by simpa only [aA] using hA2)
 conv=>whnf
 refine goW ?_
 by_cases c1:(a:Int)<(s:Int)
 ·rw [dT c1]
  refine goW ?_
  by_cases c2:(s:Int)<(mid:Int)
  ·rw [dT c2]
   have b1:A≠[]:=fun h=>by rw [h] at h2;simp at h2;omega
   have b2:V≠[]:=fun h=>by rw [h] at h1;simp at h1;omega
   refine goW ?_
   refine call_rule (by rfl) (hm _ _ _ _ _ (ih S xs P A V (B++(D++Q)) a s mid (hk1 b1 b2) h0 h2 h1 b1 b2 (fun x hx=>hn x (List.mem_append_left _ hx)) sA sV hx hl hA) ?_)
   rintro r S2 ⟨rfl,Z1,z1,z2,z3⟩
   have next:=next S2 Z1 [] z1 z2 z3
   refine goK ?_
   with_unfolding_all exact next
  ·rw [dF c2]
   have triv:=triv (.inr (nL (by omega)))
   refine goK ?_
   with_unfolding_all exact triv _ _ _
 ·rw [dF c1]
  have triv:=triv (.inl (nL (by omega)))
  refine goK ?_
  with_unfolding_all exact triv _ _ _
end

section
variable {gt:GT} {C:CallT} {R:List Rs} {ty:TypeId} {t b:Nat}
set_option maxHeartbeats 8000000 in
theorem mrgRot_wp (hm:MonoC C) {f:FuncId} {cs:List AV} {n k:Nat} {cz:Nat→Nat→Int} (ih:MrgC C R ty t b n (.fn f [] cs) cz k) (hr:RotC C R ty t b (.fn f [] cs)) {S:St} {xs:List AV} {P A V B D Q:List Nat} {a m mid s e c:Nat} {z:Env} {G:St→Prop}
  (h0:a=P.length) (hmm:m=P.length+A.length+B.length) (h1:mid=P.length+A.length+V.length) (h2:s=P.length+A.length) (h3:e=mid+B.length) (h4:c=e+D.length) (hk1:A≠[]→V≠[]→A.length+V.length≤k) (hk2:B≠[]→D≠[]→B.length+D.length≤k)
  (hn:∀x∈(A++V)++(B++D),x<n) (sA:Srt (leZ cz) A) (sV:Srt (leZ cz) V) (sB:Srt (leZ cz) B) (sD:Srt (leZ cz) D)
  (hx:xs.length=(P++(A++(B++(V++(D++Q))))).length) (hl:(P++(A++(B++(V++(D++Q))))).length<1152921504606846976) (hA:ArS S R ty t b (P++(A++(B++(V++(D++Q))))))
  (fin:∀S' Z1 Z2,Z1.Perm (A++V)→Srt (leZ cz) Z1→Z2.Perm (B++D)→Srt (leZ cz) Z2→ArS S' R ty t b (P++((Z1++Z2)++Q))→G S') :
  wpD gt C F138.body.rt.rt.rt.rt.rt.rt.rt.rt.rt ((0,.val (slA t xs.length xs))::(1,.val (.int .i64 a))::(2,.val (.int .i64 m))::(3,.val (.int .i64 c))::(4,.val (.fn f [] cs))::(18,.val (.int .i64 mid))::(20,.val (.int .i64 s))::(24,.val (.int .i64 e))::z) S (bodyQ gt F138.res fun r S'=>r=.ret (.tup [])∧G S'):=by
 have hlen:(P++(A++(B++(V++(D++Q))))).length=P.length+(A.length+(B.length+(V.length+(D.length+Q.length)))):=by simp only [lA]
 have hlen2:(P++(A++(V++(B++(D++Q))))).length=P.length+(A.length+(B.length+(V.length+(D.length+Q.length)))):=by simp only [lA];omega
 rw [hlen] at hx hl
 have triv:(B=[]∨V=[])→∀(o:Ent) z,wpD gt C F138.body.rt.rt.rt.rt.rt.rt.rt.rt.rt.rt ((0,.val (slA t xs.length xs))::(1,.val (.int .i64 a))::(2,o)::(3,.val (.int .i64 c))::(4,.val (.fn f [] cs))::(18,.val (.int .i64 mid))::(20,.val (.int .i64 s))::(24,.val (.int .i64 e))::z) S (bodyQ gt F138.res fun r S'=>r=.ret (.tup [])∧G S'):=fun h o z =>
  mrgFirst2_wp (gt:=gt) hm ih (P:=P) (A:=A) (V:=V) (B:=B) (D:=D) (Q:=Q) h0 h1 h2 h3 h4 hk1 hk2 hn sA sV sB sD (by rw [hlen2];exact hx) (by rw [hlen2];exact hl) (by rcases h with rfl | rfl<;>exact hA) fin
 have next:∀(S:St) z,ArS S R ty t b (P++(A++(V++(B++(D++Q)))))→wpD gt C F138.body.rt.rt.rt.rt.rt.rt.rt.rt.rt.rt ((0,.val (slA t xs.length xs))::(1,.val (.int .i64 a))::(3,.val (.int .i64 c))::(4,.val (.fn f [] cs))::(18,.val (.int .i64 mid))::(20,.val (.int .i64 s))::(24,.val (.int .i64 e))::z) S (bodyQ gt F138.res fun r S'=>r=.ret (.tup [])∧G S'):=fun S z hA =>
  mrgFirst_wp (gt:=gt) hm ih (P:=P) (A:=A) (V:=V) (B:=B) (D:=D) (Q:=Q) h0 h1 h2 h3 h4 hk1 hk2 hn sA sV sB sD (by rw [hlen2];exact hx) (by rw [hlen2];exact hl) hA fin
 conv=>whnf
 refine goW ?_
 by_cases c1:(s:Int)<(m:Int)
 ·rw [dT c1]
  refine goW ?_
  by_cases c2:(m:Int)<(e:Int)
  ·rw [dT c2]
   have b1:B≠[]:=fun h=>by rw [h] at hmm;simp at hmm;omega
   have b2:V≠[]:=fun h=>by rw [h] at h1;simp at h1;omega
   refine goW ?_
   refine call_rule (by rfl) (hm _ _ _ _ _ (hr S xs (P++A) B V (D++Q) s m e (by rw [lA];exact h2) (by rw [lA];exact hmm) (by rw [lA];omega) b1 b2 (by simp only [lA];omega) (by simp only [lA];omega) (by rw [aA];exact hA)) ?_)
   rintro r S2 ⟨rfl,hA2⟩
   rw [aA] at hA2
   have next:=next S2 [] hA2
   refine goK ?_
   with_unfolding_all exact next
  ·rw [dF c2]
   have triv:=triv (.inr (nL (by omega)))
   refine goK ?_
   with_unfolding_all exact triv _ _
 ·rw [dF c1]
  have triv:=triv (.inl (nL (by omega)))
  refine goK ?_
  with_unfolding_all exact triv _ _
abbrev E_sr (t:Nat) (xs:List AV) (a m c:Nat) (g:AV) (mid n s r p:Nat):Env:=[(0,.val (slA t xs.length xs)),(1,.val (.int .i64 a)),(2,.val (.int .i64 m)),(3,.val (.int .i64 c)),(4,.val g),(18,.val (.int .i64 mid)),(19,.val (.int .i64 n)),(20,.val (.int .i64 s)),(21,.val (.int .i64 r)),(22,.val (.int .i64 p))]
set_option maxHeartbeats 8000000 in
theorem mrgSeek_wp (hm:MonoC C) {f:FuncId} {cs:List AV} {n k:Nat} {cz:Nat→Nat→Int} (hz:Cz cz) (hc:CmpC C f cs R ty t b n cz) (ih:MrgC C R ty t b n (.fn f [] cs) cz k) (hr:RotC C R ty t b (.fn f [] cs)) {S:St} {xs:List AV} {P X Y Q:List Nat} {a m c mid nn lo hi hN l0 h0:Nat} {z:Env} {G:St→Prop}
  (ha:a=P.length) (hmm:m=P.length+X.length) (hcc:c=P.length+X.length+Y.length) (hmid:mid=P.length+hN) (hnn:nn=mid+m) (hlo:lo=P.length+l0) (hhi:hi=P.length+h0)
  (rng:(l0=0∧h0=X.length∧X.length≤hN∧hN≤Y.length)∨(l0+Y.length=hN∧h0=hN∧hN≤X.length)) (hk1:hN≤k) (hk2:X.length+Y.length≤k+hN)
  (hn:∀x∈X++Y,x<n) (sX:Srt (leZ cz) X) (sY:Srt (leZ cz) Y) (hN0:0<hN)
  (hx:xs.length=(P++(X++(Y++Q))).length) (hl:(P++(X++(Y++Q))).length<1152921504606846976) (hA:ArS S R ty t b (P++(X++(Y++Q))))
  (fin:∀S' Z,Z.Perm (X++Y)→Srt (leZ cz) Z→ArS S' R ty t b (P++(Z++Q))→G S') :
  wpD gt C F138.body.rt.rt.rt.rt.rt.rt ((0,.val (slA t xs.length xs))::(1,.val (.int .i64 a))::(2,.val (.int .i64 m))::(3,.val (.int .i64 c))::(4,.val (.fn f [] cs))::(18,.val (.int .i64 mid))::(19,.val (.int .i64 nn))::(20,.val (.int .i64 lo))::(21,.val (.int .i64 hi))::z) S (bodyQ gt F138.res fun r S'=>r=.ret (.tup [])∧G S'):=by
 have hlen:(P++(X++(Y++Q))).length=P.length+(X.length+(Y.length+Q.length)):=by simp only [lA]
 have hl':=hl
 rw [hlen] at hl'
 have wp:wr .i64 ((nn:Int)-1)=((nn-1:Nat):Int):=by rw [wr64 (by omega) (by omega)];omega
 conv=>whnf
 refine goW ?_
 rw [wp]
 refine loop_rule hm (α:=Nat×Nat) (fun q env S'=>env=E_sr t xs a m c (.fn f [] cs) mid nn (P.length+q.1) (P.length+q.2) (nn-1)∧l0≤q.1∧q.1≤q.2∧q.2≤h0∧S'=S∧(q.1=l0∨∃x y,X[q.1-1]? = some x∧Y[hN-q.1]? = some y∧leZ cz x y)∧(q.2=h0∨∃x y,X[q.2]? = some x∧Y[hN-1-q.2]? = some y∧leZ cz y x)) (fun q=>q.2-q.1) ?_
  (a:=(l0,h0)) ⟨by rw [hlo,hhi],Nat.le_refl _,by simp only;omega,Nat.le_refl _,rfl,.inl rfl,.inl rfl⟩
 rintro⟨i,j⟩ env S' ⟨rfl,i0,hij0,j0,rfl,q1,q2⟩
 simp only at i0 hij0 j0 q1 q2
 refine goW ?_
 by_cases hij:((P.length+i:Nat):Int)<((P.length+j:Nat):Int)
 ·rw [dT hij]
  obtain⟨r,hr⟩:∃r,r=(i+j) / 2:=⟨_,rfl⟩
  have hri:i≤r:=by omega
  have hrj:r<j:=by omega
  have hrX:r<X.length:=by omega
  have hrY:hN-1-r<Y.length:=by omega
  have g0:(P++(X++(Y++Q)))[P.length+r]? = some X[r]:=by
   rw [List.getElem?_append_right (by omega),show P.length+r-P.length=r by omega,List.getElem?_append_left hrX]
   exact gE hrX
  have g1:(P++(X++(Y++Q)))[P.length+X.length+(hN-1-r)]? = some Y[hN-1-r]:=by
   rw [←aA,List.getElem?_append_right (by rw [lA];omega),show P.length+X.length+(hN-1-r)-(P++X).length=hN-1-r by rw [lA];omega,List.getElem?_append_left hrY]
   exact gE hrY
  have hcall:=hc S' _ Y[hN-1-r] X[r] hA (hn _ (List.mem_append_right _ (List.getElem_mem hrY))) (hn _ (List.mem_append_left _ (List.getElem_mem hrX)))
  have e0:X[r]? = some X[r]:=gE hrX
  have e1:Y[hN-1-r]? = some Y[hN-1-r]:=gE hrY
  generalize Y[hN-1-r]=y at g1 hcall e1
  generalize X[r]=x at g0 hcall e0
  have w1:wr .i64 (((nn-1:Nat):Int)-((P.length+r:Nat):Int))=((P.length+X.length+(hN-1-r):Nat):Int):=by rw [wr64 (by omega) (by omega)];omega
  refine goW ?_
  rw [midW (by omega),show (P.length+i+(P.length+j)) / 2=P.length+r by omega]
  refine goW ?_
  rw [w1]
  refine step_ruleDO rfl rfl (sx_ia (k:=P.length+X.length+(hN-1-r)) rfl rfl (by omega)) (goW ?_)
  refine step_ruleDO rfl rfl (sx_ldEl (agg:=false) rfl (hA.els hx) (ints_get g1) rfl) (goW ?_)
  refine step_ruleDO rfl rfl (sx_ia (k:=P.length+r) rfl rfl (by omega)) (goW ?_)
  refine step_ruleDO rfl rfl (sx_ldEl (agg:=false) rfl (hA.els hx) (ints_get g0) rfl) (goW ?_)
  refine call_ruleD (by rfl) (hm _ _ _ _ _ hcall ?_)
  rintro r' S3 ⟨rfl,rfl⟩
  refine goW ?_
  by_cases hlt:cz y x<0
  ·rw [dT hlt]
   refine goW ?_
   refine⟨(i,r),⟨rfl,i0,hri,by simp only;omega,rfl,q1,.inr ⟨x,y,e0,e1,hz.asy hlt⟩⟩,by simp only;omega⟩
  ·rw [dF hlt]
   refine goW ?_
   refine⟨(r+1,j),⟨?_,by simp only;omega,by simp only;omega,j0,rfl,.inr ⟨x,y,e0,?_,by unfold leZ;omega⟩,q2⟩,by simp only;omega⟩
   ·rw [wrNat (by omega)]
    try rfl
   ·rw [show hN-(r+1)=hN-1-r by omega];exact e1
 ·rw [dF hij]
  obtain rfl:i=j:=by omega
  have iX:i≤X.length:=by omega
  have tY:hN-i≤Y.length:=by omega
  have tA:(X.take i).length=i:=by rw [lT];omega
  have tB:(X.drop i).length=X.length-i:=lD
  have tV:(Y.take (hN-i)).length=hN-i:=by rw [lT];omega
  have tD:(Y.drop (hN-i)).length=Y.length-(hN-i):=lD
  have hX:X.take i++X.drop i=X:=tkD _ _
  have hY:Y.take (hN-i)++Y.drop (hN-i)=Y:=tkD _ _
  have sX':=sX
  have sY':=sY
  rw [←hX] at sX'
  rw [←hY] at sY'
  obtain⟨sA,sB,sAB⟩:=srt_app.1 sX'
  obtain⟨sV,sD,sVD⟩:=srt_app.1 sY'
  have sAD:∀u∈X.take i,∀v∈Y.drop (hN-i),leZ cz u v:=ends_le (le:=leZ cz) (fun h h'=>hz.tr h h') sA sD (fun u v e1 e2=>by
   rw [tA] at e1
   rcases q1 with q1 | ⟨x,y,f1,f2,f3⟩
   ·exfalso
    rcases rng with rng | rng
    ·rw [show i=0 by omega] at e1;simp at e1
    ·rw [List.getElem?_eq_none (show (Y.drop (hN-i)).length≤0 by rw [tD];omega)] at e2;cases e2
   ·rw [List.getElem?_drop,Nat.add_zero,f2] at e2
    have:i≠0:=fun h=>by rw [h] at e1;simp at e1
    rw [List.getElem?_take_of_lt (by omega),f1] at e1
    cases e1;cases e2;exact f3) (fun a=>hz.rf a)
  have sVB:∀u∈Y.take (hN-i),∀v∈X.drop i,leZ cz u v:=ends_le (le:=leZ cz) (fun h h'=>hz.tr h h') sV sB (fun u v e1 e2=>by
   rw [tV] at e1
   rcases q2 with q2 | ⟨x,y,f1,f2,f3⟩
   ·exfalso
    rcases rng with rng | rng
    ·rw [List.getElem?_eq_none (show (X.drop i).length≤0 by rw [tB];omega)] at e2;cases e2
    ·rw [show hN-i=0 by omega] at e1;simp at e1
   ·rw [List.getElem?_drop,Nat.add_zero,f1] at e2
    have:hN-i≠0:=fun h=>by rw [h] at e1;simp at e1
    rw [List.getElem?_take_of_lt (by omega),show hN-i-1=hN-1-i by omega,f2] at e1
    cases e1;cases e2;exact f3) (fun a=>hz.rf a)
  have mo:∀S' Z1 Z2,Z1.Perm (X.take i++Y.take (hN-i))→Srt (leZ cz) Z1→Z2.Perm (X.drop i++Y.drop (hN-i))→Srt (leZ cz) Z2→ArS S' R ty t b (P++((Z1++Z2)++Q))→G S':=fun S' Z1 Z2 p1 z1 p2 z2 hA=>by
   obtain⟨m1,m2⟩:=merge_ok z1 z2 p1 p2 sAB sAD sVB sVD
   rw [hX,hY] at m2
   exact fin S' _ m2 m1 hA
  have hn':∀x∈(X.take i++Y.take (hN-i))++(X.drop i++Y.drop (hN-i)),x<n:=fun x hx=>hn x (by
   rw [aA,List.mem_append,List.mem_append,List.mem_append] at hx
   rw [List.mem_append]
   rcases hx with h | h | h | h
   ·exact .inl (List.mem_of_mem_take h)
   ·exact .inr (List.mem_of_mem_take h)
   ·exact .inl (List.mem_of_mem_drop h)
   ·exact .inr (List.mem_of_mem_drop h))
  have hl2:P++(X++(Y++Q))=P++(X.take i++(X.drop i++(Y.take (hN-i)++(Y.drop (hN-i)++Q)))):=by
   rw [←aA (X.take i),hX,←aA (Y.take (hN-i)),hY]
  rw [hl2] at hx hl hA
  have w1:wr .i64 ((nn:Int)-((P.length+i:Nat):Int))=((mid+(X.length-i):Nat):Int):=by rw [wr64 (by omega) (by omega)];omega
  have next:=mrgRot_wp (gt:=gt) (z:=[]) hm ih hr (a:=a) (m:=m) (mid:=mid) (s:=P.length+i) (e:=mid+(X.length-i)) (c:=c) ha (by rw [tA,tB];omega) (by rw [tA,tV];omega) (by rw [tA]) (by rw [tB]) (by rw [tD];omega) (fun _ _=>by rw [tA,tV];omega) (fun _ _=>by rw [tB,tD];omega) hn' sA sV sB sD hx hl hA mo
  clear mo hn' sAD sVB sAB sVD
  conv=>whnf
  refine sI (by rfl) ?_
  conv=>whnf
  refine sI (by rfl) ?_
  conv=>whnf
  refine sI (by rfl) ?_
  conv=>whnf
  refine sI (by rfl) ?_
  conv=>whnf
  rw [w1]
  refine goK ?_
  with_unfolding_all exact next
end
end Go.Dn

namespace Go.Dn
open Go
theorem goJ {G G':Prop} (k:G') (h:G'→G:=by
 intro hk;((try refine And.intro (by rfl) ?_);(conv=>whnf);(repeat (refine sI (by rfl) ?_;conv=>whnf));(generalize hE:keepE _ _=e0;revert hE;apply kI;(repeat (first | exact kN _ | (apply kC;with_unfolding_all rfl;rfl)));rintro rfl));exact hk):G:=h k
end Go.Dn

namespace Go.Dn
open Go Go.Proofs.C1
set_option maxRecDepth 100000
attribute [local irreducible] afterS keepE
section
variable {gt:GT} {C:CallT} {R:List Rs} {ty:TypeId} {t b:Nat}
set_option maxHeartbeats 8000000 in
theorem mrg3_wp (hm:MonoC C) {f:FuncId} {cs:List AV} {n k:Nat} {cz:Nat→Nat→Int} (hz:Cz cz) (hc:CmpC C f cs R ty t b n cz) (ih:MrgC C R ty t b n (.fn f [] cs) cz k) (hr:RotC C R ty t b (.fn f [] cs)) {S:St} {xs:List AV} {P X Y Q:List Nat} {a m c:Nat}
  (ha:a=P.length) (hmm:m=P.length+X.length) (hcc:c=P.length+X.length+Y.length) (hX:2≤X.length) (hY:2≤Y.length) (hk:X.length+Y.length≤k+1) (hn:∀x∈X++Y,x<n) (sX:Srt (leZ cz) X) (sY:Srt (leZ cz) Y)
  (hx:xs.length=(P++(X++(Y++Q))).length) (hl:(P++(X++(Y++Q))).length<1152921504606846976) (hA:ArS S R ty t b (P++(X++(Y++Q)))) :
  wpF gt C F138 [slA t xs.length xs,.int .i64 a,.int .i64 m,.int .i64 c,.fn f [] cs] S fun r S'=>r=.ret (.tup [])∧∃Z,Z.Perm (X++Y)∧Srt (leZ cz) Z∧ArS S' R ty t b (P++(Z++Q)):=by
 have hlen:(P++(X++(Y++Q))).length=P.length+(X.length+(Y.length+Q.length)):=by simp only [lA]
 have hl':=hl
 rw [hlen] at hl'
 obtain⟨hN,hNe⟩:∃h,h=(X.length+Y.length) / 2:=⟨_,rfl⟩
 have w1:wr .i64 ((m:Int)-(a:Int))=(X.length:Int):=by rw [wr64 (by omega) (by omega)];omega
 have w2:wr .i64 ((c:Int)-(m:Int))=(Y.length:Int):=by rw [wr64 (by omega) (by omega)];omega
 have w3:wr .i64 (((P.length+hN:Nat):Int)+(m:Int))=((P.length+hN+m:Nat):Int):=by rw [wr64 (by omega) (by omega)];omega
 have next:∀(l0 h0 lo hi:Nat) (z:Env),lo=P.length+l0→hi=P.length+h0→((l0=0∧h0=X.length∧X.length≤hN∧hN≤Y.length)∨(l0+Y.length=hN∧h0=hN∧hN≤X.length))→_:=fun l0 h0 lo hi z e1 e2 e3 =>
  mrgSeek_wp (gt:=gt) (z:=z) (G:=fun S'=>∃Z,Z.Perm (X++Y)∧Srt (leZ cz) Z∧ArS S' R ty t b (P++(Z++Q))) hm hz hc ih hr (a:=a) (m:=m) (c:=c) (mid:=P.length+hN) (nn:=P.length+hN+m) ha hmm hcc rfl rfl e1 e2 e3 (by omega) (by omega) hn sX sY (by omega) hx hl hA (fun S' Z p s h=>⟨Z,p,s,h⟩)
 refine⟨rfl,?_⟩
 refine goW ?_
 rw [w1,eqI_false (show ¬(X.length:Int)=1 by omega)]
 refine goW ?_
 rw [w2,eqI_false (show ¬(Y.length:Int)=1 by omega)]
 refine goW ?_
 rw [midW (by omega),show (a+c) / 2=P.length+hN by omega]
 refine goW ?_
 rw [w3]
 by_cases hc1:(m:Int) > ((P.length+hN:Nat):Int)
 ·rw [dT hc1]
  have next:=next (hN-Y.length) hN (P.length+hN+m-c) (P.length+hN) [] (by omega) rfl (.inr (by omega))
  have w4:wr .i64 (((P.length+hN+m:Nat):Int)-(c:Int))=((P.length+hN+m-c:Nat):Int):=by rw [wr64 (by omega) (by omega)];omega
  refine goJ ?_
  refine goJ ?_
  rw [w4]
  with_unfolding_all exact next
 ·rw [dF hc1]
  have next:=next 0 X.length a m [] (by omega) hmm (.inl (by omega))
  refine goJ ?_
  refine goJ ?_
  with_unfolding_all exact next
end

section
variable {gt:GT} {C:CallT} {R:List Rs} {ty:TypeId} {t b:Nat}
theorem mrgC (hm:MonoC C) (hI:∀us S Q,wpF gt C F138 us S Q→C 138 us S Q) {f:FuncId} {cs:List AV} {n:Nat} {cz:Nat→Nat→Int} (hz:Cz cz) (hc:CmpC C f cs R ty t b n cz) (hr:RotC C R ty t b (.fn f [] cs)):∀k,MrgC C R ty t b n (.fn f [] cs) cz k
 | 0=>fun S xs P X Y Q a m c hk _ _ _ hX hY=>by
  exfalso
  have:=List.length_pos_iff.2 hX
  omega
 | k+1=>fun S xs P X Y Q a m c hk ha hmm hcc hX hY hn sX sY hx hl hA=>hI _ _ _ (by
  have lX:=List.length_pos_iff.2 hX
  have lY:=List.length_pos_iff.2 hY
  by_cases c1:X.length=1
  ·obtain⟨x,rfl⟩:=List.length_eq_one_iff.1 c1
   have:=mrg1_wp (gt:=gt) hm hz hc (P:=P) (Y:=Y) (Q:=Q) (x:=x) (S:=S) (xs:=xs) (fun y hy=>hn y (List.mem_append_right _ hy)) (hn x (by simp)) sY hx hl hA
   rw [ha,hmm,hcc]
   exact this
  ·by_cases c2:Y.length=1
   ·obtain⟨y,rfl⟩:=List.length_eq_one_iff.1 c2
    have:=mrg2_wp (gt:=gt) hm hz hc (P:=P) (Y:=X) (Q:=Q) (x:=y) (S:=S) (xs:=xs) (fun x hx=>hn x (List.mem_append_left _ hx)) (hn y (by simp)) sX (by omega) hx hl hA
    rw [ha,hmm,hcc]
    exact this
   ·exact mrg3_wp hm hz hc (mrgC hm hI hz hc hr k) hr ha hmm hcc (by omega) (by omega) hk hn sX sY hx hl hA)
def StbC (C:CallT) (R:List Rs) (ty:TypeId) (t b n:Nat) (g:AV) (cz:Nat→Nat→Int) (h:FuncId) (ar:List AV→List AV):Prop :=
 ∀(S:St) (xs:List AV) (L:List Nat),(∀x∈L,x<n)→xs.length=L.length→L.length<1152921504606846976→ArS S R ty t b L →
  C h (ar xs) S fun r S'=>r=.ret (.tup [])∧∃Z,Z.Perm L∧Srt (leZ cz) Z∧ArS S' R ty t b Z
abbrev E_s1 (t:Nat) (xs:List AV) (g:AV) (bs a c:Nat):Env:=[(0,.val (slA t xs.length xs)),(1,.val (.int .i64 xs.length)),(2,.val g),(6,.val (.int .i64 bs)),(7,.val (.int .i64 a)),(8,.val (.int .i64 c))]
abbrev E_s2 (t:Nat) (xs:List AV) (g:AV) (bs:Nat):Env:=[(0,.val (slA t xs.length xs)),(1,.val (.int .i64 xs.length)),(2,.val g),(6,.val (.int .i64 bs))]
theorem take_drop2 (u:List Nat) (k:Nat):u.take k++((u.drop k).take k++u.drop (2*k))=u:=by
 rw [show u.drop (2*k)=(u.drop k).drop k by rw [List.drop_drop];congr 1;omega,tkD,tkD]
set_option maxHeartbeats 8000000 in
theorem stb_wp (hm:MonoC C) {f:FuncId} {cs:List AV} {n:Nat} {cz:Nat→Nat→Int} (hi:InsC C R ty t b n (.fn f [] cs) cz) (hg:∀k,MrgC C R ty t b n (.fn f [] cs) cz k) {S:St} {xs:List AV} {L:List Nat} (hn:∀x∈L,x<n) (hx:xs.length=L.length) (hl:L.length<1152921504606846976) (hA:ArS S R ty t b L) :
  wpF gt C F115 [slA t xs.length xs,.int .i64 xs.length,.fn f [] cs] S fun r S'=>r=.ret (.tup [])∧∃Z,Z.Perm L∧Srt (leZ cz) Z∧ArS S' R ty t b Z:=by
 refine⟨rfl,?_⟩
 refine goW ?_
 refine loop_rule hm (α:=List Nat×List Nat) (fun q env S'=>env=E_s1 t xs (.fn f [] cs) 20 q.1.length (q.1.length+20)∧(q.1++q.2).Perm L∧Blk (leZ cz) 20 q.1∧q.1.length % 20=0∧ArS S' R ty t b (q.1++q.2)) (fun q=>q.2.length) ?_ (a:=([],L)) ⟨rfl,List.Perm.refl _,Blk.nil,rfl,hA⟩
 rintro⟨d,u⟩ env S1 ⟨rfl,hp,hb,hd,hA⟩
 simp only at hp hb hd hA
 have pl:=hp.length_eq
 rw [lA] at pl
 have hun:∀x∈u,x<n:=fun x hx=>hn x (hp.mem_iff.1 (List.mem_append_right _ hx))
 refine goW ?_
 by_cases c1:((d.length+20:Nat):Int)≤(xs.length:Int)
 ·rw [dT c1]
  have ht:(u.take 20).length=20:=by rw [lT];omega
  have hA':ArS S1 R ty t b (d++(u.take 20++u.drop 20)):=by rw [tkD];exact hA
  refine goW ?_
  refine call_rule (by rfl) (hm _ _ _ _ _ (hi S1 xs d (u.take 20) (u.drop 20) d.length (d.length+20) rfl (by rw [ht]) (fun x hx=>hun x (List.mem_of_mem_take hx)) (by rw [tkD,lA];omega) (by rw [tkD,lA];omega) hA') ?_)
  rintro r S2 ⟨rfl,Z,z1,z2,z3⟩
  have zl:=z1.length_eq
  rw [ht] at zl
  refine goW ?_
  refine⟨(d++Z,u.drop 20),⟨?_,?_,hb.app (by omega) hd (Blk.of z2),by rw [lA,zl];omega,by rw [aA];exact z3⟩,by simp only [lD];omega⟩
  ·simp only [E_s1]
   rw [show wr .i64 (((d.length+20:Nat):Int)+((20:Nat):Int))=((d.length+20+20:Nat):Int) by rw [wr64 (by omega) (by omega)];omega,lA,zl]
  ·refine List.Perm.trans ?_ hp
   simp only
   rw [aA]
   refine List.Perm.append_left d ?_
   have:=List.Perm.append_right (u.drop 20) z1
   rw [tkD] at this
   exact this
 ·rw [dF c1]
  have hA':ArS S1 R ty t b (d++(u++[])):=by rw [List.append_nil];exact hA
  refine goW ?_
  refine call_rule (by rfl) (hm _ _ _ _ _ (hi S1 xs d u [] d.length xs.length rfl (by omega) hun (by rw [List.append_nil,lA];omega) (by rw [List.append_nil,lA];omega) hA') ?_)
  rintro r S2 ⟨rfl,Z,z1,z2,z3⟩
  have zl:=z1.length_eq
  refine goW ?_
  have hp2:(d++Z).Perm L:=(List.Perm.append_left d z1).trans hp
  have hb2:Blk (leZ cz) 20 (d++Z):=hb.app (by omega) hd (Blk.of z2)
  rw [List.append_nil] at z3
  generalize d++Z=D at hp2 hb2 z3
  clear hp hb hd hA hA' pl hun c1 z1 z2 zl
  refine loop_rule hm (α:=List Nat×Nat) (fun q env S'=>env=E_s2 t xs (.fn f [] cs) q.2∧q.1.Perm L∧0<q.2∧q.2<2305843009213693952∧Blk (leZ cz) q.2 q.1∧ArS S' R ty t b q.1) (fun q=>xs.length-q.2) ?_ (a:=(D,20)) ⟨rfl,hp2,by simp only;omega,by simp only;omega,hb2,z3⟩
  clear hp2 hb2 z3 D Z
  rintro⟨D,bs⟩ env S3 ⟨rfl,hp,b0,b1,hb,hA⟩
  simp only at hp b0 b1 hb hA
  refine goW ?_
  by_cases c2:(bs:Int)<(xs.length:Int)
  ·rw [dT c2]
   refine goW ?_
   have w2:wr .i64 (2*(bs:Int))=((2*bs:Nat):Int):=by rw [wr64 (by omega) (by omega)];omega
   rw [w2]
   refine loop_rule hm (α:=List Nat×List Nat) (fun q env S'=>env=E_s1 t xs (.fn f [] cs) bs q.1.length (q.1.length+2*bs)∧(q.1++q.2).Perm L∧Blk (leZ cz) (2*bs) q.1∧q.1.length % (2*bs)=0∧Blk (leZ cz) bs q.2∧ArS S' R ty t b (q.1++q.2)) (fun q=>q.2.length) ?_ (a:=([],D)) ⟨by simp [E_s1],hp,Blk.nil,by simp,hb,hA⟩
   clear hp hb hA
   rintro⟨d,u⟩ env S4 ⟨rfl,hp,hd,hdl,hb,hA⟩
   simp only at hp hd hdl hb hA
   have pl:=hp.length_eq
   rw [lA] at pl
   have hun:∀x∈u,x<n:=fun x hx=>hn x (hp.mem_iff.1 (List.mem_append_right _ hx))
   refine goW ?_
   by_cases c3:((d.length+2*bs:Nat):Int)≤(xs.length:Int)
   ·rw [dT c3]
    have ht:(u.take bs).length=bs:=by rw [lT];omega
    have ht2:((u.drop bs).take bs).length=bs:=by rw [lT,lD];omega
    have h3:=take_drop2 u bs
    have hA':ArS S4 R ty t b (d++(u.take bs++((u.drop bs).take bs++u.drop (2*bs)))):=by rw [h3];exact hA
    rw [←h3] at hb
    have b1':Blk (leZ cz) bs (u.take bs):=Blk.take hb
    have b2':=Blk.drop hb b0 (by rw [ht];exact Nat.mod_self _)
    have b3':=Blk.drop b2' b0 (by rw [ht2];exact Nat.mod_self _)
    have w3:wr .i64 ((d.length:Int)+(bs:Int))=((d.length+bs:Nat):Int):=by rw [wr64 (by omega) (by omega)];omega
    have w4:wr .i64 (((d.length+2*bs:Nat):Int)+((2*bs:Nat):Int))=((d.length+2*bs+2*bs:Nat):Int):=by rw [wr64 (by omega) (by omega)];omega
    have hcall:=hg (bs+bs) S4 xs d (u.take bs) ((u.drop bs).take bs) (u.drop (2*bs)) d.length (d.length+bs) (d.length+2*bs) (by rw [ht,ht2];omega) rfl (by rw [ht]) (by rw [ht,ht2];omega) (fun h=>by rw [h] at ht;simp at ht;omega) (fun h=>by rw [h] at ht2;simp at ht2;omega) (fun x hx=>hun x (by rw [←h3];simp only [List.mem_append] at hx ⊢;rcases hx with h | h;exact .inl h;exact .inr (.inl h))) (b1'.srt (by omega)) (b2'.take.srt (by omega)) (by rw [h3,lA];omega) (by rw [h3,lA];omega) hA'
    refine goW ?_
    rw [w3]
    refine call_rule (by rfl) (hm _ _ _ _ _ hcall ?_)
    rintro r S5 ⟨rfl,Z,z1,z2,z3⟩
    have zl:=z1.length_eq
    rw [lA,ht,ht2] at zl
    refine goW ?_
    rw [w2,w4]
    refine⟨(d++Z,u.drop (2*bs)),⟨?_,?_,hd.app (by omega) hdl (Blk.of z2),?_,b3',by rw [aA];exact z3⟩,by simp only [lD];omega⟩
    ·rw [lA,zl]
     simp only [E_s1]
     rw [show d.length+(bs+bs)=d.length+2*bs by omega]
    ·refine List.Perm.trans ?_ hp
     simp only
     rw [aA]
     refine List.Perm.append_left d ?_
     have:=List.Perm.append_right (u.drop (2*bs)) z1
     rw [aA,h3] at this
     exact this
    ·simp only
     rw [lA,zl,show bs+bs=2*bs by omega,Nat.add_mod_right];exact hdl
   ·rw [dF c3]
    have w3:wr .i64 ((d.length:Int)+(bs:Int))=((d.length+bs:Nat):Int):=by rw [wr64 (by omega) (by omega)];omega
    have w4:wr .i64 ((bs:Int)*2)=((bs*2:Nat):Int):=by rw [wr64 (by omega) (by omega)];omega
    refine goW ?_
    rw [w3]
    by_cases c4:((d.length+bs:Nat):Int)<(xs.length:Int)
    ·rw [dT c4]
     have ht:(u.take bs).length=bs:=by rw [lT];omega
     have ht2:(u.drop bs).length=u.length-bs:=lD
     have h3:u.take bs++(u.drop bs++[])=u:=by rw [List.append_nil,tkD]
     have hA':ArS S4 R ty t b (d++(u.take bs++(u.drop bs++[]))):=by rw [h3];exact hA
     rw [←tkD bs u] at hb
     have b1':Blk (leZ cz) bs (u.take bs):=Blk.take hb
     have b2':=Blk.drop hb b0 (by rw [ht];exact Nat.mod_self _)
     have hcall:=hg u.length S4 xs d (u.take bs) (u.drop bs) [] d.length (d.length+bs) xs.length (by rw [ht,ht2];omega) rfl (by rw [ht]) (by rw [ht,ht2];omega) (fun h=>by rw [h] at ht;simp at ht;omega) (fun h=>by rw [h] at ht2;simp at ht2;omega) (fun x hx=>hun x (by rw [tkD] at hx;exact hx)) (b1'.srt (by omega)) (b2'.srt (by omega)) (by rw [h3,lA];omega) (by rw [h3,lA];omega) hA'
     refine goW ?_
     refine call_rule (by rfl) (hm _ _ _ _ _ hcall ?_)
     rintro r S5 ⟨rfl,Z,z1,z2,z3⟩
     rw [tkD] at z1
     rw [List.append_nil] at z3
     refine goW ?_
     rw [w4]
     refine⟨(d++Z,2*bs),⟨by simp only [E_s2];rw [Nat.mul_comm],(List.Perm.append_left d z1).trans hp,by simp only;omega,by simp only;omega,hd.app (by omega) hdl (Blk.of z2),z3⟩,by simp only;omega⟩
    ·rw [dF c4]
     refine goW ?_
     rw [w4]
     refine⟨(d++u,2*bs),⟨by simp only [E_s2];rw [Nat.mul_comm],hp,by simp only;omega,by simp only;omega,hd.app (by omega) hdl (Blk.of (hb.srt (by omega))),hA⟩,by simp only;omega⟩
  ·rw [dF c2]
   refine goW ?_
   have pl:=hp.length_eq
   exact⟨_,rfl,rfl,D,hp,hb.srt (by omega),hA⟩
end
end Go.Dn

namespace Go.Dn
open Go Go.Proofs.C1
theorem cmpB_cons (a b:UInt8) (x y:List UInt8):cmpB (a::x) (b::y)=if a.toNat=b.toNat then cmpB x y else if a.toNat<b.toNat then -1 else 1:=by
 rw [cmpB]
 by_cases h:a.toNat=b.toNat
 ·rw [if_pos h,h,Nat.beq_refl];rfl
 ·have:Nat.beq a.toNat b.toNat=false:=by
   cases q:Nat.beq a.toNat b.toNat with
   | false=>rfl
   | true=>exact absurd (bE q) h
  rw [if_neg h,this]
  by_cases k:a.toNat<b.toNat
  ·rw [if_pos k,show Nat.blt a.toNat b.toNat=true from Nat.ble_eq_true_of_le k];rfl
  ·have:Nat.blt a.toNat b.toNat=false:=by
    cases q:Nat.blt a.toNat b.toNat with
    | false=>rfl
    | true=>exact absurd (Nat.le_of_ble_eq_true q) k
   rw [if_neg k,this];rfl
theorem cmpB_self:∀a:List UInt8,cmpB a a=0
 | []=>rfl
 | a::x=>by rw [cmpB_cons,if_pos rfl];exact cmpB_self x
theorem cmpB_anti:∀a b:List UInt8,cmpB b a=- cmpB a b
 | [],[]=>rfl
 | [],_::_=>rfl
 | _::_,[]=>rfl
 | a::x,b::y=>by
  rw [cmpB_cons,cmpB_cons]
  by_cases h:a.toNat=b.toNat
  ·rw [if_pos h,if_pos h.symm];exact cmpB_anti x y
  ·rw [if_neg h,if_neg (fun e=>h e.symm)]
   by_cases k:a.toNat<b.toNat
   ·rw [if_pos k,if_neg (by omega)];rfl
   ·rw [if_neg k,if_pos (by omega)]
theorem cmpB_zero:∀{a b:List UInt8},cmpB a b=0→a=b
 | [],[],_=>rfl
 | [],_::_,h=>by rw [show cmpB [] (_::_)=-1 from rfl] at h;exact absurd h (by decide)
 | _::_,[],h=>by rw [show cmpB (_::_) []=1 from rfl] at h;exact absurd h (by decide)
 | a::x,b::y,h=>by
  rw [cmpB_cons] at h
  by_cases e:a.toNat=b.toNat
  ·rw [if_pos e] at h
   rw [cmpB_zero h,UInt8.toNat_inj.1 e]
  ·rw [if_neg e] at h
   by_cases k:a.toNat<b.toNat
   ·rw [if_pos k] at h;cases h
   ·rw [if_neg k] at h;cases h
theorem cmpB_tr:∀{a b c:List UInt8},0≤cmpB b a→0≤cmpB c b→0≤cmpB c a
 | [],_,[],_,_=>by decide
 | [],_,_::_,_,_=>by rw [show cmpB (_::_) []=1 from rfl];decide
 | _::_,[],_,h,_=>absurd h (by rw [show cmpB [] (_::_)=-1 from rfl];decide)
 | _::_,_::_,[],_,h=>absurd h (by rw [show cmpB [] (_::_)=-1 from rfl];decide)
 | a::x,b::y,c::z,h,k=>by
  rw [cmpB_cons] at h k ⊢
  by_cases e:b.toNat=a.toNat
  ·rw [if_pos e] at h
   by_cases e2:c.toNat=b.toNat
   ·rw [if_pos e2] at k
    rw [if_pos (by omega)]
    exact cmpB_tr h k
   ·rw [if_neg e2] at k
    rw [if_neg (by omega)]
    by_cases l:c.toNat<b.toNat
    ·rw [if_pos l] at k;exact absurd k (by decide)
    ·rw [if_neg (by omega)];decide
  ·rw [if_neg e] at h
   by_cases l:b.toNat<a.toNat
   ·rw [if_pos l] at h;exact absurd h (by decide)
   ·by_cases e2:c.toNat=b.toNat
    ·rw [if_neg (by omega),if_neg (by omega)];decide
    ·rw [if_neg e2] at k
     by_cases l2:c.toNat<b.toNat
     ·rw [if_pos l2] at k;exact absurd k (by decide)
     ·rw [if_neg (by omega),if_neg (by omega)];decide
def czK (keys:List (List UInt8)) (i j:Nat):Int:=cmpB (keys.getD i []) (keys.getD j [])
theorem czK_cz (keys:List (List UInt8)):Cz (czK keys) where
 rf a:=by unfold czK;rw [cmpB_self];exact Int.le_refl 0
 tr h k:=cmpB_tr h k
 asy {a b} h:=by
  unfold czK at h ⊢
  rw [cmpB_anti];omega
def ordK (keys:List (List UInt8)):List Nat:=(List.range keys.length).mergeSort fun i j=>decide (0≤czK keys j i)
theorem ordK_perm (keys:List (List UInt8)):(ordK keys).Perm (List.range keys.length):=List.mergeSort_perm _ _
theorem ordK_srt (keys:List (List UInt8)):Srt (leZ (czK keys)) (ordK keys):=by
 have:=List.pairwise_mergeSort (le:=fun i j=>decide (0≤czK keys j i)) (fun a b c h k=>by
  simp only [decide_eq_true_eq] at h k ⊢
  exact (czK_cz keys).tr h k) (fun a b=>by
  simp only [Bool.or_eq_true,decide_eq_true_eq]
  rcases Int.lt_or_le (czK keys b a) 0 with q | q
  ·exact .inr ((czK_cz keys).asy q)
  ·exact .inl q) (List.range keys.length)
 exact this.imp fun h=>of_decide_eq_true h
theorem ordK_len (keys:List (List UInt8)):(ordK keys).length=keys.length:=by rw [(ordK_perm keys).length_eq,List.length_range]
theorem ordK_lt {keys:List (List UInt8)} {i:Nat} (h:i∈ordK keys):i<keys.length:=List.mem_range.1 ((ordK_perm keys).mem_iff.1 h)
theorem ordK_uniq {keys:List (List UInt8)} (hd:keys.Nodup) {Z:List Nat} (hp:Z.Perm (List.range keys.length)) (hs:Srt (leZ (czK keys)) Z):Z=ordK keys:=by
 refine List.Perm.eq_of_pairwise (fun a b ha hb h k=>?_) hs (ordK_srt keys) (hp.trans (ordK_perm keys).symm)
 have la:=List.mem_range.1 (hp.mem_iff.1 ha)
 have lb:=ordK_lt hb
 unfold leZ czK at h k
 rw [cmpB_anti] at h
 have:=cmpB_zero (a:=keys.getD a []) (b:=keys.getD b []) (by omega)
 rw [List.getD_eq_getElem?_getD,List.getD_eq_getElem?_getD,gE la,gE lb] at this
 exact (List.getElem_inj hd).1 this
end Go.Dn

namespace Go.Dn
open Go Go.Proofs.C1
set_option maxRecDepth 100000
attribute [local irreducible] afterS keepE
theorem sx_ldBx {gt:GT} {d:Option Nat} {env:Env} {S:St} {R:List Rs} (h:Hs S R) (i:Nat) {id:Nat} {ty:TypeId} {v:AV} (hi:R[i]? = some (.bx id ty [v])) (hn:notAgg v=true) {a:DOpd} (ha:loc env a=some (.hp id 0)) :
  stepO gt d env S (.ld false 1 a)=.done (putV d v env) S:=by
 have hb:=(h.ok i _ hi).2
 have:ldL gt env S false 1 (.hp id 0)=some v:=by
  simp only [ldL,ldC,hb,cut]
  show mkv false [v]=some v
  simp only [mkv,hn,cond_true,cond_false]
 simp only [stepO,ha,this,SR.val]
section
variable {gt:GT} {C:CallT}
theorem cmpS_wp {a c:List UInt8}:wpF gt C F116 [.str a,.str c] St.init (Ret (.int .i64 (cmpB a c))):=by
 refine⟨rfl,?_⟩
 refine goW ?_
 exact⟨_,rfl,Ret.sta trivial⟩
theorem compare_wp (hm:MonoC C) (h:∀a c,PF C 116 [.str a,.str c] (.int .i64 (cmpB a c))) {a c:List UInt8}:wpF gt C F91 [.str a,.str c] St.init (Ret (.int .i64 (cmpB a c))):=by
 refine⟨rfl,?_⟩
 refine goW ?_
 refine call_pf hm (by rfl) (h a c) (goW ?_)
 exact⟨_,rfl,Ret.sta trivial⟩
abbrev R_k (keys:List (List UInt8)):List Rs:=[.bx 0 45 [.sl 1 stat (strs keys)]]
set_option maxHeartbeats 2000000 in
theorem ord1_wp (hm:MonoC C) (h:∀a c,PF C 91 [.str a,.str c] (.int .i64 (cmpB a c))) {keys:List (List UInt8)} {S:St} {ty:TypeId} {t b:Nat} {l:List Nat} {i j:Nat} (hA:ArS S (R_k keys) ty t b l) (hi:i<keys.length) (hj:j<keys.length) :
  wpF gt C F90 [.int .i64 i,.int .i64 j,.ptr 0 0] S fun r S'=>r=.ret (.int .i64 (czK keys i j))∧S'=S:=by
 have ei:keys.getD i []=keys[i]:=by rw [List.getD_eq_getElem?_getD,gE hi];rfl
 have ej:keys.getD j []=keys[j]:=by rw [List.getD_eq_getElem?_getD,gE hj];rfl
 unfold czK
 rw [ei,ej]
 have si:=strs_at hi
 have sj:=strs_at hj
 generalize keys[i]=x at si
 generalize keys[j]=y at sj
 have li:i<(strs keys).length:=by rw [strs_length];exact hi
 have lj:j<(strs keys).length:=by rw [strs_length];exact hj
 refine⟨rfl,?_⟩
 refine goW ?_
 refine step_ruleDO rfl rfl (sx_ldBx hA 0 rfl rfl rfl) (goW ?_)
 refine step_ruleDO rfl rfl (sx_ia (k:=i) rfl rfl li) (goW ?_)
 refine step_ruleDO rfl rfl (sx_ldEl (agg:=false) rfl rfl si rfl) (goW ?_)
 refine step_ruleDO rfl rfl (sx_ldBx hA 0 rfl rfl rfl) (goW ?_)
 refine step_ruleDO rfl rfl (sx_ia (k:=j) rfl rfl lj) (goW ?_)
 refine step_ruleDO rfl rfl (sx_ldEl (agg:=false) rfl rfl sj rfl) (goW ?_)
 refine call_pfD hm (by rfl) (h x y) (goW ?_)
 exact⟨_,rfl,rfl,rfl⟩
def SstC (C:CallT) (R:List Rs) (ty:TypeId) (t b n:Nat) (g:AV) (cz:Nat→Nat→Int):Prop :=
 StbC C R ty t b n g cz 89 fun xs=>[slA t xs.length xs,g]
theorem sst_wp (hm:MonoC C) {R:List Rs} {ty:TypeId} {t b n:Nat} {f:FuncId} {cs:List AV} {cz:Nat→Nat→Int} (h:StbC C R ty t b n (.fn f [] cs) cz 115 fun xs=>[slA t xs.length xs,.int .i64 xs.length,.fn f [] cs]) {S:St} {xs:List AV} {L:List Nat} (hn:∀x∈L,x<n) (hx:xs.length=L.length) (hl:L.length<1152921504606846976) (hA:ArS S R ty t b L) :
  wpF gt C F89 [slA t xs.length xs,.fn f [] cs] S fun r S'=>r=.ret (.tup [])∧∃Z,Z.Perm L∧Srt (leZ cz) Z∧ArS S' R ty t b Z:=by
 refine⟨rfl,?_⟩
 refine goW ?_
 refine call_rule (by rfl) (hm _ _ _ _ _ (h S xs L hn hx hl hA) ?_)
 rintro r S2 ⟨rfl,Z,z1,z2,z3⟩
 refine goW ?_
 exact⟨_,rfl,rfl,Z,z1,z2,z3⟩
abbrev slN:AV:=.sl 1 ⟨none,0,some 0,false⟩ []
theorem ins0_wp {S:St} {g:AV}:wpF gt C F137 [slN,.int .i64 0,.int .i64 0,g] S fun r S'=>r=.ret (.tup [])∧S'=S:=by
 refine⟨rfl,?_⟩
 refine goW ?_
 refine⟨1,?_⟩
 refine goW ?_
 exact⟨_,rfl,rfl,rfl⟩
theorem stb0_wp (hm:MonoC C) {g:AV} (h:∀S,C 137 [slN,.int .i64 0,.int .i64 0,g] S fun r S'=>r=.ret (.tup [])∧S'=S) {S:St}:wpF gt C F115 [slN,.int .i64 0,g] S fun r S'=>r=.ret (.tup [])∧S'=S:=by
 refine⟨rfl,?_⟩
 refine goW ?_
 refine⟨1,?_⟩
 refine goW ?_
 refine call_rule (by rfl) (hm _ _ _ _ _ (h S) ?_)
 rintro r S2 ⟨rfl,rfl⟩
 refine goW ?_
 refine⟨1,?_⟩
 refine goW ?_
 exact⟨_,rfl,rfl,rfl⟩
theorem sst0_wp (hm:MonoC C) {g:AV} (h:∀S,C 115 [slN,.int .i64 0,g] S fun r S'=>r=.ret (.tup [])∧S'=S) {S:St}:wpF gt C F89 [slN,g] S fun r S'=>r=.ret (.tup [])∧S'=S:=by
 refine⟨rfl,?_⟩
 refine goW ?_
 refine call_rule (by rfl) (hm _ _ _ _ _ (h S) ?_)
 rintro r S2 ⟨rfl,rfl⟩
 refine goW ?_
 exact⟨_,rfl,rfl,rfl⟩
theorem order0_wp (hm:MonoC C) (h:∀S,C 89 [slN,.fn 90 [] [.ptr 0 0]] S fun r S'=>r=.ret (.tup [])∧S'=S):wpF gt C F72 [.sl 1 stat []] St.init (Ret (.sl 1 stat [])):=by
 refine⟨rfl,?_⟩
 refine goW ?_
 refine⟨1,?_⟩
 refine goW ?_
 refine call_rule (by rfl) (hm _ _ _ _ _ (h _) ?_)
 rintro r S2 ⟨rfl,rfl⟩
 refine goW ?_
 exact⟨_,rfl,_,rfl,by simp only [Rdo];exact⟨trivial,_,_,false,[],rfl,rfl,by simp only [Rdos]⟩⟩
abbrev E_or (t n i:Nat) (xs:List AV):Env:=[(1,.val (.ptr 0 0)),(3,.val (slA t n xs)),(9,.val (.int .i64 n)),(10,.val (.int .i64 i))]
theorem ints_zero (n:Nat):List.replicate n (.int .i64 0)=ints (List.replicate n 0):=by simp [ints]
set_option maxHeartbeats 4000000 in
theorem order_wp (hm:MonoC C) {keys:List (List UInt8)} (h:∀t b,SstC C (R_k keys) 3 t b keys.length (.fn 90 [] [.ptr 0 0]) (czK keys)) (hd:keys.Nodup) (h0:0<keys.length) (hl:keys.length<1099511627776) :
  wpF gt C F72 [.sl 1 stat (strs keys)] St.init (Ret (.sl 1 stat (ints (ordK keys)))):=by
 have sl:(strs keys).length=keys.length:=strs_length keys
 refine⟨rfl,?_⟩
 refine goW ?_
 have hb:=Hs.init.newBox 45 [.sl 1 stat (strs keys)]
 refine r_mks (n:=keys.length) (c:=keys.length) hb trivial (by rw [←sl];rfl) (by rw [←sl];rfl) (Nat.le_refl _) h0 (by omega) (by omega) rfl ?_
 intro t b S hS
 have hA:ArS S (R_k keys) 3 t b (List.replicate keys.length 0):=by
  unfold ArS
  rw [←ints_zero,List.append_nil]
  exact hS
 clear hS hb
 have hxl:(List.replicate keys.length (AV.int .i64 0)).length=keys.length:=List.length_replicate
 generalize List.replicate keys.length (AV.int .i64 0)=xs at hxl
 refine goW ?_
 rw [hxl]
 refine loop_rule hm (α:=Nat) (fun i env S'=>env=E_or t keys.length i xs∧i≤keys.length∧ArS S' (R_k keys) 3 t b (List.range i++List.replicate (keys.length-i) 0)) (fun i=>keys.length-i) ?_ (a:=0) ⟨rfl,Nat.zero_le _,by simpa using hA⟩
 clear hA
 rintro i env S' ⟨rfl,hi,hA⟩
 refine goW ?_
 by_cases c:(i:Int)<(keys.length:Int)
 ·rw [dT c]
  have hset:(List.range i++List.replicate (keys.length-i) 0).set i i=List.range (i+1)++List.replicate (keys.length-(i+1)) 0:=by
   obtain⟨m,hm⟩:∃m,keys.length-i=m+1:=⟨keys.length-i-1,by omega⟩
   rw [hm,List.replicate_succ,set_mid (by rw [List.length_range]),show keys.length-(i+1)=m by omega,List.range_succ,aA];rfl
  have hll:xs.length=(List.range i++List.replicate (keys.length-i) 0).length:=by rw [hxl,lA,List.length_range,List.length_replicate];omega
  refine goW ?_
  refine step_ruleO (sx_ia (k:=i) rfl rfl (by omega)) (goW ?_)
  refine st_runP (hA.st hll rfl rfl (by omega)) (by trivial) ?_
  intro S2 hA2
  rw [hset] at hA2
  refine goW ?_
  refine⟨i+1,⟨?_,by omega,hA2⟩,by omega⟩
  rw [wrNat (by omega)]
  try rfl
 ·rw [dF c]
  obtain rfl:i=keys.length:=by omega
  rw [Nat.sub_self,List.replicate_zero,List.append_nil] at hA
  have hcall:=h t b S' xs (List.range keys.length) (fun x hx=>List.mem_range.1 hx) (by rw [hxl,List.length_range]) (by rw [List.length_range];omega) hA
  simp only [hxl] at hcall
  refine goW ?_
  refine call_rule (by rfl) (hm _ _ _ _ _ hcall ?_)
  rintro r S2 ⟨rfl,Z,z1,z2,z3⟩
  rw [ordK_uniq hd z1 z2] at z3
  refine goW ?_
  exact⟨_,rfl,_,rfl,by simp only [Rdo];exact⟨trivial,_,_,false,_,rfl,z3.els (by rw [hxl,ordK_len]),Stas.rdos _ (by
   generalize ordK keys=l
   induction l with
   | nil=>trivial
   | cons a r ih=>exact⟨trivial,ih⟩)⟩⟩
end

def zPT:PT:=.mk 0 [] [] []
mutual
def sortT:PT→PT
 |.mk k s keys kids=>if k=7∧keys.length=kids.length then .mk k s ((ordK keys).map fun i=>keys.getD i []) ((ordK keys).map fun i=>(sortTs kids).getD i zPT) else .mk k s keys (sortTs kids)
def sortTs:List PT→List PT
 | []=>[]
 | t::r=>sortT t::sortTs r
end
theorem sortTs_map:∀l:List PT,sortTs l=l.map sortT
 | []=>rfl
 | t::r=>by simp only [sortTs,List.map_cons,sortTs_map r]
mutual
def PT.nd:PT→Prop
 |.mk k _ keys kids=>(k=7→keys.length=kids.length→keys.Nodup∧keys.length<1099511627776)∧PT.nds kids
def PT.nds:List PT→Prop
 | []=>True
 | t::r=>t.nd∧PT.nds r
end
theorem PT.nds_get:∀{l:List PT} {i:Nat} (h:i<l.length),PT.nds l→(l[i]).nd
 | a::r,0,_,h=>by simp only [PT.nds] at h;exact h.1
 | a::r,i+1,hi,h=>by simp only [PT.nds] at h;exact PT.nds_get (l:=r) (i:=i) (by simpa using hi) h.2
def DC.lft:DC→DC |.seq a _=>a | c=>c
section
variable {gt:GT} {C:CallT}
abbrev E_so1 (k:Int) (s:List UInt8) (keys:List (List UInt8)) (o1 o2:SI) (all kids:List PT) (i:Int):Env :=
 [(2,.box zT),(3,.box [.int .i64 k,.str s,.sl 1 o1 (strs keys),.sl 4 o2 (encTs kids)]),(32,.val (.sl 4 stat (encTs all))),(33,.val (.int .i64 (encTs all).length)),(34,.val (.int .i64 i))]
abbrev E_so2 (t:PT) (k:Int) (s:List UInt8) (keys:List (List UInt8)) (o1 o2:SI) (kids:List PT) (L:List Nat) (i:Int):Env :=
 [(1,.box (encT t).cells),(2,.box zT),(3,.box [.int .i64 k,.str s,.sl 1 o1 (strs keys),.sl 4 o2 (encTs kids)]),(49,.val (.sl 1 stat (ints L))),(50,.val (.int .i64 (ints L).length)),(51,.val (.int .i64 i))]
set_option maxHeartbeats 4000000 in
theorem sorted1_wp (hm:MonoC C) {k:Int} {s:List UInt8} {keys:List (List UInt8)} {kids:List PT} (ih:∀u,u.n<(PT.mk k s keys kids).n→u.ok→u.nd→PF C 45 [encT u] (encT (sortT u))) (hk:(PT.mk k s keys kids).ok) (hd:PT.nds kids) {S:St} (hR:Hs S [.gr 9 ⟨none,0,some 0,true⟩ [],.gr 47 ⟨none,0,some 0,true⟩ []]) {z:Env} :
  wpD gt C (.seq F45.body.rt.rt.lft.rt F45.body.rt.rt.rt) ((1,.box (encT (.mk k s keys kids)).cells)::(2,.box zT)::(3,.box [.int .i64 k,.str s,.sl 1 ⟨none,0,some 0,true⟩ [],.sl 4 ⟨none,0,some 0,true⟩ []])::(24,.val (.bool true))::z) S (bodyQ gt F45.res (Ret (encT (.mk k s keys (sortTs kids))))):=by
 simp only [PT.ok] at hk
 obtain⟨hk1,hk2,hk3⟩:=hk
 conv=>whnf
 refine goW ?_
 refine r_app hR 0 rfl trivial rfl rfl rfl (by rw [strs_length];simpa using hk1) (by rw [strs_length];simp;omega) (by decide) (by decide) (cells_strs keys) ?_
 intro o1 S1 hR
 refine goW ?_
 have hlen:=encTs_len kids
 refine loop_rule hm (α:=Nat) (fun i env S'=>i≤kids.length∧∃o2,Hs S' [.gr 9 o1 (strs keys),.gr 47 o2 (encTs ((sortTs kids).take i))]∧env=E_so1 k s keys o1 o2 kids ((sortTs kids).take i) i) (fun i=>kids.length-i) ?_ (a:=0) ⟨Nat.zero_le _,_,hR,rfl⟩
 rintro i env S' ⟨hi,o2,hR,rfl⟩
 have hsl:(sortTs kids).length=kids.length:=by rw [sortTs_map,List.length_map]
 refine goW ?_
 by_cases h:(i:Int)<(encTs kids).length
 ·rw [dT h]
  refine goW ?_
  have hik:i<kids.length:=by omega
  have his:i<(sortTs kids).length:=by omega
  have hge:(sortTs kids)[i]=sortT kids[i]:=by simp only [sortTs_map,List.getElem_map]
  refine step_ruleO (sx_ia (k:=i) rfl rfl (by omega)) (goW ?_)
  refine step_ruleO (sx_ldEl (agg:=true) rfl rfl (encTs_get hik) (rdT _)) ?_
  have ihk:=ih _ (kid_lt hik) (PT.oks_get hk3 (gE hik)) (PT.nds_get hik hd)
  have hok:=encT_ok (sortT kids[i])
  have hts:encTs ((sortTs kids).take (i+1))=encTs ((sortTs kids).take i)++[encT (sortT kids[i])]:=by rw [tS his,encTs_app,hge];rfl
  obtain⟨ka,sa,xa,ya,he⟩:=encT_agg kids[i]
  obtain⟨kb,sb,xb,yb,he2⟩:=encT_agg (sortT kids[i])
  rw [he2] at ihk hts hok
  rw [he] at ihk ⊢
  refine goW ?_
  refine call_pfD hm (by rfl) ihk (goW ?_)
  have hlt:(encTs ((sortTs kids).take i)).length=i:=by rw [encTs_len,lT];omega
  refine r_appD hR 1 rfl (by trivial) rfl rfl rfl (by rw [hlt];simp;omega) (by rw [hlt];simp;omega) (by decide) (by decide) hok ?_
  intro o3 S3 hR
  refine goW ?_
  refine⟨i+1,⟨by omega,o3,by rw [hts];exact hR,?_⟩,by omega⟩
  rw [wrNat (by omega)]
  simp only [E_so1,hts]
  try rfl
 ·rw [dF h]
  refine goW ?_
  have:(sortTs kids).take i=sortTs kids:=List.take_of_length_le (by omega)
  rw [this] at hR ⊢
  exact⟨_,rfl,_,rfl,rdo_T hR (i:=0) (j:=1) rfl rfl⟩
set_option maxHeartbeats 4000000 in
theorem sorted2_wp (hm:MonoC C) (ho:∀keys:List (List UInt8),keys.Nodup→keys.length<1099511627776→PF C 72 [.sl 1 stat (strs keys)] (.sl 1 stat (ints (ordK keys)))) {k:Int} {s:List UInt8} {keys:List (List UInt8)} {kids:List PT} (ih:∀u,u.n<(PT.mk k s keys kids).n→u.ok→u.nd→PF C 45 [encT u] (encT (sortT u))) (hk:(PT.mk k s keys kids).ok) (hd:PT.nds kids) (hdk:keys.Nodup) (hl:keys.length=kids.length) (hl2:keys.length<1099511627776) {S:St} (hR:Hs S [.gr 9 ⟨none,0,some 0,true⟩ [],.gr 47 ⟨none,0,some 0,true⟩ []]) {z:Env} :
  wpD gt C (.seq F45.body.rt.rt.lft.rt F45.body.rt.rt.rt) ((1,.box (encT (.mk k s keys kids)).cells)::(2,.box zT)::(3,.box [.int .i64 k,.str s,.sl 1 ⟨none,0,some 0,true⟩ [],.sl 4 ⟨none,0,some 0,true⟩ []])::(24,.val (.bool false))::z) S (bodyQ gt F45.res (Ret (encT (.mk k s ((ordK keys).map fun i=>keys.getD i []) ((ordK keys).map fun i=>(sortTs kids).getD i zPT))))):=by
 simp only [PT.ok] at hk
 obtain⟨hk1,hk2,hk3⟩:=hk
 have ho:=ho keys hdk hl2
 have hL:=@ordK_lt keys
 have hLl:=ordK_len keys
 generalize ordK keys=L at ho hL hLl
 have hil:=ints_len L
 have hsl:(sortTs kids).length=kids.length:=by rw [sortTs_map,List.length_map]
 have l1:=strs_length keys
 have l2:=encTs_len kids
 conv=>whnf
 refine goW ?_
 refine call_pf hm (by rfl) ho (goW ?_)
 refine loop_rule hm (α:=Nat) (fun i env S'=>i≤L.length∧∃o1 o2,Hs S' [.gr 9 o1 (strs ((L.take i).map fun i=>keys.getD i [])),.gr 47 o2 (encTs ((L.take i).map fun i=>(sortTs kids).getD i zPT))]∧env=E_so2 (.mk k s keys kids) k s ((L.take i).map fun i=>keys.getD i []) o1 o2 ((L.take i).map fun i=>(sortTs kids).getD i zPT) L i) (fun i=>L.length-i) ?_ (a:=0) ⟨Nat.zero_le _,_,_,hR,rfl⟩
 rintro i env S' ⟨hi,o1,o2,hR,rfl⟩
 refine goW ?_
 by_cases h:(i:Int)<(ints L).length
 ·rw [dT h]
  refine goW ?_
  have hik:i<L.length:=by omega
  have hj:=hL (List.getElem_mem hik)
  have hgi:(ints L)[i]? = some (.int .i64 (L[i]:Nat)):=ints_get (gE hik)
  have htk:L.take (i+1)=L.take i++[L[i]]:=tS hik
  generalize L[i]=j at hj hgi htk
  have hjk:j<kids.length:=by omega
  have g1:keys.getD j []=keys[j]:=by rw [List.getD_eq_getElem?_getD,gE hj];rfl
  have g2:(sortTs kids).getD j zPT=sortT kids[j]:=by rw [List.getD_eq_getElem?_getD,gE (by omega)];simp only [sortTs_map,List.getElem_map,Option.getD_some]
  have hks:strs ((L.take (i+1)).map fun i=>keys.getD i [])=strs ((L.take i).map fun i=>keys.getD i [])++[.str keys[j]]:=by rw [htk,List.map_append,List.map_cons,List.map_nil,g1];simp [strs]
  have hts:encTs ((L.take (i+1)).map fun i=>(sortTs kids).getD i zPT)=encTs ((L.take i).map fun i=>(sortTs kids).getD i zPT)++[encT (sortT kids[j])]:=by rw [htk,List.map_append,List.map_cons,List.map_nil,g2,encTs_app];rfl
  have sj:=strs_at hj
  generalize keys[j]=kj at hks sj
  have ihk:=ih _ (kid_lt hjk) (PT.oks_get hk3 (gE hjk)) (PT.nds_get hjk hd)
  have hok:=encT_ok (sortT kids[j])
  have hej:=encTs_get hjk
  obtain⟨ka,sa,xa,ya,he⟩:=encT_agg kids[j]
  obtain⟨kb,sb,xb,yb,he2⟩:=encT_agg (sortT kids[j])
  rw [he2] at ihk hts hok
  have hrd:=rdT kids[j]
  rw [he] at ihk hej hrd
  refine step_ruleO (sx_ia (k:=i) rfl rfl (by omega)) (goW ?_)
  refine step_ruleO (sx_ldEl (agg:=false) rfl rfl hgi rfl) (goW ?_)
  refine step_ruleDO rfl rfl (sx_ia (k:=j) rfl rfl (by omega)) (goW ?_)
  refine step_ruleDO rfl rfl (sx_ldEl (agg:=false) rfl rfl sj rfl) (goW ?_)
  have hlt1:(strs ((L.take i).map fun i=>keys.getD i [])).length=i:=by rw [strs_length,List.length_map,lT];omega
  refine r_appD hR 0 rfl (by trivial) rfl rfl rfl (by rw [hlt1];simp;omega) (by rw [hlt1];simp;omega) (by decide) (by decide) (by rfl) ?_
  intro o3 S3 hR
  refine goW ?_
  refine step_ruleDO rfl rfl (sx_ia (k:=j) rfl rfl (by omega)) (goW ?_)
  refine step_ruleDO rfl rfl (sx_ldEl (agg:=true) rfl rfl hej hrd) (goW ?_)
  refine call_pfD hm (by rfl) ihk (goW ?_)
  have hlt:(encTs ((L.take i).map fun i=>(sortTs kids).getD i zPT)).length=i:=by rw [encTs_len,List.length_map,lT];omega
  refine r_appD hR 1 rfl (by trivial) rfl rfl rfl (by rw [hlt];simp;omega) (by rw [hlt];simp;omega) (by decide) (by decide) hok ?_
  intro o4 S4 hR
  refine goW ?_
  refine⟨i+1,⟨by omega,o3,o4,by rw [hts,hks];exact hR,?_⟩,by omega⟩
  rw [wrNat (by omega)]
  simp only [E_so2,hts,hks]
  try rfl
 ·rw [dF h]
  refine goW ?_
  have:L.take i=L:=List.take_of_length_le (by omega)
  rw [this] at hR ⊢
  exact⟨_,rfl,_,rfl,rdo_T hR (i:=0) (j:=1) rfl rfl⟩
set_option maxHeartbeats 4000000 in
theorem sorted_wp (hm:MonoC C) (ho:∀keys:List (List UInt8),keys.Nodup→keys.length<1099511627776→PF C 72 [.sl 1 stat (strs keys)] (.sl 1 stat (ints (ordK keys)))) {t:PT} (ih:∀u,u.n<t.n→u.ok→u.nd→PF C 45 [encT u] (encT (sortT u))) (hk:t.ok) (hd:t.nd):wpF gt C F45 [encT t] St.init (Ret (encT (sortT t))):=by
 obtain⟨k,s,keys,kids⟩:=t
 simp only [PT.nd] at hd
 obtain⟨hd1,hd2⟩:=hd
 have hR:=(Hs.init.addNil 9 true).addNil 47 true
 have l1:=strs_length keys
 have l2:=encTs_len kids
 have r1:=sorted1_wp (gt:=gt) (z:=[]) hm ih hk hd2 hR
 have no:¬(k=7∧keys.length=kids.length)→sortT (.mk k s keys kids)=.mk k s keys (sortTs kids):=fun h=>by rw [sortT,if_neg h]
 refine⟨rfl,?_⟩
 refine goW ?_
 by_cases c1:k=7
 ·rw [neI_false c1]
  refine goW ?_
  by_cases c2:keys.length=kids.length
  ·rw [neI_false (show ((strs keys).length:Int)=((encTs kids).length:Int) by omega)]
   rw [show sortT (.mk k s keys kids)=_ by rw [sortT,if_pos ⟨c1,c2⟩]]
   have r2:=sorted2_wp (gt:=gt) (z:=[]) hm ho ih hk hd2 (hd1 c1 c2).1 c2 (hd1 c1 c2).2 hR
   clear r1 no
   with_unfolding_all exact r2
  ·rw [neI_true (show ¬((strs keys).length:Int)=((encTs kids).length:Int) by omega),no (fun h=>c2 h.2)]
   with_unfolding_all exact r1
 ·rw [neI_true c1,no (fun h=>c1 h.1)]
  refine goJ ?_
  with_unfolding_all exact r1
end
end Go.Dn

namespace Go.Dn
open Go Go.Proofs.C1
theorem unlike_nodup:∀{seen keys:List (List UInt8)},unlikeB seen keys=true→keys.Nodup∧∀x∈keys,x ∉ seen
 | _,[],_=>⟨List.nodup_nil,by simp⟩
 | seen,s::r,h=>by
  simp only [unlikeB] at h
  by_cases hs:s∈seen
  ·rw [if_pos hs] at h;cases h
  ·rw [if_neg hs,bA] at h
   obtain⟨a,b⟩:=unlike_nodup h.2
   refine⟨List.nodup_cons.2 ⟨fun hm=>b s hm (by simp),a⟩,fun x hx=>?_⟩
   rcases List.mem_cons.1 hx with rfl | hx
   ·exact hs
   ·exact fun hm=>b x hx (by simp [hm])
theorem formed_parts {k:Int} {s:List UInt8} {keys:List (List UInt8)} {kids:List PT} (h:formedB (.mk k s keys kids)=true) :
  formedBs kids=true∧(k=7→s=[]∧keys.length=kids.length∧keys.Nodup)∧(k≠7→keys=[])∧(k≠7→k≠6→kids=[])∧(k=6→s=[]):=by
 simp only [formedB,bA] at h
 obtain⟨h1,h2⟩:=h
 refine⟨h1,?_⟩
 unfold shapeB at h2
 by_cases k1:k=1
 ·rw [if_pos k1] at h2;simp only [bA,decide_eq_true_eq] at h2
  exact⟨fun e=>by omega,fun _=>nL h2.1.1,fun _ _=>nL h2.1.2,fun e=>by omega⟩
 rw [if_neg k1] at h2
 by_cases k2:k=2
 ·rw [if_pos k2] at h2;simp only [bA,decide_eq_true_eq] at h2
  exact⟨fun e=>by omega,fun _=>nL h2.1.1,fun _ _=>nL h2.1.2,fun e=>by omega⟩
 rw [if_neg k2] at h2
 by_cases k3:k=3
 ·rw [if_pos k3,bA,bA] at h2
  have a:=of_decide_eq_true h2.1.1
  have b:=of_decide_eq_true h2.1.2
  exact⟨fun e=>by omega,fun _=>nL a,fun _ _=>nL b,fun e=>by omega⟩
 rw [if_neg k3] at h2
 by_cases k4:k=4
 ·rw [if_pos k4,bA,bA] at h2
  have a:=of_decide_eq_true h2.1.1
  have b:=of_decide_eq_true h2.1.2
  exact⟨fun e=>by omega,fun _=>nL a,fun _ _=>nL b,fun e=>by omega⟩
 rw [if_neg k4] at h2
 by_cases k5:k=5
 ·rw [if_pos k5,bA,bA] at h2
  have a:=of_decide_eq_true h2.1.1
  have b:=of_decide_eq_true h2.1.2
  exact⟨fun e=>by omega,fun _=>nL a,fun _ _=>nL b,fun e=>by omega⟩
 rw [if_neg k5] at h2
 by_cases k6:k=6
 ·rw [if_pos k6,bA] at h2
  have b:=of_decide_eq_true h2.2
  exact⟨fun e=>by omega,fun _=>nL b,fun _ e=>absurd k6 e,fun _=>beqB_iff.1 h2.1⟩
 rw [if_neg k6] at h2
 by_cases k7:k=7
 ·rw [if_pos k7,bA,bA] at h2
  have a:=of_decide_eq_true h2.2.1
  exact⟨fun _=>⟨beqB_iff.1 h2.1,a,(unlike_nodup h2.2.2).1⟩,fun e=>absurd k7 e,fun e=>absurd k7 e,fun e=>absurd e k6⟩
 ·rw [if_neg k7] at h2;cases h2
theorem PT.len_nsq:∀l:List PT,l.length≤PT.ns l
 | []=>Nat.le_refl _
 | t::r=>by have:=PT.n_pos t;have:=PT.len_nsq r;simp only [PT.ns,lC];omega
mutual
theorem formed_nd:∀{t:PT},formedB t=true→t.n<1099511627776→t.nd
 |.mk k s keys kids,h,hn=>by
  obtain⟨h1,h2,_⟩:=formed_parts h
  simp only [PT.n] at hn
  simp only [PT.nd]
  have:=PT.len_nsq kids
  exact⟨fun hk hl=>⟨(h2 hk).2.2,by omega⟩,formed_nds h1 (by omega)⟩
theorem formed_nds:∀{l:List PT},formedBs l=true→PT.ns l<1099511627776→PT.nds l
 | [],_,_=>trivial
 | t::r,h,hn=>by
  simp only [formedBs,bA] at h
  simp only [PT.ns] at hn
  simp only [PT.nds]
  exact⟨formed_nd h.1 (by omega),formed_nds h.2 (by omega)⟩
end
theorem getD_at {α:Type} {l:List α} {i:Nat} {z:α} (h:i<l.length):l.getD i z=l[i]:=by
 rw [List.getD_eq_getElem?_getD,gE h];rfl
def sameB (a b:PT):Bool:=if formedB a && formedB b then eqT (sortT a) (sortT b) else eqT a b
theorem sameB_self (a:PT):sameB a a=true:=by
 unfold sameB;split<;>exact eqT_true rfl
end Go.Dn

namespace Go.Dn
open Go Go.Proofs.C1
set_option maxRecDepth 100000
attribute [local irreducible] afterS keepE
theorem oks_iff:∀{l:List PT},PT.oks l↔∀u∈l,u.ok
 | []=>⟨fun _ u h=>by simp at h,fun _=>trivial⟩
 | t::r=>by
  simp only [PT.oks,oks_iff (l:=r),List.mem_cons]
  exact⟨fun h u hu=>by rcases hu with rfl | hu;exact h.1;exact h.2 u hu,fun h=>⟨h t (.inl rfl),fun u hu=>h u (.inr hu)⟩⟩
mutual
theorem sort_ok:∀{t:PT},t.ok→(sortT t).ok
 |.mk k s keys kids,h=>by
  simp only [PT.ok] at h
  have hs:=sorts_ok h.2.2
  have hsl:(sortTs kids).length=kids.length:=by rw [sortTs_map,List.length_map]
  rw [sortT]
  split
  ·simp only [PT.ok,List.length_map,ordK_len]
   refine⟨h.1,by omega,oks_iff.2 fun u hu=>?_⟩
   obtain⟨i,hi,rfl⟩:=List.mem_map.1 hu
   have:=ordK_lt hi
   rw [getD_at (by omega)]
   exact oks_iff.1 hs _ (List.getElem_mem _)
  ·simp only [PT.ok]
   exact⟨h.1,by omega,hs⟩
theorem sorts_ok:∀{l:List PT},PT.oks l→PT.oks (sortTs l)
 | [],_=>trivial
 | t::r,h=>by
  simp only [PT.oks] at h
  simp only [sortTs,PT.oks]
  exact⟨sort_ok h.1,sorts_ok h.2⟩
end
section
variable {gt:GT} {C:CallT}
abbrev E_eql (a c:List (List UInt8)) (i:Nat):Env:=[(0,.val (.sl 1 stat (strs a))),(1,.val (.sl 1 stat (strs c))),(12,.val (.int .i64 (strs a).length)),(13,.val (.int .i64 i))]
set_option maxHeartbeats 2000000 in
theorem slEqual_wp (hm:MonoC C) {a c:List (List UInt8)} (hl:a.length<4611686018427387904):wpF gt C F70 [.sl 1 stat (strs a),.sl 1 stat (strs c)] St.init (Ret (.bool (decide (a=c)))):=by
 have no:∀{S:St},¬a=c→Ret (.bool (decide (a=c))) (.ret (.bool false)) S:=fun h=>by rw [dF h];exact Ret.sta trivial
 have l1:=strs_length a
 have l2:=strs_length c
 refine⟨rfl,?_⟩
 refine goW ?_
 by_cases z:((strs a).length:Int)=(strs c).length
 case neg =>
  rw [neI_true z]
  refine goW ?_
  exact⟨_,rfl,no fun h=>by rw [h] at z;exact z rfl⟩
 rw [neI_false z]
 refine goW ?_
 refine loop_rule hm (α:=Nat) (fun i env S'=>i≤a.length∧env=E_eql a c i∧S'=St.init∧a.take i=c.take i) (fun i=>a.length-i) ?_ (a:=0) ⟨Nat.zero_le _,rfl,rfl,rfl⟩
 rintro i env S' ⟨hi,rfl,rfl,hp⟩
 refine goW ?_
 by_cases h:(i:Int)<(strs a).length
 ·rw [dT h]
  refine goW ?_
  have hik:i<a.length:=by omega
  have hik':i<c.length:=by omega
  refine step_ruleDO rfl rfl (sx_ia (k:=i) rfl rfl (by omega)) (goW ?_)
  refine step_ruleDO rfl rfl (sx_ldEl (agg:=false) rfl rfl (strs_at hik) rfl) (goW ?_)
  refine step_ruleDO rfl rfl (sx_ia (k:=i) rfl rfl (by omega)) (goW ?_)
  refine step_ruleDO rfl rfl (sx_ldEl (agg:=false) rfl rfl (strs_at hik') rfl) (goW ?_)
  by_cases z:a[i]=c[i]
  ·rw [beqB_true z]
   refine goW ?_
   refine⟨i+1,⟨by omega,?_,rfl,?_⟩,by omega⟩
   ·rw [wrNat (by omega)];try rfl
   ·rw [tS hik,tS hik',hp,z]
  ·rw [beqB_false z]
   refine goW ?_
   exact⟨_,rfl,no fun h=>by subst h;exact z rfl⟩
 rw [dF h]
 refine goW ?_
 rw [List.take_of_length_le (by omega),List.take_of_length_le (by omega)] at hp
 refine⟨_,rfl,?_⟩
 rw [dT hp]
 exact Ret.sta trivial
abbrev E_eqf (f:FuncId) (a c:List PT) (i:Nat):Env:=[(1,.val (.sl 4 stat (encTs c))),(2,.val (.fn f [] [])),(15,.val (.sl 4 stat (encTs a))),(16,.val (.int .i64 (encTs a).length)),(17,.val (.int .i64 i))]
theorem eqTs_false {a c:List PT} (h:¬a=c):eqTs a c=false:=by
 cases hh:eqTs a c with
 | false=>rfl
 | true=>exact absurd (eqTs_iff.1 hh) h
set_option maxHeartbeats 2000000 in
theorem eqFunc_wp (hm:MonoC C) {a c:List PT} (ih:∀u,u.n≤PT.ns a→u.ok→∀v,PF C 44 [encT u,encT v] (.bool (eqT u v))) (hk:PT.oks a) (hl:a.length<4611686018427387904) :
  wpF gt C F71 [.sl 4 stat (encTs a),.sl 4 stat (encTs c),.fn 44 [] []] St.init (Ret (.bool (eqTs a c))):=by
 have no:∀{S:St},¬a=c→Ret (.bool (eqTs a c)) (.ret (.bool false)) S:=fun h=>by rw [eqTs_false h];exact Ret.sta trivial
 have l1:=encTs_len a
 have l2:=encTs_len c
 refine⟨rfl,?_⟩
 refine goW ?_
 by_cases z:((encTs a).length:Int)=(encTs c).length
 case neg =>
  rw [neI_true z]
  refine goW ?_
  exact⟨_,rfl,no fun h=>by rw [h] at z;exact z rfl⟩
 rw [neI_false z]
 refine goW ?_
 refine loop_rule hm (α:=Nat) (fun i env S'=>i≤a.length∧env=E_eqf 44 a c i∧S'=St.init∧a.take i=c.take i) (fun i=>a.length-i) ?_ (a:=0) ⟨Nat.zero_le _,rfl,rfl,rfl⟩
 rintro i env S' ⟨hi,rfl,rfl,hp⟩
 refine goW ?_
 by_cases h:(i:Int)<(encTs a).length
 ·rw [dT h]
  refine goW ?_
  have hik:i<a.length:=by omega
  have hik':i<c.length:=by omega
  have ihk:=ih _ (PT.ns_mem (List.getElem_mem hik)) (PT.oks_get hk (gE hik)) c[i]
  have e1:=encTs_get hik
  have e2:=encTs_get hik'
  have r1:=rdT a[i]
  have r2:=rdT c[i]
  obtain⟨k1,s1,x1,y1,g1⟩:=encT_agg a[i]
  obtain⟨k2,s2,x2,y2,g2⟩:=encT_agg c[i]
  rw [g1] at ihk e1 r1
  rw [g2] at ihk e2 r2
  refine step_ruleO (sx_ia (k:=i) rfl rfl (by omega)) (goW ?_)
  refine step_ruleO (sx_ldEl (agg:=true) rfl rfl e1 r1) (goW ?_)
  refine step_ruleO (sx_ia (k:=i) rfl rfl (by omega)) (goW ?_)
  refine step_ruleO (sx_ldEl (agg:=true) rfl rfl e2 r2) (goW ?_)
  refine call_pf hm (by rfl) ihk (goW ?_)
  by_cases z:a[i]=c[i]
  ·rw [eqT_true z]
   refine goW ?_
   refine⟨i+1,⟨by omega,?_,rfl,?_⟩,by omega⟩
   ·rw [wrNat (by omega)];try rfl
   ·rw [tS hik,tS hik',hp,z]
  ·rw [eqT_false z]
   refine goW ?_
   exact⟨_,rfl,no fun h=>by subst h;exact z rfl⟩
 rw [dF h]
 refine goW ?_
 rw [List.take_of_length_le (by omega),List.take_of_length_le (by omega)] at hp
 refine⟨_,rfl,?_⟩
 rw [eqTs_iff.2 hp]
 exact Ret.sta trivial
set_option maxHeartbeats 2000000 in
theorem identical_wp (hm:MonoC C) {t u:PT} (hk:t.ok) (he:∀a c:List (List UInt8),a.length<4611686018427387904→PF C 70 [.sl 1 stat (strs a),.sl 1 stat (strs c)] (.bool (decide (a=c)))) (hf:∀c:List PT,PF C 71 [.sl 4 stat (encTs t.kids),.sl 4 stat (encTs c),.fn 44 [] []] (.bool (eqTs t.kids c))) :
  wpF gt C F44 [encT t,encT u] St.init (Ret (.bool (eqT t u))):=by
 obtain⟨k,s,keys,kids⟩:=t
 obtain⟨k',s',keys',kids'⟩:=u
 simp only [PT.ok] at hk
 have he:=he keys keys' (by omega)
 have hf:=hf kids'
 simp only [PT.kids] at hf
 rw [eqT]
 refine⟨rfl,?_⟩
 refine goW ?_
 by_cases z0:k=k'
 case neg =>
  rw [eqI_false z0,dF z0]
  refine goW ?_
  exact⟨_,rfl,Ret.sta trivial⟩
 rw [eqI_true z0,dT z0]
 refine goW ?_
 by_cases z1:s=s'
 case neg =>
  rw [beqB_false z1,dF z1]
  refine goW ?_
  exact⟨_,rfl,Ret.sta trivial⟩
 rw [beqB_true z1,dT z1]
 refine goW ?_
 by_cases z2:keys=keys'
 case neg =>
  rw [dF z2] at he
  refine call_pf hm (by rfl) he ?_
  rw [dF z2]
  refine goW ?_
  exact⟨_,rfl,Ret.sta trivial⟩
 rw [dT z2] at he
 refine call_pf hm (by rfl) he ?_
 rw [dT z2]
 refine goW ?_
 refine call_pf hm (by rfl) hf (goW ?_)
 exact⟨_,rfl,Ret.sta trivial⟩
set_option maxHeartbeats 2000000 in
theorem same_wp (hm:MonoC C) (hi:∀t u:PT,t.ok→PF C 44 [encT t,encT u] (.bool (eqT t u))) (hs:∀t:PT,t.ok→t.nd→PF C 45 [encT t] (encT (sortT t)))
  {a c:PT} (ha:PF C 43 [encT a] (.bool (formedB a))) (hc:PF C 43 [encT c] (.bool (formedB c))) (a1:a.ok) (a2:formedB a=true→a.nd) (c1:c.ok) (c2:formedB c=true→c.nd) :
  wpF gt C F31 [encT a,encT c] St.init (Ret (.bool (sameB a c))):=by
 have h1:=hi a c a1
 have h2:=hi (sortT a) (sortT c) (sort_ok a1)
 have s1:=hs a a1
 have s2:=hs c c1
 have key:∀r,sameB a c=r→(formedB a=true→formedB c=true→eqT (sortT a) (sortT c)=r)∧(¬(formedB a=true∧formedB c=true)→eqT a c=r):=fun r e=>by
  unfold sameB at e
  refine⟨fun x y=>?_,fun n=>?_⟩
  ·rw [x,y] at e;exact e
  ·rw [if_neg (by rw [bA];exact n)] at e;exact e
 generalize hr:sameB a c=res
 obtain⟨k1,k2⟩:=key res hr
 clear key hr
 obtain⟨ka,sa,xa,ya,ga⟩:=encT_agg a
 obtain⟨kc,sc,xc,yc,gc⟩:=encT_agg c
 rw [ga] at ha h1 s1 ⊢
 rw [gc] at hc h1 s2 ⊢
 cases fa:formedB a with
 | false =>
  rw [fa] at ha
  rw [k2 (by simp [fa])] at h1
  refine⟨rfl,?_⟩
  refine goW ?_
  refine call_pf hm (by rfl) ha (goW ?_)
  refine call_pf hm (by rfl) h1 (goW ?_)
  exact⟨_,rfl,Ret.sta trivial⟩
 | true =>
  cases fc:formedB c with
  | false =>
   rw [fa] at ha
   rw [fc] at hc
   rw [k2 (by simp [fc])] at h1
   refine⟨rfl,?_⟩
   refine goW ?_
   refine call_pf hm (by rfl) ha (goW ?_)
   refine call_pf hm (by rfl) hc (goW ?_)
   refine call_pf hm (by rfl) h1 (goW ?_)
   exact⟨_,rfl,Ret.sta trivial⟩
  | true =>
   rw [fa] at ha
   rw [fc] at hc
   rw [k1 fa fc] at h2
   have s1:=s1 (a2 fa)
   have s2:=s2 (c2 fc)
   obtain⟨ka',sa',xa',ya',ga'⟩:=encT_agg (sortT a)
   obtain⟨kc',sc',xc',yc',gc'⟩:=encT_agg (sortT c)
   rw [ga'] at s1 h2
   rw [gc'] at s2 h2
   refine⟨rfl,?_⟩
   refine goW ?_
   refine call_pf hm (by rfl) ha (goW ?_)
   refine call_pf hm (by rfl) hc (goW ?_)
   refine call_pfD hm (by rfl) s1 (goW ?_)
   refine call_pfD hm (by rfl) s2 (goW ?_)
   refine call_pfD hm (by rfl) h2 (goW ?_)
   exact⟨_,rfl,Ret.sta trivial⟩
end

section
variable {gt:GT} {C:CallT}
end

section
variable {S:St} {R:List Rs} {ty:TypeId} {o:SI} {xs:List AV} {l:List Nat}
end
section
variable {gt:GT} {C:CallT}
end

section
variable {gt:GT} {C:CallT}
end

section
variable {gt:GT} {C:CallT}
end
end Go.Dn

namespace Go.Proofs.YtbojekglccdajaaGreatDoor.Fn
open Go.ChangeShapes Go.WideShapes Go.ChangeAt Go.RowKit Go.Dn
section
variable {R:List Rs} {ty:TypeId} {t b:Nat}
theorem swapC (g:AV):SwapC A R ty t b g:=fun S xs P X M Y Q a c n ha hc hn hx hl hxy hA=>by
 subst ha hc hn
 exact AC_intro Tryz.checked.mixed Tryz.func172 (by kernel_rfl) C1.F172_ok (swap_wp hm hx hl hxy hA)
theorem rotC (f:FuncId) (cs:List AV):RotC A R ty t b (.fn f [] cs):=fun S xs P X Y Q a m c ha hmm hc h1 h2 hx hl hA=>by
 subst ha hmm hc
 exact AC_intro Tryz.checked.mixed Tryz.func156 (by kernel_rfl) C1.F156_ok (rot_wp hm (swapC _) h1 h2 hx hl hA)
theorem insC {f:FuncId} {cs:List AV} {n:Nat} {cz:Nat→Nat→Int} (hz:Cz cz) (hc:CmpC A f cs R ty t b n cz):InsC A R ty t b n (.fn f [] cs) cz:=fun S xs P X Q a c ha hcc hX hx hl hA=>by
 subst ha hcc
 exact AC_intro Tryz.checked.mixed Tryz.func137 (by kernel_rfl) C1.F137_ok (ins_wp hm hz hc hX hx hl hA)
theorem mrgA {f:FuncId} {cs:List AV} {n:Nat} {cz:Nat→Nat→Int} (hz:Cz cz) (hc:CmpC A f cs R ty t b n cz):∀k,MrgC A R ty t b n (.fn f [] cs) cz k :=
 mrgC (gt:=gtT) hm (fun us S Q h=>AC_intro Tryz.checked.mixed Tryz.func138 (by kernel_rfl) C1.F138_ok h) hz hc (rotC f cs)
theorem stbC {f:FuncId} {cs:List AV} {n:Nat} {cz:Nat→Nat→Int} (hz:Cz cz) (hc:CmpC A f cs R ty t b n cz):StbC A R ty t b n (.fn f [] cs) cz 115 fun xs=>[slA t xs.length xs,.int .i64 xs.length,.fn f [] cs]:=fun S xs L hn hx hl hA =>
 AC_intro Tryz.checked.mixed Tryz.func115 (by kernel_rfl) C1.F115_ok (stb_wp hm (insC hz hc) (mrgA hz hc) hn hx hl hA)
theorem sstC {f:FuncId} {cs:List AV} {n:Nat} {cz:Nat→Nat→Int} (hz:Cz cz) (hc:CmpC A f cs R ty t b n cz):SstC A R ty t b n (.fn f [] cs) cz:=fun S xs L hn hx hl hA =>
 AC_intro Tryz.checked.mixed Tryz.func89 (by kernel_rfl) C1.F89_ok (sst_wp hm (stbC hz hc) hn hx hl hA)
end
theorem ins0 (g:AV) (S:St):A 137 [slN,.int .i64 0,.int .i64 0,g] S fun r S'=>r=.ret (.tup [])∧S'=S :=
 AC_intro Tryz.checked.mixed Tryz.func137 (by kernel_rfl) C1.F137_ok ins0_wp
theorem stb0 (g:AV) (S:St):A 115 [slN,.int .i64 0,g] S fun r S'=>r=.ret (.tup [])∧S'=S :=
 AC_intro Tryz.checked.mixed Tryz.func115 (by kernel_rfl) C1.F115_ok (stb0_wp hm (ins0 g))
theorem sst0 (g:AV) (S:St):A 89 [slN,g] S fun r S'=>r=.ret (.tup [])∧S'=S :=
 AC_intro Tryz.checked.mixed Tryz.func89 (by kernel_rfl) C1.F89_ok (sst0_wp hm (stb0 g))
theorem cmpS (a c:List UInt8):PF A 116 [.str a,.str c] (.int .i64 (cmpB a c)) :=
 pf Tryz.func116 (by kernel_rfl) C1.F116_ok (s2 trivial trivial) cmpS_wp
theorem compareS (a c:List UInt8):PF A 91 [.str a,.str c] (.int .i64 (cmpB a c)) :=
 pf Tryz.func91 (by kernel_rfl) C1.F91_ok (s2 trivial trivial) (compare_wp hm cmpS)
theorem ord1 (keys:List (List UInt8)) (ty:TypeId) (t b:Nat):CmpC A 90 [.ptr 0 0] (R_k keys) ty t b keys.length (czK keys):=fun S l i j hA hi hj =>
 AC_intro Tryz.checked.mixed Tryz.func90 (by kernel_rfl) C1.F90_ok (ord1_wp hm compareS hA hi hj)
theorem order (keys:List (List UInt8)) (hd:keys.Nodup) (hl:keys.length<1099511627776):PF A 72 [.sl 1 stat (strs keys)] (.sl 1 stat (ints (ordK keys))) :=
 pf Tryz.func72 (by kernel_rfl) C1.F72_ok (s1 (sK keys)) (by
  cases keys with
  | nil =>
   have e:ordK ([]:List (List UInt8))=[]:=nL (ordK_len [])
   rw [e]
   exact order0_wp hm (sst0 _)
  | cons k r=>exact order_wp hm (fun t b=>sstC (czK_cz _) (ord1 _ _ t b)) hd (by simp) hl)
theorem sorted:∀t:PT,t.ok→t.nd→PF A 45 [encT t] (encT (sortT t)) :=
 indT fun t ih hk hd=>pf Tryz.func45 (by kernel_rfl) C1.F45_ok (s1 (sta_T t)) (sorted_wp hm order ih hk hd)
theorem slEqual (a c:List (List UInt8)) (h:a.length<4611686018427387904):PF A 70 [.sl 1 stat (strs a),.sl 1 stat (strs c)] (.bool (decide (a=c))) :=
 pf Tryz.func70 (by kernel_rfl) C1.F70_ok (s2 (sK a) (sK c)) (slEqual_wp hm h)
theorem identical:∀t u:PT,t.ok→PF A 44 [encT t,encT u] (.bool (eqT t u)) :=
 indT fun t ih u h=>pf Tryz.func44 (by kernel_rfl) C1.F44_ok (s2 (sta_T t) (sta_T u)) (identical_wp hm h slEqual fun c =>
  pf Tryz.func71 (by kernel_rfl) C1.F71_ok (s3 (sta_sl (sta_Ts t.kids)) (sta_sl (sta_Ts c)) ⟨trivial,trivial⟩)
   (eqFunc_wp hm (fun v hv hk w=>ih v (by cases t;simp only [PT.kids,PT.n] at hv ⊢;omega) w hk) (by cases t;simp only [PT.ok] at h;exact h.2.2) (by cases t;simp only [PT.ok] at h;simp only [PT.kids];omega)))
theorem same (a c:PT) (a0:a.sok) (a1:a.ok) (a2:a.n<1099511627776) (c0:c.sok) (c1:c.ok) (c2:c.n<1099511627776):PF A 31 [encT a,encT c] (.bool (sameB a c)) :=
 pf Tryz.func31 (by kernel_rfl) C1.F31_ok (s2 (sta_T a) (sta_T c)) (same_wp hm identical sorted (formed a a0) (formed c c0) a1 (fun h=>formed_nd h a2) c1 (fun h=>formed_nd h c2))
end Go.Proofs.YtbojekglccdajaaGreatDoor.Fn

namespace Go.Proofs.YtbojekglccdajaaGreatDoor
open Go.Dn
end Go.Proofs.YtbojekglccdajaaGreatDoor

namespace Go.Dn
set_option maxRecDepth 100000
def prP (b:Bool):Nat:=if b then 0 else 3
def rowP (eq:Nat→Nat→Bool) (prev:Nat→Nat) (i:Nat):Nat→Nat
 | 0=>2*(i+1)
 | j+1=>min (min (prev j+prP (eq i j)) (prev (j+1)+2)) (rowP eq prev i j+2)
def costP (eq:Nat→Nat→Bool):Nat→Nat→Nat
 | 0=>fun j=>2*j
 | i+1=>rowP eq (costP eq i) i
def backR (eq:Nat→Nat→Bool) (prev:Nat→List Int) (i:Nat):Nat→List Int
 | 0=>[]
 | j+1=>if costP eq (i+1) (j+1)=costP eq i j+prP (eq i j) then prev j++[(i:Int)] else if costP eq (i+1) (j+1)=costP eq i (j+1)+2 then prev (j+1) else backR eq prev i j++[-1]
def fromP (eq:Nat→Nat→Bool):Nat→Nat→List Int
 | 0=>fun j=>List.replicate j (-1)
 | i+1=>backR eq (fromP eq i) i
section
variable {eq:Nat→Nat→Bool}
theorem costP_i0 (i:Nat):costP eq i 0=2*i:=by cases i<;>rfl
theorem costP_0j (j:Nat):costP eq 0 j=2*j:=rfl
theorem costP_ss (i j:Nat):costP eq (i+1) (j+1)=min (min (costP eq i j+prP (eq i j)) (costP eq i (j+1)+2)) (costP eq (i+1) j+2):=rfl
theorem costP_up (i j:Nat):costP eq (i+1) j≤costP eq i j+2:=by
 cases j with
 | zero=>rw [costP_i0,costP_i0];omega
 | succ j=>rw [costP_ss];omega
theorem costP_ups (i j:Nat):∀d,costP eq (i+d) j≤costP eq i j+2*d
 | 0=>by simp
 | d+1=>by
  have h1:=costP_ups i j d
  have h2:=costP_up (eq:=eq) (i+d) j
  rw [show i+(d+1)=i+d+1 by omega];omega
theorem costP_le (i j:Nat):costP eq i j≤2*(i+j):=by
 have h:=costP_ups (eq:=eq) 0 j i
 rw [Nat.zero_add,costP_0j] at h;omega
theorem fromP_0 (j:Nat):fromP eq 0 j=List.replicate j (-1):=rfl
theorem fromP_i0 (i:Nat):fromP eq i 0=[]:=by cases i<;>rfl
theorem fromP_ss (i j:Nat):fromP eq (i+1) (j+1)=if costP eq (i+1) (j+1)=costP eq i j+prP (eq i j) then fromP eq i j++[(i:Int)] else if costP eq (i+1) (j+1)=costP eq i (j+1)+2 then fromP eq i (j+1) else fromP eq (i+1) j++[-1]:=rfl
theorem fromP_len:∀i j:Nat,(fromP eq i j).length=j:=by
 intro i
 induction i with
 | zero=>intro j;rw [fromP_0];simp
 | succ i ih =>
  intro j
  induction j with
  | zero=>rw [fromP_i0];rfl
  | succ j jh =>
   rw [fromP_ss]
   split
   ·rw [lA,ih];rfl
   ·split
    ·exact ih _
    ·rw [lA,jh];rfl
theorem cost_all (h:∀a b,eq a b=true):∀i j:Nat,costP eq i j=2*(i-j)+2*(j-i):=by
 intro i
 induction i with
 | zero=>intro j;rw [costP_0j];omega
 | succ i ih =>
  intro j
  induction j with
  | zero=>rw [costP_i0];omega
  | succ j jh =>
   rw [costP_ss,ih j,ih (j+1),jh,h i j]
   simp only [prP,if_true]
   omega
end

def cutL:Nat→Int→List PT→List PT
 | 0,_,_=>[]
 | _+1,_,[]=>[]
 | n+1,s,t::r=>if s<3000 then (if s+size3 t 3000<3000∧rightB t=0 then [t] else [])++cutL n (s+size3 t 3000) r else []
section
variable {n:Nat} {mt:Nat→Nat→Bool}
end

end Go.Dn

namespace Go.Dn
open Go Go.Proofs.C1
set_option maxRecDepth 100000
attribute [local irreducible] afterS keepE
def intsZ (l:List Int):List AV:=l.map fun n=>.int .i64 n
theorem intsZ_len (l:List Int):(intsZ l).length=l.length:=by simp [intsZ]
theorem intsZ_get {l:List Int} {i:Nat} (h:i<l.length):(intsZ l)[i]? = some (.int .i64 l[i]):=by simp [intsZ,h]
theorem sx_rem {gt:GT} {d:Option Nat} {env:Env} {S:St} {x y:DOpd} {a b:Int} (hx:opd env x=some (.int .i64 a)) (hy:opd env y=some (.int .i64 b)) (h:¬b=0):stepO gt d env S (.bin .rem none x y)=.done (putV d (.int .i64 (a.tmod b)) env) S:=by
 simp only [stepO,hx,hy,binV,binI,eqI_false h,if_true,cond_false,SR.val]
section
variable {gt:GT} {C:CallT}
end

theorem intsZ_el (l:List Int):∀y∈intsZ l,El false 1 y:=fun y hy=>by
 simp only [intsZ,List.mem_map] at hy
 obtain⟨n,_,rfl⟩:=hy
 exact⟨rfl,rfl⟩
theorem intsZ_app (a b:List Int):intsZ (a++b)=intsZ a++intsZ b:=by simp [intsZ]
theorem intsZ_sta (l:List Int):Stas (intsZ l):=by
 induction l with
 | nil=>trivial
 | cons a r ih=>exact⟨trivial,ih⟩
theorem intsZ_rep (n:Nat) (k:Int):intsZ (List.replicate n k)=List.replicate n (.int .i64 k):=by simp [intsZ]
def ArZ (S:St) (R:List Rs) (ty:TypeId) (t b:Nat) (l:List Int) (post:List AV):Prop:=Hs S (R++[.bx b ty ((intsZ l).flatMap AV.cells++post),.mk t t b])
section
variable {S:St} {R:List Rs} {ty:TypeId} {t b:Nat} {l:List Int} {post:List AV}
theorem ArZ.hi:(R++[Rs.bx b ty ((intsZ l).flatMap AV.cells++post),Rs.mk t t b])[R.length]? = some (.bx b ty ((intsZ l).flatMap AV.cells++post)):=by simp
theorem ArZ.hj:(R++[Rs.bx b ty ((intsZ l).flatMap AV.cells++post),Rs.mk t t b])[R.length+1]? = some (.mk t t b):=by simp
theorem ArZ.st (h:ArZ S R ty t b l post) {gt:GT} {d:Option Nat} {env:Env} {a x:DOpd} {n:Option Nat} {nl:Bool} {xs:List AV} {k:Nat} {v:Int} (hx:xs.length=l.length) (ha:loc env a=some (.el 1 ⟨some (t,t),0,n,nl⟩ xs k 0)) (hv:opd env x=some (.int .i64 v)) (hk:k<l.length) :
  ∃S',stepO gt d env S (.st 1 a x)=.done (putV d .undef env) S'∧ArZ S' R ty t b (l.set k v) post:=by
 obtain⟨S',h1,h2⟩:=arr_st h R.length ArZ.hi ArZ.hj (fun y hy=>(intsZ_el l y hy).1) (gt:=gt) (d:=d) (env:=env) (a:=a) (x:=x) (xs:=xs) (so:=0) (k:=k) (off:=0) (sz:=1) (cap:=n) (nl:=nl) (v:=.int .i64 v) (v':=.int .i64 v) ha hv rfl (by omega) (by rw [intsZ_len];omega) (Nat.le_refl 1) (by
  have hc:(intsZ l)[0+k]'(by rw [intsZ_len];omega)=.int .i64 (l[k]):=by simp [intsZ]
  rw [hc];rfl)
 refine⟨S',h1,?_⟩
 have e:(intsZ l).set k (.int .i64 v)=intsZ (l.set k v):=by simp [intsZ,List.map_set]
 rw [Nat.zero_add,e] at h2
 unfold ArZ
 simpa using h2
end
theorem ArZ.ofC {S:St} {R:List Rs} {ty:TypeId} {t b c:Nat} (h:Hs S (R++[.bx b ty ((List.replicate c (AV.int .i64 0)).flatMap AV.cells)]++[.mk t t b])):ArZ S R ty t b (List.replicate c 0) []:=by
 unfold ArZ
 rw [intsZ_rep]
 simpa using h

section
variable {gt:GT} {C:CallT}
end
end Go.Dn

namespace Go.Dn
open Go
theorem beqA_int {k:IntKind} {n:Int}:beqA (.int k n) (.int k n)=true:=by simp [beqA]
theorem beqA_map {n:Nat}:beqA (.map n) (.map n)=true:=by simp [beqA]
theorem stab_nil {gt:GT} {env:Env} {S:St}:stab gt [] env S=true:=rfl
theorem stab_at {gt:GT} {d:Nat} {op:DOp} {gd:Option (Nat×Bool)} {l:Option Nat} {xs:List (DI×Option Nat)} {env:Env} {S:St} {v:AV} (h0:isLoc op=false) (h1:conform l env op=true) (hg:Gd env gd) (h:stepO gt (some d) env S op=.done (putV (some d) v env) S)
  (h2:lk env d=some (.val v)) (hb:beqA v v=true) (r:stab gt xs env S=true):stab gt ((⟨some d,op,gd⟩,l)::xs) env S=true:=by
 have hs:stepD gt (⟨some d,op,gd⟩,l) env S=.done (putV (some d) v env) S:=by
  rw [←h]
  cases gd with
  | none=>simp only [stepD,stepDO,h0,h1,cond_false,cond_true]
  | some p =>
   obtain⟨g,w⟩:=p
   have hg:lk env g=some (.val (.bool w)):=hg
   simp only [stepD,stepDO,h0,h1,cond_false,cond_true,hg,beq_self_eq_true]
 unfold stab at r ⊢
 rw [List.all_cons,r,Bool.and_true]
 unfold stays
 simp only [hs,h2]
 have:lk (putV (some d) v env) d=some (.val v):=lk_same _ _ _
 rw [this]
 exact hb
end Go.Dn

namespace Go.Dn
open Go Go.Proofs.C1
set_option maxRecDepth 100000
attribute [local irreducible] afterS keepE
section
variable {gt:GT} {C:CallT}
end
end Go.Dn

namespace Go.Dn
open Go
set_option maxRecDepth 100000
structure KeyOK {κ:Type} [DecidableEq κ] (ek:EqK) (kv:κ→AV):Prop where
 eq:∀a b,eqv ek (kv a) (kv b)=some (decide (a=b))
 kv:∀a,keyV ek (kv a)=true
abbrev ek2:EqK:=.st [(0,.int),(1,.int)]
abbrev kv2 (a:Int×Int):AV:=.agg [.int .i64 a.1,.int .i64 a.2]
theorem keyOK2:KeyOK ek2 kv2 where
 eq a b:=by
  obtain⟨a1,a2⟩:=a
  obtain⟨b1,b2⟩:=b
  by_cases h:a1=b1
  ·subst h
   by_cases h2:a2=b2
   ·subst h2;simp [eqv,eqvs,aggs,eqInt]
   ·have hb:(a2 == b2)=false:=by simp [h2]
    simp [eqv,eqvs,aggs,eqInt,h2,hb]
  ·have hb:(a1 == b1)=false:=by simp [h]
   simp [eqv,eqvs,aggs,eqInt,h,hb]
 kv a:=rfl
section
variable {κ:Type} [DecidableEq κ]
def mapE (kv:κ→AV) (l:List (κ×Int)):List (AV×AV):=l.map fun p=>(kv p.1,.int .i64 p.2)
def posM (k:κ):List (κ×Int)→Nat→Option (Nat×Int)
 | [],_=>none
 | (k',v)::r,i=>if k=k' then some (i,v) else posM k r (i+1)
def getM (k:κ):List (κ×Int)→Option Int
 | []=>none
 | (k',v)::r=>if k=k' then some v else getM k r
def putM (k:κ) (v:Int):List (κ×Int)→List (κ×Int)
 | []=>[(k,v)]
 | (k',v')::r=>if k=k' then (k,v)::r else (k',v')::putM k v r
theorem posM_getM (k:κ):∀(l:List (κ×Int)) (i:Nat),(posM k l i).map (·.2)=getM k l
 | [],_=>rfl
 | (k',v)::r,i=>by
  simp only [posM,getM]
  split
  ·rfl
  ·exact posM_getM k r (i+1)
theorem posM_put {k:κ} {v:Int}:∀(l:List (κ×Int)) (i:Nat),putM k v l=match posM k l i with
  | some p=>l.set (p.1-i) (k,v)
  | none=>l++[(k,v)]
 | [],_=>rfl
 | (k',v')::r,i=>by
  have ih:=posM_put (k:=k) (v:=v) r (i+1)
  have hlt:∀(r:List (κ×Int)) (i:Nat) (p:Nat×Int),posM k r i=some p→i≤p.1:=fun r=>by
   induction r with
   | nil=>intro i p h;cases h
   | cons q r ih =>
    intro i p h
    simp only [posM] at h
    split at h
    ·cases h;exact Nat.le_refl _
    ·have:=ih _ _ h;omega
  simp only [posM,putM]
  by_cases e:k=k'
  ·simp only [if_pos e,Nat.sub_self,List.set_cons_zero]
  ·simp only [if_neg e]
   rw [ih]
   cases h:posM k r (i+1) with
   | none=>rfl
   | some p =>
    have:=hlt r (i+1) p h
    simp only
    rw [show p.1-i=(p.1-(i+1))+1 by omega,List.set_cons_succ]
theorem posM_key {k:κ}:∀{l:List (κ×Int)} {i:Nat} {p:Nat×Int},posM k l i=some p→i≤p.1∧l[p.1-i]? = some (k,p.2)
 | (k',v')::r,i,p,h=>by
  simp only [posM] at h
  split at h
  ·rename_i e
   subst e
   cases h
   simp
  ·obtain⟨h1,h2⟩:=posM_key h
   refine⟨by omega,?_⟩
   rw [show p.1-i=(p.1-(i+1))+1 by omega,List.getElem?_cons_succ]
   exact h2
theorem getM_put (k k':κ) (v:Int):∀l:List (κ×Int),getM k' (putM k v l)=if k'=k then some v else getM k' l
 | []=>rfl
 | (q,w)::r=>by
  have ih:=getM_put k k' v r
  simp only [putM]
  by_cases e:k=q
  ·subst e
   simp only [if_true,getM]
   split<;>rfl
  ·rw [if_neg e]
   simp only [getM,ih]
   by_cases e2:k'=q
   ·subst e2
    rw [if_pos rfl,if_neg (fun h=>e h.symm),if_pos rfl]
   ·rw [if_neg e2,if_neg e2]
variable {ek:EqK} {kv:κ→AV}
theorem fkM (hk:KeyOK ek kv) (k:κ):∀(l:List (κ×Int)) (i:Nat),findK ek (kv k) (mapE kv l) i=some ((posM k l i).map fun p=>(p.1,AV.int .i64 p.2))
 | [],_=>rfl
 | (k',v)::r,i=>by
  have ih:=fkM hk k r (i+1)
  simp only [mapE,List.map_cons,findK,posM,hk.eq] at ih ⊢
  by_cases h:k=k'
  ·rw [dT h,if_pos h];rfl
  ·rw [dF h,if_neg h];exact ih
theorem sx_lkpM (hk:KeyOK ek kv) {gt:GT} {d:Option Nat} {env:Env} {S:St} {R:List Rs} {m k:DOpd} {id:Nat} {l:List (κ×Int)} {s:κ} (hR:Hs S R) (i:Nat) (hi:R[i]? = some (.mp id (mapE kv l))) (hm:opd env m=some (.map id)) (hkk:opd env k=some (kv s)) :
  stepO gt d env S (.lkp ek (.int .i64 0) m k false)=.done (putV d (.int .i64 ((getM s l).getD 0)) env) S:=by
 have hl:=(hR.ok i _ hi).2
 simp only [stepO,hm,hkk,hk.kv,cond_true,hl,fkM hk,←posM_getM s l 0]
 cases posM s l 0<;>rfl
theorem r_mupM (hk:KeyOK ek kv) {gt:GT} {d:Option Nat} {env:Env} {S:St} {R:List Rs} {m k x:DOpd} {id:Nat} {l:List (κ×Int)} {s:κ} {v:Int} (hR:Hs S R) (i:Nat) (hi:R[i]? = some (.mp id (mapE kv l))) (hm:opd env m=some (.map id)) (hkk:opd env k=some (kv s)) (hx:opd env x=some (.int .i64 v)) :
  ∃S',stepO gt d env S (.mup ek m k x)=.done (putV d .undef env) S'∧Hs S' (R.set i (.mp id (mapE kv (putM s v l)))):=by
 have hl:=(hR.ok i _ hi).2
 refine⟨_,?_,hR.mapTo hi (mapE kv (putM s v l))⟩
 simp only [stepO,hm,hkk,hx,hk.kv,cond_true,hl,fkM hk]
 rw [posM_put l 0]
 cases hp:posM s l 0 with
 | none=>simp only [Option.map_none];simp [mapE]
 | some p =>
  obtain⟨j,w⟩:=p
  obtain⟨_,h3⟩:=posM_key hp
  rw [Nat.sub_zero] at h3
  have:keyAt ek (mapE kv l) j=true:=by simp [keyAt,mapE,h3,hk.kv]
  simp only [Option.map_some,this,cond_true]
  simp [mapE,List.map_set]
end

section
variable {α β:Type} {f:α→List β}
end
structure Rw where
 tp:Nat
 bp:Nat
 tc:Nat
 bc:Nat
 p:List Int
 c:List Int
def rwR (ty:TypeId) (r:Rw):List Rs:=[.bx r.bp ty ((intsZ r.p).flatMap AV.cells++[]),.mk r.tp r.tp r.bp,.bx r.bc ty ((intsZ r.c).flatMap AV.cells++[]),.mk r.tc r.tc r.bc]
def slR (t m:Nat):AV:=.sl 1 ⟨some (t,t),0,some m,false⟩ (List.replicate m (.int .i64 0))
def outs (z:AV) (n m:Nat) (ts:List Nat):List AV:=ts.map (fun t=>slR t m)++List.replicate (n-ts.length) z
def MatR (tyS ty:TypeId) (z:AV) (tP bP tC bC n m:Nat) (tsP tsC:List Nat) (rows:List Rw) (tail:List Rs):List Rs :=
 [.bx bP tyS ((outs z n m tsP).flatMap AV.cells++[]),.mk tP tP bP,.bx bC tyS ((outs z n m tsC).flatMap AV.cells++[]),.mk tC tC bC]++(rows.flatMap (rwR ty)++tail)
section
variable {S:St} {tyS ty:TypeId} {z:AV} {tP bP tC bC n m:Nat} {tsP tsC:List Nat} {rows:List Rw} {tail:List Rs}
variable (hR:Hs S (MatR tyS ty z tP bP tC bC n m tsP tsC rows tail))
include hR
end
end Go.Dn

namespace Go.Dn
open Go Go.Proofs.C1
set_option maxRecDepth 100000
attribute [local irreducible] afterS keepE
theorem sx_lkpV {κ:Type} [DecidableEq κ] {ek:EqK} {kv:κ→AV} (hk:KeyOK ek kv) {gt:GT} {d:Option Nat} {env:Env} {S:St} {R:List Rs} {m k:DOpd} {id:Nat} {l:List (κ×Int)} {s:κ} {v:Int} (hR:Hs S R) (i:Nat) (hi:R[i]? = some (.mp id (mapE kv l))) (hm:opd env m=some (.map id)) (hkk:opd env k=some (kv s)) (hv:(getM s l).getD 0=v) :
  stepO gt d env S (.lkp ek (.int .i64 0) m k false)=.done (putV d (.int .i64 v) env) S:=by
 subst hv
 exact sx_lkpM hk hR i hi hm hkk
section
variable {gt:GT} {C:CallT}
end

section
variable {gt:GT} {C:CallT}
theorem sx_ldTb {d:Option Nat} {env:Env} {S:St} {a:DOpd} {id off sz:Nat} {g:Bool} {ty:TypeId} {cs:List AV} {v:AV} (hb:lk S.boxes id=some (some (ty,cs))) (ha:loc env a=some (.hp id off)) (hm:(cut cs off sz).bind (mkv g)=some v) :
  stepO gt d env S (.ld g sz a)=.done (putV d v env) S:=by
 simp only [stepO,ha,ldL,ldC,hb]
 cases hc:cut cs off sz with
 | none=>rw [hc] at hm;cases hm
 | some c=>rw [hc] at hm;simp only [Option.bind_some] at hm;simp only [hm,SR.val]
theorem min_bif (p q:Int):(bif decide (q<p) then q else p)=min p q:=by
 by_cases h:q<p
 ·rw [dT h,cond_true];omega
 ·rw [dF h,cond_false];omega
abbrev E_fill (id n:Nat) (i:Int):Env:=[(0,.val (.ptr id 0)),(9,.val (.int .i64 ((n+1:Nat):Int))),(10,.val (.int .i64 i))]
abbrev E_fill2 (id n m:Nat) (i j:Int):Env:=[(0,.val (.ptr id 0)),(2,.val (.int .i64 i)),(9,.val (.int .i64 ((n+1:Nat):Int))),(10,.val (.int .i64 i)),(18,.val (.int .i64 ((m+1:Nat):Int))),(19,.val (.int .i64 j))]
def Filled (eq:Nat→Nat→Bool) (M:List ((Int×Int)×Int)) (m i j:Nat):Prop:=∀a b:Nat,(a<i∧b≤m∨a=i∧b<j)→(getM ((a:Int),(b:Int)) M).getD 0=(costP eq a b:Int)
theorem Filled.put {eq:Nat→Nat→Bool} {M:List ((Int×Int)×Int)} {m i j:Nat} {v:Int} (h:Filled eq M m i j) (hv:v=(costP eq i j:Int)):Filled eq (putM ((i:Int),(j:Int)) v M) m i (j+1):=fun a b hab=>by
 rw [getM_put]
 by_cases e:((a:Int),(b:Int))=((i:Int),(j:Int))
 ·rw [if_pos e]
  simp only [Prod.mk.injEq] at e
  obtain⟨rfl,rfl⟩:a=i∧b=j:=by omega
  exact hv
 ·rw [if_neg e]
  simp only [Prod.mk.injEq] at e
  exact h a b (by omega)
end

theorem Hs.newMap {S:St} {R:List Rs} (h:Hs S R):Hs { S with nm:=S.nm+1,maps:=(S.nm,[])::S.maps } (R++[.mp S.nm []]):=by
 refine h.more (S':={ S with nm:=S.nm+1,maps:=(S.nm,[])::S.maps }) (r':=.mp S.nm []) (fun t ht=>h.wf t ht) ⟨Nat.le_refl _,Nat.le_refl _,Nat.le_succ _,fun _ _ _=>⟨rfl,rfl⟩,fun _ _ _=>rfl,fun _ _ _ h=>h,fun i hi _=>lk_ne _ _ (by omega),fun _ _ _=>rfl⟩ ⟨Nat.lt_succ_self _,lk_same _ _ _⟩ fun j s hs=>?_
 have:=h.ok j s hs
 cases s with
 | mp i es=>intro e;have:=this.1;omega
 | _=>trivial
def bigP (n m:Nat):Prop:=0<n∧65536 / n<m
instance (n m:Nat):Decidable (bigP n m):=inferInstanceAs (Decidable (_∧_))
section
variable {gt:GT} {C:CallT}
theorem sx_quo {d:Option Nat} {env:Env} {S:St} {x y:DOpd} {a n:Nat} (hx:opd env x=some (.int .i64 (a:Int))) (hy:opd env y=some (.int .i64 (n:Int))) (h:0<n) (ha:a<4611686018427387904):stepO gt d env S (.bin .quo none x y)=.done (putV d (.int .i64 ((a / n:Nat):Int)) env) S:=by
 have e:(a:Int).tdiv (n:Int)=((a / n:Nat):Int):=by rw [Int.ofNat_tdiv]
 have hle:a / n≤a:=Nat.div_le_self _ _
 simp only [stepO,hx,hy,binV,binI,eqI_false (show ¬(n:Int)=0 by omega),if_true,cond_false,SR.val,e]
 generalize a / n=q at *
 rw [wr64 (by omega) (by omega)]
abbrev E_cb (old fresh:List PT) (t m id:Nat) (i j:Int):Env:=[(0,.val (.sl 4 stat (encTs old))),(1,.val (.sl 4 stat (encTs fresh))),(7,.val (.sl 1 ⟨some (t,t),0,some m,false⟩ (List.replicate m (.int .i64 0)))),(9,.val (.ptr id 0)),(10,.val (.int .i64 i)),(11,.val (.int .i64 j))]
end

section
variable {gt:GT} {C:CallT}
end

section
variable {gt:GT} {C:CallT}
end

section
variable {gt:GT} {C:CallT}
abbrev E_sI (l:List Int) (i:Int):Env:=[(0,.val (.sl 1 stat (intsZ l))),(1,.val (.sl 1 stat (intsZ l))),(5,.val (.int .i64 i))]
set_option maxHeartbeats 4000000 in
theorem sameI_wp (hm:MonoC C) {l:List Int} (hl:l.length<4611686018427387904):wpF gt C F14 [.sl 1 stat (intsZ l),.sl 1 stat (intsZ l)] St.init (Ret (.bool true)):=by
 have ll:=intsZ_len l
 refine⟨rfl,?_⟩
 refine goW ?_
 rw [neI_false (rfl:((intsZ l).length:Int)=(intsZ l).length)]
 refine goW ?_
 refine loop_rule hm (α:=Nat) (fun i env S'=>i≤l.length∧env=E_sI l i∧S'=St.init) (fun i=>l.length-i) ?_ (a:=0) ⟨Nat.zero_le _,rfl,rfl⟩
 rintro i env S' ⟨hi,rfl,rfl⟩
 refine goW ?_
 by_cases c:(i:Int)<(intsZ l).length
 case neg =>
  rw [dF c]
  refine goW ?_
  exact⟨_,rfl,Ret.sta trivial⟩
 rw [dT c]
 have hil:i<l.length:=by omega
 have hg:=intsZ_get hil
 generalize l[i]=x at hg
 refine goW ?_
 refine step_ruleDO rfl rfl (sx_ia (k:=i) rfl rfl (by omega)) (goW ?_)
 refine step_ruleDO rfl rfl (sx_ldEl (agg:=false) rfl rfl hg rfl) (goW ?_)
 refine step_ruleDO rfl rfl (sx_ia (k:=i) rfl rfl (by omega)) (goW ?_)
 refine step_ruleDO rfl rfl (sx_ldEl (agg:=false) rfl rfl hg rfl) (goW ?_)
 rw [neI_false (rfl:x=x)]
 refine goW ?_
 refine⟨i+1,⟨by omega,by rw [wrNat (by omega)];try rfl,rfl⟩,by omega⟩
end

section
variable {gt:GT} {C:CallT}
end

section
variable {gt:GT} {C:CallT}
end

section
variable {gt:GT} {C:CallT}
end

section
variable {gt:GT} {C:CallT}
end
end Go.Dn

namespace Go.Dn
structure GdT (t:PT):Prop where
 sok:t.sok
 ok:t.ok
 n:t.n<1099511627776
end Go.Dn
namespace Go.Proofs.YtbojekglccdajaaGreatDoor
open Go.Dn
end Go.Proofs.YtbojekglccdajaaGreatDoor
namespace Go.Proofs.YtbojekglccdajaaGreatDoor.Fn
open Go.ChangeShapes Go.WideShapes Go.ChangeAt Go.RowKit Go.Dn
theorem sZ (l:List Int):Sta (.sl 1 stat (intsZ l)):=sta_sl (intsZ_sta l)
theorem sameG {a c:PT} (h:GdT a) (k:GdT c):PF A 31 [encT a,encT c] (.bool (sameB a c)):=same a c h.sok h.ok h.n k.sok k.ok k.n
theorem sameI (l:List Int) (h:l.length<4611686018427387904):PF A 14 [.sl 1 stat (intsZ l),.sl 1 stat (intsZ l)] (.bool true) :=
 pf Tryz.func14 (by kernel_rfl) C1.F14_ok (s2 (sZ l) (sZ l)) (sameI_wp hm h)
end Go.Proofs.YtbojekglccdajaaGreatDoor.Fn
