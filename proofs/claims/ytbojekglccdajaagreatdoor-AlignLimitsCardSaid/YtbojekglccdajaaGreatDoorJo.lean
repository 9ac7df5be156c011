/- Chapter 13: the table of costs and align.Cost, handed own lists of trees that are all the same. Chapter 13: the law 'AlignLimits', walked. 'emendlaw13.AlignLimits' as a contract. -/
import Derived.Test.YtbojekglccdajaaGreatDoorJn
set_option linter.unusedSimpArgs false
set_option linter.unusedVariables false
namespace Go.Dn
open Go Go.Proofs.C1
set_option maxRecDepth 100000
attribute [local irreducible] afterS keepE
abbrev allT:Nat→Nat→Bool:=fun _ _=>true
abbrev eN:AV:=.agg [.int .i64 1,.str [],.sl 1 ⟨none,0,some 0,true⟩ [],.sl 4 ⟨none,0,some 0,true⟩ []]
abbrev eZ:AV:=.agg zT
theorem rdN (n i:Nat) (h:i<n):(List.replicate n eN)[i]? = some eN:=by simp [h]
section
variable {gt:GT} {C:CallT}
abbrev TbN (v1 v2:AV) (mid:Nat):List AV:=[v1,v2,.map mid]
abbrev TbNS (S:St) (id mid:Nat) (v1 v2:AV):Prop:=lk S.boxes id=some (some (56,TbN v1 v2 mid))
set_option maxHeartbeats 4000000 in
theorem pairN_wp (hm:MonoC C) {S:St} {id mid n m:Nat} {o1 o2:SI} {x1 x2:List AV} {i j:Nat} (lo:x1.length=n) (lf:x2.length=m) (hi:i<n) (hj:j<m) (hlo:n<1099511627776) (hl:m<1099511627776) (hb:TbNS S id mid (.sl 4 o1 x1) (.sl 4 o2 x2))
  (he1:elems S true 4 o1 x1=some (List.replicate n eN)) (he2:elems S true 4 o2 x2=some (List.replicate m eN)) (hsm:C 31 [eN,eN] S fun r S'=>r=.ret (.bool true)∧S'=S) :
  wpF gt C F28 [.ptr id 0,.int .i64 ((i+1:Nat):Int),.int .i64 ((j+1:Nat):Int)] S fun r S'=>r=.ret (.int .i64 (prP (allT i j)))∧S'=S:=by
 refine⟨rfl,?_⟩
 refine goW ?_
 refine step_ruleDO rfl rfl (sx_ldTb (v:=.sl 4 o1 x1) hb rfl rfl) (goW ?_)
 rw [wr64 (n:=((i+1:Nat):Int)-1) (by omega) (by omega),show ((i+1:Nat):Int)-1=(i:Int) by omega]
 refine step_ruleDO rfl rfl (sx_ia (k:=i) rfl rfl (by omega)) (goW ?_)
 refine step_ruleDO rfl rfl (sx_ldEl (agg:=true) (v:=eN) rfl he1 (rdN n i hi) rfl) (goW ?_)
 refine step_ruleDO rfl rfl (sx_ldTb (v:=.sl 4 o2 x2) hb rfl rfl) (goW ?_)
 rw [wr64 (n:=((j+1:Nat):Int)-1) (by omega) (by omega),show ((j+1:Nat):Int)-1=(j:Int) by omega]
 refine step_ruleDO rfl rfl (sx_ia (k:=j) rfl rfl (by omega)) (goW ?_)
 refine step_ruleDO rfl rfl (sx_ldEl (agg:=true) (v:=eN) rfl he2 (rdN m j hj) rfl) (goW ?_)
 refine call_ruleD (by rfl) (hm _ _ _ _ _ hsm ?_)
 rintro r S2 ⟨rfl,hS⟩
 subst hS
 refine goW ?_
 exact⟨_,rfl,rfl,rfl⟩
abbrev R_tbN (R:List Rs) (mid id:Nat) (v1 v2:AV) (M:List ((Int×Int)×Int)):List Rs:=R++[.mp mid (mapE kv2 M),.bx id 56 (TbN v1 v2 mid)]
section
variable {R:List Rs} {mid id:Nat} {v1 v2:AV} {M M':List ((Int×Int)×Int)}
theorem R_tbN.mp:(R_tbN R mid id v1 v2 M)[R.length]? = some (.mp mid (mapE kv2 M)):=by simp [R_tbN]
theorem R_tbN.bx:(R_tbN R mid id v1 v2 M)[R.length+1]? = some (.bx id 56 (TbN v1 v2 mid)):=by simp [R_tbN]
theorem R_tbN.set:(R_tbN R mid id v1 v2 M).set R.length (.mp mid (mapE kv2 M'))=R_tbN R mid id v1 v2 M':=by simp [R_tbN]
theorem R_tbN.out0 {R0:List Rs} {a b:Rs}:(R_tbN (R0++[a,b]) mid id v1 v2 M)[R0.length]? = some a:=by simp [R_tbN]
theorem R_tbN.out1 {R0:List Rs} {a b:Rs}:(R_tbN (R0++[a,b]) mid id v1 v2 M)[R0.length+1]? = some b:=by simp [R_tbN]
theorem R_tbN.box {S:St} (h:Hs S (R_tbN R mid id v1 v2 M)):TbNS S id mid v1 v2:=(h.ok _ _ R_tbN.bx).2
end
set_option maxHeartbeats 16000000 in
theorem fillN_wp (hm:MonoC C) {S:St} {R:List Rs} {id mid:Nat} {n m:Nat} {o1 o2:SI} {x1 x2:List AV} (lo:x1.length=n) (lf:x2.length=m) (hlo:n<1099511627776) (hl:m<1099511627776) (hR:Hs S (R_tbN R mid id (.sl 4 o1 x1) (.sl 4 o2 x2) []))
  (hpr:∀(S:St) (M:List ((Int×Int)×Int)) (i j:Nat),i<n→j<m→Hs S (R_tbN R mid id (.sl 4 o1 x1) (.sl 4 o2 x2) M)→C 28 [.ptr id 0,.int .i64 ((i+1:Nat):Int),.int .i64 ((j+1:Nat):Int)] S fun r S'=>r=.ret (.int .i64 (prP (allT i j)))∧S'=S) :
  wpF gt C F27 [.ptr id 0] S fun r S'=>r=.ret (.tup [])∧∃M,Hs S' (R_tbN R mid id (.sl 4 o1 x1) (.sl 4 o2 x2) M)∧∀a b:Nat,a≤n→b≤m→(getM ((a:Int),(b:Int)) M).getD 0=(costP allT a b:Int):=by
 have hb:=R_tbN.box hR
 refine⟨rfl,?_⟩
 refine goW ?_
 refine step_ruleO (sx_ldTb (v:=.sl 4 o1 x1) hb rfl rfl) (goW ?_)
 rw [lo,wrNat (by omega)]
 refine loop_rule hm (α:=Nat) (fun i env S'=>∃M,Hs S' (R_tbN R mid id (.sl 4 o1 x1) (.sl 4 o2 x2) M)∧Filled allT M m i 0∧i≤n+1∧env=E_fill id n i) (fun i=>n+1-i) ?_ (a:=0)
  ⟨[],hR,fun a b h=>by omega,Nat.zero_le _,rfl⟩
 clear hR hb
 rintro i env S' ⟨M,hR,hF,hi,rfl⟩
 have hb:=R_tbN.box hR
 refine goW ?_
 by_cases c:(i:Int)<((n+1:Nat):Int)
 case neg =>
  rw [dF c]
  refine goW ?_
  exact⟨_,rfl,rfl,M,hR,fun a b ha hb=>hF a b (by omega)⟩
 rw [dT c]
 refine goW ?_
 refine step_ruleO (sx_ldTb (v:=.sl 4 o2 x2) hb rfl rfl) (goW ?_)
 rw [lf,wrNat (by omega)]
 refine loop_rule hm (α:=Nat) (fun j env S'=>∃M,Hs S' (R_tbN R mid id (.sl 4 o1 x1) (.sl 4 o2 x2) M)∧Filled allT M m i j∧j≤m+1∧env=E_fill2 id n m i j) (fun j=>m+1-j) ?_ (a:=0)
  ⟨M,hR,hF,Nat.zero_le _,rfl⟩
 clear hR hb hF
 rintro j env S' ⟨M,hR,hF,hj,rfl⟩
 have hb:=R_tbN.box hR
 refine goW ?_
 by_cases c2:(j:Int)<((m+1:Nat):Int)
 case neg =>
  rw [dF c2]
  refine goW ?_
  rw [wrNat (by omega)]
  exact⟨i+1,⟨M,hR,fun a b h=>hF a b (by omega),by omega,rfl⟩,by omega⟩
 rw [dT c2]
 have fin:∀(v:Int) (S2:St),v=(costP allT i j:Int)→Hs S2 ((R_tbN R mid id (.sl 4 o1 x1) (.sl 4 o2 x2) M).set R.length (.mp mid (mapE kv2 (putM ((i:Int),(j:Int)) v M)))) →
   ∃b_1:Nat,(∃M,Hs S2 (R_tbN R mid id (.sl 4 o1 x1) (.sl 4 o2 x2) M)∧Filled allT M m i b_1∧b_1≤m+1∧E_fill2 id n m i ((j+1:Nat):Int)=E_fill2 id n m i b_1)∧m+1-b_1<m+1-j:=fun v S2 hv h=>by
  rw [R_tbN.set] at h
  exact⟨j+1,⟨_,h,hF.put hv,by omega,rfl⟩,by omega⟩
 have border:i=0∨j=0→(2:Int)*((i:Int)+j)=(costP allT i j:Int):=fun h=>by
  rcases h with rfl | rfl
  ·rw [costP_0j];omega
  ·rw [costP_i0];omega
 refine goW ?_
 by_cases ci:(i:Int)=0
 ·have hbo:=border (.inl (by omega))
  rw [eqI_true ci]
  refine goW ?_
  refine step_ruleO (sx_ldTb (v:=.map mid) hb rfl rfl) (goW ?_)
  rw [wr64 (n:=(i:Int)+j) (by omega) (by omega),wr64 (n:=(2:Int)*((i:Int)+j)) (by omega) (by omega)]
  refine st_runP (r_mupM keyOK2 (s:=((i:Int),(j:Int))) hR _ R_tbN.mp rfl rfl rfl) trivial ?_
  intro S2 hR2
  refine goW ?_
  rw [wrNat (by omega)]
  exact fin _ S2 hbo hR2
 rw [eqI_false ci]
 refine goW ?_
 by_cases cj:(j:Int)=0
 ·have hbo:=border (.inr (by omega))
  rw [eqI_true cj]
  refine goW ?_
  refine step_ruleO (sx_ldTb (v:=.map mid) hb rfl rfl) (goW ?_)
  rw [wr64 (n:=(i:Int)+j) (by omega) (by omega),wr64 (n:=(2:Int)*((i:Int)+j)) (by omega) (by omega)]
  refine st_runP (r_mupM keyOK2 (s:=((i:Int),(j:Int))) hR _ R_tbN.mp rfl rfl rfl) trivial ?_
  intro S2 hR2
  refine goW ?_
  rw [wrNat (by omega)]
  exact fin _ S2 hbo hR2
 rw [eqI_false cj]
 clear border
 obtain⟨i,rfl⟩:∃k,i=k+1:=⟨i-1,by omega⟩
 obtain⟨j,rfl⟩:∃k,j=k+1:=⟨j-1,by omega⟩
 have f1:=hF i j (by omega)
 have f2:=hF i (j+1) (by omega)
 have f3:=hF (i+1) j (by omega)
 have hpr:=hpr S' M i j (by omega) (by omega) hR
 have hc:=costP_ss (eq:=allT) i j
 have b1:=costP_le (eq:=allT) i j
 have b2:=costP_le (eq:=allT) i (j+1)
 have b3:=costP_le (eq:=allT) (i+1) j
 have b4:prP (allT i j)≤3:=by unfold prP;split<;>omega
 generalize costP allT i j=c1 at f1 hc b1
 generalize costP allT i (j+1)=c2 at f2 hc b2
 generalize costP allT (i+1) j=c3 at f3 hc b3
 generalize prP (allT i j)=pr at hpr hc b4
 have e1:∀k:Nat,((k+1:Nat):Int)-1=k:=fun k=>by omega
 refine goW ?_
 refine step_ruleDO rfl rfl (sx_ldTb (v:=.map mid) hb rfl rfl) (goW ?_)
 refine step_ruleDO rfl rfl (sx_ldTb (v:=.map mid) hb rfl rfl) (goW ?_)
 rw [wr64 (n:=((i+1:Nat):Int)-1) (by omega) (by omega),wr64 (n:=((j+1:Nat):Int)-1) (by omega) (by omega),e1 i,e1 j]
 refine step_ruleDO rfl rfl (sx_lkpV keyOK2 (s:=((i:Int),(j:Int))) hR _ R_tbN.mp rfl rfl f1) (goW ?_)
 refine step_ruleDO rfl rfl (sx_ldTb (v:=.map mid) hb rfl rfl) (goW ?_)
 rw [wr64 (n:=((i+1:Nat):Int)-1) (by omega) (by omega),e1 i]
 refine step_ruleDO rfl rfl (sx_lkpV keyOK2 (s:=((i:Int),((j+1:Nat):Int))) hR _ R_tbN.mp rfl rfl f2) (goW ?_)
 refine step_ruleDO rfl rfl (sx_ldTb (v:=.map mid) hb rfl rfl) (goW ?_)
 rw [wr64 (n:=((j+1:Nat):Int)-1) (by omega) (by omega),e1 j]
 refine step_ruleDO rfl rfl (sx_lkpV keyOK2 (s:=(((i+1:Nat):Int),(j:Int))) hR _ R_tbN.mp rfl rfl f3) (goW ?_)
 refine call_ruleD (by rfl) (hm _ _ _ _ _ hpr ?_)
 rintro r S2 ⟨rfl,hS⟩
 subst hS
 refine⟨(stab_at rfl rfl trivial (sx_ldTb (v:=.map mid) hb rfl rfl) rfl beqA_map (stab_at rfl rfl trivial (sx_ldTb (v:=.map mid) hb rfl rfl) rfl beqA_map (stab_at rfl rfl trivial (sx_lkpV keyOK2 (s:=((i:Int),(j:Int))) hR _ R_tbN.mp rfl rfl f1) rfl beqA_int (stab_at rfl rfl trivial (sx_ldTb (v:=.map mid) hb rfl rfl) rfl beqA_map (stab_at rfl rfl trivial (sx_lkpV keyOK2 (s:=((i:Int),((j+1:Nat):Int))) hR _ R_tbN.mp rfl rfl f2) rfl beqA_int (stab_at rfl rfl trivial (sx_ldTb (v:=.map mid) hb rfl rfl) rfl beqA_map (stab_at rfl rfl trivial (sx_lkpV keyOK2 (s:=(((i+1:Nat):Int),(j:Int))) hR _ R_tbN.mp rfl rfl f3) rfl beqA_int stab_nil))))))),?_⟩
 refine goW ?_
 rw [wr64 (n:=(c1:Int)+pr) (by omega) (by omega),wr64 (n:=(c2:Int)+2) (by omega) (by omega),wr64 (n:=(c3:Int)+2) (by omega) (by omega)]
 refine st_runPD (r_mupM keyOK2 (s:=(((i+1:Nat):Int),((j+1:Nat):Int))) hR _ R_tbN.mp rfl rfl rfl) trivial rfl rfl ?_
 intro S3 hR3
 refine goW ?_
 rw [wrNat (by omega)]
 exact fin _ S3 (by rw [hc,min_bif,min_bif];omega) hR3
abbrev E_c0N (o1:SI) (x1:List AV) (o2:SI) (x2:List AV) (t m:Nat) (i:Int):Env:=[(0,.val (.sl 4 o1 x1)),(1,.val (.sl 4 o2 x2)),(7,.val (.sl 1 ⟨some (t,t),0,some m,false⟩ (List.replicate m (.int .i64 0)))),(28,.val (.int .i64 m)),(29,.val (.int .i64 i))]
abbrev E_cbN (o1:SI) (x1:List AV) (o2:SI) (x2:List AV) (t m id:Nat) (i j:Int):Env:=[(0,.val (.sl 4 o1 x1)),(1,.val (.sl 4 o2 x2)),(7,.val (.sl 1 ⟨some (t,t),0,some m,false⟩ (List.replicate m (.int .i64 0)))),(9,.val (.ptr id 0)),(10,.val (.int .i64 i)),(11,.val (.int .i64 j))]
set_option maxHeartbeats 16000000 in
theorem costN_wp (hm:MonoC C) {S:St} {R0:List Rs} {n m:Nat} {o1 o2:SI} {x1 x2:List AV} (lo:x1.length=n) (lf:x2.length=m) (hn0:0<n) (hm0:0<m) (hlo:n<549755813888) (hl:m<549755813888) (hbig:¬bigP n m) (hR0:Hs S R0)
  (hpr:∀(S:St) (R1:List Rs) (id mid:Nat) (M:List ((Int×Int)×Int)) (i j:Nat),i<n→j<m→Hs S (R_tbN (R0++R1) mid id (.sl 4 o1 x1) (.sl 4 o2 x2) M)→C 28 [.ptr id 0,.int .i64 ((i+1:Nat):Int),.int .i64 ((j+1:Nat):Int)] S fun r S'=>r=.ret (.int .i64 (prP (allT i j)))∧S'=S)
  (hfl:∀(S:St) (R1:List Rs) (id mid:Nat),Hs S (R_tbN (R0++R1) mid id (.sl 4 o1 x1) (.sl 4 o2 x2) [])→C 27 [.ptr id 0] S fun r S'=>r=.ret (.tup [])∧∃M,Hs S' (R_tbN (R0++R1) mid id (.sl 4 o1 x1) (.sl 4 o2 x2) M)∧∀a b:Nat,a≤n→b≤m→(getM ((a:Int),(b:Int)) M).getD 0=(costP allT a b:Int)) :
  wpF gt C F11 [.sl 4 o1 x1,.sl 4 o2 x2] S fun r S'=>∃t b,r=.ret (.tup [.sl 1 ⟨some (t,t),0,some m,false⟩ (List.replicate m (.int .i64 0)),.int .i64 (costP allT n m),.int .i64 0])∧Hs S' (R0++[.bx b 3 ((intsZ (fromP allT n m)).flatMap AV.cells++[]),.mk t t b]):=by
 have hq:m≤65536 / n:=by
  rcases Nat.lt_or_ge (65536 / n) m with h2 | h2
  ·exact absurd ⟨hn0,h2⟩ hbig
  ·exact h2
 clear hbig
 refine⟨rfl,?_⟩
 refine goW ?_
 rw [dT (show (x1.length:Int) > 0 by omega)]
 refine goW ?_
 refine st_any (by exact rfl) (sx_quo (a:=65536) (n:=x1.length) rfl rfl (by omega) (by omega)) ?_
 rw [lo]
 generalize 65536 / n=q at *
 refine goW ?_
 rw [dF (show ¬(x2.length:Int) > (q:Int) by omega)]
 refine goW ?_
 have hpos:=hm0
 refine r_mks (n:=m) (c:=m) hR0 trivial (by rw [←lf];rfl) (by rw [←lf];rfl) (Nat.le_refl _) hpos (by omega) (by omega) rfl ?_
 intro t b S hS
 have hA:=ArZ.ofC hS
 clear hS
 refine goW ?_
 rw [List.length_replicate]
 refine loop_rule hm (α:=Nat) (fun i env S'=>ArZ S' R0 3 t b (List.replicate i (-1)++List.replicate (m-i) 0) []∧i≤m∧env=E_c0N o1 x1 o2 x2 t m i) (fun i=>m-i) ?_ (a:=0) ⟨hA,Nat.zero_le _,rfl⟩
 clear hA
 rintro i env S' ⟨hA,hi,rfl⟩
 refine goW ?_
 by_cases c:(i:Int)<m
 case pos =>
  rw [dT c]
  refine goW ?_
  refine step_ruleO (sx_ia (k:=i) rfl rfl (by rw [List.length_replicate];omega)) (goW ?_)
  refine st_runP (ArZ.st hA (k:=i) (v:=-1) (by simp;omega) rfl rfl (by simp;omega)) trivial ?_
  intro S2 hA2
  refine goW ?_
  refine⟨i+1,⟨?_,by omega,by rw [wrNat (by omega)];try rfl⟩,by omega⟩
  rw [show m-i=(m-(i+1))+1 by omega,List.replicate_succ,set_mid (by simp)] at hA2
  rw [List.replicate_succ',aA]
  exact hA2
 rw [dF c]
 obtain rfl:m=i:=by omega
 rw [Nat.sub_self,List.replicate_zero,List.append_nil] at hA
 have hlr:(List.replicate m (AV.int .i64 0)).length=(List.replicate m (-1:Int)).length:=by simp
 refine goW ?_
 rw [eqI_false (show ¬(x1.length:Int)=0 by omega)]
 refine goW ?_
 rw [eqI_false (show ¬(x2.length:Int)=0 by omega)]
 refine goW ?_
 have hT0:=(Hs.newMap hA).newBox 56 (TbN (.sl 4 o1 x1) (.sl 4 o2 x2) S'.nm)
 have hTe:(R0++[.bx b 3 ((intsZ (List.replicate m (-1))).flatMap AV.cells++[]),.mk t t b]++[.mp S'.nm []])++[.bx S'.nb 56 (TbN (.sl 4 o1 x1) (.sl 4 o2 x2) S'.nm)]=R_tbN (R0++[.bx b 3 ((intsZ (List.replicate m (-1))).flatMap AV.cells++[]),.mk t t b]) S'.nm S'.nb (.sl 4 o1 x1) (.sl 4 o2 x2) []:=by
  simp [R_tbN,mapE]
 have hT:=hT0
 rw [hTe] at hT
 clear hTe
 clear hlr hT0
 generalize hid:S'.nb=id at hT
 generalize hmid:S'.nm=mid at hT
 have hT2:=hfl _ _ id mid hT
 subst hid
 subst hmid
 refine call_rule (by rfl) (hm _ _ _ _ _ hT2 ?_)
 clear hT hT2 hA
 generalize S'.nb=id
 generalize S'.nm=mid
 clear S'
 rintro r S2 ⟨rfl,M,hT,hM⟩
 refine goW ?_
 refine loop_rule hm (α:=Nat×Nat) (fun a env S'=>∃suf,Hs S' (R_tbN (R0++[.bx b 3 ((intsZ (List.replicate a.2 (-1)++suf)).flatMap AV.cells++[]),.mk t t b]) mid id (.sl 4 o1 x1) (.sl 4 o2 x2) M)∧a.1≤n∧a.2≤m∧a.2+suf.length=m ∧
  fromP (allT) n m=fromP (allT) a.1 a.2++suf∧env=E_cbN o1 x1 o2 x2 t m id a.1 a.2) (fun a=>a.1+a.2) ?_ (a:=(n,m)) ⟨[],by simpa only [List.append_nil] using hT,Nat.le_refl _,Nat.le_refl _,rfl,by rw [List.append_nil],?_⟩
 case refine_2=>simp only [E_cb,lo,lf];try rfl
 clear hT S2
 rintro⟨i,j⟩ env S' ⟨suf,hT,hi,hj,hs,hp,rfl⟩
 simp only at hT hi hj hs hp
 have hb:=R_tbN.box hT
 have fin:fromP allT i j=List.replicate j (-1)→∃t2 b2,Res.ret (.tup [.sl 1 ⟨some (t,t),0,some m,false⟩ (List.replicate m (.int .i64 0)),.int .i64 (costP allT n m),.int .i64 0])=.ret (.tup [.sl 1 ⟨some (t2,t2),0,some m,false⟩ (List.replicate m (.int .i64 0)),.int .i64 (costP allT n m),.int .i64 0])∧Hs S' (R0++[.bx b2 3 ((intsZ (fromP allT n m)).flatMap AV.cells++[]),.mk t2 t2 b2]):=fun e=>by
  refine⟨t,b,rfl,?_⟩
  rw [hp,e]
  exact hT.less (fun x=>x) (fun _ _ _ _ e=>e) fun x hx=>by
   unfold R_tbN
   rw [List.getElem?_append_left hx]
 have hfin:=hM n m (Nat.le_refl _) (Nat.le_refl _)
 refine goW ?_
 by_cases zi:(i:Int)=0
 ·rw [dF (show ¬(i:Int) > 0 by omega)]
  refine goW ?_
  refine step_ruleDO rfl rfl (sx_ldTb (v:=.map mid) hb rfl rfl) (goW ?_)
  rw [lo,lf]
  refine step_ruleDO rfl rfl (sx_lkpV keyOK2 (s:=((n:Int),(m:Int))) hT _ R_tbN.mp rfl rfl hfin) (goW ?_)
  exact⟨_,rfl,fin (by rw [Int.natCast_eq_zero.1 zi,fromP_0])⟩
 rw [dT (show (i:Int) > 0 by omega)]
 refine goW ?_
 by_cases zj:(j:Int)=0
 ·rw [dF (show ¬(j:Int) > 0 by omega)]
  refine goW ?_
  refine step_ruleDO rfl rfl (sx_ldTb (v:=.map mid) hb rfl rfl) (goW ?_)
  rw [lo,lf]
  refine step_ruleDO rfl rfl (sx_lkpV keyOK2 (s:=((n:Int),(m:Int))) hT _ R_tbN.mp rfl rfl hfin) (goW ?_)
  exact⟨_,rfl,fin (by rw [Int.natCast_eq_zero.1 zj,fromP_i0];rfl)⟩
 rw [dT (show (j:Int) > 0 by omega)]
 clear fin hfin
 obtain⟨i,rfl⟩:∃k,i=k+1:=⟨i-1,by omega⟩
 obtain⟨j,rfl⟩:∃k,j=k+1:=⟨j-1,by omega⟩
 have f0:=hM (i+1) (j+1) hi hj
 have f1:=hM i j (by omega) (by omega)
 have f2:=hM i (j+1) (by omega) hj
 have hpr:=hpr S' _ id mid M i j (by omega) (by omega) hT
 rw [fromP_ss] at hp
 have b1:=costP_le (eq:=allT) i j
 have b2:=costP_le (eq:=allT) i (j+1)
 have b0:=costP_le (eq:=allT) (i+1) (j+1)
 have b4:prP (allT i j)≤3:=by unfold prP;split<;>omega
 have e1:∀k:Nat,((k+1:Nat):Int)-1=k:=fun k=>by omega
 have e2:m=(List.replicate (j+1) (-1:Int)++suf).length:=by simp;omega
 refine goW ?_
 refine step_ruleO (sx_ldTb (v:=.map mid) hb rfl rfl) (goW ?_)
 refine step_ruleO (sx_lkpV keyOK2 (s:=(((i+1:Nat):Int),((j+1:Nat):Int))) hT _ R_tbN.mp rfl rfl f0) (goW ?_)
 refine step_ruleDO rfl rfl (sx_ldTb (v:=.map mid) hb rfl rfl) (goW ?_)
 rw [wr64 (n:=((i+1:Nat):Int)-1) (by omega) (by omega),wr64 (n:=((j+1:Nat):Int)-1) (by omega) (by omega),e1 i,e1 j]
 refine step_ruleDO rfl rfl (sx_lkpV keyOK2 (s:=((i:Int),(j:Int))) hT _ R_tbN.mp rfl rfl f1) (goW ?_)
 refine call_ruleD (by rfl) (hm _ _ _ _ _ hpr ?_)
 rintro r S2 ⟨rfl,hS⟩
 subst hS
 refine⟨stab_at rfl rfl trivial (sx_ldTb (v:=.map mid) hb rfl rfl) rfl beqA_map (stab_at rfl rfl trivial (sx_lkpV keyOK2 (s:=((i:Int),(j:Int))) hT _ R_tbN.mp rfl rfl f1) rfl beqA_int stab_nil),?_⟩
 refine goW ?_
 rw [wr64 (n:=(costP (allT) i j:Int)+prP (allT i j)) (by omega) (by omega)]
 by_cases q1:(costP (allT) (i+1) (j+1):Int)=(costP (allT) i j:Int)+prP (allT i j)
 ·rw [eqI_true q1]
  rw [if_pos (by omega)] at hp
  refine goW ?_
  rw [wr64 (n:=((i+1:Nat):Int)-1) (by omega) (by omega),wr64 (n:=((j+1:Nat):Int)-1) (by omega) (by omega),e1 i,e1 j]
  refine step_ruleO (sx_ia (k:=j) rfl rfl (by rw [List.length_replicate];omega)) (goW ?_)
  refine st_runP (arr_st hT R0.length (j:=R0.length+1) (k:=j) (so:=0) (off:=0) (v:=.int .i64 (i:Int)) (v':=.int .i64 (i:Int)) R_tbN.out0 R_tbN.out1 (fun y hy=>(intsZ_el _ y hy).1) rfl rfl rfl (by rw [List.length_replicate];omega) (by rw [intsZ_len];omega) (Nat.le_refl 1) (by
   have hc:=(intsZ_el (List.replicate (j+1) (-1)++suf) _ (List.getElem_mem (n:=0+j) (by rw [intsZ_len];omega))).1
   match h:((intsZ (List.replicate (j+1) (-1)++suf))[0+j]'(by rw [intsZ_len];omega)).cells,hc with
   | [c],_=>rfl)) trivial ?_
  intro S3 hT3
  refine goW ?_
  rw [wr64 (n:=((i+1:Nat):Int)-1) (by omega) (by omega),wr64 (n:=((j+1:Nat):Int)-1) (by omega) (by omega),e1 i,e1 j]
  refine⟨(i,j),⟨(i:Int)::suf,?_,by simp only;omega,by simp only;omega,by simp;omega,by rw [hp,aA];rfl,rfl⟩,by simp only;omega⟩
  have e3:(intsZ (List.replicate (j+1) (-1)++suf)).set (0+j) (.int .i64 (i:Int))=intsZ (List.replicate j (-1)++(i:Int)::suf):=by
   rw [Nat.zero_add,show intsZ (List.replicate (j+1) (-1)++suf)=intsZ (List.replicate j (-1))++(.int .i64 (-1)::intsZ suf) by rw [List.replicate_succ',aA,intsZ_app];rfl,set_mid (by rw [intsZ_len];simp),intsZ_app];rfl
  rw [e3] at hT3
  simpa [R_tbN] using hT3
 rw [eqI_false q1]
 rw [if_neg (by omega)] at hp
 refine goW ?_
 refine step_ruleO (sx_ldTb (v:=.map mid) hb rfl rfl) (goW ?_)
 rw [wr64 (n:=((i+1:Nat):Int)-1) (by omega) (by omega),e1 i]
 refine step_ruleO (sx_lkpV keyOK2 (s:=((i:Int),((j+1:Nat):Int))) hT _ R_tbN.mp rfl rfl f2) (goW ?_)
 rw [wr64 (n:=(costP (allT) i (j+1):Int)+2) (by omega) (by omega)]
 by_cases q2:(costP (allT) (i+1) (j+1):Int)=(costP (allT) i (j+1):Int)+2
 ·rw [eqI_true q2]
  rw [if_pos (by omega)] at hp
  refine goW ?_
  rw [wr64 (n:=((i+1:Nat):Int)-1) (by omega) (by omega),e1 i]
  exact⟨(i,j+1),⟨suf,hT,by simp only;omega,by simp only;omega,by simp only;omega,hp,rfl⟩,by simp only;omega⟩
 ·rw [eqI_false q2]
  rw [if_neg (by omega)] at hp
  refine goW ?_
  rw [wr64 (n:=((j+1:Nat):Int)-1) (by omega) (by omega),e1 j]
  refine⟨(i+1,j),⟨-1::suf,?_,by simp only;omega,by simp only;omega,by simp;omega,by rw [hp,aA];rfl,rfl⟩,by simp only;omega⟩
  rw [List.replicate_succ',aA] at hT
  exact hT
set_option maxHeartbeats 4000000 in
theorem costNB_wp (hm:MonoC C) {S:St} {n m:Nat} {o1 o2:SI} {x1 x2:List AV} (lo:x1.length=n) (lf:x2.length=m) (hbig:bigP n m) :
  wpF gt C F11 [.sl 4 o1 x1,.sl 4 o2 x2] S fun r S'=>r=.ret (.tup [.sl 1 ⟨none,0,some 0,true⟩ [],.int .i64 0,.int .i64 52])∧S'=S:=by
 obtain⟨h1,h2⟩:=hbig
 refine⟨rfl,?_⟩
 refine goW ?_
 rw [dT (show (x1.length:Int) > 0 by omega)]
 refine goW ?_
 refine st_any (by exact rfl) (sx_quo (a:=65536) (n:=x1.length) rfl rfl (by omega) (by omega)) ?_
 rw [lo]
 generalize 65536 / n=q at *
 refine goW ?_
 rw [lf,dT (show (m:Int) > (q:Int) by omega)]
 refine goW ?_
 exact⟨_,rfl,rfl,rfl⟩
end

section
variable {gt:GT} {C:CallT}
set_option maxHeartbeats 2000000 in
theorem wthinG_wp {a lo hi:Int} {n:Nat} (h:0<n) (hn:hi-lo+1=n) (b1:-1000≤lo) (b2:hi≤1000):wpF gt C F25 [.int .i64 a,.int .i64 lo,.int .i64 hi] St.init (Ret (.int .i64 (lo+a % n))):=by
 have t1:=Int.tmod_lt_of_pos a (show (0:Int)<n by omega)
 have t2:-(n:Int)<a.tmod n:=by have:=Int.lt_tmod_of_pos a (show (0:Int)<n by omega);omega
 refine⟨rfl,?_⟩
 refine goW ?_
 rw [wr64 (n:=hi-lo) (by omega) (by omega),wr64 (n:=hi-lo+1) (by omega) (by omega),hn]
 refine step_ruleO (sx_rem rfl rfl (by omega)) (goW ?_)
 have em:=Int.emod_nonneg a (show (n:Int)≠0 by omega)
 have em2:=Int.emod_lt_of_pos a (show (0:Int)<n by omega)
 have key:a % n=if a.tmod n<0 then a.tmod n+n else a.tmod n:=by
  rw [Int.tmod_eq_emod]
  have e:((n:Int).natAbs:Int)=n:=by omega
  split<;>split<;>omega
 by_cases c:a.tmod n<0
 ·rw [dT c]
  rw [if_pos c] at key
  refine goW ?_
  rw [wr64 (n:=a.tmod n+hi) (by omega) (by omega),wr64 (n:=a.tmod n+hi-lo) (by omega) (by omega),wr64 (n:=a.tmod n+hi-lo+1) (by omega) (by omega),wr64 (n:=lo+(a.tmod n+hi-lo+1)) (by omega) (by omega)]
  refine⟨_,rfl,?_⟩
  rw [show lo+(a.tmod n+hi-lo+1)=lo+a % n by omega]
  exact Ret.sta trivial
 ·rw [dF c]
  rw [if_neg c] at key
  refine goW ?_
  rw [wr64 (n:=lo+a.tmod n) (by omega) (by omega)]
  refine⟨_,rfl,?_⟩
  rw [show lo+a.tmod n=lo+a % n by omega]
  exact Ret.sta trivial
abbrev slM (t m:Nat):AV:=.sl 1 ⟨some (t,t),0,some m,false⟩ (List.replicate m (.int .i64 0))
set_option maxHeartbeats 4000000 in
theorem doN_wp (hm:MonoC C) {S:St} {R0:List Rs} {n m:Nat} {v1 v2:AV}
  (hco:C 11 [v1,v2] S fun r S'=>∃t b,r=.ret (.tup [slM t m,.int .i64 (costP allT n m),.int .i64 0])∧Hs S' (R0++[.bx b 3 ((intsZ (fromP allT n m)).flatMap AV.cells++[]),.mk t t b])) :
  wpF gt C F13 [.int .i64 3,.str [],v1,v2] S fun r S'=>∃t b,r=.ret (.tup [slM t m,.int .i64 0])∧Hs S' (R0++[.bx b 3 ((intsZ (fromP allT n m)).flatMap AV.cells++[]),.mk t t b]):=by
 refine⟨rfl,?_⟩
 refine goW ?_
 refine call_rule (by rfl) (hm _ _ _ _ _ hco ?_)
 rintro r S2 ⟨t,b,rfl,h⟩
 refine goW ?_
 exact⟨_,rfl,t,b,rfl,h⟩
set_option maxHeartbeats 4000000 in
theorem doNB_wp (hm:MonoC C) {S:St} {v1 v2:AV}
  (hco:C 11 [v1,v2] S fun r S'=>r=.ret (.tup [.sl 1 ⟨none,0,some 0,true⟩ [],.int .i64 0,.int .i64 52])∧S'=S) :
  wpF gt C F13 [.int .i64 3,.str [],v1,v2] S fun r S'=>r=.ret (.tup [.sl 1 ⟨none,0,some 0,true⟩ [],.int .i64 52])∧S'=S:=by
 refine⟨rfl,?_⟩
 refine goW ?_
 refine call_rule (by rfl) (hm _ _ _ _ _ hco ?_)
 rintro r S2 ⟨rfl,hS⟩
 subst hS
 refine goW ?_
 exact⟨_,rfl,rfl,rfl⟩
def filN (n i:Nat):List AV:=List.replicate i eN++List.replicate (n-i) eZ
theorem filN_len {n i:Nat} (h:i≤n):(filN n i).length=n:=by simp [filN];omega
theorem filN_el {n i:Nat}:∀y∈filN n i,El true 4 y:=fun y hy=>by
 unfold filN at hy
 rcases List.mem_append.1 hy with h | h
 ·rw [List.eq_of_mem_replicate h];exact⟨rfl,rfl⟩
 ·rw [List.eq_of_mem_replicate h];exact⟨rfl,rfl⟩
theorem filN_at {n i:Nat} (h:i<n):(filN n i)[0+i]'(by rw [filN_len (Nat.le_of_lt h)];omega)=eZ:=by
 simp [filN,List.getElem_append_right]
theorem filN_set {n i:Nat} (h:i<n):(filN n i).set (0+i) eN=filN n (i+1):=by
 unfold filN
 rw [Nat.zero_add,show n-i=(n-(i+1))+1 by omega,List.replicate_succ,set_mid (by simp),List.replicate_succ',aA]
 rfl
theorem filN_full (n:Nat):filN n n=List.replicate n eN:=by simp [filN]
abbrev R_lim (t1 b1 t2 b2 n m i j:Nat):List Rs:=[.bx b1 47 ((filN n i).flatMap AV.cells++[]),.mk t1 t1 b1,.bx b2 47 ((filN m j).flatMap AV.cells++[]),.mk t2 t2 b2]
abbrev slT (t n:Nat):AV:=.sl 4 ⟨some (t,t),0,some n,false⟩ (List.replicate n eZ)
abbrev E_l1 (d:Int) (t1 t2 n m:Nat) (i:Int):Env:=[(3,.val (.int .i64 d)),(4,.val (slT t1 n)),(5,.val (slT t2 m)),(6,.val (.int .i64 i))]
abbrev E_l2 (d:Int) (t1 t2 n m:Nat) (i:Int):Env:=[(3,.val (.int .i64 d)),(4,.val (slT t1 n)),(5,.val (slT t2 m)),(7,.val (.int .i64 i))]
set_option maxHeartbeats 16000000 in
theorem alignLimits_wp (hm:MonoC C) (hruns:PF C 3 [] (.bool true)) {a d:Int} (hd:-1≤d∧d≤1) (hw:PF C 25 [.int .i64 a,.int .i64 (-1),.int .i64 1] (.int .i64 d))
  (hco:∀{S:St} {R0:List Rs} {o1 o2:SI} {x1 x2:List AV} {n m:Nat},x1.length=n→x2.length=m→0<n→0<m→n<1000→m<1000→¬bigP n m→Hs S R0→(∀S' R',Hs S' (R0++R')→elems S' true 4 o1 x1=some (List.replicate n eN)∧elems S' true 4 o2 x2=some (List.replicate m eN)) →
   C 11 [.sl 4 o1 x1,.sl 4 o2 x2] S fun r S'=>∃t b,r=.ret (.tup [slM t m,.int .i64 (costP allT n m),.int .i64 0])∧Hs S' (R0++[.bx b 3 ((intsZ (fromP allT n m)).flatMap AV.cells++[]),.mk t t b]))
  (hdo:∀{S:St} {R0:List Rs} {o1 o2:SI} {x1 x2:List AV} {n m:Nat},x1.length=n→x2.length=m→0<n→0<m→n<1000→m<1000→¬bigP n m→Hs S R0→(∀S' R',Hs S' (R0++R')→elems S' true 4 o1 x1=some (List.replicate n eN)∧elems S' true 4 o2 x2=some (List.replicate m eN)) →
   C 13 [.int .i64 3,.str [],.sl 4 o1 x1,.sl 4 o2 x2] S fun r S'=>∃t b,r=.ret (.tup [slM t m,.int .i64 0])∧Hs S' (R0++[.bx b 3 ((intsZ (fromP allT n m)).flatMap AV.cells++[]),.mk t t b]))
  (hcoB:∀{S:St} {o1 o2:SI} {x1 x2:List AV} {n m:Nat},x1.length=n→x2.length=m→bigP n m→C 11 [.sl 4 o1 x1,.sl 4 o2 x2] S fun r S'=>r=.ret (.tup [.sl 1 ⟨none,0,some 0,true⟩ [],.int .i64 0,.int .i64 52])∧S'=S)
  (hdoB:∀{S:St} {o1 o2:SI} {x1 x2:List AV} {n m:Nat},x1.length=n→x2.length=m→bigP n m→C 13 [.int .i64 3,.str [],.sl 4 o1 x1,.sl 4 o2 x2] S fun r S'=>r=.ret (.tup [.sl 1 ⟨none,0,some 0,true⟩ [],.int .i64 52])∧S'=S)
  (hsame:∀{S:St} {x y:AV} {l:List Int},l.length<1000→Rdo S (.sl 1 stat (intsZ l)) x→Rdo S (.sl 1 stat (intsZ l)) y→C 14 [x,y] S fun r S'=>r=.ret (.bool true)∧S'=S) :
  wpF gt C F8 [.int .i64 a] St.init (Ret (.bool true)):=by
 obtain⟨n,hn⟩:∃n:Nat,n=256:=⟨256,rfl⟩
 obtain⟨m,hmd⟩:∃m:Nat,(m:Int)=256+d:=⟨(256+d).toNat,by omega⟩
 have lzn:(List.replicate n eZ).length=n:=List.length_replicate
 have lzm:(List.replicate m eZ).length=m:=List.length_replicate
 have w256:wr .i64 (256+d)=(m:Int):=by rw [wr64 (by omega) (by omega),hmd]
 refine⟨rfl,?_⟩
 refine goW ?_
 refine call_pf hm (by rfl) hw ?_
 refine goK ?_
 refine r_mks (n:=n) (c:=n) Hs.init trivial (by rw [hn];rfl) (by rw [hn];rfl) (Nat.le_refl _) (by omega) (by omega) (by omega) rfl ?_
 intro t1 b1 S1 hR1
 refine goW ?_
 rw [w256]
 refine r_mks (n:=m) (c:=m) hR1 trivial rfl rfl (Nat.le_refl _) (by omega) (by omega) (by omega) rfl ?_
 intro t2 b2 S2 hR2
 have hR:Hs S2 (R_lim t1 b1 t2 b2 n m 0 0):=by simpa [R_lim,filN,eZ,zT] using hR2
 clear hR1 hR2
 refine goW ?_
 refine loop_rule hm (α:=Nat) (fun i env S'=>Hs S' (R_lim t1 b1 t2 b2 n m i 0)∧i≤n∧env=E_l1 d t1 t2 n m i) (fun i=>n-i) ?_ (a:=0) ⟨hR,Nat.zero_le _,rfl⟩
 clear hR S1 S2
 rintro i env S' ⟨hR,hi,rfl⟩
 refine goW ?_
 rw [lzn]
 by_cases c:(i:Int)<n
 case pos =>
  rw [dT c]
  refine goW ?_
  refine step_ruleO (sx_ia (k:=i) rfl rfl (by rw [lzn];omega)) (goW ?_)
  refine st_runP (arr_st hR 0 (j:=1) (k:=i) (so:=0) (off:=0) (v:=eN) (v':=eN) rfl rfl (fun y hy=>(filN_el y hy).1) rfl rfl rfl (by rw [lzn];omega) (by rw [filN_len (by omega)];omega) (Nat.le_refl 4) (by rw [filN_at (by omega)];rfl)) trivial ?_
  intro S2 hR2
  rw [filN_set (by omega)] at hR2
  refine goW ?_
  rw [wrNat (by omega)]
  exact⟨i+1,⟨hR2,by omega,rfl⟩,by omega⟩
 rw [dF c]
 obtain rfl:n=i:=by omega
 clear hi c
 refine goW ?_
 refine loop_rule hm (α:=Nat) (fun i env S'=>Hs S' (R_lim t1 b1 t2 b2 n m n i)∧i≤m∧env=E_l2 d t1 t2 n m i) (fun i=>m-i) ?_ (a:=0) ⟨hR,Nat.zero_le _,rfl⟩
 clear hR S'
 rintro i env S' ⟨hR,hi,rfl⟩
 refine goW ?_
 rw [lzm]
 by_cases c:(i:Int)<m
 case pos =>
  rw [dT c]
  refine goW ?_
  refine step_ruleO (sx_ia (k:=i) rfl rfl (by rw [lzm];omega)) (goW ?_)
  refine st_runP (arr_st hR 2 (j:=3) (k:=i) (so:=0) (off:=0) (v:=eN) (v':=eN) rfl rfl (fun y hy=>(filN_el y hy).1) rfl rfl rfl (by rw [lzm];omega) (by rw [filN_len (by omega)];omega) (Nat.le_refl 4) (by rw [filN_at (by omega)];rfl)) trivial ?_
  intro S2 hR2
  rw [filN_set (by omega)] at hR2
  refine goW ?_
  rw [wrNat (by omega)]
  exact⟨i+1,⟨hR2,by omega,rfl⟩,by omega⟩
 rw [dF c]
 obtain rfl:m=i:=by omega
 clear hi c
 have hE:∀S' R',Hs S' (R_lim t1 b1 t2 b2 n m n m++R')→elems S' true 4 ⟨some (t1,t1),0,some n,false⟩ (List.replicate n eZ)=some (List.replicate n eN)∧elems S' true 4 ⟨some (t2,t2),0,some m,false⟩ (List.replicate m eZ)=some (List.replicate m eN):=fun S' R' h=>by
  have h1:=arr_els h (i:=0) (j:=1) rfl rfl filN_el (off:=0) (cap:=some n) (nl:=false) (xs:=List.replicate n eZ) (by rw [filN_len (Nat.le_refl _)];omega)
  have h2:=arr_els h (i:=2) (j:=3) rfl rfl filN_el (off:=0) (cap:=some m) (nl:=false) (xs:=List.replicate m eZ) (by rw [filN_len (Nat.le_refl _)];omega)
  rw [List.drop_zero,lzn,List.take_of_length_le (by rw [filN_len (Nat.le_refl _)];omega),filN_full] at h1
  rw [List.drop_zero,lzm,List.take_of_length_le (by rw [filN_len (Nat.le_refl _)];omega),filN_full] at h2
  exact⟨h1,h2⟩
 by_cases hbig:bigP n m
 ·have hd0:d > 0:=by
   obtain⟨_,h2⟩:=hbig
   rw [hn] at h2
   omega
  refine goW ?_
  refine call_rule (by rfl) (hm _ _ _ _ _ (hcoB lzn lzm hbig) ?_)
  rintro r S2 ⟨rfl,hS⟩
  subst hS
  refine goW ?_
  refine call_rule (by rfl) (hm _ _ _ _ _ (hdoB lzn lzm hbig) ?_)
  rintro r S2 ⟨rfl,hS⟩
  subst hS
  refine goW ?_
  rw [dT hd0]
  refine goW ?_
  refine call_pf hm (by rfl) hruns (goW ?_)
  exact⟨_,rfl,Ret.sta trivial⟩
 have hd0:¬d > 0:=fun h=>hbig ⟨by omega,by rw [hn];omega⟩
 have hcost:(costP allT n m:Int)=-2*d:=by
  rw [cost_all (fun _ _=>rfl)]
  omega
 refine goW ?_
 refine call_rule (by rfl) (hm _ _ _ _ _ (hco lzn lzm (by omega) (by omega) (by omega) (by omega) hbig hR hE) ?_)
 rintro r S2 ⟨t3,b3,rfl,hR2⟩
 refine goW ?_
 refine call_rule (by rfl) (hm _ _ _ _ _ (hdo lzn lzm (by omega) (by omega) (by omega) (by omega) hbig hR2 fun S' R' h=>hE S' _ (by rw [aA] at h;exact h)) ?_)
 rintro r S3 ⟨t4,b4,rfl,hR3⟩
 have lF:(fromP allT n m).length=m:=fromP_len _ _
 have rd3:Rdo S3 (.sl 1 stat (intsZ (fromP allT n m))) (slM t3 m):=by
  have:=arr_els hR3 (i:=4) (j:=5) rfl rfl (intsZ_el _) (off:=0) (cap:=some m) (nl:=false) (xs:=List.replicate m (.int .i64 0)) (by rw [intsZ_len];simp;omega)
  rw [List.drop_zero,List.length_replicate,List.take_of_length_le (by rw [intsZ_len];omega)] at this
  simp only [Rdo]
  exact⟨trivial,_,_,false,_,rfl,this,Stas.rdos _ (intsZ_sta _)⟩
 have rd4:Rdo S3 (.sl 1 stat (intsZ (fromP allT n m))) (slM t4 m):=by
  have:=arr_els hR3 (i:=6) (j:=7) rfl rfl (intsZ_el _) (off:=0) (cap:=some m) (nl:=false) (xs:=List.replicate m (.int .i64 0)) (by rw [intsZ_len];simp;omega)
  rw [List.drop_zero,List.length_replicate,List.take_of_length_le (by rw [intsZ_len];omega)] at this
  simp only [Rdo]
  exact⟨trivial,_,_,false,_,rfl,this,Stas.rdos _ (intsZ_sta _)⟩
 generalize costP allT n m=cc at hcost
 refine goW ?_
 rw [dF hd0]
 refine goW ?_
 rw [w256,eqI_true (show ((List.replicate m (AV.int .i64 0)).length:Int)=m by rw [List.length_replicate])]
 refine goW ?_
 rw [wr64 (n:=-2*d) (by omega) (by omega),eqI_true hcost]
 refine goW ?_
 refine call_rule (by rfl) (hm _ _ _ _ _ (hsame (by omega) rd3 rd4) ?_)
 rintro r S4 ⟨rfl,hS⟩
 subst hS
 refine goW ?_
 refine call_pf hm (by rfl) hruns (goW ?_)
 exact⟨_,rfl,Ret.sta trivial⟩
end
end Go.Dn

namespace Go.Proofs.YtbojekglccdajaaGreatDoor
open Go.Dn Go.Proofs.YtbojekglccdajaaGreatDoor.Fn
def nullT:PT:=.mk 1 [] [] []
theorem nullT_good:GdT nullT:=⟨by simp [nullT,PT.sok,PT.soks],by simp [nullT,PT.ok,PT.oks],by simp [nullT,PT.n,PT.ns]⟩
theorem rdo_null {S:St}:Rdo S (encT nullT) eN:=by
 unfold nullT
 simp only [encT]
 rw [Rdo]
 refine⟨_,rfl,?_⟩
 simp only [Rdos]
 exact⟨_,_,rfl,by simp only [Rdo],_,_,rfl,by simp only [Rdo],_,_,rfl,rdo_nil0,_,_,rfl,rdo_nil0,rfl⟩
theorem sameN (S:St):A 31 [eN,eN] S fun r S'=>r=.ret (.bool true)∧S'=S:=by
 have hp:=sameG nullT_good nullT_good
 rw [sameB_self] at hp
 refine AC_mono _ _ _ _ _ (AC_read (us:=[encT nullT,encT nullT]) (Φ:=fun u=>u=.bool true) gtSta ?_ (fun u hu=>by rw [hu];exact rfl) (AC_mono _ _ _ _ _ (hp St.init) fun r S1 h=>⟨_,_,h.1,Sta.rdo _ trivial,rfl⟩)) ?_
 ·simp only [Rdos]
  exact⟨_,_,rfl,rdo_null,_,_,rfl,rdo_null,rfl⟩
 ·rintro r S' ⟨u,rfl,rfl,rfl⟩
  exact⟨rfl,rfl⟩
theorem costN {S:St} {R0:List Rs} {o1 o2:SI} {x1 x2:List AV} {n m:Nat} (lo:x1.length=n) (lf:x2.length=m) (hn:0<n) (hm0:0<m) (b1:n<1000) (b2:m<1000) (hb:¬bigP n m) (hR:Hs S R0)
  (hE:∀S' R',Hs S' (R0++R')→elems S' true 4 o1 x1=some (List.replicate n eN)∧elems S' true 4 o2 x2=some (List.replicate m eN)) :
  A 11 [.sl 4 o1 x1,.sl 4 o2 x2] S fun r S'=>∃t b,r=.ret (.tup [slM t m,.int .i64 (costP allT n m),.int .i64 0])∧Hs S' (R0++[.bx b 3 ((intsZ (fromP allT n m)).flatMap AV.cells++[]),.mk t t b]):=by
 have hpr:∀(S:St) (R1:List Rs) (id mid:Nat) (M:List ((Int×Int)×Int)) (i j:Nat),i<n→j<m→Hs S (R_tbN (R0++R1) mid id (.sl 4 o1 x1) (.sl 4 o2 x2) M)→A 28 [.ptr id 0,.int .i64 ((i+1:Nat):Int),.int .i64 ((j+1:Nat):Int)] S fun r S'=>r=.ret (.int .i64 (prP (allT i j)))∧S'=S:=fun S R1 id mid M i j hi hj h=>by
  have he:=hE S (R1++[.mp mid (mapE kv2 M),.bx id 56 (TbN (.sl 4 o1 x1) (.sl 4 o2 x2) mid)]) (by rw [←aA];exact h)
  exact AC_intro Tryz.checked.mixed Tryz.func28 (by kernel_rfl) Go.Proofs.C1.F28_ok (pairN_wp Fn.hm lo lf hi hj (by omega) (by omega) (R_tbN.box h) he.1 he.2 (sameN S))
 exact AC_intro Tryz.checked.mixed Tryz.func11 (by kernel_rfl) Go.Proofs.C1.F11_ok (costN_wp Fn.hm lo lf hn hm0 (by omega) (by omega) hb hR hpr
  fun S R1 id mid h=>AC_intro Tryz.checked.mixed Tryz.func27 (by kernel_rfl) Go.Proofs.C1.F27_ok (fillN_wp Fn.hm lo lf (by omega) (by omega) h fun S M i j hi hj h=>hpr S R1 id mid M i j hi hj h))
theorem costNB {S:St} {o1 o2:SI} {x1 x2:List AV} {n m:Nat} (lo:x1.length=n) (lf:x2.length=m) (hb:bigP n m) :
  A 11 [.sl 4 o1 x1,.sl 4 o2 x2] S fun r S'=>r=.ret (.tup [.sl 1 ⟨none,0,some 0,true⟩ [],.int .i64 0,.int .i64 52])∧S'=S :=
 AC_intro Tryz.checked.mixed Tryz.func11 (by kernel_rfl) Go.Proofs.C1.F11_ok (costNB_wp Fn.hm lo lf hb)
theorem AlignLimits.law (a:Int):A 8 [.int .i64 a] St.init (Ret (.bool true)):=by
 have hw:PF A 25 [.int .i64 a,.int .i64 (-1),.int .i64 1] (.int .i64 (-1+a % (3:Nat))) :=
  pf Tryz.func25 (by kernel_rfl) Go.Proofs.C1.F25_ok (s3 trivial trivial trivial) (wthinG_wp (by decide) rfl (by decide) (by decide))
 have e1:=Int.emod_nonneg a (show ((3:Nat):Int)≠0 by decide)
 have e2:=Int.emod_lt_of_pos a (show (0:Int)<((3:Nat):Int) by decide)
 refine AC_intro Tryz.checked.mixed Tryz.func8 (by kernel_rfl) Go.Proofs.C1.F8_ok
  (alignLimits_wp Fn.hm Fn.runs (d:=-1+a % (3:Nat)) (by omega) hw costN (fun lo lf h1 h2 h3 h4 h5 h6 h7=>AC_intro Tryz.checked.mixed Tryz.func13 (by kernel_rfl) Go.Proofs.C1.F13_ok (doN_wp Fn.hm (costN lo lf h1 h2 h3 h4 h5 h6 h7)))
   costNB (fun lo lf hb=>AC_intro Tryz.checked.mixed Tryz.func13 (by kernel_rfl) Go.Proofs.C1.F13_ok (doNB_wp Fn.hm (costNB lo lf hb))) fun {S x y l} hl hx hy=>?_)
 have hp:=sameI l (by omega)
 refine AC_mono _ _ _ _ _ (AC_read (us:=[.sl 1 stat (intsZ l),.sl 1 stat (intsZ l)]) (Φ:=fun u=>u=.bool true) gtSta ?_ (fun u hu=>by rw [hu];exact rfl) (AC_mono _ _ _ _ _ (hp St.init) fun r S1 h=>⟨_,_,h.1,Sta.rdo _ trivial,rfl⟩)) ?_
 ·simp only [Rdos]
  exact⟨_,_,rfl,hx,_,_,rfl,hy,rfl⟩
 ·rintro r S' ⟨u,rfl,rfl,rfl⟩
  exact⟨rfl,rfl⟩
end Go.Proofs.YtbojekglccdajaaGreatDoor
