/- A function that defers a call: what the code says is what the call does. -/
import Derived.Test.YthgidapmofcloaaGreatDoorWi
set_option linter.unusedSimpArgs false
set_option linter.unusedVariables false
namespace Go.Dn
open Go Go.RowKit
section
variable {P:Program}{gt:GT}
theorem prepD_inv {n:Note}{fn:Func}{F:DD}(hp:prepD P n fn=some F):∃c i id ops q o,fn.body=some c/\(flatC c).drop i=.region id ops false::q/\ops.toList.getLast? = some o/\deferO o=some F.x/\prepL P ⟨fn.ntmps,[]⟩ n ((flatC c).take i)=some F.pre /\
  prepIs P ⟨fn.ntmps,[]⟩ n.locs true ops ops.toList.dropLast=some F.is/\prepL P ⟨fn.ntmps,F.pin⟩ n q=some F.post/\resP P fn.results.toList=some F.res/\fn.params.size+fn.nfree<=fn.ntmps/\F.np=fn.params.size+fn.nfree/\∀t∈F.pin,t<fn.ntmps:=by
 unfold prepD at hp;split at hp
 ·rename_i c hb;split at hp
  ·rename_i i hi;split at hp
   ·rename_i id ops q hd;split at hp
    ·rename_i o ho;split at hp
     ·rename_i x pre is post r h1 h2 h3 h4 h5;split at hp
      ·rename_i hc;cases hp;exact⟨c,i,id,ops,q,o,hb,hd,ho,h1,h2,h3,h4,h5,hc.1,rfl,λt ht=>blt_lt (List.all_eq_true.1 hc.2 t ht)⟩
      ·cases hp
     ·cases hp
    ·cases hp
   ·cases hp
  ·cases hp
 ·cases hp
theorem run_defer {o:Oper}{a:Act}{x:Nat}{w:World}{f:FuncId}{as bs:List Value}(h:deferO o=some x)(hx:a.tmps[x]? = some (.func (.func f) ⟨as⟩ ⟨bs⟩)) :
  o.guard=none/\o.dst=none/\(execOp a.eval o).run P w=.ok (.defer { target:=.fn (.func f) ⟨bs⟩,args:=⟨as⟩ }) w:=by
 unfold deferO at h;split at h
 ·rename_i c hop hg hd;split at h
  ·rename_i x' hc;split at h
   ·rename_i hsz;cases h;refine⟨hg,hd,?_⟩;have hargs:c.args.map a.eval = #[]:=by
     have:c.args = #[]:=Array.size_eq_zero_iff.1 hsz;rw[this];simp
    have he:a.eval (.tmp x)=.func (.func f) ⟨as⟩ ⟨bs⟩:=by simp only[Act.eval,Array.getD_eq_getD_getElem?,hx,Option.getD_some]
    simp only[execOp,hop,resolve,hc,he,hargs,Deferred.ofValue,Sem.run_bind,Sem.run_pure,Result.andThen_ok,Array.append_empty]
   ·cases h
  ·cases h
 ·cases h
theorem leaves_one {fn:Func}{tmps:Array Value}{R:Ending->World->Prop}{f:FuncId}{as bs:List Value}{m:FrameMode}{w:World}{S:St}{G:Gh}{xs:List AV}{u:UM}{Q:UM->St->Prop}
  (hU:ACU P gt f xs u S Q) (hI:Inv P gt S G w) (hx:Rl S G w xs (as++bs)) (hu:UMR S G w u m)
  (hq:∀u' S' G' w' m',Q u' S'->Tr P gt S G w S' G' w'->UMR S' G' w' u' m'->Leaves P fn tmps R [] (settle m') w') :
  Leaves P fn tmps R [{ target:=.fn (.func f) ⟨bs⟩,args:=⟨as⟩ }] m w:=by
 have hne:m≠.run:=by
  cases u with
  | ret=>simp only[UMR]at hu;rw[hu];intro h;cases h
  | pan v=>obtain⟨v',e,_⟩:=hu;rw[e];intro h;cases h
  | rcv=>obtain⟨v',e⟩:=hu;rw[e];intro h;cases h
 refine leaves_cons hne (f:=f) (args:=⟨as++bs⟩) ?_ ((hU.2 G w _ m hI hx hu).mono λe m' w' h=>?_)
 ·have:invoke (.fn (.func f) ⟨bs⟩) ⟨as⟩=callFunc f ((⟨as⟩:Array Value)++⟨bs⟩):=rfl;rw[this,run_enter hU.1];simp
 ·cases e with
  | returned v=>obtain⟨u',S',G',q,t,hu'⟩:=h;exact hq _ _ _ _ _ q t hu'
  | panicked chain=>exact h.elim
  | outgrown=>exact h.elim
theorem AC_introD (hm : P.follows .mixedOrders = true) {f : FuncId} {fn : Func} {n : Note} {F : DD} {xs : List AV} {S : St} {Q : Res → St → Prop} (hf : P.funcs[f]? = some fn) (hname : (fn.name == "runtime.NumGoroutine") = false) (hp : prepD P n fn = some F)
  (hw:wpDD gt (AC P gt) (ACU P gt) F xs S Q):AC P gt f xs S Q:=by
 obtain⟨c,i,id,ops,q,o,hb,hd,ho,hdef,hpre,his,hpost,hres,hnp,hnp',hpin⟩:=prepD_inv hp;obtain⟨hlen,hw⟩:=hw;refine⟨⟨fn,hf,hname,by rw[hb];rfl⟩,λG w args hI hx=>calls_of_wp_defers hf hb (wp_of_flat ?_)⟩;have hg:=good_enter (n:=fn.ntmps) hI hx (by omega);generalize hR:callPost P gt S G w Q=R;have hfl:flatC c=(flatC c).take i++(.region id ops false::q):=by rw[<-hd,tkD]
 rw[hfl];refine wpL_append _ _ _ _ ?_;generalize hQD:(λ(e:Ex) (env:Env) (S:St)=>(match e with
  |.normal=>wpIs gt (AC P gt) F.is env S λe env S=>match e with
   |.normal=>match opd env (.t F.x) with
    | some (.fn f fs cs)=>wpD gt (AC P gt) F.post (keepV env F.keep) S λe env' S=>match e with
     |.normal |.ret=>ACU P gt f (fs++cs) .ret S λu S=>match u with
      |.ret=>∃v,result gt env' S F.res=some v/\Q (.ret v) S
      | _=>False
     |.pan v=>ACU P gt f (fs++cs) (.pan v) S λu S=>match u with
      |.rcv=>∃v,result gt (keepV (keepV env F.keep) F.pin) S F.res=some v/\Q (.ret v) S
      |.pan v=>Q (.pan v) S
      |.ret=>False
     |.exit _=>False
    | _=>False
   |.pan v=>Q (.pan v) S
   | _=>False
  |.ret=>∃v,result gt env S F.res=some v/\Q (.ret v) S
  |.pan v=>Q (.pan v) S
  |.exit _=>False:Prop))=QD
 have hw:wpD gt (AC P gt) F.pre (enterE xs 0) S QD:=by rw[<-hQD];exact hw
 refine wpL_mono (λe a1 w1 q1=>?_) _ _ _ (prepL_sound hm hpre _ S G w _ _ QD (λv S env env' h=>by rw[<-hQD]at h ⊢;exact h) rfl hg hw);cases e with
 | exit id=>obtain⟨_,_,_,_,k⟩:=q1;rw[<-hQD]at k;exact k.elim
 | goto l=>exact q1.elim
 | outgrown=>exact q1.elim
 | panic chain =>
  obtain⟨env1,S1,G1,x,u,hc,g,rv,k⟩:=q1;rw[<-hQD]at k;have hd0:a1.defers=[]:=g.defers;show Leaves P fn a1.tmps R a1.defers (.panicking chain) w1;rw[hd0,<-hR];exact⟨x,S1,G1,u,hc,k,⟨g.inv,g.ext,g.keep⟩,rv⟩
 | ret =>
  obtain⟨env1,S1,G1,g,k⟩:=q1;rw[<-hQD]at k;obtain⟨v,hv,k⟩:=k;obtain⟨u,k1,k2⟩:=results_sound g hres hv;have hd0:a1.defers=[]:=g.defers;show Leaves P fn a1.tmps R a1.defers .returning w1;rw[hd0];refine⟨u,k1,?_⟩;rw[<-hR];exact⟨v,S1,G1,k,⟨g.inv,g.ext,g.keep⟩,k2⟩
 | normal =>
  obtain⟨env1,S1,G1,g,k⟩:=q1;rw[<-hQD]at k;simp only at k
  clear hQD hw hfl hd hpre
  have hols:ops.toList=ops.toList.dropLast++[o]:=by
   obtain⟨ys,hys⟩:=List.getLast?_eq_some_iff.1 ho;rw[hys,List.dropLast_concat]
  have hsz:ops.size=ops.toList.dropLast.length+1:=by rw[<-Array.length_toList,hols];simp
  have hoi:ops[ops.toList.dropLast.length]? = some o:=by
   rw[<-Array.getElem?_toList,hols];simp
  have hget:∀j o',ops.toList.dropLast[j]? = some o'->ops[0+j]? = some o':=λj o' h=>by
   rw[Nat.zero_add,<-Array.getElem?_toList];have hj:j<ops.toList.dropLast.length:=(List.getElem?_eq_some_iff.1 h).1;rw[hols,List.getElem?_append_left (by simpa using hj)];simpa using h
  show wpL P (.region id ops false::q) _ a1 w1;show (Code.region id ops false).wp P _ a1 w1;refine wp_region ?_;rw[List.range_eq_range',hsz,List.range'_concat];refine wpOps_append _ _ _ _ ?_;refine wpOps_mono _ _ _ _ _ (λe a2 w2 q2=>?_) (ops_soundP (gt:=gt) rfl ops.toList.dropLast F.is 0 _ _ _ _ _ his hget g k);cases e with
  | exit id=>obtain⟨_,_,_,_,k⟩:=q2;exact k.elim
  | goto l=>exact q2.elim
  | outgrown=>exact q2.elim
  | ret=>obtain⟨_,_,_,_,k⟩:=q2;exact k.elim
  | panic chain =>
   obtain⟨env2,S2,G2,x,u,hc,g2,rv,k2⟩:=q2;have hd0:a2.defers=[]:=g2.defers;show Leaves P fn a2.tmps R a2.defers (.panicking chain) w2;rw[hd0,<-hR];exact⟨x,S2,G2,u,hc,k2,⟨g2.inv,g2.ext,g2.keep⟩,rv⟩
  | normal =>
   obtain⟨env2,S2,G2,g2,k2⟩:=q2;simp only at k2;split at k2
   ·rename_i cf fs cs hx;obtain⟨fb2,hf2⟩:=g2.fr;have hxe:lk env2 F.x=some (.val (.fn cf fs cs)):=by
     simp only[opd]at hx;split at hx
     ·rename_i v hv;cases hx;exact hv
     ·cases hx
    obtain⟨vx,x1,x2⟩:=hf2.ent _ _ hxe;simp only[Rv]at x2;obtain⟨as,bs,rfl,ras,rbs⟩:=x2;obtain⟨d1,d2,d3⟩:=run_defer (P:=P) (w:=w2) hdef x1;have hd0:a2.defers=[]:=g2.defers;have hwt:Region.wanted o (yielded ops a2.tmps)=true:=by simp[Region.wanted,d1]
    simp only[Exit.then,wpOps,Nat.zero_add,Nat.one_mul,hoi,hwt,if_true];refine .inl ?_;simp only[Oper.wp,d3,Oper.upon_defer,d2,Act.put,hd0];have htr2:Tr P gt S G w S2 G2 w2:=⟨g2.inv,g2.ext,g2.keep⟩
    have g3:Good P gt ⟨S2,G2,w2,⟨fn.ntmps,F.pin⟩,λt=>a2.tmps.getD t undef,[(cf,fs++cs)]⟩ S2 G2 w2 (keepV env2 F.keep) { a2 with defers:=[{ target:=.fn (.func cf) ⟨bs⟩,args:=⟨as⟩ }] }:=by
     refine⟨g2.inv,⟨fb2,⟨λs e he=>?_,λs s' c1 c2 h1 h2 hne=>?_⟩⟩,Ext.refl,λb _ _=>rfl,⟨as,bs,[],rfl,ras.append rbs,rfl⟩,g2.size,λt ht=>?_⟩
     ·obtain⟨_,v,rfl,hv⟩:=lk_keepV he;exact hf2.ent _ _ hv
     ·obtain⟨_,v,e,_⟩:=lk_keepV h1;cases e
     ·have hlt:t<a2.tmps.size:=by rw[g2.size];exact hpin t ht
      simp[Array.getD_eq_getD_getElem?,hlt]
    generalize hQ2:(λ(e:Ex) (env':Env) (S:St)=>(match e with
     |.normal |.ret=>ACU P gt cf (fs++cs) .ret S λu S=>match u with
      |.ret=>∃v,result gt env' S F.res=some v/\Q (.ret v) S
      | _=>False
     |.pan v=>ACU P gt cf (fs++cs) (.pan v) S λu S=>match u with
      |.rcv=>∃v,result gt (keepV (keepV env2 F.keep) F.pin) S F.res=some v/\Q (.ret v) S
      |.pan v=>Q (.pan v) S
      |.ret=>False
     |.exit _=>False:Prop))=Q2
    have k3:wpD gt (AC P gt) F.post (keepV env2 F.keep) S2 Q2:=by rw[<-hQ2];exact k2
    refine wpL_mono (λe a4 w4 q4=>?_) _ _ _ (prepL_sound hm hpost _ S2 G2 w2 _ _ Q2 (λv S env env' h=>by rw[<-hQ2]at h ⊢;exact h) rfl g3 k3);have back:∀env4 S4 G4,Good P gt ⟨S2,G2,w2,⟨fn.ntmps,F.pin⟩,λt=>a2.tmps.getD t undef,[(cf,fs++cs)]⟩ S4 G4 w4 env4 a4->(ACU P gt cf (fs++cs) .ret S4 λu S=>match u with
      |.ret=>∃v,result gt env4 S F.res=some v/\Q (.ret v) S
      | _=>False)->Leaves P fn a4.tmps R a4.defers .returning w4:=by
     intro env4 S4 G4 g4 k4;obtain⟨as',bs',ds',e4,r4,hds⟩:=g4.defers;have hds:ds'=[]:=hds;rw[e4,hds];refine leaves_one k4 g4.inv r4 (m:=.returning) rfl λu' S5 G5 w5 m' hq t hu'=>?_;cases u' with
     | ret =>
      have hu':m'=.returning:=hu';subst hu';obtain⟨v,hv,hq⟩:=hq;obtain⟨u,l1,l2⟩:=results_sound (g4.step t) hres hv;refine⟨u,l1,?_⟩;rw[<-hR];exact⟨v,S5,G5,hq,(htr2.trans ⟨g4.inv,g4.ext,g4.keep⟩).trans t,l2⟩
     | pan v=>exact hq.elim
     | rcv=>exact hq.elim
    cases e with
    | exit id=>obtain⟨_,_,_,_,k⟩:=q4;rw[<-hQ2]at k;exact k.elim
    | goto l=>exact q4.elim
    | outgrown=>exact q4.elim
    | normal =>
     obtain⟨env4,S4,G4,g4,k4⟩:=q4;rw[<-hQ2]at k4;exact back _ _ _ g4 k4
    | ret =>
     obtain⟨env4,S4,G4,g4,k4⟩:=q4;rw[<-hQ2]at k4;exact back _ _ _ g4 k4
    | panic chain =>
     obtain⟨env4,S4,G4,x,u,hc,g4,rv,k4⟩:=q4;rw[<-hQ2]at k4;show Leaves P fn a4.tmps R a4.defers (.panicking chain) w4;obtain⟨as',bs',ds',e4,r4,hds⟩:=g4.defers;have hds:ds'=[]:=hds;rw[e4,hds];refine leaves_one k4 g4.inv r4 ⟨u,by rw[hc],rv⟩ λu' S5 G5 w5 m' hq t hu'=>?_;cases u' with
     | ret=>exact hq.elim
     | pan v =>
      obtain⟨v',e5,e6⟩:=hu';subst e5;show R (.panicked _) w5;rw[<-hR];exact⟨v,S5,G5,v',rfl,hq,(htr2.trans ⟨g4.inv,g4.ext,g4.keep⟩).trans t,e6⟩
     | rcv =>
      obtain⟨v',e5⟩:=hu';subst e5;obtain⟨v,hv,hq⟩:=hq;have g5:=g4.step t;have g6:Good P gt ⟨S2,G2,w2,⟨fn.ntmps,F.pin⟩,λt=>a2.tmps.getD t undef,[(cf,fs++cs)]⟩ S5 G5 w5 (keepV (keepV env2 F.keep) F.pin) a4:=by
       refine⟨g5.inv,⟨λ_=>0,⟨λs e he=>?_,λs s' c1 c2 h1 h2 hne=>?_⟩⟩,g5.ext,g5.keep,g5.defers,g5.size,g5.pin⟩
       ·obtain⟨hs,vx,rfl,hv1⟩:=lk_keepV he;obtain⟨_,vy,e7,hv2⟩:=lk_keepV hv1;cases e7;obtain⟨vv,y1,y2⟩:=hf2.ent _ _ hv2;refine⟨vv,?_,y2.mono g5.ext⟩;have:=g5.pin s hs;rw[this];simp[Array.getD_eq_getD_getElem?,y1]
       ·obtain⟨_,vx,e7,_⟩:=lk_keepV h1;cases e7
      obtain⟨uu,l1,l2⟩:=results_sound g6 hres hv;show ∃v,_;refine⟨uu,l1,?_⟩;rw[<-hR];exact⟨v,S5,G5,hq,(htr2.trans ⟨g4.inv,g4.ext,g4.keep⟩).trans t,l2⟩
   ·exact k2.elim
end
end Go.Dn
