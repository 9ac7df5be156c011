/- A call of a function. -/
import Derived.Test.YthgidapmofcloaaGreatDoorWe
set_option linter.unusedSimpArgs false
set_option linter.unusedVariables false
namespace Go.Dn
open Go Go.RowKit
section
variable {P:Program}{gt:GT}{O:Orig}{S:St}{G:Gh}{w:World}{env:Env}{a:Act}
theorem resVs_sound (h:Good P gt O S G w env a){fb:Nat->Nat}(hf:FR O S G w env a fb):∀{rv:List ResultVar} {rs:List DR} {vs:List AV},resP P rv=some rs->resVs gt env S rs=some vs ->
  ∃us,(rv.mapM (m:=Sem) λ|.tmp t=>pure (a.tmps.getD t undef) |.cell x t=>do loadVar t (<-asAddr (a.tmps.getD x undef))).run P w=.ok us w/\Rl S G w vs us
 | [],rs,vs,hp,hv=>by
  simp only[resP,oI]at hp;subst hp;simp only[resVs,oI]at hv;subst hv;exact⟨[],by simp,Rl.nil⟩
 |.tmp t::rv,rs,vs,hp,hv=>by
  simp only[resP]at hp;obtain⟨rs',hr,rfl⟩:=map_some' hp;simp only[resVs]at hv;split at hv
  ·rename_i v vs' h1 h2;simp only[oI]at hv;subst hv;obtain⟨us,g1,g2⟩:=resVs_sound h hf hr h2;simp only[resV]at h1;split at h1
   ·rename_i x hx;simp only[oI]at h1;subst h1;obtain⟨u,k1,k2⟩:=hf.ent t _ hx;refine⟨u::us,?_,Rl.cons k2 g2⟩;have:a.tmps.getD t undef=u:=by simp[Array.getD_eq_getD_getElem?,k1]
    simp only[List.mapM_cons,Sem.run_bind,Sem.run_pure,Result.andThen_ok,g1,this]
   ·cases h1
  ·cases hv
 |.cell x t::rv,rs,vs,hp,hv=>by
  simp only[resP]at hp;split at hp
  ·rename_i g s r hg hs hr;split at hp
   ·rename_i hgs;simp only[oI]at hp;subst hp;simp only[resVs]at hv;split at hv
    ·rename_i v vs' h1 h2;simp only[oI]at hv;subst hv;obtain⟨us,g1,g2⟩:=resVs_sound h hf hr h2;simp only[resV]at h1;split at h1
     ·rename_i l hl;obtain⟨p,hx,hlr⟩:=loc_sound (P:=P) (t:=0) (x:=.tmp x) rfl hl hf;have hx2:a.tmps.getD x undef=.pointer (some p):=hx;unfold ldL at h1;split at h1
      ·rename_i cs hld;obtain⟨ws,k1,k2,k3,k4⟩:=ldC_sound h.inv hf hld hlr;obtain⟨u,hr1,hu⟩:=run_loadVar (w:=w) ws hg (by rw[hs,k1]) (by rw[k1];exact hgs) k3;have hp':p=⟨p.block,p.off,none⟩:=by cases p;simp only at k2;subst k2;rfl
       refine⟨u::us,?_,Rl.cons ?_ g2⟩
       ·have hA:(asAddr (.pointer (some p))).run P w=.ok p w:=rfl;rw[<-hp']at hr1;simp only[List.mapM_cons,Sem.run_bind,hx2,hA,Sem.run_pure,Result.andThen_ok,hr1,g1]
       ·rcases k4.mkv h1 with⟨rfl,hk⟩ | ⟨rfl,u',hu',hk⟩
        ·rcases hu with⟨_,rfl⟩ | ⟨e,_⟩
         ·exact hk
         ·cases e
        ·rcases hu with⟨e,_⟩ | ⟨_,e⟩
         ·cases e
         ·rw[hu']at e;cases e;exact hk
      ·cases h1
     ·cases h1
    ·cases hv
   ·cases hp
  ·cases hp
theorem results_sound (h:Good P gt O S G w env a){fn:Func}{rs:List DR}{v:AV}(hp:resP P fn.results.toList=some rs)(hv:result gt env S rs=some v) :
  ∃u,(results fn a.tmps).run P w=.ok u w/\Rv S G w v u:=by
 obtain⟨fb,hf⟩:=h.fr;unfold result at hv;have hrun:∀{us:List Value},(fn.results.toList.mapM (m:=Sem) λ|.tmp t=>pure (a.tmps.getD t undef) |.cell x t=>do loadVar t (<-asAddr (a.tmps.getD x undef))).run P w=.ok us w ->
   (results fn a.tmps).run P w=.ok (if h:us.length=1 then us[0] else .tuple ⟨us⟩) w:=λ{us} hq=>by
  unfold results;rw[Sem.run_bind,Array.mapM_eq_mapM_toList,Sem.run_map]
  erw [hq]
  rfl
 split at hv
 ·rename_i x hx;simp only[oI]at hv;subst hv;obtain⟨us,g1,g2⟩:=resVs_sound h hf hp hx;simp only[Rl]at g2;obtain⟨u,r,rfl,k,rfl⟩:=g2;exact⟨u,by rw[hrun g1];simp,k⟩
 ·rename_i vs hne hx;simp only[oI]at hv;subst hv;obtain⟨us,g1,g2⟩:=resVs_sound h hf hp hx;refine⟨.tuple ⟨us⟩,?_,?_⟩
  ·rw[hrun g1];have:¬us.length=1:=λe=>by
    rw[g2.length]at e;obtain⟨x,rfl⟩:=List.length_eq_one_iff.1 e;exact hne x rfl
   rw[dif_neg this]
  ·simp only[Rv];exact⟨us,rfl,g2⟩
 ·cases hv
theorem lk_enter:∀(xs:List AV) (n s:Nat) (e:Ent),lk (enterE xs n) s=some e->n<=s/\∃x,xs[s-n]? = some x/\e=.val x
 | [],n,s,e,h=>by simp[enterE,lk]at h
 | x::xs,n,s,e,h=>by
  simp only[enterE,lk_cons]at h;by_cases hs:n=s
  ·subst hs;rw[if_pos rfl]at h;cases h;exact⟨nR _,x,by simp,rfl⟩
  ·rw[if_neg hs]at h;obtain⟨h1,y,h2,h3⟩:=lk_enter xs (n+1) s e h;refine⟨by omega,y,?_,h3⟩;rw[show s-n=(s-(n+1))+1 by omega,List.getElem?_cons_succ];exact h2
theorem good_enter {G:Gh}{w:World}{xs:List AV}{args:List Value}(hI:Inv P gt S G w)(hx:Rl S G w xs args){n:Nat}(hn:xs.length<=n) :
  Good P gt ⟨S,G,w,⟨n,[]⟩,λ_=>undef,[]⟩ S G w (enterE xs 0) { tmps:=(⟨args⟩:Array Value)++Array.replicate (n-(⟨args⟩:Array Value).size) undef,defers:=[] }:=by
 have hal:=hx.length;refine⟨hI,⟨λ_=>0,⟨λs e he=>?_,λs s' cs cs' h1 h2 hne=>?_⟩⟩,Ext.refl,λb hb ho=>rfl,rfl,?_,λt ht=>by cases ht⟩
 ·obtain⟨_,x,h1,rfl⟩:=lk_enter xs 0 s e he;rw[Nat.sub_zero]at h1;obtain⟨v,h2,h3⟩:=hx.get h1;refine⟨v,?_,h3⟩;have hs:s<args.length:=(List.getElem?_eq_some_iff.1 h2).1;rw[Array.getElem?_append_left (by simpa using hs)];simpa using h2
 ·obtain⟨_,x,_,h3⟩:=lk_enter xs 0 s _ h1;cases h3
 ·simp only[Array.size_append,Array.size_replicate,List.size_toArray];omega
theorem prepF_inv {n:Note}{fn:Func}{F:DF}(hp:prepF P n fn=some F):∃c d r,fn.body=some c/\prepC P ⟨fn.ntmps,[]⟩ n c=some d/\resP P fn.results.toList=some r/\fn.params.size+fn.nfree<=fn.ntmps/\F=⟨fn.params.size+fn.nfree,d,r⟩:=by
 unfold prepF at hp;split at hp
 ·rename_i c hb;split at hp
  ·rename_i d r hd hr;split at hp
   ·rename_i hnp;simp only[oI]at hp;exact⟨c,d,r,hb,hd,hr,hnp,hp.symm⟩
   ·cases hp
  ·cases hp
 ·cases hp
theorem body_wp (hm:P.follows .mixedOrders=true){fn:Func}{n:Note}{F:DF}{c:Code}(hb:fn.body=some c){xs:List AV}{Q:Res->St->Prop}(hp:prepF P n fn=some F)
  (hw:wpF gt (AC P gt) F xs S Q) {G:Gh} {w:World} {args:List Value} (hI:Inv P gt S G w) (hx:Rl S G w xs args) :
  c.wp P (bodyPost P fn (callPost P gt S G w Q)) { tmps:=(⟨args⟩:Array Value)++Array.replicate (fn.ntmps-(⟨args⟩:Array Value).size) undef,defers:=[] } w:=by
 obtain⟨c',d,r,hb',hd,hr,hnp,rfl⟩:=prepF_inv hp;rw[hb]at hb';cases hb';obtain⟨hlen,hwp⟩:=hw;simp only at hlen hwp;have hg:=good_enter (n:=fn.ntmps) hI hx (by omega);refine wp_mono (prepC_sound (gt:=gt) hm hd _ S G w _ _ (bodyQ gt r Q) (λv S env env' h=>h) rfl hg hwp) λe a' w' q=>?_;cases e with
 | normal =>
  obtain⟨env',S',G',g,v,hv,q⟩:=q;obtain⟨u,k1,k2⟩:=results_sound g hr hv;exact⟨g.defers,u,k1,v,S',G',q,⟨g.inv,g.ext,g.keep⟩,k2⟩
 | ret =>
  obtain⟨env',S',G',g,v,hv,q⟩:=q;obtain⟨u,k1,k2⟩:=results_sound g hr hv;exact⟨g.defers,u,k1,v,S',G',q,⟨g.inv,g.ext,g.keep⟩,k2⟩
 | exit id=>obtain⟨env',S',G',g,q⟩:=q;exact q.elim
 | panic chain =>
  obtain⟨env',S',G',x,u,hc,g,rv,q⟩:=q;exact⟨g.defers,x,S',G',u,hc,q,⟨g.inv,g.ext,g.keep⟩,rv⟩
 | goto l=>exact q.elim
 | outgrown=>exact q.elim
theorem AC_intro (hm : P.follows .mixedOrders = true) {f : FuncId} {fn : Func} {n : Note} {F : DF} {xs : List AV} {Q : Res → St → Prop} (hf : P.funcs[f]? = some fn) (hname : (fn.name == "runtime.NumGoroutine") = false) (hp : prepF P n fn = some F)
  (hw:wpF gt (AC P gt) F xs S Q):AC P gt f xs S Q:=by
 obtain⟨c,_,_,hb,_⟩:=prepF_inv hp;exact⟨⟨fn,hf,hname,by rw[hb];rfl⟩,λG w args hI hx=>calls_of_wp hf hb (body_wp hm hb hp hw hI hx)⟩
theorem AC_mono:∀f xs S (Q Q':Res->St->Prop),AC P gt f xs S Q->(∀r S',Q r S'->Q' r S')->AC P gt f xs S Q':=λf xs S Q Q' h hq =>
 ⟨h.1,λG w args hI hx=>Calls.mono (h.2 G w args hI hx) λe w' hp=>by
  cases e with
  | returned v=>obtain⟨x,S',G',q,t,r⟩:=hp;exact⟨x,S',G',hq _ _ q,t,r⟩
  | panicked chain=>obtain⟨x,S',G',u,hc,q,t,r⟩:=hp;exact⟨x,S',G',u,hc,hq _ _ q,t,r⟩
  | outgrown=>exact hp.elim⟩
end
end Go.Dn
