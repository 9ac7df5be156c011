/- Functions that defer a call; closures that recover: what the code says is what the call does. -/
import Derived.Test.YthgidapmofcloaaGreatDoorWh
set_option linter.unusedSimpArgs false
set_option linter.unusedVariables false
namespace Go.Dn
open Go Go.RowKit
section
variable {P:Program}{gt:GT}
theorem results_none {fn:Func}(h:fn.results = #[])(tmps:Array Value)(w:World):(results fn tmps).run P w=.ok (.tuple #[]) w:=by
 unfold results;rw[h];simp
theorem ACU_intro (hm : P.follows .mixedOrders = true) {f : FuncId} {fn : Func} {n : Note} {F : DF} {xs : List AV} {u : UM} {S : St} {Q : UM → St → Prop} (hf : P.funcs[f]? = some fn) (hname : (fn.name == "runtime.NumGoroutine") = false) (hp : prepF P n fn = some F)
  (hw:wpF gt (AC P gt) F xs S λr S'=>match r with |.ret _=>(match u with |.rcv=>False | _=>Q u S') |.pan _=>False):ACU P gt f xs u S Q:=by
 obtain⟨c,_,_,hb,_⟩:=prepF_inv hp;refine⟨⟨fn,hf,hname,by rw[hb];rfl⟩,λG w args m hI hx hu=>(callsD_of_wp hf hb (body_wp hm hb hp hw hI hx)).mono λe m' w' hh=>?_⟩;obtain⟨rfl,hp⟩:=hh;cases e with
 | returned v =>
  obtain⟨x,S',G',q,t,rv⟩:=hp;cases u with
  | ret=>exact⟨.ret,S',G',q,t,hu⟩
  | pan y =>
   obtain⟨v',e1,e2⟩:=hu;exact⟨.pan y,S',G',q,t,v',e1,e2.mono t.ext⟩
  | rcv=>exact q.elim
 | panicked chain=>obtain⟨x,S',G',u',hc,q,_⟩:=hp;exact q.elim
 | outgrown=>exact hp.elim
theorem prepG_inv {n:Note}{fn:Func}{F:DG}(hp:prepG P n fn=some F):∃c id ops q o tl,fn.body=some c/\flatC c=.region id ops false::q/\ops.toList=o::tl/\recO o=some F.dst/\prepIs P ⟨fn.ntmps,[]⟩ n.locs true ops tl=some F.is /\
  prepL P ⟨fn.ntmps,[]⟩ n q=some F.post/\fn.params.size+fn.nfree<=fn.ntmps/\F.dst<fn.ntmps/\fn.results = #[]/\F.np=fn.params.size+fn.nfree:=by
 unfold prepG at hp;split at hp
 ·rename_i c hb;split at hp
  ·rename_i id ops q hfl;split at hp
   ·rename_i o tl hops;split at hp
    ·rename_i t is post h1 h2 h3;split at hp
     ·rename_i hc;cases hp;exact⟨c,id,ops,q,o,tl,hb,hfl,hops,h1,h2,h3,hc.1,hc.2.1,hc.2.2,rfl⟩
     ·cases hp
    ·cases hp
   ·cases hp
  ·cases hp
 ·cases hp
theorem ACU_introG (hm : P.follows .mixedOrders = true) {f : FuncId} {fn : Func} {n : Note} {F : DG} {xs : List AV} {u : UM} {S : St} {Q : UM → St → Prop} (hf : P.funcs[f]? = some fn) (hname : (fn.name == "runtime.NumGoroutine") = false) (hp : prepG P n fn = some F)
  (hw:wpDG gt (AC P gt) F xs u S Q):ACU P gt f xs u S Q:=by
 obtain⟨c,id,ops,q,o,tl,hb,hfl,hops,hrec,his,hpost,hnp,hdst,hres,hnp'⟩:=prepG_inv hp;obtain⟨hlen,hw⟩:=hw;refine⟨⟨fn,hf,hname,by rw[hb];rfl⟩,λG w args m hI hx hu=>callsD_of_wpS hf hb λc₀ cs hc₀=>wpS_of_flat ?_⟩;have hg:=good_enter (n:=fn.ntmps) hI hx (by omega);rw[hfl];have hsz:ops.size=tl.length+1:=by rw[<-Array.length_toList,hops];rfl
 have h0:ops[0]? = some o:=by rw[<-Array.getElem?_toList,hops];rfl
 have htl:∀j o',tl[j]? = some o'->ops[1+j]? = some o':=λj o' h=>by rw[<-Array.getElem?_toList,hops,Nat.add_comm];exact h
 generalize hR:(λ(e:Ending) (m':FrameMode) (w':World)=>match e with
  |.returned _=>∃u' S' G',Q u' S'/\Tr P gt S G w S' G' w'/\UMR S' G' w' u' m'
  | _=>False)=R
 have main:∀(v:AV) (vv:Value) (u':UM) (m':FrameMode),Rv S G w v vv->wpDG.go gt (AC P gt) F xs S Q v u'->(∀S' G' w',Tr P gt S G w S' G' w'->UMR S' G' w' u' m')->∀a,Good P gt ⟨S,G,w,⟨fn.ntmps,[]⟩,λ_=>undef,[]⟩ S G w (enterE xs 0) a ->
   wpOpsS P ops (Exit.thenS (wpLS P q (bodyPostS P fn c₀ cs R)) (bodyPostS P fn c₀ cs R)) (List.range' 1 tl.length) (a.put (some F.dst) vv) ({ c₀ with mode:=m' }::cs) w:=by
  intro v vv u' m' hv hgo hum a hga;have hg1:=hga.putV (dst:=some F.dst) (λd e=>by cases e;exact⟨hdst,λt ht=>by cases ht⟩) hv;have hs:=ops_soundS (gt:=gt) (O:=⟨S,G,w,⟨fn.ntmps,[]⟩,λ_=>undef,[]⟩) rfl ({ c₀ with mode:=m' }::cs) tl F.is 1 _ S G w _ his htl hg1 hgo;have mono:∀(l:List Nat) (a:Act) (cs':List Frame) (w':World) (Q1 Q2:Exit->Act->List Frame->World->Prop),(∀e a cs w,Q1 e a cs w->Q2 e a cs w)->wpOpsS P ops Q1 l a cs' w'->wpOpsS P ops Q2 l a cs' w':=by
   intro l
   induction l with
   | nil=>intro a cs' w' Q1 Q2 hq h;exact hq _ _ _ _ h
   | cons i l ih =>
    intro a cs' w' Q1 Q2 hq h;simp only[wpOpsS]at h ⊢;split
    ·rename_i ho;rw[ho]at h;exact ih _ _ _ _ _ hq h
    ·rename_i o' ho;rw[ho]at h;simp only at h;split
     ·rename_i hwt;rw[if_pos hwt]at h;split
      ·rename_i w'' hr;rw[hr]at h;simp only at h;split
       ·rename_i v' cs'' hrc;rw[hrc]at h;exact ih _ _ _ _ _ hq h
       ·rename_i hrc;rw[hrc]at h;exact ih _ _ _ _ _ hq h
      ·rename_i r hne;split at h
       ·rename_i w'' hr;exact absurd hr (hne _)
       ·exact upon_mono (λa w h=>ih _ _ _ _ _ hq h) (λe a w h=>hq _ _ _ _ h) h
     ·rename_i hwt;rw[if_neg hwt]at h;exact ih _ _ _ _ _ hq h
  refine mono _ _ _ _ _ _ (λe a2 cs2 w2 hq=>?_) hs;obtain⟨rfl,hq⟩:=hq;cases e with
  | normal =>
   obtain⟨env2,S2,G2,g2,k2⟩:=hq;refine wpLS_of_wpL _ _ _ ?_;refine wpL_mono (λe a3 w3 q3=>?_) _ _ _ (prepL_sound hm hpost _ S2 G2 w2 _ a2 (λe _ S=>match e with |.normal |.ret=>Q u' S | _=>False) (λv S env env' h=>h) rfl (g2.keepE _) k2);cases e with
   | normal =>
    obtain⟨env3,S3,G3,g3,k3⟩:=q3;refine⟨g3.defers,m',rfl,_,results_none hres _ _,?_⟩;rw[<-hR];exact⟨u',S3,G3,k3,⟨g3.inv,g3.ext,g3.keep⟩,hum _ _ _ ⟨g3.inv,g3.ext,g3.keep⟩⟩
   | ret =>
    obtain⟨env3,S3,G3,g3,k3⟩:=q3;refine⟨g3.defers,m',rfl,_,results_none hres _ _,?_⟩;rw[<-hR];exact⟨u',S3,G3,k3,⟨g3.inv,g3.ext,g3.keep⟩,hum _ _ _ ⟨g3.inv,g3.ext,g3.keep⟩⟩
   | exit id=>obtain⟨_,_,_,_,k⟩:=q3;exact k.elim
   | panic chain=>obtain⟨_,_,_,_,_,_,_,_,k⟩:=q3;exact k.elim
   | goto l=>exact q3.elim
   | outgrown=>exact q3.elim
  | exit id=>obtain⟨_,_,_,_,k⟩:=hq;exact k.elim
  | ret=>obtain⟨_,_,_,_,k⟩:=hq;exact k.elim
  | panic chain=>obtain⟨_,_,_,_,_,_,_,_,k⟩:=hq;exact k.elim
  | goto l=>exact hq.elim
  | outgrown=>exact hq.elim
 show (Code.region id ops false).wpS P _ _ _ _;refine wpS_region ?_;rw[List.range_eq_range',hsz,List.range'_succ];obtain⟨r1,r2,r3⟩:=run_recover (P:=P) (a:={ tmps:=(⟨args⟩:Array Value)++Array.replicate (fn.ntmps-(⟨args⟩:Array Value).size) undef,defers:=[] }) (w:=w) hrec;have hwt:Region.wanted o (yielded ops ((⟨args⟩:Array Value)++Array.replicate (fn.ntmps-(⟨args⟩:Array Value).size) undef))=true:=by simp[Region.wanted,r1]
 simp only[wpOpsS,h0];rw[if_pos hwt];simp only[r3,r2];have hc:({ c₀ with mode:=m }:Frame)=c₀:=by subst hc₀;rfl
 cases u with
 | ret =>
  simp only[UMR]at hu;have hrd:recoverD (c₀::cs)=none:=by simp only[recoverD];rw[hc₀,hu]
  simp only[hrd];have:=main .nilif .nilIface .ret m (by simp only[Rv]) hw (λ_ _ _ _=>hu) _ hg;rw[hc]at this;exact this
 | pan y =>
  obtain⟨v',e1,e2⟩:=hu;have hrd:recoverD (c₀::cs)=some (v',{ c₀ with mode:=.panicking [{ v:=v',recovered:=true }] }::cs):=by simp only[recoverD];rw[hc₀,e1]
  simp only[hrd];exact main y v' .rcv _ e2 hw (λ_ _ _ _=>⟨v',rfl⟩) _ hg
 | rcv=>exact hw.elim
end
end Go.Dn
