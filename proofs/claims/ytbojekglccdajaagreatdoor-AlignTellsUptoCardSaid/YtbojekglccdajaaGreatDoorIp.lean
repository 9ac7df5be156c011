/- Chapter 13: the reference's Cost. Chapter 13: the reference's Cost: the way back. Chapter 13: the reference's Cost, whole. 'emendlaw13.AlignTells' as a contract. The row of 'emendlaw13.AlignTells': what is read, and that the call returns true. -/
import Derived.Test.YtbojekglccdajaaGreatDoorTie
import Derived.Test.YtbojekglccdajaaGreatDoorCards
import Derived.ProofKit
import Derived.LaidMore
import Derived.OpenShut
import Derived.Carry
import Derived.Stop.Joined
import Derived.Lay
import Derived.SevenTiedAt
import Derived.Deep.DeepHandedRow
import Derived.Deep.DeepWitnessRowRef
import Derived.Test.YtbojekglccdajaaGreatDoorIo
set_option linter.unusedSimpArgs false
set_option linter.unusedVariables false
namespace Go.Dn
open Go Go.Proofs.C1
set_option maxRecDepth 100000
attribute [local irreducible] afterS keepE
theorem cutIn {P:St->Prop}{K:St->Prop}{G:Prop}(h1:(∀S,P S->K S)->G)(h2:∀S,P S->K S):G:=h1 h2
structure Bx (K:Prop):Prop where
 out:K
theorem cutIn0 {K G:Prop}(h1:Bx K->G)(h2:K):G:=h1 ⟨h2⟩
abbrev nilS:AV:=.sl 1 ⟨none,0,some 0,true⟩ []
theorem nilS_el:El false 1 nilS:=⟨rfl,rfl⟩
abbrev vS (t N:Nat):AV:=.sl 1 ⟨some (t,t),0,some N,false⟩ (List.replicate N nilS)
structure RowPart (eq:Nat->Nat->Bool)(m i j:Nat)(r:Rw):Prop where
 lp:r.p.length=m+1
 lc:r.c.length=m+1
 hc:∀k,k<j->r.c[k]? = some (costP eq i k:Int)
 hp:∀i' k,i=i'+1->k+1<j->r.p[k+1]? = some (prP (eq i' k):Int)
theorem RowPart.border {eq:Nat->Nat->Bool}{m i j:Nat}{r:Rw}{v:Int}(h:RowPart eq m i j r)(hb:i=0\/j=0)(hj:j<=m)(hv:v=(costP eq i j:Int)):RowPart eq m i (j+1) { r with c:=r.c.set j v } where
 lp:=h.lp
 lc:=by simp[h.lc]
 hc k hk:=by
  simp only;by_cases e:j=k
  ·subst e;rw[List.getElem?_set_self (by rw[h.lc];omega),hv]
  ·rw[List.getElem?_set_ne e];exact h.hc k (by omega)
 hp i' k hi hk:=h.hp i' k hi (by omega)
theorem RowPart.step {eq:Nat->Nat->Bool}{m i j:Nat}{r:Rw}{v:Int}{p2:List Int}(h:RowPart eq m (i+1) (j+1) r)(hj:j+1<=m)(hv:v=(costP eq (i+1) (j+1):Int))(hl:p2.length=m+1)(hp:p2[j+1]? = some (prP (eq i j):Int))(hq:∀k,j+1≠k->p2[k]? = r.p[k]?):RowPart eq m (i+1) (j+1+1) { r with p:=p2,c:=r.c.set (j+1) v } where
 lp:=hl
 lc:=by simp[h.lc]
 hc k hk:=by
  simp only;by_cases e:j+1=k
  ·subst e;rw[List.getElem?_set_self (by rw[h.lc];omega),hv]
  ·rw[List.getElem?_set_ne e];exact h.hc k (by omega)
 hp i' k hi hk:=by
  obtain rfl:i=i':=by omega
  simp only;by_cases e:k=j
  ·subst e;exact hp
  ·rw[hq (k+1) (by omega)];exact h.hp i k rfl (by omega)
section
variable {tyS ty:TypeId}{z:AV}{tP bP tC bC n m:Nat}{tsP tsC:List Nat}{rows:List Rw}{tail x:List Rs}
theorem MatR.app:MatR tyS ty z tP bP tC bC n m tsP tsC rows tail++x=MatR tyS ty z tP bP tC bC n m tsP tsC rows (tail++x):=by simp[MatR]
theorem snoc_get {α:Type}{l:List α}{a:α}{i:Nat}(h:i=l.length):(l++[a])[i]? = some a:=by subst h;simp
theorem snoc_set {α:Type}{l:List α}{a b:α}{i:Nat}(h:i=l.length):(l++[a]).set i b=l++[b]:=by subst h;simp
end
abbrev HMt (S:St)(tP bP tC bC N m:Nat)(tsP tsC:List Nat)(rows:List Rw)(r:Rw):Prop:=Hs S (MatR 22 3 nilS tP bP tC bC N (m+1) tsP tsC (rows++[r]) [])
def ouR (ty:TypeId)(t b m:Nat)(l:List Int):List Rs:=if m=0 then [] else [.bx b ty ((intsZ l).flatMap AV.cells++[]),.mk t t b]
def ouV (t m:Nat):AV:=if m=0 then .sl 1 ⟨none,0,some 0,false⟩ [] else .sl 1 ⟨some (t,t),0,some m,false⟩ (List.replicate m (.int .i64 0))
section
variable {gt:GT}{C:CallT}
abbrev E_r0 (old fresh:List PT)(vp vc:AV)(i:Int):Env:=[(0,.val (.sl 4 stat (encTs old))),(1,.val (.sl 4 stat (encTs fresh))),(7,.val (.int .i64 old.length)),(8,.val (.int .i64 fresh.length)),(9,.val vp),(10,.val vc),(11,.val (.int .i64 i))]
abbrev E_r1 (old fresh:List PT)(vp vc:AV)(i j:Int):Env:=[(0,.val (.sl 4 stat (encTs old))),(1,.val (.sl 4 stat (encTs fresh))),(7,.val (.int .i64 old.length)),(8,.val (.int .i64 fresh.length)),(9,.val vp),(10,.val vc),(11,.val (.int .i64 i)),(12,.val (.int .i64 j))]
abbrev E_r2 (n m:Nat)(vp vc vo:AV)(i j:Int):Env:=[(7,.val (.int .i64 n)),(8,.val (.int .i64 m)),(9,.val vp),(10,.val vc),(13,.val vo),(14,.val (.int .i64 i)),(15,.val (.int .i64 j))]
set_option maxHeartbeats 32000000 in
theorem costR_inner (hm:MonoC C){old fresh:List PT}(hlo:old.length<549755813888)(hl:fresh.length<549755813888)
  (hsm:∀o∈old,∀f∈fresh,PF C 34 [encT o,encT f] (.bool (sameB o f))) {N tP bP tC bC i j:Nat} (hN:old.length+1=N) {rows:List Rw} {r:Rw} {S':St} (hrl:rows.length=i) (c:(i:Int)<=old.length)
  (hrows:∀k r,rows[k]? = some r->RowPart (eqL old fresh) fresh.length k (fresh.length+1) r)
  (hR:Hs S' (MatR 22 3 nilS tP bP tC bC N (fresh.length+1) ((rows++[r]).map Rw.tp) ((rows++[r]).map Rw.tc) (rows++[r]) [])) (hj:j<=fresh.length+1) (hr:RowPart (eqL old fresh) fresh.length i j r) {Q:Ex->Env->St->Prop}
  (hx:j=fresh.length+1->Q (.exit 2) (E_r1 old fresh (vS tP N) (vS tC N) i j++[(53,.val (.bool false))]) S')
  (hn:j<=fresh.length->∀S2 r2,Hs S2 (MatR 22 3 nilS tP bP tC bC N (fresh.length+1) ((rows++[r2]).map Rw.tp) ((rows++[r2]).map Rw.tc) (rows++[r2]) [])->RowPart (eqL old fresh) fresh.length i (j+1) r2->Q .normal (E_r1 old fresh (vS tP N) (vS tC N) i ((j+1:Nat):Int)) S2) :
  wpD gt C (subC (DF.body F19) [1,1,1,1,1,1,0,1,0,1,0,0,1,0,0,1,1,1,0,1,0]) (E_r1 old fresh (vS tP N) (vS tC N) i j) S' Q:=by
 have lo:=encTs_len old;have lf:=encTs_len fresh;have hiN:i<=N:=by omega
 have hlr:(List.replicate N nilS).length=N:=List.length_replicate;have hlm:(List.replicate (fresh.length+1) (AV.int .i64 0)).length=fresh.length+1:=List.length_replicate;have hri:(rows++[r])[i]? = some r:=snoc_get hrl.symm;refine goW ?_;by_cases c2:(j:Int)<=fresh.length
 case neg =>
  rw[dF c2];refine goW ?_;exact hx (by omega)
 rw[dT c2]
 clear hx
 have hl2:((rows++[r]).map Rw.tp).length<=N:=by simp;omega
 have hl3:((rows++[r]).map Rw.tc).length<=N:=by simp;omega
 have fin:∀(r2:Rw) (S2:St),r2.tp=r.tp->r2.tc=r.tc->RowPart (eqL old fresh) fresh.length i (j+1) r2->Hs S2 (MatR 22 3 nilS tP bP tC bC N (fresh.length+1) ((rows++[r]).map Rw.tp) ((rows++[r]).map Rw.tc) (rows++[r2]) [])->Q .normal (E_r1 old fresh (vS tP N) (vS tC N) i ((j+1:Nat):Int)) S2:=λr2 S2 h1 h2 h3 h4=>by
  refine hn (by omega) S2 r2 ?_ h3;simp only[List.map_append,List.map_cons,List.map_nil,h1,h2]at h4 ⊢;exact h4
 have border:∀S2:St,(i=0\/j=0)->Hs S2 (MatR 22 3 nilS tP bP tC bC N (fresh.length+1) ((rows++[r]).map Rw.tp) ((rows++[r]).map Rw.tc) ((rows++[r]).set i { r with c:=r.c.set j ((2:Int)*((i:Int)+j)) }) [])->Q .normal (E_r1 old fresh (vS tP N) (vS tC N) i ((j+1:Nat):Int)) S2:=λS2 hb h=>by
  rw[snoc_set hrl.symm]at h;refine fin _ S2 ?_ ?_ (hr.border hb (by omega) ?_) h
  ·rfl
  ·rfl
  ·rcases hb with rfl | rfl
   ·rw[costP_0j];omega
   ·rw[costP_i0];omega
 have hoC:=λ(S':St) (rw2:List Rw) (hR:Hs S' (MatR 22 3 nilS tP bP tC bC N (fresh.length+1) ((rows++[r]).map Rw.tp) ((rows++[r]).map Rw.tc) rw2 []))=>MatR.elsC hR nilS_el hl3 (cap:=some N) (nl:=false) hlr;have hoP:=λ(S':St) (rw2:List Rw) (hR:Hs S' (MatR 22 3 nilS tP bP tC bC N (fresh.length+1) ((rows++[r]).map Rw.tp) ((rows++[r]).map Rw.tc) rw2 []))=>MatR.elsP hR nilS_el hl2 (cap:=some N) (nl:=false) hlr;have gC:(outs nilS N (fresh.length+1) ((rows++[r]).map Rw.tc))[i]? = some (slR r.tc (fresh.length+1)):=outs_get (by rw[List.getElem?_map,hri];rfl);have gP:(outs nilS N (fresh.length+1) ((rows++[r]).map Rw.tp))[i]? = some (slR r.tp (fresh.length+1)):=outs_get (by rw[List.getElem?_map,hri];rfl);refine goW ?_;by_cases ci:(i:Int)=0
 ·rw[eqI_true ci];refine goW ?_;refine step_ruleO (sx_ia (k:=i) rfl rfl (by rw[hlr];omega)) (goW ?_);refine step_ruleO (sx_ldEl (agg:=false) (v:=slR r.tc (fresh.length+1)) rfl (hoC _ _ hR) gC rfl) (goW ?_);rw[wr64 (n:=(i:Int)+j) (by omega) (by omega),wr64 (n:=(2:Int)*((i:Int)+j)) (by omega) (by omega)];refine step_ruleO (sx_ia (k:=j) rfl rfl (by rw[hlm];omega)) (goW ?_);refine st_runP (MatR.stC hR hri (k:=j) (by rw[hlm,hr.lc]) rfl rfl (by rw[hr.lc];omega)) trivial ?_;intro S2 hR2;refine goW ?_;rw[wrNat (by omega)];exact border S2 (.inl (by omega)) hR2
 rw[eqI_false ci];refine goW ?_;by_cases cj:(j:Int)=0
 ·rw[eqI_true cj];refine goW ?_;refine step_ruleO (sx_ia (k:=i) rfl rfl (by rw[hlr];omega)) (goW ?_);refine step_ruleO (sx_ldEl (agg:=false) (v:=slR r.tc (fresh.length+1)) rfl (hoC _ _ hR) gC rfl) (goW ?_);rw[wr64 (n:=(i:Int)+j) (by omega) (by omega),wr64 (n:=(2:Int)*((i:Int)+j)) (by omega) (by omega)];refine step_ruleO (sx_ia (k:=j) rfl rfl (by rw[hlm];omega)) (goW ?_);refine st_runP (MatR.stC hR hri (k:=j) (by rw[hlm,hr.lc]) rfl rfl (by rw[hr.lc];omega)) trivial ?_;intro S2 hR2;refine goW ?_;rw[wrNat (by omega)];exact border S2 (.inr (by omega)) hR2
 rw[eqI_false cj]
 clear border
 obtain⟨i,rfl⟩:∃k,i=k+1:=⟨i-1,by omega⟩
 obtain⟨j,rfl⟩:∃k,j=k+1:=⟨j-1,by omega⟩
 obtain⟨r0,h0⟩:∃r0,rows[i]? = some r0:=⟨rows[i]'(by omega),gE _⟩
 have hr0:=hrows i r0 h0;have hr0i:∀r2:Rw,(rows++[r2])[i]? = some r0:=λr2=>by rw[List.getElem?_append_left (by omega)];exact h0
 have hti:∀r2:Rw,(rows++[r2])[i+1]? = some r2:=λr2=>snoc_get hrl.symm;have gC0:(outs nilS N (fresh.length+1) ((rows++[r]).map Rw.tc))[i]? = some (slR r0.tc (fresh.length+1)):=outs_get (by rw[List.getElem?_map,hr0i];rfl);have hif:i<old.length:=by omega
 have hjf:j<fresh.length:=by omega
 have hgi:=encTs_get hif;have hgj:=encTs_get hjf;have hti2:=rdT old[i];have htj2:=rdT fresh[j];have hsm:=hsm old[i] (List.getElem_mem hif) fresh[j] (List.getElem_mem hjf);rw[<-eqL_at hif hjf]at hsm;have q0:=hr0.hc j (by omega);have q1:=hr0.hc (j+1) (by omega);have q2:=hr.hc j (by omega);have hcs:=costP_ss (eq:=eqL old fresh) i j;have b1:=costP_le (eq:=eqL old fresh) i j;have b2:=costP_le (eq:=eqL old fresh) i (j+1);have b3:=costP_le (eq:=eqL old fresh) (i+1) j;generalize costP (eqL old fresh) i j=c00 at q0 hcs b1;generalize costP (eqL old fresh) i (j+1)=c01 at q1 hcs b2;generalize costP (eqL old fresh) (i+1) j=c10 at q2 hcs b3;have hpr:∃pr,prP (eqL old fresh i j)=pr/\pr<=3/\(pr=if eqL old fresh i j=true then 0 else 3):=⟨_,rfl,by unfold prP;split<;>omega,rfl⟩
 obtain⟨pr,hpr,hp3,hpe⟩:=hpr;rw[hpr]at hcs;generalize hsb:eqL old fresh i j=sb at hsm hpe;obtain⟨_,_,_,_,he⟩:=encT_agg old[i];obtain⟨_,_,_,_,he2⟩:=encT_agg fresh[j];rw[he]at hgi hti2 hsm;rw[he2]at hgj htj2 hsm;have e1:∀k:Nat,((k+1:Nat):Int)-1=k:=λk=>by omega
 have lp:=hr.lp;have lc:=hr.lc;have lc0:=hr0.lc;have iz:∀{l:List Int} {k:Nat} {v:Int},l[k]? = some v->(intsZ l)[k]? = some (.int .i64 v):=λh=>by simp[intsZ,h]
 refine goW ?_;refine step_ruleO (sx_ia (k:=i+1) rfl rfl (by rw[hlr];omega)) (goW ?_);refine step_ruleO (sx_ldEl (agg:=false) (v:=slR r.tp (fresh.length+1)) rfl (hoP _ _ hR) gP rfl) (goW ?_);refine step_ruleO (sx_ia (k:=j+1) rfl rfl (by rw[hlm];omega)) (goW ?_);refine st_runP (MatR.stP hR (hti r) (k:=j+1) (by rw[hlm,lp]) rfl rfl (by rw[lp];omega)) trivial ?_;intro S2 hR2;rw[snoc_set hrl.symm]at hR2;refine goW ?_;rw[wr64 (n:=((i+1:Nat):Int)-1) (by omega) (by omega),e1 i];refine step_ruleDO rfl rfl (sx_ia (k:=i) rfl rfl (by omega)) (goW ?_);refine step_ruleDO rfl rfl (sx_ldEl (agg:=true) rfl rfl hgi hti2) (goW ?_);rw[wr64 (n:=((j+1:Nat):Int)-1) (by omega) (by omega),e1 j];refine step_ruleDO rfl rfl (sx_ia (k:=j) rfl rfl (by omega)) (goW ?_);refine step_ruleDO rfl rfl (sx_ldEl (agg:=true) rfl rfl hgj htj2) (goW ?_);refine call_pfD hm (by rfl) hsm ?_
 clear hsm
 have p2l:(r.p.set (j+1) (pr:Int)).length=fresh.length+1:=by simp[lp]
 have p2g:(r.p.set (j+1) (pr:Int))[j+1]? = some (pr:Int):=List.getElem?_set_self (by rw[lp];omega);have p2o:∀k,j+1≠k->(r.p.set (j+1) (pr:Int))[k]? = r.p[k]?:=λk hk=>List.getElem?_set_ne hk;have eT:sb=true->r.p.set (j+1) (0:Int)=r.p.set (j+1) (pr:Int):=λhs=>by
  rw[show (0:Int)=(pr:Int) by rw[if_pos hs]at hpe;omega]
 have eF:¬sb=true->r.p.set (j+1) (3:Int)=r.p.set (j+1) (pr:Int):=λhs=>by
  rw[show (3:Int)=(pr:Int) by rw[if_neg hs]at hpe;omega]
 generalize hp2:r.p.set (j+1) (pr:Int)=p2 at p2l p2g p2o eT eF;have ldC:∀{d:Option Nat} {env:Env} {S3:St} {c2:List Int} {a:DOpd} {v:Int} {k:Nat},HMt S3 tP bP tC bC N fresh.length ((rows++[r]).map Rw.tp) ((rows++[r]).map Rw.tc) rows (Rw.mk r.tp r.bp r.tc r.bc p2 c2)->c2.length=fresh.length+1->c2[k]? = some v->loc env a=some (.el 1 ⟨some (r.tc,r.tc),0,some (fresh.length+1),false⟩ (List.replicate (fresh.length+1) (.int .i64 0)) k 0) ->
   stepO gt d env S3 (.ld false 1 a)=.done (putV d (.int .i64 v) env) S3:=λh h1 h2 h3=>sx_ldEl (agg:=false) h3 (MatR.rowC h (hti _) (by rw[hlm];exact h1.symm)) (iz h2) rfl
 have ldC0:∀{d:Option Nat} {env:Env} {S3:St} {c2:List Int} {a:DOpd} {v:Int} {k:Nat},HMt S3 tP bP tC bC N fresh.length ((rows++[r]).map Rw.tp) ((rows++[r]).map Rw.tc) rows (Rw.mk r.tp r.bp r.tc r.bc p2 c2)->r0.c[k]? = some v->loc env a=some (.el 1 ⟨some (r0.tc,r0.tc),0,some (fresh.length+1),false⟩ (List.replicate (fresh.length+1) (.int .i64 0)) k 0) ->
   stepO gt d env S3 (.ld false 1 a)=.done (putV d (.int .i64 v) env) S3:=λh h2 h3=>sx_ldEl (agg:=false) h3 (MatR.rowC h (hr0i _) (by rw[hlm];exact lc0.symm)) (iz h2) rfl
 have ldP:∀{d:Option Nat} {env:Env} {S3:St} {c2:List Int} {a:DOpd} {v:Int} {k:Nat},HMt S3 tP bP tC bC N fresh.length ((rows++[r]).map Rw.tp) ((rows++[r]).map Rw.tc) rows (Rw.mk r.tp r.bp r.tc r.bc p2 c2)->p2[k]? = some v->loc env a=some (.el 1 ⟨some (r.tp,r.tp),0,some (fresh.length+1),false⟩ (List.replicate (fresh.length+1) (.int .i64 0)) k 0) ->
   stepO gt d env S3 (.ld false 1 a)=.done (putV d (.int .i64 v) env) S3:=λh h2 h3=>sx_ldEl (agg:=false) h3 (MatR.rowP h (hti _) (by rw[hlm];exact p2l.symm)) (iz h2) rfl
 have put:∀{env:Env} {S3:St} {c2:List Int} {a x:DOpd} {v:Int},HMt S3 tP bP tC bC N fresh.length ((rows++[r]).map Rw.tp) ((rows++[r]).map Rw.tc) rows (Rw.mk r.tp r.bp r.tc r.bc p2 c2)->c2.length=fresh.length+1->loc env a=some (.el 1 ⟨some (r.tc,r.tc),0,some (fresh.length+1),false⟩ (List.replicate (fresh.length+1) (.int .i64 0)) (j+1) 0)->opd env x=some (.int .i64 v) ->
   ∃S4,stepO gt none env S3 (.st 1 a x)=.done (putV none .undef env) S4/\HMt S4 tP bP tC bC N fresh.length ((rows++[r]).map Rw.tp) ((rows++[r]).map Rw.tc) rows (Rw.mk r.tp r.bp r.tc r.bc p2 (c2.set (j+1) v)):=λh h1 h2 h3=>by
  obtain⟨S4,a1,a2⟩:=MatR.stC h (hti _) (gt:=gt) (d:=none) (by rw[hlm];exact h1.symm) h2 h3 (by simp only;omega);rw[snoc_set hrl.symm]at a2;exact⟨S4,a1,a2⟩
 have ldo:∀{d:Option Nat} {env:Env} {S3:St} {c2:List Int} {a:DOpd},HMt S3 tP bP tC bC N fresh.length ((rows++[r]).map Rw.tp) ((rows++[r]).map Rw.tc) rows (Rw.mk r.tp r.bp r.tc r.bc p2 c2)->loc env a=some (.el 1 ⟨some (tC,tC),0,some N,false⟩ (List.replicate N nilS) (i+1) 0)->stepO gt d env S3 (.ld false 1 a)=.done (putV d (slR r.tc (fresh.length+1)) env) S3:=λh h3=>sx_ldEl (agg:=false) h3 (hoC _ _ h) gC rfl;have ldo0:∀{d:Option Nat} {env:Env} {S3:St} {c2:List Int} {a:DOpd},HMt S3 tP bP tC bC N fresh.length ((rows++[r]).map Rw.tp) ((rows++[r]).map Rw.tc) rows (Rw.mk r.tp r.bp r.tc r.bc p2 c2)->loc env a=some (.el 1 ⟨some (tC,tC),0,some N,false⟩ (List.replicate N nilS) i 0)->stepO gt d env S3 (.ld false 1 a)=.done (putV d (slR r0.tc (fresh.length+1)) env) S3:=λh h3=>sx_ldEl (agg:=false) h3 (hoC _ _ h) gC0 rfl;have ldoP:∀{d:Option Nat} {env:Env} {S3:St} {c2:List Int} {a:DOpd},HMt S3 tP bP tC bC N fresh.length ((rows++[r]).map Rw.tp) ((rows++[r]).map Rw.tc) rows (Rw.mk r.tp r.bp r.tc r.bc p2 c2)->loc env a=some (.el 1 ⟨some (tP,tP),0,some N,false⟩ (List.replicate N nilS) (i+1) 0)->stepO gt d env S3 (.ld false 1 a)=.done (putV d (slR r.tp (fresh.length+1)) env) S3:=λh h3=>sx_ldEl (agg:=false) h3 (hoP _ _ h) gP rfl;have iaN:∀k,k<N->k<(List.replicate N nilS).length:=λk h=>by rw[hlr];exact h
 have iaM:∀k,k<fresh.length+1->k<(List.replicate (fresh.length+1) (AV.int .i64 0)).length:=λk h=>by rw[hlm];exact h
 refine cutIn (P:=λS3=>HMt S3 tP bP tC bC N fresh.length ((rows++[r]).map Rw.tp) ((rows++[r]).map Rw.tc) rows (Rw.mk r.tp r.bp r.tc r.bc p2 (r.c.set (j+1) ((c00:Int)+pr)))) (K:=?K1) ?_ ?_
 rotate_left
 ·intro cont;by_cases hs:sb=true
  ·rw[hs];refine goW ?_;refine step_ruleO (sx_ia (k:=i+1) rfl rfl (iaN _ (by omega))) (goW ?_);refine step_ruleO (sx_ldEl (agg:=false) (v:=slR r.tp (fresh.length+1)) rfl (hoP _ _ hR2) gP rfl) (goW ?_);refine step_ruleO (sx_ia (k:=j+1) rfl rfl (iaM _ (by omega))) (goW ?_);refine st_runP (MatR.stP hR2 (hti _) (k:=j+1) (v:=0) (by rw[hlm];simp[lp]) rfl rfl (by simp[lp];omega)) trivial ?_;intro S3 hR3;rw[snoc_set hrl.symm]at hR3;simp only[List.set_set]at hR3;rw[eT hs]at hR3;refine goW ?_;refine step_ruleDO rfl rfl (sx_ia (k:=i+1) rfl rfl (iaN _ (by omega))) (goW ?_);refine step_ruleDO rfl rfl (ldo hR3 rfl) (goW ?_);rw[wr64 (n:=((i+1:Nat):Int)-1) (by omega) (by omega),e1 i];refine step_ruleDO rfl rfl (sx_ia (k:=i) rfl rfl (iaN _ (by omega))) (goW ?_);refine step_ruleDO rfl rfl (ldo0 hR3 rfl) (goW ?_);rw[wr64 (n:=((j+1:Nat):Int)-1) (by omega) (by omega),e1 j];refine step_ruleDO rfl rfl (sx_ia (k:=j) rfl rfl (iaM _ (by omega))) (goW ?_);refine step_ruleDO rfl rfl (ldC0 hR3 q0 rfl) (goW ?_);refine step_ruleDO rfl rfl (sx_ia (k:=i+1) rfl rfl (iaN _ (by omega))) (goW ?_);refine step_ruleDO rfl rfl (ldoP hR3 rfl) (goW ?_);refine step_ruleDO rfl rfl (sx_ia (k:=j+1) rfl rfl (iaM _ (by omega))) (goW ?_);refine step_ruleDO rfl rfl (ldP hR3 p2g rfl) (goW ?_);rw[wr64 (n:=(c00:Int)+pr) (by omega) (by omega)];refine step_ruleDO rfl rfl (sx_ia (k:=j+1) rfl rfl (iaM _ (by omega))) (goW ?_);refine st_runPD (put hR3 lc rfl rfl) trivial rfl rfl ?_;intro S6 hR6;refine goW ?_;exact cont S6 hR6
  ·rw[show sb=false by simpa using hs];rw[eF hs]at hR2;refine goW ?_;refine step_ruleDO rfl rfl (sx_ia (k:=i+1) rfl rfl (iaN _ (by omega))) (goW ?_);refine step_ruleDO rfl rfl (ldo hR2 rfl) (goW ?_);rw[wr64 (n:=((i+1:Nat):Int)-1) (by omega) (by omega),e1 i];refine step_ruleDO rfl rfl (sx_ia (k:=i) rfl rfl (iaN _ (by omega))) (goW ?_);refine step_ruleDO rfl rfl (ldo0 hR2 rfl) (goW ?_);rw[wr64 (n:=((j+1:Nat):Int)-1) (by omega) (by omega),e1 j];refine step_ruleDO rfl rfl (sx_ia (k:=j) rfl rfl (iaM _ (by omega))) (goW ?_);refine step_ruleDO rfl rfl (ldC0 hR2 q0 rfl) (goW ?_);refine step_ruleDO rfl rfl (sx_ia (k:=i+1) rfl rfl (iaN _ (by omega))) (goW ?_);refine step_ruleDO rfl rfl (ldoP hR2 rfl) (goW ?_);refine step_ruleDO rfl rfl (sx_ia (k:=j+1) rfl rfl (iaM _ (by omega))) (goW ?_);refine step_ruleDO rfl rfl (ldP hR2 p2g rfl) (goW ?_);rw[wr64 (n:=(c00:Int)+pr) (by omega) (by omega)];refine step_ruleDO rfl rfl (sx_ia (k:=j+1) rfl rfl (iaM _ (by omega))) (goW ?_);refine st_runPD (put hR2 lc rfl rfl) trivial rfl rfl ?_;intro S6 hR6;refine goW ?_;exact cont S6 hR6
 clear hR hR2 S2 S'
 intro S2 hR;have c1l:(r.c.set (j+1) ((c00:Int)+pr)).length=fresh.length+1:=by simp[lc]
 have c1g:(r.c.set (j+1) ((c00:Int)+pr))[j+1]? = some ((c00:Int)+pr):=List.getElem?_set_self (by rw[lc];omega);have c2l:∀v:Int,(r.c.set (j+1) v).length=fresh.length+1:=λv=>by simp[lc]
 have c2g:∀v:Int,(r.c.set (j+1) v)[j+1]? = some v:=λv=>List.getElem?_set_self (by rw[lc];omega);have c2h:∀v:Int,(r.c.set (j+1) v)[j]? = some (c10:Int):=λv=>by rw[List.getElem?_set_ne (by omega)];exact q2
 generalize hv1:(c00:Int)+pr=v1 at hR c1l c1g;generalize hv2:min v1 ((c01:Int)+2)=v2;refine goW ?_;rw[wr64 (n:=((i+1:Nat):Int)-1) (by omega) (by omega),e1 i];refine step_ruleDO rfl rfl (sx_ia (k:=i) rfl rfl (iaN _ (by omega))) (goW ?_);refine step_ruleDO rfl rfl (ldo0 hR rfl) (goW ?_);refine step_ruleDO rfl rfl (sx_ia (k:=j+1) rfl rfl (iaM _ (by omega))) (goW ?_);refine step_ruleDO rfl rfl (ldC0 hR q1 rfl) (goW ?_);rw[wr64 (n:=(c01:Int)+2) (by omega) (by omega)];refine step_ruleDO rfl rfl (sx_ia (k:=i+1) rfl rfl (iaN _ (by omega))) (goW ?_);refine step_ruleDO rfl rfl (ldo hR rfl) (goW ?_);refine step_ruleDO rfl rfl (sx_ia (k:=j+1) rfl rfl (iaM _ (by omega))) (goW ?_);refine step_ruleDO rfl rfl (ldC hR c1l c1g rfl) (goW ?_);refine cutIn (P:=λS3=>HMt S3 tP bP tC bC N fresh.length ((rows++[r]).map Rw.tp) ((rows++[r]).map Rw.tc) rows (Rw.mk r.tp r.bp r.tc r.bc p2 (r.c.set (j+1) v2))) (K:=?K2) ?_ ?_
 rotate_left
 ·intro cont;by_cases z:(c01:Int)+2<v1
  ·rw[dT z];refine goW ?_;refine step_ruleDO rfl rfl (sx_ia (k:=i+1) rfl rfl (iaN _ (by omega))) (goW ?_);refine step_ruleDO rfl rfl (ldo hR rfl) (goW ?_);rw[wr64 (n:=((i+1:Nat):Int)-1) (by omega) (by omega),e1 i];refine step_ruleDO rfl rfl (sx_ia (k:=i) rfl rfl (iaN _ (by omega))) (goW ?_);refine step_ruleDO rfl rfl (ldo0 hR rfl) (goW ?_);refine step_ruleDO rfl rfl (sx_ia (k:=j+1) rfl rfl (iaM _ (by omega))) (goW ?_);refine step_ruleDO rfl rfl (ldC0 hR q1 rfl) (goW ?_);rw[wr64 (n:=(c01:Int)+2) (by omega) (by omega)];refine step_ruleDO rfl rfl (sx_ia (k:=j+1) rfl rfl (iaM _ (by omega))) (goW ?_);refine st_runPD (put hR c1l rfl rfl) trivial rfl rfl ?_;intro S3 hR3;rw[List.set_set,show (c01:Int)+2=v2 by omega]at hR3;refine goW ?_;refine step_ruleDO rfl rfl (sx_ia (k:=i+1) rfl rfl (iaN _ (by omega))) (goW ?_);refine step_ruleDO rfl rfl (ldo hR3 rfl) (goW ?_);rw[wr64 (n:=((j+1:Nat):Int)-1) (by omega) (by omega),e1 j];refine step_ruleDO rfl rfl (sx_ia (k:=j) rfl rfl (iaM _ (by omega))) (goW ?_);refine step_ruleDO rfl rfl (ldC hR3 (c2l _) (c2h _) rfl) (goW ?_);rw[wr64 (n:=(c10:Int)+2) (by omega) (by omega)];refine step_ruleDO rfl rfl (sx_ia (k:=i+1) rfl rfl (iaN _ (by omega))) (goW ?_);refine step_ruleDO rfl rfl (ldo hR3 rfl) (goW ?_);refine step_ruleDO rfl rfl (sx_ia (k:=j+1) rfl rfl (iaM _ (by omega))) (goW ?_);refine step_ruleDO rfl rfl (ldC hR3 (c2l _) (c2g _) rfl) (goW ?_);exact cont S3 hR3
  ·rw[dF z];rw[show v1=v2 by omega]at hR;refine goW ?_;refine step_ruleDO rfl rfl (sx_ia (k:=i+1) rfl rfl (iaN _ (by omega))) (goW ?_);refine step_ruleDO rfl rfl (ldo hR rfl) (goW ?_);rw[wr64 (n:=((j+1:Nat):Int)-1) (by omega) (by omega),e1 j];refine step_ruleDO rfl rfl (sx_ia (k:=j) rfl rfl (iaM _ (by omega))) (goW ?_);refine step_ruleDO rfl rfl (ldC hR (c2l _) (c2h _) rfl) (goW ?_);rw[wr64 (n:=(c10:Int)+2) (by omega) (by omega)];refine step_ruleDO rfl rfl (sx_ia (k:=i+1) rfl rfl (iaN _ (by omega))) (goW ?_);refine step_ruleDO rfl rfl (ldo hR rfl) (goW ?_);refine step_ruleDO rfl rfl (sx_ia (k:=j+1) rfl rfl (iaM _ (by omega))) (goW ?_);refine step_ruleDO rfl rfl (ldC hR (c2l _) (c2g _) rfl) (goW ?_);exact cont S2 hR
 clear hR S2 c1l c1g
 intro S2 hR;have hstp:=hr.step (v:=min v2 ((c10:Int)+2)) (p2:=p2) (by omega) (by rw[hcs];omega) p2l (by rw[hpr];exact p2g) p2o;by_cases z:(c10:Int)+2<v2
 ·rw[dT z];refine goW ?_;refine step_ruleDO rfl rfl (sx_ia (k:=i+1) rfl rfl (iaN _ (by omega))) (goW ?_);refine step_ruleDO rfl rfl (ldo hR rfl) (goW ?_);refine step_ruleDO rfl rfl (sx_ia (k:=i+1) rfl rfl (iaN _ (by omega))) (goW ?_);refine step_ruleDO rfl rfl (ldo hR rfl) (goW ?_);rw[wr64 (n:=((j+1:Nat):Int)-1) (by omega) (by omega),e1 j];refine step_ruleDO rfl rfl (sx_ia (k:=j) rfl rfl (iaM _ (by omega))) (goW ?_);refine step_ruleDO rfl rfl (ldC hR (c2l _) (c2h _) rfl) (goW ?_);rw[wr64 (n:=(c10:Int)+2) (by omega) (by omega)];refine step_ruleDO rfl rfl (sx_ia (k:=j+1) rfl rfl (iaM _ (by omega))) (goW ?_);refine st_runPD (put hR (c2l _) rfl rfl) trivial rfl rfl ?_;intro S3 hR3;rw[List.set_set,show (c10:Int)+2=min v2 ((c10:Int)+2) by omega]at hR3;refine goW ?_;rw[wrNat (by omega)];exact fin (Rw.mk r.tp r.bp r.tc r.bc p2 (r.c.set (j+1) (min v2 ((c10:Int)+2)))) S3 rfl rfl hstp hR3
 ·rw[dF z];have hR3:HMt S2 tP bP tC bC N fresh.length ((rows++[r]).map Rw.tp) ((rows++[r]).map Rw.tc) rows (Rw.mk r.tp r.bp r.tc r.bc p2 (r.c.set (j+1) (min v2 ((c10:Int)+2)))):=by
   rw[show min v2 ((c10:Int)+2)=v2 by omega];exact hR
  refine goW ?_;rw[wrNat (by omega)];exact fin (Rw.mk r.tp r.bp r.tc r.bc p2 (r.c.set (j+1) (min v2 ((c10:Int)+2)))) S2 rfl rfl hstp hR3
end

section
variable {gt:GT}{C:CallT}
theorem MatR.stO {S:St}{tyS ty:TypeId}{z:AV}{tP bP tC bC n m N:Nat}{tsP tsC:List Nat}{rows:List Rw}{t b:Nat}{l:List Int}(hR:Hs S (MatR tyS ty z tP bP tC bC N n tsP tsC rows (ouR ty t b m l)))(hm:¬m=0)(hlm:l.length=m){gt:GT}{d:Option Nat}{env:Env}{a x:DOpd}{k:Nat}{v:Int}
  (ha:loc env a=some (.el 1 ⟨some (t,t),0,some m,false⟩ (List.replicate m (.int .i64 0)) k 0)) (hv:opd env x=some (.int .i64 v)) (hk:k<m) :
  ∃S',stepO gt d env S (.st 1 a x)=.done (putV d .undef env) S'/\Hs S' (MatR tyS ty z tP bP tC bC N n tsP tsC rows (ouR ty t b m (l.set k v))):=by
 have hU:∀l:List Int,ouR ty t b m l=[.bx b ty ((intsZ l).flatMap AV.cells++[]),.mk t t b]:=λl=>by unfold ouR;rw[if_neg hm]
 rw[hU]at hR ⊢;have h0:=MatR.tails (tyS:=tyS) (ty:=ty) (z:=z) (tP:=tP) (bP:=bP) (tC:=tC) (bC:=bC) (n:=N) (m:=n) (tsP:=tsP) (tsC:=tsC) (rows:=rows) (tail:=[.bx b ty ((intsZ l).flatMap AV.cells++[]),.mk t t b]) 0;have h1:=MatR.tails (tyS:=tyS) (ty:=ty) (z:=z) (tP:=tP) (bP:=bP) (tC:=tC) (bC:=bC) (n:=N) (m:=n) (tsP:=tsP) (tsC:=tsC) (rows:=rows) (tail:=[.bx b ty ((intsZ l).flatMap AV.cells++[]),.mk t t b]) 1;obtain⟨S',e1,e2⟩:=arr_st hR _ h0 h1 (λy hy=>(intsZ_el l y hy).1) (gt:=gt) (d:=d) (env:=env) (a:=a) (x:=x) (xs:=List.replicate m (.int .i64 0)) (so:=0) (k:=k) (off:=0) (sz:=1) (cap:=some m) (nl:=false) (v:=.int .i64 v) (v':=.int .i64 v) ha hv rfl (by simp;omega) (by rw[intsZ_len];omega) (nR 1) (by
  have hc:(intsZ l)[0+k]'(by rw[intsZ_len];omega)=.int .i64 (l[k]):=by simp[intsZ]
  rw[hc];rfl)
 refine⟨S',e1,?_⟩;rw[Nat.zero_add,MatR.setTail]at e2;simpa[intsZ,List.map_set] using e2
set_option maxHeartbeats 16000000 in
theorem costR_back (hm:MonoC C){eq:Nat->Nat->Bool}{n m N tP bP tC bC t b i j:Nat}(hn:n<549755813888)(hl:m<549755813888)(hN:n+1=N){rows:List Rw}{P suf:List Int}{S':St}(hrl:rows.length=N)
  (hrows:∀k r,rows[k]? = some r->RowPart eq m k (m+1) r) (hR:Hs S' (MatR 22 3 nilS tP bP tC bC N (m+1) (rows.map Rw.tp) (rows.map Rw.tc) rows (ouR 3 t b m (P++suf))))
  (hP:P.length=j) (hPl:(P++suf).length=m) (hi:i<=n) (hj:j<=m) (hf:fromP eq n m=fromP eq i j++suf) {Q:Ex->Env->St->Prop}
  (hx:j=0->Q (.exit 4) (E_r2 n m (vS tP N) (vS tC N) (ouV t m) i j++[(187,.val (.bool false))]) S')
  (hnx:∀(i2 j2:Nat) (P2 suf2:List Int) (S2:St),Hs S2 (MatR 22 3 nilS tP bP tC bC N (m+1) (rows.map Rw.tp) (rows.map Rw.tc) rows (ouR 3 t b m (P2++suf2)))->P2.length=j2->(P2++suf2).length=m->i2<=n->j2<=m->fromP eq n m=fromP eq i2 j2++suf2->i2+j2<i+j->Q .normal (E_r2 n m (vS tP N) (vS tC N) (ouV t m) i2 j2) S2) :
  wpD gt C (subC (DF.body F19) [1,1,1,1,1,1,1,1,1,1,0,0,1,0]) (E_r2 n m (vS tP N) (vS tC N) (ouV t m) i j) S' Q:=by
 have hlr:(List.replicate N nilS).length=N:=List.length_replicate;have hlm:(List.replicate (m+1) (AV.int .i64 0)).length=m+1:=List.length_replicate;have hlo:(List.replicate m (AV.int .i64 0)).length=m:=List.length_replicate;have iz:∀{l:List Int} {k:Nat} {v:Int},l[k]? = some v->(intsZ l)[k]? = some (.int .i64 v):=λh=>by simp[intsZ,h]
 refine goW ?_;by_cases zj:(j:Int) > 0
 case neg =>
  rw[dF zj];refine goW ?_;exact hx (by omega)
 rw[dT zj]
 clear hx
 obtain⟨j,rfl⟩:∃k,j=k+1:=⟨j-1,by omega⟩
 have e1:∀k:Nat,((k+1:Nat):Int)-1=k:=λk=>by omega
 have hm0:¬m=0:=by omega
 have hov:ouV t m=.sl 1 ⟨some (t,t),0,some m,false⟩ (List.replicate m (.int .i64 0)):=by unfold ouV;rw[if_neg hm0]
 obtain⟨P,x,rfl⟩:∃P2 x,P=P2++[x]:=⟨P.dropLast,P.getLast (λe=>by rw[e]at hP;simp at hP),(List.dropLast_concat_getLast _).symm⟩
 have hP2:P.length=j:=by simpa using hP
 have hset:∀v:Int,(P++[x]++suf).set j v=P++(v::suf):=λv=>by rw[aA];exact set_mid hP2.symm
 have hl2:∀v:Int,(P++(v::suf)).length=m:=λv=>by have:=hPl;simp only[lA,lC,lN]at this ⊢;omega
 have put:∀{env:Env} {a y:DOpd} {v:Int},loc env a=some (.el 1 ⟨some (t,t),0,some m,false⟩ (List.replicate m (.int .i64 0)) j 0)->opd env y=some (.int .i64 v) ->
   ∃S2,stepO gt none env S' (.st 1 a y)=.done (putV none .undef env) S2/\Hs S2 (MatR 22 3 nilS tP bP tC bC N (m+1) (rows.map Rw.tp) (rows.map Rw.tc) rows (ouR 3 t b m (P++(v::suf)))):=λh1 h2=>by
  have:=MatR.stO hR hm0 hPl (gt:=gt) (d:=none) h1 h2 (by omega);rw[hset]at this;exact this
 have lone:∀S2:St,Hs S2 (MatR 22 3 nilS tP bP tC bC N (m+1) (rows.map Rw.tp) (rows.map Rw.tc) rows (ouR 3 t b m (P++((-1:Int)::suf))))->fromP eq i (j+1)=fromP eq i j++[-1]->Q .normal (E_r2 n m (vS tP N) (vS tC N) (ouV t m) i j) S2:=λS2 h e =>
  hnx i j P ((-1:Int)::suf) S2 h hP2 (hl2 _) hi (by omega) (by rw[hf,e,aA];rfl) (by omega)
 rw[hov]at lone hnx ⊢;refine goW ?_;by_cases zi:(i:Int) > 0
 case neg =>
  rw[dF zi];refine goW ?_;rw[dF zi];refine goW ?_;rw[wr64 (n:=((j+1:Nat):Int)-1) (by omega) (by omega),e1 j];refine step_ruleO (sx_ia (k:=j) rfl rfl (by rw[hlo];omega)) (goW ?_);refine st_runP (put rfl rfl) trivial ?_;intro S2 hR2;refine goW ?_;exact lone S2 hR2 (by rw[show i=0 by omega,fromP_0,fromP_0,List.replicate_succ'])
 rw[dT zi];obtain⟨i,rfl⟩:∃k,i=k+1:=⟨i-1,by omega⟩
 obtain⟨r0,h0⟩:∃r0,rows[i]? = some r0:=⟨rows[i]'(by omega),gE _⟩
 obtain⟨r1,h1⟩:∃r1,rows[i+1]? = some r1:=⟨rows[i+1]'(by omega),gE _⟩
 have g0:=hrows i r0 h0;have g1:=hrows (i+1) r1 h1;have c00:=g0.hc j (by omega);have c01:=g0.hc (j+1) (by omega);have c11:=g1.hc (j+1) (by omega);have p11:=g1.hp i j rfl (by omega);have b1:=costP_le (eq:=eq) i j;have b2:=costP_le (eq:=eq) i (j+1);have b3:=costP_le (eq:=eq) (i+1) (j+1);have b4:prP (eq i j)<=3:=by unfold prP;split<;>omega
 have hl3:(rows.map Rw.tp).length<=N:=by simp;omega
 have hl4:(rows.map Rw.tc).length<=N:=by simp;omega
 have gP:(outs nilS N (m+1) (rows.map Rw.tp))[i+1]? = some (slR r1.tp (m+1)):=outs_get (by rw[List.getElem?_map,h1];rfl);have gC0:(outs nilS N (m+1) (rows.map Rw.tc))[i]? = some (slR r0.tc (m+1)):=outs_get (by rw[List.getElem?_map,h0];rfl);have gC1:(outs nilS N (m+1) (rows.map Rw.tc))[i+1]? = some (slR r1.tc (m+1)):=outs_get (by rw[List.getElem?_map,h1];rfl);have hoP:=MatR.elsP hR nilS_el hl3 (cap:=some N) (nl:=false) hlr;have hoC:=MatR.elsC hR nilS_el hl4 (cap:=some N) (nl:=false) hlr;have hrC0:=MatR.rowC hR h0 (cap:=some (m+1)) (nl:=false) (xs:=List.replicate (m+1) (.int .i64 0)) (by rw[hlm,g0.lc]);have hrC1:=MatR.rowC hR h1 (cap:=some (m+1)) (nl:=false) (xs:=List.replicate (m+1) (.int .i64 0)) (by rw[hlm,g1.lc]);have hrP1:=MatR.rowP hR h1 (cap:=some (m+1)) (nl:=false) (xs:=List.replicate (m+1) (.int .i64 0)) (by rw[hlm,g1.lp]);rw[fromP_ss]at hf lone;refine goW ?_;refine st_anyD (by exact rfl) rfl rfl (sx_ia (k:=i+1) rfl rfl (by rw[hlr];omega)) (goW ?_);refine st_anyD (by exact rfl) rfl rfl (sx_ldEl (agg:=false) (v:=slR r1.tc (m+1)) rfl hoC gC1 rfl) (goW ?_);refine st_anyD (by exact rfl) rfl rfl (sx_ia (k:=j+1) rfl rfl (by rw[hlm];omega)) (goW ?_);refine st_anyD (by exact rfl) rfl rfl (sx_ldEl (agg:=false) rfl hrC1 (iz c11) rfl) (goW ?_);rw[wr64 (n:=((i+1:Nat):Int)-1) (by omega) (by omega),e1 i];refine st_anyD (by exact rfl) rfl rfl (sx_ia (k:=i) rfl rfl (by rw[hlr];omega)) (goW ?_);refine st_anyD (by exact rfl) rfl rfl (sx_ldEl (agg:=false) (v:=slR r0.tc (m+1)) rfl hoC gC0 rfl) (goW ?_);rw[wr64 (n:=((j+1:Nat):Int)-1) (by omega) (by omega),e1 j];refine st_anyD (by exact rfl) rfl rfl (sx_ia (k:=j) rfl rfl (by rw[hlm];omega)) (goW ?_);refine st_anyD (by exact rfl) rfl rfl (sx_ldEl (agg:=false) rfl hrC0 (iz c00) rfl) (goW ?_);refine st_anyD (by exact rfl) rfl rfl (sx_ia (k:=i+1) rfl rfl (by rw[hlr];omega)) (goW ?_);refine st_anyD (by exact rfl) rfl rfl (sx_ldEl (agg:=false) (v:=slR r1.tp (m+1)) rfl hoP gP rfl) (goW ?_);refine st_anyD (by exact rfl) rfl rfl (sx_ia (k:=j+1) rfl rfl (by rw[hlm];omega)) (goW ?_);refine st_anyD (by exact rfl) rfl rfl (sx_ldEl (agg:=false) rfl hrP1 (iz p11) rfl) (goW ?_);rw[wr64 (n:=(costP eq i j:Int)+prP (eq i j)) (by omega) (by omega)];by_cases q1:(costP eq (i+1) (j+1):Int)=(costP eq i j:Int)+prP (eq i j)
 ·rw[eqI_true q1];rw[if_pos (by omega)]at hf;refine goW ?_;rw[wr64 (n:=((i+1:Nat):Int)-1) (by omega) (by omega),e1 i];rw[wr64 (n:=((j+1:Nat):Int)-1) (by omega) (by omega),e1 j];refine step_ruleO (sx_ia (k:=j) rfl rfl (by rw[hlo];omega)) (goW ?_);refine st_runP (put rfl rfl) trivial ?_;intro S2 hR2;refine goW ?_;exact hnx i j P ((i:Int)::suf) S2 hR2 hP2 (hl2 _) (by omega) (by omega) (by rw[hf,aA];rfl) (by omega)
 rw[eqI_false q1];rw[if_neg (by omega)]at hf lone;refine goW ?_;rw[dT zi];refine goW ?_;refine st_anyD (by exact rfl) rfl rfl (sx_ia (k:=i+1) rfl rfl (by rw[hlr];omega)) (goW ?_);refine st_anyD (by exact rfl) rfl rfl (sx_ldEl (agg:=false) (v:=slR r1.tc (m+1)) rfl hoC gC1 rfl) (goW ?_);refine st_anyD (by exact rfl) rfl rfl (sx_ia (k:=j+1) rfl rfl (by rw[hlm];omega)) (goW ?_);refine st_anyD (by exact rfl) rfl rfl (sx_ldEl (agg:=false) rfl hrC1 (iz c11) rfl) (goW ?_);rw[wr64 (n:=((i+1:Nat):Int)-1) (by omega) (by omega),e1 i];refine st_anyD (by exact rfl) rfl rfl (sx_ia (k:=i) rfl rfl (by rw[hlr];omega)) (goW ?_);refine st_anyD (by exact rfl) rfl rfl (sx_ldEl (agg:=false) (v:=slR r0.tc (m+1)) rfl hoC gC0 rfl) (goW ?_);refine st_anyD (by exact rfl) rfl rfl (sx_ia (k:=j+1) rfl rfl (by rw[hlm];omega)) (goW ?_);refine st_anyD (by exact rfl) rfl rfl (sx_ldEl (agg:=false) rfl hrC0 (iz c01) rfl) (goW ?_);rw[wr64 (n:=(costP eq i (j+1):Int)+2) (by omega) (by omega)];by_cases q2:(costP eq (i+1) (j+1):Int)=(costP eq i (j+1):Int)+2
 ·rw[eqI_true q2];rw[if_pos (by omega)]at hf;refine goW ?_;rw[wr64 (n:=((i+1:Nat):Int)-1) (by omega) (by omega),e1 i];exact hnx i (j+1) (P++[x]) suf S' hR hP hPl (by omega) hj hf (by omega)
 ·rw[eqI_false q2];rw[if_neg (by omega)]at lone;refine goW ?_;rw[wr64 (n:=((j+1:Nat):Int)-1) (by omega) (by omega),e1 j];refine step_ruleO (sx_ia (k:=j) rfl rfl (by rw[hlo];omega)) (goW ?_);refine st_runP (put rfl rfl) trivial ?_;intro S2 hR2;refine goW ?_;exact lone S2 hR2 rfl
theorem r_ou {tyS:TypeId}{z:AV}{tP bP tC bC n m N:Nat}{tsP tsC:List Nat}{rows:List Rw}{d:Nat}{env:Env}{S:St}{x:DOpd}{K:Env->St->Prop}{Q:Ex->Env->St->Prop}(hR:Hs S (MatR tyS 3 z tP bP tC bC N n tsP tsC rows []))(hx:opd env x=some (.int .i64 (m:Int)))(hn:m<549755813888)
  (k:∀t b S',Hs S' (MatR tyS 3 z tP bP tC bC N n tsP tsC rows (ouR 3 t b m (List.replicate m 0)))->K ((d,.val (ouV t m))::env) S'):afterS C (some d) env S K Q (stepI gt ⟨some d,.mks 3 1 8 (.int .i64 0) x x,none⟩ env S):=by
 by_cases n0:m=0
 ·refine st_any (by exact trivial) (env':=(d,.val (.sl 1 ⟨none,0,some 0,false⟩ []))::env) (S':=S) ?_ ?_
  ·simp only[stepO,hx,n0];rfl
  ·have:=k 0 0 S (by unfold ouR;rw[if_pos n0];exact hR);unfold ouV at this;rw[if_pos n0]at this;exact this
 ·refine r_mks (n:=m) (c:=m) hR trivial (by rw[hx];rfl) (by rw[hx];rfl) (nR _) (by omega) (by omega) (by omega) rfl ?_;intro t b S' hS;rw[aA,MatR.app]at hS;have:=k t b S' (by
   unfold ouR;rw[if_neg n0,intsZ_rep];simpa using hS)
  unfold ouV at this;rw[if_neg n0]at this;exact this
theorem rdo_ou {S:St}{tyS ty:TypeId}{z:AV}{tP bP tC bC n m N:Nat}{tsP tsC:List Nat}{rows:List Rw}{t b:Nat}{l:List Int}(hR:Hs S (MatR tyS ty z tP bP tC bC N n tsP tsC rows (ouR ty t b m l)))(hl:l.length=m):Rdo S (.sl 1 stat (intsZ l)) (ouV t m):=by
 by_cases n0:m=0
 ·obtain rfl:=nL (hl.trans n0);unfold ouV;rw[if_pos n0];exact rdo_nil0
 ·unfold ouV;rw[if_neg n0];have hU:ouR ty t b m l=[.bx b ty ((intsZ l).flatMap AV.cells++[]),.mk t t b]:=by unfold ouR;rw[if_neg n0]
  rw[hU]at hR;have h0:=MatR.tails (tyS:=tyS) (ty:=ty) (z:=z) (tP:=tP) (bP:=bP) (tC:=tC) (bC:=bC) (n:=N) (m:=n) (tsP:=tsP) (tsC:=tsC) (rows:=rows) (tail:=[.bx b ty ((intsZ l).flatMap AV.cells++[]),.mk t t b]) 0;have h1:=MatR.tails (tyS:=tyS) (ty:=ty) (z:=z) (tP:=tP) (bP:=bP) (tC:=tC) (bC:=bC) (n:=N) (m:=n) (tsP:=tsP) (tsC:=tsC) (rows:=rows) (tail:=[.bx b ty ((intsZ l).flatMap AV.cells++[]),.mk t t b]) 1;have:=arr_els hR h0 h1 (intsZ_el l) (off:=0) (cap:=some m) (nl:=false) (xs:=List.replicate m (.int .i64 0)) (by rw[intsZ_len];simp;omega);rw[List.drop_zero,List.length_replicate,List.take_of_length_le (by rw[intsZ_len];omega)]at this;simp only[Rdo];exact⟨trivial,_,_,false,_,rfl,this,Stas.rdos _ (intsZ_sta l)⟩
end

section
variable {gt:GT}{C:CallT}
set_option maxHeartbeats 32000000 in
theorem costR13_wp (hm:MonoC C){old fresh:List PT}(hlo:old.length<549755813888)(hl:fresh.length<549755813888)
  (hsm:∀o∈old,∀f∈fresh,PF C 34 [encT o,encT f] (.bool (sameB o f))) :
  wpF gt C F19 [.sl 4 stat (encTs old),.sl 4 stat (encTs fresh)] St.init (Ret (encCost (eqL old fresh) old.length fresh.length)):=by
 have lo:=encTs_len old;have lf:=encTs_len fresh;by_cases hbig:bigP old.length fresh.length
 ·have hret:encCost (eqL old fresh) old.length fresh.length=.tup [.sl 1 stat [],.int .i64 0,.int .i64 52]:=by unfold encCost;rw[if_pos hbig]
  rw[hret];obtain⟨h1,h2⟩:=hbig;refine⟨rfl,?_⟩;refine goW ?_;rw[dT (show ((encTs old).length:Int) > 0 by omega)];refine goW ?_;refine st_any (by exact rfl) (sx_quo (a:=65536) (n:=(encTs old).length) rfl rfl (by omega) (by omega)) ?_;rw[lo]at *;refine goW ?_;generalize 65536 / old.length=q at *;rw[lf,dT (show (fresh.length:Int) > (q:Int) by omega)];refine goW ?_;exact⟨_,rfl,ret_tup3 (x:=.sl 1 ⟨none,0,some 0,true⟩ []) rdo_nil0 trivial trivial⟩
 have hret:encCost (eqL old fresh) old.length fresh.length=.tup [.sl 1 stat (intsZ (fromP (eqL old fresh) old.length fresh.length)),.int .i64 (costP (eqL old fresh) old.length fresh.length),.int .i64 0]:=by unfold encCost;rw[if_neg hbig]
 rw[hret]
 clear hret
 have hq:0<old.length->fresh.length<=65536 / old.length:=λh=>by
  rcases Nat.lt_or_ge (65536 / old.length) fresh.length with h2 | h2
  ·exact absurd ⟨h,h2⟩ hbig
  ·exact h2
 clear hbig
 refine⟨rfl,?_⟩;refine goW ?_;refine cutIn0 (K:=?K) ?_ ?_
 rotate_left
 ·intro cont;by_cases n0:old.length=0
  ·rw[dF (show ¬((encTs old).length:Int) > 0 by omega)];refine goW ?_;exact cont.out
  ·have hq:=hq (by omega);rw[dT (show ((encTs old).length:Int) > 0 by omega)];refine goW ?_;refine st_any (by exact rfl) (sx_quo (a:=65536) (n:=(encTs old).length) rfl rfl (by omega) (by omega)) ?_;have hq':((65536 / (encTs old).length:Nat):Int)=((65536 / old.length:Nat):Int):=by rw[lo]
   rw[hq'];generalize 65536 / old.length=q at *;refine goW ?_;rw[dF (show ¬((encTs fresh).length:Int) > (q:Int) by omega)];refine goW ?_;exact cont.out
 rw[lo,lf];generalize hN:old.length+1=N;have hNi:((old.length:Nat):Int)+1=(N:Int):=by omega
 rw[wrNat (by omega),hN];refine r_mks (n:=N) (c:=N) Hs.init trivial rfl rfl (nR _) (by omega) (by omega) (by omega) rfl ?_;intro tP bP S1 hR1;refine goW ?_;rw[wrNat (by omega),hN];refine r_mks (n:=N) (c:=N) hR1 trivial rfl rfl (nR _) (by omega) (by omega) (by omega) rfl ?_;intro tC bC S2 hR2;have hR:Hs S2 (MatR 22 3 nilS tP bP tC bC N (fresh.length+1) [] [] [] []):=by simpa[MatR,outs] using hR2
 clear hR1 hR2 S1
 refine goW ?_;refine loop_rule hm (α:=Nat) (λi env S'=>∃rows:List Rw,Hs S' (MatR 22 3 nilS tP bP tC bC N (fresh.length+1) (rows.map Rw.tp) (rows.map Rw.tc) rows [])/\rows.length=i/\i<=N/\(∀k r,rows[k]? = some r->RowPart (eqL old fresh) fresh.length k (fresh.length+1) r)/\env=E_r0 old fresh (vS tP N) (vS tC N) i) (λi=>N-i) ?_ (a:=0)
  ⟨[],hR,rfl,Nat.zero_le _,λk r h=>by simp at h,rfl⟩
 clear hR S2
 rintro i env S' ⟨rows,hR,hrl,hiN,hrows,rfl⟩;have hlr:(List.replicate N nilS).length=N:=List.length_replicate;have hlm:(List.replicate (fresh.length+1) (AV.int .i64 0)).length=fresh.length+1:=List.length_replicate;refine goW ?_;by_cases c:(i:Int)<=old.length
 case neg =>
  rw[dF c];obtain rfl:N=i:=by omega
  have tmax:∀(k:Nat),k<=old.length->∃r,rows[k]? = some r:=λk hk=>⟨rows[k]'(by omega),gE _⟩
  obtain⟨rn,hrn⟩:=tmax old.length (nR _);have gn:=hrows old.length rn hrn;have cn:=gn.hc fresh.length (by omega);have iz:∀{l:List Int} {k:Nat} {v:Int},l[k]? = some v->(intsZ l)[k]? = some (.int .i64 v):=λh=>by simp[intsZ,h]
  refine goW ?_;refine r_ou hR rfl hl ?_;intro t b S2 hR2;refine goW ?_;refine loop_rule hm (α:=Nat×Nat) (λa env S'=>∃P suf:List Int,Hs S' (MatR 22 3 nilS tP bP tC bC N (fresh.length+1) (rows.map Rw.tp) (rows.map Rw.tc) rows (ouR 3 t b fresh.length (P++suf)))/\P.length=a.2/\(P++suf).length=fresh.length/\a.1<=old.length/\a.2<=fresh.length /\
   fromP (eqL old fresh) old.length fresh.length=fromP (eqL old fresh) a.1 a.2++suf/\env=E_r2 old.length fresh.length (vS tP N) (vS tC N) (ouV t fresh.length) a.1 a.2) (λa=>a.1+a.2) ?_ (a:=(old.length,fresh.length))
   ⟨List.replicate fresh.length 0,[],by rw[List.append_nil];exact hR2,by simp,by simp,nR _,nR _,by rw[List.append_nil],rfl⟩
  clear hR hR2 S2
  rintro⟨i,j⟩ env S' ⟨P,suf,hR,hP,hPl,hi,hj,hf,rfl⟩;simp only at hP hi hj hf;refine costR_back hm hlo hl hN hrl hrows hR hP hPl hi hj hf (λhj0=>?_) λi2 j2 P2 suf2 S2 a1 a2 a3 a4 a5 a6 a7=>⟨(i2,j2),⟨P2,suf2,a1,a2,a3,a4,a5,a6,rfl⟩,a7⟩
  subst hj0;obtain rfl:=nL hP;rw[fromP_i0,List.nil_append]at hf;have hoC:=MatR.elsC hR nilS_el (by simp;omega) (cap:=some N) (nl:=false) hlr;have gC:(outs nilS N (fresh.length+1) (rows.map Rw.tc))[old.length]? = some (slR rn.tc (fresh.length+1)):=outs_get (by rw[List.getElem?_map,hrn];rfl);have hrC:=MatR.rowC hR hrn (cap:=some (fresh.length+1)) (nl:=false) (xs:=List.replicate (fresh.length+1) (.int .i64 0)) (by rw[hlm,gn.lc]);refine goW ?_;refine step_ruleDO rfl rfl (sx_ia (k:=old.length) rfl rfl (by rw[hlr];omega)) (goW ?_);refine step_ruleDO rfl rfl (sx_ldEl (agg:=false) (v:=slR rn.tc (fresh.length+1)) rfl hoC gC rfl) (goW ?_);refine step_ruleDO rfl rfl (sx_ia (k:=fresh.length) rfl rfl (by rw[hlm];omega)) (goW ?_);refine step_ruleDO rfl rfl (sx_ldEl (agg:=false) rfl hrC (iz cn) rfl) (goW ?_);refine⟨_,rfl,ret_tup3 ?_ trivial trivial⟩;rw[hf];exact rdo_ou hR hPl
 rw[dT c];refine goW ?_;rw[wrNat (by omega)];refine r_mks (n:=fresh.length+1) (c:=fresh.length+1) hR trivial rfl rfl (nR _) (by omega) (by omega) (by omega) rfl ?_;intro tp bp S1 hR1;rw[aA,MatR.app]at hR1;refine goW ?_;refine step_ruleO (sx_ia (k:=i) rfl rfl (by rw[hlr];omega)) (goW ?_);refine st_runP (MatR.putP hR1 nilS_el (t:=tp) (k:=i) (by simp;omega) hlr rfl rfl (by simp[hrl])) trivial ?_
 clear hR hR1 S1 S'
 intro S1 hR1;refine goW ?_;rw[wrNat (by omega)];refine r_mks (n:=fresh.length+1) (c:=fresh.length+1) hR1 trivial rfl rfl (nR _) (by omega) (by omega) (by omega) rfl ?_;intro tc bc S2 hR2;rw[aA,MatR.app]at hR2;refine goW ?_;refine step_ruleO (sx_ia (k:=i) rfl rfl (by rw[hlr];omega)) (goW ?_);refine st_runP (MatR.putC hR2 nilS_el (t:=tc) (k:=i) (by simp;omega) hlr rfl rfl (by simp[hrl])) trivial ?_
 clear hR1 hR2 S1 S2
 intro S1 hR1;have hR2:Hs S1 (MatR 22 3 nilS tP bP tC bC N (fresh.length+1) ((rows++[Rw.mk tp bp tc bc (List.replicate (fresh.length+1) 0) (List.replicate (fresh.length+1) 0)]).map Rw.tp) ((rows++[Rw.mk tp bp tc bc (List.replicate (fresh.length+1) 0) (List.replicate (fresh.length+1) 0)]).map Rw.tc) (rows++[Rw.mk tp bp tc bc (List.replicate (fresh.length+1) 0) (List.replicate (fresh.length+1) 0)]) []):=by
  rw[List.map_append,List.map_append];refine MatR.join ?_;simpa[rwR,intsZ_rep] using hR1
 clear hR1
 refine goW ?_;refine loop_rule hm (α:=Nat) (λj env S'=>∃r:Rw,Hs S' (MatR 22 3 nilS tP bP tC bC N (fresh.length+1) ((rows++[r]).map Rw.tp) ((rows++[r]).map Rw.tc) (rows++[r]) [])/\j<=fresh.length+1/\RowPart (eqL old fresh) fresh.length i j r/\env=E_r1 old fresh (vS tP N) (vS tC N) i j) (λj=>fresh.length+1-j) ?_ (a:=0)
  ⟨Rw.mk tp bp tc bc (List.replicate (fresh.length+1) 0) (List.replicate (fresh.length+1) 0),hR2,Nat.zero_le _,⟨by simp,by simp,λk hk=>by omega,λi' k _ hk=>by omega⟩,rfl⟩
 clear hR2 S1 tp bp tc bc
 rintro j env S' ⟨r,hR,hj,hr,rfl⟩;refine costR_inner hm hlo hl hsm hN hrl c hrows hR hj hr (λhjx=>?_) λhjx S2 r2 h1 h2=>?_
 ·refine goW ?_;rw[wrNat (by omega)];have hri:(rows++[r])[i]? = some r:=snoc_get hrl.symm;refine⟨i+1,⟨rows++[r],hR,by simp[hrl],by omega,λk r2 h=>?_,rfl⟩,by omega⟩;by_cases e:k=i
  ·subst e;rw[hri]at h;cases h;rw[<-hjx];exact hr
  ·have hk:k<rows.length:=by
    rcases Nat.lt_or_ge k rows.length with h1 | h1
    ·exact h1
    ·rw[List.getElem?_eq_none (by simp;omega)]at h;cases h
   rw[List.getElem?_append_left hk]at h;exact hrows k r2 h
 ·exact⟨j+1,⟨r2,h1,by omega,h2,rfl⟩,by omega⟩
end
end Go.Dn

namespace Go.Dn
theorem GdT.keyR3 {t:PT}(h:GdT t)(key:List UInt8):GdT (keyR3 t key).1:=by
 unfold Dn.keyR3;split
 ·exact h.keyRaw key
 ·exact GdT.zero
end Go.Dn
namespace Go.Proofs.YtbojekglccdajaaGreatDoor.Fn
open Go.ChangeShapes Go.WideShapes Go.ChangeAt Go.RowKit Go.Dn
theorem same3G {a c:PT}(h:GdT a)(k:GdT c):PF A 34 [encT a,encT c] (.bool (sameB a c)):=same3 a c h.sok h.ok k.sok k.ok
theorem placeR13 (old fresh:List PT)(h:fresh.length<1099511627776):PF A 21 [.sl 4 stat (encTs old),.sl 4 stat (encTs fresh)] (.sl 1 stat (intsZ (placeL old.length fresh.length))) :=
 pf Tryz.func21 (by kernel_rfl) C1.F21_ok (s2 (sTs _) (sTs _)) (placeR13_wp hm h)
theorem keyRf (t:PT)(key:List UInt8)(h:GdT t)(hf:formedB t=true):PF A 35 [encT t,.str key] (.tup [encT (keyR3 t key).1,.bool (keyR3 t key).2]) :=
 pf Tryz.func35 (by kernel_rfl) C1.F35_ok (s2 (sta_T t) trivial) (keyR_wp hm h.ok hf (place t.keys key (by cases t;have:=h.ok;simp only[PT.ok]at this;simp only[PT.keys];omega)))
theorem keyR13 {old fresh:List PT}(key:List UInt8)(ho:∀t∈old,GdT t/\formedB t=true)(hf:∀t∈fresh,GdT t/\formedB t=true)(lo:old.length<549755813888)(lf:fresh.length<549755813888) :
  PF A 22 [.sl 4 stat (encTs old),.sl 4 stat (encTs fresh),.str key] (.sl 1 stat (intsZ (keyP old.length (mtL key old fresh) 0 fresh.length []))) :=
 pf Tryz.func22 (by kernel_rfl) C1.F22_ok (s3 (sTs _) (sTs _) trivial) (keyR13_wp hm lo lf (λt ht=>keyRf t key (ho t ht).1 (ho t ht).2) (λt ht=>keyRf t key (hf t ht).1 (hf t ht).2)
  λo h1 f h2=>same3G ((hf f h2).1.keyR3 key) ((ho o h1).1.keyR3 key))
theorem costR13 {old fresh:List PT}(ho:∀t∈old,GdT t)(hf:∀t∈fresh,GdT t)(lo:old.length<549755813888)(lf:fresh.length<549755813888) :
  PF A 19 [.sl 4 stat (encTs old),.sl 4 stat (encTs fresh)] (encCost (eqL old fresh) old.length fresh.length) :=
 pf Tryz.func19 (by kernel_rfl) C1.F19_ok (s2 (sTs _) (sTs _)) (costR13_wp hm lo lf λo h1 f h2=>same3G (ho o h1) (hf f h2))
theorem doR13 {old fresh:List PT}(how:Int)(key:List UInt8)(ho:∀t∈old,GdT t/\formedB t=true)(hf:∀t∈fresh,GdT t/\formedB t=true)(lo:old.length<=40)(lf:fresh.length<=40) :
  PF A 20 [.int .i64 how,.str key,.sl 4 stat (encTs old),.sl 4 stat (encTs fresh)] (.tup [.sl 1 stat (intsZ (wayL (eqL old fresh) (mtL key old fresh) old.length fresh.length how)),.int .i64 (wayE how)]):=by
 rw[<-do_small lo lf];exact pf Tryz.func20 (by kernel_rfl) C1.F20_ok ⟨trivial,trivial,sTs _,sTs _,trivial⟩ (doR_wp hm (placeR13 old fresh (by omega)) (keyR13 key ho hf (by omega) (by omega)) (costR13 (λt h=>(ho t h).1) (λt h=>(hf t h).1) (by omega) (by omega)))
end Go.Proofs.YtbojekglccdajaaGreatDoor.Fn
namespace Go.Proofs.YtbojekglccdajaaGreatDoor
open Go.Dn Go.Proofs.YtbojekglccdajaaGreatDoor.Fn
theorem AlignTells.law {o0 f0:List PT}{key:List UInt8}{how:Int}(hb:bulkAs (encTs o0)<=1048576)(hb2:bulkAs (encTs f0)<=1048576):A 4 [.sl 4 stat (encTs o0),.sl 4 stat (encTs f0),.str key,.int .i64 how] St.init (Ret (.bool true)):=by
 have hg:=cut_good (n:=40) hb;have hlen:=cutL_len 40 0 o0;have hc:=cut13 (n:=40) hb (by decide);have hg2:=cut_good (n:=40) hb2;have hlen2:=cutL_len 40 0 f0;have hc2:=cut13 (n:=40) hb2 (by decide);generalize cutL 40 0 o0=o at hg hlen hc;generalize cutL 40 0 f0=f at hg2 hlen2 hc2;have ho:=λt ht=>(hg t ht).1;have hf:=λt ht=>(hg2 t ht).1;have h1:=cost13 ho hf (by omega) (by omega);have h2:=costR13 ho hf (by omega) (by omega);rw[cost_small hlen hlen2]at h1 h2;have wl:(wayL (eqL o f) (mtL key o f) o.length f.length how).length<=40:=by
  unfold wayL;split
  ·rw[placeL_len];exact hlen2
  ·split
   ·rw[keyP_len];exact hlen2
   ·split
    ·rw[fromP_len];exact hlen2
    ·simp
 exact AC_intro Tryz.checked.mixed Tryz.func4 (by kernel_rfl) Go.Proofs.C1.F4_ok
  (alignTells_wp Fn.hm Fn.runs hc hc2 h1 h2 (do13 how key ho hf hlen hlen2) (doR13 how key hg hg2 hlen hlen2) (place13 o f (by omega)) (placeR13 o f (by omega)) (key13 key ho hf (by omega) (by omega)) (keyR13 key hg hg2 (by omega) (by omega))
   (sameI _ (by rw[fromP_len];omega)) (sameI _ (by omega)) (sameI _ (by rw[placeL_len];omega)) (sameI _ (by rw[keyP_len];omega)))
end Go.Proofs.YtbojekglccdajaaGreatDoor

namespace Go.Proofs.YtbojekglccdajaaGreatDoor.AlignTells
open Go.ChangeShapes Go.WideShapes Go.ChangeAt Go.RowKit Go.Dn Go.Proofs.YtbojekglccdajaaGreatDoor.Fn
theorem laidOut:laidOutB Tryz.prog=true:=by kernel_rfl
theorem walk {W:World}(hI:Inv Tryz.prog gtT St.init (G0 W) W){args:Array Value}{xs:List AV}{f:FuncId}(hac:A f xs St.init (Ret (.bool true)))(hx:Rl St.init (G0 W) W xs args.toList):Calls Tryz.prog f args W λe W'=>e=.returned (.bool true)/\Below W.heap.size W W':=by
 refine Calls.mono (hac.2 (G0 W) W args.toList hI hx) λe W' hp=>?_;cases e with
 | returned v =>
  obtain⟨x,S',G',⟨y,hy,hr⟩,t,rv⟩:=hp;cases hy;simp only[Rdo]at hr;subst hr;refine⟨?_,below_of_ext t.ext⟩;simp only[Rv]at rv;rw[rv]
 | panicked chain =>
  obtain⟨x,S',G',u,hc,⟨y,hy,hr⟩,_⟩:=hp;cases hy
 | outgrown=>exact hp.elim
theorem types:okTypes Tryz.prog [47,26,45,9,3,107,86]=true:=by kernel_rfl
theorem isUb {H:Type}:IsUb (Rows.uptoBulk (H:=H)) Rows.uptoBulkAll where
 lit l:=by cases l<;>simp[Rows.uptoBulk]
 str s:=by simp[Rows.uptoBulk]
 nil:=by simp[Rows.uptoBulk]
 slice a b:=by simp[Rows.uptoBulk]
 agg a:=by simp[Rows.uptoBulk]
 none:=by simp[Rows.uptoBulkAll]
 cons d r:=by simp[Rows.uptoBulkAll]
theorem wantsL:Tryz.pinned.checked.prog.wantsStandIn 26=false:=by kernel_rfl
theorem av_trees {d:Nat}{xs:List AV}(h:AVB Tryz.prog d 26 xs):∃l,xs=[.sl 4 stat (encTs l)]:=by
 cases d with
 | zero=>exact h.elim
 | succ d =>
  unfold AVB at h;rw[u_trees]at h;obtain⟨ys,rfl,g⟩:=h;rw[c_tree];obtain⟨l,rfl⟩:=list_trees (ys:=ys) λy hy=>by
   obtain⟨k1,k2,_⟩:=g y hy;obtain⟨cs,rfl⟩:=k2 a_tree;exact av_tree k1
  exact⟨l,rfl⟩
set_option maxRecDepth 1000000 in
theorem entryL {H:Type}{enc:TypeId×Value->H}{W:World}{v:Value}{d:DataW H}{p:List MemPlace}{base:Nat}(hv:Value.okWide Tryz.prog W .any base 26 v)(h:DataW.Trod enc Tryz.prog W 0 (λ_=>true) true 26 v d p) :
  ∃l:List PT,Rv St.init (G0 W) W (.sl 4 stat (encTs l)) v/\bulkAs (encTs l)<=Rows.uptoBulk d:=by
 obtain⟨a,len,cap,rfl⟩:=okWide_slice u_trees hv;obtain⟨fuel,hf⟩:=h;obtain⟨zs,hr,ht,hb⟩:=trod_avb isUb types fuel 26 _ _ (by decide) hf;obtain⟨l,rfl⟩:=av_trees ht;have hu:(Value.slice a len cap).cells.toList=[.slice a len cap]:=rfl;rw[hu]at hr;simp only[Rl]at hr;obtain⟨u,r,e1,e2,rfl⟩:=hr;cases e1;refine⟨l,e2,?_⟩;simp only[bulkAs,bulkA]at hb;omega
theorem wantsK:Tryz.pinned.checked.prog.wantsStandIn 9=false:=by kernel_rfl
set_option maxRecDepth 1000000 in
theorem entryK {H:Type}{enc:TypeId×Value->H}{W:World}{v:Value}{d:DataW H}{p:List MemPlace}{base:Nat}(hv:Value.okWide Tryz.prog W .any base 9 v)(h:DataW.Trod enc Tryz.prog W 0 (λ_=>true) true 9 v d p) :
  ∃s:List UInt8,Rv St.init (G0 W) W (.str s) v/\s.length<=Rows.uptoBulk d:=by
 obtain⟨b,rfl⟩:=okWide_string u_str hv;obtain⟨fuel,hf⟩:=h;obtain⟨zs,hr,ht,hb⟩:=trod_avb isUb types fuel 9 _ _ (by decide) hf;obtain⟨s,rfl⟩:∃s,zs=[.str s]:=by
  rcases fuel with _ | fuel
  ·exact ht.elim
  ·unfold AVB at ht;rw[u_str]at ht;obtain⟨s,e,_⟩:=ht;exact⟨s,e⟩
 have hu:(Value.string b).cells.toList=[.string b]:=rfl;rw[hu]at hr;simp only[Rl]at hr;obtain⟨u,r,e1,e2,rfl⟩:=hr;cases e1;refine⟨s,e2,?_⟩;simp only[bulkAs,bulkA]at hb;omega
theorem wantsM:Tryz.pinned.checked.prog.wantsStandIn 3=false:=by kernel_rfl
set_option maxRecDepth 1000000 in
theorem entryM {H:Type}{enc:TypeId×Value->H}{W:World}{v:Value}{d:DataW H}{p:List MemPlace}{base:Nat}(hv:Value.okWide Tryz.prog W .any base 3 v)(h:DataW.Trod enc Tryz.prog W 0 (λ_=>true) true 3 v d p) :
  ∃n:Int,Rv St.init (G0 W) W (.int .i64 n) v/\0<=Rows.uptoBulk d:=by
 obtain⟨b,rfl⟩:=okWide_int u_int hv;exact⟨b,by simp only[Rv],Nat.zero_le _⟩
abbrev zeros:Array Value:=#[.slice none 0 0,.slice none 0 0,.string .empty,.int .i64 0]
theorem reads (os:Os){H:Type}(enc:TypeId×Value->H):∃places,DataW.whole enc Tryz.prog ((laidW os).forCall (λ_ _=>0) ⟨#[],zeros,[]⟩).memory Tryz.f4.params.toList Rows.alignTellsSpec.vars false zeros.toList 8=some ([.nil,.nil,.lit (.string []),.lit (.int .i64 0)],[],places) :=
 ⟨[],by kernel_rfl⟩
set_option maxRecDepth 100000 in
theorem lifted (os:Os)(started:os.Started)(H:Type)(enc:TypeId×Value->H)(F:Stop.Interp) :
  ReturnsInHanded {} Tryz.checked os 4 .any ((Rows.OpenSpec.upto Rows.alignTellsSpec).preRow enc Tryz.prog Tryz.f4 Rows.alignTellsUptoRow.domain false Rows.alignTellsUptoRow.laid)
   (((Rows.OpenSpec.upto Rows.alignTellsSpec).at F).post enc Tryz.prog Tryz.f4 false true false false):=by
 obtain⟨places,hx⟩:=reads os enc;refine returnsInHanded_of_row (C:=Tryz.checked) (s:=Rows.OpenSpec.upto Rows.alignTellsSpec) own started (by kernel_rfl) Tryz.func4
  (witness_row_atRef (enc:=enc) (C:=Tryz.checked) false (laidW os) zeros (laidW_os _) (by kernel_rfl) (by kernel_rfl) (by kernel_rfl)
   (OpenSpec.preRow_of_cond 8 hx (by kernel_rfl) (λk hk=>by cases hk;kernel_rfl) (by kernel_rfl) (laidW_met os _))) ?_
 intro W base args ds gs before hval0 hW _ hcond _ hL _ _;have hval:∀(j:Nat) t v,Tryz.f4.params[j]? = some t->args[j]? = some v->Value.okWide Tryz.prog W .any base t v:=hval0;have hW':=hW;obtain⟨p,q,hA0,hV,rfl,hfz,hnd⟩:=hW;have hA:DataW.TrodAll enc Tryz.prog W 0 (λ_=>true) true Tryz.f4.params.toList args.toList ds p:=hA0;rw[Tryz.params4]at hA hval;obtain⟨v0,v1,v2,v3,d0,d1,d2,d3,p0,p1,p2,p3,rfl,rfl,rfl,h0,h1,h2,h3⟩:=trodAll_four hA;obtain⟨rfl,rfl⟩:=trodVars_none hV
 clear hA0 hval0
 simp only[List.append_nil]at hW';have hb:Rows.uptoBulkAll [d0,d1,d2,d3]<=1048576:=by
  have:=hcond _ rfl;rw[List.append_nil]at this;exact of_decide_eq_true this
 simp only[Rows.uptoBulkAll]at hb;obtain⟨x0,hv0,hb0⟩:=entryL (hval 0 26 v0 rfl rfl) h0;obtain⟨x1,hv1,hb1⟩:=entryL (hval 1 26 v1 rfl rfl) h1;obtain⟨x2,hv2,hb2⟩:=entryK (hval 2 9 v2 rfl rfl) h2;obtain⟨x3,hv3,hb3⟩:=entryM (hval 3 3 v3 rfl rfl) h3;refine(walk (inv_of_laid hL) (AlignTells.law (by omega) (by omega)) (Rl.cons hv0 (Rl.cons hv1 (Rl.cons hv2 (Rl.cons hv3 Rl.nil))))).mono λe W' ⟨he,bel⟩=>?_;subst he;have hlt:∀x∈p0++p1++p2++p3,x.block<W.heap.size:=λx hx=>hW'.lt x (by simpa only[aA] using hx);exact⟨_,rfl,_,_,_,[],_,[],hW',trodAll_mk1 (shut_bool Tryz.underlying4 _),
  trodAll_mk4 (Below.trod laidOut (by kernel_rfl) (of_decide_eq_true (by kernel_rfl)) h0 bel (λx hx=>hlt x (by simp[hx]))) (Below.trod laidOut (by kernel_rfl) (of_decide_eq_true (by kernel_rfl)) h1 bel (λx hx=>hlt x (by simp[hx]))) (Below.trod laidOut (by kernel_rfl) (of_decide_eq_true (by kernel_rfl)) h2 bel (λx hx=>hlt x (by simp[hx]))) (Below.trod laidOut (by kernel_rfl) (of_decide_eq_true (by kernel_rfl)) h3 bel (λx hx=>hlt x (by simp[hx]))),rfl,bel.frame _,λh=>by cases h⟩
end Go.Proofs.YtbojekglccdajaaGreatDoor.AlignTells
