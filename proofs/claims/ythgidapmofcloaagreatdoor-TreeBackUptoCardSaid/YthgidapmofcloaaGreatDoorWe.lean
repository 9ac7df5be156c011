/- Two rows that do not clash may be exchanged. Regions that draw their order: the canonical order stands for every order. Functions: what the abstract code says of a call is what the call does. -/
import Derived.Test.YthgidapmofcloaaGreatDoorWd
set_option linter.unusedSimpArgs false
set_option linter.unusedVariables false
namespace Go.Dn
open Go
section
variable {gt:GT}{C:CallT}
theorem conform_agr {l:Option Nat}{op:DOp}{e1 e2:Env}(h:Agr (readsO op) e1 e2):conform l e1 op=conform l e2 op:=by
 have key:∀n,n∈readsO op->lk e1 n=lk e2 n:=λn hn=>h n hn;cases op<;>try rfl
 case ld g s x=>cases x<;>first | rfl | (simp only[conform];rw[key _ (by simp[readsO,slotO])])
 case st s x y=>cases x<;>first | rfl | (simp only[conform];rw[key _ (by simp[readsO,slotO])])
 case nilc x=>cases x<;>first | rfl | (simp only[conform];rw[key _ (by simp[readsO,slotO])])
 case fa o x=>cases x<;>first | rfl | (simp only[conform];rw[key _ (by simp[readsO,slotO])])
 case iaA es n x i=>cases x<;>first | rfl | (simp only[conform];rw[key _ (by simp[readsO,slotO])])
 case slP es n x lo hi=>cases x<;>first | rfl | (simp only[conform];rw[key _ (by simp[readsO,slotO])])
theorem writesI_eq (i:DI×Option Nat):writesI i=i.1.dst.toList++stW i.2 i.1.op:=by
 unfold writesI stW;cases i.1.op<;>rfl
theorem stepDO_par {i:DI×Option Nat}{e1 e2:Env}{S:St}(hA:∀d,i.1.dst=some d->isLoc i.1.op=true->noAdr d e1=noAdr d e2)(h1:Agr (readsO i.1.op) e1 e2)(h3:Agr i.2.toList e1 e2) :
  Par (writesI i) i.2.toList e1 e2 (stepDO gt i e1 S) (stepDO gt i e2 S):=by
 have hdW:∀d,i.1.dst=some d->d∈writesI i:=λd e=>by rw[writesI_eq,e];simp
 unfold stepDO;cases hL:isLoc i.1.op with
 | true=>exact stepL_par hdW h1 λd e=>hA d e hL
 | false =>
  simp only[cond_false];rw[<-conform_agr (l:=i.2) h1];cases hc:conform i.2 e1 i.1.op with
  | false=>exact par_fail
  | true=>exact stepO_par hL hdW (λn hn=>by rw[writesI_eq];simp[hn]) h1 h3 hc (λt e=>by rw[e];simp)
theorem stepD_par {i:DI×Option Nat}{e1 e2:Env}{S:St}(hA:∀d,i.1.dst=some d->isLoc i.1.op=true->noAdr d e1=noAdr d e2)(h:Agr (readsI i) e1 e2):Par (writesI i) i.2.toList e1 e2 (stepD gt i e1 S) (stepD gt i e2 S):=by
 unfold readsI at h;obtain⟨h12,h3⟩:=appE h;obtain⟨h1,h2⟩:=appE h12;have hdW:∀d,i.1.dst=some d->d∈writesI i:=λd e=>by rw[writesI_eq,e];simp
 have main:=stepDO_par (gt:=gt) (S:=S) hA h1 h3;unfold stepD;cases hg:i.1.guard with
 | none=>exact main
 | some gw =>
  obtain⟨g,want⟩:=gw;rw[hg]at h2;simp only[h2 g (by simp)];split
  ·exact par_bif _ main (par_putV hdW _ _)
  ·exact par_putV hdW _ _
  ·exact par_fail
theorem stepL_pure {op:DOp}{dst:Option Nat}{env:Env}{S T:St}:ParS S T (stepL dst env S op) (stepL dst env T op):=by
 cases op<;>simp only[stepL]<;>(repeat' first | exact pS_fail | exact pS_done _ | apply pS_bif | split)
theorem stepD_pure {i:DI×Option Nat}{env:Env}{S T:St}(he:effO i.2 i.1.op=.pure):ParS S T (stepD gt i env S) (stepD gt i env T):=by
 have main:ParS S T (stepDO gt i env S) (stepDO gt i env T):=by
  unfold stepDO;cases hL:isLoc i.1.op with
  | true=>exact stepL_pure
  | false =>
   cases hc:conform i.2 env i.1.op with
   | false=>exact pS_fail
   | true=>exact stepO_pure hL he hc
 unfold stepD;cases i.1.guard with
 | none=>exact main
 | some gw =>
  obtain⟨g,want⟩:=gw;simp only;split
  ·exact pS_bif _ main (pS_done _)
  ·exact pS_done _
  ·exact pS_fail
theorem stepD_still {i:DI×Option Nat}{env:Env}{S:St}(he:effO i.2 i.1.op≠.acts):ParS S S (stepD gt i env S) (stepD gt i env S):=by
 have main:ParS S S (stepDO gt i env S) (stepDO gt i env S):=by
  unfold stepDO;cases hL:isLoc i.1.op with
  | true=>exact stepL_pure
  | false =>
   cases hc:conform i.2 env i.1.op with
   | false=>exact pS_fail
   | true=>exact stepO_still he hL hc
 unfold stepD;cases i.1.guard with
 | none=>exact main
 | some gw =>
  obtain⟨g,want⟩:=gw;simp only;split
  ·exact pS_bif _ main (pS_done _)
  ·exact pS_done _
  ·exact pS_fail
structure Eqv (e1 e2:Env):Prop where
 lk:∀n,lk e1 n=lk e2 n
 na:∀d,noAdr d e1=noAdr d e2
theorem lk_app:∀(ws:List (Nat×Ent)) (e:Env) (n:Nat),lk (ws++e) n=(lk ws n).or (lk e n)
 | [],e,n=>by simp[lk]
 | (k,v)::ws,e,n=>by
  have:=lk_app ws e n;simp only[List.cons_append,lk_cons];split
  ·rfl
  ·exact this
theorem lk_none_of {ws:List (Nat×Ent)}{n:Nat}(h:∀p∈ws,p.1≠n):lk ws n=none:=by
 induction ws with
 | nil=>rfl
 | cons p ws ih =>
  obtain⟨k,v⟩:=p;rw[lk_cons,if_neg (h (k,v) (by simp))];exact ih λq hq=>h q (by simp[hq])
theorem not_meets {a b:List Nat}(h:meets a b=false){x:Nat}(ha:x∈a)(hb:x∈b):False:=by
 unfold meets at h;rw[Bool.eq_false_iff]at h;exact h (List.any_eq_true.2 ⟨x,ha,List.any_eq_true.2 ⟨x,hb,Nat.beq_refl x⟩⟩)
theorem agr_app {R W:List Nat}{ws:List (Nat×Ent)}{e:Env}(hw:∀p∈ws,p.1∈W)(hd:∀x,x∈W->x∈R->False):Agr R e (ws++e):=λn hn=>by
 rw[lk_app,lk_none_of (ws:=ws) (n:=n) λp hp e=>hd n (by rw[<-e];exact hw p hp) hn];simp
theorem noAdr_app (d:Nat)(ws e:Env):noAdr d (ws++e)=(noAdr d ws && noAdr d e):=by simp[noAdr]
theorem noAdr_of {d:Nat}{L:List Nat}{ws:Env}(h:∀p∈ws,∀t o,p.2=.adr t o->t∈L)(hd:d ∉ L):noAdr d ws=true:=by
 refine List.all_eq_true.2 λp hp=>?_;obtain⟨k,e⟩:=p;cases e with
 | adr t o =>
  have ht:=h _ hp t o rfl;simp only[Bool.not_eq_true'];cases hb:Nat.beq t d
  ·rfl
  ·exact absurd (bE hb ▸ ht) hd
 | _=>rfl
theorem eqv_swap {W W':List Nat}{ws ws':List (Nat×Ent)}{e:Env}(h:∀p∈ws,p.1∈W)(h':∀p∈ws',p.1∈W')(hd:∀x,x∈W->x∈W'->False):Eqv (ws++(ws'++e)) (ws'++(ws++e)):=⟨λn=>by
 simp only[lk_app];by_cases hn:n∈W
 ·rw[lk_none_of (ws:=ws') (n:=n) λp hp e=>hd n hn (by rw[<-e];exact h' p hp)];simp
 ·rw[lk_none_of (ws:=ws) (n:=n) λp hp e=>hn (by rw[<-e];exact h p hp)];simp,λd=>by simp only[noAdr_app];rw[<-Bool.and_assoc,<-Bool.and_assoc,Bool.and_comm (noAdr d ws)]⟩
def pw (dst:Option Nat)(v:AV):List (Nat×Ent) :=
 match dst with
 | some d=>[(d,.val v)]
 | none=>[]
theorem putV_pw (dst:Option Nat)(v:AV)(env:Env):putV dst v env=pw dst v++env:=by cases dst<;>rfl
theorem pw_W {i:DI×Option Nat}{v:AV}:∀p∈pw i.1.dst v,p.1∈writesI i:=λp hp=>by
 rw[writesI_eq];unfold pw at hp;cases h:i.1.dst with
 | none=>rw[h]at hp;cases hp
 | some d=>rw[h]at hp;simp only[List.mem_singleton]at hp;subst hp;simp
theorem loc_pure {l:Option Nat}{op:DOp}(h:isLoc op=true):effO l op=.pure:=by
 cases op<;>first | rfl | (cases h)
def ValR (e:Env)(dst:Option Nat):SR->Prop
 |.done e2 _=>∃v,e2=putV dst v e
 | _=>True
theorem valR_val {e:Env}{dst:Option Nat}{S:St}(x:Option AV):ValR e dst (SR.val dst e S x):=by
 cases x with
 | none=>trivial
 | some v=>exact⟨v,rfl⟩
theorem valR_put {e:Env}{dst:Option Nat}{S:St}(v:AV):ValR e dst (.done (putV dst v e) S):=⟨v,rfl⟩
theorem valR_bif {e:Env}{dst:Option Nat}(b:Bool){x y:SR}(h:ValR e dst x)(k:ValR e dst y):ValR e dst (bif b then x else y):=by cases b<;>assumption
theorem stepO_reads {l:Option Nat}{op:DOp}{dst:Option Nat}{e:Env}{S:St}(he:effO l op=.reads):ValR e dst (stepO gt dst e S op):=by
 cases op<;>first | (cases he;done) | skip
 case st sz x y=>simp only[effO]at he;split at he<;>cases he
 all_goals simp only[stepO]
 all_goals repeat' first | exact valR_val _ | exact valR_put _ | exact trivial | apply valR_bif | split
theorem stepD_reads {i:DI×Option Nat}{e:Env}{S:St}(he:effO i.2 i.1.op=.reads):ValR e i.1.dst (stepD gt i e S):=by
 have hL:isLoc i.1.op=false:=by
  cases h:isLoc i.1.op with
  | false=>rfl
  | true=>rw[loc_pure h]at he;cases he
 have main:ValR e i.1.dst (stepDO gt i e S):=by
  unfold stepDO;rw[hL];cases hc:conform i.2 e i.1.op with
  | false=>exact trivial
  | true=>exact stepO_reads he
 unfold stepD;cases i.1.guard with
 | none=>exact main
 | some gw =>
  obtain⟨g,want⟩:=gw;simp only;split
  ·exact valR_bif _ main (valR_put _)
  ·exact valR_put _
  ·exact trivial
theorem beqO_eq {a b:Option Nat}(h:beqO a b=true):a=b:=by
 cases a<;>cases b<;>simp only[beqO,Bool.false_eq_true]at h
 ·rfl
 ·rw[bE h]
theorem beqT_eq {a b:Option (Nat×Nat)}(h:beqT a b=true):a=b:=by
 cases a with
 | none=>cases b<;>simp only[beqT,Bool.false_eq_true]at h;rfl
 | some p =>
  obtain⟨p1,p2⟩:=p;cases b with
  | none=>simp[beqT]at h
  | some q =>
   obtain⟨q1,q2⟩:=q;simp only[beqT,bA]at h;rw[bE h.1,bE h.2]
theorem beqSI_eq {a b:SI}(h:beqSI a b=true):a=b:=by
 obtain⟨t,o,c,n⟩:=a;obtain⟨t',o',c',n'⟩:=b;simp only[beqSI,bA,beq_iff_eq]at h;obtain⟨h1,h2,h3,h4⟩:=h;rw[beqT_eq h1,bE h2,beqO_eq h3,h4]
theorem beqB_eq':∀{x y:List UInt8},beqB x y=true->x=y
 | [],[],_=>rfl
 | [],_::_,h=>by simp[beqB]at h
 | _::_,[],h=>by simp[beqB]at h
 | a::x,b::y,h=>by
  simp only[beqB]at h;cases hb:Nat.beq a.toNat b.toNat with
  | false=>rw[hb]at h;cases h
  | true =>
   rw[hb]at h;rw[UInt8.toNat_inj.1 (bE hb),beqB_eq' h]
mutual
theorem beqA_eq:∀{x y:AV},beqA x y=true->x=y
 |.undef,y,h=>by cases y<;>first | rfl | (simp[beqA]at h)
 |.bool a,y,h=>by cases y<;>first | (simp only[beqA,beq_iff_eq]at h;rw[h]) | (simp[beqA]at h)
 |.int k a,y,h=>by
  cases y<;>first | (simp[beqA]at h;done) | skip
  simp only[beqA,bA,decide_eq_true_eq,beq_iff_eq]at h;rw[h.1,h.2]
 |.str s,y,h=>by
  cases y<;>first | (simp[beqA]at h;done) | skip
  simp only[beqA]at h;rw[beqB_eq' h]
 |.nilp,y,h=>by cases y<;>first | rfl | (simp[beqA]at h)
 |.ptr a b,y,h=>by
  cases y<;>first | (simp[beqA]at h;done) | skip
  simp only[beqA,bA]at h;rw[bE h.1,bE h.2]
 |.gptr a b,y,h=>by
  cases y<;>first | (simp[beqA]at h;done) | skip
  simp only[beqA,bA]at h;rw[bE h.1,bE h.2]
 |.anyp,y,h=>by cases y<;>first | rfl | (simp[beqA]at h)
 |.eptr es o xs i off,y,h=>by
  cases y<;>first | (simp[beqA]at h;done) | skip
  simp only[beqA,bA]at h;obtain⟨h1,h2,h3,h4,h5⟩:=h;rw[bE h1,beqSI_eq h2,bE h3,bE h4,beqAL_eq h5]
 |.sl es o xs,y,h=>by
  cases y<;>first | (simp[beqA]at h;done) | skip
  simp only[beqA,bA]at h;obtain⟨h1,h2,h3⟩:=h;rw[bE h1,beqSI_eq h2,beqAL_eq h3]
 |.fn f a b,y,h=>by
  cases y<;>first | (simp[beqA]at h;done) | skip
  simp only[beqA,bA]at h;obtain⟨h1,h2,h3⟩:=h;rw[bE h1,beqAL_eq h2,beqAL_eq h3]
 |.nilfn,y,h=>by cases y<;>first | rfl | (simp[beqA]at h)
 |.ifc t v,y,h=>by
  cases y<;>first | (simp[beqA]at h;done) | skip
  simp only[beqA,bA]at h;rw[bE h.1,beqA_eq h.2]
 |.nilif,y,h=>by cases y<;>first | rfl | (simp[beqA]at h)
 |.agg a,y,h=>by
  cases y<;>first | (simp[beqA]at h;done) | skip
  simp only[beqA]at h;rw[beqAL_eq h]
 |.tup a,y,h=>by
  cases y<;>first | (simp[beqA]at h;done) | skip
  simp only[beqA]at h;rw[beqAL_eq h]
 |.nilmap,y,h=>by cases y<;>first | rfl | (simp[beqA]at h)
 |.map a,y,h=>by
  cases y<;>first | (simp[beqA]at h;done) | skip
  simp only[beqA]at h;rw[bE h]
 |.raw v,y,h=>by cases y<;>simp[beqA]at h
theorem beqAL_eq:∀{x y:List AV},beqAL x y=true->x=y
 | [],[],_=>rfl
 | [],_::_,h=>by simp[beqAL]at h
 | _::_,[],h=>by simp[beqAL]at h
 | a::x,b::y,h=>by
  simp only[beqAL,bA]at h;rw[beqA_eq h.1,beqAL_eq h.2]
end
theorem reads_noLoc {i:DI×Option Nat}(he:effO i.2 i.1.op=.reads):isLoc i.1.op=false:=by
 cases h:isLoc i.1.op with
 | false=>rfl
 | true=>rw[loc_pure h]at he;cases he
theorem stays_agr {z:DI×Option Nat}(hL:isLoc z.1.op=false){e1 e2:Env}{S:St}(h:Agr (readsI z++writesI z) e1 e2)(hs:stays gt e1 S z=true):stays gt e2 S z=true:=by
 obtain⟨h1,h2⟩:=appE h;unfold stays at hs ⊢;cases hd:z.1.dst with
 | none=>rw[hd]at hs;cases hs
 | some d =>
  rw[hd]at hs;simp only at hs ⊢;have hp:=stepD_par (gt:=gt) (S:=S) (λ_ _ hh=>by rw[hL]at hh;cases hh) h1;have hdl:lk e1 d=lk e2 d:=h2 d (by rw[writesI_eq,hd];simp);cases hx:stepD gt z e1 S with
  | done a s =>
   rw[hx]at hs hp;cases hy:stepD gt z e2 S with
   | done b t =>
    rw[hy]at hp;obtain⟨rfl,ws,rfl,rfl,_⟩:=hp;simp only[lk_app,hdl]at hs ⊢;exact hs
   | fail=>rw[hy]at hp;exact hp.elim
   | call f xs=>rw[hy]at hp;exact hp.elim
   | pan v=>rw[hy]at hp;exact hp.elim
  | fail=>rw[hx]at hs;cases hs
  | call f xs=>rw[hx]at hs;cases hs
  | pan v=>rw[hx]at hs;cases hs
theorem stab_mem {cs:List (DI×Option Nat)}{e:Env}{S:St}(h:stab gt cs e S=true){z:DI×Option Nat}(hz:z∈cs):stays gt e S z=true:=List.all_eq_true.1 h z hz
theorem agr_mid {R W:List Nat}{ws ws2:List (Nat×Ent)}{e:Env}(hw:∀p∈ws,p.1∈W)(hd:∀x,x∈W->x∈R->False):Agr R (ws2++(ws++e)) (ws2++e):=λn hn=>by
 rw[lk_app,lk_app,lk_app,lk_none_of (ws:=ws) (n:=n) λp hp e=>hd n (by rw[<-e];exact hw p hp) hn];simp
theorem swapD (hm:MonoC C){x y:DI×Option Nat}{cx cy c:List (DI×Option Nat)}{env:Env}{S:St}{K:Env->St->Prop}{Q:Ex->Env->St->Prop}
  (hc:clash x y=false\/(softC x y=true/\x∈cy/\meets (writesI x) (readsI x)=false)) (hcx:cx=[]\/effO x.2 x.1.op=.acts)
  (hsub:∀z∈c,z∈cy/\meets (writesI x) (readsI z++writesI z)=false/\effO z.2 z.1.op=.reads)
  (hK:∀e e' S,Eqv e e'->K e S->K e' S) (hQ:∀v S e e',Q (.pan v) e S->Q (.pan v) e' S)
  (H:afterS C x.1.dst env S (λe1 S1=>stab gt cx e1 S1=true/\afterS C y.1.dst e1 S1 (λe2 S2=>stab gt cy e2 S2=true/\K e2 S2) Q (stepD gt y e1 S1)) Q (stepD gt x env S)) :
  afterS C y.1.dst env S (λe1 S1=>stab gt c e1 S1=true/\afterS C x.1.dst e1 S1 (λe2 S2=>stab gt cx e2 S2=true/\K e2 S2) Q (stepD gt x e1 S1)) Q (stepD gt y env S):=by
 have hW:clashW x y=false:=by
  rcases hc with h | ⟨h,_⟩
  ·unfold clash at h;simp only[Bool.or_eq_false_iff]at h;exact h.1
  ·unfold softC at h;simp only[bA,Bool.not_eq_true']at h;exact h.1
 unfold clashW at hW;simp only[Bool.or_eq_false_iff]at hW;obtain⟨m1,m2,m3⟩:=hW;have hxa:effO x.2 x.1.op≠.acts:=λe=>by
  rcases hc with h | ⟨h,_⟩
  ·unfold clash clashE at h;simp only[Bool.or_eq_false_iff,e]at h;simp at h
  ·unfold softC at h;rw[e]at h;simp[isReads]at h
 have hcx:cx=[]:=hcx.resolve_right hxa;subst hcx;have hst:=stepD_still (gt:=gt) (i:=x) (env:=env) (S:=S) hxa;cases hx:stepD gt x env S with
 | fail=>rw[hx]at H;exact H.elim
 | call f xs=>rw[hx]at hst;exact hst.elim
 | pan v=>rw[hx]at hst;exact hst.elim
 | done e1 S1 =>
  rw[hx]at hst H;obtain⟨_,rfl,_⟩:=hst;have locR:∀{i:DI×Option Nat} {t:Nat},t∈i.2.toList->t∈readsI i:=λ{i t} h=>by unfold readsI;simp only[List.mem_append];exact .inr h
  have dstW:∀{i:DI×Option Nat} {d:Nat},i.1.dst=some d->d∈writesI i:=λ{i d} h=>by rw[writesI_eq,h];simp
  have other:∀env2,Agr (readsI x) env env2->(∀d,x.1.dst=some d->isLoc x.1.op=true->noAdr d env=noAdr d env2)->∃ws:List (Nat×Ent),e1=ws++env/\stepD gt x env2 S1=.done (ws++env2) S1/\(∀p∈ws,p.1∈writesI x)/\∀p∈ws,∀t o,p.2=.adr t o->t∈x.2.toList:=λenv2 h2 hA=>by
   have hp:=stepD_par (gt:=gt) (S:=S1) hA h2;rw[hx]at hp;cases hz:stepD gt x env2 S1 with
   | done e2 S2 =>
    rw[hz]at hp;obtain⟨rfl,ws,h1,h2,h3⟩:=hp;exact⟨ws,h1,by rw[h2],λp hp=>(h3 p hp).1,λp hp=>(h3 p hp).2⟩
   | fail=>rw[hz]at hp;exact hp.elim
   | call f xs=>rw[hz]at hp;exact hp.elim
   | pan v=>rw[hz]at hp;exact hp.elim
  have pureO:effO x.2 x.1.op=.pure->∀env2 e2 S2,stepD gt x env2 S1=.done e2 S1->stepD gt x env2 S2=.done e2 S2:=λhp env2 e2 S2 h2=>by
   have:=stepD_pure (gt:=gt) (env:=env2) (S:=S1) (T:=S2) hp;rw[h2]at this;cases hz:stepD gt x env2 S2 with
   | done e3 S3=>rw[hz]at this;obtain⟨rfl,_,rfl⟩:=this;rfl
   | fail=>rw[hz]at this;exact this.elim
   | call f xs=>rw[hz]at this;exact this.elim
   | pan v=>rw[hz]at this;exact this.elim
  obtain⟨ws,rfl,_,hws,hwa⟩:=other env (λ_ _=>rfl) (λ_ _ _=>rfl);have hagr:Agr (readsI y) (ws++env) env:=λn hn=>(agr_app hws (λz h1 h2=>not_meets m1 h1 h2) n hn).symm;have hAy:∀d,y.1.dst=some d->isLoc y.1.op=true->noAdr d (ws++env)=noAdr d env:=λd e _=>by
   rw[noAdr_app,noAdr_of hwa λh=>not_meets m2 (locR h) (dstW e),Bool.true_and]
  have hpar:=stepD_par (gt:=gt) (S:=S1) hAy hagr;have join:∀(ws2:List (Nat×Ent)) (S2:St),(∀p∈ws2,p.1∈writesI y)->(∀p∈ws2,∀t o,p.2=.adr t o->t∈y.2.toList)->(effO y.2 y.1.op≠.acts->S2=S1)->stab gt cy (ws2++(ws++env)) S2=true ->
    ∃ws':List (Nat×Ent),stepD gt x (ws2++env) S2=.done (ws'++(ws2++env)) S2/\Eqv (ws2++(ws++env)) (ws'++(ws2++env)):=λws2 S2 h2 h2a hS hstab=>by
   rcases hc with hc | ⟨hc,hmem,hself⟩
   ·obtain⟨ws',he,hd,hw',_⟩:=other (ws2++env) (agr_app h2 λz h1 h2=>not_meets m2 h2 h1) (λd e _=>by
     rw[noAdr_app,noAdr_of h2a λh=>not_meets m1 (dstW e) (locR h),Bool.true_and])
    refine⟨ws',?_,?_⟩
    ·by_cases hya:effO y.2 y.1.op=.acts
     ·have hxp:effO x.2 x.1.op=.pure:=by
       unfold clash clashE at hc;simp only[Bool.or_eq_false_iff]at hc;cases hx:effO x.2 x.1.op with
       | pure=>rfl
       | reads=>rw[hx,hya]at hc;simp at hc
       | acts=>exact absurd hx hxa
      exact pureO hxp _ _ _ hd
     ·rw[hS hya];exact hd
    ·rw[he];exact eqv_swap h2 hw' λz h1 h2=>not_meets m3 h2 h1
   ·have hre:effO x.2 x.1.op=.reads:=by
     unfold softC at hc;simp only[bA]at hc;cases h:effO x.2 x.1.op with
     | reads=>rfl
     | pure=>rw[h]at hc;simp[isReads]at hc
     | acts=>rw[h]at hc;simp[isReads]at hc
    have hL:=reads_noLoc hre;have hst:=stab_mem hstab hmem;unfold stays at hst;cases hd:x.1.dst with
    | none=>rw[hd]at hst;cases hst
    | some d =>
     rw[hd]at hst;simp only at hst;have hv:=stepD_reads (gt:=gt) (i:=x) (e:=env) (S:=S1) hre;rw[hx]at hv;obtain⟨v,hv⟩:=hv;have hwse:ws=[(d,.val v)]:=by
      rw[hd]at hv;exact List.append_cancel_right (hv.trans (by rfl:putV (some d) v env=[(d,.val v)]++env))
     subst hwse;have hlE:lk (ws2++([(d,.val v)]++env)) d=some (.val v):=by
      rw[lk_app,lk_none_of (ws:=ws2) (n:=d) λp hp e=>not_meets m3 (dstW hd) (by rw[<-e];exact h2 p hp)];simp[lk_cons]
     rw[hlE]at hst;have hv2:=stepD_reads (gt:=gt) (i:=x) (e:=ws2++([(d,.val v)]++env)) (S:=S2) hre;have hst2:=stepD_still (gt:=gt) (i:=x) (env:=ws2++([(d,.val v)]++env)) (S:=S2) hxa;have hp:=stepD_par (gt:=gt) (i:=x) (e1:=ws2++([(d,.val v)]++env)) (e2:=ws2++env) (S:=S2) (λ_ _ hh=>by rw[hL]at hh;cases hh) (agr_mid hws λz h1 h2=>not_meets hself h1 h2);cases hz:stepD gt x (ws2++([(d,.val v)]++env)) S2 with
     | done e3 S3 =>
      rw[hz]at hst hv2 hst2 hp;obtain⟨v3,hv3⟩:=hv2;obtain⟨_,rfl,_⟩:=hst2;rw[hd]at hv3;subst hv3;have h3:lk (putV (some d) v3 (ws2++([(d,.val v)]++env))) d=some (.val v3):=by simp[putV,putE,lk_cons]
      simp only[h3]at hst;have:=beqA_eq hst;subst this;cases hz2:stepD gt x (ws2++env) S3 with
      | done e4 S4 =>
       rw[hz2]at hp;obtain⟨rfl,wz,hz3,rfl,_⟩:=hp;have hwz:wz=[(d,.val v3)]:=List.append_cancel_right (hz3.symm.trans (by rfl:putV (some d) v3 (ws2++([(d,.val v3)]++env))=[(d,.val v3)]++(ws2++([(d,.val v3)]++env))));subst hwz;exact⟨_,rfl,eqv_swap h2 hws λz h1 h2=>not_meets m3 h2 h1⟩
      | fail=>rw[hz2]at hp;exact hp.elim
      | call f xs=>rw[hz2]at hp;exact hp.elim
      | pan u=>rw[hz2]at hp;exact hp.elim
     | fail=>rw[hz]at hst;cases hst
     | call f xs=>rw[hz]at hst;cases hst
     | pan u=>rw[hz]at hst;cases hst
  have again:∀(ws2:List (Nat×Ent)) (S2:St),stab gt cy (ws2++(ws++env)) S2=true->stab gt c (ws2++env) S2=true:=λws2 S2 hs=>by
   refine List.all_eq_true.2 λz hz=>?_;obtain⟨z1,z2,z3⟩:=hsub z hz;exact stays_agr (reads_noLoc z3) (agr_mid hws λn h1 h2=>not_meets z2 h1 h2) (stab_mem hs z1)
  simp only[afterS]at H;obtain⟨_,H⟩:=H;cases hy:stepD gt y (ws++env) S1 with
  | fail=>rw[hy]at H;exact H.elim
  | done e2 S2 =>
   rw[hy]at H hpar;cases hy2:stepD gt y env S1 with
   | fail=>rw[hy2]at hpar;exact hpar.elim
   | call f xs=>rw[hy2]at hpar;exact hpar.elim
   | pan v=>rw[hy2]at hpar;exact hpar.elim
   | done e3 S3 =>
    rw[hy2]at hpar;obtain⟨rfl,ws2,rfl,rfl,h2⟩:=hpar;obtain⟨H1,H2⟩:=H;obtain⟨ws',hd,heq⟩:=join ws2 S2 (λp hp=>(h2 p hp).1) (λp hp=>(h2 p hp).2) (λhya=>by
     have:=stepD_still (gt:=gt) (i:=y) (env:=env) (S:=S1) hya;rw[hy2]at this;exact this.2.1) H1
    refine⟨again _ _ H1,?_⟩;simp only[hd];exact⟨rfl,hK _ _ _ heq H2⟩
  | call f xs =>
   rw[hy]at H hpar;cases hy2:stepD gt y env S1 with
   | fail=>rw[hy2]at hpar;exact hpar.elim
   | done e3 S3=>rw[hy2]at hpar;exact hpar.elim
   | pan v=>rw[hy2]at hpar;exact hpar.elim
   | call f2 xs2 =>
    rw[hy2]at hpar;obtain⟨rfl,rfl⟩:=hpar;have hya:effO y.2 y.1.op=.acts:=by
     cases h:effO y.2 y.1.op with
     | acts=>rfl
     | _ =>
      have:=stepD_still (gt:=gt) (i:=y) (env:=env) (S:=S1) (by rw[h];simp);rw[hy2]at this;exact this.elim
    simp only[afterS]at H ⊢;refine hm _ _ _ _ _ H λr S' hr=>?_;cases r with
    | pan v=>exact hQ _ _ _ _ hr
    | ret v =>
     simp only at hr ⊢;obtain⟨H1,H2⟩:=hr;rw[putV_pw]at H1 H2 ⊢;obtain⟨ws',hd,heq⟩:=join (pw y.1.dst v) S' pw_W (λp hp t o e=>by
      unfold pw at hp;cases h:y.1.dst with
      | none=>rw[h]at hp;cases hp
      | some d=>rw[h]at hp;simp only[List.mem_singleton]at hp;subst hp;cases e) (λh=>absurd hya h) H1
     refine⟨again _ _ H1,?_⟩;simp only[hd];exact⟨rfl,hK _ _ _ heq H2⟩
  | pan v =>
   rw[hy]at H hpar;cases hy2:stepD gt y env S1 with
   | fail=>rw[hy2]at hpar;exact hpar.elim
   | done e3 S3=>rw[hy2]at hpar;exact hpar.elim
   | call f xs=>rw[hy2]at hpar;exact hpar.elim
   | pan u =>
    rw[hy2]at hpar;have hpar:v=u:=hpar;subst hpar;exact hQ _ _ _ _ H
end
end Go.Dn

namespace Go.Dn
open Go Go.RowKit
section
variable {gt:GT}{C:CallT}
theorem afterS_mono (hm:MonoC C){dst:Option Nat}{env:Env}{S:St}{K K':Env->St->Prop}{Q:Ex->Env->St->Prop}{r:SR}(hk:∀e S,K e S->K' e S)(h:afterS C dst env S K Q r):afterS C dst env S K' Q r:=by
 cases r with
 | fail=>exact h
 | done e s=>exact hk _ _ h
 | pan v=>exact h
 | call f xs =>
  refine hm _ _ _ _ _ h λr S' hr=>?_;cases r with
  | ret v=>exact hk _ _ hr
  | pan v=>exact hr
theorem Eqv.app {e e':Env}(h:Eqv e e')(ws:List (Nat×Ent)):Eqv (ws++e) (ws++e'):=⟨λn=>by rw[lk_app,lk_app,h.lk n],λd=>by rw[noAdr_app,noAdr_app,h.na d]⟩
def OkR (i:DRow):Prop:=∀z∈i.2,effO z.2 z.1.op=.reads
theorem stab_eqv {cs:List (DI×Option Nat)}(hr:∀z∈cs,effO z.2 z.1.op=.reads){e e':Env}{S:St}(h:Eqv e e')(hs:stab gt cs e S=true):stab gt cs e' S=true :=
 List.all_eq_true.2 λz hz=>stays_agr (reads_noLoc (hr z hz)) (λn _=>h.lk n) (stab_mem hs hz)
theorem stab_sub {cs cs':List (DI×Option Nat)}(h:∀z∈cs',z∈cs){e:Env}{S:St}(hs:stab gt cs e S=true):stab gt cs' e S=true :=
 List.all_eq_true.2 λz hz=>stab_mem hs (h z hz)
theorem wpDs_eqv (hm:MonoC C){Q:Ex->Env->St->Prop}(hQ:∀v S e e',Q (.pan v) e S->Q (.pan v) e' S)(hN:∀S e e',Eqv e e'->Q .normal e S->Q .normal e' S):∀(l:List DRow),(∀x∈l,OkR x)->∀e e' S,Eqv e e'->wpDs gt C l e S Q->wpDs gt C l e' S Q
 | [],_,e,e',S,h,H=>hN _ _ _ h H
 | x::l,hL,e,e',S,h,H=>by
  have ih:=wpDs_eqv hm hQ hN l λy hy=>hL y (by simp[hy]);have hr:=hL x (by simp);simp only[wpDs]at H ⊢;have hp:=stepD_par (gt:=gt) (i:=x.1) (S:=S) (e1:=e) (e2:=e') (λd _ _=>h.na d) λn _=>h.lk n;cases h1:stepD gt x.1 e S with
  | fail=>rw[h1]at H;exact H.elim
  | done a s =>
   rw[h1]at H hp;cases h2:stepD gt x.1 e' S with
   | done b t =>
    rw[h2]at hp;obtain⟨rfl,ws,rfl,rfl,_⟩:=hp;exact⟨stab_eqv hr (h.app ws) H.1,ih _ _ _ (h.app ws) H.2⟩
   | fail=>rw[h2]at hp;exact hp.elim
   | call f xs=>rw[h2]at hp;exact hp.elim
   | pan v=>rw[h2]at hp;exact hp.elim
  | call f xs =>
   rw[h1]at H hp;cases h2:stepD gt x.1 e' S with
   | call f2 xs2 =>
    rw[h2]at hp;obtain⟨rfl,rfl⟩:=hp;refine hm _ _ _ _ _ H λr S' hr2=>?_;cases r with
    | ret v =>
     simp only at hr2 ⊢;rw[putV_pw]at hr2 ⊢;exact⟨stab_eqv hr (h.app _) hr2.1,ih _ _ _ (h.app _) hr2.2⟩
    | pan v=>exact hQ _ _ _ _ hr2
   | fail=>rw[h2]at hp;exact hp.elim
   | done b t=>rw[h2]at hp;exact hp.elim
   | pan v=>rw[h2]at hp;exact hp.elim
  | pan v =>
   rw[h1]at H hp;cases h2:stepD gt x.1 e' S with
   | pan u =>
    rw[h2]at hp;have:v=u:=hp;subst this;exact hQ _ _ _ _ H
   | fail=>rw[h2]at hp;exact hp.elim
   | done b t=>rw[h2]at hp;exact hp.elim
   | call f xs=>rw[h2]at hp;exact hp.elim
theorem wpDs_front (hm:MonoC C){Q:Ex->Env->St->Prop}(hQ:∀v S e e',Q (.pan v) e S->Q (.pan v) e' S)(hN:∀S e e',Eqv e e'->Q .normal e S->Q .normal e' S){sf:Nat->Bool}{x:DI×Option Nat}{cx:List (DI×Option Nat)}{post:List DRow}(hpost:∀y∈post,OkR y) :
  ∀(pre:List (Nat×DRow)) (c:List (DI×Option Nat)),(∀y∈pre,OkR y.2/\(y.2.2=[]\/effO y.2.1.2 y.2.1.1.op=.acts)/\(clash y.2.1 x=false\/(softC y.2.1 x=true/\y.2.1∈cx/\sf y.1=true/\meets (writesI y.2.1) (readsI y.2.1)=false))) ->
   (pre.Pairwise λa b=>sf a.1=true->meets (writesI b.2.1) (readsI a.2.1++writesI a.2.1)=false) ->
   (∀z∈c,z∈cx/\effO z.2 z.1.op=.reads/\∀y∈pre,meets (writesI y.2.1) (readsI z++writesI z)=false) ->
   ∀env S,wpDs gt C (pre.map (·.2)++(x,cx)::post) env S Q->wpDs gt C ((x,c)::(pre.map (·.2)++post)) env S Q
 | [],c,_,_,hc,env,S,H=>by
  simp only[List.map_nil,List.nil_append,wpDs]at H ⊢;exact afterS_mono hm (λe1 S1 h=>⟨stab_sub (λz hz=>(hc z hz).1) h.1,h.2⟩) H
 | y::pre,c,hp,hpw,hc,env,S,H=>by
  obtain⟨hy1,hy2,hy3⟩:=hp y (by simp);have hpw2:=List.pairwise_cons.1 hpw;have main:∀c':List (DI×Option Nat),(∀z∈c',z∈cx/\effO z.2 z.1.op=.reads/\∀y'∈pre,meets (writesI y'.2.1) (readsI z++writesI z)=false)->(∀z∈c,z∈c') ->
    (clash y.2.1 x=false\/(softC y.2.1 x=true/\y.2.1∈c'/\meets (writesI y.2.1) (readsI y.2.1)=false))->wpDs gt C ((x,c)::((y::pre).map (·.2)++post)) env S Q:=by
   intro c' hc' hcc hcl;have ih:=wpDs_front hm hQ hN (x:=x) (cx:=cx) (sf:=sf) hpost pre c' (λz hz=>hp z (by simp[hz])) hpw2.2 hc';have h1:afterS C y.2.1.1.dst env S (λe1 S1=>stab gt y.2.2 e1 S1=true/\afterS C x.1.dst e1 S1 (λe2 S2=>stab gt c' e2 S2=true/\wpDs gt C (pre.map (·.2)++post) e2 S2 Q) Q (stepD gt x e1 S1)) Q (stepD gt y.2.1 env S) :=
    afterS_mono hm (λe1 S1 h=>⟨h.1,ih e1 S1 h.2⟩) H
   have hall:∀z∈pre.map (·.2)++post,OkR z:=λz hz=>by
    rcases List.mem_append.1 hz with h | h
    ·obtain⟨q,hq,rfl⟩:=List.mem_map.1 h;exact(hp q (by simp[hq])).1
    ·exact hpost z h
   exact swapD hm hcl hy2 (λz hz=>⟨hcc z hz,(hc z hz).2.2 y (by simp),(hc z hz).2.1⟩) (λe e' S he h=>wpDs_eqv hm hQ hN _ hall _ _ _ he h) hQ h1
  rcases hy3 with h | ⟨h1,h2,h3,h4⟩
  ·exact main c (λz hz=>⟨(hc z hz).1,(hc z hz).2.1,λy' hy'=>(hc z hz).2.2 y' (by simp[hy'])⟩) (λz hz=>hz) (.inl h)
  ·refine main (y.2.1::c) (λz hz=>?_) (λz hz=>List.mem_cons_of_mem _ hz) (.inr ⟨h1,List.mem_cons_self ..,h4⟩);rcases List.mem_cons.1 hz with rfl | hz
   ·refine⟨h2,?_,λy' hy'=>hpw2.1 y' hy' h3⟩;unfold softC at h1;simp only[bA]at h1;cases he:effO y.2.1.2 y.2.1.1.op with
    | reads=>rfl
    | pure=>rw[he]at h1;simp[isReads]at h1
    | acts=>rw[he]at h1;simp[isReads]at h1
   ·exact⟨(hc z hz).1,(hc z hz).2.1,λy' hy'=>(hc z hz).2.2 y' (by simp[hy'])⟩
inductive Anc (B:Nat->List Nat):Nat->Nat->Prop
 | step {i j:Nat} (h:j∈B i):Anc B i j
 | trans {i k j:Nat} (h:k∈B i) (t:Anc B k j):Anc B i j
theorem ancs_ok {B:Nat->List Nat}:∀(rest:List Oper) (i:Nat) (acc anc:List (List Nat)),ancs i rest acc=some anc->acc.length=i->(∀k l,acc[k]? = some l->∀j∈l,Anc B k j)->(∀m o,rest[m]? = some o->B (i+m)=bindOn o) ->
  (∀m o,rest[m]? = some o->∀j∈bindOn o,j<i+m)/\∀k l,anc[k]? = some l->∀j∈l,Anc B k j
 | [],i,acc,anc,h,_,ha,_=>by
  simp only[ancs,oI]at h;subst h;exact⟨λm o hm=>by simp at hm,ha⟩
 | o::rest,i,acc,anc,h,hl,ha,hB=>by
  simp only[ancs]at h;split at h
  ·rename_i hd;have hBi:B i=bindOn o:=by simpa using hB 0 o rfl
   have hlt:∀j∈bindOn o,j<i:=λj hj=>blt_lt (List.all_eq_true.1 hd j hj);obtain⟨g1,g2⟩:=ancs_ok rest (i+1) _ anc h (by simp[hl]) (λk l hk j hj=>by
    by_cases hki:k<acc.length
    ·rw[List.getElem?_append_left hki]at hk;exact ha k l hk j hj
    ·rw[List.getElem?_append_right (by omega)]at hk;have hk0:k=i:=by
      have:=(List.getElem?_eq_some_iff.1 hk).1;simp at this;omega
     subst hk0;rw[hl,Nat.sub_self]at hk;simp only[List.getElem?_cons_zero,oI]at hk;subst hk;obtain⟨_,hj2⟩:=List.mem_filter.1 hj;obtain⟨q,hq,hq2⟩:=List.any_eq_true.1 hj2;simp only[Bool.or_eq_true]at hq2;rcases hq2 with hq2 | hq2
     ·have:=bE hq2;subst this;exact .step (by rw[hBi];exact hq)
     ·obtain⟨z,hz,hz2⟩:=List.any_eq_true.1 hq2;have:=bE hz2;subst this;cases hg:acc[q]? with
      | none=>simp[List.getD_eq_getElem?_getD,hg]at hz
      | some l' =>
       simp only[List.getD_eq_getElem?_getD,hg,Option.getD_some]at hz;exact .trans (by rw[hBi];exact hq) (ha q l' hg _ hz)) (λm o' hm=>by
    have:=hB (m+1) o' (by simpa using hm);rw[<-this];congr 1;omega)
   refine⟨λm o' hm j hj=>?_,g2⟩;cases m with
   | zero=>simp at hm;subst hm;simpa using hlt j hj
   | succ m =>
    have:=g1 m o' (by simpa using hm) j hj;omega
  ·cases h
end
section
variable {P:Program}{gt:GT}{O:Orig}
theorem prepIs_get {N:Lim}{locs:List Nat}{tk:Bool}{ops:Array Oper}:∀{rest:List Oper} {is:List DI},prepIs P N locs tk ops rest=some is ->
  is.length=rest.length/\∀(k:Nat) (i:DI),is[k]? = some i->∃o,rest[k]? = some o/\prepI P N locs tk ops o=some i
 | [],is,h=>by
  simp only[prepIs,oI]at h;subst h;exact⟨rfl,λk i hk=>by simp at hk⟩
 | o::rest,is,h=>by
  simp only[prepIs]at h;split at h
  ·rename_i i is' h1 h2;simp only[oI]at h;subst h;obtain⟨g1,g2⟩:=prepIs_get h2;refine⟨by simp[g1],λk j hk=>?_⟩;cases k with
   | zero=>simp at hk;subst hk;exact⟨o,rfl,h1⟩
   | succ k=>simpa using g2 k j (by simpa using hk)
  ·cases h
theorem wpOp_row {ops:Array Oper}{N:Lim}(hN:O.N=N){locs:List Nat}{tk:Bool}{k:Nat}{o:Oper}{i:DI}(ho:ops[k]? = some o)(hp:prepI P N locs tk ops o=some i){S:St}{G:Gh}{w:World}{env:Env}{a:Act}(hg:Good P gt O S G w env a)
  {QD:Ex->Env->St->Prop} {K:Env->St->Prop} {next:Act->World->Prop} (ha:afterS (AC P gt) i.dst env S K QD (stepI gt i env S)) (hn:∀env' S' G' w' a',Good P gt O S' G' w' env' a'->K env' S'->next a' w'):wpOp P ops (Qc P gt O QD) k next a w:=by
 unfold wpOp;rw[ho];simp only;have:=stepI_ok (o:=o) hg hN hp ha hn;split at this
 ·rename_i hwt;rw[if_pos hwt];exact .inl this
 ·rename_i hwt;rw[if_neg hwt];exact this
theorem AC_mono':MonoC (AC P gt):=λf xs S Q Q' h hq =>
 ⟨h.1,λG w args hI hx=>Calls.mono (h.2 G w args hI hx) λe w' hp=>by
  cases e with
  | returned v=>obtain⟨x,S',G',q,t,r⟩:=hp;exact⟨x,S',G',hq _ _ q,t,r⟩
  | panicked chain=>obtain⟨x,S',G',u,hc,q,t,r⟩:=hp;exact⟨x,S',G',u,hc,hq _ _ q,t,r⟩
  | outgrown=>exact hp.elim⟩
theorem kill_noAdr {d:Nat}:∀{env:Env},noAdr d env=true->kill d env=env
 | [],_=>rfl
 | (k,e)::r,h=>by
  simp only[noAdr,List.all_cons,bA]at h;have ih:=kill_noAdr (d:=d) (env:=r) h.2;cases e with
  | adr t o =>
   have h1:=h.1;simp only[Bool.not_eq_true']at h1;simp only[kill,h1,cond_false,ih]
  | val x=>simp only[kill,ih]
  | box cs=>simp only[kill,ih]
  | unk=>simp only[kill,ih]
theorem stepDO_or (i:DI×Option Nat)(env:Env)(S:St):stepDO gt i env S=.fail\/stepDO gt i env S=stepO gt i.1.dst env S i.1.op:=by
 unfold stepDO;cases hL:isLoc i.1.op with
 | false =>
  cases conform i.2 env i.1.op with
  | true=>exact .inr rfl
  | false=>exact .inl rfl
 | true =>
  simp only[cond_true];cases hop:i.1.op<;>rw[hop]at hL<;>first | (cases hL;done) | skip
  ·simp only[stepL,stepO];cases i.1.dst with
   | none=>exact .inl rfl
   | some d =>
    cases hn:noAdr d env with
    | false=>refine .inl ?_;simp only[hn,cond_false]
    | true=>refine .inr ?_;simp only[hn,cond_true,kill_noAdr hn]
  ·rename_i x;simp only[stepL,stepO];cases i.1.dst with
   | none=>exact .inl rfl
   | some d =>
    cases opd env x with
    | none=>exact .inl rfl
    | some v =>
     cases hn:noAdr d env with
     | false=>refine .inl ?_;simp only[hn,cond_false]
     | true=>refine .inr ?_;simp only[hn,cond_true,kill_noAdr hn]
theorem stepD_or (i:DI×Option Nat)(env:Env)(S:St):stepD gt i env S=.fail\/stepD gt i env S=stepI gt i.1 env S:=by
 have main:=stepDO_or (gt:=gt) i env S;unfold stepD stepI;cases i.1.guard with
 | none=>exact main
 | some gw =>
  obtain⟨g,want⟩:=gw;simp only;split
  ·rename_i b hb;cases b == want with
   | false=>exact .inr rfl
   | true=>exact main
  ·exact .inr rfl
  ·exact .inr rfl
theorem all_bind (o:Oper)(L:Nat->Bool):(o.after.all λe=>!Region.binds .any e || L e.on)=(bindOn o).all L:=by
 unfold bindOn;rw[<-Array.all_toList,List.all_map,List.all_filter]
 congr 1
theorem ready_mem {ops:Array Oper}{listed:Array Bool}{i:Nat}:i∈Region.ready .any ops listed↔i<ops.size/\listed.getD i true=false/\∃o,ops[i]? = some o/\∀e∈bindOn o,listed.getD e false=true:=by
 unfold Region.ready;rw[List.mem_filter,List.mem_range,bA,Bool.not_eq_true'];refine and_congr Iff.rfl (and_congr Iff.rfl ?_);cases ho:ops[i]? with
 | none=>simp
 | some o =>
  simp only[Option.map_some,Option.getD_some,oI,exists_eq_left'];rw[all_bind o (listed.getD · false),List.all_eq_true]
theorem getD_set {l:Array Bool}{i j:Nat}{d:Bool}(hi:i<l.size):(l.setIfInBounds i true).getD j d=if i=j then true else l.getD j d:=by
 simp only[Array.getD_eq_getD_getElem?,Array.getElem?_setIfInBounds];by_cases h:i=j
 ·subst h;simp[hi]
 ·simp[h]
theorem getD_lt {l:Array Bool}{i:Nat}(hi:i<l.size)(d d':Bool):l.getD i d=l.getD i d':=by
 simp[Array.getD_eq_getD_getElem?,hi]
theorem drw_any {N:Lim}(hN:O.N=N){ops:Array Oper}{locs:List Nat}{B:Nat->List Nat}(hB:∀(i:Nat) (o:Oper),ops[i]? = some o->B i=bindOn o)(hBlt:∀(i:Nat) (o:Oper),ops[i]? = some o->∀j∈bindOn o,j<i)
  {anc:List (List Nat)} (hanc:∀(k:Nat) (l:List Nat),anc[k]? = some l->∀j∈l,Anc B k j) {QD:Ex->Env->St->Prop} (hQ:∀v S e e',QD (.pan v) e S->QD (.pan v) e' S) (hNQ:∀S e e',Eqv e e'->QD .normal e S->QD .normal e' S) {sf:Nat->Bool} :
  ∀(fuel:Nat) (listed:Array Bool) (rem:List (Nat×DRow)) (env:Env) (S:St) (G:Gh) (w:World) (a:Act),rem.length<=fuel->listed.size=ops.size ->
   (∀p∈rem,listed.getD p.1 true=false)->(∀i,i<ops.size->listed.getD i true=false->∃p∈rem,p.1=i) ->
   (∀p∈rem,(OkR p.2/\(p.2.2=[]\/effO p.2.1.2 p.2.1.1.op=.acts)/\(sf p.1=true->meets (writesI p.2.1) (readsI p.2.1)=false))/\∃o,ops[p.1]? = some o/\prepI P N locs false ops o=some p.2.1.1) ->
   rem.Pairwise (λx y=>x.1≠y.1/\(x.1∈anc.getD y.1 []\/clash x.2.1 y.2.1=false\/(softC x.2.1 y.2.1=true/\x.2.1∈y.2.2/\sf x.1=true))/\(sf x.1=true->meets (writesI y.2.1) (readsI x.2.1++writesI x.2.1)=false)) ->
   (∀(i:Nat) (o:Oper),ops[i]? = some o->listed.getD i true=true->∀e∈bindOn o,listed.getD e false=true) ->
   Good P gt O S G w env a->wpDs gt (AC P gt) (rem.map (·.2)) env S QD->wpAny P .any ops (Qc P gt O QD) fuel listed a w:=by
 intro fuel;have empty:∀(listed:Array Bool) (rem:List (Nat×DRow)),listed.size=ops.size->(∀p∈rem,listed.getD p.1 true=false)->(∀p∈rem,∃o,ops[p.1]? = some o)->Region.ready .any ops listed=[]->rem=[]:=by
  intro listed rem hs hb hd hr;have all:∀i,i<ops.size->listed.getD i true=true:=by
   intro i
   induction i using Nat.strongRecOn with
   | _ i ih =>
    intro hi;cases hl:listed.getD i true with
    | true=>rfl
    | false =>
     have:i∈Region.ready .any ops listed:=ready_mem.2 ⟨hi,hl,ops[i],by simp[hi],λe he=>by
      have hei:=hBlt i ops[i] (by simp[hi]) e he;rw[getD_lt (by omega) false true];exact ih e hei (by omega)⟩
     rw[hr]at this;cases this
  cases rem with
  | nil=>rfl
  | cons p r =>
   obtain⟨o,ho⟩:=hd p (by simp);have:=all p.1 (by rw[Array.getElem?_eq_some_iff]at ho;exact ho.1);rw[hb p (by simp)]at this;cases this
 induction fuel with
 | zero =>
  intro listed rem env S G w a hf hs hb hc hd he hdc hg hw;have hr:rem=[]:=List.length_eq_zero_iff.1 (by omega);subst hr;refine⟨?_,env,S,G,hg,hw⟩;cases hrd:Region.ready .any ops listed with
  | nil=>rfl
  | cons i r =>
   have hi:i∈Region.ready .any ops listed:=by rw[hrd];simp
   obtain⟨h1,h2,_⟩:=ready_mem.1 hi;obtain⟨p,hp,_⟩:=hc i h1 h2;cases hp
 | succ fuel ih =>
  intro listed rem env S G w a hf hs hb hc hd he hdc hg hw;refine⟨λhr=>?_,λi hi=>?_⟩
  ·have:=empty listed rem hs hb (λp hp=>(hd p hp).2.imp λo h=>h.1) hr;subst this;exact⟨env,S,G,hg,hw⟩
  ·obtain⟨h1,h2,o,ho,hpre⟩:=ready_mem.1 hi;obtain⟨p,hp,rfl⟩:=hc i h1 h2;obtain⟨pre,post,rfl⟩:=List.append_of_mem hp;obtain⟨_,o',ho',hprep⟩:=hd p (by simp);have hpw:=List.pairwise_append.1 he;have hpw2:=List.pairwise_cons.1 hpw.2.1;have hAnc:∀j,Anc B p.1 j->listed.getD j false=true:=by
    intro j hj;have gen:∀i j,Anc B i j->(∀e∈B i,listed.getD e false=true)->listed.getD j false=true:=by
     intro i j h
     induction h with
     | step h=>intro hh;exact hh _ h
     | @trans i k j h t ih2 =>
      intro hh;have hk:=hh k h;refine ih2 λe he=>?_;have hkn:k<listed.size:=by
       rcases Nat.lt_or_ge k listed.size with h' | h'
       ·exact h'
       ·simp[Array.getD_eq_getD_getElem?,Array.getElem?_eq_none h']at hk
      have hok:ops[k]? = some ops[k]:=by simp[show k<ops.size by omega]
      rw[hB k _ hok]at he;exact hdc k _ hok (by rw[getD_lt hkn true false];exact hk) e he
    exact gen _ _ hj λe he=>hpre e (by rw[hB _ _ ho]at he;exact he)
   have hcl:∀y∈pre,OkR y.2/\(y.2.2=[]\/effO y.2.1.2 y.2.1.1.op=.acts)/\(clash y.2.1 p.2.1=false\/(softC y.2.1 p.2.1=true/\y.2.1∈p.2.2/\sf y.1=true/\meets (writesI y.2.1) (readsI y.2.1)=false)):=λy hy=>by
    obtain⟨⟨k1,k2,k3⟩,_⟩:=hd y (by simp[hy]);refine⟨k1,k2,?_⟩;rcases (hpw.2.2 y hy p (by simp)).2.1 with h | h | ⟨h1,h2,h3⟩
    ·exfalso;cases hk:anc[p.1]? with
     | none=>simp[List.getD_eq_getElem?_getD,hk]at h
     | some l =>
      simp only[List.getD_eq_getElem?_getD,hk,Option.getD_some]at h;have h3:=hAnc _ (hanc _ _ hk _ h);have h4:=hb y (by simp[hy]);have hyn:y.1<listed.size:=by
       rcases Nat.lt_or_ge y.1 listed.size with h' | h'
       ·exact h'
       ·simp[Array.getD_eq_getD_getElem?,Array.getElem?_eq_none h']at h3
      rw[getD_lt hyn true false,h3]at h4;cases h4
    ·exact .inl h
    ·exact .inr ⟨h1,h2,h3,k3 h3⟩
   have hfront:wpDs gt (AC P gt) ((p.2.1,[])::((pre++post).map (·.2))) env S QD:=by
    rw[List.map_append];refine wpDs_front AC_mono' hQ hNQ (x:=p.2.1) (cx:=p.2.2) (sf:=sf) (λy hy=>?_) pre [] hcl (hpw.1.imp λh=>h.2.2) (λz hz=>by cases hz) env S (by simpa using hw);obtain⟨q,hq,rfl⟩:=List.mem_map.1 hy;exact(hd q (by simp[hq])).1.1
   simp only[wpDs]at hfront;have hstep:afterS (AC P gt) p.2.1.1.dst env S (λenv' S'=>wpDs gt (AC P gt) ((pre++post).map (·.2)) env' S' QD) QD (stepI gt p.2.1.1 env S):=by
    have hfront:=afterS_mono AC_mono' (λe S h=>h.2) hfront;rcases stepD_or (gt:=gt) p.2.1 env S with h | h
    ·rw[h]at hfront;exact hfront.elim
    ·rw[h]at hfront;exact hfront
   have hii:p.1<listed.size:=by omega
   refine wpOp_row hN ho' hprep hg hstep λenv' S' G' w' a' g' q'=>?_;refine ih (listed.setIfInBounds p.1 true) (pre++post) env' S' G' w' a' (by simp at hf ⊢;omega) (by simpa using hs) (λq hq=>?_) (λj hj hl=>?_) (λq hq=>?_) ?_ (λj oj hj hl e he2=>?_) g' q'
   ·have hne:p.1≠q.1:=by
     rcases List.mem_append.1 hq with h | h
     ·exact λe=>(hpw.2.2 q h p (by simp)).1 e.symm
     ·exact(hpw2.1 q h).1
    rw[getD_set hii,if_neg hne];refine hb q ?_;rcases List.mem_append.1 hq with h | h<;>simp[h]
   ·rw[getD_set hii]at hl;by_cases e:p.1=j
    ·rw[if_pos e]at hl;cases hl
    ·rw[if_neg e]at hl;obtain⟨q,hq,rfl⟩:=hc j hj hl;refine⟨q,?_,rfl⟩;rcases List.mem_append.1 hq with h | h
     ·simp[h]
     ·rcases List.mem_cons.1 h with rfl | h
      ·exact absurd rfl e
      ·simp[h]
   ·refine hd q ?_;rcases List.mem_append.1 hq with h | h<;>simp[h]
   ·refine List.pairwise_append.2 ⟨hpw.1,hpw2.2,λx hx y hy=>hpw.2.2 x hx y (by simp[hy])⟩
   ·rw[getD_set hii];by_cases e2:p.1=e
    ·rw[if_pos e2]
    ·rw[if_neg e2];rw[getD_set hii]at hl;by_cases e3:p.1=j
     ·subst e3;rw[ho]at hj;cases hj;exact hpre e he2
     ·rw[if_neg e3]at hl;exact hdc j oj hj hl e he2
theorem zipL_get:∀{is:List DI} {ls:List (Option Nat)} {k:Nat} {x:DI×Option Nat},(zipL is ls)[k]? = some x->is[k]? = some x.1
 | [],ls,k,x,h=>by simp[zipL]at h
 | i::is,[],0,x,h=>by simp[zipL]at h;subst h;rfl
 | i::is,[],k+1,x,h=>by
  simp only[zipL,List.getElem?_cons_succ]at h ⊢;exact zipL_get h
 | i::is,l::ls,0,x,h=>by simp[zipL]at h;subst h;rfl
 | i::is,l::ls,k+1,x,h=>by
  simp only[zipL,List.getElem?_cons_succ]at h ⊢;exact zipL_get h
theorem zipL_length:∀(is:List DI) (ls:List (Option Nat)),(zipL is ls).length=is.length
 | [],_=>rfl
 | _::is,[]=>by simp[zipL,zipL_length is []]
 | _::is,_::ls=>by simp[zipL,zipL_length is ls]
theorem pickRows_get {l:List (DI×Option Nat)}:∀{c:List Nat} {rows:List (Nat×DI×Option Nat)},pickRows l c=some rows->∀p∈rows,l[p.1]? = some p.2
 | [],rows,h,p,hp=>by simp only[pickRows,oI]at h;subst h;cases hp
 | i::c,rows,h,p,hp=>by
  simp only[pickRows]at h;split at h
  ·rename_i x xs h1 h2;simp only[oI]at h;subst h;rcases List.mem_cons.1 hp with rfl | hp
   ·exact h1
   ·exact pickRows_get h2 p hp
  ·cases h
theorem softP_reads {anc:List (List Nat)}{z y:Nat×DI×Option Nat}(h:softP anc z y=true):effO z.2.2 z.2.1.op=.reads/\effO y.2.2 y.2.1.op=.acts:=by
 unfold softP softC at h;simp only[bA]at h;refine⟨?_,?_⟩
 ·cases he:effO z.2.2 z.2.1.op with
  | reads=>rfl
  | pure=>rw[he]at h;simp[isReads]at h
  | acts=>rw[he]at h;simp[isReads]at h
 ·cases he:effO y.2.2 y.2.1.op with
  | acts=>rfl
  | pure=>rw[he]at h;simp[isActs]at h
  | reads=>rw[he]at h;simp[isActs]at h
theorem chk_reads {anc:List (List Nat)}{all:List (Nat×DI×Option Nat)}{y:Nat×DI×Option Nat}:OkR (y.2,chkOf anc all y)/\((chkOf anc all y)=[]\/effO y.2.2 y.2.1.op=.acts):=by
 refine⟨λz hz=>?_,?_⟩
 ·obtain⟨q,hq,rfl⟩:=List.mem_map.1 hz;exact(softP_reads (List.mem_filter.1 hq).2).1
 ·cases h:chkOf anc all y with
  | nil=>exact .inl rfl
  | cons z r =>
   have:z∈chkOf anc all y:=by rw[h];simp
   obtain⟨q,hq,rfl⟩:=List.mem_map.1 this;exact .inr (softP_reads (List.mem_filter.1 hq).2).2
def sfOf (anc:List (List Nat))(all:List (Nat×DI×Option Nat))(i:Nat):Bool:=all.any λz=>Nat.beq z.1 i && isSoft anc all z
theorem pairsOK_ids {anc:List (List Nat)}{all:List (Nat×DI×Option Nat)}:∀{rows:List (Nat×DI×Option Nat)},pairsOK anc all rows=true->rows.Pairwise λx y=>x.1≠y.1
 | [],_=>.nil
 | x::r,h=>by
  simp only[pairsOK,bA]at h;refine .cons (λy hy=>?_) (pairsOK_ids h.2.2);have:=List.all_eq_true.1 h.1 y hy;simp only[bA,Bool.not_eq_true']at this;intro e;rw[e,Nat.beq_refl]at this;cases this.1
theorem ids_inj {rows:List (Nat×DI×Option Nat)}(h:rows.Pairwise λx y=>x.1≠y.1):∀{x y},x∈rows->y∈rows->x.1=y.1->x=y:=by
 induction h with
 | nil=>intro x y hx;cases hx
 | @cons a l h1 _ ih =>
  intro x y hx hy e;rcases List.mem_cons.1 hx with hxa | hxl
  ·rcases List.mem_cons.1 hy with hya | hyl
   ·rw[hxa,hya]
   ·rw[hxa]at e;exact absurd e (h1 y hyl)
  ·rcases List.mem_cons.1 hy with hya | hyl
   ·rw[hya]at e;exact absurd e.symm (h1 x hxl)
   ·exact ih hxl hyl e
theorem pairsOK_get {anc:List (List Nat)}{all:List (Nat×DI×Option Nat)}(hids:all.Pairwise λx y=>x.1≠y.1):∀{rows:List (Nat×DI×Option Nat)},(∀x∈rows,x∈all)->pairsOK anc all rows=true ->
  (rows.Pairwise λx y=>x.1≠y.1/\(x.1∈anc.getD y.1 []\/clash x.2 y.2=false\/(softC x.2 y.2=true/\x.2∈chkOf anc all y/\sfOf anc all x.1=true))/\(sfOf anc all x.1=true->meets (writesI y.2) (readsI x.2++writesI x.2)=false)) /\
  ∀x∈rows,sfOf anc all x.1=true->meets (writesI x.2) (readsI x.2)=false
 | [],_,_=>⟨.nil,λx hx=>by cases hx⟩
 | x::r,hin,h=>by
  simp only[pairsOK,bA]at h;obtain⟨ih1,ih2⟩:=pairsOK_get hids (rows:=r) (λy hy=>hin y (by simp[hy])) h.2.2;have hsx:sfOf anc all x.1=true->isSoft anc all x=true:=λhs=>by
   obtain⟨z,hz,hz2⟩:=List.any_eq_true.1 hs;simp only[bA]at hz2;have:=ids_inj hids hz (hin x (by simp)) (bE hz2.1);subst this;exact hz2.2
  refine⟨.cons (λy hy=>?_) ih1,λz hz hs=>?_⟩
  ·have:=List.all_eq_true.1 h.1 y hy;simp only[bA,Bool.not_eq_true',Bool.or_eq_true]at this;obtain⟨t1,t2,t3⟩:=this;refine⟨λe=>?_,?_,λhs=>?_⟩
   ·rw[e,Nat.beq_refl]at t1;cases t1
   ·by_cases hA:(anc.getD y.1 []).any (Nat.beq x.1)=true
    ·obtain⟨z,hz,hz2⟩:=List.any_eq_true.1 hA;have:=bE hz2;subst this;exact .inl hz
    ·rcases t2 with h | h | h
     ·exact absurd h hA
     ·exact .inr (.inl h)
     ·have hP:softP anc x y=true:=h;have h:softC x.2 y.2=true:=by
       unfold softP at h;simp only[bA]at h;exact h.2.2
      refine .inr (.inr ⟨h,?_,?_⟩)
      ·exact List.mem_map.2 ⟨x,List.mem_filter.2 ⟨hin x (by simp),hP⟩,rfl⟩
      ·refine List.any_eq_true.2 ⟨x,hin x (by simp),?_⟩;simp only[Nat.beq_refl,Bool.true_and];exact List.any_eq_true.2 ⟨y,hin y (by simp[hy]),hP⟩
   ·rcases t3 with h | h
    ·rw[hsx hs]at h;cases h
    ·exact h
  ·rcases List.mem_cons.1 hz with rfl | hz
   ·have:=h.2.1;simp only[Bool.or_eq_true,Bool.not_eq_true']at this;rcases this with h | h
    ·rw[hsx hs]at h;cases h
    ·exact h
   ·exact ih2 z hz hs
theorem keepE_eqv {e e':Env}(h:Eqv e e'):∀ks,keepE e ks=keepE e' ks
 | []=>rfl
 | k::ks=>by simp only[keepE,h.lk k,keepE_eqv h ks]
theorem Sd.drw {N:Lim}{id:Nat}{ops:Array Oper}{locs:List Nat}{is:List DI}{anc:List (List Nat)}{ls:List (Option Nat)}{rows:List (Nat×DI×Option Nat)}(hm:P.follows .mixedOrders=true)
  (h:prepIs P N locs false ops ops.toList=some is) (ha:ancs 0 ops.toList []=some anc) (hr:canonRows (zipL is ls) anc=some rows) (ks:List Nat):Sd P gt N (.region id ops true) (.drw (rows.map λp=>(p.2,chkOf anc rows p)) ks):=by
 intro O S G w env a QD hpi hN hg hw;refine wp_mono (Q:=Qc P gt O λe env S=>QD e (keepE env ks) S) (wp_region_any hm ?_) (Qc.mono λS G w env a e g q=>⟨_,g.keepE ks,q⟩);have hg':Good P gt O S G { w with drawn:=w.drawn+1 } env a:=hg.step (Tr.gr hg.inv (Gr.drew w _));generalize { w with drawn:=w.drawn+1 }=w' at hg';obtain⟨hlen,hget⟩:=prepIs_get h;unfold canonRows at hr;split at hr
 ·rename_i rows' hpick;split at hr
  ·rename_i hok;simp only[oI]at hr;subst hr;unfold drwOK at hok;simp only[bA]at hok;obtain⟨k1,k2,k3⟩:=hok;have hzl:(zipL is ls).length=ops.size:=by rw[zipL_length,hlen];simp
   rw[hzl]at k1 k3;have k1:=bL k1;obtain⟨j1,j2⟩:=pairsOK_get (pairsOK_ids k2) (λx hx=>hx) k2
   let B:Nat->List Nat:=λi=>match ops[i]? with
    | some o=>bindOn o
    | none=>[]
   have hB:∀(i:Nat) (o:Oper),ops[i]? = some o->B i=bindOn o:=λi o ho=>by simp only[B,ho]
   obtain⟨a1,a2⟩:=ancs_ok (B:=B) ops.toList 0 [] anc ha rfl (λk l hk=>by simp at hk) (λm o hm=>by
    rw[Nat.zero_add];exact hB m o (by simpa using hm))
   refine drw_any (locs:=locs) (sf:=sfOf anc rows') (QD:=λe env S=>QD e (keepE env ks) S) hN hB (λi o ho j hj=>by simpa using a1 i o (by simpa using ho) j hj) a2 (λv S e e' hq=>hpi v S _ _ hq) (λS e e' he hq=>by
    rw[<-keepE_eqv he ks];exact hq) ops.size (Array.replicate ops.size false) (rows'.map λp=>(p.1,p.2,chkOf anc rows' p)) env S G w' a (by simpa using k1) (by simp) (λp hp=>?_) (λi hi _=>?_) (λp hp=>?_) ?_ (λi o ho hl=>?_) hg' (by rw[List.map_map];exact hw)
   ·obtain⟨q,hq,rfl⟩:=List.mem_map.1 hp;have h1:=pickRows_get hpick q hq;have h2:=(List.getElem?_eq_some_iff.1 h1).1;rw[hzl]at h2;simp[Array.getD_eq_getD_getElem?,h2]
   ·have:=List.all_eq_true.1 k3 i (List.mem_range.2 hi);obtain⟨p,hp,hpe⟩:=List.any_eq_true.1 this;exact⟨_,List.mem_map.2 ⟨p,hp,rfl⟩,bE hpe⟩
   ·obtain⟨q,hq,rfl⟩:=List.mem_map.1 hp;refine⟨⟨chk_reads.1,chk_reads.2,λhs=>j2 q hq hs⟩,?_⟩;have h1:=zipL_get (pickRows_get hpick q hq);obtain⟨o,ho,hpr⟩:=hget q.1 q.2.1 h1;exact⟨o,by simpa using ho,hpr⟩
   ·exact List.pairwise_map.2 j1
   ·have hi:i<ops.size:=(Array.getElem?_eq_some_iff.1 ho).1;simp[Array.getD_eq_getD_getElem?,hi]at hl
  ·cases hr
 ·cases hr
end

section
variable {P:Program}{gt:GT}{O:Orig}
theorem list4 {α:Type}{l:List α}(h:l.length=4):∃a b c d,l=[a,b,c,d]:=by
 rcases l with _ | ⟨a,_ | ⟨b,_ | ⟨c,_ | ⟨d,_ | ⟨e,l⟩⟩⟩⟩⟩<;>simp at h
 exact⟨a,b,c,d,rfl⟩
theorem Sd.ndet {N:Lim}{id:Nat}{ops:Array Oper}{locs:List Nat}{is:List DI}(hm:P.follows .mixedOrders=true)(hnd:ndetP ops=true)(h:prepIs P N locs true ops ops.toList=some is)(ks:List Nat):Sd P gt N (.region id ops true) (.ndet is ks):=by
 intro O S G w env a QD hpi hN hg hw;refine wp_mono (Q:=Qc P gt O λe env S=>QD e (keepE env ks) S) (wp_region_any hm ?_) (Qc.mono λS G w env a e g q=>⟨_,g.keepE ks,q⟩);have hg':Good P gt O S G { w with drawn:=w.drawn+1 } env a:=hg.step (Tr.gr hg.inv (Gr.drew w _));generalize { w with drawn:=w.drawn+1 }=w' at hg';unfold ndetP at hnd;split at hnd
 ·rename_i oa ob oc od hops;obtain⟨hlen,hget⟩:=prepIs_get h;rw[hops]at hlen hget;obtain⟨ia,ib,ic,id',rfl⟩:=list4 hlen;have hsz:ops.size=4:=by rw[<-Array.length_toList,hops];rfl
  have g0:ops[0]? = some oa:=by rw[<-Array.getElem?_toList,hops];rfl
  have g1:ops[1]? = some ob:=by rw[<-Array.getElem?_toList,hops];rfl
  have g2:ops[2]? = some oc:=by rw[<-Array.getElem?_toList,hops];rfl
  have g3:ops[3]? = some od:=by rw[<-Array.getElem?_toList,hops];rfl
  obtain⟨_,e0,p0⟩:=hget 0 ia rfl;obtain⟨_,e1,p1⟩:=hget 1 ib rfl;obtain⟨_,e2,p2⟩:=hget 2 ic rfl;obtain⟨_,e3,p3⟩:=hget 3 id' rfl;simp at e0 e1 e2 e3;subst e0;subst e1;subst e2;subst e3;split at hnd
  ·simp only[bA,Bool.not_eq_true',List.isEmpty_iff,List.isEmpty_eq_false_iff]at hnd;obtain⟨⟨⟨⟨⟨⟨⟨ha,hb⟩,hb0⟩,hc⟩,hc0⟩,hd1⟩,hd2⟩,hd3⟩:=hnd;have all_of:∀(o:Oper) (L:Nat->Bool),(o.after.all λe=>!Region.binds .any e || L e.on)=(bindOn o).all L:=λo L=>by
    unfold bindOn;rw[<-Array.all_toList,List.all_map,List.all_filter]
    congr 1
   have hready:∀L:Array Bool,Region.ready .any ops L=(List.range 4).filter λi=>!L.getD i true && (match i with | 0=>(bindOn oa).all (L.getD · false) | 1=>(bindOn ob).all (L.getD · false) | 2=>(bindOn oc).all (L.getD · false) | 3=>(bindOn od).all (L.getD · false) | _=>false):=λL=>by
    unfold Region.ready;rw[hsz];apply List.filter_congr
    intro i hi;have hi4:i<4:=List.mem_range.1 hi
    congr 1
    match i,hi4 with
    | 0,_=>rw[g0];exact all_of oa (L.getD · false)
    | 1,_=>rw[g1];exact all_of ob (L.getD · false)
    | 2,_=>rw[g2];exact all_of oc (L.getD · false)
    | 3,_=>rw[g3];exact all_of od (L.getD · false)
   have all0:∀{l:List Nat} {L:Array Bool},l.all (Nat.beq 0)=true->l≠[]->l.all (L.getD · false)=L.getD 0 false:=λ{l L} h1 h2=>by
    have he:∀x∈l,x=0:=λx hx=>(bE (List.all_eq_true.1 h1 x hx)).symm;cases hL:L.getD 0 false with
    | true=>exact List.all_eq_true.2 λx hx=>by rw[he x hx];exact hL
    | false =>
     cases l with
     | nil=>exact absurd rfl h2
     | cons x l=>rw[List.all_cons,he x (by simp),hL];rfl
   have hd_no:∀{L:Array Bool},(L.getD 1 false=false\/L.getD 2 false=false)->(bindOn od).all (L.getD · false)=false:=λ{L} hh=>by
    rw[Bool.eq_false_iff];intro hall;have hall:=List.all_eq_true.1 hall;obtain⟨x,hx,hx1⟩:=List.any_eq_true.1 hd1;obtain⟨y,hy,hy1⟩:=List.any_eq_true.1 hd2;have hx1:=bE hx1;have hy1:=bE hy1;subst hx1;subst hy1;rcases hh with hh | hh
    ·have:=hall _ hx;rw[hh]at this;cases this
    ·have:=hall _ hy;rw[hh]at this;cases this
   have hd_yes:∀{L:Array Bool},L.getD 0 false=true->L.getD 1 false=true->L.getD 2 false=true->(bindOn od).all (L.getD · false)=true:=λ{L} h0 h1 h2=>by
    refine List.all_eq_true.2 λx hx=>?_;have:=bL (List.all_eq_true.1 hd3 x hx)
    match x,this with
    | 0,_=>exact h0
    | 1,_=>exact h1
    | 2,_=>exact h2
   have rdy:∀b0 b1 b2 b3:Bool,Region.ready .any ops #[b0,b1,b2,b3]=[0,1,2,3].filter λi=>!(#[b0,b1,b2,b3]:Array Bool).getD i true && (match i with | 0=>true | 1=>b0 | 2=>b0 | 3=>(bindOn od).all ((#[b0,b1,b2,b3]:Array Bool).getD · false) | _=>false):=λb0 b1 b2 b3=>by
    rw[hready];show List.filter _ [0,1,2,3]=_;apply List.filter_congr
    intro i hi
    congr 1
    match i with
    | 0=>simp[ha]
    | 1=>exact all0 hb hb0
    | 2=>exact all0 hc hc0
    | 3=>rfl
    | i+4=>rfl
   have r0:Region.ready .any ops #[false,false,false,false]=[0]:=by
    have hf:=hd_no (L:=#[false,false,false,false]) (.inl rfl);rw[rdy];simp only[hf];rfl
   have r1:Region.ready .any ops #[true,false,false,false]=[1,2]:=by
    have hf:=hd_no (L:=#[true,false,false,false]) (.inl rfl);rw[rdy];simp only[hf];rfl
   have r2:Region.ready .any ops #[true,true,false,false]=[2]:=by
    have hf:=hd_no (L:=#[true,true,false,false]) (.inr rfl);rw[rdy];simp only[hf];rfl
   have r2':Region.ready .any ops #[true,false,true,false]=[1]:=by
    have hf:=hd_no (L:=#[true,false,true,false]) (.inl rfl);rw[rdy];simp only[hf];rfl
   have r3:Region.ready .any ops #[true,true,true,false]=[3]:=by
    have hf:=hd_yes (L:=#[true,true,true,false]) rfl rfl rfl;rw[rdy];simp only[hf];rfl
   have r4:Region.ready .any ops #[true,true,true,true]=[]:=by rw[rdy];rfl
   rw[hsz];show wpAny P .any ops _ 4 #[false,false,false,false] a w';simp only[wpD]at hw;have fin:∀S G w env a,Good P gt O S G w env a->QD .normal (keepE env ks) S->wpAny P .any ops (Qc P gt O λe env S=>QD e (keepE env ks) S) 0 #[true,true,true,true] a w:=λS G w env a hg hq=>⟨r4,⟨_,S,G,hg,hq⟩⟩
   have l3:∀S G w env a,Good P gt O S G w env a->afterS (AC P gt) id'.dst env S (λenv' S'=>QD .normal (keepE env' ks) S') (λe env S=>QD e (keepE env ks) S) (stepI gt id' env S) ->
     wpAny P .any ops (Qc P gt O λe env S=>QD e (keepE env ks) S) 1 #[true,true,true,false] a w:=λS G w env a hg hq=>by
    refine⟨λe=>(by rw[r3]at e;cases e),λi hi=>?_⟩;rw[r3]at hi;simp only[List.mem_singleton]at hi;subst hi;exact wpOp_row hN g3 p3 hg hq λenv' S' G' w' a' g q=>fin _ _ _ _ _ g q
   refine⟨λe=>(by rw[r0]at e;cases e),λi hi=>?_⟩;rw[r0]at hi;simp only[List.mem_singleton]at hi;subst hi;refine wpOp_row hN g0 p0 hg' hw λenv1 S1 G1 w1 a1 hg1 q1=>?_;obtain⟨q1,q2⟩:=q1;simp only[wpIs]at q1 q2;refine⟨λe=>(by rw[show (#[false,false,false,false]:Array Bool).setIfInBounds 0 true = #[true,false,false,false] from rfl,r1]at e;cases e),λi hi=>?_⟩;rw[show (#[false,false,false,false]:Array Bool).setIfInBounds 0 true = #[true,false,false,false] from rfl,r1]at hi;simp only[List.mem_cons,List.not_mem_nil,or_false]at hi;rcases hi with hi | hi
   ·subst hi;refine wpOp_row hN g1 p1 hg1 q1 λenv2 S2 G2 w2 a2 hg2 q2=>?_;refine⟨λe=>(by rw[show ((#[false,false,false,false]:Array Bool).setIfInBounds 0 true).setIfInBounds 1 true = #[true,true,false,false] from rfl,r2]at e;cases e),λi hi=>?_⟩;rw[show ((#[false,false,false,false]:Array Bool).setIfInBounds 0 true).setIfInBounds 1 true = #[true,true,false,false] from rfl,r2]at hi;simp only[List.mem_singleton]at hi;subst hi;exact wpOp_row hN g2 p2 hg2 q2 λenv3 S3 G3 w3 a3 hg3 q3=>l3 _ _ _ _ _ hg3 q3
   ·subst hi;refine wpOp_row hN g2 p2 hg1 q2 λenv2 S2 G2 w2 a2 hg2 q2=>?_;refine⟨λe=>(by rw[show ((#[false,false,false,false]:Array Bool).setIfInBounds 0 true).setIfInBounds 2 true = #[true,false,true,false] from rfl,r2']at e;cases e),λi hi=>?_⟩;rw[show ((#[false,false,false,false]:Array Bool).setIfInBounds 0 true).setIfInBounds 2 true = #[true,false,true,false] from rfl,r2']at hi;simp only[List.mem_singleton]at hi;subst hi;exact wpOp_row hN g1 p1 hg2 q2 λenv3 S3 G3 w3 a3 hg3 q3=>l3 _ _ _ _ _ hg3 q3
  ·cases hnd
 ·cases hnd
theorem prepC_block {N:Lim}{n:Note}{id:Nat}{c:Code}(h:∀c',c≠.loop c'):prepC P N n (.block id c)=(prepC P N n c).map (.blk id):=by
 cases c<;>first | rfl | exact absurd rfl (h _)
theorem Sd.fail {N:Lim}{c:Code}:Sd P gt N c .fail:=λO S G w env a QD hpi hN hg hw=>hw.elim
theorem prepC_sound2 (hm:P.follows .mixedOrders=true){N:Lim}{n:Note}(c:Code):(∀{D:DC},prepC P N n c=some D->Sd P gt N c D)/\∀c',c=.loop c'->∀{D:DC},prepC P N n c'=some D->Sd P gt N c' D:=by
 induction c with
 | skip =>
  refine⟨λh=>?_,λc' e=>by cases e⟩;simp only[prepC,oI]at h;subst h;intro O S G w env a QD hpi hN hg hw;exact wp_skip ⟨env,S,G,hg,hw⟩
 | region id ops draw =>
  refine⟨λh=>?_,λc' e=>by cases e⟩;cases draw with
  | false =>
   simp only[prepC]at h;split at h
   ·rename_i is his;simp only[oI]at h;subst h;exact Sd.reg his _
   ·simp only[oI]at h;subst h;exact Sd.fail
  | true =>
   simp only[prepC]at h;split at h
   ·rename_i hnd;split at h
    ·rename_i is his;simp only[oI]at h;subst h;exact Sd.ndet hm hnd his _
    ·simp only[oI]at h;subst h;exact Sd.fail
   ·split at h
    ·rename_i is anc his hanc;split at h
     ·rename_i rows hr;simp only[oI]at h;subst h;exact Sd.drw hm his hanc hr _
     ·simp only[oI]at h;subst h;exact Sd.fail
    ·simp only[oI]at h;subst h;exact Sd.fail
 | seq a b iha ihb =>
  refine⟨λh=>?_,λc' e=>by cases e⟩;simp only[prepC]at h;split at h
  ·rename_i da db ha hb;simp only[oI]at h;subst h;exact(iha.1 ha).seq (ihb.1 hb)
  ·cases h
 | cond x a b iha ihb =>
  refine⟨λh=>?_,λc' e=>by cases e⟩;simp only[prepC]at h;split at h
  ·rename_i dx da db hx ha hb;simp only[oI]at h;subst h;exact Sd.cond hx (iha.1 ha) (ihb.1 hb)
  ·cases h
 | block id c ih =>
  refine⟨λh=>?_,λc' e=>by cases e⟩;by_cases hl:∃c',c=.loop c'
  ·obtain⟨c',rfl⟩:=hl;simp only[prepC]at h;obtain⟨d,hd,rfl⟩:=map_some' h;exact((((ih.2 c' rfl hd).trim _).loop).trim0 _).block id
  ·rw[prepC_block (λc' e=>hl ⟨c',e⟩)]at h;obtain⟨d,hd,rfl⟩:=map_some' h;exact(ih.1 hd).block id
 | loop c ih =>
  refine⟨λh=>?_,λc' e=>by cases e;exact ih.1⟩;simp only[prepC]at h;obtain⟨d,hd,rfl⟩:=map_some' h;exact(ih.1 hd).loop
 | exit id =>
  refine⟨λh=>?_,λc' e=>by cases e⟩;simp only[prepC,oI]at h;subst h;intro O S G w env a QD hpi hN hg hw;exact wp_exit ⟨env,S,G,hg,hw⟩
 | ret =>
  refine⟨λh=>?_,λc' e=>by cases e⟩;simp only[prepC,oI]at h;subst h;intro O S G w env a QD hpi hN hg hw;exact wp_ret ⟨env,S,G,hg,hw⟩
 | _ =>
  refine⟨λh=>?_,λc' e=>by cases e⟩;simp only[prepC,oI]at h;subst h;exact Sd.fail
theorem prepC_sound (hm:P.follows .mixedOrders=true){N:Lim}{n:Note}{c:Code}{D:DC}(h:prepC P N n c=some D):Sd P gt N c D:=(prepC_sound2 hm c).1 h
end
end Go.Dn
