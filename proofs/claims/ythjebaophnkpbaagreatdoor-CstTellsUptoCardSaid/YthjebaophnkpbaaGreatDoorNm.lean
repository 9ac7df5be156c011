/- What a function holds in the store: slices that grow, maps, variables; each apart from the others. The walk of what needs no thought, as a lemma that a tactic of its own serves. Trees as pure data; the reference's Size, Copy, Plain; the program's Copy. Trees: the reference's Copy and Plain, the program's Copy. Trees: the reference's Plain; the program's Copy. Nodes as pure data; size, the two Copies. Nodes: the reference's Same; the Kid to which a step leads. Arrays that are made and written in place. Steps as pure data; lists of them: Same, Roomy, Intact. Nodes: the Kid to which a step leads. Nodes: their bytes: by pieces handed out, and by bytes behind others. A list of values that is made for one append. Bytes as lists. Nodes: bytes behind others; the nodes to which paths lead. Nodes: the node to which a path leads, by the program and by the reference. The law CstFinds, walked. The entry, with the bulk of what is read; slices as pure data. The entry of chapter 4's laws: what is read, as nodes; that they are right where little is read. The entry of chapter 4's laws: steps; how great what is read is. Trees: a copy whose lists are one's own, and may be written. Trees: the part to which a path leads, and the tree with it replaced: what they are; the program's Get and Set. Trees: what is set is got, and what lies apart stays. Texts of characters: by the program and by the reference. Numbers: what a text begins with; its digits; a literal's pieces. Numbers: a literal's pieces, by the program. Numbers: the exponent; a literal's parts. Numbers: a number's normal form. Times: two digits; the days of a month. Times: dates. Times: times of a day. -/
import Derived.Test.YthjebaophnkpbaaGreatDoorProg
import Derived.Test.YthjebaophnkpbaaGreatDoorNl
set_option linter.unusedSimpArgs false
set_option linter.unusedVariables false
namespace Go.Dn
open Go Go.RowKit
inductive Rs where
 | gr (ty:TypeId) (o:SI) (xs:List AV)
 | mp (id:Nat) (es:List (AV×AV))
 | bx (id:Nat) (ty:TypeId) (cs:List AV)
 | mk (t l b:Nat)
def RsOK (S:St):Rs→Prop
 |.gr ty o xs=>(o.tok=none∧o.off=0∧o.cap=some 0∧xs=[])∨∃t l,o=⟨some (t,l),0,none,false⟩∧t<S.nt∧l<S.nt∧lk S.tip t=some (some (xs.length,ty,false))∧lk S.mv t=none∧lk S.dl l=none
 |.mp id es=>id<S.nm∧lk S.maps id=some es
 |.bx id ty cs=>id<S.nb∧lk S.boxes id=some (some (ty,cs))
 |.mk t l b=>t<S.nt∧l<S.nt∧lk S.mv t=some (.bx b 0)
def RsDj:Rs→Rs→Prop
 |.gr _ o _,.gr _ o' _=>∀t l t' l',o.tok=some (t,l)→o'.tok=some (t',l')→t≠t'∧l≠l'
 |.mp i _,.mp j _=>i≠j
 |.bx i _ _,.bx j _ _=>i≠j
 | _,_=>True
theorem RsDj.symm:∀{a b:Rs},RsDj a b→RsDj b a
 |.gr ..,.gr ..,h=>fun t l t' l' e e'=>⟨fun q=>(h t' l' t l e' e).1 q.symm,fun q=>(h t' l' t l e' e).2 q.symm⟩
 |.mp ..,.mp ..,h=>fun q=>h q.symm
 |.bx ..,.bx ..,h=>fun q=>h q.symm
 |.gr ..,.mp ..,_ |.gr ..,.bx ..,_ |.gr ..,.mk ..,_ |.mp ..,.gr ..,_ |.mp ..,.bx ..,_ |.mp ..,.mk ..,_
 |.bx ..,.gr ..,_ |.bx ..,.mp ..,_ |.bx ..,.mk ..,_ |.mk ..,.gr ..,_ |.mk ..,.mp ..,_ |.mk ..,.bx ..,_ |.mk ..,.mk ..,_=>trivial
structure Hs (S:St) (R:List Rs):Prop where
 wf:Wf S
 ok:∀(i:Nat) (r:Rs),R[i]? = some r→RsOK S r
 dj:∀(i j:Nat) (r s:Rs),i≠j→R[i]? = some r→R[j]? = some s→RsDj r s
theorem Hs.nil {S:St} (h:Wf S):Hs S []:=⟨h,fun i r h=>by simp at h,fun i j r s _ h=>by simp at h⟩
theorem Hs.init:Hs St.init []:=Hs.nil fun _ _=>⟨rfl,rfl⟩
structure Chg (S S':St) (T L M B:Nat→Prop):Prop where
 nt:S.nt≤S'.nt
 nb:S.nb≤S'.nb
 nm:S.nm≤S'.nm
 tip:∀t,t<S.nt→¬T t→lk S'.tip t=lk S.tip t∧lk S'.mv t=lk S.mv t
 dl:∀l,l<S.nt→¬L l→lk S'.dl l=lk S.dl l
 mv:∀t m,t<S.nt→lk S.mv t=some m→lk S'.mv t=some m
 maps:∀i,i<S.nm→¬M i→lk S'.maps i=lk S.maps i
 boxes:∀i,i<S.nb→¬B i→lk S'.boxes i=lk S.boxes i
def Rs.off (T L M B:Nat→Prop):Rs→Prop
 |.gr _ o _=>∀t l,o.tok=some (t,l)→¬T t∧¬L l
 |.mp id _=>¬M id
 |.bx id _ _=>¬B id
 |.mk _ _ _=>True
theorem RsOK.chg {S S':St} {T L M B:Nat→Prop} (hc:Chg S S' T L M B):∀{r:Rs},RsOK S r→r.off T L M B→RsOK S' r
 |.gr ty o xs,h,ho=>by
  rcases h with h | ⟨t,l,rfl,h1,h2,h3,h4,h5⟩
  ·exact .inl h
  ·obtain⟨g1,g2⟩:=ho t l rfl
   obtain⟨e1,e2⟩:=hc.tip t h1 g1
   exact .inr ⟨t,l,rfl,Nat.lt_of_lt_of_le h1 hc.nt,Nat.lt_of_lt_of_le h2 hc.nt,by rw [e1];exact h3,by rw [e2];exact h4,by rw [hc.dl l h2 g2];exact h5⟩
 |.mp id es,h,ho=>⟨Nat.lt_of_lt_of_le h.1 hc.nm,by rw [hc.maps id h.1 ho];exact h.2⟩
 |.bx id ty cs,h,ho=>⟨Nat.lt_of_lt_of_le h.1 hc.nb,by rw [hc.boxes id h.1 ho];exact h.2⟩
 |.mk t l b,h,_=>⟨Nat.lt_of_lt_of_le h.1 hc.nt,Nat.lt_of_lt_of_le h.2.1 hc.nt,hc.mv t _ h.1 h.2.2⟩
theorem set_get {α:Type} {R:List α} {i j:Nat} {x y:α} (h:(R.set i x)[j]? = some y):(j=i∧y=x)∨(j≠i∧R[j]? = some y):=by
 by_cases e:i=j
 ·subst e
  rw [List.getElem?_set_self'] at h
  cases hr:R[i]? with
  | none=>rw [hr] at h;cases h
  | some z=>rw [hr] at h;cases h;exact .inl ⟨rfl,rfl⟩
 ·rw [List.getElem?_set_ne e] at h;exact .inr ⟨fun q=>e q.symm,h⟩
theorem Hs.turn {S S':St} {R:List Rs} {T L M B:Nat→Prop} (h:Hs S R) (hw:Wf S') (hc:Chg S S' T L M B) {i:Nat} {r':Rs}
  (hoff:∀(j:Nat) (s:Rs),j≠i→R[j]? = some s→s.off T L M B) (hr:RsOK S' r') (hd:∀(j:Nat) (s:Rs),j≠i→R[j]? = some s→RsDj r' s):Hs S' (R.set i r') where
 wf:=hw
 ok j s hs:=by
  rcases set_get hs with⟨_,rfl⟩ | ⟨e,hs⟩
  ·exact hr
  ·exact (h.ok j s hs).chg hc (hoff j s e hs)
 dj j k r s hjk hj hk:=by
  rcases set_get hj with⟨rfl,rfl⟩ | ⟨e,hj2⟩
  ·rcases set_get hk with⟨e,rfl⟩ | ⟨e,hk2⟩
   ·exact absurd e.symm hjk
   ·exact hd k s e hk2
  ·rcases set_get hk with⟨e',rfl⟩ | ⟨e',hk2⟩
   ·exact (hd j r e hj2).symm
   ·exact h.dj j k r s hjk hj2 hk2
theorem Hs.more {S S':St} {R:List Rs} (h:Hs S R) (hw:Wf S') (hc:Chg S S' (fun _=>False) (fun _=>False) (fun _=>False) (fun _=>False)) {r':Rs}
  (hr:RsOK S' r') (hd:∀(j:Nat) (s:Rs),R[j]? = some s→RsDj r' s):Hs S' (R++[r']) where
 wf:=hw
 ok j s hs:=by
  rcases Nat.lt_or_ge j R.length with hj | hj
  ·rw [List.getElem?_append_left hj] at hs
   refine (h.ok j s hs).chg hc ?_
   cases s<;>simp [Rs.off]
  ·rw [List.getElem?_append_right hj] at hs
   have:j-R.length=0:=by
    rcases Nat.eq_zero_or_pos (j-R.length) with e | e
    ·exact e
    ·rw [List.getElem?_eq_none (by simp;omega)] at hs;cases hs
   rw [this] at hs
   cases hs
   exact hr
 dj j k r s hjk hj hk:=by
  have key:∀{j:Nat} {s:Rs},(R++[r'])[j]? = some s→(R[j]? = some s)∨(j=R.length∧s=r'):=fun {j s} hs=>by
   rcases Nat.lt_or_ge j R.length with hj | hj
   ·rw [List.getElem?_append_left hj] at hs;exact .inl hs
   ·rw [List.getElem?_append_right hj] at hs
    have:j-R.length=0:=by
     rcases Nat.eq_zero_or_pos (j-R.length) with e | e
     ·exact e
     ·rw [List.getElem?_eq_none (by simp;omega)] at hs;cases hs
    rw [this] at hs
    cases hs
    exact .inr ⟨by omega,rfl⟩
  rcases key hj with hj2 | ⟨rfl,rfl⟩
  ·rcases key hk with hk2 | ⟨rfl,rfl⟩
   ·exact h.dj j k r s hjk hj2 hk2
   ·exact (hd j r hj2).symm
  ·rcases key hk with hk2 | ⟨rfl,rfl⟩
   ·exact hd k s hk2
   ·exact absurd rfl hjk
theorem Hs.less {S:St} {R R':List Rs} (h:Hs S R) (f:Nat→Nat) (hf:∀i j,i<R'.length→j<R'.length→f i=f j→i=j) (he:∀i,i<R'.length→R[f i]? = R'[i]?):Hs S R' where
 wf:=h.wf
 ok i r hi:=h.ok (f i) r (by rw [he i (List.getElem?_eq_some_iff.1 hi).1];exact hi)
 dj i j r s hij hi hj:=by
  have a:=(List.getElem?_eq_some_iff.1 hi).1
  have b:=(List.getElem?_eq_some_iff.1 hj).1
  exact h.dj (f i) (f j) r s (fun e=>hij (hf i j a b e)) (by rw [he i a];exact hi) (by rw [he j b];exact hj)
theorem Hs.addNil {S:St} {R:List Rs} (h:Hs S R) (ty:TypeId) (nl:Bool):Hs S (R++[.gr ty ⟨none,0,some 0,nl⟩ []]) :=
 h.more h.wf ⟨Nat.le_refl _,Nat.le_refl _,Nat.le_refl _,fun _ _ _=>⟨rfl,rfl⟩,fun _ _ _=>rfl,fun _ _ _ h=>h,fun _ _ _=>rfl,fun _ _ _=>rfl⟩ (.inl ⟨rfl,rfl,rfl,rfl⟩) fun j s _=>by
  cases s<;>simp [RsDj]
theorem RsOK.rd {S:St} {ty:TypeId} {o:SI} {xs:List AV} (h:RsOK S (.gr ty o xs)):rd S o=.here:=by
 rcases h with⟨h,_⟩ | ⟨t,l,rfl,_,_,_,h3,h4⟩
 ·exact rd_none h
 ·simp only [Dn.rd,h3,h4]
theorem RsOK.els {S:St} {ty:TypeId} {o:SI} {xs:List AV} (h:RsOK S (.gr ty o xs)) (agg:Bool) (es:Nat):elems S agg es o xs=some xs:=by
 simp only [elems,h.rd]
theorem Hs.rdo {S:St} {R:List Rs} (h:Hs S R) {i:Nat} {ty:TypeId} {o:SI} {xs us:List AV} {es:Nat} (hi:R[i]? = some (.gr ty o xs)) (hx:Rdos S us xs):Rdo S (.sl es stat us) (.sl es o xs):=by
 simp only [Rdo]
 exact⟨trivial,o,xs,true,xs,rfl,(h.ok i _ hi).els _ _,hx⟩
theorem hs_app {gt:GT} {d:Option Nat} {env:Env} {S:St} {R:List Rs} {agg:Bool} {ty:TypeId} {es bytes:Nat} {x y:DOpd} {o:SI} {xs ys:List AV} {yv:AV} (h:Hs S R) (i:Nat) (hi:R[i]? = some (.gr ty o xs))
  (hx:opd env x=some (.sl es o xs)) (hy:opd env y=some yv) (hys:srcE S agg es yv=some ys)
  (hb:(xs.length+ys.length)*bytes≤140737488355328) (hb2:xs.length+ys.length≤140737488355328) (hb3:bytes≤1048576) (hes:0<es) (hok:(ys.flatMap AV.cells).all ok1=true) :
  ∃o' S',stepO gt d env S (.app agg ty es bytes x y)=.done (putV d (.sl es o' (xs++ys)) env) S'∧Hs S' (R.set i (.gr ty o' (xs++ys))):=by
 have hg:=h.ok i _ hi
 have hel:elems S agg es o xs=some xs:=hg.els _ _
 have hset:∀z,R[i]? = some z→R.set i z=R:=fun z hz=>by
  apply List.ext_getElem?
  intro j
  by_cases e:i=j
  ·subst e
   rw [List.getElem?_set_self',hz];rfl
  ·rw [List.getElem?_set_ne e]
 cases ys with
 | nil =>
  refine⟨o,S,?_,by rw [List.append_nil,hset _ hi];exact h⟩
  simp only [stepO,hx,hy,appV,hys,hel,List.append_nil]
 | cons y ys =>
  have hguard:(Nat.beq es es && (Nat.ble ((xs.length+(y::ys).length)*bytes) 140737488355328 && (Nat.ble (xs.length+(y::ys).length) 140737488355328 && (Nat.ble bytes 1048576 && Nat.blt 0 es))))=true:=by
   rw [Nat.beq_refl,ble_true hb,ble_true hb2,ble_true hb3]
   simp only [Bool.true_and]
   exact Nat.ble_eq_true_of_le hes
  have hw:=h.wf S.nt (Nat.le_refl _)
  rcases hg with⟨h1,h2,h3,rfl⟩ | ⟨t,l,rfl,h1,h2,h5,h3,h4⟩
  ·refine⟨⟨some (S.nt,S.nt),0,none,false⟩,{ S with nt:=S.nt+1,tip:=(S.nt,some (([]:List AV).length+(y::ys).length,ty,false))::S.tip },?_,?_⟩
   ·have hz:Nat.ble (([]:List AV).length+(y::ys).length) 0=false:=by
     cases hq:Nat.ble (([]:List AV).length+(y::ys).length) 0 with
     | false=>rfl
     | true=>have:=Nat.le_of_ble_eq_true hq;simp at this
    simp only [stepO,hx,hy,appV,hys,hel,hguard,cond_true,h3,hz,cond_false]
   ·refine h.turn (S':={ S with nt:=S.nt+1,tip:=(S.nt,some (([]:List AV).length+(y::ys).length,ty,false))::S.tip }) (r':=.gr ty ⟨some (S.nt,S.nt),0,none,false⟩ ([]++y::ys)) (T:=fun _=>False) (L:=fun _=>False) (M:=fun _=>False) (B:=fun _=>False) (fun t ht=>h.wf t (by simp at ht;omega)) ⟨Nat.le_succ _,Nat.le_refl _,Nat.le_refl _,fun t ht _=>⟨lk_ne _ _ (by omega),rfl⟩,fun _ _ _=>rfl,fun _ _ _ h=>h,fun _ _ _=>rfl,fun _ _ _=>rfl⟩ (fun j s _ _=>by cases s<;>simp [Rs.off]) ?_ fun j s _ hs=>?_
    ·exact .inr ⟨S.nt,S.nt,rfl,Nat.lt_succ_self _,Nat.lt_succ_self _,by simp [lk_same],hw.1,hw.2⟩
    ·have hsk:=h.ok j s hs
     cases s with
     | gr ty2 o2 zs =>
      intro t l t2 l2 e e2
      cases e
      rcases hsk with⟨e3,_⟩ | ⟨t3,l3,rfl,b1,b2,_⟩
      ·rw [e3] at e2;cases e2
      ·cases e2;exact⟨by omega,by omega⟩
     | _=>trivial
  ·refine⟨⟨some (S.nt,l),0,none,false⟩,{ S with nt:=S.nt+1,tip:=(S.nt,some (xs.length+(y::ys).length,ty,false))::(t,none)::S.tip },?_,?_⟩
   ·have hrd:rd S ⟨some (t,l),0,none,false⟩=.here:=by simp only [rd,h3,h4]
    have hg2:(Nat.beq ty ty && (Nat.beq xs.length xs.length && (Nat.beq 0 0 && (Nat.ble l S.nt && ((y::ys).flatMap AV.cells).all ok1))))=true:=by
     rw [Nat.beq_refl,Nat.beq_refl,Nat.beq_refl,ble_true (by omega),hok];rfl
    simp only [stepO,hx,hy,appV,hys,hel,hguard,cond_true,hrd,h5,hg2]
   ·refine h.turn (S':={ S with nt:=S.nt+1,tip:=(S.nt,some (xs.length+(y::ys).length,ty,false))::(t,none)::S.tip }) (r':=.gr ty ⟨some (S.nt,l),0,none,false⟩ (xs++y::ys)) (T:=fun q=>q=t) (L:=fun _=>False) (M:=fun _=>False) (B:=fun _=>False) (fun t ht=>h.wf t (by simp at ht;omega)) ⟨Nat.le_succ _,Nat.le_refl _,Nat.le_refl _,fun q hq hne=>⟨by rw [lk_ne _ _ (by omega),lk_ne _ _ (fun e=>hne e.symm)],rfl⟩,fun _ _ _=>rfl,fun _ _ _ h=>h,fun _ _ _=>rfl,fun _ _ _=>rfl⟩ (fun j s hj hs=>?_) ?_ fun j s hj hs=>?_
    ·have hdj:=h.dj i j _ s (fun e=>hj e.symm) hi hs
     cases s with
     | gr ty2 o2 zs=>intro t2 l2 e2;exact⟨fun e=>(hdj t l t2 l2 rfl e2).1 e.symm,fun e=>e⟩
     | _=>simp [Rs.off]
    ·exact .inr ⟨S.nt,l,rfl,Nat.lt_succ_self _,Nat.lt_succ_of_lt h2,by simp [lk_same],hw.1,h4⟩
    ·have hsk:=h.ok j s hs
     have hdj:=h.dj i j _ s (fun e=>hj e.symm) hi hs
     cases s with
     | gr ty2 o2 zs =>
      intro t' l' t2 l2 e e2
      cases e
      rcases hsk with⟨e3,_⟩ | ⟨t3,l3,rfl,b1,b2,_⟩
      ·rw [e3] at e2;cases e2
      ·cases e2;exact⟨by omega,(hdj _ _ _ _ rfl rfl).2⟩
     | _=>trivial
theorem hs_mkm {gt:GT} {d:Option Nat} {env:Env} {S:St} {R:List Rs} (h:Hs S R) :
  ∃id S',stepO gt d env S .mkm=.done (putV d (.map id) env) S'∧Hs S' (R++[.mp id []]):=by
 refine⟨S.nm,{ S with nm:=S.nm+1,maps:=(S.nm,[])::S.maps },rfl,h.more (S':={ S with nm:=S.nm+1,maps:=(S.nm,[])::S.maps }) (r':=.mp S.nm []) (fun t ht=>h.wf t ht) ⟨Nat.le_refl _,Nat.le_refl _,Nat.le_succ _,fun _ _ _=>⟨rfl,rfl⟩,fun _ _ _=>rfl,fun _ _ _ h=>h,fun i hi _=>lk_ne _ _ (by omega),fun _ _ _=>rfl⟩ ⟨Nat.lt_succ_self _,lk_same _ _ _⟩ fun j s hs=>?_⟩
 have:=h.ok j s hs
 cases s with
 | mp i es=>intro e;have:=this.1;omega
 | _=>trivial
theorem Hs.mapTo {S:St} {R:List Rs} (h:Hs S R) {i:Nat} {id:Nat} {es:List (AV×AV)} (hi:R[i]? = some (.mp id es)) (es':List (AV×AV)):Hs { S with maps:=(id,es')::S.maps } (R.set i (.mp id es')):=by
 have hk:=h.ok i _ hi
 refine h.turn (S':={ S with maps:=(id,es')::S.maps }) (r':=.mp id es') (T:=fun _=>False) (L:=fun _=>False) (M:=fun q=>q=id) (B:=fun _=>False) (fun t ht=>h.wf t ht) ⟨Nat.le_refl _,Nat.le_refl _,Nat.le_refl _,fun _ _ _=>⟨rfl,rfl⟩,fun _ _ _=>rfl,fun _ _ _ h=>h,fun j hj hne=>lk_ne _ _ (fun e=>hne e.symm),fun _ _ _=>rfl⟩ (fun j s hj hs=>?_) ⟨hk.1,lk_same _ _ _⟩ fun j s hj hs=>?_
 ·have hdj:=h.dj i j _ s (fun e=>hj e.symm) hi hs
  cases s with
  | mp k es2=>exact fun e=>hdj e.symm
  | _=>simp [Rs.off]
 ·have hdj:=h.dj i j _ s (fun e=>hj e.symm) hi hs
  cases s with
  | mp k es2=>exact hdj
  | _=>trivial
theorem Hs.boxTo {S:St} {R:List Rs} (h:Hs S R) {i:Nat} {id:Nat} {ty:TypeId} {cs:List AV} (hi:R[i]? = some (.bx id ty cs)) (cs':List AV):Hs { S with boxes:=(id,some (ty,cs'))::S.boxes } (R.set i (.bx id ty cs')):=by
 have hk:=h.ok i _ hi
 refine h.turn (S':={ S with boxes:=(id,some (ty,cs'))::S.boxes }) (r':=.bx id ty cs') (T:=fun _=>False) (L:=fun _=>False) (M:=fun _=>False) (B:=fun q=>q=id) (fun t ht=>h.wf t ht) ⟨Nat.le_refl _,Nat.le_refl _,Nat.le_refl _,fun _ _ _=>⟨rfl,rfl⟩,fun _ _ _=>rfl,fun _ _ _ h=>h,fun _ _ _=>rfl,fun j hj hne=>lk_ne _ _ (fun e=>hne e.symm)⟩ (fun j s hj hs=>?_) ⟨hk.1,lk_same _ _ _⟩ fun j s hj hs=>?_
 ·have hdj:=h.dj i j _ s (fun e=>hj e.symm) hi hs
  cases s with
  | bx k ty2 es2=>exact fun e=>hdj e.symm
  | _=>simp [Rs.off]
 ·have hdj:=h.dj i j _ s (fun e=>hj e.symm) hi hs
  cases s with
  | bx k ty2 es2=>exact hdj
  | _=>trivial
theorem Hs.newBox {S:St} {R:List Rs} (h:Hs S R) (ty:TypeId) (cs:List AV):Hs { S with nb:=S.nb+1,boxes:=(S.nb,some (ty,cs))::S.boxes } (R++[.bx S.nb ty cs]) :=
 h.more (S':={ S with nb:=S.nb+1,boxes:=(S.nb,some (ty,cs))::S.boxes }) (r':=.bx S.nb ty cs) (fun t ht=>h.wf t ht) ⟨Nat.le_refl _,Nat.le_succ _,Nat.le_refl _,fun _ _ _=>⟨rfl,rfl⟩,fun _ _ _=>rfl,fun _ _ _ h=>h,fun _ _ _=>rfl,fun i hi _=>lk_ne _ _ (by omega)⟩ ⟨Nat.lt_succ_self _,lk_same _ _ _⟩ fun j s hs=>by
  have:=h.ok j s hs
  cases s with
  | bx i ty2 es=>intro e;have:=this.1;omega
  | _=>trivial
section
variable {gt:GT} {C:CallT}
theorem st_any {d:Option Nat} {op:DOp} {gd:Option (Nat×Bool)} {env env':Env} {S S':St} {K:Env→St→Prop} {Q:Ex→Env→St→Prop} (hg:Gd env gd) (h:stepO gt d env S op=.done env' S') (k:K env' S'):afterS C d env S K Q (stepI gt ⟨d,op,gd⟩ env S):=by
 rw [st_gd hg,h];exact k
theorem st_anyD {d:Option Nat} {op:DOp} {gd:Option (Nat×Bool)} {l:Option Nat} {env env':Env} {S S':St} {K:Env→St→Prop} {Q:Ex→Env→St→Prop} (hg:Gd env gd) (h0:isLoc op=false) (h1:conform l env op=true) (h:stepO gt d env S op=.done env' S') (k:K env' S'):afterS C d env S K Q (stepD gt (⟨d,op,gd⟩,l) env S):=by
 have:stepD gt (⟨d,op,gd⟩,l) env S=stepO gt d env S op:=by
  cases gd with
  | none=>simp only [stepD,stepDO,h0,h1,cond_false,cond_true]
  | some p =>
   obtain⟨g,w⟩:=p
   have hg:lk env g=some (.val (.bool w)):=hg
   simp only [stepD,stepDO,h0,h1,cond_false,cond_true,hg,beq_self_eq_true]
 rw [this,h];exact k
theorem r_app {d:Option Nat} {env:Env} {S:St} {R:List Rs} {agg:Bool} {ty:TypeId} {es bytes:Nat} {x y:DOpd} {o:SI} {xs ys:List AV} {yv:AV} {gd:Option (Nat×Bool)} {K:Env→St→Prop} {Q:Ex→Env→St→Prop} (h:Hs S R) (i:Nat) (hi:R[i]? = some (.gr ty o xs))
  (hg:Gd env gd) (hx:opd env x=some (.sl es o xs)) (hy:opd env y=some yv) (hys:srcE S agg es yv=some ys)
  (hb:(xs.length+ys.length)*bytes≤140737488355328) (hb2:xs.length+ys.length≤140737488355328) (hb3:bytes≤1048576) (hes:0<es) (hok:(ys.flatMap AV.cells).all ok1=true)
  (k:∀o' S',Hs S' (R.set i (.gr ty o' (xs++ys)))→K (putV d (.sl es o' (xs++ys)) env) S'):afterS C d env S K Q (stepI gt ⟨d,.app agg ty es bytes x y,gd⟩ env S):=by
 obtain⟨o',S',e,h'⟩:=hs_app (gt:=gt) (d:=d) h i hi hx hy hys hb hb2 hb3 hes hok
 exact st_any hg e (k o' S' h')
theorem r_appD {l:Option Nat} {d:Option Nat} {env:Env} {S:St} {R:List Rs} {agg:Bool} {ty:TypeId} {es bytes:Nat} {x y:DOpd} {o:SI} {xs ys:List AV} {yv:AV} {gd:Option (Nat×Bool)} {K:Env→St→Prop} {Q:Ex→Env→St→Prop} (h:Hs S R) (i:Nat) (hi:R[i]? = some (.gr ty o xs))
  (hg:Gd env gd) (hx:opd env x=some (.sl es o xs)) (hy:opd env y=some yv) (hys:srcE S agg es yv=some ys)
  (hb:(xs.length+ys.length)*bytes≤140737488355328) (hb2:xs.length+ys.length≤140737488355328) (hb3:bytes≤1048576) (hes:0<es) (hok:(ys.flatMap AV.cells).all ok1=true)
  (k:∀o' S',Hs S' (R.set i (.gr ty o' (xs++ys)))→K (putV d (.sl es o' (xs++ys)) env) S'):afterS C d env S K Q (stepD gt (⟨d,.app agg ty es bytes x y,gd⟩,l) env S):=by
 obtain⟨o',S',e,h'⟩:=hs_app (gt:=gt) (d:=d) h i hi hx hy hys hb hb2 hb3 hes hok
 exact st_anyD hg rfl rfl e (k o' S' h')
end
end Go.Dn
namespace Go.Dn
def isVB:Ent→Bool
 |.val _ |.box _=>true
 | _=>false
theorem keep_cons {env rest:Env} {k:Nat} {r:List Nat} {e:Ent} (h:lk env k=some e) (hv:isVB e=true) (hr:keepE env r=rest):keepE env (k::r)=(k,e)::rest:=by
 subst hr
 cases e<;>first | (simp only [keepE,h];done) | cases hv
end Go.Dn
namespace Go.Dn
theorem keep_intro {env l e0:Env} {ks:List Nat} {G:Prop} (h:keepE env ks=l) (k:l=e0→G):keepE env ks=e0→G:=fun h'=>k (h.symm.trans h')
end Go.Dn
namespace Go.Dn
theorem sI {gt:GT} {C:CallT} {i:DI} {env env':Env} {S S':St} {K:Env→St→Prop} {Q:Ex→Env→St→Prop} (h:stepI gt i env S=.done env' S') (k:K env' S'):afterS C i.dst env S K Q (stepI gt i env S):=step_rule h k
theorem sD {gt:GT} {C:CallT} {i:DI×Option Nat} {env env':Env} {S S':St} {A B:Env→St→Prop} {Q:Ex→Env→St→Prop} (h:stepD gt i env S=.done env' S') (a:A env' S') (k:B env' S'):afterS C i.1.dst env S (fun e s=>A e s∧B e s) Q (stepD gt i env S):=step_ruleD h ⟨a,k⟩
theorem kI {env l e0:Env} {ks:List Nat} {G:Prop} (h:keepE env ks=l) (k:l=e0→G):keepE env ks=e0→G:=keep_intro h k
theorem kN (env:Env):keepE env []=[]:=rfl
theorem kC {env rest:Env} {k:Nat} {r:List Nat} {e:Ent} (h:lk env k=some e) (hv:isVB e=true) (hr:keepE env r=rest):keepE env (k::r)=(k,e)::rest:=keep_cons h hv hr
end Go.Dn

namespace Go.Dn
open Go
theorem goW {G G':Prop} (k:G') (h:G'→G:=by
 intro hk;((try refine And.intro (by rfl) ?_);(conv=>whnf);repeat (first | (refine sI (by rfl) ?_;conv=>whnf) | (refine sD (by rfl) (by rfl) ?_;conv=>whnf) | (generalize hE:keepE _ _=e0;revert hE;apply kI;(repeat (first | exact kN _ | (apply kC;with_unfolding_all rfl;rfl)));rintro rfl;(conv=>whnf);conv=>whnf)));exact hk):G:=h k
theorem goK {G G':Prop} (k:G') (h:G'→G:=by
 intro hk;((try refine And.intro (by rfl) ?_);(conv=>whnf);repeat (refine sI (by rfl) ?_;conv=>whnf);(generalize hE:keepE _ _=e0;revert hE;apply kI;(repeat (first | exact kN _ | (apply kC;with_unfolding_all rfl;rfl)));rintro rfl));exact hk):G:=h k
end Go.Dn

namespace Go.Dn
open Go Go.Proofs.C1
set_option maxRecDepth 100000
attribute [local irreducible] afterS keepE
mutual
def encT:PT→AV
 |.mk k s keys kids=>.agg [.int .i64 k,.str s,.sl 1 stat (strs keys),.sl 4 stat (encTs kids)]
def encTs:List PT→List AV
 | []=>[]
 | t::r=>encT t::encTs r
end
theorem encTs_len:∀l:List PT,(encTs l).length=l.length
 | []=>rfl
 | t::r=>by simp [encTs,encTs_len r]
theorem encTs_get:∀{l:List PT} {i:Nat} (h:i<l.length),(encTs l)[i]? = some (encT l[i])
 | t::r,0,_=>rfl
 | t::r,i+1,h=>by simpa [encTs] using encTs_get (l:=r) (i:=i) (by simpa using h)
theorem encTs_app:∀a b:List PT,encTs (a++b)=encTs a++encTs b
 | [],b=>rfl
 | t::r,b=>by simp [encTs,encTs_app r b]
theorem sta_strs:∀l:List (List UInt8),Stas (strs l)
 | []=>trivial
 | a::r=>⟨trivial,sta_strs r⟩
mutual
theorem sta_T:∀t,Sta (encT t)
 |.mk k s keys kids=>by
  simp only [encT,Sta,Stas]
  exact⟨trivial,trivial,⟨trivial,sta_strs keys⟩,⟨trivial,sta_Ts kids⟩,trivial⟩
theorem sta_Ts:∀l,Stas (encTs l)
 | []=>trivial
 | t::r=>by simp only [encTs,Stas];exact⟨sta_T t,sta_Ts r⟩
end
theorem encT_agg (t:PT):∃k s a b,encT t=.agg [.int .i64 k,.str s,.sl 1 stat a,.sl 4 stat b]:=by
 cases t;exact⟨_,_,_,_,rfl⟩
theorem rdT (t:PT):(cut (encT t).cells 0 4).bind (mkv true)=some (encT t):=by cases t;rfl
abbrev Ret (u:AV):Res→St→Prop:=fun r S1=>∃x,r=.ret x∧Rdo S1 u x
theorem Ret.sta {u:AV} {S:St} (h:Sta u):Ret u (.ret u) S:=⟨u,rfl,h.rdo _⟩
mutual
def size3:PT→Int→Int
 |.mk _ _ _ kids,m=>szs kids m 1
def szs:List PT→Int→Int→Int
 | [],_,n=>n
 | t::r,m,n=>if n<m then szs r m (n+size3 t (m-n)) else n
end
mutual
theorem size3_pos:∀(t:PT) (m:Int),1≤size3 t m
 |.mk _ _ _ kids,m=>by simp only [size3];exact szs_ge kids m 1
theorem szs_ge:∀(l:List PT) (m n:Int),n≤szs l m n
 | [],m,n=>by simp [szs]
 | t::r,m,n=>by
  simp only [szs]
  split
  ·have h1:=szs_ge r m (n+size3 t (m-n))
   have h2:=size3_pos t (m-n)
   omega
  ·omega
end
mutual
theorem size3_le:∀(t:PT) (m:Int),size3 t m≤max 1 m
 |.mk _ _ _ kids,m=>by simp only [size3];have:=szs_le kids m 1;omega
theorem szs_le:∀(l:List PT) (m n:Int),szs l m n≤max n m
 | [],m,n=>by simp [szs];omega
 | t::r,m,n=>by
  simp only [szs]
  split
  ·have h1:=szs_le r m (n+size3 t (m-n))
   have h2:=size3_le t (m-n)
   omega
  ·omega
end
theorem size3_n:∀(t:PT) (m:Int),size3 t m<m→size3 t m=t.n
 |.mk _ _ _ kids,m,h=>by
  simp only [size3,PT.n] at h ⊢
  have:=szs_n kids m 1 h
  omega
where szs_n:∀(l:List PT) (m n:Int),szs l m n<m→szs l m n=n+PT.ns l
 | [],m,n,_=>by simp [szs,PT.ns]
 | t::r,m,n,h=>by
  simp only [szs] at h ⊢
  have hlt:n<m:=by
   rcases Int.lt_or_le n m with h' | h'
   ·exact h'
   ·rw [if_neg (by omega)] at h;omega
  rw [if_pos hlt] at h ⊢
  have h1:=szs_n r m _ h
  have h2:=szs_ge r m (n+size3 t (m-n))
  have h3:=size3_n t (m-n) (by omega)
  simp only [PT.ns]
  omega
theorem kid_lt {k s keys} {kids:List PT} {i:Nat} (h:i<kids.length):kids[i].n<(PT.mk k s keys kids).n:=by
 have:=PT.ns_mem (List.getElem_mem h);simp only [PT.n];omega
section
variable {gt:GT} {C:CallT}
abbrev E_size (m:Int) (t:PT) (n i:Int):Env:=[(1,.val (.int .i64 m)),(2,.box (encT t).cells),(5,.val (.int .i64 n)),(6,.val (.int .i64 i))]
set_option maxHeartbeats 2000000 in
theorem size3_wp (hm:MonoC C) {t:PT} (ih:∀u,u.n<t.n→∀m,m<4611686018427387904→PF C 43 [encT u,.int .i64 m] (.int .i64 (size3 u m)))
  {m:Int} (hb:m<4611686018427387904):wpF gt C F43 [encT t,.int .i64 m] St.init (Ret (.int .i64 (size3 t m))):=by
 obtain⟨k,s,keys,kids⟩:=t
 refine⟨rfl,?_⟩
 refine goW ?_
 have hlen:=encTs_len kids
 refine loop_rule hm (α:=Nat×Int) (fun a env S'=>a.1≤kids.length∧(a.1:Int)<a.2∧a.2≤max 1 m∧env=E_size m (.mk k s keys kids) a.2 a.1∧S'=St.init∧szs kids m 1=szs (kids.drop a.1) m a.2) (fun a=>kids.length-a.1) ?_ (a:=(0,1)) ⟨Nat.zero_le _,by simp,by simp;omega,rfl,rfl,rfl⟩
 rintro⟨i,n⟩ env S' ⟨hi,hn1,hn2,rfl,rfl,hp⟩
 refine goW ?_
 simp only at hi hn1 hn2 hp
 by_cases h:(i:Int)<(encTs kids).length
 ·rw [dT h]
  refine goW ?_
  have hik:i<kids.length:=by omega
  by_cases hnm:n<m
  ·rw [dT hnm]
   refine goW ?_
   refine step_ruleO (sx_ia (k:=i) rfl rfl (by omega)) (goW ?_)
   refine step_ruleO (sx_ldEl (agg:=true) rfl rfl (encTs_get hik) (rdT _)) (goW ?_)
   rw [wr64 (by omega) (by omega)]
   refine call_pf hm (by rfl) (ih _ (kid_lt hik) (m-n) (by omega)) (goW ?_)
   have g1:=size3_pos kids[i] (m-n)
   have g2:=size3_le kids[i] (m-n)
   refine⟨(i+1,n+size3 kids[i] (m-n)),⟨by simp only;omega,by simp only;omega,by simp only;omega,?_,rfl,?_⟩,by simp only;omega⟩
   ·rw [wrNat (by omega),wr64 (by omega) (by omega)];try rfl
   ·rw [hp,dC hik]
    simp only [szs]
    rw [if_pos hnm]
  ·rw [dF hnm]
   refine goW ?_
   refine⟨_,rfl,?_⟩
   rw [size3,hp,dC hik]
   simp only [szs]
   rw [if_neg hnm]
   exact Ret.sta trivial
 ·rw [dF h]
  refine goW ?_
  refine⟨_,rfl,?_⟩
  rw [size3,hp,List.drop_eq_nil_of_le (by omega)]
  simp only [szs]
  exact Ret.sta trivial
end

theorem beqB_iff {a b:List UInt8}:beqB a b=true↔a=b:=by
 induction a generalizing b with
 | nil=>cases b<;>simp [beqB]
 | cons x a ih =>
  cases b with
  | nil=>simp [beqB]
  | cons y b =>
   simp only [beqB]
   by_cases h:x=y
   ·subst h;rw [Nat.beq_refl];simp [ih]
   ·have:Nat.beq x.toNat y.toNat=false:=by
     cases hb:Nat.beq x.toNat y.toNat with
     | false=>rfl
     | true=>exact absurd (UInt8.toNat_inj.1 (bE hb)) h
    rw [this];simp [h]
theorem beqB_true {a b:List UInt8} (h:a=b):beqB a b=true:=beqB_iff.2 h
theorem beqB_false {a b:List UInt8} (h:¬a=b):beqB a b=false:=by
 cases hh:beqB a b with
 | false=>rfl
 | true=>exact absurd (beqB_iff.1 hh) h
theorem neI_true {a b:Int} (h:¬a=b):(a != b)=true:=by simp [h]
theorem neI_false {a b:Int} (h:a=b):(a != b)=false:=by simp [h]
theorem eqI_true {a b:Int} (h:a=b):(a == b)=true:=by simp [h]
theorem eqI_false {a b:Int} (h:¬a=b):(a == b)=false:=by simp [h]
theorem cells_strs (l:List (List UInt8)):((strs l).flatMap AV.cells).all ok1=true:=strs_ok l
theorem encT_ok (t:PT):((([encT t]:List AV)).flatMap AV.cells).all ok1=true:=by cases t;rfl
theorem rdos_strs {S:St} (l:List (List UInt8)):Rdos S (strs l) (strs l):=(sta_strs l).rdos
theorem rdos_Ts {S:St} (l:List PT):Rdos S (encTs l) (encTs l):=Stas.rdos _ (sta_Ts l)
theorem rdo_T {S:St} {R:List Rs} (h:Hs S R) {i j:Nat} {ty ty2:TypeId} {o1 o2:SI} {k:Int} {s:List UInt8} {keys:List (List UInt8)} {kids:List PT} (hi:R[i]? = some (.gr ty o1 (strs keys))) (hj:R[j]? = some (.gr ty2 o2 (encTs kids))) :
  Rdo S (encT (.mk k s keys kids)) (.agg [.int .i64 k,.str s,.sl 1 o1 (strs keys),.sl 4 o2 (encTs kids)]):=by
 simp only [encT]
 rw [Rdo]
 refine⟨_,rfl,?_⟩
 simp only [Rdos]
 exact⟨_,_,rfl,by simp only [Rdo],_,_,rfl,by simp only [Rdo],_,_,rfl,h.rdo hi (rdos_strs keys),_,_,rfl,h.rdo hj (rdos_Ts kids),rfl⟩
section
variable {gt:GT} {C:CallT}
def zT:List AV:=[.int .i64 0,.str [],.sl 1 ⟨none,0,some 0,true⟩ [],.sl 4 ⟨none,0,some 0,true⟩ []]
abbrev E_copy3 (t:PT) (k:Int) (s:List UInt8) (keys:List (List UInt8)) (o1 o2:SI) (kids:List PT) (i:Int):Env :=
 [(1,.box (encT t).cells),(2,.box zT),(3,.box [.int .i64 k,.str s,.sl 1 o1 (strs keys),.sl 4 o2 (encTs kids)]),(4,.val (.int .i64 i))]
set_option maxHeartbeats 2000000 in
theorem copy3_wp (hm:MonoC C) {t:PT} (ih:∀u,u.n<t.n→u.ok→PF C 44 [encT u] (encT u)) (hk:t.ok):wpF gt C F44 [encT t] St.init (Ret (encT t)):=by
 obtain⟨k,s,keys,kids⟩:=t
 simp only [PT.ok] at hk
 obtain⟨hk1,hk2,hk3⟩:=hk
 refine⟨rfl,?_⟩
 have hR:=(Hs.init.addNil 9 true).addNil 25 true
 refine goW ?_
 refine r_app hR 0 rfl trivial rfl rfl rfl (by rw [strs_length];simpa using hk1) (by rw [strs_length];simp;omega) (by decide) (by decide) (cells_strs keys) ?_
 intro o1 S1 hR
 refine goW ?_
 have hlen:=encTs_len kids
 refine loop_rule hm (α:=Nat) (fun i env S'=>i≤kids.length∧∃o2,Hs S' [.gr 9 o1 (strs keys),.gr 25 o2 (encTs (kids.take i))]∧env=E_copy3 (.mk k s keys kids) k s keys o1 o2 (kids.take i) i) (fun i=>kids.length-i) ?_ (a:=0) ⟨Nat.zero_le _,_,hR,rfl⟩
 rintro i env S' ⟨hi,o2,hR,rfl⟩
 refine goW ?_
 by_cases h:(i:Int)<(encTs kids).length
 ·rw [dT h]
  refine goW ?_
  have hik:i<kids.length:=by omega
  refine step_ruleDO rfl rfl (sx_ia (k:=i) rfl rfl (by omega)) (goW ?_)
  refine step_ruleDO rfl rfl (sx_ldEl (agg:=true) rfl rfl (encTs_get hik) (rdT _)) (goW ?_)
  have ihk:=ih _ (kid_lt hik) (PT.oks_get hk3 (gE hik))
  have hok:=encT_ok kids[i]
  have hts:encTs (kids.take (i+1))=encTs (kids.take i)++[encT kids[i]]:=by rw [tS hik,encTs_app];rfl
  obtain⟨ka,sa,xa,ya,he⟩:=encT_agg kids[i]
  rw [he] at ihk hts hok ⊢
  refine call_pfD hm (by rfl) ihk (goW ?_)
  have hlt:(encTs (kids.take i)).length=i:=by rw [encTs_len,lT];omega
  refine r_appD hR 1 rfl (by trivial) rfl rfl rfl (by rw [hlt];simp;omega) (by rw [hlt];simp;omega) (by decide) (by decide) hok ?_
  intro o3 S3 hR
  refine goW ?_
  refine⟨i+1,⟨by omega,o3,by rw [hts];exact hR,?_⟩,by omega⟩
  rw [wrNat (by omega)]
  simp only [E_copy3,hts]
  try rfl
 ·rw [dF h]
  refine goW ?_
  have:kids.take i=kids:=List.take_of_length_le (by omega)
  rw [this] at hR ⊢
  exact⟨_,rfl,_,rfl,rdo_T hR (i:=0) (j:=1) rfl rfl⟩
end

mutual
def eqT:PT→PT→Bool
 |.mk k s keys kids,.mk k' s' keys' kids'=>decide (k=k') && (decide (s=s') && (decide (keys=keys') && eqTs kids kids'))
def eqTs:List PT→List PT→Bool
 | [],[]=>true
 | a::r,b::q=>eqT a b && eqTs r q
 | _,_=>false
end
mutual
theorem eqT_iff:∀{a b:PT},eqT a b=true↔a=b
 |.mk k s keys kids,.mk k' s' keys' kids'=>by simp [eqT,eqTs_iff (a:=kids) (b:=kids')]
theorem eqTs_iff:∀{a b:List PT},eqTs a b=true↔a=b
 | [],[]=>by simp [eqTs]
 | a::r,b::q=>by simp [eqTs,eqT_iff (a:=a) (b:=b),eqTs_iff (a:=r) (b:=q)]
 | [],b::q=>by simp [eqTs]
 | a::r,[]=>by simp [eqTs]
end
theorem eqT_false {a b:PT} (h:¬a=b):eqT a b=false:=by
 cases hh:eqT a b with
 | false=>rfl
 | true=>exact absurd (eqT_iff.1 hh) h
theorem eqT_true {a b:PT} (h:a=b):eqT a b=true:=eqT_iff.2 h
theorem strs_at {l:List (List UInt8)} {i:Nat} (h:i<l.length):(strs l)[i]? = some (.str l[i]):=strs_get (gE h)
def PT.k:PT→Int |.mk k _ _ _=>k
def PT.s:PT→List UInt8 |.mk _ s _ _=>s
def PT.keys:PT→List (List UInt8) |.mk _ _ keys _=>keys
def PT.kids:PT→List PT |.mk _ _ _ kids=>kids
theorem encT_eq (t:PT):encT t=.agg [.int .i64 t.k,.str t.s,.sl 1 stat (strs t.keys),.sl 4 stat (encTs t.kids)]:=by cases t;rfl
section
variable {gt:GT} {C:CallT}
abbrev E_plain (t u:PT) (i:Int):Env:=[(2,.box (encT t).cells),(3,.box (encT u).cells),(5,.val (.int .i64 i))]
abbrev E_plain2 (t u:PT) (i:Int):Env:=[(2,.box (encT t).cells),(3,.box (encT u).cells),(6,.val (.int .i64 i))]
set_option maxHeartbeats 2000000 in
theorem plain_wp (hm:MonoC C) {t t':PT} (ih:∀u,u.n<t.n→∀u',u.ok→PF C 21 [encT u,encT u'] (.bool (eqT u u'))) (hk:t.ok) :
  wpF gt C F21 [encT t,encT t'] St.init (Ret (.bool (eqT t t'))):=by
 obtain⟨k,s,keys,kids⟩:=t
 obtain⟨k',s',keys',kids'⟩:=t'
 simp only [PT.ok] at hk
 obtain⟨hk1,hk2,hk3⟩:=hk
 have no:∀{S:St},¬PT.mk k s keys kids=.mk k' s' keys' kids'→Ret (.bool (eqT (.mk k s keys kids) (.mk k' s' keys' kids'))) (.ret (.bool false)) S:=fun h=>by rw [eqT_false h];exact Ret.sta trivial
 have l1:=strs_length keys
 have l2:=strs_length keys'
 have l3:=encTs_len kids
 have l4:=encTs_len kids'
 refine⟨rfl,?_⟩
 refine goW ?_
 by_cases z0:k=k'
 case neg =>
  rw [neI_true z0]
  refine goW ?_
  exact⟨_,rfl,no (by simp [z0])⟩
 rw [neI_false z0]
 refine goW ?_
 by_cases z1:s=s'
 case neg =>
  rw [beqB_false z1]
  refine goW ?_
  exact⟨_,rfl,no (by simp [z1])⟩
 rw [beqB_true z1]
 refine goW ?_
 by_cases z2:((strs keys).length:Int)=(strs keys').length
 case neg =>
  rw [neI_true z2]
  refine goW ?_
  exact⟨_,rfl,no fun h=>by simp only [PT.mk.injEq] at h;rw [h.2.2.1] at z2;exact z2 rfl⟩
 rw [neI_false z2]
 refine goW ?_
 by_cases z3:((encTs kids).length:Int)=(encTs kids').length
 case neg =>
  rw [neI_true z3]
  refine goW ?_
  exact⟨_,rfl,no fun h=>by simp only [PT.mk.injEq] at h;rw [h.2.2.2] at z3;exact z3 rfl⟩
 rw [neI_false z3]
 refine goW ?_
 refine loop_rule hm (α:=Nat) (fun i env S'=>i≤keys.length∧env=E_plain (.mk k s keys kids) (.mk k' s' keys' kids') i∧S'=St.init∧keys.take i=keys'.take i) (fun i=>keys.length-i) ?_ (a:=0) ⟨Nat.zero_le _,rfl,rfl,rfl⟩
 rintro i env S' ⟨hi,rfl,rfl,hp⟩
 refine goW ?_
 by_cases h:(i:Int)<(strs keys).length
 ·rw [dT h]
  refine goW ?_
  have hik:i<keys.length:=by omega
  have hik':i<keys'.length:=by omega
  refine step_ruleDO rfl rfl (sx_ia (k:=i) rfl rfl (by omega)) (goW ?_)
  refine step_ruleDO rfl rfl (sx_ldEl (agg:=false) rfl rfl (strs_at hik) rfl) (goW ?_)
  refine step_ruleDO rfl rfl (sx_ia (k:=i) rfl rfl (by omega)) (goW ?_)
  refine step_ruleDO rfl rfl (sx_ldEl (agg:=false) rfl rfl (strs_at hik') rfl) (goW ?_)
  by_cases z:keys[i]=keys'[i]
  ·rw [beqB_true z]
   refine goW ?_
   refine⟨i+1,⟨by omega,?_,rfl,?_⟩,by omega⟩
   ·rw [wrNat (by omega)];try rfl
   ·rw [tS hik,tS hik',hp,z]
  ·rw [beqB_false z]
   refine goW ?_
   exact⟨_,rfl,no fun h=>by simp only [PT.mk.injEq] at h;obtain⟨_,_,rfl,_⟩:=h;exact z rfl⟩
 rw [dF h]
 refine goW ?_
 have hkeys:keys=keys':=by
  rwa [List.take_of_length_le (by omega),List.take_of_length_le (by omega)] at hp
 clear h hi hp
 refine loop_rule hm (α:=Nat) (fun i env S'=>i≤kids.length∧env=E_plain2 (.mk k s keys kids) (.mk k' s' keys' kids') i∧S'=St.init∧kids.take i=kids'.take i) (fun i=>kids.length-i) ?_ (a:=0) ⟨Nat.zero_le _,rfl,rfl,rfl⟩
 rintro i env S' ⟨hi,rfl,rfl,hp⟩
 refine goW ?_
 by_cases h:(i:Int)<(encTs kids).length
 ·rw [dT h]
  refine goW ?_
  have hik:i<kids.length:=by omega
  have hik':i<kids'.length:=by omega
  refine step_ruleDO rfl rfl (sx_ia (k:=i) rfl rfl (by omega)) (goW ?_)
  refine step_ruleDO rfl rfl (sx_ldEl (agg:=true) rfl rfl (encTs_get hik) (rdT _)) (goW ?_)
  refine step_ruleDO rfl rfl (sx_ia (k:=i) rfl rfl (by omega)) (goW ?_)
  refine step_ruleDO rfl rfl (sx_ldEl (agg:=true) rfl rfl (encTs_get hik') (rdT _)) (goW ?_)
  refine call_pfD hm (by rfl) (ih _ (kid_lt hik) _ (PT.oks_get hk3 (gE hik))) (goW ?_)
  by_cases z:kids[i]=kids'[i]
  ·rw [eqT_true z]
   refine goW ?_
   refine⟨i+1,⟨by omega,?_,rfl,?_⟩,by omega⟩
   ·rw [wrNat (by omega)];try rfl
   ·rw [tS hik,tS hik',hp,z]
  ·rw [eqT_false z]
   refine goW ?_
   exact⟨_,rfl,no fun h=>by simp only [PT.mk.injEq] at h;obtain⟨_,_,_,rfl⟩:=h;exact z rfl⟩
 rw [dF h]
 refine goW ?_
 have hkids:kids=kids':=by
  rwa [List.take_of_length_le (by omega),List.take_of_length_le (by omega)] at hp
 refine⟨_,rfl,?_⟩
 rw [eqT_true (by rw [z0,z1,hkeys,hkids])]
 exact Ret.sta trivial
abbrev E_copy (t:PT) (k:Int) (s:List UInt8) (keys:List (List UInt8)) (o1 o2:SI) (all kids:List PT) (i:Int):Env :=
 [(2,.box zT),(3,.box [.int .i64 k,.str s,.sl 1 o1 (strs keys),.sl 4 o2 (encTs kids)]),(18,.val (.sl 4 stat (encTs all))),(19,.val (.int .i64 (encTs all).length)),(20,.val (.int .i64 i))]
set_option maxHeartbeats 2000000 in
theorem copy_wp (hm:MonoC C) {t:PT} (ih:∀u,u.n<t.n→u.ok→PF C 49 [encT u] (encT u)) (hk:t.ok):wpF gt C F49 [encT t] St.init (Ret (encT t)):=by
 obtain⟨k,s,keys,kids⟩:=t
 simp only [PT.ok] at hk
 obtain⟨hk1,hk2,hk3⟩:=hk
 refine⟨rfl,?_⟩
 have hR:=(Hs.init.addNil 9 true).addNil 25 true
 refine goW ?_
 refine r_app hR 0 rfl trivial rfl rfl rfl (by rw [strs_length];simpa using hk1) (by rw [strs_length];simp;omega) (by decide) (by decide) (cells_strs keys) ?_
 intro o1 S1 hR
 refine goW ?_
 have hlen:=encTs_len kids
 refine loop_rule hm (α:=Nat) (fun i env S'=>i≤kids.length∧∃o2,Hs S' [.gr 9 o1 (strs keys),.gr 25 o2 (encTs (kids.take i))]∧env=E_copy (.mk k s keys kids) k s keys o1 o2 kids (kids.take i) i) (fun i=>kids.length-i) ?_ (a:=0) ⟨Nat.zero_le _,_,hR,rfl⟩
 rintro i env S' ⟨hi,o2,hR,rfl⟩
 refine goW ?_
 by_cases h:(i:Int)<(encTs kids).length
 ·rw [dT h]
  refine goW ?_
  have hik:i<kids.length:=by omega
  refine step_ruleO (sx_ia (k:=i) rfl rfl (by omega)) (goW ?_)
  refine step_ruleO (sx_ldEl (agg:=true) rfl rfl (encTs_get hik) (rdT _)) ?_
  have ihk:=ih _ (kid_lt hik) (PT.oks_get hk3 (gE hik))
  have hok:=encT_ok kids[i]
  have hts:encTs (kids.take (i+1))=encTs (kids.take i)++[encT kids[i]]:=by rw [tS hik,encTs_app];rfl
  obtain⟨ka,sa,xa,ya,he⟩:=encT_agg kids[i]
  rw [he] at ihk hts hok ⊢
  refine goW ?_
  refine call_pfD hm (by rfl) ihk (goW ?_)
  have hlt:(encTs (kids.take i)).length=i:=by rw [encTs_len,lT];omega
  refine r_appD hR 1 rfl (by trivial) rfl rfl rfl (by rw [hlt];simp;omega) (by rw [hlt];simp;omega) (by decide) (by decide) hok ?_
  intro o3 S3 hR
  refine goW ?_
  refine⟨i+1,⟨by omega,o3,by rw [hts];exact hR,?_⟩,by omega⟩
  rw [wrNat (by omega)]
  simp only [E_copy,hts]
  try rfl
 ·rw [dF h]
  refine goW ?_
  have:kids.take i=kids:=List.take_of_length_le (by omega)
  rw [this] at hR ⊢
  exact⟨_,rfl,_,rfl,rdo_T hR (i:=0) (j:=1) rfl rfl⟩
end

inductive PN where
 | mk (k:Int) (a b c:List UInt8) (leaf:PT) (h:List UInt8) (kids:List PN) (seps:List (List UInt8)) (t e:List UInt8) (f:Int)
mutual
def PN.n:PN→Nat
 |.mk _ _ _ _ _ _ kids _ _ _ _=>PN.ns kids+1
def PN.ns:List PN→Nat
 | []=>0
 | t::r=>PN.n t+PN.ns r
end
theorem PN.ns_mem {t:PN}:∀{l:List PN},t∈l→t.n≤PN.ns l
 | a::r,h=>by
  simp only [PN.ns]
  rcases List.mem_cons.1 h with rfl | h
  ·omega
  ·have:=PN.ns_mem h;omega
mutual
def PN.ok:PN→Prop
 |.mk _ _ _ _ leaf _ kids seps _ _ _=>leaf.ok∧kids.length*232≤140737488355328∧seps.length*16≤140737488355328∧PN.oks kids
def PN.oks:List PN→Prop
 | []=>True
 | t::r=>PN.ok t∧PN.oks r
end
theorem PN.oks_get:∀{l:List PN} {i:Nat} (h:i<l.length),PN.oks l→(l[i]).ok
 | a::r,0,_,h=>by simp only [PN.oks] at h;exact h.1
 | a::r,i+1,hi,h=>by simp only [PN.oks] at h;exact PN.oks_get (l:=r) (i:=i) (by simpa using hi) h.2
mutual
def encN:PN→AV
 |.mk k a b c leaf h kids seps t e f=>.agg [.int .i64 k,.str a,.str b,.str c,.int .i64 leaf.k,.str leaf.s,.sl 1 stat (strs leaf.keys),.sl 4 stat (encTs leaf.kids),.str h,.sl 14 stat (encNs kids),.sl 1 stat (strs seps),.str t,.str e,.int .i64 f]
def encNs:List PN→List AV
 | []=>[]
 | t::r=>encN t::encNs r
end
theorem encNs_len:∀l:List PN,(encNs l).length=l.length
 | []=>rfl
 | t::r=>by simp [encNs,encNs_len r]
theorem encNs_get:∀{l:List PN} {i:Nat} (h:i<l.length),(encNs l)[i]? = some (encN l[i])
 | t::r,0,_=>rfl
 | t::r,i+1,h=>by simpa [encNs] using encNs_get (l:=r) (i:=i) (by simpa using h)
theorem encNs_app:∀a b:List PN,encNs (a++b)=encNs a++encNs b
 | [],b=>rfl
 | t::r,b=>by simp [encNs,encNs_app r b]
mutual
theorem sta_N:∀t,Sta (encN t)
 |.mk k a b c leaf h kids seps t e f=>by
  simp only [encN,Sta,Stas]
  exact⟨trivial,trivial,trivial,trivial,trivial,trivial,⟨trivial,sta_strs _⟩,⟨trivial,sta_Ts _⟩,trivial,⟨trivial,sta_Ns kids⟩,⟨trivial,sta_strs seps⟩,trivial,trivial,trivial,trivial⟩
theorem sta_Ns:∀l,Stas (encNs l)
 | []=>trivial
 | t::r=>by simp only [encNs,Stas];exact⟨sta_N t,sta_Ns r⟩
end
theorem encN_agg (t:PN):∃k a b c k1 s1 x6 x7 h x9 x10 t' e f,encN t=.agg [.int .i64 k,.str a,.str b,.str c,.int .i64 k1,.str s1,.sl 1 stat x6,.sl 4 stat x7,.str h,.sl 14 stat x9,.sl 1 stat x10,.str t',.str e,.int .i64 f]:=by
 cases t;exact⟨_,_,_,_,_,_,_,_,_,_,_,_,_,_,rfl⟩
theorem rdN (t:PN):(cut (encN t).cells 0 14).bind (mkv true)=some (encN t):=by cases t;rfl
theorem encN_ok (t:PN):((([encN t]:List AV)).flatMap AV.cells).all ok1=true:=by cases t;rfl
theorem rdos_Ns {S:St} (l:List PN):Rdos S (encNs l) (encNs l):=Stas.rdos _ (sta_Ns l)
theorem kidN_lt {k a b c leaf h seps t e f} {kids:List PN} {i:Nat} (hi:i<kids.length):kids[i].n<(PN.mk k a b c leaf h kids seps t e f).n:=by
 have:=PN.ns_mem (List.getElem_mem hi);simp only [PN.n];omega
mutual
def sizeN:PN→Int→Int
 |.mk _ _ _ _ leaf _ kids seps _ _ _,m=>sizeNs kids m (1+size3 leaf m+seps.length)
def sizeNs:List PN→Int→Int→Int
 | [],_,n=>n
 | t::r,m,n=>if n<m then sizeNs r m (n+sizeN t (m-n)) else n
end
mutual
theorem sizeN_b:∀(t:PN) (m:Int),t.ok→1≤sizeN t m∧sizeN t m≤max m 1+35184372088832
 |.mk _ _ _ _ leaf _ kids seps _ _ _,m,h=>by
  simp only [PN.ok] at h
  obtain⟨_,_,h2,h3⟩:=h
  have g1:=size3_pos leaf m
  have g2:=size3_le leaf m
  have:=sizeNs_b kids m (1+size3 leaf m+seps.length) h3 (by omega) (by omega)
  simp only [sizeN]
  omega
theorem sizeNs_b:∀(l:List PN) (m n:Int),PN.oks l→1≤n→n≤max m 1+35184372088832→1≤sizeNs l m n∧sizeNs l m n≤max m 1+35184372088832
 | [],m,n,_,h1,h2=>by simp only [sizeNs];omega
 | t::r,m,n,h,h1,h2=>by
  simp only [PN.oks] at h
  simp only [sizeNs]
  split
  ·have g:=sizeN_b t (m-n) h.1
   exact sizeNs_b r m _ h.2 (by omega) (by omega)
  ·omega
end
section
variable {gt:GT} {C:CallT}
abbrev E_sizeN (m:Int) (t:PN) (n i:Int):Env:=[(1,.val (.int .i64 m)),(2,.box (encN t).cells),(5,.val (.int .i64 n)),(6,.val (.int .i64 i))]
set_option maxHeartbeats 2000000 in
theorem sizeN_wp (hm:MonoC C) (h3:∀(u:PT) m,m<4611686018427387904→PF C 43 [encT u,.int .i64 m] (.int .i64 (size3 u m)))
  {t:PN} (ih:∀u,u.n<t.n→∀m,u.ok→m<2305843009213693952→PF C 16 [encN u,.int .i64 m] (.int .i64 (sizeN u m)))
  {m:Int} (hk:t.ok) (hb:m<2305843009213693952):wpF gt C F16 [encN t,.int .i64 m] St.init (Ret (.int .i64 (sizeN t m))):=by
 have hk0:=hk
 obtain⟨k,a,b,c,leaf,h,kids,seps,t,e,f⟩:=t
 simp only [PN.ok] at hk
 obtain⟨q1,q2,q3,q4⟩:=hk
 refine⟨rfl,?_⟩
 have h3:=h3 leaf m (by omega)
 rw [encT_eq] at h3
 refine goW ?_
 refine call_pfD hm (by rfl) h3 (goW ?_)
 have hlen:=encNs_len kids
 have hs:=strs_length seps
 have g1:=size3_pos leaf m
 have g2:=size3_le leaf m
 refine loop_rule hm (α:=Nat×Int) (fun a' env S'=>a'.1≤kids.length∧1≤a'.2∧a'.2≤max m 1+35184372088832∧env=E_sizeN m (.mk k a b c leaf h kids seps t e f) a'.2 a'.1∧S'=St.init∧sizeN (.mk k a b c leaf h kids seps t e f) m=sizeNs (kids.drop a'.1) m a'.2) (fun a=>kids.length-a.1) ?_ (a:=(0,1+size3 leaf m+seps.length)) ⟨Nat.zero_le _,by simp only;omega,by simp only;omega,?_,rfl,rfl⟩
 case refine_2=>rw [wr64 (n:=1+size3 leaf m) (by omega) (by omega),hs,wr64 (n:=1+size3 leaf m+(seps.length:Int)) (by omega) (by omega)];try rfl
 rintro⟨i,n⟩ env S' ⟨hi,hn1,hn2,rfl,rfl,hp⟩
 refine goW ?_
 simp only at hi hn1 hn2 hp
 by_cases hc:(i:Int)<(encNs kids).length
 ·rw [dT hc]
  refine goW ?_
  have hik:i<kids.length:=by omega
  by_cases hnm:n<m
  ·rw [dT hnm]
   refine goW ?_
   refine step_ruleO (sx_ia (k:=i) rfl rfl (by omega)) (goW ?_)
   refine step_ruleO (sx_ldEl (agg:=true) rfl rfl (encNs_get hik) (rdN _)) (goW ?_)
   rw [wr64 (by omega) (by omega)]
   have hok:=PN.oks_get hik q4
   refine call_pf hm (by rfl) (ih _ (kidN_lt hik) (m-n) hok (by omega)) (goW ?_)
   have g3:=sizeN_b kids[i] (m-n) hok
   refine⟨(i+1,n+sizeN kids[i] (m-n)),⟨by simp only;omega,by simp only;omega,by simp only;omega,?_,rfl,?_⟩,by simp only;omega⟩
   ·rw [wrNat (by omega),wr64 (by omega) (by omega)];try rfl
   ·rw [hp,dC hik]
    simp only [sizeNs]
    rw [if_pos hnm]
  ·rw [dF hnm]
   refine goW ?_
   refine⟨_,rfl,?_⟩
   rw [hp,dC hik]
   simp only [sizeNs]
   rw [if_neg hnm]
   exact Ret.sta trivial
 ·rw [dF hc]
  refine goW ?_
  refine⟨_,rfl,?_⟩
  rw [hp,List.drop_eq_nil_of_le (by omega)]
  simp only [sizeNs]
  exact Ret.sta trivial
def zN:List AV:=[.int .i64 0,.str [],.str [],.str [],.int .i64 0,.str [],.sl 1 ⟨none,0,some 0,true⟩ [],.sl 4 ⟨none,0,some 0,true⟩ [],.str [],.sl 14 ⟨none,0,some 0,true⟩ [],.sl 1 ⟨none,0,some 0,true⟩ [],.str [],.str [],.int .i64 0]
abbrev E_copyN3 (t:PN) (k:Int) (a b c:List UInt8) (leaf:PT) (h:List UInt8) (kids:List PN) (seps:List (List UInt8)) (t' e:List UInt8) (f:Int) (o1 o2:SI) (i:Int):Env :=
 [(1,.box (encN t).cells),(2,.box zN),(3,.box [.int .i64 k,.str a,.str b,.str c,.int .i64 leaf.k,.str leaf.s,.sl 1 stat (strs leaf.keys),.sl 4 stat (encTs leaf.kids),.str h,.sl 14 o2 (encNs kids),.sl 1 o1 (strs seps),.str t',.str e,.int .i64 f]),(4,.val (.int .i64 i))]
theorem rdo_N {S:St} {R:List Rs} (hR:Hs S R) {i j:Nat} {ty ty2:TypeId} {o1 o2:SI} {k:Int} {a b c:List UInt8} {leaf:PT} {h:List UInt8} {kids:List PN} {seps:List (List UInt8)} {t e:List UInt8} {f:Int} (hi:R[i]? = some (.gr ty o1 (strs seps))) (hj:R[j]? = some (.gr ty2 o2 (encNs kids))) :
  Rdo S (encN (.mk k a b c leaf h kids seps t e f)) (.agg [.int .i64 k,.str a,.str b,.str c,.int .i64 leaf.k,.str leaf.s,.sl 1 stat (strs leaf.keys),.sl 4 stat (encTs leaf.kids),.str h,.sl 14 o2 (encNs kids),.sl 1 o1 (strs seps),.str t,.str e,.int .i64 f]):=by
 simp only [encN]
 rw [Rdo]
 refine⟨_,rfl,?_⟩
 simp only [Rdos]
 exact⟨_,_,rfl,by simp only [Rdo],_,_,rfl,by simp only [Rdo],_,_,rfl,by simp only [Rdo],_,_,rfl,by simp only [Rdo],_,_,rfl,by simp only [Rdo],_,_,rfl,by simp only [Rdo],
  _,_,rfl,(sta_sl (sta_strs _)).rdo,_,_,rfl,(sta_sl (sta_Ts _)).rdo,_,_,rfl,by simp only [Rdo],_,_,rfl,hR.rdo hj (rdos_Ns kids),_,_,rfl,hR.rdo hi (rdos_strs seps),_,_,rfl,by simp only [Rdo],_,_,rfl,by simp only [Rdo],_,_,rfl,by simp only [Rdo],rfl⟩
set_option maxHeartbeats 2000000 in
theorem copyN3_wp (hm:MonoC C) (h3:∀u:PT,u.ok→PF C 44 [encT u] (encT u)) {t:PN} (ih:∀u,u.n<t.n→u.ok→PF C 17 [encN u] (encN u)) (hk:t.ok):wpF gt C F17 [encN t] St.init (Ret (encN t)):=by
 obtain⟨k,a,b,c,leaf,h,kids,seps,t,e,f⟩:=t
 simp only [PN.ok] at hk
 obtain⟨q1,q2,q3,q4⟩:=hk
 refine⟨rfl,?_⟩
 have hR:=(Hs.init.addNil 9 true).addNil 28 true
 have h3:=h3 leaf q1
 rw [encT_eq] at h3
 refine goW ?_
 refine call_pf hm (by rfl) h3 (goW ?_)
 refine r_app hR 0 rfl trivial rfl rfl rfl (by rw [strs_length];simpa using q3) (by rw [strs_length];simp;omega) (by decide) (by decide) (cells_strs seps) ?_
 intro o1 S1 hR
 refine goW ?_
 have hlen:=encNs_len kids
 refine loop_rule hm (α:=Nat) (fun i env S'=>i≤kids.length∧∃o2,Hs S' [.gr 9 o1 (strs seps),.gr 28 o2 (encNs (kids.take i))]∧env=E_copyN3 (.mk k a b c leaf h kids seps t e f) k a b c leaf h (kids.take i) seps t e f o1 o2 i) (fun i=>kids.length-i) ?_ (a:=0) ⟨Nat.zero_le _,_,hR,rfl⟩
 rintro i env S' ⟨hi,o2,hR,rfl⟩
 refine goW ?_
 by_cases hc:(i:Int)<(encNs kids).length
 ·rw [dT hc]
  refine goW ?_
  have hik:i<kids.length:=by omega
  refine step_ruleDO rfl rfl (sx_ia (k:=i) rfl rfl (by omega)) (goW ?_)
  refine step_ruleDO rfl rfl (sx_ldEl (agg:=true) rfl rfl (encNs_get hik) (rdN _)) (goW ?_)
  have ihk:=ih _ (kidN_lt hik) (PN.oks_get hik q4)
  have hok:=encN_ok kids[i]
  have hts:encNs (kids.take (i+1))=encNs (kids.take i)++[encN kids[i]]:=by rw [tS hik,encNs_app];rfl
  obtain⟨w0,w1,w2,w3,w4,w5,w6,w7,w8,w9,w10,w11,w12,w13,he⟩:=encN_agg kids[i]
  rw [he] at ihk hts hok ⊢
  refine call_pfD hm (by rfl) ihk (goW ?_)
  have hlt:(encNs (kids.take i)).length=i:=by rw [encNs_len,lT];omega
  refine r_appD hR 1 rfl (by trivial) rfl rfl rfl (by rw [hlt];simp;omega) (by rw [hlt];simp;omega) (by decide) (by decide) hok ?_
  intro o3 S3 hR
  refine goW ?_
  refine⟨i+1,⟨by omega,o3,by rw [hts];exact hR,?_⟩,by omega⟩
  rw [wrNat (by omega)]
  simp only [E_copyN3,hts]
  try rfl
 ·rw [dF hc]
  refine goW ?_
  have:kids.take i=kids:=List.take_of_length_le (by omega)
  rw [this] at hR ⊢
  exact⟨_,rfl,_,rfl,rdo_N hR (i:=0) (j:=1) rfl rfl⟩
abbrev E_copyN (k:Int) (a b c:List UInt8) (leaf:PT) (h:List UInt8) (all kids:List PN) (seps:List (List UInt8)) (t' e:List UInt8) (f:Int) (o1 o2:SI) (i:Int):Env :=
 [(2,.box zN),(3,.box [.int .i64 k,.str a,.str b,.str c,.int .i64 leaf.k,.str leaf.s,.sl 1 stat (strs leaf.keys),.sl 4 stat (encTs leaf.kids),.str h,.sl 14 o2 (encNs kids),.sl 1 o1 (strs seps),.str t',.str e,.int .i64 f]),
  (17,.val (.sl 14 stat (encNs all))),(18,.val (.int .i64 (encNs all).length)),(19,.val (.int .i64 i))]
set_option maxHeartbeats 2000000 in
theorem copyN_wp (hm:MonoC C) (h3:∀u:PT,u.ok→PF C 49 [encT u] (encT u)) {t:PN} (ih:∀u,u.n<t.n→u.ok→PF C 24 [encN u] (encN u)) (hk:t.ok):wpF gt C F24 [encN t] St.init (Ret (encN t)):=by
 obtain⟨k,a,b,c,leaf,h,kids,seps,t,e,f⟩:=t
 simp only [PN.ok] at hk
 obtain⟨q1,q2,q3,q4⟩:=hk
 refine⟨rfl,?_⟩
 have hR:=(Hs.init.addNil 9 true).addNil 28 true
 have h3:=h3 leaf q1
 rw [encT_eq] at h3
 refine goW ?_
 refine call_pf hm (by rfl) h3 (goW ?_)
 refine r_app hR 0 rfl trivial rfl rfl rfl (by rw [strs_length];simpa using q3) (by rw [strs_length];simp;omega) (by decide) (by decide) (cells_strs seps) ?_
 intro o1 S1 hR
 refine goW ?_
 have hlen:=encNs_len kids
 refine loop_rule hm (α:=Nat) (fun i env S'=>i≤kids.length∧∃o2,Hs S' [.gr 9 o1 (strs seps),.gr 28 o2 (encNs (kids.take i))]∧env=E_copyN k a b c leaf h kids (kids.take i) seps t e f o1 o2 i) (fun i=>kids.length-i) ?_ (a:=0) ⟨Nat.zero_le _,_,hR,rfl⟩
 rintro i env S' ⟨hi,o2,hR,rfl⟩
 refine goW ?_
 by_cases hc:(i:Int)<(encNs kids).length
 ·rw [dT hc]
  refine goW ?_
  have hik:i<kids.length:=by omega
  refine step_ruleO (sx_ia (k:=i) rfl rfl (by omega)) (goW ?_)
  refine step_ruleO (sx_ldEl (agg:=true) rfl rfl (encNs_get hik) (rdN _)) ?_
  have ihk:=ih _ (kidN_lt hik) (PN.oks_get hik q4)
  have hok:=encN_ok kids[i]
  have hts:encNs (kids.take (i+1))=encNs (kids.take i)++[encN kids[i]]:=by rw [tS hik,encNs_app];rfl
  obtain⟨w0,w1,w2,w3,w4,w5,w6,w7,w8,w9,w10,w11,w12,w13,he⟩:=encN_agg kids[i]
  rw [he] at ihk hts hok ⊢
  refine goW ?_
  refine call_pfD hm (by rfl) ihk (goW ?_)
  have hlt:(encNs (kids.take i)).length=i:=by rw [encNs_len,lT];omega
  refine r_appD hR 1 rfl (by trivial) rfl rfl rfl (by rw [hlt];simp;omega) (by rw [hlt];simp;omega) (by decide) (by decide) hok ?_
  intro o3 S3 hR
  refine goW ?_
  refine⟨i+1,⟨by omega,o3,by rw [hts];exact hR,?_⟩,by omega⟩
  rw [wrNat (by omega)]
  simp only [E_copyN,hts]
  try rfl
 ·rw [dF hc]
  refine goW ?_
  have:kids.take i=kids:=List.take_of_length_le (by omega)
  rw [this] at hR ⊢
  exact⟨_,rfl,_,rfl,rdo_N hR (i:=0) (j:=1) rfl rfl⟩
end

mutual
def eqN:PN→PN→Bool
 |.mk k a b c leaf h kids seps t e f,.mk k' a' b' c' leaf' h' kids' seps' t' e' f' =>
  decide (k=k'∧a=a'∧b=b'∧c=c'∧h=h'∧seps=seps'∧t=t'∧e=e'∧f=f') && (eqT leaf leaf' && eqNs kids kids')
def eqNs:List PN→List PN→Bool
 | [],[]=>true
 | a::r,b::q=>eqN a b && eqNs r q
 | _,_=>false
end
mutual
theorem eqN_iff:∀{x y:PN},eqN x y=true↔x=y
 |.mk k a b c leaf h kids seps t e f,.mk k' a' b' c' leaf' h' kids' seps' t' e' f'=>by
  simp only [eqN,bA,decide_eq_true_eq,eqT_iff,eqNs_iff (a:=kids) (b:=kids'),PN.mk.injEq]
  constructor
  ·rintro⟨⟨h1,h2,h3,h4,h5,h6,h7,h8,h9⟩,h10,h11⟩;exact⟨h1,h2,h3,h4,h10,h5,h11,h6,h7,h8,h9⟩
  ·rintro⟨h1,h2,h3,h4,h10,h5,h11,h6,h7,h8,h9⟩;exact⟨⟨h1,h2,h3,h4,h5,h6,h7,h8,h9⟩,h10,h11⟩
theorem eqNs_iff:∀{a b:List PN},eqNs a b=true↔a=b
 | [],[]=>by simp [eqNs]
 | a::r,b::q=>by simp [eqNs,eqN_iff (x:=a) (y:=b),eqNs_iff (a:=r) (b:=q)]
 | [],b::q=>by simp [eqNs]
 | a::r,[]=>by simp [eqNs]
end
theorem eqN_true {a b:PN} (h:a=b):eqN a b=true:=eqN_iff.2 h
theorem eqN_false {a b:PN} (h:¬a=b):eqN a b=false:=by
 cases hh:eqN a b with
 | false=>rfl
 | true=>exact absurd (eqN_iff.1 hh) h
section
variable {gt:GT} {C:CallT}
abbrev E_same (t u:PN) (i:Int):Env:=[(2,.box (encN t).cells),(3,.box (encN u).cells),(5,.val (.int .i64 i))]
abbrev E_same2 (t u:PN) (i:Int):Env:=[(2,.box (encN t).cells),(3,.box (encN u).cells),(6,.val (.int .i64 i))]
set_option maxHeartbeats 8000000 in
theorem sameN_wp (hm:MonoC C) (hP:∀u u':PT,u.ok→PF C 21 [encT u,encT u'] (.bool (eqT u u')))
  {x y:PN} (ih:∀u,u.n<x.n→∀u',u.ok→PF C 23 [encN u,encN u'] (.bool (eqN u u'))) (hk:x.ok) :
  wpF gt C F23 [encN x,encN y] St.init (Ret (.bool (eqN x y))):=by
 obtain⟨k,a,b,c,leaf,h,kids,seps,t,e,f⟩:=x
 obtain⟨k',a',b',c',leaf',h',kids',seps',t',e',f'⟩:=y
 simp only [PN.ok] at hk
 obtain⟨q1,q2,q3,q4⟩:=hk
 have no:∀{S:St},¬PN.mk k a b c leaf h kids seps t e f=.mk k' a' b' c' leaf' h' kids' seps' t' e' f'→Ret (.bool (eqN (.mk k a b c leaf h kids seps t e f) (.mk k' a' b' c' leaf' h' kids' seps' t' e' f'))) (.ret (.bool false)) S:=fun h=>by rw [eqN_false h];exact Ret.sta trivial
 simp only [PN.mk.injEq] at no
 have l1:=strs_length seps
 have l2:=strs_length seps'
 have l3:=encNs_len kids
 have l4:=encNs_len kids'
 have hP:=hP leaf leaf' q1
 rw [encT_eq,encT_eq] at hP
 refine⟨rfl,?_⟩
 refine goW ?_
 by_cases z:k=k'
 case neg =>
  rw [neI_true z]
  refine goW ?_
  exact⟨_,rfl,no (by simp [z])⟩
 rw [neI_false z]
 subst z
 refine goW ?_
 by_cases z:a=a'
 case neg =>
  rw [beqB_false z]
  refine goW ?_
  exact⟨_,rfl,no (by simp [z])⟩
 rw [beqB_true z]
 subst z
 refine goW ?_
 by_cases z:b=b'
 case neg =>
  rw [beqB_false z]
  refine goW ?_
  exact⟨_,rfl,no (by simp [z])⟩
 rw [beqB_true z]
 subst z
 refine goW ?_
 by_cases z:c=c'
 case neg =>
  rw [beqB_false z]
  refine goW ?_
  exact⟨_,rfl,no (by simp [z])⟩
 rw [beqB_true z]
 subst z
 refine goW ?_
 by_cases z:h=h'
 case neg =>
  rw [beqB_false z]
  refine goW ?_
  exact⟨_,rfl,no (by simp [z])⟩
 rw [beqB_true z]
 subst z
 refine goW ?_
 by_cases z:t=t'
 case neg =>
  rw [beqB_false z]
  refine goW ?_
  exact⟨_,rfl,no (by simp [z])⟩
 rw [beqB_true z]
 subst z
 refine goW ?_
 by_cases z:e=e'
 case neg =>
  rw [beqB_false z]
  refine goW ?_
  exact⟨_,rfl,no (by simp [z])⟩
 rw [beqB_true z]
 subst z
 refine goW ?_
 by_cases z:f=f'
 case neg =>
  rw [neI_true z]
  refine goW ?_
  exact⟨_,rfl,no (by simp [z])⟩
 rw [neI_false z]
 subst z
 refine goW ?_
 by_cases z:((encNs kids).length:Int)=(encNs kids').length
 case neg =>
  rw [neI_true z]
  refine goW ?_
  exact⟨_,rfl,no fun hh=>z (by obtain⟨_,_,_,_,_,_,h7,h8,_⟩:=hh;rw [h7])⟩
 rw [neI_false z]
 have z3:=z
 clear z
 refine goW ?_
 by_cases z:((strs seps).length:Int)=(strs seps').length
 case neg =>
  rw [neI_true z]
  refine goW ?_
  exact⟨_,rfl,no fun hh=>z (by obtain⟨_,_,_,_,_,_,h7,h8,_⟩:=hh;rw [h8])⟩
 rw [neI_false z]
 have z4:=z
 clear z
 refine goW ?_
 refine call_pf hm (by rfl) hP (goW ?_)
 by_cases z:leaf=leaf'
 case neg =>
  rw [eqT_false z]
  refine goW ?_
  exact⟨_,rfl,no (by simp [z])⟩
 rw [eqT_true z]
 subst z
 refine goW ?_
 refine loop_rule hm (α:=Nat) (fun i env S'=>i≤seps.length∧env=E_same (.mk k a b c leaf h kids seps t e f) (.mk k a b c leaf h kids' seps' t e f) i∧S'=St.init∧seps.take i=seps'.take i) (fun i=>seps.length-i) ?_ (a:=0) ⟨Nat.zero_le _,rfl,rfl,rfl⟩
 rintro i env S' ⟨hi,rfl,rfl,hp⟩
 refine goW ?_
 by_cases hc:(i:Int)<(strs seps).length
 ·rw [dT hc]
  refine goW ?_
  have hik:i<seps.length:=by omega
  have hik':i<seps'.length:=by omega
  refine step_ruleDO rfl rfl (sx_ia (k:=i) rfl rfl (by omega)) (goW ?_)
  refine step_ruleDO rfl rfl (sx_ldEl (agg:=false) rfl rfl (strs_at hik) rfl) (goW ?_)
  refine step_ruleDO rfl rfl (sx_ia (k:=i) rfl rfl (by omega)) (goW ?_)
  refine step_ruleDO rfl rfl (sx_ldEl (agg:=false) rfl rfl (strs_at hik') rfl) (goW ?_)
  by_cases z:seps[i]=seps'[i]
  ·rw [beqB_true z]
   refine goW ?_
   refine⟨i+1,⟨by omega,?_,rfl,?_⟩,by omega⟩
   ·rw [wrNat (by omega)];try rfl
   ·rw [tS hik,tS hik',hp,z]
  ·rw [beqB_false z]
   refine goW ?_
   exact⟨_,rfl,no fun hh=>by obtain⟨_,_,_,_,_,_,_,rfl,_⟩:=hh;exact z rfl⟩
 rw [dF hc]
 refine goW ?_
 have hseps:seps=seps':=by
  rwa [List.take_of_length_le (by omega),List.take_of_length_le (by omega)] at hp
 clear hc hi hp
 refine loop_rule hm (α:=Nat) (fun i env S'=>i≤kids.length∧env=E_same2 (.mk k a b c leaf h kids seps t e f) (.mk k a b c leaf h kids' seps' t e f) i∧S'=St.init∧kids.take i=kids'.take i) (fun i=>kids.length-i) ?_ (a:=0) ⟨Nat.zero_le _,rfl,rfl,rfl⟩
 rintro i env S' ⟨hi,rfl,rfl,hp⟩
 refine goW ?_
 by_cases hc:(i:Int)<(encNs kids).length
 ·rw [dT hc]
  refine goW ?_
  have hik:i<kids.length:=by omega
  have hik':i<kids'.length:=by omega
  refine step_ruleDO rfl rfl (sx_ia (k:=i) rfl rfl (by omega)) (goW ?_)
  refine step_ruleDO rfl rfl (sx_ldEl (agg:=true) rfl rfl (encNs_get hik) (rdN _)) (goW ?_)
  refine step_ruleDO rfl rfl (sx_ia (k:=i) rfl rfl (by omega)) (goW ?_)
  refine step_ruleDO rfl rfl (sx_ldEl (agg:=true) rfl rfl (encNs_get hik') (rdN _)) (goW ?_)
  refine call_pfD hm (by rfl) (ih _ (kidN_lt hik) _ (PN.oks_get hik q4)) (goW ?_)
  by_cases z:kids[i]=kids'[i]
  ·rw [eqN_true z]
   refine goW ?_
   refine⟨i+1,⟨by omega,?_,rfl,?_⟩,by omega⟩
   ·rw [wrNat (by omega)];try rfl
   ·rw [tS hik,tS hik',hp,z]
  ·rw [eqN_false z]
   refine goW ?_
   exact⟨_,rfl,no fun hh=>by obtain⟨_,_,_,_,_,_,rfl,_⟩:=hh;exact z rfl⟩
 rw [dF hc]
 refine goW ?_
 have hkids:kids=kids':=by
  rwa [List.take_of_length_le (by omega),List.take_of_length_le (by omega)] at hp
 refine⟨_,rfl,?_⟩
 rw [eqN_true (by rw [hseps,hkids])]
 exact Ret.sta trivial
end
end Go.Dn

namespace Go.Dn
open Go Go.RowKit
def El (g:Bool) (es:Nat) (y:AV):Prop:=y.cells.length=es∧mkv g y.cells=some y
theorem cut_mid {pre m post:List AV} {n k:Nat} (hn:n=pre.length) (hk:k=m.length):cut (pre++(m++post)) n k=some m:=by
 subst hn;subst hk
 unfold cut
 rw [ble_true (by simp only [lA];omega)]
 simp
theorem cutAll_flat {g:Bool} {es:Nat}:∀{ys:List AV},(∀y∈ys,El g es y)→∀(pre post:List AV),cutAll g es (pre++(ys.flatMap AV.cells++post)) pre.length ys.length=some ys
 | [],_,_,_=>rfl
 | y::r,h,pre,post=>by
  obtain⟨h1,h2⟩:=h y (by simp)
  have ih:=cutAll_flat (ys:=r) (fun z hz=>h z (by simp [hz])) (pre++y.cells) post
  simp only [lC,cutAll,List.flatMap_cons,aA]
  rw [cut_mid rfl h1.symm]
  simp only [Option.bind_some,h2]
  rw [lA,h1,aA] at ih
  rw [ih]
theorem flat_length {es:Nat}:∀{ys:List AV},(∀y∈ys,y.cells.length=es)→(ys.flatMap AV.cells).length=ys.length*es
 | [],_=>by simp
 | y::r,h=>by
  have:=flat_length (ys:=r) fun z hz=>h z (by simp [hz])
  simp only [List.flatMap_cons,lA,lC,this,h y (by simp),Nat.add_mul];omega
theorem rd_mk {S:St} {t l b:Nat} {off:Nat} {cap:Option Nat} {nl:Bool} (h:RsOK S (.mk t l b)):rd S ⟨some (t,l),off,cap,nl⟩=.box b 0:=by
 simp only [rd,h.2.2]
theorem splice_mid {pre m post new m':List AV} {n off:Nat} (hn:n=pre.length+off) (hl:off+new.length≤m.length) (hm:m'=splice m off new):splice (pre++(m++post)) n new=pre++(m'++post):=by
 subst hn;subst hm
 unfold splice
 rw [List.take_append,List.drop_append]
 simp only [List.take_append,List.drop_append,aA]
 rw [List.take_of_length_le (l:=pre) (by omega),List.drop_of_length_le (l:=pre) (by omega)]
 rw [show pre.length+off-pre.length=off by omega,show pre.length+off+new.length-pre.length=off+new.length by omega]
 rw [show off-m.length=0 by omega,List.take_zero,show off+new.length-m.length=0 by omega,List.drop_zero]
 simp
theorem split_at {ys:List AV} {k:Nat} (h:k<ys.length):ys=ys.take k++ys[k]::ys.drop (k+1):=by
 rw [List.getElem_cons_drop,tkD]
theorem set_split {ys:List AV} {k:Nat} {v:AV} (h:k<ys.length):ys.set k v=ys.take k++v::ys.drop (k+1):=by
 rw [List.set_eq_take_append_cons_drop,if_pos h]
section
variable {gt:GT} {C:CallT} {S:St} {R:List Rs}
theorem arr_els (h:Hs S R) {i j:Nat} {b t l:Nat} {ty:TypeId} {ys post:List AV} {g:Bool} {es:Nat} (hi:R[i]? = some (.bx b ty (ys.flatMap AV.cells++post))) (hj:R[j]? = some (.mk t l b)) (hel:∀y∈ys,El g es y)
  {xs:List AV} {off:Nat} {cap:Option Nat} {nl:Bool} (hx:off+xs.length≤ys.length):elems S g es ⟨some (t,l),off,cap,nl⟩ xs=some ((ys.drop off).take xs.length):=by
 have hb:=(h.ok i _ hi).2
 have hm:=h.ok j _ hj
 unfold elems
 rw [rd_mk hm]
 simp only [hb]
 have e:ys=ys.take off++((ys.drop off).take xs.length++(ys.drop off).drop xs.length):=by rw [tkD,tkD]
 have hsz:∀y∈ys,y.cells.length=es:=fun y hy=>(hel y hy).1
 have:=cutAll_flat (g:=g) (es:=es) (ys:=(ys.drop off).take xs.length) (fun y hy=>hel y (List.mem_of_mem_drop (List.mem_of_mem_take hy))) ((ys.take off).flatMap AV.cells) (((ys.drop off).drop xs.length).flatMap AV.cells++post)
 rw [flat_length fun y hy=>hsz y (List.mem_of_mem_take hy),lT,lT,lD,Nat.min_eq_left (by omega),Nat.min_eq_left (by omega)] at this
 rw [Nat.zero_add,←this]
 congr 1
 conv=>lhs;rw [e]
 simp only [List.flatMap_append,aA]
theorem hs_mks {d:Option Nat} {env:Env} {ty:TypeId} {es bytes n c:Nat} {z:AV} {x y:DOpd} (h:Hs S R) (hl:(opd env x).bind nat? = some n) (hc:(opd env y).bind nat? = some c) (hle:n≤c) (hpos:0<c) (hb:c*bytes≤17592186044416) (hc2:c≤17592186044416) (hz:z.cells.length=es) :
  ∃t b S',stepO gt d env S (.mks ty es bytes z x y)=.done (putV d (.sl es ⟨some (t,t),0,some c,false⟩ (List.replicate n z)) env) S'∧Hs S' (R++[.bx b ty ((List.replicate c z).flatMap AV.cells)]++[.mk t t b]):=by
 have hfl:(List.replicate c z.cells).flatten=(List.replicate c z).flatMap AV.cells:=by
  clear hle hpos hb hc2 hc
  induction c with
  | zero=>rfl
  | succ c ih=>simp only [List.replicate_succ,List.flatten_cons,List.flatMap_cons,ih]
 refine⟨S.nt,S.nb,{ S with nb:=S.nb+1,boxes:=(S.nb,some (ty,(List.replicate c z).flatMap AV.cells))::S.boxes,nt:=S.nt+1,tip:=(S.nt,none)::S.tip,mv:=(S.nt,.bx S.nb 0)::S.mv },?_,?_⟩
 ·have hg:(Nat.ble n c && (Nat.ble (c*bytes) 17592186044416 && (Nat.ble c 17592186044416 && Nat.beq z.cells.length es)))=true:=by
   rw [ble_true hle,ble_true hb,ble_true hc2,hz,Nat.beq_refl];rfl
  have h0:Nat.beq c 0=false:=by
   cases hq:Nat.beq c 0 with
   | false=>rfl
   | true=>have:=bE hq;omega
  simp only [stepO,hl,hc,hg,cond_true,h0,cond_false,hfl]
 ·have h1:=h.newBox ty ((List.replicate c z).flatMap AV.cells)
  refine h1.more (S':={ S with nb:=S.nb+1,boxes:=(S.nb,some (ty,(List.replicate c z).flatMap AV.cells))::S.boxes,nt:=S.nt+1,tip:=(S.nt,none)::S.tip,mv:=(S.nt,.bx S.nb 0)::S.mv }) (r':=.mk S.nt S.nt S.nb) (fun t ht=>?_) ⟨Nat.le_succ _,Nat.le_refl _,Nat.le_refl _,fun t ht _=>⟨lk_ne _ _ (by simp only at ht;omega),lk_ne _ _ (by simp only at ht;omega)⟩,fun _ _ _=>rfl,fun t m ht hm=>?_,fun _ _ _=>rfl,fun _ _ _=>rfl⟩ ⟨Nat.lt_succ_self _,Nat.lt_succ_self _,lk_same _ _ _⟩ fun j s _=>?_
  ·simp only at ht ⊢
   have:=h.wf t (by omega)
   exact⟨by rw [lk_ne _ _ (by omega)];exact this.1,this.2⟩
  ·simp only at ht hm ⊢
   rw [lk_ne _ _ (by omega)];exact hm
  ·cases s<;>trivial
theorem arr_st (h:Hs S R) (i:Nat) {j:Nat} {b t l:Nat} {ty:TypeId} {ys post:List AV} {es:Nat} (hi:R[i]? = some (.bx b ty (ys.flatMap AV.cells++post))) (hj:R[j]? = some (.mk t l b)) (hsz:∀y∈ys,y.cells.length=es)
  {d:Option Nat} {env:Env} {a x:DOpd} {xs:List AV} {so k off sz:Nat} {cap:Option Nat} {nl:Bool} {v v':AV} (ha:loc env a=some (.el es ⟨some (t,l),so,cap,nl⟩ xs k off)) (hx:opd env x=some v) (hv:(Nat.beq v.cells.length sz && v.cells.all ok1)=true)
  (hk:k<xs.length) (hk2:so+k<ys.length) (ho:off+v.cells.length≤es) (hv':v'.cells=splice ys[so+k].cells off v.cells) :
  ∃S',stepO gt d env S (.st sz a x)=.done (putV d .undef env) S'∧Hs S' (R.set i (.bx b ty ((ys.set (so+k) v').flatMap AV.cells++post))):=by
 have hb:=(h.ok i _ hi).2
 have hm:=h.ok j _ hj
 have hfl:=flat_length hsz
 have hle:(so+k+1)*es≤ys.length*es:=Nat.mul_le_mul_right _ (by omega)
 rw [Nat.add_mul] at hle
 have hspl:splice (ys.flatMap AV.cells++post) (0+(so+k)*es+off) v.cells=(ys.set (so+k) v').flatMap AV.cells++post:=by
  rw [set_split hk2]
  conv=>lhs;rw [split_at hk2]
  simp only [List.flatMap_append,List.flatMap_cons,aA]
  refine splice_mid ?_ ?_ hv'
  ·rw [flat_length fun y hy=>hsz y (List.mem_of_mem_take hy),lT,Nat.min_eq_left (by omega)];omega
  ·rw [hsz _ (List.getElem_mem _)];exact ho
 refine⟨{ S with boxes:=(b,some (ty,(ys.set (so+k) v').flatMap AV.cells++post))::S.boxes },?_,h.boxTo hi _⟩
 have hg:(Nat.ble (off+v.cells.length) es && (Nat.blt k xs.length && Nat.ble (0+(so+k)*es+off+v.cells.length) (ys.flatMap AV.cells++post).length))=true:=by
  rw [ble_true ho,show Nat.blt k xs.length=true from Nat.ble_eq_true_of_le hk,ble_true (by rw [lA,hfl];omega)];rfl
 simp only [stepO,ha,hx,hv,cond_true,stL,rd_mk hm,hb,hg,hspl]
end
theorem r_mks {C:CallT} {gt:GT} {S:St} {R:List Rs} {d:Option Nat} {env:Env} {ty:TypeId} {es bytes n c:Nat} {z:AV} {x y:DOpd} {gd:Option (Nat×Bool)} {K:Env→St→Prop} {Q:Ex→Env→St→Prop} (h:Hs S R) (hg:Gd env gd) (hl:(opd env x).bind nat? = some n) (hc:(opd env y).bind nat? = some c) (hle:n≤c) (hpos:0<c) (hb:c*bytes≤17592186044416) (hc2:c≤17592186044416) (hz:z.cells.length=es)
  (k:∀t b S',Hs S' (R++[.bx b ty ((List.replicate c z).flatMap AV.cells)]++[.mk t t b])→K (putV d (.sl es ⟨some (t,t),0,some c,false⟩ (List.replicate n z)) env) S'):afterS C d env S K Q (stepI gt ⟨d,.mks ty es bytes z x y,gd⟩ env S):=by
 obtain⟨t,b,S',h1,h2⟩:=hs_mks (gt:=gt) (d:=d) h hl hc hle hpos hb hc2 hz
 exact st_any hg h1 (k t b S' h2)
end Go.Dn

namespace Go.Dn
open Go Go.Proofs.C1
set_option maxRecDepth 100000
attribute [local irreducible] afterS keepE
section
variable {gt:GT} {C:CallT}
end

section
variable {gt:GT} {C:CallT}
def PN.k:PN→Int |.mk k _ _ _ _ _ _ _ _ _ _=>k
def PN.key:PN→List UInt8 |.mk _ _ b _ _ _ _ _ _ _ _=>b
def PN.kids:PN→List PN |.mk _ _ _ _ _ _ kids _ _ _ _=>kids
theorem encN_parts (n:PN):∃a c k1 s1 x6 x7 h x10 t' e f,encN n=.agg [.int .i64 n.k,.str a,.str n.key,.str c,.int .i64 k1,.str s1,.sl 1 stat x6,.sl 4 stat x7,.str h,.sl 14 stat (encNs n.kids),.sl 1 stat x10,.str t',.str e,.int .i64 f]:=by
 cases n;exact⟨_,_,_,_,_,_,_,_,_,_,_,rfl⟩
end

theorem sx_ldHp {gt:GT} {d:Option Nat} {env:Env} {S:St} {a:DOpd} {id off sz:Nat} {ty:TypeId} {cs:List AV} {g:Bool} {v:AV} (ha:loc env a=some (.hp id off)) (hb:lk S.boxes id=some (some (ty,cs))) (hm:(cut cs off sz).bind (mkv g)=some v) :
  stepO gt d env S (.ld g sz a)=.done (putV d v env) S:=by
 simp only [stepO,ha,ldL,ldC,hb]
 cases hc:cut cs off sz with
 | none=>rw [hc] at hm;cases hm
 | some cs=>rw [hc] at hm;simp only [Option.bind_some] at hm;simp only [hm,SR.val]
theorem sx_stHp {gt:GT} {d:Option Nat} {env:Env} {S:St} {a x:DOpd} {id off sz:Nat} {ty:TypeId} {cs:List AV} {v:AV} (ha:loc env a=some (.hp id off)) (hx:opd env x=some v) (hok:(Nat.beq v.cells.length sz && v.cells.all ok1)=true) (hb:lk S.boxes id=some (some (ty,cs))) (hl:off+v.cells.length≤cs.length) :
  stepO gt d env S (.st sz a x)=.done (putV d .undef env) { S with boxes:=(id,some (ty,splice cs off v.cells))::S.boxes }:=by
 simp only [stepO,ha,hx,hok,cond_true,stL,hb,ble_true hl]
theorem set_at {α:Type} {R:List α} {i:Nat} {x y:α} (h:R[i]? = some x):(R.set i y)[i]? = some y:=by
 rw [List.getElem?_set_self',h];try rfl
def leafK (k:Int):Bool:=decide (1≤k∧k≤5)
def sepAt (seps:List (List UInt8)) (i:Nat):List UInt8:=if 0<i then (seps[i-1]?).getD [] else []
mutual
def flatB:PN→List UInt8
 |.mk k a _ c _ h kids seps t e _=>a++((if leafK k=true then c else h++(flatKs kids seps 0++t))++e)
def flatKs:List PN→List (List UInt8)→Nat→List UInt8
 | [],_,_=>[]
 | n::r,seps,i=>sepAt seps i++(flatB n++flatKs r seps (i+1))
end
theorem flatKs_step {kids:List PN} {seps:List (List UInt8)} {i:Nat} (h:i<kids.length):flatKs (kids.drop i) seps i=sepAt seps i++(flatB kids[i]++flatKs (kids.drop (i+1)) seps (i+1)):=by
 rw [dC h];try rfl
section
variable {gt:GT} {C:CallT}
theorem scalar_wp {k:Int}:wpF gt C F72 [.int .i64 k] St.init (Ret (.bool (leafK k))):=by
 refine⟨rfl,?_⟩
 refine goW ?_
 by_cases h:k ≥ 1
 ·rw [dT h]
  refine goW ?_
  refine⟨_,rfl,?_⟩
  rw [show leafK k=decide (k≤5) by simp only [leafK];congr 1;simp;intro;exact h]
  exact Ret.sta trivial
 ·rw [dF h]
  refine goW ?_
  refine⟨_,rfl,?_⟩
  rw [show leafK k=false by simp [leafK];omega]
  exact Ret.sta trivial
theorem leafR_wp {k:Int}:wpF gt C F48 [.int .i64 k] St.init (Ret (.bool (leafK k))):=by
 refine⟨rfl,?_⟩
 refine goW ?_
 by_cases h:k ≥ 1
 ·rw [dT h]
  refine goW ?_
  refine⟨_,rfl,?_⟩
  rw [show leafK k=decide (k≤5) by simp only [leafK];congr 1;simp;intro;exact h]
  exact Ret.sta trivial
 ·rw [dF h]
  refine goW ?_
  refine⟨_,rfl,?_⟩
  rw [show leafK k=false by simp [leafK];omega]
  exact Ret.sta trivial
theorem leaf_wp (hm:MonoC C) (hs:∀k,PF C 72 [.int .i64 k] (.bool (leafK k))) {n:PN}:wpF gt C F58 [encN n] St.init (Ret (.bool (leafK n.k))):=by
 obtain⟨k,a,b,c,leaf,h,kids,seps,t,e,f⟩:=n
 refine⟨rfl,?_⟩
 refine goW ?_
 refine call_pf hm (by rfl) (hs k) (goW ?_)
 exact⟨_,rfl,Ret.sta trivial⟩
def Tells (C:CallT) (f:FuncId) (cs:List AV) (L:Nat) (Φ:List UInt8→St→Prop):Prop :=
 ∀s acc S,acc.length+s.length≤L→Φ acc S→C f (.str s::cs) S fun r S'=>r=.ret (.tup [])∧Φ (acc++s) S'
abbrev E_pieces (f:FuncId) (cs:List AV) (n:PN) (kids:List PN) (i:Int):Env:=[(1,.val (.fn f [] cs)),(2,.box (encN n).cells),(21,.val (.sl 14 stat (encNs kids))),(22,.val (.int .i64 (encNs kids).length)),(23,.val (.int .i64 i))]
set_option maxHeartbeats 2000000 in
theorem pieces_wp (hm:MonoC C) {f:FuncId} {cs:List AV} {L:Nat} {Φ:List UInt8→St→Prop} (ht:Tells C f cs L Φ)
  (hl:∀n,PF C 58 [encN n] (.bool (leafK n.k)))
  {n:PN} (ih:∀u,u.n<n.n→u.ok→∀acc S,acc.length+(flatB u).length≤L→Φ acc S→C 36 [encN u,.fn f [] cs] S fun r S'=>r=.ret (.tup [])∧Φ (acc++flatB u) S') {acc:List UInt8} {S:St} (hL:acc.length+(flatB n).length≤L) (hb:n.ok) (hΦ:Φ acc S) :
  wpF gt C F36 [encN n,.fn f [] cs] S fun r S'=>r=.ret (.tup [])∧Φ (acc++flatB n) S':=by
 have hl:=hl n
 obtain⟨k,a,b,c,leaf,h,kids,seps,t,e,f'⟩:=n
 simp only [PN.ok] at hb
 obtain⟨q1,q2,q3,q4⟩:=hb
 have hlen:=encNs_len kids
 have hls:=strs_length seps
 simp only [flatB,lA] at hL
 simp only [flatB]
 refine⟨rfl,?_⟩
 refine goW ?_
 refine call_rule (by rfl) (hm _ _ _ _ _ (ht a acc S (by omega) hΦ) ?_)
 rintro r S1 ⟨rfl,hΦ⟩
 refine goW ?_
 refine call_pf hm (by rfl) hl ?_
 rw [show (PN.mk k a b c leaf h kids seps t e f').k=k from rfl]
 refine goW ?_
 cases hk:leafK k with
 | true =>
  refine goW ?_
  rw [hk,if_pos rfl] at hL
  refine call_rule (by rfl) (hm _ _ _ _ _ (ht c _ S1 (by simp only [lA];omega) hΦ) ?_)
  rintro r S2 ⟨rfl,hΦ⟩
  refine goW ?_
  refine call_rule (by rfl) (hm _ _ _ _ _ (ht e _ S2 (by simp only [lA];omega) hΦ) ?_)
  rintro r S3 ⟨rfl,hΦ⟩
  refine goW ?_
  refine⟨_,rfl,rfl,?_⟩
  rw [if_pos rfl,←aA,←aA]
  exact hΦ
 | false =>
  refine goW ?_
  simp only [hk,Bool.false_eq_true,if_false,lA] at hL
  refine call_rule (by rfl) (hm _ _ _ _ _ (ht h _ S1 (by simp only [lA];omega) hΦ) ?_)
  rintro r S2 ⟨rfl,hΦ⟩
  refine goW ?_
  refine loop_rule hm (α:=Nat) (fun i env S'=>i≤kids.length∧env=E_pieces f cs (.mk k a b c leaf h kids seps t e f') kids i∧∃out,Φ (acc++(a++(h++out))) S'∧flatKs kids seps 0=out++flatKs (kids.drop i) seps i) (fun i=>kids.length-i) ?_ (a:=0) ⟨Nat.zero_le _,rfl,[],by rw [List.append_nil,←aA];exact hΦ,rfl⟩
  clear hΦ
  rintro i env S' ⟨hi,rfl,out,hΦ,hp⟩
  refine goW ?_
  by_cases hc:(i:Int)<(encNs kids).length
  ·rw [dT hc]
   refine goW ?_
   have hik:i<kids.length:=by omega
   rw [flatKs_step hik] at hp
   have hlen2:=congrArg List.length hp
   simp only [lA] at hlen2
   refine step_ruleO (sx_ia (k:=i) rfl rfl (by omega)) (goW ?_)
   refine step_ruleO (sx_ldEl (agg:=true) rfl rfl (encNs_get hik) (rdN _)) ?_
   have ihk:=ih _ (kidN_lt hik) (PN.oks_get hik q4)
   obtain⟨w0,w1,w2,w3,w4,w5,w6,w7,w8,w9,w10,w11,w12,w13,he⟩:=encN_agg kids[i]
   rw [he] at ihk ⊢
   refine goW ?_
   by_cases h0:(i:Int) > 0
   ·rw [dT h0]
    refine goW ?_
    rw [wr64 (by omega) (by omega)]
    by_cases h1:(i:Int)-1<(strs seps).length
    ·rw [dT h1]
     refine goW ?_
     have hj:i-1<seps.length:=by omega
     have hsep:sepAt seps i=seps[i-1]:=by simp [sepAt,gE hj];omega
     refine step_ruleO (sx_ia (k:=i-1) rfl (by show nat? (.int .i64 (wr .i64 ((i:Int)-1)))=_;rw [wr64 (by omega) (by omega),show (i:Int)-1=((i-1:Nat):Int) by omega];rfl) (by omega)) (goW ?_)
     refine step_ruleO (sx_ldEl (agg:=false) rfl rfl (strs_at hj) rfl) (goW ?_)
     rw [hsep] at hp hlen2
     refine call_rule (by rfl) (hm _ _ _ _ _ (ht seps[i-1] _ S' (by simp only [lA];omega) hΦ) ?_)
     rintro r S4 ⟨rfl,hΦ⟩
     refine goW ?_
     refine call_rule (by rfl) (hm _ _ _ _ _ (ihk _ S4 (by simp only [lA];omega) hΦ) ?_)
     rintro r S5 ⟨rfl,hΦ⟩
     refine goW ?_
     refine⟨i+1,⟨by omega,?_,out++(seps[i-1]++flatB kids[i]),?_,?_⟩,by omega⟩
     ·rw [wrNat (by omega)];try rfl
     ·simpa only [aA] using hΦ
     ·rw [hp];simp only [aA]
    ·rw [dF h1]
     refine goW ?_
     have hsep:sepAt seps i=[]:=by simp only [sepAt];rw [List.getElem?_eq_none (by omega)];simp
     rw [hsep,List.nil_append] at hp
     refine call_rule (by rfl) (hm _ _ _ _ _ (ihk _ S' (by simp only [lA];omega) hΦ) ?_)
     rintro r S5 ⟨rfl,hΦ⟩
     refine goW ?_
     refine⟨i+1,⟨by omega,?_,out++flatB kids[i],?_,?_⟩,by omega⟩
     ·rw [wrNat (by omega)];try rfl
     ·simpa only [aA] using hΦ
     ·rw [hp];simp only [aA]
   ·rw [dF h0]
    refine goW ?_
    have hsep:sepAt seps i=[]:=by simp only [sepAt];rw [if_neg (by omega)]
    rw [hsep,List.nil_append] at hp
    refine call_rule (by rfl) (hm _ _ _ _ _ (ihk _ S' (by simp only [lA];omega) hΦ) ?_)
    rintro r S5 ⟨rfl,hΦ⟩
    refine goW ?_
    refine⟨i+1,⟨by omega,?_,out++flatB kids[i],?_,?_⟩,by omega⟩
    ·rw [wrNat (by omega)];try rfl
    ·simpa only [aA] using hΦ
    ·rw [hp];simp only [aA]
  ·rw [dF hc]
   refine goW ?_
   rw [List.drop_eq_nil_of_le (by omega)] at hp
   simp only [flatKs,List.append_nil] at hp
   subst hp
   refine call_rule (by rfl) (hm _ _ _ _ _ (ht t _ S' (by simp only [lA];omega) hΦ) ?_)
   rintro r S4 ⟨rfl,hΦ⟩
   refine goW ?_
   refine call_rule (by rfl) (hm _ _ _ _ _ (ht e _ S4 (by simp only [lA];omega) hΦ) ?_)
   rintro r S5 ⟨rfl,hΦ⟩
   refine goW ?_
   refine⟨_,rfl,rfl,?_⟩
   simpa only [aA,Bool.false_eq_true,if_false] using hΦ
def LenAt (acc:List UInt8) (S:St):Prop:=Hs S [.bx 0 3 [.int .i64 acc.length]]
set_option maxHeartbeats 2000000 in
theorem lenTell_wp {s acc:List UInt8} {S:St} (hL:acc.length+s.length≤4611686018427387904) (h:LenAt acc S):wpF gt C F39 [.str s,.ptr 0 0] S fun r S'=>r=.ret (.tup [])∧LenAt (acc++s) S':=by
 have h:=h
 unfold LenAt at h
 have hb:=(h.ok 0 _ rfl).2
 refine⟨rfl,?_⟩
 refine goW ?_
 refine step_ruleO (sx_ldHp rfl hb rfl) (goW ?_)
 refine step_ruleO (sx_stHp rfl rfl rfl hb (by simp [AV.cells])) (goW ?_)
 refine⟨_,rfl,rfl,?_⟩
 have:=h.boxTo (i:=0) rfl [.int .i64 ((acc++s).length:Int)]
 rw [wr64 (by omega) (by omega)]
 unfold LenAt
 simp only [lA,Int.natCast_add] at this ⊢
 exact this
set_option maxHeartbeats 2000000 in
theorem len_wp (hm:MonoC C) (hp:∀n:PN,n.ok→(flatB n).length≤4611686018427387904→∀acc S,acc.length+(flatB n).length≤4611686018427387904→LenAt acc S→C 36 [encN n,.fn 39 [] [.ptr 0 0]] S fun r S'=>r=.ret (.tup [])∧LenAt (acc++flatB n) S')
  {n:PN} (hb:n.ok) (hL:(flatB n).length≤4611686018427387904):wpF gt C F12 [encN n] St.init (Ret (.int .i64 (flatB n).length)):=by
 have hp:=hp n hb hL
 obtain⟨w0,w1,w2,w3,w4,w5,w6,w7,w8,w9,w10,w11,w12,w13,he⟩:=encN_agg n
 rw [he] at hp ⊢
 refine⟨rfl,?_⟩
 refine goW ?_
 refine call_rule (by rfl) (hm _ _ _ _ _ (hp [] _ (by simpa using hL) ((Hs.init.newBox 3 [.int .i64 0]).boxTo (i:=0) rfl [.int .i64 0])) ?_)
 rintro r S' ⟨rfl,h⟩
 unfold LenAt at h
 have hb:=(h.ok 0 _ rfl).2
 refine goW ?_
 refine step_ruleO (sx_ldHp rfl hb rfl) (goW ?_)
 exact⟨_,rfl,Ret.sta trivial⟩
end
end Go.Dn

namespace Go.Dn
open Go Go.RowKit
theorem Hs.bldT {S:St} {R:List Rs} (h:Hs S R) (ty:TypeId) (n:Nat):Hs { S with nt:=S.nt+1,tip:=(S.nt,some (n,ty,false))::S.tip } R ∧
  ∀(agg:Bool) (es:Nat) (xs:List AV),srcE { S with nt:=S.nt+1,tip:=(S.nt,some (n,ty,false))::S.tip } agg es (.sl es ⟨some (S.nt,S.nt),0,some n,false⟩ xs)=some xs:=by
 have hw:=h.wf S.nt (Nat.le_refl _)
 refine⟨?_,fun agg es xs=>?_⟩
 ·have:=h.more (S':={ S with nt:=S.nt+1,tip:=(S.nt,some (n,ty,false))::S.tip }) (r':=.gr ty ⟨none,0,some 0,true⟩ []) (fun t ht=>h.wf t (by simp only at ht;omega)) ⟨Nat.le_succ _,Nat.le_refl _,Nat.le_refl _,fun t ht _=>⟨lk_ne _ _ (by omega),rfl⟩,fun _ _ _=>rfl,fun _ _ _ h=>h,fun _ _ _=>rfl,fun _ _ _=>rfl⟩ (.inl ⟨rfl,rfl,rfl,rfl⟩) fun j s _=>by
   cases s<;>simp [RsDj]
  exact this.less id (fun i j _ _ e=>e) fun i hi=>by rw [id,List.getElem?_append_left hi]
 ·simp only [srcE,Nat.beq_refl,cond_true,elems,rd,hw.1,hw.2]
end Go.Dn

namespace Go.Dn
open Go Go.Proofs.C1
set_option maxRecDepth 100000
attribute [local irreducible] afterS keepE
theorem ofBytes_app (a b:List UInt8):ofBytes (a++b)=ofBytes a++ofBytes b:=by simp [ofBytes]
theorem ofBytes_len (a:List UInt8):(ofBytes a).length=a.length:=by simp [ofBytes]
theorem ofBytes_ok:∀a:List UInt8,((ofBytes a).flatMap AV.cells).all ok1=true
 | []=>rfl
 | x::r=>by simp [ofBytes,AV.cells,ok1]
theorem bytes_of:∀a:List UInt8,bytes? (ofBytes a)=some a
 | []=>rfl
 | x::r=>by
  have:=bytes_of r
  simp only [ofBytes] at this
  simp [ofBytes,bytes?,this]
theorem sx_cvBS {gt:GT} {d:Option Nat} {env:Env} {S:St} {x:DOpd} {o:SI} {xs ys:List AV} {s:List UInt8} (hx:opd env x=some (.sl 1 o xs)) (he:elems S false 1 o xs=some ys) (hy:bytes? ys=some s) :
  stepO gt d env S (.cvBS x)=.done (putV d (.str s) env) S:=by
 simp only [stepO,hx,he,Option.bind_some,hy,Option.map_some,SR.val]

section
variable {gt:GT} {C:CallT}
def Flats (C:CallT) (f:FuncId) (n:PN):Prop:=∀S R i o xs,Hs S R→R[i]? = some (.gr 5 o xs)→xs.length+(flatB n).length≤140737488355328 →
 C f [.sl 1 o xs,encN n] S fun r S'=>∃o' ys,r=.ret (.sl 1 o' ys)∧Hs S' (R.set i (.gr 5 o' ys))∧ys=xs++ofBytes (flatB n)
abbrev E_flat (n:PN) (o:SI) (ys:List AV) (i:Int):Env:=[(0,.val (.sl 1 o ys)),(3,.box (encN n).cells),(5,.val (.int .i64 i))]
set_option maxHeartbeats 2000000 in
theorem flat_wp (hm:MonoC C) (hlf:∀k,PF C 48 [.int .i64 k] (.bool (leafK k))) {n:PN} (ih:∀u,u.n<n.n→u.ok→Flats C 47 u) (hb:n.ok) {S:St} {R:List Rs} {j:Nat} {o:SI} {xs:List AV} (hR:Hs S R) (hj:R[j]? = some (.gr 5 o xs)) (hL:xs.length+(flatB n).length≤140737488355328) :
  wpF gt C F47 [.sl 1 o xs,encN n] S fun r S'=>∃o' ys,r=.ret (.sl 1 o' ys)∧Hs S' (R.set j (.gr 5 o' ys))∧ys=xs++ofBytes (flatB n):=by
 obtain⟨k,a,b,c,leaf,h,kids,seps,t,e,f⟩:=n
 simp only [PN.ok] at hb
 obtain⟨q1,q2,q3,q4⟩:=hb
 have hlen:=encNs_len kids
 have hls:=strs_length seps
 simp only [flatB,lA] at hL
 simp only [flatB]
 refine⟨rfl,?_⟩
 refine goW ?_
 refine r_app hR j hj trivial rfl rfl rfl (by rw [ofBytes_len];omega) (by rw [ofBytes_len];omega) (by decide) (by decide) (ofBytes_ok a) ?_
 generalize hy:xs++ofBytes a=ys
 intro o1 S1 hR
 have hj1:=set_at (y:=Rs.gr 5 o1 ys) hj
 have ly:=congrArg List.length hy
 simp only [lA,ofBytes_len] at ly
 refine goW ?_
 refine call_pf hm (by rfl) (hlf k) (goW ?_)
 cases hk:leafK k with
 | true =>
  refine goW ?_
  rw [hk,if_pos rfl] at hL
  refine r_appD hR j hj1 (by trivial) rfl rfl rfl (by rw [ofBytes_len];omega) (by rw [ofBytes_len];omega) (by decide) (by decide) (ofBytes_ok c) ?_
  generalize hy2:ys++ofBytes c=ys2
  intro o2 S2 hR
  rw [List.set_set] at hR
  have hj2:=set_at (y:=Rs.gr 5 o2 ys2) hj
  have ly2:=congrArg List.length hy2
  simp only [lA,ofBytes_len] at ly2
  refine goW ?_
  refine r_appD hR j hj2 (by trivial) rfl rfl rfl (by rw [ofBytes_len];omega) (by rw [ofBytes_len];omega) (by decide) (by decide) (ofBytes_ok e) ?_
  intro o3 S3 hR
  rw [List.set_set] at hR
  refine goW ?_
  refine⟨_,rfl,_,_,rfl,hR,?_⟩
  rw [if_pos rfl,←hy2,←hy]
  simp only [ofBytes_app,aA]
 | false =>
  refine goW ?_
  simp only [hk,Bool.false_eq_true,if_false,lA] at hL
  refine r_app hR j hj1 trivial rfl rfl rfl (by rw [ofBytes_len];omega) (by rw [ofBytes_len];omega) (by decide) (by decide) (ofBytes_ok h) ?_
  generalize hy2:ys++ofBytes h=ys2
  intro o2 S2 hR
  rw [List.set_set] at hR
  clear hj1 ly
  refine goW ?_
  refine loop_rule hm (α:=Nat) (fun i env S'=>i≤kids.length∧∃o ys out,Hs S' (R.set j (.gr 5 o ys))∧env=E_flat (.mk k a b c leaf h kids seps t e f) o ys i∧ys=xs++ofBytes (a++(h++out))∧flatKs kids seps 0=out++flatKs (kids.drop i) seps i) (fun i=>kids.length-i) ?_ (a:=0) ⟨Nat.zero_le _,o2,ys2,[],hR,rfl,by rw [←hy2,←hy];simp [ofBytes_app],rfl⟩
  rintro i env S' ⟨hi,o1,ys,out,hR,rfl,hy,hp⟩
  have hj1:=set_at (y:=Rs.gr 5 o1 ys) hj
  have ly:=congrArg List.length hy
  simp only [lA,ofBytes_len] at ly
  refine goW ?_
  by_cases hc:(i:Int)<(encNs kids).length
  ·rw [dT hc]
   refine goW ?_
   have hik:i<kids.length:=by omega
   rw [flatKs_step hik] at hp
   have hlen2:=congrArg List.length hp
   simp only [lA] at hlen2
   have ihk:=ih _ (kidN_lt hik) (PN.oks_get hik q4)
   unfold Flats at ihk
   have hge:=encNs_get hik
   have hrd:=rdN kids[i]
   obtain⟨w0,w1,w2,w3,w4,w5,w6,w7,w8,w9,w10,w11,w12,w13,he⟩:=encN_agg kids[i]
   rw [he] at ihk hge hrd
   by_cases h0:(i:Int) > 0
   ·rw [dT h0]
    refine goW ?_
    rw [wr64 (by omega) (by omega)]
    by_cases h1:(i:Int)-1<(strs seps).length
    ·rw [dT h1]
     refine goW ?_
     have hjj:i-1<seps.length:=by omega
     have hsep:sepAt seps i=seps[i-1]:=by simp [sepAt,gE hjj];omega
     rw [hsep] at hp hlen2
     refine step_ruleO (sx_ia (k:=i-1) rfl (by show nat? (.int .i64 (wr .i64 ((i:Int)-1)))=_;rw [wr64 (by omega) (by omega),show (i:Int)-1=((i-1:Nat):Int) by omega];rfl) (by omega)) (goW ?_)
     refine step_ruleO (sx_ldEl (agg:=false) rfl rfl (strs_at hjj) rfl) (goW ?_)
     refine r_app hR j hj1 trivial rfl rfl rfl (by rw [ofBytes_len];omega) (by rw [ofBytes_len];omega) (by decide) (by decide) (ofBytes_ok _) ?_
     generalize hy2:ys++ofBytes seps[i-1]=ys2
     intro o2 S2 hR
     rw [List.set_set] at hR
     have hj2:=set_at (y:=Rs.gr 5 o2 ys2) hj
     have ly2:=congrArg List.length hy2
     simp only [lA,ofBytes_len] at ly2
     refine goW ?_
     refine step_ruleO (sx_ia (k:=i) rfl rfl (by omega)) (goW ?_)
     refine step_ruleO (sx_ldEl (agg:=true) rfl rfl hge hrd) (goW ?_)
     refine call_rule (by rfl) (hm _ _ _ _ _ (ihk S2 _ j o2 ys2 hR hj2 (by omega)) ?_)
     rintro r S3 ⟨o3,ys3,rfl,hR,hy3⟩
     rw [List.set_set] at hR
     refine goW ?_
     refine⟨i+1,⟨by omega,o3,ys3,out++(seps[i-1]++flatB kids[i]),hR,?_,?_,?_⟩,by omega⟩
     ·rw [wrNat (by omega)];try rfl
     ·rw [hy3,←hy2,hy];simp only [ofBytes_app,aA]
     ·rw [hp];simp only [aA]
    ·rw [dF h1]
     refine goW ?_
     have hsep:sepAt seps i=[]:=by simp only [sepAt];rw [List.getElem?_eq_none (by omega)];simp
     rw [hsep,List.nil_append] at hp
     refine step_ruleO (sx_ia (k:=i) rfl rfl (by omega)) (goW ?_)
     refine step_ruleO (sx_ldEl (agg:=true) rfl rfl hge hrd) (goW ?_)
     refine call_rule (by rfl) (hm _ _ _ _ _ (ihk S' _ j o1 ys hR hj1 (by omega)) ?_)
     rintro r S3 ⟨o3,ys3,rfl,hR,hy3⟩
     rw [List.set_set] at hR
     refine goW ?_
     refine⟨i+1,⟨by omega,o3,ys3,out++flatB kids[i],hR,?_,?_,?_⟩,by omega⟩
     ·rw [wrNat (by omega)];try rfl
     ·rw [hy3,hy];simp only [ofBytes_app,aA]
     ·rw [hp];simp only [aA]
   ·rw [dF h0]
    refine goW ?_
    have hsep:sepAt seps i=[]:=by simp only [sepAt];rw [if_neg (by omega)]
    rw [hsep,List.nil_append] at hp
    refine step_ruleO (sx_ia (k:=i) rfl rfl (by omega)) (goW ?_)
    refine step_ruleO (sx_ldEl (agg:=true) rfl rfl hge hrd) (goW ?_)
    refine call_rule (by rfl) (hm _ _ _ _ _ (ihk S' _ j o1 ys hR hj1 (by omega)) ?_)
    rintro r S3 ⟨o3,ys3,rfl,hR,hy3⟩
    rw [List.set_set] at hR
    refine goW ?_
    refine⟨i+1,⟨by omega,o3,ys3,out++flatB kids[i],hR,?_,?_,?_⟩,by omega⟩
    ·rw [wrNat (by omega)];try rfl
    ·rw [hy3,hy];simp only [ofBytes_app,aA]
    ·rw [hp];simp only [aA]
  ·rw [dF hc]
   refine goW ?_
   rw [List.drop_eq_nil_of_le (by omega)] at hp
   simp only [flatKs,List.append_nil] at hp
   subst hp
   refine r_appD hR j hj1 (by trivial) rfl rfl rfl (by rw [ofBytes_len];omega) (by rw [ofBytes_len];omega) (by decide) (by decide) (ofBytes_ok t) ?_
   generalize hy2:ys++ofBytes t=ys2
   intro o2 S2 hR
   rw [List.set_set] at hR
   have hj2:=set_at (y:=Rs.gr 5 o2 ys2) hj
   have ly2:=congrArg List.length hy2
   simp only [lA,ofBytes_len] at ly2
   refine goW ?_
   refine r_appD hR j hj2 (by trivial) rfl rfl rfl (by rw [ofBytes_len];omega) (by rw [ofBytes_len];omega) (by decide) (by decide) (ofBytes_ok e) ?_
   intro o3 S3 hR
   rw [List.set_set] at hR
   refine goW ?_
   refine⟨_,rfl,_,_,rfl,hR,?_⟩
   rw [←hy2,hy]
   simp only [ofBytes_app,aA,Bool.false_eq_true,if_false]
set_option maxHeartbeats 2000000 in
theorem flatten_wp (hm:MonoC C) (hf:∀n:PN,n.ok→(flatB n).length≤140737488355328→Flats C 47 n) {n:PN} (hb:n.ok) (hL:(flatB n).length≤140737488355328):wpF gt C F19 [encN n] St.init (Ret (.str (flatB n))):=by
 have hf:=hf n hb hL
 unfold Flats at hf
 obtain⟨w0,w1,w2,w3,w4,w5,w6,w7,w8,w9,w10,w11,w12,w13,he⟩:=encN_agg n
 rw [he] at hf ⊢
 refine⟨rfl,?_⟩
 refine goW ?_
 refine call_ruleD (by rfl) (hm _ _ _ _ _ (hf _ _ 0 _ _ (Hs.init.addNil 5 false) rfl (by simpa using hL)) ?_)
 rintro r S' ⟨o',ys,rfl,hR,hy⟩
 rw [List.nil_append] at hy
 subst hy
 refine goW ?_
 have hel:=(hR.ok 0 _ rfl).els false 1
 refine step_ruleDO rfl rfl (sx_cvBS rfl hel (bytes_of _)) (goW ?_)
 exact⟨_,rfl,Ret.sta trivial⟩
end

def PN.seps:PN→List (List UInt8) |.mk _ _ _ _ _ _ _ seps _ _ _=>seps
def sumLen:List (List UInt8)→Nat
 | []=>0
 | s::r=>s.length+sumLen r
mutual
def PN.tb:PN→Nat
 |.mk _ a _ c _ h kids seps t e _=>a.length+c.length+h.length+t.length+e.length+PN.tbs kids+sumLen seps
def PN.tbs:List PN→Nat
 | []=>0
 | n::r=>n.tb+PN.tbs r
end
theorem sumLen_drop (l:List (List UInt8)) (j:Nat):sumLen (l.drop j)=((l[j]?).getD []).length+sumLen (l.drop (j+1)):=by
 induction l generalizing j with
 | nil=>simp [sumLen]
 | cons a r ih =>
  cases j with
  | zero=>simp [sumLen]
  | succ j=>simpa using ih j
mutual
theorem flatB_le:∀n:PN,(flatB n).length≤n.tb
 |.mk k a b c leaf h kids seps t e f=>by
  have:=flatKs_le kids seps 0
  simp only [flatB,PN.tb,lA]
  simp only [Nat.zero_sub,List.drop_zero] at this
  split
  ·omega
  ·simp only [lA];omega
theorem flatKs_le:∀(kids:List PN) (seps:List (List UInt8)) (i:Nat),(flatKs kids seps i).length≤PN.tbs kids+sumLen (seps.drop (i-1))
 | [],seps,i=>by simp [flatKs]
 | n::r,seps,i=>by
  have h1:=flatB_le n
  have h2:=flatKs_le r seps (i+1)
  simp only [flatKs,PN.tbs,lA]
  by_cases h0:0<i
  ·have h3:=sumLen_drop seps (i-1)
   rw [show i-1+1=i by omega] at h3
   rw [show i+1-1=i by omega] at h2
   simp only [sepAt,if_pos h0]
   omega
  ·have:i=0:=by omega
   subst this
   simp only [sepAt,Nat.lt_irrefl,if_false,List.length_nil]
   simp only [Nat.zero_add,Nat.sub_self,List.drop_zero] at h2
   simp only [Nat.zero_add,Nat.zero_sub,List.drop_zero]
   omega
end
def PN.zero:PN:=.mk 0 [] [] [] (.mk 0 [] [] []) [] [] [] [] [] 0
section
variable {gt:GT} {C:CallT}
end

section
variable {gt:GT} {C:CallT}
end
end Go.Dn

namespace Go.Dn
open Go Go.RowKit
mutual
def bulkA:AV→Nat
 |.str s=>s.length+1
 |.sl _ _ xs=>bulkAs xs+1
 |.agg cs=>bulkAs cs+1
 | _=>1
def bulkAs:List AV→Nat
 | []=>0
 | x::r=>bulkA x+bulkAs r
end
theorem bulkAs_app (a b:List AV):bulkAs (a++b)=bulkAs a+bulkAs b:=by
 induction a with
 | nil=>simp [bulkAs]
 | cons x r ih=>simp only [List.cons_append,bulkAs,ih];omega
structure IsUb {H:Type} (ub:DataW H→Nat) (ubAll:List (DataW H)→Nat):Prop where
 lit:∀l,1≤ub (.lit l)
 str:∀s,s.length+1≤ub (.lit (.string s))
 nil:1≤ub .nil
 slice:∀a b,ub (.slice a b)=ubAll a+ubAll b+1
 agg:∀a,ub (.agg a)=ubAll a+1
 none:ubAll []=0
 cons:∀d r,ubAll (d::r)=ub d+ubAll r
def sb (P:Program) (t:TypeId):Nat:=match P.underlying t with
 | some (.struct _)=>1
 | _=>0
def AVB (P:Program):Nat→TypeId→List AV→Prop
 | 0,_,_=>False
 | d+1,t,xs=>match P.underlying t with
  | some .bool=>∃b,xs=[.bool b]
  | some (.int k)=>∃n,xs=[.int k n]∧(Lit.int k n).wf=true
  | some .string=>∃s,xs=[.str s]∧s.length≤maxLen
  | some (.slice e)=>∃ys,xs=[.sl (P.cellsOf e) stat ys]∧∀y∈ys,AVB P d e y.cells∧(isAggP P e=some true→∃cs,y=.agg cs)∧(isAggP P e=some false→y.cells=[y])
  | some (.struct fs)=>xs.length=P.cellsOf t∧∀f∈fs.toList,AVB P d f.type ((xs.drop f.offset).take (P.cellsOf f.type))
  | _=>False
section
variable {P:Program} {W:World} {H:Type} {enc:TypeId×Value→H}
theorem elem_avb {g:Bool} {e:TypeId} {d:Nat} (hg:isAggP P e=some g) {cs:List Value} {xs:List AV} (hr:Rl St.init (G0 W) W xs cs) (ht:AVB P d e xs) :
  ∃y v,y.cells=xs∧v.cells.toList=cs∧Rv St.init (G0 W) W y v∧(g=true→∃zs,y=.agg zs)∧(g=false→y.cells=[y]):=by
 cases g with
 | true=>exact⟨.agg xs,.agg ⟨cs⟩,rfl,rfl,by simp only [Rv];exact⟨_,rfl,hr⟩,fun _=>⟨_,rfl⟩,fun h=>by cases h⟩
 | false =>
  have hone:∃x,xs=[x]∧x.cells=[x]∧∀zs,x≠.agg zs:=by
   cases d with
   | zero=>exact ht.elim
   | succ d =>
    unfold AVB at ht
    unfold isAggP at hg
    split at ht
    ·obtain⟨b,rfl⟩:=ht;exact⟨_,rfl,rfl,fun zs h=>by cases h⟩
    ·obtain⟨n,rfl,_⟩:=ht;exact⟨_,rfl,rfl,fun zs h=>by cases h⟩
    ·obtain⟨s,rfl,_⟩:=ht;exact⟨_,rfl,rfl,fun zs h=>by cases h⟩
    ·obtain⟨ys,rfl,_⟩:=ht;exact⟨_,rfl,rfl,fun zs h=>by cases h⟩
    ·rename_i fs hu;rw [hu] at hg;cases hg
    ·exact ht.elim
  obtain⟨x,rfl,hx,hna⟩:=hone
  simp only [Rl] at hr
  obtain⟨v,r,rfl,hv,rfl⟩:=hr
  refine⟨x,v,hx,?_,hv,(fun h=>by cases h),fun _=>hx⟩
  rw [Value.cells_of_not_agg (hv.not_agg hna)]
theorem fields_avb {ub:DataW H→Nat} {ubAll:List (DataW H)→Nat} (hub:IsUb ub ubAll) {d:Nat}:∀(fs:List Field) (ds:List (DataW H)) (n m:Nat) (cs:List Value),fieldsAt P fs n=some m→cs.length=m→ds.length=fs.length →
  (∀(i:Nat) (f:Field),fs[i]? = some f→∃(dd:DataW H) (xs:List AV),ds[i]? = some dd∧Rl St.init (G0 W) W xs ((cs.drop f.offset).take (P.cellsOf f.type))∧AVB P d f.type xs∧bulkAs xs≤ub dd) →
  n≤m∧(∀f∈fs,n≤f.offset)∧∃xs,Rl St.init (G0 W) W xs (cs.drop n)∧(∀f∈fs,AVB P d f.type ((xs.drop (f.offset-n)).take (P.cellsOf f.type)))∧bulkAs xs≤ubAll ds
 | [],ds,n,m,cs,h,hl,_,_=>by
  simp only [fieldsAt,oI] at h
  subst h
  refine⟨Nat.le_refl _,fun f hf=>(by cases hf),[],?_,fun f hf=>(by cases hf),by simp [bulkAs]⟩
  rw [List.drop_of_length_le (by omega)]
  exact Rl.nil
 | f::r,[],n,m,cs,h,hl,hd,hf=>by simp at hd
 | f::r,d0::ds,n,m,cs,h,hl,hd,hf=>by
  simp only [fieldsAt] at h
  split at h
  ·rename_i ho
   obtain⟨h1,h2,xr,h3,h4,h5⟩:=fields_avb hub r ds _ m cs h hl (by simpa using hd) fun i g hg=>by simpa using hf (i+1) g (by simpa using hg)
   obtain⟨dd,xf,e0,g1,g2,g3⟩:=hf 0 f rfl
   simp only [List.getElem?_cons_zero,oI] at e0
   subst e0
   rw [ho] at g1
   have hxf:xf.length=P.cellsOf f.type:=by
    have:=g1.length
    rw [lT,lD] at this
    omega
   refine⟨by omega,fun g hg=>?_,xf++xr,?_,fun g hg=>?_,by rw [bulkAs_app,hub.cons];omega⟩
   ·rcases List.mem_cons.1 hg with rfl | hg
    ·omega
    ·have:=h2 g hg;omega
   ·have:=g1.append h3
    rwa [←List.drop_drop,tkD] at this
   ·rcases List.mem_cons.1 hg with rfl | hg
    ·rw [ho,Nat.sub_self,List.drop_zero,List.take_append_of_le_length (by omega),List.take_of_length_le (by omega)]
     exact g2
    ·have hgo:=h2 g hg
     have:=h4 g hg
     rw [List.drop_append,List.drop_of_length_le (by omega),List.nil_append,hxf,show g.offset-n-P.cellsOf f.type=g.offset-(n+P.cellsOf f.type) by omega]
     exact this
  ·cases h
theorem trod_avb {ub:DataW H→Nat} {ubAll:List (DataW H)→Nat} (hub:IsUb ub ubAll) {L:List TypeId} (hL:okTypes P L=true):∀(fuel:Nat) (t:TypeId) (cs:List Value) (x:DataW H×List MemPlace),t∈L→DataW.trod enc P W 0 (fun _=>true) true fuel t cs=some x →
  ∃xs,Rl St.init (G0 W) W xs cs∧AVB P fuel t xs∧bulkAs xs+sb P t≤ub x.1
 | 0,_,_,_,_,h=>by simp [DataW.trod] at h
 | fuel+1,t,cs,x,ht,h=>by
  have hok:=List.all_eq_true.1 hL t ht
  unfold okType at hok
  unfold AVB
  have hsb:∀{td},P.underlying t=some td→sb P t=match td with |.struct _=>1 | _=>0:=fun {td} h=>by unfold sb;rw [h];cases td<;>rfl
  cases hu:P.underlying t with
  | none=>rw [hu] at hok;cases hok
  | some td =>
  rw [hu] at hok
  cases td<;>simp only [Bool.false_eq_true] at hok
  case bool =>
   obtain⟨b,rfl,rfl⟩:=DataW.trod_bool hu h
   exact⟨[.bool b],Rl.cons (by simp only [Rv]) Rl.nil,⟨b,rfl⟩,by rw [hsb hu];have:=hub.lit (.bool b);simp only [bulkAs,bulkA];omega⟩
  case int k =>
   obtain⟨n,rfl,rfl,hwf⟩:=DataW.trod_int hu h
   exact⟨[.int k n],Rl.cons (by simp only [Rv]) Rl.nil,⟨n,rfl,hwf⟩,by rw [hsb hu];have:=hub.lit (.int k n);simp only [bulkAs,bulkA];omega⟩
  case string =>
   obtain⟨s,rfl,rfl,hs⟩:=DataW.trod_string hu h
   exact⟨[.str s.data.toList],Rl.cons (by simp only [Rv]) Rl.nil,⟨_,rfl,by simpa using hs⟩,by rw [hsb hu];have:=hub.str s.data.toList;simp only [bulkAs,bulkA];omega⟩
  case slice e =>
   simp only [bA] at hok
   have heL:=any_mem hok.1
   have hc0:=blt_lt hok.2
   rcases DataW.trod_slice hu h with⟨rfl,rfl⟩ | ⟨a,len,cap,elems,rest,n,hn,rfl,hx,_,hl,hm,hlen,hel,hsp,_⟩
   ·refine⟨[.sl (P.cellsOf e) stat []],Rl.cons ?_ Rl.nil,⟨[],rfl,fun y hy=>by cases hy⟩,by rw [hsb hu];have:=hub.nil;simp only [bulkAs,bulkA];omega⟩
    simp only [Rv]
    exact⟨none,0,0,rfl,⟨rfl,Nat.le_refl _,by simp [stat],(fun c hc=>by cases hc),(fun _=>rfl),(fun p hp=>by cases hp)⟩,(fun _ p hp=>by cases hp)⟩
   ·cases hn
    obtain⟨hrl,hrest⟩:=hsp rfl
    subst hx
    have cellsAt:∀i,i<cap→∃cs' y,W.cells? 0 (a.add (i*P.cellsOf e)) (P.cellsOf e)=some cs'∧DataW.trod enc P W 0 (fun _=>true) true fuel e cs'=some y:=fun i hi=>by
     have:∃y,(W.cells? 0 (a.add (i*P.cellsOf e)) (P.cellsOf e)).bind (DataW.trod enc P W 0 (fun _=>true) true fuel e)=some y:=by
      by_cases h':i<len
      ·exact⟨_,(hel i h').trans (gE (by omega))⟩
      ·have:=hrest (i-len) (by omega)
       rw [show len+(i-len)=i by omega] at this
       exact⟨_,this.trans (gE (by omega))⟩
     obtain⟨y,hy⟩:=this
     obtain⟨cs',e1,e2⟩:=Option.bind_eq_some_iff.1 hy
     exact⟨cs',y,e1,e2⟩
    have hge:∃g,isAggP P e=some g:=by
     have:=List.all_eq_true.1 hL e heL
     unfold okType at this
     unfold isAggP
     split at this<;>first | (cases this;done) | skip
     all_goals rename_i hh;rw [hh];exact⟨_,rfl⟩
    obtain⟨g,hg⟩:=hge
    have hspot:0<cap→a.spot=none:=fun hc=>by
     obtain⟨cs',y,e1,_⟩:=cellsAt 0 hc
     obtain⟨l1,l2⟩:=cells_get e1
     have:=l2 0 hc0
     rw [Nat.zero_mul] at this
     have ha:(a.add 0).add 0=a:=by simp [Addr.add]
     rw [ha] at this
     cases hs:a.spot with
     | none=>rfl
     | some s =>
      exfalso
      have h0:cs'[0]? = some cs'[0]:=gE (by omega)
      rw [h0] at this
      unfold World.cell? at this
      split at this
      ·simp [hs] at this
      ·cases this
    have cellAt:∀i,i<cap→∃cs',cs'.length=P.cellsOf e∧(∀j,j<P.cellsOf e→W.cell? ⟨a.block,a.off+i*P.cellsOf e+j,none⟩=cs'[j]?)∧∃y,DataW.trod enc P W 0 (fun _=>true) true fuel e cs'=some y:=fun i hi=>by
     obtain⟨cs',y,e1,e2⟩:=cellsAt i hi
     obtain⟨l1,l2⟩:=cells_get e1
     refine⟨cs',l1,fun j hj=>?_,y,e2⟩
     rw [←l2 j hj]
     have hs:=hspot (by omega)
     obtain⟨ab,ao,asp⟩:=a
     simp only at hs
     subst hs
     rw [add_none,add_none]
    obtain⟨ys,hy1,hy2⟩:=seq_ex (n:=len) (R:=fun i y=>(∃d,elems[i]? = some d∧bulkA y≤ub d.1)∧AVB P fuel e y.cells∧((isAggP P e=some true→∃zs,y=.agg zs)∧(isAggP P e=some false→y.cells=[y]))∧∃v,Rv St.init (G0 W) W y v∧v.cells.size=P.cellsOf e∧∀j,j<P.cellsOf e→W.cell? ⟨a.block,a.off+i*P.cellsOf e+j,none⟩=v.cells[j]?) fun i hi=>by
     have hq:=(hel i hi).trans (gE (by omega))
     obtain⟨cs0,e1,e2⟩:=Option.bind_eq_some_iff.1 hq
     obtain⟨cs',l1,l2,_⟩:=cellAt i (by omega)
     have hcs:cs'=cs0:=by
      obtain⟨m1,m2⟩:=cells_get e1
      apply List.ext_getElem?
      intro j
      by_cases hj:j<P.cellsOf e
      ·rw [←l2 j hj,←m2 j hj]
       have hs:=hspot (by omega)
       obtain⟨ab,ao,asp⟩:=a
       simp only at hs
       subst hs
       rw [add_none,add_none]
      ·rw [List.getElem?_eq_none (by omega),List.getElem?_eq_none (by omega)]
     subst hcs
     obtain⟨xs,r1,r2,r3⟩:=trod_avb hub hL fuel e cs' _ heL e2
     obtain⟨z,v,z1,z2,z3,z4,z5⟩:=elem_avb hg r1 r2
     refine⟨z,⟨_,gE (by omega),?_⟩,by rw [z1];exact r2,⟨fun h'=>z4 (by rw [hg] at h';cases h';rfl),fun h'=>z5 (by rw [hg] at h';cases h';rfl)⟩,v,z3,?_,fun j hj=>?_⟩
     ·cases g with
      | true =>
       obtain⟨zs,rfl⟩:=z4 rfl
       have hs1:sb P e=1:=by
        unfold isAggP at hg
        unfold sb
        split at hg<;>first | (cases hg;done) | skip
        all_goals (rename_i hh;rw [hh])
        all_goals (have hqq:=List.all_eq_true.1 hL e heL;unfold okType at hqq;rw [hh] at hqq;cases hqq)
       rw [←z1] at r3
       simp only [AV.cells] at r3
       simp only [bulkA]
       omega
      | false =>
       have:=z5 rfl
       rw [z1] at this
       rw [this] at r3
       simp only [bulkAs] at r3
       omega
     ·rw [←l1,←z2];simp
     ·rw [l2 j hj,←z2];simp
    refine⟨[.sl (P.cellsOf e) stat ys],Rl.cons ?_ Rl.nil,⟨ys,rfl,fun y hy=>?_⟩,?_⟩
    ·simp only [Rv]
     refine⟨some a,len,cap,rfl,⟨hy1.symm,hl,by simp [stat],(fun c hc=>by cases hc),(fun hc=>by cases hc),fun p hp hc=>?_⟩,fun _ p hp=>?_⟩
     ·cases hp
      obtain⟨cs',l1,l2,_⟩:=cellAt (cap-1) (by omega)
      have hlast:=l2 (P.cellsOf e-1) (by omega)
      rw [gE (by omega)] at hlast
      unfold World.cell? at hlast
      split at hlast
      ·rename_i c ty fr hb
       simp only [Option.isSome_none,Bool.false_eq_true,if_false] at hlast
       have hlt:=(Array.getElem?_eq_some_iff.1 hlast).1
       refine⟨hc0,hspot hc,⟨ty,c.size,by simp [World.shape?,hb],?_⟩,?_⟩
       ·have:cap*P.cellsOf e=(cap-1)*P.cellsOf e+P.cellsOf e:=by
         rw [←Nat.succ_mul];congr 1;omega
        omega
       ·rw [rd_none rfl]
        exact (Array.getElem?_eq_some_iff.1 hb).1
      ·cases hlast
     ·cases hp
      exact Rat_of_get fun i y hy=>(hy2 i y hy).2.2.2
    ·obtain⟨i,hi⟩:=List.getElem?_of_mem hy
     exact⟨(hy2 i y hi).2.1,(hy2 i y hi).2.2.1⟩
    ·have hle:bulkAs ys≤ubAll (elems.map (·.1)):=by
      have key:∀(ys:List AV) (ds:List (DataW H×List MemPlace)),ys.length=ds.length→(∀(i:Nat) (y:AV),ys[i]? = some y→∃d:DataW H×List MemPlace,ds[i]? = some d∧bulkA y≤ub d.1)→bulkAs ys≤ubAll (ds.map (·.1)):=by
       intro ys
       induction ys with
       | nil=>intro ds _ _;simp [bulkAs]
       | cons y r ih =>
        intro ds hl hh
        cases ds with
        | nil=>simp at hl
        | cons d q =>
         obtain⟨d',e1,e2⟩:=hh 0 y rfl
         simp only [List.getElem?_cons_zero,oI] at e1
         subst e1
         have:=ih q (by simpa using hl) fun i z hz=>by simpa using hh (i+1) z (by simpa using hz)
         simp only [bulkAs,List.map_cons,hub.cons]
         omega
      exact key ys elems (by rw [hy1,hlen]) fun i y hy=>(hy2 i y hy).1
     rw [hsb hu]
     simp only [bulkAs,bulkA,hub.slice]
     omega
  case struct fs =>
   simp only [bA,decide_eq_true_eq] at hok
   obtain⟨xs,n,hn,hx,hlen,hxl,hfs⟩:=DataW.trod_struct hu h
   cases hn
   subst hx
   obtain⟨_,_,zs,z1,z2,z3⟩:=fields_avb (P:=P) (W:=W) (d:=fuel) hub fs.toList (xs.map (·.1)) 0 _ cs hok.2 hlen (by simp [hxl]) fun i f hi=>by
    have hi':fs[i]? = some f:=by simpa using hi
    have:=hfs i f hi'
    have hlt:i<xs.length:=by
     rw [hxl]
     exact (Array.getElem?_eq_some_iff.1 hi').1
    rw [gE hlt] at this
    have hmem:f∈fs.toList:=List.mem_of_getElem? hi
    obtain⟨ys,r1,r2,r3⟩:=trod_avb hub hL fuel f.type _ _ (any_mem (List.all_eq_true.1 hok.1 f hmem)) this
    exact⟨xs[i].1,ys,by simp [hlt],r1,r2,by omega⟩
   rw [List.drop_zero] at z1
   refine⟨zs,z1,⟨by rw [←hlen,z1.length],z2⟩,?_⟩
   rw [hsb hu]
   simp only [hub.agg]
   omega
end
end Go.Dn

namespace Go.Proofs.YthjebaophnkpbaaGreatDoor
open Go.Dn
theorem c_int:Tryz.prog.cellsOf 3=1:=by kernel_rfl
theorem c_str:Tryz.prog.cellsOf 9=1:=by kernel_rfl
theorem c_strs:Tryz.prog.cellsOf 22=1:=by kernel_rfl
theorem c_trees:Tryz.prog.cellsOf 23=1:=by kernel_rfl
theorem c_tree:Tryz.prog.cellsOf 25=4:=by kernel_rfl
theorem c_nodes:Tryz.prog.cellsOf 26=1:=by kernel_rfl
theorem c_node:Tryz.prog.cellsOf 28=14:=by kernel_rfl
theorem a_str:isAggP Tryz.prog 9=some false:=by kernel_rfl
theorem a_tree:isAggP Tryz.prog 25=some true:=by kernel_rfl
theorem a_node:isAggP Tryz.prog 28=some true:=by kernel_rfl
theorem u_int:Tryz.prog.underlying 3=some (.int .i64):=by kernel_rfl
theorem u_str:Tryz.prog.underlying 9=some .string:=by kernel_rfl
theorem u_strs:Tryz.prog.underlying 22=some (.slice 9):=by kernel_rfl
theorem u_trees:Tryz.prog.underlying 23=some (.slice 25):=by kernel_rfl
theorem u_nodes:Tryz.prog.underlying 26=some (.slice 28):=by kernel_rfl
theorem av_int {d:Nat} {x:AV} (h:AVB Tryz.prog d 3 [x]):∃n,x=.int .i64 n:=by
 cases d with
 | zero=>exact h.elim
 | succ d =>
  unfold AVB at h
  rw [u_int] at h
  obtain⟨n,e,_⟩:=h
  cases e
  exact⟨n,rfl⟩
theorem av_str {d:Nat} {x:AV} (h:AVB Tryz.prog d 9 [x]):∃s,x=.str s:=by
 cases d with
 | zero=>exact h.elim
 | succ d =>
  unfold AVB at h
  rw [u_str] at h
  obtain⟨n,e,_⟩:=h
  cases e
  exact⟨n,rfl⟩
theorem av_strs {d:Nat} {x:AV} (h:AVB Tryz.prog d 22 [x]):∃l,x=.sl 1 stat (strs l):=by
 cases d with
 | zero=>exact h.elim
 | succ d =>
  unfold AVB at h
  rw [u_strs] at h
  obtain⟨ys,e,h2⟩:=h
  cases e
  rw [c_str]
  have:∃l,ys=strs l:=by
   induction ys with
   | nil=>exact⟨[],rfl⟩
   | cons y r ih =>
    obtain⟨l,hl⟩:=ih fun z hz=>h2 z (by simp [hz])
    obtain⟨k1,_,k3⟩:=h2 y (by simp)
    rw [k3 a_str] at k1
    obtain⟨s,rfl⟩:=av_str k1
    exact⟨s::l,by rw [hl];rfl⟩
  obtain⟨l,rfl⟩:=this
  exact⟨l,rfl⟩
theorem list_trees {ys:List AV} (h:∀y∈ys,∃t:PT,y=encT t):∃l,ys=encTs l:=by
 induction ys with
 | nil=>exact⟨[],rfl⟩
 | cons y r ih =>
  obtain⟨l,h1⟩:=ih fun z hz=>h z (by simp [hz])
  obtain⟨t,h3⟩:=h y (by simp)
  exact⟨t::l,by rw [h1,h3];rfl⟩
theorem list_nodes {ys:List AV} (h:∀y∈ys,∃t:PN,y=encN t):∃l,ys=encNs l:=by
 induction ys with
 | nil=>exact⟨[],rfl⟩
 | cons y r ih =>
  obtain⟨l,h1⟩:=ih fun z hz=>h z (by simp [hz])
  obtain⟨t,h3⟩:=h y (by simp)
  exact⟨t::l,by rw [h1,h3];rfl⟩
theorem four {α:Type} {l:List α} (h:l.length=4):∃a b c d,l=[a,b,c,d]:=by
 match l,h with
 | [a,b,c,d],_=>exact⟨a,b,c,d,rfl⟩
theorem fourteen {α:Type} {l:List α} (h:l.length=14):∃a0 a1 a2 a3 a4 a5 a6 a7 a8 a9 a10 a11 a12 a13,l=[a0,a1,a2,a3,a4,a5,a6,a7,a8,a9,a10,a11,a12,a13]:=by
 match l,h with
 | [a0,a1,a2,a3,a4,a5,a6,a7,a8,a9,a10,a11,a12,a13],_=>exact⟨a0,a1,a2,a3,a4,a5,a6,a7,a8,a9,a10,a11,a12,a13,rfl⟩
set_option maxRecDepth 100000 in
theorem av_tree:∀{d:Nat} {xs:List AV},AVB Tryz.prog d 25 xs→∃t:PT,.agg xs=encT t:=by
 intro d
 induction d using Nat.strongRecOn with
 | _ d ih =>
 intro xs h
 cases d with
 | zero=>exact h.elim
 | succ d =>
  unfold AVB at h
  rw [Tryz.underlying25] at h
  obtain⟨hl,h⟩:=h
  rw [c_tree] at hl
  obtain⟨x0,x1,x2,x3,rfl⟩:=four hl
  simp only [List.forall_mem_cons] at h
  simp only [c_int,c_str,c_strs,c_trees] at h
  obtain⟨f0,f1,f2,f3,_⟩:=h
  obtain⟨k,rfl⟩:=av_int f0
  obtain⟨s,rfl⟩:=av_str f1
  obtain⟨keys,rfl⟩:=av_strs f2
  cases d with
  | zero=>exact f3.elim
  | succ d =>
   unfold AVB at f3
   rw [u_trees] at f3
   obtain⟨ys,e,g2⟩:=f3
   cases e
   obtain⟨kids,rfl⟩:=list_trees (ys:=ys) fun y hy=>by
    obtain⟨k1,k2,_⟩:=g2 y hy
    obtain⟨cs,rfl⟩:=k2 a_tree
    exact ih d (by omega) k1
   refine⟨.mk k s keys kids,?_⟩
   simp only [encT]
   rw [c_tree]
set_option maxRecDepth 100000 in
theorem av_node:∀{d:Nat} {xs:List AV},AVB Tryz.prog d 28 xs→∃t:PN,.agg xs=encN t:=by
 intro d
 induction d using Nat.strongRecOn with
 | _ d ih =>
 intro xs h
 cases d with
 | zero=>exact h.elim
 | succ d =>
  unfold AVB at h
  rw [Tryz.underlying28] at h
  obtain⟨hl,h⟩:=h
  rw [c_node] at hl
  obtain⟨a0,a1,a2,a3,a4,a5,a6,a7,a8,a9,a10,a11,a12,a13,rfl⟩:=fourteen hl
  simp only [List.forall_mem_cons] at h
  simp only [c_int,c_str,c_strs,c_tree,c_nodes] at h
  obtain⟨f0,f1,f2,f3,f4,f8,f9,f10,f11,f12,f13,_⟩:=h
  obtain⟨k,rfl⟩:=av_int f0
  obtain⟨a,rfl⟩:=av_str f1
  obtain⟨b,rfl⟩:=av_str f2
  obtain⟨c,rfl⟩:=av_str f3
  obtain⟨leaf,hlf⟩:=av_tree f4
  obtain⟨h8,rfl⟩:=av_str f8
  obtain⟨seps,rfl⟩:=av_strs f10
  obtain⟨t,rfl⟩:=av_str f11
  obtain⟨e,rfl⟩:=av_str f12
  obtain⟨f,rfl⟩:=av_int f13
  cases d with
  | zero=>exact f9.elim
  | succ d =>
   unfold AVB at f9
   rw [u_nodes] at f9
   obtain⟨ys,e9,g2⟩:=f9
   cases e9
   obtain⟨kids,rfl⟩:=list_nodes (ys:=ys) fun y hy=>by
    obtain⟨k1,k2,_⟩:=g2 y hy
    obtain⟨cs,rfl⟩:=k2 a_node
    exact ih d (by omega) k1
   refine⟨.mk k a b c leaf h8 kids seps t e f,?_⟩
   rw [encT_eq] at hlf
   simp only [List.drop_succ_cons,List.drop_zero,List.take_succ_cons,List.take_zero,AV.agg.injEq,List.cons.injEq,and_true] at hlf
   obtain⟨rfl,rfl,rfl,rfl⟩:=hlf
   simp only [encN]
   rw [c_node]
theorem bulk_strs0 (l:List (List UInt8)):l.length≤bulkAs (strs l):=by
 induction l with
 | nil=>exact Nat.zero_le _
 | cons a r ih =>
  have:strs (a::r)=.str a::strs r:=rfl
  rw [this]
  simp only [bulkAs,bulkA,lC];omega
mutual
theorem bulk_T:∀t:PT,bulkA (encT t)≤1048576→t.ok
 |.mk k s keys kids,h=>by
  simp only [encT,bulkA,bulkAs] at h
  have h1:=bulk_strs0 keys
  have h2:=bulk_Ts kids (by omega)
  simp only [PT.ok]
  exact⟨by omega,by omega,h2.1⟩
theorem bulk_Ts:∀l:List PT,bulkAs (encTs l)≤1048576→PT.oks l∧l.length≤bulkAs (encTs l)
 | [],_=>⟨trivial,Nat.zero_le _⟩
 | t::r,h=>by
  simp only [encTs,bulkAs] at h
  have h1:=bulk_T t (by omega)
  have h2:=bulk_Ts r (by omega)
  have:1≤bulkA (encT t):=by cases t;simp only [encT,bulkA];omega
  simp only [PT.oks,encTs,bulkAs,lC]
  exact⟨⟨h1,h2.1⟩,by omega⟩
end
end Go.Proofs.YthjebaophnkpbaaGreatDoor

namespace Go.Proofs.YthjebaophnkpbaaGreatDoor
open Go.Dn
theorem bulk_strs (l:List (List UInt8)):bulkAs (strs l)=sumLen l+l.length:=by
 induction l with
 | nil=>rfl
 | cons a r ih =>
  have:strs (a::r)=.str a::strs r:=rfl
  rw [this]
  simp only [bulkAs,bulkA,sumLen,lC,ih];omega
mutual
theorem bulk_N:∀t:PN,bulkA (encN t)≤1048576→t.ok∧t.tb≤bulkA (encN t)
 |.mk k a b c leaf h kids seps t e f,hb=>by
  have hl:bulkA (encT leaf)≤1048576:=by
   rw [encT_eq]
   simp only [encN,bulkA,bulkAs] at hb ⊢
   omega
  simp only [encN,bulkA,bulkAs] at hb ⊢
  have h1:=bulk_strs seps
  have h2:=bulk_Ns kids (by omega)
  simp only [PN.ok,PN.tb]
  exact⟨⟨bulk_T leaf hl,by omega,by omega,h2.1⟩,by omega⟩
theorem bulk_Ns:∀l:List PN,bulkAs (encNs l)≤1048576→PN.oks l∧l.length≤bulkAs (encNs l)∧PN.tbs l≤bulkAs (encNs l)
 | [],_=>⟨trivial,Nat.zero_le _,Nat.zero_le _⟩
 | t::r,h=>by
  simp only [encNs,bulkAs] at h
  have h1:=bulk_N t (by omega)
  have h2:=bulk_Ns r (by omega)
  have:1≤bulkA (encN t):=by cases t;simp only [encN,bulkA];omega
  simp only [PN.oks,encNs,bulkAs,lC,PN.tbs]
  exact⟨⟨h1.1,h2.1⟩,by omega,by omega⟩
end
end Go.Proofs.YthjebaophnkpbaaGreatDoor

namespace Go.Dn
open Go Go.Proofs.C1
set_option maxRecDepth 100000
attribute [local irreducible] afterS keepE
theorem st_runP {C:CallT} {gt:GT} {d:Option Nat} {op:DOp} {gd:Option (Nat×Bool)} {env env':Env} {S:St} {P:St→Prop} {K:Env→St→Prop} {Q:Ex→Env→St→Prop} (h:∃S',stepO gt d env S op=.done env' S'∧P S') (hg:Gd env gd) (k:∀S',P S'→K env' S'):afterS C d env S K Q (stepI gt ⟨d,op,gd⟩ env S):=by
 obtain⟨S',h1,h2⟩:=h
 exact st_any hg h1 (k S' h2)
section
variable {gt:GT} {C:CallT}
end

def PT.zero:PT:=.mk 0 [] [] []
theorem rdo_nil0 {S:St} {es:Nat} {nl:Bool}:Rdo S (.sl es stat []) (.sl es ⟨none,0,some 0,nl⟩ []):=by
 simp only [Rdo]
 exact⟨trivial,_,_,true,[],rfl,rfl,by simp only [Rdos]⟩
theorem rdo_zT {S:St}:Rdo S (encT PT.zero) (.agg zT):=by
 simp only [PT.zero,encT]
 rw [Rdo]
 refine⟨_,rfl,?_⟩
 simp only [Rdos]
 exact⟨_,_,rfl,by simp only [Rdo],_,_,rfl,by simp only [Rdo],_,_,rfl,rdo_nil0,_,_,rfl,rdo_nil0,rfl⟩
theorem ret_tup2 {S:St} {u x:AV} {b:AV} (h:Rdo S u x) (hb:Sta b):Ret (.tup [u,b]) (.ret (.tup [x,b])) S:=by
 refine⟨_,rfl,?_⟩
 rw [Rdo]
 refine⟨_,rfl,?_⟩
 simp only [Rdos]
 exact⟨_,_,rfl,h,_,_,rfl,hb.rdo,rfl⟩
section
variable {gt:GT} {C:CallT}
end
end Go.Dn

namespace Go.Dn
open Go
end Go.Dn

namespace Go.Dn
open Go Go.Proofs.C1
set_option maxRecDepth 100000
attribute [local irreducible] afterS keepE
theorem sx_ixS {gt:GT} {d:Option Nat} {env:Env} {S:St} {x i:DOpd} {s:List UInt8} {k:Nat} {b:UInt8} (hx:opd env x=some (.str s)) (hi:(opd env i).bind nat? = some k) (hb:s[k]? = some b) :
  stepO gt d env S (.ixS x i)=.done (putV d (.int .u8 b.toNat) env) S:=by
 simp only [stepO,hx,hi,hb]
theorem sx_slLo {gt:GT} {d:Option Nat} {env:Env} {S:St} {x lo:DOpd} {s:List UInt8} {l:Nat} (hx:opd env x=some (.str s)) (hl:(opd env lo).bind nat? = some l) (h:l≤s.length) :
  stepO gt d env S (.slS x (some lo) none)=.done (putV d (.str (s.drop l)) env) S:=by
 have hb:bnds env s.length (some lo) none=some (l,s.length):=by
  simp only [bnds,hl,ble_true h,ble_true (Nat.le_refl _),Bool.and_self,cond_true]
 simp only [stepO,hx,hb]
 rw [List.take_of_length_le (by simp)]
theorem sx_slHiS {gt:GT} {d:Option Nat} {env:Env} {S:St} {x hi:DOpd} {s:List UInt8} {h:Nat} (hx:opd env x=some (.str s)) (hh:(opd env hi).bind nat? = some h) (hl:h≤s.length) :
  stepO gt d env S (.slS x none (some hi))=.done (putV d (.str (s.take h)) env) S:=by
 have hb:bnds env s.length none (some hi)=some (0,h):=by
  simp only [bnds,hh,ble_true (Nat.zero_le h),ble_true hl,Bool.and_self,cond_true]
 simp only [stepO,hx,hb,List.drop_zero,Nat.sub_zero]
theorem sx_slLH {gt:GT} {d:Option Nat} {env:Env} {S:St} {x lo hi:DOpd} {s:List UInt8} {l h:Nat} (hx:opd env x=some (.str s)) (hl:(opd env lo).bind nat? = some l) (hh:(opd env hi).bind nat? = some h) (h1:l≤h) (h2:h≤s.length) :
  stepO gt d env S (.slS x (some lo) (some hi))=.done (putV d (.str ((s.drop l).take (h-l))) env) S:=by
 have hb:bnds env s.length (some lo) (some hi)=some (l,h):=by
  simp only [bnds,hl,hh,ble_true h1,ble_true h2,Bool.and_self,cond_true]
 simp only [stepO,hx,hb]
def eqRes (u:AV):Res→St→Bool
 |.ret v,_=>beqA u v
 | _,_=>false
theorem byRun {gt:GT} {C:CallT} (hm:MonoC C) {F:DF} {xs:List AV} {u:AV} (hs:Sta u) (h:exF gt (fun _ _ _ _=>false) 1000 F xs St.init (eqRes u)=true):wpF gt C F xs St.init (Ret u):=by
 refine exF_sound (C':=C) (fun f xs S k h=>by cases h) hm (fun r S h=>?_) h
 cases r with
 | ret v =>
  have:=beqA_eq h
  subst this
  exact Ret.sta hs
 | pan v=>cases h
def leadB (b:Nat):Nat×Nat×Nat :=
 if b<128 then (1,b,0) else if b<192 then (0,0,0) else if b<224 then (2,b-192,128) else if b<240 then (3,b-224,2048) else if b<248 then (4,b-240,65536) else (0,0,0)
def encLead (p:Nat×Nat×Nat):AV:=.tup [.int .i64 p.1,.int .i64 p.2.1,.int .i64 p.2.2]
def contV:Nat→List UInt8→Nat→Option Nat
 | 0,_,acc=>some acc
 | _+1,[],_=>none
 | k+1,x::r,acc=>if 128≤x.toNat∧x.toNat<192 then contV k r (acc*64+(x.toNat-128)) else none
def charB (c:Int):Bool:=decide (0≤c∧c≤1114111∧(c<55296∨57343<c))
def firstC:List UInt8→Nat×Nat
 | []=>(0,0)
 | b::r =>
  if (leadB b.toNat).1=0∨r.length+1<(leadB b.toNat).1 then (0,0) else match contV ((leadB b.toNat).1-1) r (leadB b.toNat).2.1 with
   | none=>(0,0)
   | some c=>if c<(leadB b.toNat).2.2∨charB c=false then (0,0) else (c,(leadB b.toNat).1)
def encFirst (p:Nat×Nat):AV:=.tup [.int .i64 p.1,.int .i64 p.2]
theorem leadB_le (b:Nat) (h:b<256):(leadB b).1≤4∧(leadB b).2.1<128:=by
 unfold leadB
 split
 ·exact⟨by show 1≤4;decide,by assumption⟩
 ·split
  ·exact⟨by decide,by decide⟩
  ·split
   ·exact⟨by show 2≤4;decide,by show b-192<128;omega⟩
   ·split
    ·exact⟨by show 3≤4;decide,by show b-224<128;omega⟩
    ·split
     ·exact⟨by show 4≤4;decide,by show b-240<128;omega⟩
     ·exact⟨by decide,by decide⟩
theorem contV_step {k:Nat} {l:List UInt8} {i acc:Nat} (hi:i<l.length):contV (k+1) (l.drop i) acc=if 128≤l[i].toNat∧l[i].toNat<192 then contV k (l.drop (i+1)) (acc*64+(l[i].toNat-128)) else none:=by
 rw [dC hi];rfl
theorem u8_lt (x:UInt8):x.toNat<256:=UInt8.toNat_lt x
theorem or_add {a b:Nat} (hb:b<64) (ha:a*64+b<18446744073709551616):(BitVec.ofInt 64 ((a*64:Nat):Int) ||| BitVec.ofInt 64 (b:Int)).toNat=a*64+b:=by
 rw [BitVec.ofInt_natCast,BitVec.ofInt_natCast,BitVec.toNat_or,BitVec.toNat_ofNat,BitVec.toNat_ofNat,Nat.mod_eq_of_lt (show a*64<2 ^ 64 by omega),Nat.mod_eq_of_lt (show b<2 ^ 64 by omega)]
 have:=Nat.shiftLeft_add_eq_or_of_lt (i:=6) (b:=b) (by omega) a
 rw [Nat.shiftLeft_eq] at this
 exact this.symm
theorem and63 (x:UInt8) (h1:128≤x.toNat) (h2:x.toNat<192):(BitVec.ofInt 8 (x.toNat:Int) &&& BitVec.ofInt 8 63).toNat=x.toNat-128:=by
 rw [show (63:Int)=((63:Nat):Int) from rfl,BitVec.ofInt_natCast,BitVec.ofInt_natCast,BitVec.toNat_and,BitVec.toNat_ofNat,BitVec.toNat_ofNat,Nat.mod_eq_of_lt (show x.toNat<2 ^ 8 by omega),show (63:Nat) % 2 ^ 8=2 ^ 6-1 by decide,Nat.and_two_pow_sub_one_eq_mod]
 omega
theorem shr6 (x:UInt8):(((x.toNat:Int).fdiv (2 ^ 6)) != 2) = !decide (128≤x.toNat∧x.toNat<192):=by
 have hx:=u8_lt x
 rw [show ((2:Int) ^ 6)=64 by decide,Int.fdiv_eq_ediv_of_nonneg _ (by decide)]
 by_cases h:128≤x.toNat∧x.toNat<192
 ·rw [dT h,show ((x.toNat:Int) / 64)=2 by omega];rfl
 ·rw [dF h]
  have:¬((x.toNat:Int) / 64)=2:=by omega
  simp [this]
section
variable {gt:GT} {C:CallT}
theorem row_gt (gt:GT):(List.range 256).all (fun b=>exF gt (fun _ _ _ _=>false) 1000 F111 [.int .u8 b] St.init (eqRes (encLead (leadB b))))=true:=by kernel_rfl
theorem row_wp (hm:MonoC C) (b:UInt8):wpF gt C F111 [.int .u8 b.toNat] St.init (Ret (encLead (leadB b.toNat))) :=
 byRun hm ⟨trivial,trivial,trivial,trivial⟩ (List.all_eq_true.1 (row_gt gt) b.toNat (List.mem_range.2 (u8_lt b)))
theorem charB_wp {c:Int}:wpF gt C F112 [.int .i64 c] St.init (Ret (.bool (charB c))):=by
 refine⟨rfl,?_⟩
 refine goW ?_
 by_cases h0:c ≥ 0
 ·rw [dT h0]
  refine goW ?_
  by_cases h1:c≤1114111
  ·rw [dT h1]
   refine goW ?_
   by_cases h2:c<55296
   ·rw [dT h2]
    refine goW ?_
    exact⟨_,rfl,by rw [show charB c=true by simp [charB];omega];exact Ret.sta trivial⟩
   ·rw [dF h2]
    refine goW ?_
    exact⟨_,rfl,by rw [show charB c=decide (c > 57343) by simp only [charB];congr 1;simp;omega];exact Ret.sta trivial⟩
  ·rw [dF h1]
   refine goW ?_
   exact⟨_,rfl,by rw [show charB c=false by simp [charB];omega];exact Ret.sta trivial⟩
 ·rw [dF h0]
  refine goW ?_
  exact⟨_,rfl,by rw [show charB c=false by simp [charB];omega];exact Ret.sta trivial⟩
end

def hd (c:UInt8):List UInt8→Bool
 | []=>false
 | b::_=>b == c
def dig (b:UInt8):Bool:=decide (48≤b.toNat) && decide (b.toNat≤57)
def runB:List UInt8→Nat
 | []=>0
 | b::r=>if dig b then runB r+1 else 0
theorem runB_le:∀s,runB s≤s.length
 | []=>Nat.le_refl _
 | b::r=>by have:=runB_le r;simp only [runB,lC];split<;>omega
theorem beqB_one (b c:UInt8):beqB [b] [c]=(b == c):=by
 rw [beqB_eq,Bool.eq_iff_iff];simp
section
variable {gt:GT} {C:CallT}
theorem hasPre0_wp {s:List UInt8} {c:UInt8}:wpF gt C F137 [.str s,.str [c]] St.init (Ret (.bool (hd c s))):=by
 refine⟨rfl,?_⟩
 cases s with
 | nil =>
  refine goW ?_
  exact⟨_,rfl,Ret.sta trivial⟩
 | cons b r =>
  refine goW ?_
  rw [dT (show (((b::r).length:Nat):Int) ≥ (([c]:List UInt8).length:Nat) by simp only [lC,List.length_nil];omega)]
  refine goW ?_
  refine⟨_,rfl,?_⟩
  rw [show (List.take (([c]:List UInt8).length-0) (List.drop 0 (b::r)))=[b] from rfl,beqB_one]
  exact Ret.sta trivial
theorem hasPre_wp (hm:MonoC C) (h:∀s c,PF C 137 [.str s,.str [c]] (.bool (hd c s))) {s:List UInt8} {c:UInt8}:wpF gt C F119 [.str s,.str [c]] St.init (Ret (.bool (hd c s))):=by
 refine⟨rfl,?_⟩
 refine goW ?_
 refine call_pf hm (by rfl) (h s c) (goW ?_)
 exact⟨_,rfl,Ret.sta trivial⟩
theorem trimPre0_wp (hm:MonoC C) (h:∀s c,PF C 137 [.str s,.str [c]] (.bool (hd c s))) {s:List UInt8} {c:UInt8}:wpF gt C F138 [.str s,.str [c]] St.init (Ret (.str (if hd c s then s.drop 1 else s))):=by
 refine⟨rfl,?_⟩
 refine goW ?_
 refine call_pf hm (by rfl) (h s c) (goW ?_)
 cases hh:hd c s with
 | false =>
  refine goW ?_
  exact⟨_,rfl,Ret.sta trivial⟩
 | true =>
  refine goW ?_
  have hl:1≤s.length:=by
   cases s with
   | nil=>cases hh
   | cons b r=>simp
  refine step_ruleO (sx_slLo (l:=1) rfl rfl hl) (goW ?_)
  exact⟨_,rfl,Ret.sta trivial⟩
theorem trimPre_wp (hm:MonoC C) (h:∀s c,PF C 138 [.str s,.str [c]] (.str (if hd c s then s.drop 1 else s))) {s:List UInt8} {c:UInt8}:wpF gt C F120 [.str s,.str [c]] St.init (Ret (.str (if hd c s then s.drop 1 else s))):=by
 refine⟨rfl,?_⟩
 refine goW ?_
 refine call_pf hm (by rfl) (h s c) (goW ?_)
 exact⟨_,rfl,Ret.sta trivial⟩
theorem digit_wp {b:UInt8}:wpF gt C F129 [.int .u8 b.toNat] St.init (Ret (.bool (dig b))):=by
 refine⟨rfl,?_⟩
 refine goW ?_
 by_cases h:(b.toNat:Int) ≥ 48
 ·rw [dT h]
  refine goW ?_
  refine⟨_,rfl,?_⟩
  rw [show dig b=decide ((b.toNat:Int)≤57) by unfold dig;rw [dT (by omega),Bool.true_and];congr 1;simp;omega]
  exact Ret.sta trivial
 ·rw [dF h]
  refine goW ?_
  refine⟨_,rfl,?_⟩
  rw [show dig b=false by unfold dig;rw [dF (by omega),Bool.false_and]]
  exact Ret.sta trivial
abbrev E_run (s:List UInt8) (i:Int):Env:=[(0,.val (.str s)),(3,.val (.int .i64 i))]
set_option maxHeartbeats 2000000 in
theorem run_wp (hm:MonoC C) (hd:∀b:UInt8,PF C 129 [.int .u8 b.toNat] (.bool (dig b))) {s:List UInt8} (hl:s.length<9223372036854775807):wpF gt C F100 [.str s] St.init (Ret (.int .i64 (runB s))):=by
 refine⟨rfl,?_⟩
 refine goW ?_
 refine loop_rule hm (α:=Nat) (fun i env S'=>i≤s.length∧env=E_run s i∧S'=St.init∧runB s=i+runB (s.drop i)) (fun i=>s.length-i) ?_ (a:=0) ⟨Nat.zero_le _,rfl,rfl,by simp⟩
 rintro i env S' ⟨hi,rfl,rfl,hp⟩
 refine goW ?_
 by_cases hc:(i:Int)<(s.length:Nat)
 ·rw [dT hc]
  refine goW ?_
  have hik:i<s.length:=by omega
  refine st_any (by exact rfl) (sx_ixS (k:=i) rfl rfl (gE hik)) (goW ?_)
  refine call_pf hm (by rfl) (hd s[i]) (goW ?_)
  rw [dC hik] at hp
  simp only [runB] at hp
  cases hdg:dig s[i] with
  | false =>
   refine goW ?_
   refine⟨_,rfl,?_⟩
   rw [hdg] at hp
   rw [hp]
   exact Ret.sta trivial
  | true =>
   refine goW ?_
   rw [hdg,if_pos rfl] at hp
   refine⟨i+1,⟨by omega,?_,rfl,by rw [hp];omega⟩,by omega⟩
   rw [wrNat (by omega)]
 ·rw [dF hc]
  refine goW ?_
  refine⟨_,rfl,?_⟩
  rw [hp,List.drop_eq_nil_of_le (by omega)]
  exact Ret.sta trivial
end

abbrev Cut4:=Bool×List UInt8×List UInt8×List UInt8
def expD (ex:List UInt8):List UInt8:=if hd 45 ex then ex.drop 1 else if hd 43 ex then ex.drop 1 else ex
def cutE (neg:Bool) (w p s:List UInt8):Option Cut4 :=
 if s=[] then some (neg,w,p,[])
 else if hd 101 s=false∧hd 69 s=false then none
 else if expD (s.drop 1)=[]∨runB (expD (s.drop 1))<(expD (s.drop 1)).length then none else some (neg,w,p,s.drop 1)
def cutP (neg:Bool) (s:List UInt8):Option Cut4 :=
 if runB s=0∨(1<runB s∧hd 48 s=true) then none
 else if hd 46 (s.drop (runB s)) then
  (if runB ((s.drop (runB s)).drop 1)=0 then none
   else cutE neg (s.take (runB s)) (((s.drop (runB s)).drop 1).take (runB ((s.drop (runB s)).drop 1))) ((s.drop (runB s)).drop (1+runB ((s.drop (runB s)).drop 1))))
 else cutE neg (s.take (runB s)) [] (s.drop (runB s))
def cutB (s:List UInt8):Option Cut4:=if hd 45 s then cutP true (s.drop 1) else cutP false s
def encCut:Option Cut4→AV
 | none=>.tup [.bool false,.str [],.str [],.str [],.bool false]
 | some (n,w,p,e)=>.tup [.bool n,.str w,.str p,.str e,.bool true]
theorem sta_cut (o:Option Cut4):Sta (encCut o):=by
 cases o with
 | none=>exact⟨trivial,trivial,trivial,trivial,trivial,trivial⟩
 | some p=>exact⟨trivial,trivial,trivial,trivial,trivial,trivial⟩
theorem hd_head {c:UInt8} {s:List UInt8} {b:UInt8} (h:s[0]? = some b):hd c s=(b == c):=by
 cases s with
 | nil=>cases h
 | cons x r=>simp only [List.getElem?_cons_zero,oI] at h;rw [←h];rfl
theorem u8_eqI (b c:UInt8):((b.toNat:Int) == (c.toNat:Int))=(b == c):=by
 rw [Bool.eq_iff_iff]
 simp only [beq_iff_eq]
 constructor
 ·intro h;exact UInt8.toNat_inj.1 (by omega)
 ·intro h;rw [h]
theorem u8_neI (b c:UInt8):((b.toNat:Int) != (c.toNat:Int)) = !(b == c):=by
 rw [←u8_eqI];rfl
theorem get0 {s:List UInt8} (h:s≠[]):∃b,s[0]? = some b:=by
 cases s with
 | nil=>exact absurd rfl h
 | cons b r=>exact⟨b,rfl⟩
theorem hd_len {c:UInt8} {s:List UInt8} (h:hd c s=true):1≤s.length:=by
 cases s with
 | nil=>cases h
 | cons b r=>simp
theorem drop1_ne {s:List UInt8} (h:s≠[]):¬s.drop 1=s:=fun e=>by
 have:=congrArg List.length e
 cases s with
 | nil=>exact h rfl
 | cons b r=>simp at this
def DC.rt:DC→DC |.seq _ b=>b | c=>c
section
variable {gt:GT} {C:CallT}
abbrev E_cut (neg:Bool) (w p s:List UInt8) (x:Env):Env:=(2,.val (.bool neg))::(3,.val (.str w))::(4,.val (.str p))::(7,.val (.str s))::x
set_option maxHeartbeats 4000000 in
theorem cutExp_wp (hm:MonoC C) (htp:∀s c,PF C 120 [.str s,.str [c]] (.str (if hd c s then s.drop 1 else s)))
  (hrun:∀s:List UInt8,s.length<9223372036854775807→PF C 100 [.str s] (.int .i64 (runB s))) {res:Option Cut4} {neg:Bool} {w p s:List UInt8} {x:Env} (hl:s.length<9223372036854775807) (h1:1≤s.length)
  (hf:res=if expD (s.drop 1)=[]∨runB (expD (s.drop 1))<(expD (s.drop 1)).length then none else some (neg,w,p,s.drop 1)) :
  wpD gt C F96.body.rt.rt.rt.rt.rt.rt.rt.rt.rt (E_cut neg w p s x) St.init (bodyQ gt F96.res (Ret (encCut res))):=by
 have ret:∀{o:Option Cut4} {S:St},res=o→Ret (encCut res) (.ret (encCut o)) S:=fun h=>by rw [h];exact Ret.sta (sta_cut _)
 conv=>whnf
 refine goW ?_
 refine step_ruleO (sx_slLo (l:=1) rfl rfl h1) (goW ?_)
 have hexl:(s.drop 1).length≤s.length:=by rw [lD];omega
 generalize s.drop 1=ex at hf hexl ⊢
 refine call_pf hm (by rfl) (htp ex 45) (goW ?_)
 cases hm1:hd 45 ex with
 | true =>
  rw [if_pos rfl,beqB_false (drop1_ne (by intro e;rw [e] at hm1;cases hm1))]
  have hx:expD ex=ex.drop 1:=by unfold expD;rw [hm1];rfl
  have hdl:(ex.drop 1).length≤ex.length:=by rw [lD];omega
  rw [hx] at hf
  generalize ex.drop 1=d at hf hdl ⊢
  refine goW ?_
  by_cases z4:d=[]
  ·rw [beqB_true z4]
   refine goW ?_
   exact⟨_,rfl,ret (o:=none) (by rw [hf,if_pos (.inl z4)])⟩
  rw [beqB_false z4]
  refine goW ?_
  refine call_pf hm (by rfl) (hrun d (by omega)) (goW ?_)
  by_cases z5:(runB d:Int)<(d.length:Nat)
  ·rw [dT z5]
   refine goW ?_
   exact⟨_,rfl,ret (o:=none) (by rw [hf,if_pos (.inr (by omega))])⟩
  rw [dF z5]
  refine goW ?_
  exact⟨_,rfl,ret (o:=some (neg,w,p,ex)) (by rw [hf,if_neg (by rintro (e | e);exact z4 e;omega)])⟩
 | false =>
  rw [if_neg (by simp),beqB_true rfl]
  refine goW ?_
  refine call_pf hm (by rfl) (htp ex 43) (goW ?_)
  have hx:expD ex=if hd 43 ex then ex.drop 1 else ex:=by unfold expD;rw [hm1];rfl
  have hdl:(if hd 43 ex then ex.drop 1 else ex).length≤ex.length:=by split<;>first | (rw [lD];omega) | omega
  rw [hx] at hf
  generalize (if hd 43 ex then ex.drop 1 else ex)=d at hf hdl ⊢
  refine goW ?_
  by_cases z4:d=[]
  ·rw [beqB_true z4]
   refine goW ?_
   exact⟨_,rfl,ret (o:=none) (by rw [hf,if_pos (.inl z4)])⟩
  rw [beqB_false z4]
  refine goW ?_
  refine call_pf hm (by rfl) (hrun d (by omega)) (goW ?_)
  by_cases z5:(runB d:Int)<(d.length:Nat)
  ·rw [dT z5]
   refine goW ?_
   exact⟨_,rfl,ret (o:=none) (by rw [hf,if_pos (.inr (by omega))])⟩
  rw [dF z5]
  refine goW ?_
  exact⟨_,rfl,ret (o:=some (neg,w,p,ex)) (by rw [hf,if_neg (by rintro (e | e);exact z4 e;omega)])⟩
set_option maxHeartbeats 4000000 in
theorem cutTail_wp (hm:MonoC C) (htp:∀s c,PF C 120 [.str s,.str [c]] (.str (if hd c s then s.drop 1 else s)))
  (hrun:∀s:List UInt8,s.length<9223372036854775807→PF C 100 [.str s] (.int .i64 (runB s))) {res:Option Cut4} {neg:Bool} {w p s:List UInt8} {x:Env} (hl:s.length<9223372036854775807)
  (hf:res=cutE neg w p s) :
  wpD gt C F96.body.rt.rt.rt.rt.rt.rt.rt (E_cut neg w p s x) St.init (bodyQ gt F96.res (Ret (encCut res))):=by
 have ret:∀{o:Option Cut4} {S:St},res=o→Ret (encCut res) (.ret (encCut o)) S:=fun h=>by rw [h];exact Ret.sta (sta_cut _)
 conv=>whnf
 refine goW ?_
 unfold cutE at hf
 by_cases z1:s=[]
 ·rw [beqB_true z1]
  refine goW ?_
  exact⟨_,rfl,ret (o:=some (neg,w,p,[])) (by rw [hf,if_pos z1])⟩
 obtain⟨b0,hb0⟩:=get0 z1
 rw [beqB_false z1]
 rw [if_neg z1] at hf
 refine goW ?_
 refine step_ruleO (sx_ixS (k:=0) rfl rfl hb0) (goW ?_)
 rw [show ((101:Int))=((101:UInt8).toNat:Int) from rfl,u8_neI,←hd_head (c:=101) hb0]
 cases hxe:hd 101 s with
 | true =>
  refine goW ?_
  with_unfolding_all exact cutExp_wp hm htp hrun hl (hd_len hxe) (hf.trans (if_neg (by rw [hxe];simp)))
 | false =>
  refine goW ?_
  refine st_any (by exact rfl) (sx_ixS (k:=0) rfl rfl hb0) (goW ?_)
  rw [show ((69:Int))=((69:UInt8).toNat:Int) from rfl,u8_neI,←hd_head (c:=69) hb0]
  cases hxe2:hd 69 s with
  | false =>
   refine goW ?_
   exact⟨_,rfl,ret (o:=none) (by rw [hf,if_pos ⟨hxe,hxe2⟩])⟩
  | true =>
   refine goW ?_
   with_unfolding_all exact cutExp_wp hm htp hrun hl (hd_len hxe2) (hf.trans (if_neg (by rw [hxe2];simp)))
abbrev E_cut0 (neg:Bool) (s:List UInt8) (x:Env):Env:=(2,.val (.bool neg))::(4,.val (.str []))::(7,.val (.str s))::x
set_option maxHeartbeats 4000000 in
theorem cutPoint_wp (hm:MonoC C) (hpre:∀s c,PF C 119 [.str s,.str [c]] (.bool (hd c s))) (htp:∀s c,PF C 120 [.str s,.str [c]] (.str (if hd c s then s.drop 1 else s)))
  (hrun:∀s:List UInt8,s.length<9223372036854775807→PF C 100 [.str s] (.int .i64 (runB s))) {res:Option Cut4} {neg:Bool} {s:List UInt8} {x:Env} (hl:s.length<9223372036854775807) (y1:runB s≠0)
  (hf:res=if hd 46 (s.drop (runB s)) then
  (if runB ((s.drop (runB s)).drop 1)=0 then none
   else cutE neg (s.take (runB s)) (((s.drop (runB s)).drop 1).take (runB ((s.drop (runB s)).drop 1))) ((s.drop (runB s)).drop (1+runB ((s.drop (runB s)).drop 1))))
 else cutE neg (s.take (runB s)) [] (s.drop (runB s))) :
  wpD gt C F96.body.rt.rt.rt.rt.rt ((2,.val (.bool neg))::(4,.val (.str []))::(7,.val (.str s))::(8,.val (.int .i64 (runB s)))::x) St.init (bodyQ gt F96.res (Ret (encCut res))):=by
 have ret:∀{o:Option Cut4} {S:St},res=o→Ret (encCut res) (.ret (encCut o)) S:=fun h=>by rw [h];exact Ret.sta (sta_cut _)
 have hrl:=runB_le s
 generalize runB s=n at hf hrl y1 ⊢
 conv=>whnf
 refine goW ?_
 refine step_ruleDO rfl rfl (sx_slHiS (h:=n) rfl rfl hrl) (goW ?_)
 refine step_ruleDO rfl rfl (sx_slLo (l:=n) rfl rfl hrl) (goW ?_)
 have hsl:(s.drop n).length≤s.length:=by rw [lD];omega
 generalize s.drop n=s2 at hf hsl ⊢
 generalize s.take n=w at hf ⊢
 refine call_pf hm (by rfl) (hpre s2 46) (goW ?_)
 cases hp:hd 46 s2 with
 | false =>
  rw [hp,if_neg (by simp)] at hf
  refine goW ?_
  with_unfolding_all exact cutTail_wp (x:=[(36,.val (.bool false))]) hm htp hrun (by omega) hf
 | true =>
  rw [hp,if_pos rfl] at hf
  have h1:=hd_len hp
  refine goW ?_
  refine step_ruleO (sx_slLo (l:=1) rfl rfl h1) (goW ?_)
  have hrl3:=runB_le (s2.drop 1)
  rw [lD] at hrl3
  refine call_pf hm (by rfl) (hrun (s2.drop 1) (by rw [lD];omega)) (goW ?_)
  generalize hm3:runB (s2.drop 1)=m at hf hrl3 ⊢
  by_cases y4:m=0
  ·rw [eqI_true (by omega)]
   refine goW ?_
   exact⟨_,rfl,ret (o:=none) (by rw [hf,if_pos y4])⟩
  rw [eqI_false (by omega)]
  rw [if_neg y4] at hf
  refine goW ?_
  rw [show wr .i64 (1+(m:Int))=((1+m:Nat):Int) by rw [wr64 (by omega) (by omega)];omega]
  refine step_ruleDO rfl rfl (sx_slLH (l:=1) (h:=1+m) rfl rfl rfl (by omega) (by omega)) (goW ?_)
  rw [show wr .i64 (1+(m:Int))=((1+m:Nat):Int) by rw [wr64 (by omega) (by omega)];omega]
  refine step_ruleDO rfl rfl (sx_slLo (l:=1+m) rfl rfl (by omega)) (goW ?_)
  rw [show 1+m-1=m by omega]
  with_unfolding_all exact cutTail_wp (x:=[]) hm htp hrun (by rw [lD];omega) hf
set_option maxHeartbeats 4000000 in
theorem cutSign_wp (hm:MonoC C) (hpre:∀s c,PF C 119 [.str s,.str [c]] (.bool (hd c s))) (htp:∀s c,PF C 120 [.str s,.str [c]] (.str (if hd c s then s.drop 1 else s)))
  (hrun:∀s:List UInt8,s.length<9223372036854775807→PF C 100 [.str s] (.int .i64 (runB s))) {res:Option Cut4} {neg:Bool} {s:List UInt8} {x:Env} (hl:s.length<9223372036854775807)
  (hf:res=cutP neg s) :
  wpD gt C F96.body.rt.rt.rt (E_cut0 neg s x) St.init (bodyQ gt F96.res (Ret (encCut res))):=by
 have ret:∀{o:Option Cut4} {S:St},res=o→Ret (encCut res) (.ret (encCut o)) S:=fun h=>by rw [h];exact Ret.sta (sta_cut _)
 unfold cutP at hf
 have hrun0:=hrun s hl
 conv=>whnf
 refine goW ?_
 refine call_pf hm (by rfl) hrun0 (goW ?_)
 by_cases y1:runB s=0
 ·rw [eqI_true (by omega)]
  refine goW ?_
  exact⟨_,rfl,ret (o:=none) (by rw [hf,if_pos (.inl y1)])⟩
 rw [eqI_false (by omega)]
 refine goW ?_
 have hnil:s≠[]:=by intro e;rw [e] at y1;exact y1 rfl
 obtain⟨b1,hb1⟩:=get0 hnil
 by_cases y2:(runB s:Int) > 1
 ·rw [dT y2]
  refine goW ?_
  refine st_any (by exact rfl) (sx_ixS (k:=0) rfl rfl hb1) (goW ?_)
  rw [show ((48:Int))=((48:UInt8).toNat:Int) from rfl,u8_eqI,←hd_head (c:=48) hb1]
  cases y3:hd 48 s with
  | true =>
   refine goW ?_
   exact⟨_,rfl,ret (o:=none) (by rw [hf,if_pos (.inr ⟨by omega,y3⟩)])⟩
  | false =>
   rw [if_neg (by rintro (e | ⟨_,e⟩);exact y1 e;rw [y3] at e;cases e)] at hf
   refine goK ?_
   with_unfolding_all exact cutPoint_wp hm hpre htp hrun hl y1 hf
 ·rw [dF y2]
  rw [if_neg (by rintro (e | ⟨e,_⟩);exact y1 e;omega)] at hf
  refine goK ?_
  with_unfolding_all exact cutPoint_wp hm hpre htp hrun hl y1 hf
set_option maxHeartbeats 4000000 in
theorem cut_wp (hm:MonoC C) (hpre:∀s c,PF C 119 [.str s,.str [c]] (.bool (hd c s))) (htp:∀s c,PF C 120 [.str s,.str [c]] (.str (if hd c s then s.drop 1 else s)))
  (hrun:∀s:List UInt8,s.length<9223372036854775807→PF C 100 [.str s] (.int .i64 (runB s))) {s:List UInt8} (hl:s.length<9223372036854775807):wpF gt C F96 [.str s] St.init (Ret (encCut (cutB s))):=by
 have hf:cutB s=if hd 45 s then cutP true (s.drop 1) else cutP false s:=rfl
 generalize cutB s=res at hf ⊢
 refine⟨rfl,?_⟩
 refine goW ?_
 refine call_pf hm (by rfl) (hpre s 45) (goW ?_)
 cases hh:hd 45 s with
 | true =>
  rw [hh,if_pos rfl] at hf
  refine goW ?_
  refine step_ruleO (sx_slLo (l:=1) rfl rfl (hd_len hh)) (goW ?_)
  with_unfolding_all exact cutSign_wp hm hpre htp hrun (by rw [lD];omega) hf
 | false =>
  rw [hh,if_neg (by simp)] at hf
  refine goW ?_
  with_unfolding_all exact cutSign_wp hm hpre htp hrun hl hf
end

def trimL (cs s:List UInt8):List UInt8:=s.dropWhile (cs.contains ·)
def trimR (cs s:List UInt8):List UInt8:=(s.reverse.dropWhile (cs.contains ·)).reverse
def valB:Nat→List UInt8→Nat
 | a,[]=>a
 | a,b::r=>valB (a*10+(b.toNat-48)) r
theorem trimL_le (cs s:List UInt8):(trimL cs s).length≤s.length:=(List.dropWhile_sublist _).length_le
theorem trimR_le (cs s:List UInt8):(trimR cs s).length≤s.length:=by
 have:=(List.dropWhile_sublist (l:=s.reverse) (cs.contains ·)).length_le
 simp only [trimR,List.length_reverse] at this ⊢
 exact this
theorem pow1 (n:Nat):10 ^ (n+1)=10*10 ^ n:=by rw [Nat.pow_succ,Nat.mul_comm]
theorem valB_lt (l:List UInt8):∀(a:Nat),l.all dig=true→valB a l<(a+1)*10 ^ l.length:=by
 induction l with
 | nil=>intro a _;rw [List.length_nil,Nat.pow_zero,Nat.mul_one];exact Nat.lt_succ_self a
 | cons b r ih =>
  intro a h
  rw [List.all_cons,bA] at h
  have hb:b.toNat-48≤9:=by
   have:=h.1
   simp only [dig,bA,decide_eq_true_eq] at this
   omega
  have h2:=ih (a*10+(b.toNat-48)) h.2
  rw [lC,pow1,←Nat.mul_assoc]
  refine Nat.lt_of_lt_of_le h2 ?_
  exact Nat.mul_le_mul_right _ (by omega)
def expT (e:List UInt8):List UInt8:=trimL [48] (trimL [43,45] e)
def expB (e:List UInt8):Option Int :=
 if 6<(expT e).length then none else some (if hd 45 e then -(valB 0 (expT e):Int) else valB 0 (expT e))
def encExp:Option Int→AV
 | none=>.tup [.int .i64 0,.bool false]
 | some n=>.tup [.int .i64 n,.bool true]
theorem sta_exp (o:Option Int):Sta (encExp o):=by cases o<;>exact⟨trivial,trivial,trivial⟩
abbrev Parts3:=Bool×List UInt8×Int
def encP (p:Parts3):AV:=.agg [.bool p.1,.str p.2.1,.int .i64 p.2.2]
def zeroP:Parts3:=(false,[],0)
def splitB (s:List UInt8):Parts3×Int :=
 match cutB s with
 | none=>(zeroP,12)
 | some (neg,w,p,e) =>
  if 1000<s.length then (zeroP,2)
  else match expB e with
  | none=>(zeroP,5)
  | some x =>
   if trimR [48] (trimL [48] (w++p))=[] then (zeroP,0)
   else ((neg,trimR [48] (trimL [48] (w++p)),x-p.length+((trimL [48] (w++p)).length-(trimR [48] (trimL [48] (w++p))).length)),0)
def encSplit (p:Parts3×Int):AV:=.tup [encP p.1,.int .i64 p.2]
theorem sta_split (p:Parts3×Int):Sta (encSplit p):=⟨⟨trivial,trivial,trivial,trivial⟩,trivial,trivial⟩
theorem expB_lt {e:List UInt8} {x:Int} (hd':(expT e).all dig=true) (h:expB e=some x):-999999≤x∧x≤999999:=by
 unfold expB at h
 split at h
 ·cases h
 ·rename_i hl
  have:=valB_lt (expT e) 0 hd'
  have h6:10 ^ (expT e).length≤10 ^ 6:=Nat.pow_le_pow_right (by decide) (by omega)
  have h10:(10:Nat) ^ 6=1000000:=by decide
  simp only [oI] at h
  split at h<;>omega
theorem runB_all:∀{s:List UInt8},¬runB s<s.length→s.all dig=true
 | [],_=>rfl
 | b::r,h=>by
  simp only [runB] at h
  have:=runB_le r
  split at h
  ·rename_i hb
   simp only [lC] at h
   simp only [List.all_cons,hb,Bool.true_and]
   exact runB_all (by omega)
  ·simp only [lC] at h;omega
theorem all_dropWhile {p q:UInt8→Bool}:∀{s:List UInt8},s.all q=true→(s.dropWhile p).all q=true
 | [],_=>rfl
 | b::r,h=>by
  simp only [List.all_cons,bA] at h
  simp only [List.dropWhile_cons]
  split
  ·exact all_dropWhile h.2
  ·simp only [List.all_cons,h.1,h.2,Bool.and_self]
theorem dig_noSign {b:UInt8} (h:dig b=true):([43,45]:List UInt8).contains b=false:=by
 simp only [dig,bA,decide_eq_true_eq] at h
 cases hh:([43,45]:List UInt8).contains b with
 | false=>rfl
 | true =>
  simp only [List.contains_eq_mem,List.mem_cons,List.not_mem_nil,or_false,decide_eq_true_eq] at hh
  rcases hh with rfl | rfl
  ·have:(43:UInt8).toNat=43:=rfl
   omega
  ·have:(45:UInt8).toNat=45:=rfl
   omega
theorem expT_dig {e:List UInt8} (h:(expD e).all dig=true):(expT e).all dig=true:=by
 unfold expT trimL
 apply all_dropWhile
 unfold expD at h
 cases e with
 | nil=>rfl
 | cons b r =>
  by_cases h1:hd 45 (b::r)=true
  ·rw [if_pos h1] at h
   have:b=45:=by simpa [hd] using h1
   subst this
   exact all_dropWhile (p:=fun x=>([43,45]:List UInt8).contains x) (s:=r) h
  ·rw [if_neg h1] at h
   by_cases h2:hd 43 (b::r)=true
   ·rw [if_pos h2] at h
    have:b=43:=by simpa [hd] using h2
    subst this
    exact all_dropWhile (p:=fun x=>([43,45]:List UInt8).contains x) (s:=r) h
   ·rw [if_neg h2] at h
    exact all_dropWhile h
theorem cutE_ok {neg n:Bool} {w p s w' p' e:List UInt8} (h:cutE neg w p s=some (n,w',p',e)):w'=w∧p'=p∧(expT e).all dig=true:=by
 unfold cutE at h
 split at h
 ·simp only [oI,Prod.mk.injEq] at h
  obtain⟨_,rfl,rfl,rfl⟩:=h
  exact⟨rfl,rfl,rfl⟩
 ·split at h
  ·cases h
  ·split at h
   ·cases h
   ·rename_i hh
    simp only [oI,Prod.mk.injEq] at h
    obtain⟨_,rfl,rfl,rfl⟩:=h
    exact⟨rfl,rfl,expT_dig (runB_all fun h=>hh (.inr h))⟩
theorem cutP_ok {neg n:Bool} {s w p e:List UInt8} (h:cutP neg s=some (n,w,p,e)):w.length+p.length≤s.length∧(expT e).all dig=true:=by
 unfold cutP at h
 have h0:=runB_le s
 split at h
 ·cases h
 ·split at h
  ·split at h
   ·cases h
   ·obtain⟨rfl,rfl,h3⟩:=cutE_ok h
    refine⟨?_,h3⟩
    have:=runB_le ((s.drop (runB s)).drop 1)
    simp only [lT,lD] at this ⊢
    omega
  ·obtain⟨rfl,rfl,h3⟩:=cutE_ok h
   exact⟨by simp only [lT,List.length_nil];omega,h3⟩
theorem cutB_ok {n:Bool} {s w p e:List UInt8} (h:cutB s=some (n,w,p,e)):w.length+p.length≤s.length∧(expT e).all dig=true:=by
 unfold cutB at h
 split at h
 ·have:=cutP_ok h
  rw [lD] at this
  exact⟨by omega,this.2⟩
 ·exact cutP_ok h
theorem st_addS {gt:GT} {d:Option Nat} {x y:DOpd} {env:Env} {S:St} {a b:List UInt8} (hx:opd env x=some (.str a)) (hy:opd env y=some (.str b)) (hl:a.length+b.length≤9223372036854775807) :
  stepO gt d env S (.bin .add none x y)=.done (putV d (.str (a++b)) env) S:=by
 simp only [stepO,hx,hy,binV,binS,ble_true hl,cond_true]
 try rfl
section
variable {gt:GT} {C:CallT}
set_option maxHeartbeats 4000000 in
theorem exponent_wp (hm:MonoC C) (hpre:∀s c,PF C 119 [.str s,.str [c]] (.bool (hd c s))) (hs:∀s,PF C 98 [.str s,.str [43,45]] (.str (trimL [43,45] s))) (h0:∀s,PF C 98 [.str s,.str [48]] (.str (trimL [48] s)))
  (hat:∀s:List UInt8,s.all dig=true→1≤s.length→s.length≤18→PF C 121 [.str s] (.tup [.int .i64 (valB 0 s),.nilif])) {e:List UInt8} (he:(expT e).all dig=true) :
  wpF gt C F97 [.str e] St.init (Ret (encExp (expB e))):=by
 have hat:=fun h=>hat (48::expT e) (by simp only [List.all_cons,he,Bool.and_true];decide) (by simp) h
 have hv:valB 0 (48::expT e)=valB 0 (expT e):=rfl
 rw [hv] at hat
 have hlt:=fun x=>expB_lt (x:=x) he
 refine⟨rfl,?_⟩
 refine goW ?_
 refine call_pf hm (by rfl) (hpre e 45) (goW ?_)
 refine call_pf hm (by rfl) (hs e) (goW ?_)
 refine call_pf hm (by rfl) (h0 _) (goW ?_)
 rw [show trimL [48] (trimL [43,45] e)=expT e from rfl]
 unfold expB
 unfold expB at hlt
 generalize expT e=t at hat hlt ⊢
 by_cases h6:(t.length:Int) > 6
 ·rw [dT h6]
  refine goW ?_
  refine⟨_,rfl,?_⟩
  rw [if_pos (by omega)]
  exact Ret.sta (sta_exp none)
 rw [dF h6]
 rw [if_neg (by omega)] at hlt ⊢
 refine goW ?_
 refine step_ruleO (st_addS rfl rfl (by simp only [lC,List.length_nil];omega)) (goW ?_)
 refine call_pf hm (by rfl) (hat (by simp only [lC];omega)) (goW ?_)
 cases hn:hd 45 e with
 | true =>
  have:=hlt _ rfl
  rw [hn,if_pos rfl] at this
  refine goW ?_
  rw [wr64 (by omega) (by omega)]
  refine⟨_,rfl,?_⟩
  rw [if_pos rfl,Int.zero_sub]
  exact Ret.sta (sta_exp (some _))
 | false =>
  refine goW ?_
  refine⟨_,rfl,?_⟩
  rw [if_neg (by simp)]
  exact Ret.sta (sta_exp (some _))
set_option maxHeartbeats 4000000 in
theorem split_wp (hm:MonoC C) (hcut:∀s:List UInt8,s.length<9223372036854775807→PF C 96 [.str s] (encCut (cutB s))) (hexp:∀e:List UInt8,(expT e).all dig=true→PF C 97 [.str e] (encExp (expB e)))
  (h0:∀s,PF C 98 [.str s,.str [48]] (.str (trimL [48] s))) (h1:∀s:List UInt8,s.length<9223372036854775807→PF C 99 [.str s,.str [48]] (.str (trimR [48] s)))
  {s:List UInt8} (hl:s.length<9223372036854775807):wpF gt C F84 [.str s] St.init (Ret (encSplit (splitB s))):=by
 have hcut:=hcut s hl
 have hok:=fun n w p e=>cutB_ok (n:=n) (s:=s) (w:=w) (p:=p) (e:=e)
 have ret:∀{o:Parts3×Int} {S:St},splitB s=o→Ret (encSplit (splitB s)) (.ret (encSplit o)) S:=fun h=>by rw [h];exact Ret.sta (sta_split _)
 have hf:splitB s=match cutB s with
  | none=>(zeroP,12)
  | some (neg,w,p,e) =>
   if 1000<s.length then (zeroP,2)
   else match expB e with
   | none=>(zeroP,5)
   | some x =>
    if trimR [48] (trimL [48] (w++p))=[] then (zeroP,0)
    else ((neg,trimR [48] (trimL [48] (w++p)),x-p.length+((trimL [48] (w++p)).length-(trimR [48] (trimL [48] (w++p))).length)),0):=rfl
 generalize splitB s=res at ret hf ⊢
 generalize cutB s=cu at hcut hok hf
 refine⟨rfl,?_⟩
 refine goW ?_
 refine call_pf hm (by rfl) hcut ?_
 cases cu with
 | none =>
  refine goW ?_
  exact⟨_,rfl,ret (o:=(zeroP,12)) hf⟩
 | some q =>
  obtain⟨neg,w,p,e⟩:=q
  obtain⟨hwp,he⟩:=hok neg w p e rfl
  simp only at hf
  have hexp:=hexp e he
  have hb:=fun x=>expB_lt (x:=x) he
  refine goW ?_
  by_cases z1:(s.length:Int) > 1000
  ·rw [dT z1]
   refine goW ?_
   exact⟨_,rfl,ret (o:=(zeroP,2)) (by rw [hf,if_pos (by omega)])⟩
  rw [dF z1]
  rw [if_neg (by omega)] at hf
  refine goW ?_
  generalize expB e=ex at hexp hb hf
  refine call_pf hm (by rfl) hexp ?_
  cases ex with
  | none =>
   refine goW ?_
   exact⟨_,rfl,ret (o:=(zeroP,5)) hf⟩
  | some x =>
   simp only at hf
   have hb:=hb x rfl
   refine goW ?_
   refine step_ruleO (st_addS rfl rfl (by omega)) (goW ?_)
   have t1:=trimL_le [48] (w++p)
   rw [lA] at t1
   have t2:=trimR_le [48] (trimL [48] (w++p))
   refine call_pf hm (by rfl) (h0 (w++p)) (goW ?_)
   generalize trimL [48] (w++p)=ds at t1 t2 hf ⊢
   refine call_pf hm (by rfl) (h1 ds (by omega)) (goW ?_)
   generalize trimR [48] ds=sh at t2 hf ⊢
   by_cases z2:sh=[]
   ·rw [beqB_true z2]
    refine goW ?_
    exact⟨_,rfl,ret (o:=(zeroP,0)) (by rw [hf,if_pos z2])⟩
   rw [beqB_false z2]
   refine goW ?_
   rw [wr64 (n:=x-(p.length:Int)) (by omega) (by omega),wr64 (n:=(ds.length:Int)-(sh.length:Int)) (by omega) (by omega),wr64 (by omega) (by omega)]
   exact⟨_,rfl,ret (o:=((neg,sh,_),0)) (by rw [hf,if_neg z2])⟩
end

def decB (n:Nat):List UInt8:=if h:n<10 then [UInt8.ofNat (48+n)] else decB (n / 10)++[UInt8.ofNat (48+n % 10)]
termination_by n
def itoaB (e:Int):List UInt8:=if e<0 then 45::decB e.natAbs else decB e.toNat
theorem decB_len (n:Nat):(decB n).length≤n+1:=by
 induction n using Nat.strongRecOn with
 | _ n ih =>
  unfold decB
  split
  ·simp
  ·have:=ih (n / 10) (by omega)
   simp only [lA,lC,List.length_nil]
   omega
theorem itoaB_len {e:Int} (h:-999999≤e) (h2:e≤999999):(itoaB e).length≤1000001:=by
 unfold itoaB
 split
 ·have:=decB_len e.natAbs
  simp only [lC];omega
 ·have:=decB_len e.toNat
  omega
def tl (c:UInt8) (s:List UInt8):Bool:=hd c s.reverse
theorem tl_last {c:UInt8} {s:List UInt8} {b:UInt8} (h:s[s.length-1]? = some b) (h0:0<s.length):tl c s=(b == c):=by
 unfold tl
 refine hd_head ?_
 rw [List.getElem?_reverse h0]
 exact h
def joinB (p:Parts3):List UInt8×Int :=
 if runB p.2.1<p.2.1.length∨(hd 48 p.2.1=true∨tl 48 p.2.1=true)∨(p.2.1=[]∧(p.2.2≠0∨p.1=true)) then ([],1)
 else if p.2.2 < -999999∨999999<p.2.2 then ([],5)
 else if p.2.1=[] then ([48],0)
 else if 1000<((if p.1=true then [45]++p.2.1 else p.2.1)++(if p.2.2=0 then [] else [101]++itoaB p.2.2)).length then ([],2)
 else ((if p.1=true then [45]++p.2.1 else p.2.1)++(if p.2.2=0 then [] else [101]++itoaB p.2.2),0)
def encJoin (p:List UInt8×Int):AV:=.tup [.str p.1,.int .i64 p.2]
theorem sta_join (p:List UInt8×Int):Sta (encJoin p):=⟨trivial,trivial,trivial⟩
def normB (s:List UInt8):List UInt8×Int:=if (splitB s).2=0 then joinB (splitB s).1 else ([],(splitB s).2)
theorem splitB_len {s:List UInt8} (h:(splitB s).2=0):(splitB s).1.2.1.length≤1000:=by
 unfold splitB at h ⊢
 cases hc:cutB s with
 | none=>rw [hc] at h;cases h
 | some q =>
  obtain⟨neg,w,p,e⟩:=q
  rw [hc] at h
  simp only at h ⊢
  obtain⟨h1,_⟩:=cutB_ok hc
  split
  ·exact Nat.zero_le _
  ·cases expB e with
   | none=>exact Nat.zero_le _
   | some x =>
    simp only
    split
    ·exact Nat.zero_le _
    ·have t1:=trimL_le [48] (w++p)
     have t2:=trimR_le [48] (trimL [48] (w++p))
     rw [lA] at t1
     show (trimR [48] (trimL [48] (w++p))).length≤1000
     omega
section
variable {gt:GT} {C:CallT}
set_option maxHeartbeats 8000000 in
theorem join_wp (hm:MonoC C) (hrun:∀s:List UInt8,s.length<9223372036854775807→PF C 100 [.str s] (.int .i64 (runB s)))
  (hit:∀e:Int,-999999≤e→e≤999999→PF C 101 [.int .i64 e] (.str (itoaB e))) {p:Parts3} (hl:p.2.1.length≤1000):wpF gt C F85 [encP p] St.init (Ret (encJoin (joinB p))):=by
 obtain⟨neg,d,e⟩:=p
 simp only at hl
 have ret:∀{o:List UInt8×Int} {S:St},joinB (neg,d,e)=o→Ret (encJoin (joinB (neg,d,e))) (.ret (encJoin o)) S:=fun h=>by rw [h];exact Ret.sta (sta_join _)
 have hf:joinB (neg,d,e)=if runB d<d.length∨(hd 48 d=true∨tl 48 d=true)∨(d=[]∧(e≠0∨neg=true)) then ([],1)
  else if e < -999999∨999999<e then ([],5)
  else if d=[] then ([48],0)
  else if 1000<((if neg=true then [45]++d else d)++(if e=0 then [] else [101]++itoaB e)).length then ([],2)
  else ((if neg=true then [45]++d else d)++(if e=0 then [] else [101]++itoaB e),0):=rfl
 generalize joinB (neg,d,e)=res at ret hf ⊢
 refine⟨rfl,?_⟩
 refine goW ?_
 refine call_pf hm (by rfl) (hrun d (by omega)) (goW ?_)
 by_cases z1:(runB d:Int)<(d.length:Nat)
 ·rw [dT z1]
  refine goW ?_
  exact⟨_,rfl,ret (o:=([],1)) (by rw [hf,if_pos (.inl (by omega))])⟩
 rw [dF z1]
 have z1':¬runB d<d.length:=by omega
 clear z1
 refine goW ?_
 cases d with
 | nil =>
  have hn:¬((([]:List UInt8).length:Nat):Int) > 0:=by simp
  rw [dF hn]
  refine goW ?_
  by_cases y1:e=0
  ·rw [neI_false y1]
   refine goW ?_
   cases neg with
   | true =>
    refine goW ?_
    exact⟨_,rfl,ret (o:=([],1)) (by rw [hf,if_pos (.inr (.inr ⟨rfl,.inr rfl⟩))])⟩
   | false =>
    refine goW ?_
    rw [if_neg (by rintro (h | (h | h) | ⟨_,h | h⟩);exact z1' h;cases h;cases h;exact h y1;cases h)] at hf
    subst y1
    refine goW ?_
    exact⟨_,rfl,ret (o:=([48],0)) (by rw [hf,if_neg (by omega),if_pos rfl])⟩
  ·rw [neI_true y1]
   refine goW ?_
   exact⟨_,rfl,ret (o:=([],1)) (by rw [hf,if_pos (.inr (.inr ⟨rfl,.inl y1⟩))])⟩
 | cons b r =>
  have hlen:(b::r).length=r.length+1:=rfl
  generalize hd0:b::r=d at ret hf hl z1' hlen ⊢
  have hb0:d[0]? = some b:=by rw [←hd0];rfl
  have hne:d≠[]:=by rw [←hd0];simp
  obtain⟨lb,hlb⟩:∃lb,d[d.length-1]? = some lb:=⟨_,gE (by omega)⟩
  rw [dT (show ((d.length:Nat):Int) > 0 by omega)]
  refine goW ?_
  refine st_any (by exact rfl) (sx_ixS (k:=0) rfl rfl hb0) (goW ?_)
  rw [show ((48:Int))=((48:UInt8).toNat:Int) from rfl,u8_eqI,←hd_head (c:=48) hb0]
  cases y1:hd 48 d with
  | true =>
   refine goW ?_
   exact⟨_,rfl,ret (o:=([],1)) (by rw [hf,if_pos (.inr (.inl (.inl y1)))])⟩
  | false =>
   refine goW ?_
   rw [show wr .i64 ((d.length:Int)-1)=((d.length-1:Nat):Int) by rw [wr64 (by omega) (by omega)];omega]
   refine st_any (by exact rfl) (sx_ixS (k:=d.length-1) rfl rfl hlb) (goW ?_)
   rw [u8_eqI,←tl_last (c:=48) hlb (by omega)]
   cases y2:tl 48 d with
   | true =>
    refine goW ?_
    exact⟨_,rfl,ret (o:=([],1)) (by rw [hf,if_pos (.inr (.inl (.inr y2)))])⟩
   | false =>
    rw [if_neg (by rintro (h | (h | h) | ⟨h,_⟩);exact z1' h;rw [y1] at h;cases h;rw [y2] at h;cases h;exact hne h)] at hf
    refine goW ?_
    rw [eqI_false (show ¬((d.length:Nat):Int)=0 by omega)]
    refine goW ?_
    by_cases x1:e < -999999
    ·rw [dT x1]
     refine goW ?_
     exact⟨_,rfl,ret (o:=([],5)) (by rw [hf,if_pos (.inl x1)])⟩
    rw [dF x1]
    refine goW ?_
    by_cases x2:e > 999999
    ·rw [dT x2]
     refine goW ?_
     exact⟨_,rfl,ret (o:=([],5)) (by rw [hf,if_pos (.inr x2)])⟩
    rw [dF x2]
    rw [if_neg (by omega),if_neg hne] at hf
    have hil:=itoaB_len (e:=e) (by omega) (by omega)
    refine goW ?_
    rw [eqI_false (show ¬((d.length:Nat):Int)=0 by omega)]
    refine goW ?_
    cases neg with
    | true =>
     rw [if_pos rfl] at hf
     refine goW ?_
     refine step_ruleO (st_addS rfl rfl (by simp only [lC,List.length_nil];omega)) (goW ?_)
     by_cases z5:e=0
     ·rw [neI_false z5]
      rw [if_pos z5] at hf
      refine goW ?_
      by_cases z6:(([45]++d).length:Int) > 1000
      ·rw [dT z6]
       refine goW ?_
       exact⟨_,rfl,ret (o:=([],2)) (by rw [hf,if_pos (by (try simp only [lA,lC,List.length_nil] at z6);(try simp only [lA,lC,List.length_nil]);omega)])⟩
      rw [dF z6]
      refine goW ?_
      exact⟨_,rfl,ret (o:=([45]++d,0)) (by rw [hf,if_neg (by (try simp only [lA,lC,List.length_nil] at z6);(try simp only [lA,lC,List.length_nil]);omega)];try simp only [List.append_nil,aA];try rfl)⟩
     rw [neI_true z5]
     rw [if_neg z5] at hf
     refine goW ?_
     refine call_pf hm (by rfl) (hit e (by omega) (by omega)) (goW ?_)
     refine step_ruleO (st_addS rfl rfl (by simp only [lC,List.length_nil];omega)) (goW ?_)
     refine step_ruleO (st_addS rfl rfl (by simp only [lA,lC,List.length_nil];omega)) (goW ?_)
     by_cases z6:(([45]++d++([101]++itoaB e)).length:Int) > 1000
     ·rw [dT z6]
      refine goW ?_
      exact⟨_,rfl,ret (o:=([],2)) (by rw [hf,if_pos (by (try simp only [lA,lC,List.length_nil] at z6);(try simp only [lA,lC,List.length_nil]);omega)])⟩
     rw [dF z6]
     refine goW ?_
     exact⟨_,rfl,ret (o:=([45]++d++([101]++itoaB e),0)) (by rw [hf,if_neg (by (try simp only [lA,lC,List.length_nil] at z6);(try simp only [lA,lC,List.length_nil]);omega)];try simp only [List.append_nil,aA];try rfl)⟩
    | false =>
     simp only [Bool.false_eq_true,if_false] at hf
     refine goW ?_
     by_cases z5:e=0
     ·rw [neI_false z5]
      rw [if_pos z5] at hf
      refine goW ?_
      by_cases z6:((d).length:Int) > 1000
      ·rw [dT z6]
       refine goW ?_
       exact⟨_,rfl,ret (o:=([],2)) (by rw [hf,if_pos (by (try simp only [lA,lC,List.length_nil] at z6);(try simp only [lA,lC,List.length_nil]);omega)])⟩
      rw [dF z6]
      refine goW ?_
      exact⟨_,rfl,ret (o:=(d,0)) (by rw [hf,if_neg (by (try simp only [lA,lC,List.length_nil] at z6);(try simp only [lA,lC,List.length_nil]);omega)];try simp only [List.append_nil,aA];try rfl)⟩
     rw [neI_true z5]
     rw [if_neg z5] at hf
     refine goW ?_
     refine call_pf hm (by rfl) (hit e (by omega) (by omega)) (goW ?_)
     refine step_ruleO (st_addS rfl rfl (by simp only [lC,List.length_nil];omega)) (goW ?_)
     refine step_ruleO (st_addS rfl rfl (by simp only [lA,lC,List.length_nil];omega)) (goW ?_)
     by_cases z6:((d++([101]++itoaB e)).length:Int) > 1000
     ·rw [dT z6]
      refine goW ?_
      exact⟨_,rfl,ret (o:=([],2)) (by rw [hf,if_pos (by (try simp only [lA,lC,List.length_nil] at z6);(try simp only [lA,lC,List.length_nil]);omega)])⟩
     rw [dF z6]
     refine goW ?_
     exact⟨_,rfl,ret (o:=(d++([101]++itoaB e),0)) (by rw [hf,if_neg (by (try simp only [lA,lC,List.length_nil] at z6);(try simp only [lA,lC,List.length_nil]);omega)];try simp only [List.append_nil,aA];try rfl)⟩
set_option maxHeartbeats 4000000 in
theorem normal_wp (hm:MonoC C) (hsplit:∀s:List UInt8,s.length<9223372036854775807→PF C 84 [.str s] (encSplit (splitB s))) (hjoin:∀p:Parts3,p.2.1.length≤1000→PF C 85 [encP p] (encJoin (joinB p)))
  {s:List UInt8} (hl:s.length<9223372036854775807):wpF gt C F66 [.str s] St.init (Ret (encJoin (normB s))):=by
 have hsplit:=hsplit s hl
 have hlen:=splitB_len (s:=s)
 unfold normB
 generalize splitB s=q at hsplit hlen ⊢
 obtain⟨⟨neg,d,e⟩,er⟩:=q
 simp only at hlen ⊢
 refine⟨rfl,?_⟩
 refine goW ?_
 refine call_pf hm (by rfl) hsplit (goW ?_)
 by_cases z:er=0
 ·rw [neI_false z,if_pos z]
  refine goW ?_
  have hj:=hjoin (neg,d,e) (hlen z)
  refine call_pf hm (by rfl) hj ?_
  generalize joinB (neg,d,e)=jr
  refine goW ?_
  exact⟨_,rfl,Ret.sta (sta_join _)⟩
 ·rw [neI_true z,if_neg z]
  refine goW ?_
  exact⟨_,rfl,Ret.sta (sta_join ([],er))⟩
end

def twoB:List UInt8→Int
 | [a,b]=>if dig a=true∧dig b=true then ((a.toNat:Int)-48)*10+((b.toNat:Int)-48) else -1
 | _=>-1
def withinB (s:List UInt8) (lo hi:Int):Bool:=decide (twoB s ≥ lo) && decide (twoB s≤hi)
def daysB (y m:Int):Int :=
 if m=4∨m=6∨m=9∨m=11 then 30
 else if m=2 then (if Int.tmod y 4=0∧(Int.tmod y 100≠0∨Int.tmod y 400=0) then 29 else 28)
 else 31
theorem dig_iff {b:UInt8}:dig b=true↔48≤b.toNat∧b.toNat≤57:=by
 simp only [dig,bA,decide_eq_true_eq]
section
variable {gt:GT} {C:CallT}
theorem twoB_len {s:List UInt8} (h:s.length≠2):twoB s=-1:=by
 match s,h with
 | [],_=>rfl
 | [_],_=>rfl
 | [_,_],h=>exact absurd rfl h
 | _::_::_::_,_=>rfl
theorem wr8 {n:Int} (h:0≤n) (h2:n<256):wr .u8 n=n:=by
 rw [wr_eq]
 refine inR_wrap ?_
 obtain⟨m,rfl⟩:∃m:Nat,n=m:=⟨n.toNat,by omega⟩
 simp only [inR]
 exact Nat.ble_eq_true_of_le (by omega)
set_option maxHeartbeats 4000000 in
theorem two_wp {s:List UInt8}:wpF gt C F102 [.str s] St.init (Ret (.int .i64 (twoB s))):=by
 have ret:∀{z:Int} {S:St},twoB s=z→Ret (.int .i64 (twoB s)) (.ret (.int .i64 z)) S:=fun h=>by rw [h];exact Ret.sta trivial
 refine⟨rfl,?_⟩
 refine goW ?_
 by_cases z:s.length=2
 case neg =>
  rw [neI_true (show ¬((s.length:Nat):Int)=2 by omega)]
  refine goW ?_
  exact⟨_,rfl,ret (twoB_len z)⟩
 obtain⟨a,b,rfl⟩:∃a b,s=[a,b]:=by
  match s,z with
  | [a,b],_=>exact⟨a,b,rfl⟩
 have ha:=u8_lt a
 have hb:=u8_lt b
 rw [neI_false (show (([a,b]:List UInt8).length:Int)=2 from rfl)]
 have hno:¬(dig a=true∧dig b=true)→twoB [a,b]=-1:=fun h=>if_neg h
 refine goW ?_
 by_cases z1:(a.toNat:Int)<48
 ·rw [dT z1]
  refine goW ?_
  exact⟨_,rfl,ret (hno (by rw [dig_iff,dig_iff];omega))⟩
 rw [dF z1]
 refine goW ?_
 by_cases z2:(a.toNat:Int) > 57
 ·rw [dT z2]
  refine goW ?_
  exact⟨_,rfl,ret (hno (by rw [dig_iff,dig_iff];omega))⟩
 rw [dF z2]
 refine goW ?_
 by_cases z3:(b.toNat:Int)<48
 ·rw [dT z3]
  refine goW ?_
  exact⟨_,rfl,ret (hno (by rw [dig_iff,dig_iff];omega))⟩
 rw [dF z3]
 refine goW ?_
 by_cases z4:(b.toNat:Int) > 57
 ·rw [dT z4]
  refine goW ?_
  exact⟨_,rfl,ret (hno (by rw [dig_iff,dig_iff];omega))⟩
 rw [dF z4]
 refine goW ?_
 refine⟨_,rfl,ret ?_⟩
 rw [wr8 (n:=(a.toNat:Int)-48) (by omega) (by omega),wr8 (n:=(b.toNat:Int)-48) (by omega) (by omega),wr64 (n:=(a.toNat:Int)-48) (by omega) (by omega),wr64 (n:=(b.toNat:Int)-48) (by omega) (by omega),wr64 (n:=((a.toNat:Int)-48)*10) (by omega) (by omega),wr64 (by omega) (by omega)]
 exact if_pos (by rw [dig_iff,dig_iff];omega)
set_option maxHeartbeats 4000000 in
theorem within_wp (hm:MonoC C) (h:∀s,PF C 102 [.str s] (.int .i64 (twoB s))) {s:List UInt8} {lo hi:Int}:wpF gt C F103 [.str s,.int .i64 lo,.int .i64 hi] St.init (Ret (.bool (withinB s lo hi))):=by
 refine⟨rfl,?_⟩
 refine goW ?_
 refine call_pf hm (by rfl) (h s) (goW ?_)
 unfold withinB
 by_cases z1:twoB s ≥ lo
 ·rw [dT z1]
  refine goW ?_
  refine call_pf hm (by rfl) (h s) (goW ?_)
  exact⟨_,rfl,Ret.sta trivial⟩
 ·rw [dF z1]
  refine goW ?_
  exact⟨_,rfl,Ret.sta trivial⟩
set_option maxHeartbeats 4000000 in
theorem days_wp {y m:Int}:wpF gt C F104 [.int .i64 y,.int .i64 m] St.init (Ret (.int .i64 (daysB y m))):=by
 have ret:∀{z:Int} {S:St},daysB y m=z→Ret (.int .i64 (daysB y m)) (.ret (.int .i64 z)) S:=fun h=>by rw [h];exact Ret.sta trivial
 refine⟨rfl,?_⟩
 refine goW ?_
 by_cases z1:m=4
 ·rw [eqI_true z1]
  refine goW ?_
  exact⟨_,rfl,ret (if_pos (.inl z1))⟩
 rw [eqI_false z1]
 refine goW ?_
 by_cases z2:m=6
 ·rw [eqI_true z2]
  refine goW ?_
  exact⟨_,rfl,ret (if_pos (.inr (.inl z2)))⟩
 rw [eqI_false z2]
 refine goW ?_
 by_cases z3:m=9
 ·rw [eqI_true z3]
  refine goW ?_
  exact⟨_,rfl,ret (if_pos (.inr (.inr (.inl z3))))⟩
 rw [eqI_false z3]
 refine goW ?_
 by_cases z4:m=11
 ·rw [eqI_true z4]
  refine goW ?_
  exact⟨_,rfl,ret (if_pos (.inr (.inr (.inr z4))))⟩
 rw [eqI_false z4]
 have hf:daysB y m=if m=2 then (if Int.tmod y 4=0∧(Int.tmod y 100≠0∨Int.tmod y 400=0) then 29 else 28) else 31:=if_neg (by rintro (h | h | h | h)<;>contradiction)
 refine goW ?_
 by_cases z5:m=2
 case neg =>
  rw [eqI_false z5]
  refine goW ?_
  exact⟨_,rfl,ret (by rw [hf,if_neg z5])⟩
 rw [eqI_true z5]
 rw [if_pos z5] at hf
 refine goW ?_
 by_cases z6:Int.tmod y 4=0
 case neg =>
  rw [eqI_false z6]
  refine goW ?_
  exact⟨_,rfl,ret (by rw [hf,if_neg (by rintro⟨h,_⟩;exact z6 h)])⟩
 rw [eqI_true z6]
 refine goW ?_
 by_cases z7:Int.tmod y 100=0
 case neg =>
  rw [neI_true z7]
  refine goW ?_
  exact⟨_,rfl,ret (by rw [hf,if_pos ⟨z6,.inl z7⟩])⟩
 rw [neI_false z7]
 refine goW ?_
 by_cases z8:Int.tmod y 400=0
 ·rw [eqI_true z8]
  refine goW ?_
  exact⟨_,rfl,ret (by rw [hf,if_pos ⟨z6,.inr z8⟩])⟩
 ·rw [eqI_false z8]
  refine goW ?_
  exact⟨_,rfl,ret (by rw [hf,if_neg (by rintro⟨_,h | h⟩;exact h z7;exact z8 h)])⟩
end

def atB (s:List UInt8) (k:Nat) (c:UInt8):Bool:=hd c (s.drop k)
theorem atB_get {s:List UInt8} {k:Nat} {b c:UInt8} (h:s[k]? = some b):atB s k c=(b == c) :=
 hd_head (by rw [List.getElem?_drop];exact h)
def sub (s:List UInt8) (i j:Nat):List UInt8:=(s.drop i).take (j-i)
def dateB (s:List UInt8):Bool :=
 decide (s.length=10) && (atB s 4 45 && (atB s 7 45 && (decide (0≤twoB (s.take 2)) && (decide (0≤twoB (sub s 2 4)) && (withinB (sub s 5 7) 1 12 &&
  withinB (s.drop 8) 1 (daysB (twoB (s.take 2)*100+twoB (sub s 2 4)) (twoB (sub s 5 7))))))))
theorem twoB_le (s:List UInt8):-1≤twoB s∧twoB s≤99:=by
 match s with
 | []=>exact⟨by decide,by decide⟩
 | [_]=>exact⟨Int.le_refl _,by simp only [twoB];omega⟩
 | [a,b] =>
  simp only [twoB]
  split
  ·rename_i h
   rw [dig_iff,dig_iff] at h
   omega
  ·omega
 | _::_::_::_=>exact⟨Int.le_refl _,by simp only [twoB];omega⟩
section
variable {gt:GT} {C:CallT}
set_option maxHeartbeats 4000000 in
theorem date_wp (hm:MonoC C) (h2:∀s,PF C 102 [.str s] (.int .i64 (twoB s))) (hw:∀s lo hi,PF C 103 [.str s,.int .i64 lo,.int .i64 hi] (.bool (withinB s lo hi)))
  (hdy:∀y m,PF C 104 [.int .i64 y,.int .i64 m] (.int .i64 (daysB y m))) {s:List UInt8}:wpF gt C F86 [.str s] St.init (Ret (.bool (dateB s))):=by
 have ret:∀{z:Bool} {S:St},dateB s=z→Ret (.bool (dateB s)) (.ret (.bool z)) S:=fun h=>by rw [h];exact Ret.sta trivial
 have hf:dateB s=(decide (s.length=10) && (atB s 4 45 && (atB s 7 45 && (decide (0≤twoB (s.take 2)) && (decide (0≤twoB (sub s 2 4)) && (withinB (sub s 5 7) 1 12 &&
  withinB (s.drop 8) 1 (daysB (twoB (s.take 2)*100+twoB (sub s 2 4)) (twoB (sub s 5 7))))))))):=rfl
 generalize dateB s=res at ret hf ⊢
 refine⟨rfl,?_⟩
 refine goW ?_
 by_cases z:s.length=10
 case neg =>
  rw [neI_true (show ¬((s.length:Nat):Int)=10 by omega)]
  refine goW ?_
  exact⟨_,rfl,ret (by rw [hf,dF z];rfl)⟩
 rw [neI_false (show ((s.length:Nat):Int)=10 by omega)]
 rw [dT z,Bool.true_and] at hf
 obtain⟨b4,hb4⟩:∃b,s[4]? = some b:=⟨_,gE (by omega)⟩
 obtain⟨b7,hb7⟩:∃b,s[7]? = some b:=⟨_,gE (by omega)⟩
 refine goW ?_
 refine st_any (by exact rfl) (sx_ixS (k:=4) rfl rfl hb4) (goW ?_)
 rw [show ((45:Int))=((45:UInt8).toNat:Int) from rfl,u8_neI,←atB_get (c:=45) hb4]
 cases y1:atB s 4 45 with
 | false =>
  refine goW ?_
  exact⟨_,rfl,ret (by rw [hf,y1];rfl)⟩
 | true =>
 rw [y1,Bool.true_and] at hf
 refine goW ?_
 refine st_any (by exact rfl) (sx_ixS (k:=7) rfl rfl hb7) (goW ?_)
 rw [u8_neI,←atB_get (c:=45) hb7]
 cases y2:atB s 7 45 with
 | false =>
  refine goW ?_
  exact⟨_,rfl,ret (by rw [hf,y2];rfl)⟩
 | true =>
 rw [y2,Bool.true_and] at hf
 refine goW ?_
 refine st_any (by exact rfl) (sx_slHiS (h:=2) rfl rfl (by omega)) (goW ?_)
 refine call_pf hm (by rfl) (h2 (s.take 2)) (goW ?_)
 have g1:=twoB_le (s.take 2)
 by_cases y3:twoB (s.take 2)<0
 ·rw [dT y3]
  refine goW ?_
  exact⟨_,rfl,ret (by rw [hf,dF (show ¬0≤twoB (s.take 2) by omega)];rfl)⟩
 rw [dF y3]
 rw [dT (show 0≤twoB (s.take 2) by omega),Bool.true_and] at hf
 refine goW ?_
 refine st_any (by exact rfl) (sx_slLH (l:=2) (h:=4) rfl rfl rfl (by omega) (by omega)) (goW ?_)
 rw [show (s.drop 2).take (4-2)=sub s 2 4 from rfl]
 refine call_pf hm (by rfl) (h2 (sub s 2 4)) (goW ?_)
 have g2:=twoB_le (sub s 2 4)
 by_cases y4:twoB (sub s 2 4)<0
 ·rw [dT y4]
  refine goW ?_
  exact⟨_,rfl,ret (by rw [hf,dF (show ¬0≤twoB (sub s 2 4) by omega)];rfl)⟩
 rw [dF y4]
 rw [dT (show 0≤twoB (sub s 2 4) by omega),Bool.true_and] at hf
 refine goW ?_
 refine st_any (by exact rfl) (sx_slLH (l:=5) (h:=7) rfl rfl rfl (by omega) (by omega)) (goW ?_)
 rw [show (s.drop 5).take (7-5)=sub s 5 7 from rfl]
 refine call_pf hm (by rfl) (hw (sub s 5 7) 1 12) (goW ?_)
 cases y5:withinB (sub s 5 7) 1 12 with
 | false =>
  refine goW ?_
  exact⟨_,rfl,ret (by rw [hf,y5];rfl)⟩
 | true =>
 rw [y5,Bool.true_and] at hf
 refine goW ?_
 refine step_ruleDO rfl rfl (sx_slLo (l:=8) rfl rfl (by omega)) (goW ?_)
 refine step_ruleDO rfl rfl (sx_slHiS (h:=2) rfl rfl (by omega)) (goW ?_)
 refine step_ruleDO rfl rfl (sx_slLH (l:=2) (h:=4) rfl rfl rfl (by omega) (by omega)) (goW ?_)
 refine step_ruleDO rfl rfl (sx_slLH (l:=5) (h:=7) rfl rfl rfl (by omega) (by omega)) (goW ?_)
 rw [show (s.drop 5).take (7-5)=sub s 5 7 from rfl,show (s.drop 2).take (4-2)=sub s 2 4 from rfl]
 refine call_pfD hm (by rfl) (h2 (s.take 2)) (goW ?_)
 refine call_pfD hm (by rfl) (h2 (sub s 2 4)) (goW ?_)
 refine call_pfD hm (by rfl) (h2 (sub s 5 7)) (goW ?_)
 rw [wr64 (n:=twoB (s.take 2)*100) (by omega) (by omega),wr64 (by omega) (by omega)]
 refine call_pfD hm (by rfl) (hdy _ _) (goW ?_)
 refine call_pfD hm (by rfl) (hw _ _ _) (goW ?_)
 exact⟨_,rfl,ret hf⟩
end

abbrev tenD:List UInt8:=[48,49,50,51,52,53,54,55,56,57]
def trimA (cs s:List UInt8):List UInt8:=trimL cs (trimR cs s)
def clockB (s:List UInt8):Bool :=
 decide (8≤s.length) && (atB s 2 58 && (atB s 5 58 && (withinB (s.take 2) 0 23 && (withinB (sub s 3 5) 0 59 && (withinB (sub s 6 8) 0 59 &&
  (decide (s.length=8) || (atB s 8 46 && (decide (1≤(s.drop 9).length) && (decide ((s.drop 9).length≤9) && beqB (trimA tenD (s.drop 9)) [])))))))))
section
variable {gt:GT} {C:CallT}
set_option maxHeartbeats 4000000 in
theorem clock_wp (hm:MonoC C) (hw:∀s lo hi,PF C 103 [.str s,.int .i64 lo,.int .i64 hi] (.bool (withinB s lo hi)))
  (htr:∀s:List UInt8,s.length<9223372036854775807→PF C 105 [.str s,.str tenD] (.str (trimA tenD s))) {s:List UInt8} (hl:s.length<9223372036854775807):wpF gt C F87 [.str s] St.init (Ret (.bool (clockB s))):=by
 have ret:∀{z:Bool} {S:St},clockB s=z→Ret (.bool (clockB s)) (.ret (.bool z)) S:=fun h=>by rw [h];exact Ret.sta trivial
 have hf:clockB s=(decide (8≤s.length) && (atB s 2 58 && (atB s 5 58 && (withinB (s.take 2) 0 23 && (withinB (sub s 3 5) 0 59 && (withinB (sub s 6 8) 0 59 &&
  (decide (s.length=8) || (atB s 8 46 && (decide (1≤(s.drop 9).length) && (decide ((s.drop 9).length≤9) && beqB (trimA tenD (s.drop 9)) [])))))))))):=rfl
 generalize clockB s=res at ret hf ⊢
 refine⟨rfl,?_⟩
 refine goW ?_
 by_cases z:8≤s.length
 case neg =>
  rw [dT (show ((s.length:Nat):Int)<8 by omega)]
  refine goW ?_
  exact⟨_,rfl,ret (by rw [hf,dF z];rfl)⟩
 rw [dF (show ¬((s.length:Nat):Int)<8 by omega)]
 rw [dT z,Bool.true_and] at hf
 obtain⟨b2,hb2⟩:∃b,s[2]? = some b:=⟨_,gE (by omega)⟩
 obtain⟨b5,hb5⟩:∃b,s[5]? = some b:=⟨_,gE (by omega)⟩
 refine goW ?_
 refine st_any (by exact rfl) (sx_ixS (k:=2) rfl rfl hb2) (goW ?_)
 rw [show ((58:Int))=((58:UInt8).toNat:Int) from rfl,u8_neI,←atB_get (c:=58) hb2]
 cases y1:atB s 2 58 with
 | false =>
  refine goW ?_
  exact⟨_,rfl,ret (by rw [hf,y1];rfl)⟩
 | true =>
 rw [y1,Bool.true_and] at hf
 refine goW ?_
 refine st_any (by exact rfl) (sx_ixS (k:=5) rfl rfl hb5) (goW ?_)
 rw [u8_neI,←atB_get (c:=58) hb5]
 cases y2:atB s 5 58 with
 | false =>
  refine goW ?_
  exact⟨_,rfl,ret (by rw [hf,y2];rfl)⟩
 | true =>
 rw [y2,Bool.true_and] at hf
 refine goW ?_
 refine st_any (by exact rfl) (sx_slHiS (h:=2) rfl rfl (by omega)) (goW ?_)
 refine call_pf hm (by rfl) (hw (s.take 2) 0 23) (goW ?_)
 cases y3:withinB (s.take 2) 0 23 with
 | false =>
  refine goW ?_
  exact⟨_,rfl,ret (by rw [hf,y3];rfl)⟩
 | true =>
 rw [y3,Bool.true_and] at hf
 refine goW ?_
 refine st_any (by exact rfl) (sx_slLH (l:=3) (h:=5) rfl rfl rfl (by omega) (by omega)) (goW ?_)
 rw [show (s.drop 3).take (5-3)=sub s 3 5 from rfl]
 refine call_pf hm (by rfl) (hw (sub s 3 5) 0 59) (goW ?_)
 cases y4:withinB (sub s 3 5) 0 59 with
 | false =>
  refine goW ?_
  exact⟨_,rfl,ret (by rw [hf,y4];rfl)⟩
 | true =>
 rw [y4,Bool.true_and] at hf
 refine goW ?_
 refine st_any (by exact rfl) (sx_slLH (l:=6) (h:=8) rfl rfl rfl (by omega) (by omega)) (goW ?_)
 rw [show (s.drop 6).take (8-6)=sub s 6 8 from rfl]
 refine call_pf hm (by rfl) (hw (sub s 6 8) 0 59) (goW ?_)
 cases y5:withinB (sub s 6 8) 0 59 with
 | false =>
  refine goW ?_
  exact⟨_,rfl,ret (by rw [hf,y5];rfl)⟩
 | true =>
 rw [y5,Bool.true_and] at hf
 refine goW ?_
 by_cases z8:s.length=8
 ·rw [eqI_true (show ((s.length:Nat):Int)=8 by omega)]
  refine goW ?_
  exact⟨_,rfl,ret (by rw [hf,dT z8];rfl)⟩
 rw [eqI_false (show ¬((s.length:Nat):Int)=8 by omega)]
 rw [dF z8,Bool.false_or] at hf
 obtain⟨b8,hb8⟩:∃b,s[8]? = some b:=⟨_,gE (by omega)⟩
 refine goW ?_
 refine step_ruleO (sx_slLo (l:=9) rfl rfl (by omega)) (goW ?_)
 refine step_ruleO (sx_ixS (k:=8) rfl rfl hb8) (goW ?_)
 rw [show ((46:Int))=((46:UInt8).toNat:Int) from rfl,u8_eqI,←atB_get (c:=46) hb8]
 cases y6:atB s 8 46 with
 | false =>
  refine goW ?_
  exact⟨_,rfl,ret (by rw [hf,y6];rfl)⟩
 | true =>
 rw [y6,Bool.true_and] at hf
 have hd9:(s.drop 9).length≤s.length:=by rw [lD];omega
 generalize s.drop 9=p at hf hd9 ⊢
 refine goW ?_
 by_cases z1:1≤p.length
 case neg =>
  rw [dF (show ¬((p.length:Nat):Int) ≥ 1 by omega)]
  refine goW ?_
  exact⟨_,rfl,ret (by rw [hf,dF z1];rfl)⟩
 rw [dT (show ((p.length:Nat):Int) ≥ 1 by omega)]
 rw [dT z1,Bool.true_and] at hf
 refine goW ?_
 by_cases z9:p.length≤9
 case neg =>
  rw [dF (show ¬((p.length:Nat):Int)≤9 by omega)]
  refine goW ?_
  exact⟨_,rfl,ret (by rw [hf,dF z9];rfl)⟩
 rw [dT (show ((p.length:Nat):Int)≤9 by omega)]
 rw [dT z9,Bool.true_and] at hf
 refine goW ?_
 refine call_pf hm (by rfl) (htr p (by omega)) (goW ?_)
 exact⟨_,rfl,ret hf⟩
end
end Go.Dn
