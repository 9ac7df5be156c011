/- What a function holds in the store: slices that grow, maps, variables; each apart from the others. The walk of what needs no thought, as a lemma that a tactic of its own serves. Trees as pure data; the reference's Size, Copy, Plain; the program's Copy. Trees: the reference's Copy and Plain, the program's Copy. Trees: the reference's Plain; the program's Copy. Arrays that are made and written in place. Steps as pure data; lists of them: Same, Roomy, Intact. The entry, with the bulk of what is read; slices as pure data. The entry of laws about trees: what is read, as trees; that they are right where little is read. The entry of laws about steps. Trees: a copy whose lists are one's own, and may be written. Trees: the part to which a path leads, and the tree with it replaced: what they are; the program's Get and Set. A list of values that is made for one append. A slice of data that stays, from a place on, reads as one from its beginning. Trees: a tree with a part replaced: the program's set and Set. Trees: the part to which a path leads, and the tree with it replaced: the reference's answers. The law TreeGets, walked. Texts of characters: by the program and by the reference. Numbers: what a text begins with; its digits; a literal's pieces. Numbers: a literal's pieces, by the program. Numbers: the exponent; a literal's parts. Numbers: a number's normal form. Times: two digits; the days of a month. Times: dates. Times: times of a day. Times: the zone; a time. What a text ends with. Maps from texts to numbers, as lists of pairs. Texts of characters: First, Bad, Valid of the program; Char, One, Runes, Valid of the reference. Keys: valid, and no two the same. Trees that are right, however great. Trees that are right, however great: the program's answer. Trees: how deep and how great; whether they are right: the program's answers. Trees: how deep they are, and whether they are right: the program's answers. strings.Cut at one byte, walked. What the shelf's contracts ask of the program: its bodies are theirs. Printed by a program. A function of the library, by a contract of the shelf: pure data in, pure data out. -/
import Derived.Test.YtbojekglccdajaaGreatDoorProg
import Derived.Shelf.Strings.SlTrimAscii
import Derived.Shelf.Strconv.Atoi
import Derived.Shelf.Strconv.Itoa3
import Derived.Below
import Derived.Test.YtbojekglccdajaaGreatDoorIl
set_option linter.unusedSimpArgs false
set_option linter.unusedVariables false
namespace Go.Dn
open Go Go.RowKit
inductive Rs where
 | gr (ty:TypeId) (o:SI) (xs:List AV)
 | mp (id:Nat) (es:List (AV×AV))
 | bx (id:Nat) (ty:TypeId) (cs:List AV)
 | mk (t l b:Nat)
def RsOK (S:St):Rs->Prop
 |.gr ty o xs=>(o.tok=none/\o.off=0/\o.cap=some 0/\xs=[])\/∃t l,o=⟨some (t,l),0,none,false⟩/\t<S.nt/\l<S.nt/\lk S.tip t=some (some (xs.length,ty,false))/\lk S.mv t=none/\lk S.dl l=none
 |.mp id es=>id<S.nm/\lk S.maps id=some es
 |.bx id ty cs=>id<S.nb/\lk S.boxes id=some (some (ty,cs))
 |.mk t l b=>t<S.nt/\l<S.nt/\lk S.mv t=some (.bx b 0)
def RsDj:Rs->Rs->Prop
 |.gr _ o _,.gr _ o' _=>∀t l t' l',o.tok=some (t,l)->o'.tok=some (t',l')->t≠t'/\l≠l'
 |.mp i _,.mp j _=>i≠j
 |.bx i _ _,.bx j _ _=>i≠j
 | _,_=>True
theorem RsDj.symm:∀{a b:Rs},RsDj a b->RsDj b a
 |.gr ..,.gr ..,h=>λt l t' l' e e'=>⟨λq=>(h t' l' t l e' e).1 q.symm,λq=>(h t' l' t l e' e).2 q.symm⟩
 |.mp ..,.mp ..,h=>λq=>h q.symm
 |.bx ..,.bx ..,h=>λq=>h q.symm
 |.gr ..,.mp ..,_ |.gr ..,.bx ..,_ |.gr ..,.mk ..,_ |.mp ..,.gr ..,_ |.mp ..,.bx ..,_ |.mp ..,.mk ..,_
 |.bx ..,.gr ..,_ |.bx ..,.mp ..,_ |.bx ..,.mk ..,_ |.mk ..,.gr ..,_ |.mk ..,.mp ..,_ |.mk ..,.bx ..,_ |.mk ..,.mk ..,_=>trivial
structure Hs (S:St)(R:List Rs):Prop where
 wf:Wf S
 ok:∀(i:Nat) (r:Rs),R[i]? = some r->RsOK S r
 dj:∀(i j:Nat) (r s:Rs),i≠j->R[i]? = some r->R[j]? = some s->RsDj r s
theorem Hs.nil {S:St}(h:Wf S):Hs S []:=⟨h,λi r h=>by simp at h,λi j r s _ h=>by simp at h⟩
theorem Hs.init:Hs St.init []:=Hs.nil λ_ _=>⟨rfl,rfl⟩
structure Chg (S S':St)(T L M B:Nat->Prop):Prop where
 nt:S.nt<=S'.nt
 nb:S.nb<=S'.nb
 nm:S.nm<=S'.nm
 tip:∀t,t<S.nt->¬T t->lk S'.tip t=lk S.tip t/\lk S'.mv t=lk S.mv t
 dl:∀l,l<S.nt->¬L l->lk S'.dl l=lk S.dl l
 mv:∀t m,t<S.nt->lk S.mv t=some m->lk S'.mv t=some m
 maps:∀i,i<S.nm->¬M i->lk S'.maps i=lk S.maps i
 boxes:∀i,i<S.nb->¬B i->lk S'.boxes i=lk S.boxes i
def Rs.off (T L M B:Nat->Prop):Rs->Prop
 |.gr _ o _=>∀t l,o.tok=some (t,l)->¬T t/\¬L l
 |.mp id _=>¬M id
 |.bx id _ _=>¬B id
 |.mk _ _ _=>True
theorem RsOK.chg {S S':St}{T L M B:Nat->Prop}(hc:Chg S S' T L M B):∀{r:Rs},RsOK S r->r.off T L M B->RsOK S' r
 |.gr ty o xs,h,ho=>by
  rcases h with h | ⟨t,l,rfl,h1,h2,h3,h4,h5⟩
  ·exact .inl h
  ·obtain⟨g1,g2⟩:=ho t l rfl;obtain⟨e1,e2⟩:=hc.tip t h1 g1;exact .inr ⟨t,l,rfl,Nat.lt_of_lt_of_le h1 hc.nt,Nat.lt_of_lt_of_le h2 hc.nt,by rw[e1];exact h3,by rw[e2];exact h4,by rw[hc.dl l h2 g2];exact h5⟩
 |.mp id es,h,ho=>⟨Nat.lt_of_lt_of_le h.1 hc.nm,by rw[hc.maps id h.1 ho];exact h.2⟩
 |.bx id ty cs,h,ho=>⟨Nat.lt_of_lt_of_le h.1 hc.nb,by rw[hc.boxes id h.1 ho];exact h.2⟩
 |.mk t l b,h,_=>⟨Nat.lt_of_lt_of_le h.1 hc.nt,Nat.lt_of_lt_of_le h.2.1 hc.nt,hc.mv t _ h.1 h.2.2⟩
theorem set_get {α:Type}{R:List α}{i j:Nat}{x y:α}(h:(R.set i x)[j]? = some y):(j=i/\y=x)\/(j≠i/\R[j]? = some y):=by
 by_cases e:i=j
 ·subst e;rw[List.getElem?_set_self']at h;cases hr:R[i]? with
  | none=>rw[hr]at h;cases h
  | some z=>rw[hr]at h;cases h;exact .inl ⟨rfl,rfl⟩
 ·rw[List.getElem?_set_ne e]at h;exact .inr ⟨λq=>e q.symm,h⟩
theorem Hs.turn {S S':St}{R:List Rs}{T L M B:Nat->Prop}(h:Hs S R)(hw:Wf S')(hc:Chg S S' T L M B){i:Nat}{r':Rs}
  (hoff:∀(j:Nat) (s:Rs),j≠i->R[j]? = some s->s.off T L M B) (hr:RsOK S' r') (hd:∀(j:Nat) (s:Rs),j≠i->R[j]? = some s->RsDj r' s):Hs S' (R.set i r') where
 wf:=hw
 ok j s hs:=by
  rcases set_get hs with⟨_,rfl⟩ | ⟨e,hs⟩
  ·exact hr
  ·exact(h.ok j s hs).chg hc (hoff j s e hs)
 dj j k r s hjk hj hk:=by
  rcases set_get hj with⟨rfl,rfl⟩ | ⟨e,hj2⟩
  ·rcases set_get hk with⟨e,rfl⟩ | ⟨e,hk2⟩
   ·exact absurd e.symm hjk
   ·exact hd k s e hk2
  ·rcases set_get hk with⟨e',rfl⟩ | ⟨e',hk2⟩
   ·exact(hd j r e hj2).symm
   ·exact h.dj j k r s hjk hj2 hk2
theorem Hs.more {S S':St}{R:List Rs}(h:Hs S R)(hw:Wf S')(hc:Chg S S' (λ_=>False) (λ_=>False) (λ_=>False) (λ_=>False)){r':Rs}
  (hr:RsOK S' r') (hd:∀(j:Nat) (s:Rs),R[j]? = some s->RsDj r' s):Hs S' (R++[r']) where
 wf:=hw
 ok j s hs:=by
  rcases Nat.lt_or_ge j R.length with hj | hj
  ·rw[List.getElem?_append_left hj]at hs;refine(h.ok j s hs).chg hc ?_;cases s<;>simp[Rs.off]
  ·rw[List.getElem?_append_right hj]at hs;have:j-R.length=0:=by
    rcases Nat.eq_zero_or_pos (j-R.length) with e | e
    ·exact e
    ·rw[List.getElem?_eq_none (by simp;omega)]at hs;cases hs
   rw[this]at hs;cases hs;exact hr
 dj j k r s hjk hj hk:=by
  have key:∀{j:Nat} {s:Rs},(R++[r'])[j]? = some s->(R[j]? = some s)\/(j=R.length/\s=r'):=λ{j s} hs=>by
   rcases Nat.lt_or_ge j R.length with hj | hj
   ·rw[List.getElem?_append_left hj]at hs;exact .inl hs
   ·rw[List.getElem?_append_right hj]at hs;have:j-R.length=0:=by
     rcases Nat.eq_zero_or_pos (j-R.length) with e | e
     ·exact e
     ·rw[List.getElem?_eq_none (by simp;omega)]at hs;cases hs
    rw[this]at hs;cases hs;exact .inr ⟨by omega,rfl⟩
  rcases key hj with hj2 | ⟨rfl,rfl⟩
  ·rcases key hk with hk2 | ⟨rfl,rfl⟩
   ·exact h.dj j k r s hjk hj2 hk2
   ·exact(hd j r hj2).symm
  ·rcases key hk with hk2 | ⟨rfl,rfl⟩
   ·exact hd k s hk2
   ·exact absurd rfl hjk
theorem Hs.less {S:St}{R R':List Rs}(h:Hs S R)(f:Nat->Nat)(hf:∀i j,i<R'.length->j<R'.length->f i=f j->i=j)(he:∀i,i<R'.length->R[f i]? = R'[i]?):Hs S R' where
 wf:=h.wf
 ok i r hi:=h.ok (f i) r (by rw[he i (List.getElem?_eq_some_iff.1 hi).1];exact hi)
 dj i j r s hij hi hj:=by
  have a:=(List.getElem?_eq_some_iff.1 hi).1;have b:=(List.getElem?_eq_some_iff.1 hj).1;exact h.dj (f i) (f j) r s (λe=>hij (hf i j a b e)) (by rw[he i a];exact hi) (by rw[he j b];exact hj)
theorem Hs.addNil {S:St}{R:List Rs}(h:Hs S R)(ty:TypeId)(nl:Bool):Hs S (R++[.gr ty ⟨none,0,some 0,nl⟩ []]) :=
 h.more h.wf ⟨nR _,nR _,nR _,λ_ _ _=>⟨rfl,rfl⟩,λ_ _ _=>rfl,λ_ _ _ h=>h,λ_ _ _=>rfl,λ_ _ _=>rfl⟩ (.inl ⟨rfl,rfl,rfl,rfl⟩) λj s _=>by
  cases s<;>simp[RsDj]
theorem RsOK.rd {S:St}{ty:TypeId}{o:SI}{xs:List AV}(h:RsOK S (.gr ty o xs)):rd S o=.here:=by
 rcases h with⟨h,_⟩ | ⟨t,l,rfl,_,_,_,h3,h4⟩
 ·exact rd_none h
 ·simp only[Dn.rd,h3,h4]
theorem RsOK.els {S:St}{ty:TypeId}{o:SI}{xs:List AV}(h:RsOK S (.gr ty o xs))(agg:Bool)(es:Nat):elems S agg es o xs=some xs:=by
 simp only[elems,h.rd]
theorem Hs.rdo {S:St}{R:List Rs}(h:Hs S R){i:Nat}{ty:TypeId}{o:SI}{xs us:List AV}{es:Nat}(hi:R[i]? = some (.gr ty o xs))(hx:Rdos S us xs):Rdo S (.sl es stat us) (.sl es o xs):=by
 simp only[Rdo];exact⟨trivial,o,xs,true,xs,rfl,(h.ok i _ hi).els _ _,hx⟩
theorem hs_app {gt:GT}{d:Option Nat}{env:Env}{S:St}{R:List Rs}{agg:Bool}{ty:TypeId}{es bytes:Nat}{x y:DOpd}{o:SI}{xs ys:List AV}{yv:AV}(h:Hs S R)(i:Nat)(hi:R[i]? = some (.gr ty o xs))
  (hx:opd env x=some (.sl es o xs)) (hy:opd env y=some yv) (hys:srcE S agg es yv=some ys)
  (hb:(xs.length+ys.length)*bytes<=140737488355328) (hb2:xs.length+ys.length<=140737488355328) (hb3:bytes<=1048576) (hes:0<es) (hok:(ys.flatMap AV.cells).all ok1=true) :
  ∃o' S',stepO gt d env S (.app agg ty es bytes x y)=.done (putV d (.sl es o' (xs++ys)) env) S'/\Hs S' (R.set i (.gr ty o' (xs++ys))):=by
 have hg:=h.ok i _ hi;have hel:elems S agg es o xs=some xs:=hg.els _ _;have hset:∀z,R[i]? = some z->R.set i z=R:=λz hz=>by
  apply List.ext_getElem?
  intro j;by_cases e:i=j
  ·subst e;rw[List.getElem?_set_self',hz];rfl
  ·rw[List.getElem?_set_ne e]
 cases ys with
 | nil =>
  refine⟨o,S,?_,by rw[List.append_nil,hset _ hi];exact h⟩;simp only[stepO,hx,hy,appV,hys,hel,List.append_nil]
 | cons y ys =>
  have hguard:(Nat.beq es es && (Nat.ble ((xs.length+(y::ys).length)*bytes) 140737488355328 && (Nat.ble (xs.length+(y::ys).length) 140737488355328 && (Nat.ble bytes 1048576 && Nat.blt 0 es))))=true:=by
   rw[Nat.beq_refl,ble_true hb,ble_true hb2,ble_true hb3];simp only[Bool.true_and];exact Nat.ble_eq_true_of_le hes
  have hw:=h.wf S.nt (nR _);rcases hg with⟨h1,h2,h3,rfl⟩ | ⟨t,l,rfl,h1,h2,h5,h3,h4⟩
  ·refine⟨⟨some (S.nt,S.nt),0,none,false⟩,{ S with nt:=S.nt+1,tip:=(S.nt,some (([]:List AV).length+(y::ys).length,ty,false))::S.tip },?_,?_⟩
   ·have hz:Nat.ble (([]:List AV).length+(y::ys).length) 0=false:=by
     cases hq:Nat.ble (([]:List AV).length+(y::ys).length) 0 with
     | false=>rfl
     | true=>have:=bL hq;simp at this
    simp only[stepO,hx,hy,appV,hys,hel,hguard,cond_true,h3,hz,cond_false]
   ·refine h.turn (S':={ S with nt:=S.nt+1,tip:=(S.nt,some (([]:List AV).length+(y::ys).length,ty,false))::S.tip }) (r':=.gr ty ⟨some (S.nt,S.nt),0,none,false⟩ ([]++y::ys)) (T:=λ_=>False) (L:=λ_=>False) (M:=λ_=>False) (B:=λ_=>False) (λt ht=>h.wf t (by simp at ht;omega)) ⟨Nat.le_succ _,nR _,nR _,λt ht _=>⟨lk_ne _ _ (by omega),rfl⟩,λ_ _ _=>rfl,λ_ _ _ h=>h,λ_ _ _=>rfl,λ_ _ _=>rfl⟩ (λj s _ _=>by cases s<;>simp[Rs.off]) ?_ λj s _ hs=>?_
    ·exact .inr ⟨S.nt,S.nt,rfl,Nat.lt_succ_self _,Nat.lt_succ_self _,by simp[lk_same],hw.1,hw.2⟩
    ·have hsk:=h.ok j s hs;cases s with
     | gr ty2 o2 zs =>
      intro t l t2 l2 e e2;cases e;rcases hsk with⟨e3,_⟩ | ⟨t3,l3,rfl,b1,b2,_⟩
      ·rw[e3]at e2;cases e2
      ·cases e2;exact⟨by omega,by omega⟩
     | _=>trivial
  ·refine⟨⟨some (S.nt,l),0,none,false⟩,{ S with nt:=S.nt+1,tip:=(S.nt,some (xs.length+(y::ys).length,ty,false))::(t,none)::S.tip },?_,?_⟩
   ·have hrd:rd S ⟨some (t,l),0,none,false⟩=.here:=by simp only[rd,h3,h4]
    have hg2:(Nat.beq ty ty && (Nat.beq xs.length xs.length && (Nat.beq 0 0 && (Nat.ble l S.nt && ((y::ys).flatMap AV.cells).all ok1))))=true:=by
     rw[Nat.beq_refl,Nat.beq_refl,Nat.beq_refl,ble_true (by omega),hok];rfl
    simp only[stepO,hx,hy,appV,hys,hel,hguard,cond_true,hrd,h5,hg2]
   ·refine h.turn (S':={ S with nt:=S.nt+1,tip:=(S.nt,some (xs.length+(y::ys).length,ty,false))::(t,none)::S.tip }) (r':=.gr ty ⟨some (S.nt,l),0,none,false⟩ (xs++y::ys)) (T:=λq=>q=t) (L:=λ_=>False) (M:=λ_=>False) (B:=λ_=>False) (λt ht=>h.wf t (by simp at ht;omega)) ⟨Nat.le_succ _,nR _,nR _,λq hq hne=>⟨by rw[lk_ne _ _ (by omega),lk_ne _ _ (λe=>hne e.symm)],rfl⟩,λ_ _ _=>rfl,λ_ _ _ h=>h,λ_ _ _=>rfl,λ_ _ _=>rfl⟩ (λj s hj hs=>?_) ?_ λj s hj hs=>?_
    ·have hdj:=h.dj i j _ s (λe=>hj e.symm) hi hs;cases s with
     | gr ty2 o2 zs=>intro t2 l2 e2;exact⟨λe=>(hdj t l t2 l2 rfl e2).1 e.symm,λe=>e⟩
     | _=>simp[Rs.off]
    ·exact .inr ⟨S.nt,l,rfl,Nat.lt_succ_self _,Nat.lt_succ_of_lt h2,by simp[lk_same],hw.1,h4⟩
    ·have hsk:=h.ok j s hs;have hdj:=h.dj i j _ s (λe=>hj e.symm) hi hs;cases s with
     | gr ty2 o2 zs =>
      intro t' l' t2 l2 e e2;cases e;rcases hsk with⟨e3,_⟩ | ⟨t3,l3,rfl,b1,b2,_⟩
      ·rw[e3]at e2;cases e2
      ·cases e2;exact⟨by omega,(hdj _ _ _ _ rfl rfl).2⟩
     | _=>trivial
theorem hs_mkm {gt:GT}{d:Option Nat}{env:Env}{S:St}{R:List Rs}(h:Hs S R) :
  ∃id S',stepO gt d env S .mkm=.done (putV d (.map id) env) S'/\Hs S' (R++[.mp id []]):=by
 refine⟨S.nm,{ S with nm:=S.nm+1,maps:=(S.nm,[])::S.maps },rfl,h.more (S':={ S with nm:=S.nm+1,maps:=(S.nm,[])::S.maps }) (r':=.mp S.nm []) (λt ht=>h.wf t ht) ⟨nR _,nR _,Nat.le_succ _,λ_ _ _=>⟨rfl,rfl⟩,λ_ _ _=>rfl,λ_ _ _ h=>h,λi hi _=>lk_ne _ _ (by omega),λ_ _ _=>rfl⟩ ⟨Nat.lt_succ_self _,lk_same _ _ _⟩ λj s hs=>?_⟩;have:=h.ok j s hs;cases s with
 | mp i es=>intro e;have:=this.1;omega
 | _=>trivial
theorem Hs.mapTo {S:St}{R:List Rs}(h:Hs S R){i:Nat}{id:Nat}{es:List (AV×AV)}(hi:R[i]? = some (.mp id es))(es':List (AV×AV)):Hs { S with maps:=(id,es')::S.maps } (R.set i (.mp id es')):=by
 have hk:=h.ok i _ hi;refine h.turn (S':={ S with maps:=(id,es')::S.maps }) (r':=.mp id es') (T:=λ_=>False) (L:=λ_=>False) (M:=λq=>q=id) (B:=λ_=>False) (λt ht=>h.wf t ht) ⟨nR _,nR _,nR _,λ_ _ _=>⟨rfl,rfl⟩,λ_ _ _=>rfl,λ_ _ _ h=>h,λj hj hne=>lk_ne _ _ (λe=>hne e.symm),λ_ _ _=>rfl⟩ (λj s hj hs=>?_) ⟨hk.1,lk_same _ _ _⟩ λj s hj hs=>?_
 ·have hdj:=h.dj i j _ s (λe=>hj e.symm) hi hs;cases s with
  | mp k es2=>exact λe=>hdj e.symm
  | _=>simp[Rs.off]
 ·have hdj:=h.dj i j _ s (λe=>hj e.symm) hi hs;cases s with
  | mp k es2=>exact hdj
  | _=>trivial
theorem Hs.boxTo {S:St}{R:List Rs}(h:Hs S R){i:Nat}{id:Nat}{ty:TypeId}{cs:List AV}(hi:R[i]? = some (.bx id ty cs))(cs':List AV):Hs { S with boxes:=(id,some (ty,cs'))::S.boxes } (R.set i (.bx id ty cs')):=by
 have hk:=h.ok i _ hi;refine h.turn (S':={ S with boxes:=(id,some (ty,cs'))::S.boxes }) (r':=.bx id ty cs') (T:=λ_=>False) (L:=λ_=>False) (M:=λ_=>False) (B:=λq=>q=id) (λt ht=>h.wf t ht) ⟨nR _,nR _,nR _,λ_ _ _=>⟨rfl,rfl⟩,λ_ _ _=>rfl,λ_ _ _ h=>h,λ_ _ _=>rfl,λj hj hne=>lk_ne _ _ (λe=>hne e.symm)⟩ (λj s hj hs=>?_) ⟨hk.1,lk_same _ _ _⟩ λj s hj hs=>?_
 ·have hdj:=h.dj i j _ s (λe=>hj e.symm) hi hs;cases s with
  | bx k ty2 es2=>exact λe=>hdj e.symm
  | _=>simp[Rs.off]
 ·have hdj:=h.dj i j _ s (λe=>hj e.symm) hi hs;cases s with
  | bx k ty2 es2=>exact hdj
  | _=>trivial
theorem Hs.newBox {S:St}{R:List Rs}(h:Hs S R)(ty:TypeId)(cs:List AV):Hs { S with nb:=S.nb+1,boxes:=(S.nb,some (ty,cs))::S.boxes } (R++[.bx S.nb ty cs]) :=
 h.more (S':={ S with nb:=S.nb+1,boxes:=(S.nb,some (ty,cs))::S.boxes }) (r':=.bx S.nb ty cs) (λt ht=>h.wf t ht) ⟨nR _,Nat.le_succ _,nR _,λ_ _ _=>⟨rfl,rfl⟩,λ_ _ _=>rfl,λ_ _ _ h=>h,λ_ _ _=>rfl,λi hi _=>lk_ne _ _ (by omega)⟩ ⟨Nat.lt_succ_self _,lk_same _ _ _⟩ λj s hs=>by
  have:=h.ok j s hs;cases s with
  | bx i ty2 es=>intro e;have:=this.1;omega
  | _=>trivial
section
variable {gt:GT}{C:CallT}
theorem st_any {d:Option Nat}{op:DOp}{gd:Option (Nat×Bool)}{env env':Env}{S S':St}{K:Env->St->Prop}{Q:Ex->Env->St->Prop}(hg:Gd env gd)(h:stepO gt d env S op=.done env' S')(k:K env' S'):afterS C d env S K Q (stepI gt ⟨d,op,gd⟩ env S):=by
 rw[st_gd hg,h];exact k
theorem st_anyD {d:Option Nat}{op:DOp}{gd:Option (Nat×Bool)}{l:Option Nat}{env env':Env}{S S':St}{K:Env->St->Prop}{Q:Ex->Env->St->Prop}(hg:Gd env gd)(h0:isLoc op=false)(h1:conform l env op=true)(h:stepO gt d env S op=.done env' S')(k:K env' S'):afterS C d env S K Q (stepD gt (⟨d,op,gd⟩,l) env S):=by
 have:stepD gt (⟨d,op,gd⟩,l) env S=stepO gt d env S op:=by
  cases gd with
  | none=>simp only[stepD,stepDO,h0,h1,cond_false,cond_true]
  | some p =>
   obtain⟨g,w⟩:=p;have hg:lk env g=some (.val (.bool w)):=hg;simp only[stepD,stepDO,h0,h1,cond_false,cond_true,hg,beq_self_eq_true]
 rw[this,h];exact k
theorem r_app {d:Option Nat}{env:Env}{S:St}{R:List Rs}{agg:Bool}{ty:TypeId}{es bytes:Nat}{x y:DOpd}{o:SI}{xs ys:List AV}{yv:AV}{gd:Option (Nat×Bool)}{K:Env->St->Prop}{Q:Ex->Env->St->Prop}(h:Hs S R)(i:Nat)(hi:R[i]? = some (.gr ty o xs))
  (hg:Gd env gd) (hx:opd env x=some (.sl es o xs)) (hy:opd env y=some yv) (hys:srcE S agg es yv=some ys)
  (hb:(xs.length+ys.length)*bytes<=140737488355328) (hb2:xs.length+ys.length<=140737488355328) (hb3:bytes<=1048576) (hes:0<es) (hok:(ys.flatMap AV.cells).all ok1=true)
  (k:∀o' S',Hs S' (R.set i (.gr ty o' (xs++ys)))->K (putV d (.sl es o' (xs++ys)) env) S'):afterS C d env S K Q (stepI gt ⟨d,.app agg ty es bytes x y,gd⟩ env S):=by
 obtain⟨o',S',e,h'⟩:=hs_app (gt:=gt) (d:=d) h i hi hx hy hys hb hb2 hb3 hes hok;exact st_any hg e (k o' S' h')
theorem r_appD {l:Option Nat}{d:Option Nat}{env:Env}{S:St}{R:List Rs}{agg:Bool}{ty:TypeId}{es bytes:Nat}{x y:DOpd}{o:SI}{xs ys:List AV}{yv:AV}{gd:Option (Nat×Bool)}{K:Env->St->Prop}{Q:Ex->Env->St->Prop}(h:Hs S R)(i:Nat)(hi:R[i]? = some (.gr ty o xs))
  (hg:Gd env gd) (hx:opd env x=some (.sl es o xs)) (hy:opd env y=some yv) (hys:srcE S agg es yv=some ys)
  (hb:(xs.length+ys.length)*bytes<=140737488355328) (hb2:xs.length+ys.length<=140737488355328) (hb3:bytes<=1048576) (hes:0<es) (hok:(ys.flatMap AV.cells).all ok1=true)
  (k:∀o' S',Hs S' (R.set i (.gr ty o' (xs++ys)))->K (putV d (.sl es o' (xs++ys)) env) S'):afterS C d env S K Q (stepD gt (⟨d,.app agg ty es bytes x y,gd⟩,l) env S):=by
 obtain⟨o',S',e,h'⟩:=hs_app (gt:=gt) (d:=d) h i hi hx hy hys hb hb2 hb3 hes hok;exact st_anyD hg rfl rfl e (k o' S' h')
end
end Go.Dn
namespace Go.Dn
def isVB:Ent->Bool
 |.val _ |.box _=>true
 | _=>false
theorem keep_cons {env rest:Env}{k:Nat}{r:List Nat}{e:Ent}(h:lk env k=some e)(hv:isVB e=true)(hr:keepE env r=rest):keepE env (k::r)=(k,e)::rest:=by
 subst hr;cases e<;>first | (simp only[keepE,h];done) | cases hv
end Go.Dn
namespace Go.Dn
theorem keep_intro {env l e0:Env}{ks:List Nat}{G:Prop}(h:keepE env ks=l)(k:l=e0->G):keepE env ks=e0->G:=λh'=>k (h.symm.trans h')
end Go.Dn
namespace Go.Dn
theorem sI {gt:GT}{C:CallT}{i:DI}{env env':Env}{S S':St}{K:Env->St->Prop}{Q:Ex->Env->St->Prop}(h:stepI gt i env S=.done env' S')(k:K env' S'):afterS C i.dst env S K Q (stepI gt i env S):=step_rule h k
theorem sD {gt:GT}{C:CallT}{i:DI×Option Nat}{env env':Env}{S S':St}{A B:Env->St->Prop}{Q:Ex->Env->St->Prop}(h:stepD gt i env S=.done env' S')(a:A env' S')(k:B env' S'):afterS C i.1.dst env S (λe s=>A e s/\B e s) Q (stepD gt i env S):=step_ruleD h ⟨a,k⟩
theorem kI {env l e0:Env}{ks:List Nat}{G:Prop}(h:keepE env ks=l)(k:l=e0->G):keepE env ks=e0->G:=keep_intro h k
theorem kN (env:Env):keepE env []=[]:=rfl
theorem kC {env rest:Env}{k:Nat}{r:List Nat}{e:Ent}(h:lk env k=some e)(hv:isVB e=true)(hr:keepE env r=rest):keepE env (k::r)=(k,e)::rest:=keep_cons h hv hr
end Go.Dn

namespace Go.Dn
open Go
theorem goW {G G':Prop}(k:G')(h:G'->G:=by
 intro hk;((try refine And.intro (by rfl) ?_);(conv=>whnf);repeat (first | (refine sI (by rfl) ?_;conv=>whnf) | (refine sD (by rfl) (by rfl) ?_;conv=>whnf) | (generalize hE:keepE _ _=e0;revert hE;apply kI;(repeat (first | exact kN _ | (apply kC;with_unfolding_all rfl;rfl)));rintro rfl;(conv=>whnf);conv=>whnf)));exact hk):G:=h k
theorem goK {G G':Prop}(k:G')(h:G'->G:=by
 intro hk;((try refine And.intro (by rfl) ?_);(conv=>whnf);repeat (refine sI (by rfl) ?_;conv=>whnf);(generalize hE:keepE _ _=e0;revert hE;apply kI;(repeat (first | exact kN _ | (apply kC;with_unfolding_all rfl;rfl)));rintro rfl));exact hk):G:=h k
end Go.Dn

namespace Go.Dn
open Go Go.Proofs.C1
set_option maxRecDepth 100000
attribute [local irreducible] afterS keepE
mutual
def encT:PT->AV
 |.mk k s keys kids=>.agg [.int .i64 k,.str s,.sl 1 stat (strs keys),.sl 4 stat (encTs kids)]
def encTs:List PT->List AV
 | []=>[]
 | t::r=>encT t::encTs r
end
theorem encTs_len:∀l:List PT,(encTs l).length=l.length
 | []=>rfl
 | t::r=>by simp[encTs,encTs_len r]
theorem encTs_get:∀{l:List PT} {i:Nat} (h:i<l.length),(encTs l)[i]? = some (encT l[i])
 | t::r,0,_=>rfl
 | t::r,i+1,h=>by simpa[encTs] using encTs_get (l:=r) (i:=i) (by simpa using h)
theorem encTs_app:∀a b:List PT,encTs (a++b)=encTs a++encTs b
 | [],b=>rfl
 | t::r,b=>by simp[encTs,encTs_app r b]
theorem sta_strs:∀l:List (List UInt8),Stas (strs l)
 | []=>trivial
 | a::r=>⟨trivial,sta_strs r⟩
mutual
theorem sta_T:∀t,Sta (encT t)
 |.mk k s keys kids=>by
  simp only[encT,Sta,Stas];exact⟨trivial,trivial,⟨trivial,sta_strs keys⟩,⟨trivial,sta_Ts kids⟩,trivial⟩
theorem sta_Ts:∀l,Stas (encTs l)
 | []=>trivial
 | t::r=>by simp only[encTs,Stas];exact⟨sta_T t,sta_Ts r⟩
end
theorem encT_agg (t:PT):∃k s a b,encT t=.agg [.int .i64 k,.str s,.sl 1 stat a,.sl 4 stat b]:=by
 cases t;exact⟨_,_,_,_,rfl⟩
theorem rdT (t:PT):(cut (encT t).cells 0 4).bind (mkv true)=some (encT t):=by cases t;rfl
abbrev Ret (u:AV):Res->St->Prop:=λr S1=>∃x,r=.ret x/\Rdo S1 u x
theorem Ret.sta {u:AV}{S:St}(h:Sta u):Ret u (.ret u) S:=⟨u,rfl,h.rdo _⟩
mutual
def size3:PT->Int->Int
 |.mk _ _ _ kids,m=>szs kids m 1
def szs:List PT->Int->Int->Int
 | [],_,n=>n
 | t::r,m,n=>if n<m then szs r m (n+size3 t (m-n)) else n
end
mutual
theorem size3_pos:∀(t:PT) (m:Int),1<=size3 t m
 |.mk _ _ _ kids,m=>by simp only[size3];exact szs_ge kids m 1
theorem szs_ge:∀(l:List PT) (m n:Int),n<=szs l m n
 | [],m,n=>by simp[szs]
 | t::r,m,n=>by
  simp only[szs];split
  ·have h1:=szs_ge r m (n+size3 t (m-n));have h2:=size3_pos t (m-n);omega
  ·omega
end
mutual
theorem size3_le:∀(t:PT) (m:Int),size3 t m<=max 1 m
 |.mk _ _ _ kids,m=>by simp only[size3];have:=szs_le kids m 1;omega
theorem szs_le:∀(l:List PT) (m n:Int),szs l m n<=max n m
 | [],m,n=>by simp[szs];omega
 | t::r,m,n=>by
  simp only[szs];split
  ·have h1:=szs_le r m (n+size3 t (m-n));have h2:=size3_le t (m-n);omega
  ·omega
end
theorem size3_n:∀(t:PT) (m:Int),size3 t m<m->size3 t m=t.n
 |.mk _ _ _ kids,m,h=>by
  simp only[size3,PT.n]at h ⊢;have:=szs_n kids m 1 h;omega
where szs_n:∀(l:List PT) (m n:Int),szs l m n<m->szs l m n=n+PT.ns l
 | [],m,n,_=>by simp[szs,PT.ns]
 | t::r,m,n,h=>by
  simp only[szs]at h ⊢;have hlt:n<m:=by
   rcases Int.lt_or_le n m with h' | h'
   ·exact h'
   ·rw[if_neg (by omega)]at h;omega
  rw[if_pos hlt]at h ⊢;have h1:=szs_n r m _ h;have h2:=szs_ge r m (n+size3 t (m-n));have h3:=size3_n t (m-n) (by omega);simp only[PT.ns];omega
theorem kid_lt {k s keys}{kids:List PT}{i:Nat}(h:i<kids.length):kids[i].n<(PT.mk k s keys kids).n:=by
 have:=PT.ns_mem (List.getElem_mem h);simp only[PT.n];omega
section
variable {gt:GT}{C:CallT}
abbrev E_size (m:Int)(t:PT)(n i:Int):Env:=[(1,.val (.int .i64 m)),(2,.box (encT t).cells),(5,.val (.int .i64 n)),(6,.val (.int .i64 i))]
set_option maxHeartbeats 2000000 in
theorem size3_wp (hm:MonoC C){t:PT}(ih:∀u,u.n<t.n->∀m,m<4611686018427387904->PF C 32 [encT u,.int .i64 m] (.int .i64 (size3 u m)))
  {m:Int} (hb:m<4611686018427387904):wpF gt C F32 [encT t,.int .i64 m] St.init (Ret (.int .i64 (size3 t m))):=by
 obtain⟨k,s,keys,kids⟩:=t;refine⟨rfl,?_⟩;refine goW ?_;have hlen:=encTs_len kids;refine loop_rule hm (α:=Nat×Int) (λa env S'=>a.1<=kids.length/\(a.1:Int)<a.2/\a.2<=max 1 m/\env=E_size m (.mk k s keys kids) a.2 a.1/\S'=St.init/\szs kids m 1=szs (kids.drop a.1) m a.2) (λa=>kids.length-a.1) ?_ (a:=(0,1)) ⟨Nat.zero_le _,by simp,by simp;omega,rfl,rfl,rfl⟩;rintro⟨i,n⟩ env S' ⟨hi,hn1,hn2,rfl,rfl,hp⟩;refine goW ?_;simp only at hi hn1 hn2 hp;by_cases h:(i:Int)<(encTs kids).length
 ·rw[dT h];refine goW ?_;have hik:i<kids.length:=by omega
  by_cases hnm:n<m
  ·rw[dT hnm];refine goW ?_;refine step_ruleO (sx_ia (k:=i) rfl rfl (by omega)) (goW ?_);refine step_ruleO (sx_ldEl (agg:=true) rfl rfl (encTs_get hik) (rdT _)) (goW ?_);rw[wr64 (by omega) (by omega)];refine call_pf hm (by rfl) (ih _ (kid_lt hik) (m-n) (by omega)) (goW ?_);have g1:=size3_pos kids[i] (m-n);have g2:=size3_le kids[i] (m-n);refine⟨(i+1,n+size3 kids[i] (m-n)),⟨by simp only;omega,by simp only;omega,by simp only;omega,?_,rfl,?_⟩,by simp only;omega⟩
   ·rw[wrNat (by omega),wr64 (by omega) (by omega)];try rfl
   ·rw[hp,dC hik];simp only[szs];rw[if_pos hnm]
  ·rw[dF hnm];refine goW ?_;refine⟨_,rfl,?_⟩;rw[size3,hp,dC hik];simp only[szs];rw[if_neg hnm];exact Ret.sta trivial
 ·rw[dF h];refine goW ?_;refine⟨_,rfl,?_⟩;rw[size3,hp,List.drop_eq_nil_of_le (by omega)];simp only[szs];exact Ret.sta trivial
end

theorem beqB_iff {a b:List UInt8}:beqB a b=true↔a=b:=by
 induction a generalizing b with
 | nil=>cases b<;>simp[beqB]
 | cons x a ih =>
  cases b with
  | nil=>simp[beqB]
  | cons y b =>
   simp only[beqB];by_cases h:x=y
   ·subst h;rw[Nat.beq_refl];simp[ih]
   ·have:Nat.beq x.toNat y.toNat=false:=by
     cases hb:Nat.beq x.toNat y.toNat with
     | false=>rfl
     | true=>exact absurd (UInt8.toNat_inj.1 (bE hb)) h
    rw[this];simp[h]
theorem beqB_true {a b:List UInt8}(h:a=b):beqB a b=true:=beqB_iff.2 h
theorem beqB_false {a b:List UInt8}(h:¬a=b):beqB a b=false:=by
 cases hh:beqB a b with
 | false=>rfl
 | true=>exact absurd (beqB_iff.1 hh) h
theorem neI_true {a b:Int}(h:¬a=b):(a != b)=true:=by simp[h]
theorem neI_false {a b:Int}(h:a=b):(a != b)=false:=by simp[h]
theorem eqI_true {a b:Int}(h:a=b):(a == b)=true:=by simp[h]
theorem eqI_false {a b:Int}(h:¬a=b):(a == b)=false:=by simp[h]
theorem cells_strs (l:List (List UInt8)):((strs l).flatMap AV.cells).all ok1=true:=strs_ok l
theorem encT_ok (t:PT):((([encT t]:List AV)).flatMap AV.cells).all ok1=true:=by cases t;rfl
theorem rdos_strs {S:St}(l:List (List UInt8)):Rdos S (strs l) (strs l):=(sta_strs l).rdos
theorem rdos_Ts {S:St}(l:List PT):Rdos S (encTs l) (encTs l):=Stas.rdos _ (sta_Ts l)
theorem rdo_T {S:St}{R:List Rs}(h:Hs S R){i j:Nat}{ty ty2:TypeId}{o1 o2:SI}{k:Int}{s:List UInt8}{keys:List (List UInt8)}{kids:List PT}(hi:R[i]? = some (.gr ty o1 (strs keys)))(hj:R[j]? = some (.gr ty2 o2 (encTs kids))) :
  Rdo S (encT (.mk k s keys kids)) (.agg [.int .i64 k,.str s,.sl 1 o1 (strs keys),.sl 4 o2 (encTs kids)]):=by
 simp only[encT];rw[Rdo];refine⟨_,rfl,?_⟩;simp only[Rdos];exact⟨_,_,rfl,by simp only[Rdo],_,_,rfl,by simp only[Rdo],_,_,rfl,h.rdo hi (rdos_strs keys),_,_,rfl,h.rdo hj (rdos_Ts kids),rfl⟩
section
variable {gt:GT}{C:CallT}
def zT:List AV:=[.int .i64 0,.str [],.sl 1 ⟨none,0,some 0,true⟩ [],.sl 4 ⟨none,0,some 0,true⟩ []]
end

mutual
def eqT:PT->PT->Bool
 |.mk k s keys kids,.mk k' s' keys' kids'=>decide (k=k') && (decide (s=s') && (decide (keys=keys') && eqTs kids kids'))
def eqTs:List PT->List PT->Bool
 | [],[]=>true
 | a::r,b::q=>eqT a b && eqTs r q
 | _,_=>false
end
mutual
theorem eqT_iff:∀{a b:PT},eqT a b=true↔a=b
 |.mk k s keys kids,.mk k' s' keys' kids'=>by simp[eqT,eqTs_iff (a:=kids) (b:=kids')]
theorem eqTs_iff:∀{a b:List PT},eqTs a b=true↔a=b
 | [],[]=>by simp[eqTs]
 | a::r,b::q=>by simp[eqTs,eqT_iff (a:=a) (b:=b),eqTs_iff (a:=r) (b:=q)]
 | [],b::q=>by simp[eqTs]
 | a::r,[]=>by simp[eqTs]
end
theorem eqT_false {a b:PT}(h:¬a=b):eqT a b=false:=by
 cases hh:eqT a b with
 | false=>rfl
 | true=>exact absurd (eqT_iff.1 hh) h
theorem eqT_true {a b:PT}(h:a=b):eqT a b=true:=eqT_iff.2 h
theorem strs_at {l:List (List UInt8)}{i:Nat}(h:i<l.length):(strs l)[i]? = some (.str l[i]):=strs_get (gE h)
def PT.k:PT->Int |.mk k _ _ _=>k
def PT.s:PT->List UInt8 |.mk _ s _ _=>s
def PT.keys:PT->List (List UInt8) |.mk _ _ keys _=>keys
def PT.kids:PT->List PT |.mk _ _ _ kids=>kids
section
variable {gt:GT}{C:CallT}
abbrev E_plain (t u:PT)(i:Int):Env:=[(2,.box (encT t).cells),(3,.box (encT u).cells),(5,.val (.int .i64 i))]
abbrev E_plain2 (t u:PT)(i:Int):Env:=[(2,.box (encT t).cells),(3,.box (encT u).cells),(6,.val (.int .i64 i))]
set_option maxHeartbeats 2000000 in
theorem plain_wp (hm:MonoC C){t t':PT}(ih:∀u,u.n<t.n->∀u',u.ok->PF C 49 [encT u,encT u'] (.bool (eqT u u')))(hk:t.ok) :
  wpF gt C F49 [encT t,encT t'] St.init (Ret (.bool (eqT t t'))):=by
 obtain⟨k,s,keys,kids⟩:=t;obtain⟨k',s',keys',kids'⟩:=t';simp only[PT.ok]at hk;obtain⟨hk1,hk2,hk3⟩:=hk;have no:∀{S:St},¬PT.mk k s keys kids=.mk k' s' keys' kids'->Ret (.bool (eqT (.mk k s keys kids) (.mk k' s' keys' kids'))) (.ret (.bool false)) S:=λh=>by rw[eqT_false h];exact Ret.sta trivial
 have l1:=strs_length keys;have l2:=strs_length keys';have l3:=encTs_len kids;have l4:=encTs_len kids';refine⟨rfl,?_⟩;refine goW ?_;by_cases z0:k=k'
 case neg =>
  rw[neI_true z0];refine goW ?_;exact⟨_,rfl,no (by simp[z0])⟩
 rw[neI_false z0];refine goW ?_;by_cases z1:s=s'
 case neg =>
  rw[beqB_false z1];refine goW ?_;exact⟨_,rfl,no (by simp[z1])⟩
 rw[beqB_true z1];refine goW ?_;by_cases z2:((strs keys).length:Int)=(strs keys').length
 case neg =>
  rw[neI_true z2];refine goW ?_;exact⟨_,rfl,no λh=>by simp only[PT.mk.injEq]at h;rw[h.2.2.1]at z2;exact z2 rfl⟩
 rw[neI_false z2];refine goW ?_;by_cases z3:((encTs kids).length:Int)=(encTs kids').length
 case neg =>
  rw[neI_true z3];refine goW ?_;exact⟨_,rfl,no λh=>by simp only[PT.mk.injEq]at h;rw[h.2.2.2]at z3;exact z3 rfl⟩
 rw[neI_false z3];refine goW ?_;refine loop_rule hm (α:=Nat) (λi env S'=>i<=keys.length/\env=E_plain (.mk k s keys kids) (.mk k' s' keys' kids') i/\S'=St.init/\keys.take i=keys'.take i) (λi=>keys.length-i) ?_ (a:=0) ⟨Nat.zero_le _,rfl,rfl,rfl⟩;rintro i env S' ⟨hi,rfl,rfl,hp⟩;refine goW ?_;by_cases h:(i:Int)<(strs keys).length
 ·rw[dT h];refine goW ?_;have hik:i<keys.length:=by omega
  have hik':i<keys'.length:=by omega
  refine step_ruleDO rfl rfl (sx_ia (k:=i) rfl rfl (by omega)) (goW ?_);refine step_ruleDO rfl rfl (sx_ldEl (agg:=false) rfl rfl (strs_at hik) rfl) (goW ?_);refine step_ruleDO rfl rfl (sx_ia (k:=i) rfl rfl (by omega)) (goW ?_);refine step_ruleDO rfl rfl (sx_ldEl (agg:=false) rfl rfl (strs_at hik') rfl) (goW ?_);by_cases z:keys[i]=keys'[i]
  ·rw[beqB_true z];refine goW ?_;refine⟨i+1,⟨by omega,?_,rfl,?_⟩,by omega⟩
   ·rw[wrNat (by omega)];try rfl
   ·rw[tS hik,tS hik',hp,z]
  ·rw[beqB_false z];refine goW ?_;exact⟨_,rfl,no λh=>by simp only[PT.mk.injEq]at h;obtain⟨_,_,rfl,_⟩:=h;exact z rfl⟩
 rw[dF h];refine goW ?_;have hkeys:keys=keys':=by
  rwa [List.take_of_length_le (by omega),List.take_of_length_le (by omega)]at hp
 clear h hi hp
 refine loop_rule hm (α:=Nat) (λi env S'=>i<=kids.length/\env=E_plain2 (.mk k s keys kids) (.mk k' s' keys' kids') i/\S'=St.init/\kids.take i=kids'.take i) (λi=>kids.length-i) ?_ (a:=0) ⟨Nat.zero_le _,rfl,rfl,rfl⟩;rintro i env S' ⟨hi,rfl,rfl,hp⟩;refine goW ?_;by_cases h:(i:Int)<(encTs kids).length
 ·rw[dT h];refine goW ?_;have hik:i<kids.length:=by omega
  have hik':i<kids'.length:=by omega
  refine step_ruleDO rfl rfl (sx_ia (k:=i) rfl rfl (by omega)) (goW ?_);refine step_ruleDO rfl rfl (sx_ldEl (agg:=true) rfl rfl (encTs_get hik) (rdT _)) (goW ?_);refine step_ruleDO rfl rfl (sx_ia (k:=i) rfl rfl (by omega)) (goW ?_);refine step_ruleDO rfl rfl (sx_ldEl (agg:=true) rfl rfl (encTs_get hik') (rdT _)) (goW ?_);refine call_pfD hm (by rfl) (ih _ (kid_lt hik) _ (PT.oks_get hk3 (gE hik))) (goW ?_);by_cases z:kids[i]=kids'[i]
  ·rw[eqT_true z];refine goW ?_;refine⟨i+1,⟨by omega,?_,rfl,?_⟩,by omega⟩
   ·rw[wrNat (by omega)];try rfl
   ·rw[tS hik,tS hik',hp,z]
  ·rw[eqT_false z];refine goW ?_;exact⟨_,rfl,no λh=>by simp only[PT.mk.injEq]at h;obtain⟨_,_,_,rfl⟩:=h;exact z rfl⟩
 rw[dF h];refine goW ?_;have hkids:kids=kids':=by
  rwa [List.take_of_length_le (by omega),List.take_of_length_le (by omega)]at hp
 refine⟨_,rfl,?_⟩;rw[eqT_true (by rw[z0,z1,hkeys,hkids])];exact Ret.sta trivial
end
end Go.Dn

namespace Go.Dn
open Go Go.RowKit
def El (g:Bool)(es:Nat)(y:AV):Prop:=y.cells.length=es/\mkv g y.cells=some y
theorem cut_mid {pre m post:List AV}{n k:Nat}(hn:n=pre.length)(hk:k=m.length):cut (pre++(m++post)) n k=some m:=by
 subst hn;subst hk;unfold cut;rw[ble_true (by simp only[lA];omega)];simp
theorem cutAll_flat {g:Bool}{es:Nat}:∀{ys:List AV},(∀y∈ys,El g es y)->∀(pre post:List AV),cutAll g es (pre++(ys.flatMap AV.cells++post)) pre.length ys.length=some ys
 | [],_,_,_=>rfl
 | y::r,h,pre,post=>by
  obtain⟨h1,h2⟩:=h y (by simp);have ih:=cutAll_flat (ys:=r) (λz hz=>h z (by simp[hz])) (pre++y.cells) post;simp only[lC,cutAll,List.flatMap_cons,aA];rw[cut_mid rfl h1.symm];simp only[Option.bind_some,h2];rw[lA,h1,aA]at ih;rw[ih]
theorem flat_length {es:Nat}:∀{ys:List AV},(∀y∈ys,y.cells.length=es)->(ys.flatMap AV.cells).length=ys.length*es
 | [],_=>by simp
 | y::r,h=>by
  have:=flat_length (ys:=r) λz hz=>h z (by simp[hz]);simp only[List.flatMap_cons,lA,lC,this,h y (by simp),Nat.add_mul];omega
theorem rd_mk {S:St}{t l b:Nat}{off:Nat}{cap:Option Nat}{nl:Bool}(h:RsOK S (.mk t l b)):rd S ⟨some (t,l),off,cap,nl⟩=.box b 0:=by
 simp only[rd,h.2.2]
theorem splice_mid {pre m post new m':List AV}{n off:Nat}(hn:n=pre.length+off)(hl:off+new.length<=m.length)(hm:m'=splice m off new):splice (pre++(m++post)) n new=pre++(m'++post):=by
 subst hn;subst hm;unfold splice;rw[List.take_append,List.drop_append];simp only[List.take_append,List.drop_append,aA];rw[List.take_of_length_le (l:=pre) (by omega),List.drop_of_length_le (l:=pre) (by omega)];rw[show pre.length+off-pre.length=off by omega,show pre.length+off+new.length-pre.length=off+new.length by omega];rw[show off-m.length=0 by omega,List.take_zero,show off+new.length-m.length=0 by omega,List.drop_zero];simp
theorem split_at {ys:List AV}{k:Nat}(h:k<ys.length):ys=ys.take k++ys[k]::ys.drop (k+1):=by
 rw[List.getElem_cons_drop,tkD]
theorem set_split {ys:List AV}{k:Nat}{v:AV}(h:k<ys.length):ys.set k v=ys.take k++v::ys.drop (k+1):=by
 rw[List.set_eq_take_append_cons_drop,if_pos h]
section
variable {gt:GT}{C:CallT}{S:St}{R:List Rs}
theorem arr_els (h:Hs S R){i j:Nat}{b t l:Nat}{ty:TypeId}{ys post:List AV}{g:Bool}{es:Nat}(hi:R[i]? = some (.bx b ty (ys.flatMap AV.cells++post)))(hj:R[j]? = some (.mk t l b))(hel:∀y∈ys,El g es y)
  {xs:List AV} {off:Nat} {cap:Option Nat} {nl:Bool} (hx:off+xs.length<=ys.length):elems S g es ⟨some (t,l),off,cap,nl⟩ xs=some ((ys.drop off).take xs.length):=by
 have hb:=(h.ok i _ hi).2;have hm:=h.ok j _ hj;unfold elems;rw[rd_mk hm];simp only[hb];have e:ys=ys.take off++((ys.drop off).take xs.length++(ys.drop off).drop xs.length):=by rw[tkD,tkD]
 have hsz:∀y∈ys,y.cells.length=es:=λy hy=>(hel y hy).1;have:=cutAll_flat (g:=g) (es:=es) (ys:=(ys.drop off).take xs.length) (λy hy=>hel y (List.mem_of_mem_drop (List.mem_of_mem_take hy))) ((ys.take off).flatMap AV.cells) (((ys.drop off).drop xs.length).flatMap AV.cells++post);rw[flat_length λy hy=>hsz y (List.mem_of_mem_take hy),lT,lT,lD,Nat.min_eq_left (by omega),Nat.min_eq_left (by omega)]at this;rw[Nat.zero_add,<-this]
 congr 1
 conv=>lhs;rw[e]
 simp only[List.flatMap_append,aA]
theorem hs_mks {d:Option Nat}{env:Env}{ty:TypeId}{es bytes n c:Nat}{z:AV}{x y:DOpd}(h:Hs S R)(hl:(opd env x).bind nat? = some n)(hc:(opd env y).bind nat? = some c)(hle:n<=c)(hpos:0<c)(hb:c*bytes<=17592186044416)(hc2:c<=17592186044416)(hz:z.cells.length=es) :
  ∃t b S',stepO gt d env S (.mks ty es bytes z x y)=.done (putV d (.sl es ⟨some (t,t),0,some c,false⟩ (List.replicate n z)) env) S'/\Hs S' (R++[.bx b ty ((List.replicate c z).flatMap AV.cells)]++[.mk t t b]):=by
 have hfl:(List.replicate c z.cells).flatten=(List.replicate c z).flatMap AV.cells:=by
  clear hle hpos hb hc2 hc
  induction c with
  | zero=>rfl
  | succ c ih=>simp only[List.replicate_succ,List.flatten_cons,List.flatMap_cons,ih]
 refine⟨S.nt,S.nb,{ S with nb:=S.nb+1,boxes:=(S.nb,some (ty,(List.replicate c z).flatMap AV.cells))::S.boxes,nt:=S.nt+1,tip:=(S.nt,none)::S.tip,mv:=(S.nt,.bx S.nb 0)::S.mv },?_,?_⟩
 ·have hg:(Nat.ble n c && (Nat.ble (c*bytes) 17592186044416 && (Nat.ble c 17592186044416 && Nat.beq z.cells.length es)))=true:=by
   rw[ble_true hle,ble_true hb,ble_true hc2,hz,Nat.beq_refl];rfl
  have h0:Nat.beq c 0=false:=by
   cases hq:Nat.beq c 0 with
   | false=>rfl
   | true=>have:=bE hq;omega
  simp only[stepO,hl,hc,hg,cond_true,h0,cond_false,hfl]
 ·have h1:=h.newBox ty ((List.replicate c z).flatMap AV.cells);refine h1.more (S':={ S with nb:=S.nb+1,boxes:=(S.nb,some (ty,(List.replicate c z).flatMap AV.cells))::S.boxes,nt:=S.nt+1,tip:=(S.nt,none)::S.tip,mv:=(S.nt,.bx S.nb 0)::S.mv }) (r':=.mk S.nt S.nt S.nb) (λt ht=>?_) ⟨Nat.le_succ _,nR _,nR _,λt ht _=>⟨lk_ne _ _ (by simp only at ht;omega),lk_ne _ _ (by simp only at ht;omega)⟩,λ_ _ _=>rfl,λt m ht hm=>?_,λ_ _ _=>rfl,λ_ _ _=>rfl⟩ ⟨Nat.lt_succ_self _,Nat.lt_succ_self _,lk_same _ _ _⟩ λj s _=>?_
  ·simp only at ht ⊢;have:=h.wf t (by omega);exact⟨by rw[lk_ne _ _ (by omega)];exact this.1,this.2⟩
  ·simp only at ht hm ⊢;rw[lk_ne _ _ (by omega)];exact hm
  ·cases s<;>trivial
theorem arr_st (h:Hs S R)(i:Nat){j:Nat}{b t l:Nat}{ty:TypeId}{ys post:List AV}{es:Nat}(hi:R[i]? = some (.bx b ty (ys.flatMap AV.cells++post)))(hj:R[j]? = some (.mk t l b))(hsz:∀y∈ys,y.cells.length=es)
  {d:Option Nat} {env:Env} {a x:DOpd} {xs:List AV} {so k off sz:Nat} {cap:Option Nat} {nl:Bool} {v v':AV} (ha:loc env a=some (.el es ⟨some (t,l),so,cap,nl⟩ xs k off)) (hx:opd env x=some v) (hv:(Nat.beq v.cells.length sz && v.cells.all ok1)=true)
  (hk:k<xs.length) (hk2:so+k<ys.length) (ho:off+v.cells.length<=es) (hv':v'.cells=splice ys[so+k].cells off v.cells) :
  ∃S',stepO gt d env S (.st sz a x)=.done (putV d .undef env) S'/\Hs S' (R.set i (.bx b ty ((ys.set (so+k) v').flatMap AV.cells++post))):=by
 have hb:=(h.ok i _ hi).2;have hm:=h.ok j _ hj;have hfl:=flat_length hsz;have hle:(so+k+1)*es<=ys.length*es:=Nat.mul_le_mul_right _ (by omega);rw[Nat.add_mul]at hle;have hspl:splice (ys.flatMap AV.cells++post) (0+(so+k)*es+off) v.cells=(ys.set (so+k) v').flatMap AV.cells++post:=by
  rw[set_split hk2]
  conv=>lhs;rw[split_at hk2]
  simp only[List.flatMap_append,List.flatMap_cons,aA];refine splice_mid ?_ ?_ hv'
  ·rw[flat_length λy hy=>hsz y (List.mem_of_mem_take hy),lT,Nat.min_eq_left (by omega)];omega
  ·rw[hsz _ (List.getElem_mem _)];exact ho
 refine⟨{ S with boxes:=(b,some (ty,(ys.set (so+k) v').flatMap AV.cells++post))::S.boxes },?_,h.boxTo hi _⟩;have hg:(Nat.ble (off+v.cells.length) es && (Nat.blt k xs.length && Nat.ble (0+(so+k)*es+off+v.cells.length) (ys.flatMap AV.cells++post).length))=true:=by
  rw[ble_true ho,show Nat.blt k xs.length=true from Nat.ble_eq_true_of_le hk,ble_true (by rw[lA,hfl];omega)];rfl
 simp only[stepO,ha,hx,hv,cond_true,stL,rd_mk hm,hb,hg,hspl]
theorem arr_app (h:Hs S R)(i:Nat){j:Nat}{b t l:Nat}{ty ty2:TypeId}{ys post:List AV}{es bytes cap:Nat}{g:Bool}(hi:R[i]? = some (.bx b ty (ys.flatMap AV.cells++post)))(hj:R[j]? = some (.mk t l b))(hel:∀y∈ys,El g es y)
  {d:Option Nat} {env:Env} {x y:DOpd} {xs:List AV} {nl:Bool} {yv v:AV} (hx:opd env x=some (.sl es ⟨some (t,l),0,some cap,nl⟩ xs)) (hxl:xs.length=ys.length) (hy:opd env y=some yv) (hys:srcE S g es yv=some [v]) (hv:v.cells.length=es) (hok:v.cells.all ok1=true) (hes:0<es)
  (hcap:ys.length+1<=cap) (hpost:es<=post.length) (hb1:(ys.length+1)*bytes<=140737488355328) (hb2:ys.length+1<=140737488355328) (hb3:bytes<=1048576) :
  ∃S',stepO gt d env S (.app g ty2 es bytes x y)=.done (putV d (.sl es ⟨some (t,l),0,some cap,nl⟩ (ys++[v])) env) S'/\Hs S' (R.set i (.bx b ty ((ys++[v]).flatMap AV.cells++post.drop es))):=by
 have hb:=(h.ok i _ hi).2;have hm:=h.ok j _ hj;have hsz:∀y∈ys,y.cells.length=es:=λy hy=>(hel y hy).1;have hfl:=flat_length hsz;have he:=arr_els h hi hj hel (off:=0) (cap:=some cap) (nl:=nl) (xs:=xs) (by omega);rw[List.drop_zero,hxl,List.take_length]at he;have hspl:splice (ys.flatMap AV.cells++post) (0+(0+xs.length)*es) v.cells=(ys++[v]).flatMap AV.cells++post.drop es:=by
  have hn:0+(0+xs.length)*es=(ys.flatMap AV.cells).length+0:=by rw[hfl,hxl];simp
  have:=splice_mid (pre:=ys.flatMap AV.cells) (m:=post.take es) (post:=post.drop es) (new:=v.cells) (m':=v.cells) hn (by rw[lT,hv];omega) (by
   have hl:(post.take es).length=v.cells.length:=by rw[lT,hv];omega
   simp[splice,<-hl])
  rw[tkD]at this;rw[this];simp only[List.flatMap_append,List.flatMap_cons,List.flatMap_nil,List.append_nil,aA]
 refine⟨{ S with boxes:=(b,some (ty,(ys++[v]).flatMap AV.cells++post.drop es))::S.boxes },?_,h.boxTo hi _⟩;have hguard:(Nat.beq es es && (Nat.ble ((xs.length+([v]:List AV).length)*bytes) 140737488355328 && (Nat.ble (xs.length+([v]:List AV).length) 140737488355328 && (Nat.ble bytes 1048576 && Nat.blt 0 es))))=true:=by
  rw[Nat.beq_refl,ble_true (by rw[hxl];exact hb1),ble_true (by rw[hxl];exact hb2),ble_true hb3];simp only[Bool.true_and];exact Nat.ble_eq_true_of_le hes
 have hg2:((([v]:List AV).flatMap AV.cells).all ok1 && Nat.ble (0+(0+xs.length)*es+(([v]:List AV).flatMap AV.cells).length) (ys.flatMap AV.cells++post).length)=true:=by
  simp only[List.flatMap_cons,List.flatMap_nil,List.append_nil,hok,Bool.true_and];exact ble_true (by rw[lA,hfl,hv,hxl,Nat.zero_add,Nat.zero_add];omega)
 have hfv:([v]:List AV).flatMap AV.cells=v.cells:=by simp
 simp only[stepO,hx,hy,appV,hys,he,hguard,cond_true,ble_true (show xs.length+([v]:List AV).length<=cap by rw[hxl];exact hcap),rd_mk hm,hb,hg2];simp only[hfv,hspl]
end
theorem r_mks {C:CallT}{gt:GT}{S:St}{R:List Rs}{d:Option Nat}{env:Env}{ty:TypeId}{es bytes n c:Nat}{z:AV}{x y:DOpd}{gd:Option (Nat×Bool)}{K:Env->St->Prop}{Q:Ex->Env->St->Prop}(h:Hs S R)(hg:Gd env gd)(hl:(opd env x).bind nat? = some n)(hc:(opd env y).bind nat? = some c)(hle:n<=c)(hpos:0<c)(hb:c*bytes<=17592186044416)(hc2:c<=17592186044416)(hz:z.cells.length=es)
  (k:∀t b S',Hs S' (R++[.bx b ty ((List.replicate c z).flatMap AV.cells)]++[.mk t t b])->K (putV d (.sl es ⟨some (t,t),0,some c,false⟩ (List.replicate n z)) env) S'):afterS C d env S K Q (stepI gt ⟨d,.mks ty es bytes z x y,gd⟩ env S):=by
 obtain⟨t,b,S',h1,h2⟩:=hs_mks (gt:=gt) (d:=d) h hl hc hle hpos hb hc2 hz;exact st_any hg h1 (k t b S' h2)
end Go.Dn

namespace Go.Dn
open Go Go.Proofs.C1
set_option maxRecDepth 100000
attribute [local irreducible] afterS keepE
theorem ret_tup3 {S:St}{u x:AV}{b c:AV}(h:Rdo S u x)(hb:Sta b)(hc:Sta c):Ret (.tup [u,b,c]) (.ret (.tup [x,b,c])) S:=by
 refine⟨_,rfl,?_⟩;rw[Rdo];refine⟨_,rfl,?_⟩;simp only[Rdos];exact⟨_,_,rfl,h,_,_,rfl,hb.rdo,_,_,rfl,hc.rdo,rfl⟩
section
variable {gt:GT}{C:CallT}
end
end Go.Dn

namespace Go.Dn
open Go Go.RowKit
mutual
def bulkA:AV->Nat
 |.str s=>s.length+1
 |.sl _ _ xs=>bulkAs xs+1
 |.agg cs=>bulkAs cs+1
 | _=>1
def bulkAs:List AV->Nat
 | []=>0
 | x::r=>bulkA x+bulkAs r
end
theorem bulkAs_app (a b:List AV):bulkAs (a++b)=bulkAs a+bulkAs b:=by
 induction a with
 | nil=>simp[bulkAs]
 | cons x r ih=>simp only[List.cons_append,bulkAs,ih];omega
structure IsUb {H:Type}(ub:DataW H->Nat)(ubAll:List (DataW H)->Nat):Prop where
 lit:∀l,1<=ub (.lit l)
 str:∀s,s.length+1<=ub (.lit (.string s))
 nil:1<=ub .nil
 slice:∀a b,ub (.slice a b)=ubAll a+ubAll b+1
 agg:∀a,ub (.agg a)=ubAll a+1
 none:ubAll []=0
 cons:∀d r,ubAll (d::r)=ub d+ubAll r
def sb (P:Program)(t:TypeId):Nat:=match P.underlying t with
 | some (.struct _)=>1
 | _=>0
def AVB (P:Program):Nat->TypeId->List AV->Prop
 | 0,_,_=>False
 | d+1,t,xs=>match P.underlying t with
  | some .bool=>∃b,xs=[.bool b]
  | some (.int k)=>∃n,xs=[.int k n]/\(Lit.int k n).wf=true
  | some .string=>∃s,xs=[.str s]/\s.length<=maxLen
  | some (.slice e)=>∃ys,xs=[.sl (P.cellsOf e) stat ys]/\∀y∈ys,AVB P d e y.cells/\(isAggP P e=some true->∃cs,y=.agg cs)/\(isAggP P e=some false->y.cells=[y])
  | some (.struct fs)=>xs.length=P.cellsOf t/\∀f∈fs.toList,AVB P d f.type ((xs.drop f.offset).take (P.cellsOf f.type))
  | _=>False
section
variable {P:Program}{W:World}{H:Type}{enc:TypeId×Value->H}
theorem elem_avb {g:Bool}{e:TypeId}{d:Nat}(hg:isAggP P e=some g){cs:List Value}{xs:List AV}(hr:Rl St.init (G0 W) W xs cs)(ht:AVB P d e xs) :
  ∃y v,y.cells=xs/\v.cells.toList=cs/\Rv St.init (G0 W) W y v/\(g=true->∃zs,y=.agg zs)/\(g=false->y.cells=[y]):=by
 cases g with
 | true=>exact⟨.agg xs,.agg ⟨cs⟩,rfl,rfl,by simp only[Rv];exact⟨_,rfl,hr⟩,λ_=>⟨_,rfl⟩,λh=>by cases h⟩
 | false =>
  have hone:∃x,xs=[x]/\x.cells=[x]/\∀zs,x≠.agg zs:=by
   cases d with
   | zero=>exact ht.elim
   | succ d =>
    unfold AVB at ht;unfold isAggP at hg;split at ht
    ·obtain⟨b,rfl⟩:=ht;exact⟨_,rfl,rfl,λzs h=>by cases h⟩
    ·obtain⟨n,rfl,_⟩:=ht;exact⟨_,rfl,rfl,λzs h=>by cases h⟩
    ·obtain⟨s,rfl,_⟩:=ht;exact⟨_,rfl,rfl,λzs h=>by cases h⟩
    ·obtain⟨ys,rfl,_⟩:=ht;exact⟨_,rfl,rfl,λzs h=>by cases h⟩
    ·rename_i fs hu;rw[hu]at hg;cases hg
    ·exact ht.elim
  obtain⟨x,rfl,hx,hna⟩:=hone;simp only[Rl]at hr;obtain⟨v,r,rfl,hv,rfl⟩:=hr;refine⟨x,v,hx,?_,hv,(λh=>by cases h),λ_=>hx⟩;rw[Value.cells_of_not_agg (hv.not_agg hna)]
theorem fields_avb {ub:DataW H->Nat}{ubAll:List (DataW H)->Nat}(hub:IsUb ub ubAll){d:Nat}:∀(fs:List Field) (ds:List (DataW H)) (n m:Nat) (cs:List Value),fieldsAt P fs n=some m->cs.length=m->ds.length=fs.length ->
  (∀(i:Nat) (f:Field),fs[i]? = some f->∃(dd:DataW H) (xs:List AV),ds[i]? = some dd/\Rl St.init (G0 W) W xs ((cs.drop f.offset).take (P.cellsOf f.type))/\AVB P d f.type xs/\bulkAs xs<=ub dd) ->
  n<=m/\(∀f∈fs,n<=f.offset)/\∃xs,Rl St.init (G0 W) W xs (cs.drop n)/\(∀f∈fs,AVB P d f.type ((xs.drop (f.offset-n)).take (P.cellsOf f.type)))/\bulkAs xs<=ubAll ds
 | [],ds,n,m,cs,h,hl,_,_=>by
  simp only[fieldsAt,oI]at h;subst h;refine⟨nR _,λf hf=>(by cases hf),[],?_,λf hf=>(by cases hf),by simp[bulkAs]⟩;rw[List.drop_of_length_le (by omega)];exact Rl.nil
 | f::r,[],n,m,cs,h,hl,hd,hf=>by simp at hd
 | f::r,d0::ds,n,m,cs,h,hl,hd,hf=>by
  simp only[fieldsAt]at h;split at h
  ·rename_i ho;obtain⟨h1,h2,xr,h3,h4,h5⟩:=fields_avb hub r ds _ m cs h hl (by simpa using hd) λi g hg=>by simpa using hf (i+1) g (by simpa using hg)
   obtain⟨dd,xf,e0,g1,g2,g3⟩:=hf 0 f rfl;simp only[List.getElem?_cons_zero,oI]at e0;subst e0;rw[ho]at g1;have hxf:xf.length=P.cellsOf f.type:=by
    have:=g1.length;rw[lT,lD]at this;omega
   refine⟨by omega,λg hg=>?_,xf++xr,?_,λg hg=>?_,by rw[bulkAs_app,hub.cons];omega⟩
   ·rcases List.mem_cons.1 hg with rfl | hg
    ·omega
    ·have:=h2 g hg;omega
   ·have:=g1.append h3
    rwa [<-List.drop_drop,tkD]at this
   ·rcases List.mem_cons.1 hg with rfl | hg
    ·rw[ho,Nat.sub_self,List.drop_zero,List.take_append_of_le_length (by omega),List.take_of_length_le (by omega)];exact g2
    ·have hgo:=h2 g hg;have:=h4 g hg;rw[List.drop_append,List.drop_of_length_le (by omega),List.nil_append,hxf,show g.offset-n-P.cellsOf f.type=g.offset-(n+P.cellsOf f.type) by omega];exact this
  ·cases h
theorem trod_avb {ub:DataW H->Nat}{ubAll:List (DataW H)->Nat}(hub:IsUb ub ubAll){L:List TypeId}(hL:okTypes P L=true):∀(fuel:Nat) (t:TypeId) (cs:List Value) (x:DataW H×List MemPlace),t∈L->DataW.trod enc P W 0 (λ_=>true) true fuel t cs=some x ->
  ∃xs,Rl St.init (G0 W) W xs cs/\AVB P fuel t xs/\bulkAs xs+sb P t<=ub x.1
 | 0,_,_,_,_,h=>by simp[DataW.trod]at h
 | fuel+1,t,cs,x,ht,h=>by
  have hok:=List.all_eq_true.1 hL t ht;unfold okType at hok;unfold AVB;have hsb:∀{td},P.underlying t=some td->sb P t=match td with |.struct _=>1 | _=>0:=λ{td} h=>by unfold sb;rw[h];cases td<;>rfl
  cases hu:P.underlying t with
  | none=>rw[hu]at hok;cases hok
  | some td =>
  rw[hu]at hok;cases td<;>simp only[Bool.false_eq_true]at hok
  case bool =>
   obtain⟨b,rfl,rfl⟩:=DataW.trod_bool hu h;exact⟨[.bool b],Rl.cons (by simp only[Rv]) Rl.nil,⟨b,rfl⟩,by rw[hsb hu];have:=hub.lit (.bool b);simp only[bulkAs,bulkA];omega⟩
  case int k =>
   obtain⟨n,rfl,rfl,hwf⟩:=DataW.trod_int hu h;exact⟨[.int k n],Rl.cons (by simp only[Rv]) Rl.nil,⟨n,rfl,hwf⟩,by rw[hsb hu];have:=hub.lit (.int k n);simp only[bulkAs,bulkA];omega⟩
  case string =>
   obtain⟨s,rfl,rfl,hs⟩:=DataW.trod_string hu h;exact⟨[.str s.data.toList],Rl.cons (by simp only[Rv]) Rl.nil,⟨_,rfl,by simpa using hs⟩,by rw[hsb hu];have:=hub.str s.data.toList;simp only[bulkAs,bulkA];omega⟩
  case slice e =>
   simp only[bA]at hok;have heL:=any_mem hok.1;have hc0:=blt_lt hok.2;rcases DataW.trod_slice hu h with⟨rfl,rfl⟩ | ⟨a,len,cap,elems,rest,n,hn,rfl,hx,_,hl,hm,hlen,hel,hsp,_⟩
   ·refine⟨[.sl (P.cellsOf e) stat []],Rl.cons ?_ Rl.nil,⟨[],rfl,λy hy=>by cases hy⟩,by rw[hsb hu];have:=hub.nil;simp only[bulkAs,bulkA];omega⟩;simp only[Rv];exact⟨none,0,0,rfl,⟨rfl,nR _,by simp[stat],(λc hc=>by cases hc),(λ_=>rfl),(λp hp=>by cases hp)⟩,(λ_ p hp=>by cases hp)⟩
   ·cases hn;obtain⟨hrl,hrest⟩:=hsp rfl;subst hx;have cellsAt:∀i,i<cap->∃cs' y,W.cells? 0 (a.add (i*P.cellsOf e)) (P.cellsOf e)=some cs'/\DataW.trod enc P W 0 (λ_=>true) true fuel e cs'=some y:=λi hi=>by
     have:∃y,(W.cells? 0 (a.add (i*P.cellsOf e)) (P.cellsOf e)).bind (DataW.trod enc P W 0 (λ_=>true) true fuel e)=some y:=by
      by_cases h':i<len
      ·exact⟨_,(hel i h').trans (gE (by omega))⟩
      ·have:=hrest (i-len) (by omega);rw[show len+(i-len)=i by omega]at this;exact⟨_,this.trans (gE (by omega))⟩
     obtain⟨y,hy⟩:=this;obtain⟨cs',e1,e2⟩:=Option.bind_eq_some_iff.1 hy;exact⟨cs',y,e1,e2⟩
    have hge:∃g,isAggP P e=some g:=by
     have:=List.all_eq_true.1 hL e heL;unfold okType at this;unfold isAggP;split at this<;>first | (cases this;done) | skip
     all_goals rename_i hh;rw[hh];exact⟨_,rfl⟩
    obtain⟨g,hg⟩:=hge;have hspot:0<cap->a.spot=none:=λhc=>by
     obtain⟨cs',y,e1,_⟩:=cellsAt 0 hc;obtain⟨l1,l2⟩:=cells_get e1;have:=l2 0 hc0;rw[Nat.zero_mul]at this;have ha:(a.add 0).add 0=a:=by simp[Addr.add]
     rw[ha]at this;cases hs:a.spot with
     | none=>rfl
     | some s =>
      exfalso;have h0:cs'[0]? = some cs'[0]:=gE (by omega);rw[h0]at this;unfold World.cell? at this;split at this
      ·simp[hs]at this
      ·cases this
    have cellAt:∀i,i<cap->∃cs',cs'.length=P.cellsOf e/\(∀j,j<P.cellsOf e->W.cell? ⟨a.block,a.off+i*P.cellsOf e+j,none⟩=cs'[j]?)/\∃y,DataW.trod enc P W 0 (λ_=>true) true fuel e cs'=some y:=λi hi=>by
     obtain⟨cs',y,e1,e2⟩:=cellsAt i hi;obtain⟨l1,l2⟩:=cells_get e1;refine⟨cs',l1,λj hj=>?_,y,e2⟩;rw[<-l2 j hj];have hs:=hspot (by omega);obtain⟨ab,ao,asp⟩:=a;simp only at hs;subst hs;rw[add_none,add_none]
    obtain⟨ys,hy1,hy2⟩:=seq_ex (n:=len) (R:=λi y=>(∃d,elems[i]? = some d/\bulkA y<=ub d.1)/\AVB P fuel e y.cells/\((isAggP P e=some true->∃zs,y=.agg zs)/\(isAggP P e=some false->y.cells=[y]))/\∃v,Rv St.init (G0 W) W y v/\v.cells.size=P.cellsOf e/\∀j,j<P.cellsOf e->W.cell? ⟨a.block,a.off+i*P.cellsOf e+j,none⟩=v.cells[j]?) λi hi=>by
     have hq:=(hel i hi).trans (gE (by omega));obtain⟨cs0,e1,e2⟩:=Option.bind_eq_some_iff.1 hq;obtain⟨cs',l1,l2,_⟩:=cellAt i (by omega);have hcs:cs'=cs0:=by
      obtain⟨m1,m2⟩:=cells_get e1;apply List.ext_getElem?
      intro j;by_cases hj:j<P.cellsOf e
      ·rw[<-l2 j hj,<-m2 j hj];have hs:=hspot (by omega);obtain⟨ab,ao,asp⟩:=a;simp only at hs;subst hs;rw[add_none,add_none]
      ·rw[List.getElem?_eq_none (by omega),List.getElem?_eq_none (by omega)]
     subst hcs;obtain⟨xs,r1,r2,r3⟩:=trod_avb hub hL fuel e cs' _ heL e2;obtain⟨z,v,z1,z2,z3,z4,z5⟩:=elem_avb hg r1 r2;refine⟨z,⟨_,gE (by omega),?_⟩,by rw[z1];exact r2,⟨λh'=>z4 (by rw[hg]at h';cases h';rfl),λh'=>z5 (by rw[hg]at h';cases h';rfl)⟩,v,z3,?_,λj hj=>?_⟩
     ·cases g with
      | true =>
       obtain⟨zs,rfl⟩:=z4 rfl;have hs1:sb P e=1:=by
        unfold isAggP at hg;unfold sb;split at hg<;>first | (cases hg;done) | skip
        all_goals (rename_i hh;rw[hh])
        all_goals (have hqq:=List.all_eq_true.1 hL e heL;unfold okType at hqq;rw[hh]at hqq;cases hqq)
       rw[<-z1]at r3;simp only[AV.cells]at r3;simp only[bulkA];omega
      | false =>
       have:=z5 rfl;rw[z1]at this;rw[this]at r3;simp only[bulkAs]at r3;omega
     ·rw[<-l1,<-z2];simp
     ·rw[l2 j hj,<-z2];simp
    refine⟨[.sl (P.cellsOf e) stat ys],Rl.cons ?_ Rl.nil,⟨ys,rfl,λy hy=>?_⟩,?_⟩
    ·simp only[Rv];refine⟨some a,len,cap,rfl,⟨hy1.symm,hl,by simp[stat],(λc hc=>by cases hc),(λhc=>by cases hc),λp hp hc=>?_⟩,λ_ p hp=>?_⟩
     ·cases hp;obtain⟨cs',l1,l2,_⟩:=cellAt (cap-1) (by omega);have hlast:=l2 (P.cellsOf e-1) (by omega);rw[gE (by omega)]at hlast;unfold World.cell? at hlast;split at hlast
      ·rename_i c ty fr hb;simp only[Option.isSome_none,Bool.false_eq_true,if_false]at hlast;have hlt:=(Array.getElem?_eq_some_iff.1 hlast).1;refine⟨hc0,hspot hc,⟨ty,c.size,by simp[World.shape?,hb],?_⟩,?_⟩
       ·have:cap*P.cellsOf e=(cap-1)*P.cellsOf e+P.cellsOf e:=by
         rw[<-Nat.succ_mul];congr 1;omega
        omega
       ·rw[rd_none rfl];exact(Array.getElem?_eq_some_iff.1 hb).1
      ·cases hlast
     ·cases hp;exact Rat_of_get λi y hy=>(hy2 i y hy).2.2.2
    ·obtain⟨i,hi⟩:=List.getElem?_of_mem hy;exact⟨(hy2 i y hi).2.1,(hy2 i y hi).2.2.1⟩
    ·have hle:bulkAs ys<=ubAll (elems.map (·.1)):=by
      have key:∀(ys:List AV) (ds:List (DataW H×List MemPlace)),ys.length=ds.length->(∀(i:Nat) (y:AV),ys[i]? = some y->∃d:DataW H×List MemPlace,ds[i]? = some d/\bulkA y<=ub d.1)->bulkAs ys<=ubAll (ds.map (·.1)):=by
       intro ys
       induction ys with
       | nil=>intro ds _ _;simp[bulkAs]
       | cons y r ih =>
        intro ds hl hh;cases ds with
        | nil=>simp at hl
        | cons d q =>
         obtain⟨d',e1,e2⟩:=hh 0 y rfl;simp only[List.getElem?_cons_zero,oI]at e1;subst e1;have:=ih q (by simpa using hl) λi z hz=>by simpa using hh (i+1) z (by simpa using hz)
         simp only[bulkAs,List.map_cons,hub.cons];omega
      exact key ys elems (by rw[hy1,hlen]) λi y hy=>(hy2 i y hy).1
     rw[hsb hu];simp only[bulkAs,bulkA,hub.slice];omega
  case struct fs =>
   simp only[bA,decide_eq_true_eq]at hok;obtain⟨xs,n,hn,hx,hlen,hxl,hfs⟩:=DataW.trod_struct hu h;cases hn;subst hx;obtain⟨_,_,zs,z1,z2,z3⟩:=fields_avb (P:=P) (W:=W) (d:=fuel) hub fs.toList (xs.map (·.1)) 0 _ cs hok.2 hlen (by simp[hxl]) λi f hi=>by
    have hi':fs[i]? = some f:=by simpa using hi
    have:=hfs i f hi';have hlt:i<xs.length:=by
     rw[hxl];exact(Array.getElem?_eq_some_iff.1 hi').1
    rw[gE hlt]at this;have hmem:f∈fs.toList:=List.mem_of_getElem? hi;obtain⟨ys,r1,r2,r3⟩:=trod_avb hub hL fuel f.type _ _ (any_mem (List.all_eq_true.1 hok.1 f hmem)) this;exact⟨xs[i].1,ys,by simp[hlt],r1,r2,by omega⟩
   rw[List.drop_zero]at z1;refine⟨zs,z1,⟨by rw[<-hlen,z1.length],z2⟩,?_⟩;rw[hsb hu];simp only[hub.agg];omega
end
end Go.Dn

namespace Go.Proofs.YtbojekglccdajaaGreatDoor
open Go.Dn
theorem c_int:Tryz.prog.cellsOf 3=1:=by kernel_rfl
theorem c_str:Tryz.prog.cellsOf 9=1:=by kernel_rfl
theorem c_strs:Tryz.prog.cellsOf 45=1:=by kernel_rfl
theorem c_trees:Tryz.prog.cellsOf 26=1:=by kernel_rfl
theorem c_tree:Tryz.prog.cellsOf 47=4:=by kernel_rfl
theorem a_str:isAggP Tryz.prog 9=some false:=by kernel_rfl
theorem a_tree:isAggP Tryz.prog 47=some true:=by kernel_rfl
theorem u_int:Tryz.prog.underlying 3=some (.int .i64):=by kernel_rfl
theorem u_str:Tryz.prog.underlying 9=some .string:=by kernel_rfl
theorem u_strs:Tryz.prog.underlying 45=some (.slice 9):=by kernel_rfl
theorem u_trees:Tryz.prog.underlying 26=some (.slice 47):=by kernel_rfl
theorem av_int {d:Nat}{x:AV}(h:AVB Tryz.prog d 3 [x]):∃n,x=.int .i64 n:=by
 cases d with
 | zero=>exact h.elim
 | succ d =>
  unfold AVB at h;rw[u_int]at h;obtain⟨n,e,_⟩:=h;cases e;exact⟨n,rfl⟩
theorem av_str {d:Nat}{x:AV}(h:AVB Tryz.prog d 9 [x]):∃s,x=.str s:=by
 cases d with
 | zero=>exact h.elim
 | succ d =>
  unfold AVB at h;rw[u_str]at h;obtain⟨n,e,_⟩:=h;cases e;exact⟨n,rfl⟩
theorem av_strs {d:Nat}{x:AV}(h:AVB Tryz.prog d 45 [x]):∃l,x=.sl 1 stat (strs l):=by
 cases d with
 | zero=>exact h.elim
 | succ d =>
  unfold AVB at h;rw[u_strs]at h;obtain⟨ys,e,h2⟩:=h;cases e;rw[c_str];have:∃l,ys=strs l:=by
   induction ys with
   | nil=>exact⟨[],rfl⟩
   | cons y r ih =>
    obtain⟨l,hl⟩:=ih λz hz=>h2 z (by simp[hz]);obtain⟨k1,_,k3⟩:=h2 y (by simp);rw[k3 a_str]at k1;obtain⟨s,rfl⟩:=av_str k1;exact⟨s::l,by rw[hl];rfl⟩
  obtain⟨l,rfl⟩:=this;exact⟨l,rfl⟩
theorem list_trees {ys:List AV}(h:∀y∈ys,∃t:PT,y=encT t):∃l,ys=encTs l:=by
 induction ys with
 | nil=>exact⟨[],rfl⟩
 | cons y r ih =>
  obtain⟨l,h1⟩:=ih λz hz=>h z (by simp[hz]);obtain⟨t,h3⟩:=h y (by simp);exact⟨t::l,by rw[h1,h3];rfl⟩
theorem four {α:Type}{l:List α}(h:l.length=4):∃a b c d,l=[a,b,c,d]:=by
 match l,h with
 | [a,b,c,d],_=>exact⟨a,b,c,d,rfl⟩
set_option maxRecDepth 100000 in
theorem av_tree:∀{d:Nat} {xs:List AV},AVB Tryz.prog d 47 xs->∃t:PT,.agg xs=encT t:=by
 intro d
 induction d using Nat.strongRecOn with
 | _ d ih =>
 intro xs h;cases d with
 | zero=>exact h.elim
 | succ d =>
  unfold AVB at h;rw[Tryz.underlying47]at h;obtain⟨hl,h⟩:=h;rw[c_tree]at hl;obtain⟨x0,x1,x2,x3,rfl⟩:=four hl;simp only[List.forall_mem_cons]at h;simp only[c_int,c_str,c_strs,c_trees]at h;obtain⟨f0,f1,f2,f3,_⟩:=h;obtain⟨k,rfl⟩:=av_int f0;obtain⟨s,rfl⟩:=av_str f1;obtain⟨keys,rfl⟩:=av_strs f2;cases d with
  | zero=>exact f3.elim
  | succ d =>
   unfold AVB at f3;rw[u_trees]at f3;obtain⟨ys,e,g2⟩:=f3;cases e;obtain⟨kids,rfl⟩:=list_trees (ys:=ys) λy hy=>by
    obtain⟨k1,k2,_⟩:=g2 y hy;obtain⟨cs,rfl⟩:=k2 a_tree;exact ih d (by omega) k1
   refine⟨.mk k s keys kids,?_⟩;simp only[encT];rw[c_tree]
theorem bulk_strs0 (l:List (List UInt8)):l.length<=bulkAs (strs l):=by
 induction l with
 | nil=>exact Nat.zero_le _
 | cons a r ih =>
  have:strs (a::r)=.str a::strs r:=rfl;rw[this];simp only[bulkAs,bulkA,lC];omega
mutual
theorem bulk_T:∀t:PT,bulkA (encT t)<=1048576->t.ok
 |.mk k s keys kids,h=>by
  simp only[encT,bulkA,bulkAs]at h;have h1:=bulk_strs0 keys;have h2:=bulk_Ts kids (by omega);simp only[PT.ok];exact⟨by omega,by omega,h2.1⟩
theorem bulk_Ts:∀l:List PT,bulkAs (encTs l)<=1048576->PT.oks l/\l.length<=bulkAs (encTs l)
 | [],_=>⟨trivial,Nat.zero_le _⟩
 | t::r,h=>by
  simp only[encTs,bulkAs]at h;have h1:=bulk_T t (by omega);have h2:=bulk_Ts r (by omega);have:1<=bulkA (encT t):=by cases t;simp only[encT,bulkA];omega
  simp only[PT.oks,encTs,bulkAs,lC];exact⟨⟨h1,h2.1⟩,by omega⟩
end
end Go.Proofs.YtbojekglccdajaaGreatDoor

namespace Go.Proofs.YtbojekglccdajaaGreatDoor
open Go.Dn
end Go.Proofs.YtbojekglccdajaaGreatDoor

namespace Go.Dn
open Go Go.Proofs.C1
set_option maxRecDepth 100000
attribute [local irreducible] afterS keepE
theorem st_runP {C:CallT}{gt:GT}{d:Option Nat}{op:DOp}{gd:Option (Nat×Bool)}{env env':Env}{S:St}{P:St->Prop}{K:Env->St->Prop}{Q:Ex->Env->St->Prop}(h:∃S',stepO gt d env S op=.done env' S'/\P S')(hg:Gd env gd)(k:∀S',P S'->K env' S'):afterS C d env S K Q (stepI gt ⟨d,op,gd⟩ env S):=by
 obtain⟨S',h1,h2⟩:=h;exact st_any hg h1 (k S' h2)
section
variable {gt:GT}{C:CallT}
end

def plc (key:List UInt8):List (List UInt8)->Nat->Int
 | [],_=>-1
 | a::r,i=>if a=key then (i:Int) else plc key r (i+1)
theorem plc_lt (key:List UInt8):∀(l:List (List UInt8)) (i:Nat),plc key l i=-1\/((i:Int)<=plc key l i/\plc key l i<i+l.length)
 | [],i=>.inl rfl
 | n::r,i=>by
  simp only[plc];split
  ·right;simp only[lC];omega
  ·rcases plc_lt key r (i+1) with h | h
   ·exact .inl h
   ·right;simp only[lC];omega
theorem plc_step {key:List UInt8}{l:List (List UInt8)}{i:Nat}(h:i<l.length):plc key (l.drop i) i=if l[i]=key then (i:Int) else plc key (l.drop (i+1)) (i+1):=by
 rw[dC h];try rfl
def PT.zero:PT:=.mk 0 [] [] []
theorem rdo_nil0 {S:St}{es:Nat}{nl:Bool}:Rdo S (.sl es stat []) (.sl es ⟨none,0,some 0,nl⟩ []):=by
 simp only[Rdo];exact⟨trivial,_,_,true,[],rfl,rfl,by simp only[Rdos]⟩
theorem rdo_zT {S:St}:Rdo S (encT PT.zero) (.agg zT):=by
 simp only[PT.zero,encT];rw[Rdo];refine⟨_,rfl,?_⟩;simp only[Rdos];exact⟨_,_,rfl,by simp only[Rdo],_,_,rfl,by simp only[Rdo],_,_,rfl,rdo_nil0,_,_,rfl,rdo_nil0,rfl⟩
theorem ret_tup2 {S:St}{u x:AV}{b:AV}(h:Rdo S u x)(hb:Sta b):Ret (.tup [u,b]) (.ret (.tup [x,b])) S:=by
 refine⟨_,rfl,?_⟩;rw[Rdo];refine⟨_,rfl,?_⟩;simp only[Rdos];exact⟨_,_,rfl,h,_,_,rfl,hb.rdo,rfl⟩
section
variable {gt:GT}{C:CallT}
end
end Go.Dn

namespace Go.Dn
open Go Go.RowKit
theorem Hs.bldT {S:St}{R:List Rs}(h:Hs S R)(ty:TypeId)(n:Nat):Hs { S with nt:=S.nt+1,tip:=(S.nt,some (n,ty,false))::S.tip } R /\
  ∀(agg:Bool) (es:Nat) (xs:List AV),srcE { S with nt:=S.nt+1,tip:=(S.nt,some (n,ty,false))::S.tip } agg es (.sl es ⟨some (S.nt,S.nt),0,some n,false⟩ xs)=some xs:=by
 have hw:=h.wf S.nt (nR _);refine⟨?_,λagg es xs=>?_⟩
 ·have:=h.more (S':={ S with nt:=S.nt+1,tip:=(S.nt,some (n,ty,false))::S.tip }) (r':=.gr ty ⟨none,0,some 0,true⟩ []) (λt ht=>h.wf t (by simp only at ht;omega)) ⟨Nat.le_succ _,nR _,nR _,λt ht _=>⟨lk_ne _ _ (by omega),rfl⟩,λ_ _ _=>rfl,λ_ _ _ h=>h,λ_ _ _=>rfl,λ_ _ _=>rfl⟩ (.inl ⟨rfl,rfl,rfl,rfl⟩) λj s _=>by
   cases s<;>simp[RsDj]
  exact this.less id (λi j _ _ e=>e) λi hi=>by rw[id,List.getElem?_append_left hi]
 ·simp only[srcE,Nat.beq_refl,cond_true,elems,rd,hw.1,hw.2]

end Go.Dn

namespace Go.Dn
open Go Go.Proofs.C1
set_option maxRecDepth 100000
attribute [local irreducible] afterS keepE
section
variable {gt:GT}{C:CallT}
end

section
variable {gt:GT}{C:CallT}
abbrev E_plc (keys:List (List UInt8))(key:List UInt8)(i:Int):Env:=[(0,.val (.sl 1 stat (strs keys))),(1,.val (.str key)),(5,.val (.int .i64 i))]
set_option maxHeartbeats 2000000 in
theorem place_wp (hm:MonoC C){keys:List (List UInt8)}{key:List UInt8}(hl:keys.length<4611686018427387904):wpF gt C F50 [.sl 1 stat (strs keys),.str key] St.init (Ret (.int .i64 (plc key keys 0))):=by
 have l1:=strs_length keys;refine⟨rfl,?_⟩;refine goW ?_;refine loop_rule hm (α:=Nat) (λi env S'=>i<=keys.length/\env=E_plc keys key i/\S'=St.init/\plc key keys 0=plc key (keys.drop i) i) (λi=>keys.length-i) ?_ (a:=0) ⟨Nat.zero_le _,rfl,rfl,rfl⟩;rintro i env S' ⟨hi,rfl,rfl,hp⟩;refine goW ?_;by_cases hc:(i:Int)<(strs keys).length
 ·rw[dT hc];refine goW ?_;have hik:i<keys.length:=by omega
  rw[plc_step hik]at hp;refine step_ruleO (sx_ia (k:=i) rfl rfl (by omega)) (goW ?_);refine step_ruleO (sx_ldEl (agg:=false) rfl rfl (strs_at hik) rfl) (goW ?_);by_cases z:keys[i]=key
  ·rw[beqB_true z];refine goW ?_;refine⟨_,rfl,?_⟩;rw[hp,if_pos z];exact Ret.sta trivial
  ·rw[beqB_false z];refine goW ?_;refine⟨i+1,⟨by omega,?_,rfl,by rw[hp,if_neg z]⟩,by omega⟩;rw[wrNat (by omega)];try rfl
 ·rw[dF hc];refine goW ?_;refine⟨_,rfl,?_⟩;rw[hp,List.drop_eq_nil_of_le (by omega)];exact Ret.sta trivial
end

section
variable {gt:GT}{C:CallT}
end

theorem sx_ixS {gt:GT}{d:Option Nat}{env:Env}{S:St}{x i:DOpd}{s:List UInt8}{k:Nat}{b:UInt8}(hx:opd env x=some (.str s))(hi:(opd env i).bind nat? = some k)(hb:s[k]? = some b) :
  stepO gt d env S (.ixS x i)=.done (putV d (.int .u8 b.toNat) env) S:=by
 simp only[stepO,hx,hi,hb]
theorem sx_slLo {gt:GT}{d:Option Nat}{env:Env}{S:St}{x lo:DOpd}{s:List UInt8}{l:Nat}(hx:opd env x=some (.str s))(hl:(opd env lo).bind nat? = some l)(h:l<=s.length) :
  stepO gt d env S (.slS x (some lo) none)=.done (putV d (.str (s.drop l)) env) S:=by
 have hb:bnds env s.length (some lo) none=some (l,s.length):=by
  simp only[bnds,hl,ble_true h,ble_true (nR _),Bool.and_self,cond_true]
 simp only[stepO,hx,hb];rw[List.take_of_length_le (by simp)]
theorem sx_slHiS {gt:GT}{d:Option Nat}{env:Env}{S:St}{x hi:DOpd}{s:List UInt8}{h:Nat}(hx:opd env x=some (.str s))(hh:(opd env hi).bind nat? = some h)(hl:h<=s.length) :
  stepO gt d env S (.slS x none (some hi))=.done (putV d (.str (s.take h)) env) S:=by
 have hb:bnds env s.length none (some hi)=some (0,h):=by
  simp only[bnds,hh,ble_true (Nat.zero_le h),ble_true hl,Bool.and_self,cond_true]
 simp only[stepO,hx,hb,List.drop_zero,Nat.sub_zero]
theorem sx_slLH {gt:GT}{d:Option Nat}{env:Env}{S:St}{x lo hi:DOpd}{s:List UInt8}{l h:Nat}(hx:opd env x=some (.str s))(hl:(opd env lo).bind nat? = some l)(hh:(opd env hi).bind nat? = some h)(h1:l<=h)(h2:h<=s.length) :
  stepO gt d env S (.slS x (some lo) (some hi))=.done (putV d (.str ((s.drop l).take (h-l))) env) S:=by
 have hb:bnds env s.length (some lo) (some hi)=some (l,h):=by
  simp only[bnds,hl,hh,ble_true h1,ble_true h2,Bool.and_self,cond_true]
 simp only[stepO,hx,hb]
def eqRes (u:AV):Res->St->Bool
 |.ret v,_=>beqA u v
 | _,_=>false
theorem byRun {gt:GT}{C:CallT}(hm:MonoC C){F:DF}{xs:List AV}{u:AV}(hs:Sta u)(h:exF gt (λ_ _ _ _=>false) 1000 F xs St.init (eqRes u)=true):wpF gt C F xs St.init (Ret u):=by
 refine exF_sound (C':=C) (λf xs S k h=>by cases h) hm (λr S h=>?_) h;cases r with
 | ret v =>
  have:=beqA_eq h;subst this;exact Ret.sta hs
 | pan v=>cases h
def leadB (b:Nat):Nat×Nat×Nat :=
 if b<128 then (1,b,0) else if b<192 then (0,0,0) else if b<224 then (2,b-192,128) else if b<240 then (3,b-224,2048) else if b<248 then (4,b-240,65536) else (0,0,0)
def encLead (p:Nat×Nat×Nat):AV:=.tup [.int .i64 p.1,.int .i64 p.2.1,.int .i64 p.2.2]
def contV:Nat->List UInt8->Nat->Option Nat
 | 0,_,acc=>some acc
 | _+1,[],_=>none
 | k+1,x::r,acc=>if 128<=x.toNat/\x.toNat<192 then contV k r (acc*64+(x.toNat-128)) else none
def charB (c:Int):Bool:=decide (0<=c/\c<=1114111/\(c<55296\/57343<c))
def firstC:List UInt8->Nat×Nat
 | []=>(0,0)
 | b::r =>
  if (leadB b.toNat).1=0\/r.length+1<(leadB b.toNat).1 then (0,0) else match contV ((leadB b.toNat).1-1) r (leadB b.toNat).2.1 with
   | none=>(0,0)
   | some c=>if c<(leadB b.toNat).2.2\/charB c=false then (0,0) else (c,(leadB b.toNat).1)
def encFirst (p:Nat×Nat):AV:=.tup [.int .i64 p.1,.int .i64 p.2]
theorem leadB_le (b:Nat)(h:b<256):(leadB b).1<=4/\(leadB b).2.1<128:=by
 unfold leadB;split
 ·exact⟨by show 1<=4;decide,by assumption⟩
 ·split
  ·exact⟨by decide,by decide⟩
  ·split
   ·exact⟨by show 2<=4;decide,by show b-192<128;omega⟩
   ·split
    ·exact⟨by show 3<=4;decide,by show b-224<128;omega⟩
    ·split
     ·exact⟨by show 4<=4;decide,by show b-240<128;omega⟩
     ·exact⟨by decide,by decide⟩
theorem contV_step {k:Nat}{l:List UInt8}{i acc:Nat}(hi:i<l.length):contV (k+1) (l.drop i) acc=if 128<=l[i].toNat/\l[i].toNat<192 then contV k (l.drop (i+1)) (acc*64+(l[i].toNat-128)) else none:=by
 rw[dC hi];rfl
theorem u8_lt (x:UInt8):x.toNat<256:=UInt8.toNat_lt x
theorem or_add {a b:Nat}(hb:b<64)(ha:a*64+b<18446744073709551616):(BitVec.ofInt 64 ((a*64:Nat):Int) ||| BitVec.ofInt 64 (b:Int)).toNat=a*64+b:=by
 rw[BitVec.ofInt_natCast,BitVec.ofInt_natCast,BitVec.toNat_or,BitVec.toNat_ofNat,BitVec.toNat_ofNat,Nat.mod_eq_of_lt (show a*64<2 ^ 64 by omega),Nat.mod_eq_of_lt (show b<2 ^ 64 by omega)];have:=Nat.shiftLeft_add_eq_or_of_lt (i:=6) (b:=b) (by omega) a;rw[Nat.shiftLeft_eq]at this;exact this.symm
theorem and63 (x:UInt8)(h1:128<=x.toNat)(h2:x.toNat<192):(BitVec.ofInt 8 (x.toNat:Int) &&& BitVec.ofInt 8 63).toNat=x.toNat-128:=by
 rw[show (63:Int)=((63:Nat):Int) from rfl,BitVec.ofInt_natCast,BitVec.ofInt_natCast,BitVec.toNat_and,BitVec.toNat_ofNat,BitVec.toNat_ofNat,Nat.mod_eq_of_lt (show x.toNat<2 ^ 8 by omega),show (63:Nat) % 2 ^ 8=2 ^ 6-1 by decide,Nat.and_two_pow_sub_one_eq_mod];omega
theorem shr6 (x:UInt8):(((x.toNat:Int).fdiv (2 ^ 6)) != 2) = !decide (128<=x.toNat/\x.toNat<192):=by
 have hx:=u8_lt x;rw[show ((2:Int) ^ 6)=64 by decide,Int.fdiv_eq_ediv_of_nonneg _ (by decide)];by_cases h:128<=x.toNat/\x.toNat<192
 ·rw[dT h,show ((x.toNat:Int) / 64)=2 by omega];rfl
 ·rw[dF h];have:¬((x.toNat:Int) / 64)=2:=by omega
  simp[this]
section
variable {gt:GT}{C:CallT}
theorem row_gt (gt:GT):(List.range 256).all (λb=>exF gt (λ_ _ _ _=>false) 1000 F99 [.int .u8 b] St.init (eqRes (encLead (leadB b))))=true:=by kernel_rfl
theorem row_wp (hm:MonoC C)(b:UInt8):wpF gt C F99 [.int .u8 b.toNat] St.init (Ret (encLead (leadB b.toNat))) :=
 byRun hm ⟨trivial,trivial,trivial,trivial⟩ (List.all_eq_true.1 (row_gt gt) b.toNat (List.mem_range.2 (u8_lt b)))
theorem charB_wp {c:Int}:wpF gt C F100 [.int .i64 c] St.init (Ret (.bool (charB c))):=by
 refine⟨rfl,?_⟩;refine goW ?_;by_cases h0:c ≥ 0
 ·rw[dT h0];refine goW ?_;by_cases h1:c<=1114111
  ·rw[dT h1];refine goW ?_;by_cases h2:c<55296
   ·rw[dT h2];refine goW ?_;exact⟨_,rfl,by rw[show charB c=true by simp[charB];omega];exact Ret.sta trivial⟩
   ·rw[dF h2];refine goW ?_;exact⟨_,rfl,by rw[show charB c=decide (c > 57343) by simp only[charB];congr 1;simp;omega];exact Ret.sta trivial⟩
  ·rw[dF h1];refine goW ?_;exact⟨_,rfl,by rw[show charB c=false by simp[charB];omega];exact Ret.sta trivial⟩
 ·rw[dF h0];refine goW ?_;exact⟨_,rfl,by rw[show charB c=false by simp[charB];omega];exact Ret.sta trivial⟩
end

def hd (c:UInt8):List UInt8->Bool
 | []=>false
 | b::_=>b == c
def dig (b:UInt8):Bool:=decide (48<=b.toNat) && decide (b.toNat<=57)
def runB:List UInt8->Nat
 | []=>0
 | b::r=>if dig b then runB r+1 else 0
theorem runB_le:∀s,runB s<=s.length
 | []=>nR _
 | b::r=>by have:=runB_le r;simp only[runB,lC];split<;>omega
theorem beqB_one (b c:UInt8):beqB [b] [c]=(b == c):=by
 rw[beqB_eq,Bool.eq_iff_iff];simp
section
variable {gt:GT}{C:CallT}
theorem hasPre0_wp {s:List UInt8}{c:UInt8}:wpF gt C F151 [.str s,.str [c]] St.init (Ret (.bool (hd c s))):=by
 refine⟨rfl,?_⟩;cases s with
 | nil =>
  refine goW ?_;exact⟨_,rfl,Ret.sta trivial⟩
 | cons b r =>
  refine goW ?_;rw[dT (show (((b::r).length:Nat):Int) ≥ (([c]:List UInt8).length:Nat) by simp only[lC,lN];omega)];refine goW ?_;refine⟨_,rfl,?_⟩;rw[show (List.take (([c]:List UInt8).length-0) (List.drop 0 (b::r)))=[b] from rfl,beqB_one];exact Ret.sta trivial
theorem hasPre_wp (hm:MonoC C)(h:∀s c,PF C 151 [.str s,.str [c]] (.bool (hd c s))){s:List UInt8}{c:UInt8}:wpF gt C F132 [.str s,.str [c]] St.init (Ret (.bool (hd c s))):=by
 refine⟨rfl,?_⟩;refine goW ?_;refine call_pf hm (by rfl) (h s c) (goW ?_);exact⟨_,rfl,Ret.sta trivial⟩
theorem trimPre0_wp (hm:MonoC C)(h:∀s c,PF C 151 [.str s,.str [c]] (.bool (hd c s))){s:List UInt8}{c:UInt8}:wpF gt C F152 [.str s,.str [c]] St.init (Ret (.str (if hd c s then s.drop 1 else s))):=by
 refine⟨rfl,?_⟩;refine goW ?_;refine call_pf hm (by rfl) (h s c) (goW ?_);cases hh:hd c s with
 | false =>
  refine goW ?_;exact⟨_,rfl,Ret.sta trivial⟩
 | true =>
  refine goW ?_;have hl:1<=s.length:=by
   cases s with
   | nil=>cases hh
   | cons b r=>simp
  refine step_ruleO (sx_slLo (l:=1) rfl rfl hl) (goW ?_);exact⟨_,rfl,Ret.sta trivial⟩
theorem trimPre_wp (hm:MonoC C)(h:∀s c,PF C 152 [.str s,.str [c]] (.str (if hd c s then s.drop 1 else s))){s:List UInt8}{c:UInt8}:wpF gt C F133 [.str s,.str [c]] St.init (Ret (.str (if hd c s then s.drop 1 else s))):=by
 refine⟨rfl,?_⟩;refine goW ?_;refine call_pf hm (by rfl) (h s c) (goW ?_);exact⟨_,rfl,Ret.sta trivial⟩
theorem digit_wp {b:UInt8}:wpF gt C F135 [.int .u8 b.toNat] St.init (Ret (.bool (dig b))):=by
 refine⟨rfl,?_⟩;refine goW ?_;by_cases h:(b.toNat:Int) ≥ 48
 ·rw[dT h];refine goW ?_;refine⟨_,rfl,?_⟩;rw[show dig b=decide ((b.toNat:Int)<=57) by unfold dig;rw[dT (by omega),Bool.true_and];congr 1;simp;omega];exact Ret.sta trivial
 ·rw[dF h];refine goW ?_;refine⟨_,rfl,?_⟩;rw[show dig b=false by unfold dig;rw[dF (by omega),Bool.false_and]];exact Ret.sta trivial
abbrev E_run (s:List UInt8)(i:Int):Env:=[(0,.val (.str s)),(3,.val (.int .i64 i))]
set_option maxHeartbeats 2000000 in
theorem run_wp (hm:MonoC C)(hd:∀b:UInt8,PF C 135 [.int .u8 b.toNat] (.bool (dig b))){s:List UInt8}(hl:s.length<9223372036854775807):wpF gt C F113 [.str s] St.init (Ret (.int .i64 (runB s))):=by
 refine⟨rfl,?_⟩;refine goW ?_;refine loop_rule hm (α:=Nat) (λi env S'=>i<=s.length/\env=E_run s i/\S'=St.init/\runB s=i+runB (s.drop i)) (λi=>s.length-i) ?_ (a:=0) ⟨Nat.zero_le _,rfl,rfl,by simp⟩;rintro i env S' ⟨hi,rfl,rfl,hp⟩;refine goW ?_;by_cases hc:(i:Int)<(s.length:Nat)
 ·rw[dT hc];refine goW ?_;have hik:i<s.length:=by omega
  refine st_any (by exact rfl) (sx_ixS (k:=i) rfl rfl (gE hik)) (goW ?_);refine call_pf hm (by rfl) (hd s[i]) (goW ?_);rw[dC hik]at hp;simp only[runB]at hp;cases hdg:dig s[i] with
  | false =>
   refine goW ?_;refine⟨_,rfl,?_⟩;rw[hdg]at hp;rw[hp];exact Ret.sta trivial
  | true =>
   refine goW ?_;rw[hdg,if_pos rfl]at hp;refine⟨i+1,⟨by omega,?_,rfl,by rw[hp];omega⟩,by omega⟩;rw[wrNat (by omega)]
 ·rw[dF hc];refine goW ?_;refine⟨_,rfl,?_⟩;rw[hp,List.drop_eq_nil_of_le (by omega)];exact Ret.sta trivial
end

abbrev Cut4:=Bool×List UInt8×List UInt8×List UInt8
def expD (ex:List UInt8):List UInt8:=if hd 45 ex then ex.drop 1 else if hd 43 ex then ex.drop 1 else ex
def cutE (neg:Bool)(w p s:List UInt8):Option Cut4 :=
 if s=[] then some (neg,w,p,[])
 else if hd 101 s=false/\hd 69 s=false then none
 else if expD (s.drop 1)=[]\/runB (expD (s.drop 1))<(expD (s.drop 1)).length then none else some (neg,w,p,s.drop 1)
def cutP (neg:Bool)(s:List UInt8):Option Cut4 :=
 if runB s=0\/(1<runB s/\hd 48 s=true) then none
 else if hd 46 (s.drop (runB s)) then
  (if runB ((s.drop (runB s)).drop 1)=0 then none
   else cutE neg (s.take (runB s)) (((s.drop (runB s)).drop 1).take (runB ((s.drop (runB s)).drop 1))) ((s.drop (runB s)).drop (1+runB ((s.drop (runB s)).drop 1))))
 else cutE neg (s.take (runB s)) [] (s.drop (runB s))
def cutB (s:List UInt8):Option Cut4:=if hd 45 s then cutP true (s.drop 1) else cutP false s
def encCut:Option Cut4->AV
 | none=>.tup [.bool false,.str [],.str [],.str [],.bool false]
 | some (n,w,p,e)=>.tup [.bool n,.str w,.str p,.str e,.bool true]
theorem sta_cut (o:Option Cut4):Sta (encCut o):=by
 cases o with
 | none=>exact⟨trivial,trivial,trivial,trivial,trivial,trivial⟩
 | some p=>exact⟨trivial,trivial,trivial,trivial,trivial,trivial⟩
theorem hd_head {c:UInt8}{s:List UInt8}{b:UInt8}(h:s[0]? = some b):hd c s=(b == c):=by
 cases s with
 | nil=>cases h
 | cons x r=>simp only[List.getElem?_cons_zero,oI]at h;rw[<-h];rfl
theorem u8_eqI (b c:UInt8):((b.toNat:Int) == (c.toNat:Int))=(b == c):=by
 rw[Bool.eq_iff_iff];simp only[beq_iff_eq];constructor
 ·intro h;exact UInt8.toNat_inj.1 (by omega)
 ·intro h;rw[h]
theorem u8_neI (b c:UInt8):((b.toNat:Int) != (c.toNat:Int)) = !(b == c):=by
 rw[<-u8_eqI];rfl
theorem get0 {s:List UInt8}(h:s≠[]):∃b,s[0]? = some b:=by
 cases s with
 | nil=>exact absurd rfl h
 | cons b r=>exact⟨b,rfl⟩
theorem hd_len {c:UInt8}{s:List UInt8}(h:hd c s=true):1<=s.length:=by
 cases s with
 | nil=>cases h
 | cons b r=>simp
theorem drop1_ne {s:List UInt8}(h:s≠[]):¬s.drop 1=s:=λe=>by
 have:=congrArg List.length e;cases s with
 | nil=>exact h rfl
 | cons b r=>simp at this
def DC.rt:DC->DC |.seq _ b=>b | c=>c
section
variable {gt:GT}{C:CallT}
abbrev E_cut (neg:Bool)(w p s:List UInt8)(x:Env):Env:=(2,.val (.bool neg))::(3,.val (.str w))::(4,.val (.str p))::(7,.val (.str s))::x
set_option maxHeartbeats 4000000 in
theorem cutExp_wp (hm:MonoC C)(htp:∀s c,PF C 133 [.str s,.str [c]] (.str (if hd c s then s.drop 1 else s)))
  (hrun:∀s:List UInt8,s.length<9223372036854775807->PF C 113 [.str s] (.int .i64 (runB s))) {res:Option Cut4} {neg:Bool} {w p s:List UInt8} {x:Env} (hl:s.length<9223372036854775807) (h1:1<=s.length)
  (hf:res=if expD (s.drop 1)=[]\/runB (expD (s.drop 1))<(expD (s.drop 1)).length then none else some (neg,w,p,s.drop 1)) :
  wpD gt C F109.body.rt.rt.rt.rt.rt.rt.rt.rt.rt (E_cut neg w p s x) St.init (bodyQ gt F109.res (Ret (encCut res))):=by
 have ret:∀{o:Option Cut4} {S:St},res=o->Ret (encCut res) (.ret (encCut o)) S:=λh=>by rw[h];exact Ret.sta (sta_cut _)
 conv=>whnf
 refine goW ?_;refine step_ruleO (sx_slLo (l:=1) rfl rfl h1) (goW ?_);have hexl:(s.drop 1).length<=s.length:=by rw[lD];omega
 generalize s.drop 1=ex at hf hexl ⊢;refine call_pf hm (by rfl) (htp ex 45) (goW ?_);cases hm1:hd 45 ex with
 | true =>
  rw[if_pos rfl,beqB_false (drop1_ne (by intro e;rw[e]at hm1;cases hm1))];have hx:expD ex=ex.drop 1:=by unfold expD;rw[hm1];rfl
  have hdl:(ex.drop 1).length<=ex.length:=by rw[lD];omega
  rw[hx]at hf;generalize ex.drop 1=d at hf hdl ⊢;refine goW ?_;by_cases z4:d=[]
  ·rw[beqB_true z4];refine goW ?_;exact⟨_,rfl,ret (o:=none) (by rw[hf,if_pos (.inl z4)])⟩
  rw[beqB_false z4];refine goW ?_;refine call_pf hm (by rfl) (hrun d (by omega)) (goW ?_);by_cases z5:(runB d:Int)<(d.length:Nat)
  ·rw[dT z5];refine goW ?_;exact⟨_,rfl,ret (o:=none) (by rw[hf,if_pos (.inr (by omega))])⟩
  rw[dF z5];refine goW ?_;exact⟨_,rfl,ret (o:=some (neg,w,p,ex)) (by rw[hf,if_neg (by rintro (e | e);exact z4 e;omega)])⟩
 | false =>
  rw[if_neg (by simp),beqB_true rfl];refine goW ?_;refine call_pf hm (by rfl) (htp ex 43) (goW ?_);have hx:expD ex=if hd 43 ex then ex.drop 1 else ex:=by unfold expD;rw[hm1];rfl
  have hdl:(if hd 43 ex then ex.drop 1 else ex).length<=ex.length:=by split<;>first | (rw[lD];omega) | omega
  rw[hx]at hf;generalize (if hd 43 ex then ex.drop 1 else ex)=d at hf hdl ⊢;refine goW ?_;by_cases z4:d=[]
  ·rw[beqB_true z4];refine goW ?_;exact⟨_,rfl,ret (o:=none) (by rw[hf,if_pos (.inl z4)])⟩
  rw[beqB_false z4];refine goW ?_;refine call_pf hm (by rfl) (hrun d (by omega)) (goW ?_);by_cases z5:(runB d:Int)<(d.length:Nat)
  ·rw[dT z5];refine goW ?_;exact⟨_,rfl,ret (o:=none) (by rw[hf,if_pos (.inr (by omega))])⟩
  rw[dF z5];refine goW ?_;exact⟨_,rfl,ret (o:=some (neg,w,p,ex)) (by rw[hf,if_neg (by rintro (e | e);exact z4 e;omega)])⟩
set_option maxHeartbeats 4000000 in
theorem cutTail_wp (hm:MonoC C)(htp:∀s c,PF C 133 [.str s,.str [c]] (.str (if hd c s then s.drop 1 else s)))
  (hrun:∀s:List UInt8,s.length<9223372036854775807->PF C 113 [.str s] (.int .i64 (runB s))) {res:Option Cut4} {neg:Bool} {w p s:List UInt8} {x:Env} (hl:s.length<9223372036854775807)
  (hf:res=cutE neg w p s) :
  wpD gt C F109.body.rt.rt.rt.rt.rt.rt.rt (E_cut neg w p s x) St.init (bodyQ gt F109.res (Ret (encCut res))):=by
 have ret:∀{o:Option Cut4} {S:St},res=o->Ret (encCut res) (.ret (encCut o)) S:=λh=>by rw[h];exact Ret.sta (sta_cut _)
 conv=>whnf
 refine goW ?_;unfold cutE at hf;by_cases z1:s=[]
 ·rw[beqB_true z1];refine goW ?_;exact⟨_,rfl,ret (o:=some (neg,w,p,[])) (by rw[hf,if_pos z1])⟩
 obtain⟨b0,hb0⟩:=get0 z1;rw[beqB_false z1];rw[if_neg z1]at hf;refine goW ?_;refine step_ruleO (sx_ixS (k:=0) rfl rfl hb0) (goW ?_);rw[show ((101:Int))=((101:UInt8).toNat:Int) from rfl,u8_neI,<-hd_head (c:=101) hb0];cases hxe:hd 101 s with
 | true =>
  refine goW ?_
  with_unfolding_all exact cutExp_wp hm htp hrun hl (hd_len hxe) (hf.trans (if_neg (by rw[hxe];simp)))
 | false =>
  refine goW ?_;refine st_any (by exact rfl) (sx_ixS (k:=0) rfl rfl hb0) (goW ?_);rw[show ((69:Int))=((69:UInt8).toNat:Int) from rfl,u8_neI,<-hd_head (c:=69) hb0];cases hxe2:hd 69 s with
  | false =>
   refine goW ?_;exact⟨_,rfl,ret (o:=none) (by rw[hf,if_pos ⟨hxe,hxe2⟩])⟩
  | true =>
   refine goW ?_
   with_unfolding_all exact cutExp_wp hm htp hrun hl (hd_len hxe2) (hf.trans (if_neg (by rw[hxe2];simp)))
abbrev E_cut0 (neg:Bool)(s:List UInt8)(x:Env):Env:=(2,.val (.bool neg))::(4,.val (.str []))::(7,.val (.str s))::x
set_option maxHeartbeats 4000000 in
theorem cutPoint_wp (hm:MonoC C)(hpre:∀s c,PF C 132 [.str s,.str [c]] (.bool (hd c s)))(htp:∀s c,PF C 133 [.str s,.str [c]] (.str (if hd c s then s.drop 1 else s)))
  (hrun:∀s:List UInt8,s.length<9223372036854775807->PF C 113 [.str s] (.int .i64 (runB s))) {res:Option Cut4} {neg:Bool} {s:List UInt8} {x:Env} (hl:s.length<9223372036854775807) (y1:runB s≠0)
  (hf:res=if hd 46 (s.drop (runB s)) then
  (if runB ((s.drop (runB s)).drop 1)=0 then none
   else cutE neg (s.take (runB s)) (((s.drop (runB s)).drop 1).take (runB ((s.drop (runB s)).drop 1))) ((s.drop (runB s)).drop (1+runB ((s.drop (runB s)).drop 1))))
 else cutE neg (s.take (runB s)) [] (s.drop (runB s))) :
  wpD gt C F109.body.rt.rt.rt.rt.rt ((2,.val (.bool neg))::(4,.val (.str []))::(7,.val (.str s))::(8,.val (.int .i64 (runB s)))::x) St.init (bodyQ gt F109.res (Ret (encCut res))):=by
 have ret:∀{o:Option Cut4} {S:St},res=o->Ret (encCut res) (.ret (encCut o)) S:=λh=>by rw[h];exact Ret.sta (sta_cut _)
 have hrl:=runB_le s;generalize runB s=n at hf hrl y1 ⊢
 conv=>whnf
 refine goW ?_;refine step_ruleDO rfl rfl (sx_slHiS (h:=n) rfl rfl hrl) (goW ?_);refine step_ruleDO rfl rfl (sx_slLo (l:=n) rfl rfl hrl) (goW ?_);have hsl:(s.drop n).length<=s.length:=by rw[lD];omega
 generalize s.drop n=s2 at hf hsl ⊢;generalize s.take n=w at hf ⊢;refine call_pf hm (by rfl) (hpre s2 46) (goW ?_);cases hp:hd 46 s2 with
 | false =>
  rw[hp,if_neg (by simp)]at hf;refine goW ?_
  with_unfolding_all exact cutTail_wp (x:=[(36,.val (.bool false))]) hm htp hrun (by omega) hf
 | true =>
  rw[hp,if_pos rfl]at hf;have h1:=hd_len hp;refine goW ?_;refine step_ruleO (sx_slLo (l:=1) rfl rfl h1) (goW ?_);have hrl3:=runB_le (s2.drop 1);rw[lD]at hrl3;refine call_pf hm (by rfl) (hrun (s2.drop 1) (by rw[lD];omega)) (goW ?_);generalize hm3:runB (s2.drop 1)=m at hf hrl3 ⊢;by_cases y4:m=0
  ·rw[eqI_true (by omega)];refine goW ?_;exact⟨_,rfl,ret (o:=none) (by rw[hf,if_pos y4])⟩
  rw[eqI_false (by omega)];rw[if_neg y4]at hf;refine goW ?_;rw[show wr .i64 (1+(m:Int))=((1+m:Nat):Int) by rw[wr64 (by omega) (by omega)];omega];refine step_ruleDO rfl rfl (sx_slLH (l:=1) (h:=1+m) rfl rfl rfl (by omega) (by omega)) (goW ?_);rw[show wr .i64 (1+(m:Int))=((1+m:Nat):Int) by rw[wr64 (by omega) (by omega)];omega];refine step_ruleDO rfl rfl (sx_slLo (l:=1+m) rfl rfl (by omega)) (goW ?_);rw[show 1+m-1=m by omega]
  with_unfolding_all exact cutTail_wp (x:=[]) hm htp hrun (by rw[lD];omega) hf
set_option maxHeartbeats 4000000 in
theorem cutSign_wp (hm:MonoC C)(hpre:∀s c,PF C 132 [.str s,.str [c]] (.bool (hd c s)))(htp:∀s c,PF C 133 [.str s,.str [c]] (.str (if hd c s then s.drop 1 else s)))
  (hrun:∀s:List UInt8,s.length<9223372036854775807->PF C 113 [.str s] (.int .i64 (runB s))) {res:Option Cut4} {neg:Bool} {s:List UInt8} {x:Env} (hl:s.length<9223372036854775807)
  (hf:res=cutP neg s) :
  wpD gt C F109.body.rt.rt.rt (E_cut0 neg s x) St.init (bodyQ gt F109.res (Ret (encCut res))):=by
 have ret:∀{o:Option Cut4} {S:St},res=o->Ret (encCut res) (.ret (encCut o)) S:=λh=>by rw[h];exact Ret.sta (sta_cut _)
 unfold cutP at hf;have hrun0:=hrun s hl
 conv=>whnf
 refine goW ?_;refine call_pf hm (by rfl) hrun0 (goW ?_);by_cases y1:runB s=0
 ·rw[eqI_true (by omega)];refine goW ?_;exact⟨_,rfl,ret (o:=none) (by rw[hf,if_pos (.inl y1)])⟩
 rw[eqI_false (by omega)];refine goW ?_;have hnil:s≠[]:=by intro e;rw[e]at y1;exact y1 rfl
 obtain⟨b1,hb1⟩:=get0 hnil;by_cases y2:(runB s:Int) > 1
 ·rw[dT y2];refine goW ?_;refine st_any (by exact rfl) (sx_ixS (k:=0) rfl rfl hb1) (goW ?_);rw[show ((48:Int))=((48:UInt8).toNat:Int) from rfl,u8_eqI,<-hd_head (c:=48) hb1];cases y3:hd 48 s with
  | true =>
   refine goW ?_;exact⟨_,rfl,ret (o:=none) (by rw[hf,if_pos (.inr ⟨by omega,y3⟩)])⟩
  | false =>
   rw[if_neg (by rintro (e | ⟨_,e⟩);exact y1 e;rw[y3]at e;cases e)]at hf;refine goK ?_
   with_unfolding_all exact cutPoint_wp hm hpre htp hrun hl y1 hf
 ·rw[dF y2];rw[if_neg (by rintro (e | ⟨e,_⟩);exact y1 e;omega)]at hf;refine goK ?_
  with_unfolding_all exact cutPoint_wp hm hpre htp hrun hl y1 hf
set_option maxHeartbeats 4000000 in
theorem cut_wp (hm:MonoC C)(hpre:∀s c,PF C 132 [.str s,.str [c]] (.bool (hd c s)))(htp:∀s c,PF C 133 [.str s,.str [c]] (.str (if hd c s then s.drop 1 else s)))
  (hrun:∀s:List UInt8,s.length<9223372036854775807->PF C 113 [.str s] (.int .i64 (runB s))) {s:List UInt8} (hl:s.length<9223372036854775807):wpF gt C F109 [.str s] St.init (Ret (encCut (cutB s))):=by
 have hf:cutB s=if hd 45 s then cutP true (s.drop 1) else cutP false s:=rfl
 generalize cutB s=res at hf ⊢;refine⟨rfl,?_⟩;refine goW ?_;refine call_pf hm (by rfl) (hpre s 45) (goW ?_);cases hh:hd 45 s with
 | true =>
  rw[hh,if_pos rfl]at hf;refine goW ?_;refine step_ruleO (sx_slLo (l:=1) rfl rfl (hd_len hh)) (goW ?_)
  with_unfolding_all exact cutSign_wp hm hpre htp hrun (by rw[lD];omega) hf
 | false =>
  rw[hh,if_neg (by simp)]at hf;refine goW ?_
  with_unfolding_all exact cutSign_wp hm hpre htp hrun hl hf
end

def trimL (cs s:List UInt8):List UInt8:=s.dropWhile (cs.contains ·)
def trimR (cs s:List UInt8):List UInt8:=(s.reverse.dropWhile (cs.contains ·)).reverse
def valB:Nat->List UInt8->Nat
 | a,[]=>a
 | a,b::r=>valB (a*10+(b.toNat-48)) r
theorem trimL_le (cs s:List UInt8):(trimL cs s).length<=s.length:=(List.dropWhile_sublist _).length_le
theorem trimR_le (cs s:List UInt8):(trimR cs s).length<=s.length:=by
 have:=(List.dropWhile_sublist (l:=s.reverse) (cs.contains ·)).length_le;simp only[trimR,List.length_reverse]at this ⊢;exact this
theorem pow1 (n:Nat):10 ^ (n+1)=10*10 ^ n:=by rw[Nat.pow_succ,Nat.mul_comm]
theorem valB_lt (l:List UInt8):∀(a:Nat),l.all dig=true->valB a l<(a+1)*10 ^ l.length:=by
 induction l with
 | nil=>intro a _;rw[lN,Nat.pow_zero,Nat.mul_one];exact Nat.lt_succ_self a
 | cons b r ih =>
  intro a h;rw[List.all_cons,bA]at h;have hb:b.toNat-48<=9:=by
   have:=h.1;simp only[dig,bA,decide_eq_true_eq]at this;omega
  have h2:=ih (a*10+(b.toNat-48)) h.2;rw[lC,pow1,<-Nat.mul_assoc];refine Nat.lt_of_lt_of_le h2 ?_;exact Nat.mul_le_mul_right _ (by omega)
def expT (e:List UInt8):List UInt8:=trimL [48] (trimL [43,45] e)
def expB (e:List UInt8):Option Int :=
 if 6<(expT e).length then none else some (if hd 45 e then -(valB 0 (expT e):Int) else valB 0 (expT e))
def encExp:Option Int->AV
 | none=>.tup [.int .i64 0,.bool false]
 | some n=>.tup [.int .i64 n,.bool true]
theorem sta_exp (o:Option Int):Sta (encExp o):=by cases o<;>exact⟨trivial,trivial,trivial⟩
abbrev Parts3:=Bool×List UInt8×Int
def encP (p:Parts3):AV:=.agg [.bool p.1,.str p.2.1,.int .i64 p.2.2]
def zeroP:Parts3:=(false,[],0)
def splitB (s:List UInt8):Parts3×Int :=
 match cutB s with
 | none=>(zeroP,12)
 | some (neg,w,p,e) =>
  if 1000<s.length then (zeroP,2)
  else match expB e with
  | none=>(zeroP,5)
  | some x =>
   if trimR [48] (trimL [48] (w++p))=[] then (zeroP,0)
   else ((neg,trimR [48] (trimL [48] (w++p)),x-p.length+((trimL [48] (w++p)).length-(trimR [48] (trimL [48] (w++p))).length)),0)
def encSplit (p:Parts3×Int):AV:=.tup [encP p.1,.int .i64 p.2]
theorem sta_split (p:Parts3×Int):Sta (encSplit p):=⟨⟨trivial,trivial,trivial,trivial⟩,trivial,trivial⟩
theorem expB_lt {e:List UInt8}{x:Int}(hd':(expT e).all dig=true)(h:expB e=some x):-999999<=x/\x<=999999:=by
 unfold expB at h;split at h
 ·cases h
 ·rename_i hl;have:=valB_lt (expT e) 0 hd';have h6:10 ^ (expT e).length<=10 ^ 6:=Nat.pow_le_pow_right (by decide) (by omega);have h10:(10:Nat) ^ 6=1000000:=by decide
  simp only[oI]at h;split at h<;>omega
theorem runB_all:∀{s:List UInt8},¬runB s<s.length->s.all dig=true
 | [],_=>rfl
 | b::r,h=>by
  simp only[runB]at h;have:=runB_le r;split at h
  ·rename_i hb;simp only[lC]at h;simp only[List.all_cons,hb,Bool.true_and];exact runB_all (by omega)
  ·simp only[lC]at h;omega
theorem all_dropWhile {p q:UInt8->Bool}:∀{s:List UInt8},s.all q=true->(s.dropWhile p).all q=true
 | [],_=>rfl
 | b::r,h=>by
  simp only[List.all_cons,bA]at h;simp only[List.dropWhile_cons];split
  ·exact all_dropWhile h.2
  ·simp only[List.all_cons,h.1,h.2,Bool.and_self]
theorem dig_noSign {b:UInt8}(h:dig b=true):([43,45]:List UInt8).contains b=false:=by
 simp only[dig,bA,decide_eq_true_eq]at h;cases hh:([43,45]:List UInt8).contains b with
 | false=>rfl
 | true =>
  simp only[List.contains_eq_mem,List.mem_cons,List.not_mem_nil,or_false,decide_eq_true_eq]at hh;rcases hh with rfl | rfl
  ·have:(43:UInt8).toNat=43:=rfl;omega
  ·have:(45:UInt8).toNat=45:=rfl;omega
theorem expT_dig {e:List UInt8}(h:(expD e).all dig=true):(expT e).all dig=true:=by
 unfold expT trimL;apply all_dropWhile
 unfold expD at h;cases e with
 | nil=>rfl
 | cons b r =>
  by_cases h1:hd 45 (b::r)=true
  ·rw[if_pos h1]at h;have:b=45:=by simpa[hd] using h1
   subst this;exact all_dropWhile (p:=λx=>([43,45]:List UInt8).contains x) (s:=r) h
  ·rw[if_neg h1]at h;by_cases h2:hd 43 (b::r)=true
   ·rw[if_pos h2]at h;have:b=43:=by simpa[hd] using h2
    subst this;exact all_dropWhile (p:=λx=>([43,45]:List UInt8).contains x) (s:=r) h
   ·rw[if_neg h2]at h;exact all_dropWhile h
theorem cutE_ok {neg n:Bool}{w p s w' p' e:List UInt8}(h:cutE neg w p s=some (n,w',p',e)):w'=w/\p'=p/\(expT e).all dig=true:=by
 unfold cutE at h;split at h
 ·simp only[oI,Prod.mk.injEq]at h;obtain⟨_,rfl,rfl,rfl⟩:=h;exact⟨rfl,rfl,rfl⟩
 ·split at h
  ·cases h
  ·split at h
   ·cases h
   ·rename_i hh;simp only[oI,Prod.mk.injEq]at h;obtain⟨_,rfl,rfl,rfl⟩:=h;exact⟨rfl,rfl,expT_dig (runB_all λh=>hh (.inr h))⟩
theorem cutP_ok {neg n:Bool}{s w p e:List UInt8}(h:cutP neg s=some (n,w,p,e)):w.length+p.length<=s.length/\(expT e).all dig=true:=by
 unfold cutP at h;have h0:=runB_le s;split at h
 ·cases h
 ·split at h
  ·split at h
   ·cases h
   ·obtain⟨rfl,rfl,h3⟩:=cutE_ok h;refine⟨?_,h3⟩;have:=runB_le ((s.drop (runB s)).drop 1);simp only[lT,lD]at this ⊢;omega
  ·obtain⟨rfl,rfl,h3⟩:=cutE_ok h;exact⟨by simp only[lT,lN];omega,h3⟩
theorem cutB_ok {n:Bool}{s w p e:List UInt8}(h:cutB s=some (n,w,p,e)):w.length+p.length<=s.length/\(expT e).all dig=true:=by
 unfold cutB at h;split at h
 ·have:=cutP_ok h;rw[lD]at this;exact⟨by omega,this.2⟩
 ·exact cutP_ok h
theorem st_addS {gt:GT}{d:Option Nat}{x y:DOpd}{env:Env}{S:St}{a b:List UInt8}(hx:opd env x=some (.str a))(hy:opd env y=some (.str b))(hl:a.length+b.length<=9223372036854775807) :
  stepO gt d env S (.bin .add none x y)=.done (putV d (.str (a++b)) env) S:=by
 simp only[stepO,hx,hy,binV,binS,ble_true hl,cond_true]
 try rfl
section
variable {gt:GT}{C:CallT}
set_option maxHeartbeats 4000000 in
theorem exponent_wp (hm:MonoC C)(hpre:∀s c,PF C 132 [.str s,.str [c]] (.bool (hd c s)))(hs:∀s,PF C 111 [.str s,.str [43,45]] (.str (trimL [43,45] s)))(h0:∀s,PF C 111 [.str s,.str [48]] (.str (trimL [48] s)))
  (hat:∀s:List UInt8,s.all dig=true->1<=s.length->s.length<=18->PF C 134 [.str s] (.tup [.int .i64 (valB 0 s),.nilif])) {e:List UInt8} (he:(expT e).all dig=true) :
  wpF gt C F110 [.str e] St.init (Ret (encExp (expB e))):=by
 have hat:=λh=>hat (48::expT e) (by simp only[List.all_cons,he,Bool.and_true];decide) (by simp) h;have hv:valB 0 (48::expT e)=valB 0 (expT e):=rfl;rw[hv]at hat;have hlt:=λx=>expB_lt (x:=x) he;refine⟨rfl,?_⟩;refine goW ?_;refine call_pf hm (by rfl) (hpre e 45) (goW ?_);refine call_pf hm (by rfl) (hs e) (goW ?_);refine call_pf hm (by rfl) (h0 _) (goW ?_);rw[show trimL [48] (trimL [43,45] e)=expT e from rfl];unfold expB;unfold expB at hlt;generalize expT e=t at hat hlt ⊢;by_cases h6:(t.length:Int) > 6
 ·rw[dT h6];refine goW ?_;refine⟨_,rfl,?_⟩;rw[if_pos (by omega)];exact Ret.sta (sta_exp none)
 rw[dF h6];rw[if_neg (by omega)]at hlt ⊢;refine goW ?_;refine step_ruleO (st_addS rfl rfl (by simp only[lC,lN];omega)) (goW ?_);refine call_pf hm (by rfl) (hat (by simp only[lC];omega)) (goW ?_);cases hn:hd 45 e with
 | true =>
  have:=hlt _ rfl;rw[hn,if_pos rfl]at this;refine goW ?_;rw[wr64 (by omega) (by omega)];refine⟨_,rfl,?_⟩;rw[if_pos rfl,Int.zero_sub];exact Ret.sta (sta_exp (some _))
 | false =>
  refine goW ?_;refine⟨_,rfl,?_⟩;rw[if_neg (by simp)];exact Ret.sta (sta_exp (some _))
set_option maxHeartbeats 4000000 in
theorem split_wp (hm:MonoC C)(hcut:∀s:List UInt8,s.length<9223372036854775807->PF C 109 [.str s] (encCut (cutB s)))(hexp:∀e:List UInt8,(expT e).all dig=true->PF C 110 [.str e] (encExp (expB e)))
  (h0:∀s,PF C 111 [.str s,.str [48]] (.str (trimL [48] s))) (h1:∀s:List UInt8,s.length<9223372036854775807->PF C 112 [.str s,.str [48]] (.str (trimR [48] s)))
  {s:List UInt8} (hl:s.length<9223372036854775807):wpF gt C F87 [.str s] St.init (Ret (encSplit (splitB s))):=by
 have hcut:=hcut s hl;have hok:=λn w p e=>cutB_ok (n:=n) (s:=s) (w:=w) (p:=p) (e:=e);have ret:∀{o:Parts3×Int} {S:St},splitB s=o->Ret (encSplit (splitB s)) (.ret (encSplit o)) S:=λh=>by rw[h];exact Ret.sta (sta_split _)
 have hf:splitB s=match cutB s with
  | none=>(zeroP,12)
  | some (neg,w,p,e) =>
   if 1000<s.length then (zeroP,2)
   else match expB e with
   | none=>(zeroP,5)
   | some x =>
    if trimR [48] (trimL [48] (w++p))=[] then (zeroP,0)
    else ((neg,trimR [48] (trimL [48] (w++p)),x-p.length+((trimL [48] (w++p)).length-(trimR [48] (trimL [48] (w++p))).length)),0):=rfl
 generalize splitB s=res at ret hf ⊢;generalize cutB s=cu at hcut hok hf;refine⟨rfl,?_⟩;refine goW ?_;refine call_pf hm (by rfl) hcut ?_;cases cu with
 | none =>
  refine goW ?_;exact⟨_,rfl,ret (o:=(zeroP,12)) hf⟩
 | some q =>
  obtain⟨neg,w,p,e⟩:=q;obtain⟨hwp,he⟩:=hok neg w p e rfl;simp only at hf;have hexp:=hexp e he;have hb:=λx=>expB_lt (x:=x) he;refine goW ?_;by_cases z1:(s.length:Int) > 1000
  ·rw[dT z1];refine goW ?_;exact⟨_,rfl,ret (o:=(zeroP,2)) (by rw[hf,if_pos (by omega)])⟩
  rw[dF z1];rw[if_neg (by omega)]at hf;refine goW ?_;generalize expB e=ex at hexp hb hf;refine call_pf hm (by rfl) hexp ?_;cases ex with
  | none =>
   refine goW ?_;exact⟨_,rfl,ret (o:=(zeroP,5)) hf⟩
  | some x =>
   simp only at hf;have hb:=hb x rfl;refine goW ?_;refine step_ruleO (st_addS rfl rfl (by omega)) (goW ?_);have t1:=trimL_le [48] (w++p);rw[lA]at t1;have t2:=trimR_le [48] (trimL [48] (w++p));refine call_pf hm (by rfl) (h0 (w++p)) (goW ?_);generalize trimL [48] (w++p)=ds at t1 t2 hf ⊢;refine call_pf hm (by rfl) (h1 ds (by omega)) (goW ?_);generalize trimR [48] ds=sh at t2 hf ⊢;by_cases z2:sh=[]
   ·rw[beqB_true z2];refine goW ?_;exact⟨_,rfl,ret (o:=(zeroP,0)) (by rw[hf,if_pos z2])⟩
   rw[beqB_false z2];refine goW ?_;rw[wr64 (n:=x-(p.length:Int)) (by omega) (by omega),wr64 (n:=(ds.length:Int)-(sh.length:Int)) (by omega) (by omega),wr64 (by omega) (by omega)];exact⟨_,rfl,ret (o:=((neg,sh,_),0)) (by rw[hf,if_neg z2])⟩
end

def decB (n:Nat):List UInt8:=if h:n<10 then [UInt8.ofNat (48+n)] else decB (n / 10)++[UInt8.ofNat (48+n % 10)]
termination_by n
def itoaB (e:Int):List UInt8:=if e<0 then 45::decB e.natAbs else decB e.toNat
theorem decB_len (n:Nat):(decB n).length<=n+1:=by
 induction n using Nat.strongRecOn with
 | _ n ih =>
  unfold decB;split
  ·simp
  ·have:=ih (n / 10) (by omega);simp only[lA,lC,lN];omega
theorem itoaB_len {e:Int}(h:-999999<=e)(h2:e<=999999):(itoaB e).length<=1000001:=by
 unfold itoaB;split
 ·have:=decB_len e.natAbs;simp only[lC];omega
 ·have:=decB_len e.toNat;omega
def tl (c:UInt8)(s:List UInt8):Bool:=hd c s.reverse
theorem tl_last {c:UInt8}{s:List UInt8}{b:UInt8}(h:s[s.length-1]? = some b)(h0:0<s.length):tl c s=(b == c):=by
 unfold tl;refine hd_head ?_;rw[List.getElem?_reverse h0];exact h
def joinB (p:Parts3):List UInt8×Int :=
 if runB p.2.1<p.2.1.length\/(hd 48 p.2.1=true\/tl 48 p.2.1=true)\/(p.2.1=[]/\(p.2.2≠0\/p.1=true)) then ([],1)
 else if p.2.2 < -999999\/999999<p.2.2 then ([],5)
 else if p.2.1=[] then ([48],0)
 else if 1000<((if p.1=true then [45]++p.2.1 else p.2.1)++(if p.2.2=0 then [] else [101]++itoaB p.2.2)).length then ([],2)
 else ((if p.1=true then [45]++p.2.1 else p.2.1)++(if p.2.2=0 then [] else [101]++itoaB p.2.2),0)
def encJoin (p:List UInt8×Int):AV:=.tup [.str p.1,.int .i64 p.2]
theorem sta_join (p:List UInt8×Int):Sta (encJoin p):=⟨trivial,trivial,trivial⟩
def normB (s:List UInt8):List UInt8×Int:=if (splitB s).2=0 then joinB (splitB s).1 else ([],(splitB s).2)
theorem splitB_len {s:List UInt8}(h:(splitB s).2=0):(splitB s).1.2.1.length<=1000:=by
 unfold splitB at h ⊢;cases hc:cutB s with
 | none=>rw[hc]at h;cases h
 | some q =>
  obtain⟨neg,w,p,e⟩:=q;rw[hc]at h;simp only at h ⊢;obtain⟨h1,_⟩:=cutB_ok hc;split
  ·exact Nat.zero_le _
  ·cases expB e with
   | none=>exact Nat.zero_le _
   | some x =>
    simp only;split
    ·exact Nat.zero_le _
    ·have t1:=trimL_le [48] (w++p);have t2:=trimR_le [48] (trimL [48] (w++p));rw[lA]at t1;show (trimR [48] (trimL [48] (w++p))).length<=1000;omega
section
variable {gt:GT}{C:CallT}
set_option maxHeartbeats 8000000 in
theorem join_wp (hm:MonoC C)(hrun:∀s:List UInt8,s.length<9223372036854775807->PF C 113 [.str s] (.int .i64 (runB s)))
  (hit:∀e:Int,-999999<=e->e<=999999->PF C 114 [.int .i64 e] (.str (itoaB e))) {p:Parts3} (hl:p.2.1.length<=1000):wpF gt C F88 [encP p] St.init (Ret (encJoin (joinB p))):=by
 obtain⟨neg,d,e⟩:=p;simp only at hl;have ret:∀{o:List UInt8×Int} {S:St},joinB (neg,d,e)=o->Ret (encJoin (joinB (neg,d,e))) (.ret (encJoin o)) S:=λh=>by rw[h];exact Ret.sta (sta_join _)
 have hf:joinB (neg,d,e)=if runB d<d.length\/(hd 48 d=true\/tl 48 d=true)\/(d=[]/\(e≠0\/neg=true)) then ([],1)
  else if e < -999999\/999999<e then ([],5)
  else if d=[] then ([48],0)
  else if 1000<((if neg=true then [45]++d else d)++(if e=0 then [] else [101]++itoaB e)).length then ([],2)
  else ((if neg=true then [45]++d else d)++(if e=0 then [] else [101]++itoaB e),0):=rfl
 generalize joinB (neg,d,e)=res at ret hf ⊢;refine⟨rfl,?_⟩;refine goW ?_;refine call_pf hm (by rfl) (hrun d (by omega)) (goW ?_);by_cases z1:(runB d:Int)<(d.length:Nat)
 ·rw[dT z1];refine goW ?_;exact⟨_,rfl,ret (o:=([],1)) (by rw[hf,if_pos (.inl (by omega))])⟩
 rw[dF z1];have z1':¬runB d<d.length:=by omega
 clear z1
 refine goW ?_;cases d with
 | nil =>
  have hn:¬((([]:List UInt8).length:Nat):Int) > 0:=by simp
  rw[dF hn];refine goW ?_;by_cases y1:e=0
  ·rw[neI_false y1];refine goW ?_;cases neg with
   | true =>
    refine goW ?_;exact⟨_,rfl,ret (o:=([],1)) (by rw[hf,if_pos (.inr (.inr ⟨rfl,.inr rfl⟩))])⟩
   | false =>
    refine goW ?_;rw[if_neg (by rintro (h | (h | h) | ⟨_,h | h⟩);exact z1' h;cases h;cases h;exact h y1;cases h)]at hf;subst y1;refine goW ?_;exact⟨_,rfl,ret (o:=([48],0)) (by rw[hf,if_neg (by omega),if_pos rfl])⟩
  ·rw[neI_true y1];refine goW ?_;exact⟨_,rfl,ret (o:=([],1)) (by rw[hf,if_pos (.inr (.inr ⟨rfl,.inl y1⟩))])⟩
 | cons b r =>
  have hlen:(b::r).length=r.length+1:=rfl;generalize hd0:b::r=d at ret hf hl z1' hlen ⊢;have hb0:d[0]? = some b:=by rw[<-hd0];rfl
  have hne:d≠[]:=by rw[<-hd0];simp
  obtain⟨lb,hlb⟩:∃lb,d[d.length-1]? = some lb:=⟨_,gE (by omega)⟩
  rw[dT (show ((d.length:Nat):Int) > 0 by omega)];refine goW ?_;refine st_any (by exact rfl) (sx_ixS (k:=0) rfl rfl hb0) (goW ?_);rw[show ((48:Int))=((48:UInt8).toNat:Int) from rfl,u8_eqI,<-hd_head (c:=48) hb0];cases y1:hd 48 d with
  | true =>
   refine goW ?_;exact⟨_,rfl,ret (o:=([],1)) (by rw[hf,if_pos (.inr (.inl (.inl y1)))])⟩
  | false =>
   refine goW ?_;rw[show wr .i64 ((d.length:Int)-1)=((d.length-1:Nat):Int) by rw[wr64 (by omega) (by omega)];omega];refine st_any (by exact rfl) (sx_ixS (k:=d.length-1) rfl rfl hlb) (goW ?_);rw[u8_eqI,<-tl_last (c:=48) hlb (by omega)];cases y2:tl 48 d with
   | true =>
    refine goW ?_;exact⟨_,rfl,ret (o:=([],1)) (by rw[hf,if_pos (.inr (.inl (.inr y2)))])⟩
   | false =>
    rw[if_neg (by rintro (h | (h | h) | ⟨h,_⟩);exact z1' h;rw[y1]at h;cases h;rw[y2]at h;cases h;exact hne h)]at hf;refine goW ?_;rw[eqI_false (show ¬((d.length:Nat):Int)=0 by omega)];refine goW ?_;by_cases x1:e < -999999
    ·rw[dT x1];refine goW ?_;exact⟨_,rfl,ret (o:=([],5)) (by rw[hf,if_pos (.inl x1)])⟩
    rw[dF x1];refine goW ?_;by_cases x2:e > 999999
    ·rw[dT x2];refine goW ?_;exact⟨_,rfl,ret (o:=([],5)) (by rw[hf,if_pos (.inr x2)])⟩
    rw[dF x2];rw[if_neg (by omega),if_neg hne]at hf;have hil:=itoaB_len (e:=e) (by omega) (by omega);refine goW ?_;rw[eqI_false (show ¬((d.length:Nat):Int)=0 by omega)];refine goW ?_;cases neg with
    | true =>
     rw[if_pos rfl]at hf;refine goW ?_;refine step_ruleO (st_addS rfl rfl (by simp only[lC,lN];omega)) (goW ?_);by_cases z5:e=0
     ·rw[neI_false z5];rw[if_pos z5]at hf;refine goW ?_;by_cases z6:(([45]++d).length:Int) > 1000
      ·rw[dT z6];refine goW ?_;exact⟨_,rfl,ret (o:=([],2)) (by rw[hf,if_pos (by (try simp only[lA,lC,lN]at z6);(try simp only[lA,lC,lN]);omega)])⟩
      rw[dF z6];refine goW ?_;exact⟨_,rfl,ret (o:=([45]++d,0)) (by rw[hf,if_neg (by (try simp only[lA,lC,lN]at z6);(try simp only[lA,lC,lN]);omega)];try simp only[List.append_nil,aA];try rfl)⟩
     rw[neI_true z5];rw[if_neg z5]at hf;refine goW ?_;refine call_pf hm (by rfl) (hit e (by omega) (by omega)) (goW ?_);refine step_ruleO (st_addS rfl rfl (by simp only[lC,lN];omega)) (goW ?_);refine step_ruleO (st_addS rfl rfl (by simp only[lA,lC,lN];omega)) (goW ?_);by_cases z6:(([45]++d++([101]++itoaB e)).length:Int) > 1000
     ·rw[dT z6];refine goW ?_;exact⟨_,rfl,ret (o:=([],2)) (by rw[hf,if_pos (by (try simp only[lA,lC,lN]at z6);(try simp only[lA,lC,lN]);omega)])⟩
     rw[dF z6];refine goW ?_;exact⟨_,rfl,ret (o:=([45]++d++([101]++itoaB e),0)) (by rw[hf,if_neg (by (try simp only[lA,lC,lN]at z6);(try simp only[lA,lC,lN]);omega)];try simp only[List.append_nil,aA];try rfl)⟩
    | false =>
     simp only[Bool.false_eq_true,if_false]at hf;refine goW ?_;by_cases z5:e=0
     ·rw[neI_false z5];rw[if_pos z5]at hf;refine goW ?_;by_cases z6:((d).length:Int) > 1000
      ·rw[dT z6];refine goW ?_;exact⟨_,rfl,ret (o:=([],2)) (by rw[hf,if_pos (by (try simp only[lA,lC,lN]at z6);(try simp only[lA,lC,lN]);omega)])⟩
      rw[dF z6];refine goW ?_;exact⟨_,rfl,ret (o:=(d,0)) (by rw[hf,if_neg (by (try simp only[lA,lC,lN]at z6);(try simp only[lA,lC,lN]);omega)];try simp only[List.append_nil,aA];try rfl)⟩
     rw[neI_true z5];rw[if_neg z5]at hf;refine goW ?_;refine call_pf hm (by rfl) (hit e (by omega) (by omega)) (goW ?_);refine step_ruleO (st_addS rfl rfl (by simp only[lC,lN];omega)) (goW ?_);refine step_ruleO (st_addS rfl rfl (by simp only[lA,lC,lN];omega)) (goW ?_);by_cases z6:((d++([101]++itoaB e)).length:Int) > 1000
     ·rw[dT z6];refine goW ?_;exact⟨_,rfl,ret (o:=([],2)) (by rw[hf,if_pos (by (try simp only[lA,lC,lN]at z6);(try simp only[lA,lC,lN]);omega)])⟩
     rw[dF z6];refine goW ?_;exact⟨_,rfl,ret (o:=(d++([101]++itoaB e),0)) (by rw[hf,if_neg (by (try simp only[lA,lC,lN]at z6);(try simp only[lA,lC,lN]);omega)];try simp only[List.append_nil,aA];try rfl)⟩
set_option maxHeartbeats 4000000 in
theorem normal_wp (hm:MonoC C)(hsplit:∀s:List UInt8,s.length<9223372036854775807->PF C 87 [.str s] (encSplit (splitB s)))(hjoin:∀p:Parts3,p.2.1.length<=1000->PF C 88 [encP p] (encJoin (joinB p)))
  {s:List UInt8} (hl:s.length<9223372036854775807):wpF gt C F67 [.str s] St.init (Ret (encJoin (normB s))):=by
 have hsplit:=hsplit s hl;have hlen:=splitB_len (s:=s);unfold normB;generalize splitB s=q at hsplit hlen ⊢;obtain⟨⟨neg,d,e⟩,er⟩:=q;simp only at hlen ⊢;refine⟨rfl,?_⟩;refine goW ?_;refine call_pf hm (by rfl) hsplit (goW ?_);by_cases z:er=0
 ·rw[neI_false z,if_pos z];refine goW ?_;have hj:=hjoin (neg,d,e) (hlen z);refine call_pf hm (by rfl) hj ?_;generalize joinB (neg,d,e)=jr;refine goW ?_;exact⟨_,rfl,Ret.sta (sta_join _)⟩
 ·rw[neI_true z,if_neg z];refine goW ?_;exact⟨_,rfl,Ret.sta (sta_join ([],er))⟩
end

def twoB:List UInt8->Int
 | [a,b]=>if dig a=true/\dig b=true then ((a.toNat:Int)-48)*10+((b.toNat:Int)-48) else -1
 | _=>-1
def withinB (s:List UInt8)(lo hi:Int):Bool:=decide (twoB s ≥ lo) && decide (twoB s<=hi)
def daysB (y m:Int):Int :=
 if m=4\/m=6\/m=9\/m=11 then 30
 else if m=2 then (if Int.tmod y 4=0/\(Int.tmod y 100≠0\/Int.tmod y 400=0) then 29 else 28)
 else 31
theorem dig_iff {b:UInt8}:dig b=true↔48<=b.toNat/\b.toNat<=57:=by
 simp only[dig,bA,decide_eq_true_eq]
section
variable {gt:GT}{C:CallT}
theorem twoB_len {s:List UInt8}(h:s.length≠2):twoB s=-1:=by
 match s,h with
 | [],_=>rfl
 | [_],_=>rfl
 | [_,_],h=>exact absurd rfl h
 | _::_::_::_,_=>rfl
theorem wr8 {n:Int}(h:0<=n)(h2:n<256):wr .u8 n=n:=by
 rw[wr_eq];refine inR_wrap ?_;obtain⟨m,rfl⟩:∃m:Nat,n=m:=⟨n.toNat,by omega⟩
 simp only[inR];exact Nat.ble_eq_true_of_le (by omega)
set_option maxHeartbeats 4000000 in
theorem two_wp {s:List UInt8}:wpF gt C F103 [.str s] St.init (Ret (.int .i64 (twoB s))):=by
 have ret:∀{z:Int} {S:St},twoB s=z->Ret (.int .i64 (twoB s)) (.ret (.int .i64 z)) S:=λh=>by rw[h];exact Ret.sta trivial
 refine⟨rfl,?_⟩;refine goW ?_;by_cases z:s.length=2
 case neg =>
  rw[neI_true (show ¬((s.length:Nat):Int)=2 by omega)];refine goW ?_;exact⟨_,rfl,ret (twoB_len z)⟩
 obtain⟨a,b,rfl⟩:∃a b,s=[a,b]:=by
  match s,z with
  | [a,b],_=>exact⟨a,b,rfl⟩
 have ha:=u8_lt a;have hb:=u8_lt b;rw[neI_false (show (([a,b]:List UInt8).length:Int)=2 from rfl)];have hno:¬(dig a=true/\dig b=true)->twoB [a,b]=-1:=λh=>if_neg h;refine goW ?_;by_cases z1:(a.toNat:Int)<48
 ·rw[dT z1];refine goW ?_;exact⟨_,rfl,ret (hno (by rw[dig_iff,dig_iff];omega))⟩
 rw[dF z1];refine goW ?_;by_cases z2:(a.toNat:Int) > 57
 ·rw[dT z2];refine goW ?_;exact⟨_,rfl,ret (hno (by rw[dig_iff,dig_iff];omega))⟩
 rw[dF z2];refine goW ?_;by_cases z3:(b.toNat:Int)<48
 ·rw[dT z3];refine goW ?_;exact⟨_,rfl,ret (hno (by rw[dig_iff,dig_iff];omega))⟩
 rw[dF z3];refine goW ?_;by_cases z4:(b.toNat:Int) > 57
 ·rw[dT z4];refine goW ?_;exact⟨_,rfl,ret (hno (by rw[dig_iff,dig_iff];omega))⟩
 rw[dF z4];refine goW ?_;refine⟨_,rfl,ret ?_⟩;rw[wr8 (n:=(a.toNat:Int)-48) (by omega) (by omega),wr8 (n:=(b.toNat:Int)-48) (by omega) (by omega),wr64 (n:=(a.toNat:Int)-48) (by omega) (by omega),wr64 (n:=(b.toNat:Int)-48) (by omega) (by omega),wr64 (n:=((a.toNat:Int)-48)*10) (by omega) (by omega),wr64 (by omega) (by omega)];exact if_pos (by rw[dig_iff,dig_iff];omega)
set_option maxHeartbeats 4000000 in
theorem within_wp (hm:MonoC C)(h:∀s,PF C 103 [.str s] (.int .i64 (twoB s))){s:List UInt8}{lo hi:Int}:wpF gt C F104 [.str s,.int .i64 lo,.int .i64 hi] St.init (Ret (.bool (withinB s lo hi))):=by
 refine⟨rfl,?_⟩;refine goW ?_;refine call_pf hm (by rfl) (h s) (goW ?_);unfold withinB;by_cases z1:twoB s ≥ lo
 ·rw[dT z1];refine goW ?_;refine call_pf hm (by rfl) (h s) (goW ?_);exact⟨_,rfl,Ret.sta trivial⟩
 ·rw[dF z1];refine goW ?_;exact⟨_,rfl,Ret.sta trivial⟩
set_option maxHeartbeats 4000000 in
theorem days_wp {y m:Int}:wpF gt C F105 [.int .i64 y,.int .i64 m] St.init (Ret (.int .i64 (daysB y m))):=by
 have ret:∀{z:Int} {S:St},daysB y m=z->Ret (.int .i64 (daysB y m)) (.ret (.int .i64 z)) S:=λh=>by rw[h];exact Ret.sta trivial
 refine⟨rfl,?_⟩;refine goW ?_;by_cases z1:m=4
 ·rw[eqI_true z1];refine goW ?_;exact⟨_,rfl,ret (if_pos (.inl z1))⟩
 rw[eqI_false z1];refine goW ?_;by_cases z2:m=6
 ·rw[eqI_true z2];refine goW ?_;exact⟨_,rfl,ret (if_pos (.inr (.inl z2)))⟩
 rw[eqI_false z2];refine goW ?_;by_cases z3:m=9
 ·rw[eqI_true z3];refine goW ?_;exact⟨_,rfl,ret (if_pos (.inr (.inr (.inl z3))))⟩
 rw[eqI_false z3];refine goW ?_;by_cases z4:m=11
 ·rw[eqI_true z4];refine goW ?_;exact⟨_,rfl,ret (if_pos (.inr (.inr (.inr z4))))⟩
 rw[eqI_false z4];have hf:daysB y m=if m=2 then (if Int.tmod y 4=0/\(Int.tmod y 100≠0\/Int.tmod y 400=0) then 29 else 28) else 31:=if_neg (by rintro (h | h | h | h)<;>contradiction)
 refine goW ?_;by_cases z5:m=2
 case neg =>
  rw[eqI_false z5];refine goW ?_;exact⟨_,rfl,ret (by rw[hf,if_neg z5])⟩
 rw[eqI_true z5];rw[if_pos z5]at hf;refine goW ?_;by_cases z6:Int.tmod y 4=0
 case neg =>
  rw[eqI_false z6];refine goW ?_;exact⟨_,rfl,ret (by rw[hf,if_neg (by rintro⟨h,_⟩;exact z6 h)])⟩
 rw[eqI_true z6];refine goW ?_;by_cases z7:Int.tmod y 100=0
 case neg =>
  rw[neI_true z7];refine goW ?_;exact⟨_,rfl,ret (by rw[hf,if_pos ⟨z6,.inl z7⟩])⟩
 rw[neI_false z7];refine goW ?_;by_cases z8:Int.tmod y 400=0
 ·rw[eqI_true z8];refine goW ?_;exact⟨_,rfl,ret (by rw[hf,if_pos ⟨z6,.inr z8⟩])⟩
 ·rw[eqI_false z8];refine goW ?_;exact⟨_,rfl,ret (by rw[hf,if_neg (by rintro⟨_,h | h⟩;exact h z7;exact z8 h)])⟩
end

def atB (s:List UInt8)(k:Nat)(c:UInt8):Bool:=hd c (s.drop k)
theorem atB_get {s:List UInt8}{k:Nat}{b c:UInt8}(h:s[k]? = some b):atB s k c=(b == c) :=
 hd_head (by rw[List.getElem?_drop];exact h)
def sub (s:List UInt8)(i j:Nat):List UInt8:=(s.drop i).take (j-i)
def dateB (s:List UInt8):Bool :=
 decide (s.length=10) && (atB s 4 45 && (atB s 7 45 && (decide (0<=twoB (s.take 2)) && (decide (0<=twoB (sub s 2 4)) && (withinB (sub s 5 7) 1 12 &&
  withinB (s.drop 8) 1 (daysB (twoB (s.take 2)*100+twoB (sub s 2 4)) (twoB (sub s 5 7))))))))
theorem twoB_le (s:List UInt8):-1<=twoB s/\twoB s<=99:=by
 match s with
 | []=>exact⟨by decide,by decide⟩
 | [_]=>exact⟨Int.le_refl _,by simp only[twoB];omega⟩
 | [a,b] =>
  simp only[twoB];split
  ·rename_i h;rw[dig_iff,dig_iff]at h;omega
  ·omega
 | _::_::_::_=>exact⟨Int.le_refl _,by simp only[twoB];omega⟩
section
variable {gt:GT}{C:CallT}
set_option maxHeartbeats 4000000 in
theorem date_wp (hm:MonoC C)(h2:∀s,PF C 103 [.str s] (.int .i64 (twoB s)))(hw:∀s lo hi,PF C 104 [.str s,.int .i64 lo,.int .i64 hi] (.bool (withinB s lo hi)))
  (hdy:∀y m,PF C 105 [.int .i64 y,.int .i64 m] (.int .i64 (daysB y m))) {s:List UInt8}:wpF gt C F83 [.str s] St.init (Ret (.bool (dateB s))):=by
 have ret:∀{z:Bool} {S:St},dateB s=z->Ret (.bool (dateB s)) (.ret (.bool z)) S:=λh=>by rw[h];exact Ret.sta trivial
 have hf:dateB s=(decide (s.length=10) && (atB s 4 45 && (atB s 7 45 && (decide (0<=twoB (s.take 2)) && (decide (0<=twoB (sub s 2 4)) && (withinB (sub s 5 7) 1 12 &&
  withinB (s.drop 8) 1 (daysB (twoB (s.take 2)*100+twoB (sub s 2 4)) (twoB (sub s 5 7))))))))):=rfl
 generalize dateB s=res at ret hf ⊢;refine⟨rfl,?_⟩;refine goW ?_;by_cases z:s.length=10
 case neg =>
  rw[neI_true (show ¬((s.length:Nat):Int)=10 by omega)];refine goW ?_;exact⟨_,rfl,ret (by rw[hf,dF z];rfl)⟩
 rw[neI_false (show ((s.length:Nat):Int)=10 by omega)];rw[dT z,Bool.true_and]at hf;obtain⟨b4,hb4⟩:∃b,s[4]? = some b:=⟨_,gE (by omega)⟩
 obtain⟨b7,hb7⟩:∃b,s[7]? = some b:=⟨_,gE (by omega)⟩
 refine goW ?_;refine st_any (by exact rfl) (sx_ixS (k:=4) rfl rfl hb4) (goW ?_);rw[show ((45:Int))=((45:UInt8).toNat:Int) from rfl,u8_neI,<-atB_get (c:=45) hb4];cases y1:atB s 4 45 with
 | false =>
  refine goW ?_;exact⟨_,rfl,ret (by rw[hf,y1];rfl)⟩
 | true =>
 rw[y1,Bool.true_and]at hf;refine goW ?_;refine st_any (by exact rfl) (sx_ixS (k:=7) rfl rfl hb7) (goW ?_);rw[u8_neI,<-atB_get (c:=45) hb7];cases y2:atB s 7 45 with
 | false =>
  refine goW ?_;exact⟨_,rfl,ret (by rw[hf,y2];rfl)⟩
 | true =>
 rw[y2,Bool.true_and]at hf;refine goW ?_;refine st_any (by exact rfl) (sx_slHiS (h:=2) rfl rfl (by omega)) (goW ?_);refine call_pf hm (by rfl) (h2 (s.take 2)) (goW ?_);have g1:=twoB_le (s.take 2);by_cases y3:twoB (s.take 2)<0
 ·rw[dT y3];refine goW ?_;exact⟨_,rfl,ret (by rw[hf,dF (show ¬0<=twoB (s.take 2) by omega)];rfl)⟩
 rw[dF y3];rw[dT (show 0<=twoB (s.take 2) by omega),Bool.true_and]at hf;refine goW ?_;refine st_any (by exact rfl) (sx_slLH (l:=2) (h:=4) rfl rfl rfl (by omega) (by omega)) (goW ?_);rw[show (s.drop 2).take (4-2)=sub s 2 4 from rfl];refine call_pf hm (by rfl) (h2 (sub s 2 4)) (goW ?_);have g2:=twoB_le (sub s 2 4);by_cases y4:twoB (sub s 2 4)<0
 ·rw[dT y4];refine goW ?_;exact⟨_,rfl,ret (by rw[hf,dF (show ¬0<=twoB (sub s 2 4) by omega)];rfl)⟩
 rw[dF y4];rw[dT (show 0<=twoB (sub s 2 4) by omega),Bool.true_and]at hf;refine goW ?_;refine st_any (by exact rfl) (sx_slLH (l:=5) (h:=7) rfl rfl rfl (by omega) (by omega)) (goW ?_);rw[show (s.drop 5).take (7-5)=sub s 5 7 from rfl];refine call_pf hm (by rfl) (hw (sub s 5 7) 1 12) (goW ?_);cases y5:withinB (sub s 5 7) 1 12 with
 | false =>
  refine goW ?_;exact⟨_,rfl,ret (by rw[hf,y5];rfl)⟩
 | true =>
 rw[y5,Bool.true_and]at hf;refine goW ?_;refine step_ruleDO rfl rfl (sx_slLo (l:=8) rfl rfl (by omega)) (goW ?_);refine step_ruleDO rfl rfl (sx_slHiS (h:=2) rfl rfl (by omega)) (goW ?_);refine step_ruleDO rfl rfl (sx_slLH (l:=2) (h:=4) rfl rfl rfl (by omega) (by omega)) (goW ?_);refine step_ruleDO rfl rfl (sx_slLH (l:=5) (h:=7) rfl rfl rfl (by omega) (by omega)) (goW ?_);rw[show (s.drop 5).take (7-5)=sub s 5 7 from rfl,show (s.drop 2).take (4-2)=sub s 2 4 from rfl];refine call_pfD hm (by rfl) (h2 (s.take 2)) (goW ?_);refine call_pfD hm (by rfl) (h2 (sub s 2 4)) (goW ?_);refine call_pfD hm (by rfl) (h2 (sub s 5 7)) (goW ?_);rw[wr64 (n:=twoB (s.take 2)*100) (by omega) (by omega),wr64 (by omega) (by omega)];refine call_pfD hm (by rfl) (hdy _ _) (goW ?_);refine call_pfD hm (by rfl) (hw _ _ _) (goW ?_);exact⟨_,rfl,ret hf⟩
end

abbrev tenD:List UInt8:=[48,49,50,51,52,53,54,55,56,57]
def trimA (cs s:List UInt8):List UInt8:=trimL cs (trimR cs s)
def clockB (s:List UInt8):Bool :=
 decide (8<=s.length) && (atB s 2 58 && (atB s 5 58 && (withinB (s.take 2) 0 23 && (withinB (sub s 3 5) 0 59 && (withinB (sub s 6 8) 0 59 &&
  (decide (s.length=8) || (atB s 8 46 && (decide (1<=(s.drop 9).length) && (decide ((s.drop 9).length<=9) && beqB (trimA tenD (s.drop 9)) [])))))))))
section
variable {gt:GT}{C:CallT}
set_option maxHeartbeats 4000000 in
theorem clock_wp (hm:MonoC C)(hw:∀s lo hi,PF C 104 [.str s,.int .i64 lo,.int .i64 hi] (.bool (withinB s lo hi)))
  (htr:∀s:List UInt8,s.length<9223372036854775807->PF C 106 [.str s,.str tenD] (.str (trimA tenD s))) {s:List UInt8} (hl:s.length<9223372036854775807):wpF gt C F84 [.str s] St.init (Ret (.bool (clockB s))):=by
 have ret:∀{z:Bool} {S:St},clockB s=z->Ret (.bool (clockB s)) (.ret (.bool z)) S:=λh=>by rw[h];exact Ret.sta trivial
 have hf:clockB s=(decide (8<=s.length) && (atB s 2 58 && (atB s 5 58 && (withinB (s.take 2) 0 23 && (withinB (sub s 3 5) 0 59 && (withinB (sub s 6 8) 0 59 &&
  (decide (s.length=8) || (atB s 8 46 && (decide (1<=(s.drop 9).length) && (decide ((s.drop 9).length<=9) && beqB (trimA tenD (s.drop 9)) [])))))))))):=rfl
 generalize clockB s=res at ret hf ⊢;refine⟨rfl,?_⟩;refine goW ?_;by_cases z:8<=s.length
 case neg =>
  rw[dT (show ((s.length:Nat):Int)<8 by omega)];refine goW ?_;exact⟨_,rfl,ret (by rw[hf,dF z];rfl)⟩
 rw[dF (show ¬((s.length:Nat):Int)<8 by omega)];rw[dT z,Bool.true_and]at hf;obtain⟨b2,hb2⟩:∃b,s[2]? = some b:=⟨_,gE (by omega)⟩
 obtain⟨b5,hb5⟩:∃b,s[5]? = some b:=⟨_,gE (by omega)⟩
 refine goW ?_;refine st_any (by exact rfl) (sx_ixS (k:=2) rfl rfl hb2) (goW ?_);rw[show ((58:Int))=((58:UInt8).toNat:Int) from rfl,u8_neI,<-atB_get (c:=58) hb2];cases y1:atB s 2 58 with
 | false =>
  refine goW ?_;exact⟨_,rfl,ret (by rw[hf,y1];rfl)⟩
 | true =>
 rw[y1,Bool.true_and]at hf;refine goW ?_;refine st_any (by exact rfl) (sx_ixS (k:=5) rfl rfl hb5) (goW ?_);rw[u8_neI,<-atB_get (c:=58) hb5];cases y2:atB s 5 58 with
 | false =>
  refine goW ?_;exact⟨_,rfl,ret (by rw[hf,y2];rfl)⟩
 | true =>
 rw[y2,Bool.true_and]at hf;refine goW ?_;refine st_any (by exact rfl) (sx_slHiS (h:=2) rfl rfl (by omega)) (goW ?_);refine call_pf hm (by rfl) (hw (s.take 2) 0 23) (goW ?_);cases y3:withinB (s.take 2) 0 23 with
 | false =>
  refine goW ?_;exact⟨_,rfl,ret (by rw[hf,y3];rfl)⟩
 | true =>
 rw[y3,Bool.true_and]at hf;refine goW ?_;refine st_any (by exact rfl) (sx_slLH (l:=3) (h:=5) rfl rfl rfl (by omega) (by omega)) (goW ?_);rw[show (s.drop 3).take (5-3)=sub s 3 5 from rfl];refine call_pf hm (by rfl) (hw (sub s 3 5) 0 59) (goW ?_);cases y4:withinB (sub s 3 5) 0 59 with
 | false =>
  refine goW ?_;exact⟨_,rfl,ret (by rw[hf,y4];rfl)⟩
 | true =>
 rw[y4,Bool.true_and]at hf;refine goW ?_;refine st_any (by exact rfl) (sx_slLH (l:=6) (h:=8) rfl rfl rfl (by omega) (by omega)) (goW ?_);rw[show (s.drop 6).take (8-6)=sub s 6 8 from rfl];refine call_pf hm (by rfl) (hw (sub s 6 8) 0 59) (goW ?_);cases y5:withinB (sub s 6 8) 0 59 with
 | false =>
  refine goW ?_;exact⟨_,rfl,ret (by rw[hf,y5];rfl)⟩
 | true =>
 rw[y5,Bool.true_and]at hf;refine goW ?_;by_cases z8:s.length=8
 ·rw[eqI_true (show ((s.length:Nat):Int)=8 by omega)];refine goW ?_;exact⟨_,rfl,ret (by rw[hf,dT z8];rfl)⟩
 rw[eqI_false (show ¬((s.length:Nat):Int)=8 by omega)];rw[dF z8,Bool.false_or]at hf;obtain⟨b8,hb8⟩:∃b,s[8]? = some b:=⟨_,gE (by omega)⟩
 refine goW ?_;refine step_ruleO (sx_slLo (l:=9) rfl rfl (by omega)) (goW ?_);refine step_ruleO (sx_ixS (k:=8) rfl rfl hb8) (goW ?_);rw[show ((46:Int))=((46:UInt8).toNat:Int) from rfl,u8_eqI,<-atB_get (c:=46) hb8];cases y6:atB s 8 46 with
 | false =>
  refine goW ?_;exact⟨_,rfl,ret (by rw[hf,y6];rfl)⟩
 | true =>
 rw[y6,Bool.true_and]at hf;have hd9:(s.drop 9).length<=s.length:=by rw[lD];omega
 generalize s.drop 9=p at hf hd9 ⊢;refine goW ?_;by_cases z1:1<=p.length
 case neg =>
  rw[dF (show ¬((p.length:Nat):Int) ≥ 1 by omega)];refine goW ?_;exact⟨_,rfl,ret (by rw[hf,dF z1];rfl)⟩
 rw[dT (show ((p.length:Nat):Int) ≥ 1 by omega)];rw[dT z1,Bool.true_and]at hf;refine goW ?_;by_cases z9:p.length<=9
 case neg =>
  rw[dF (show ¬((p.length:Nat):Int)<=9 by omega)];refine goW ?_;exact⟨_,rfl,ret (by rw[hf,dF z9];rfl)⟩
 rw[dT (show ((p.length:Nat):Int)<=9 by omega)];rw[dT z9,Bool.true_and]at hf;refine goW ?_;refine call_pf hm (by rfl) (htr p (by omega)) (goW ?_);exact⟨_,rfl,ret hf⟩
end

def zoneB (s:List UInt8):List UInt8×List UInt8 :=
 if tl 90 s=true then (s.take (s.length-1),[90])
 else if s.length<6\/(atB s (s.length-6) 43=false/\atB s (s.length-6) 45=false) then (s,[])
 else if atB (s.drop (s.length-6)) 3 58=false\/withinB (sub (s.drop (s.length-6)) 1 3) 0 23=false\/withinB ((s.drop (s.length-6)).drop 4) 0 59=false then (s,[])
 else (s.take (s.length-6),s.drop (s.length-6))
def encZ (p:List UInt8×List UInt8):AV:=.tup [.str p.1,.str p.2]
theorem sta_Z (p:List UInt8×List UInt8):Sta (encZ p):=⟨trivial,trivial,trivial⟩
def cutC (c:UInt8):List UInt8->List UInt8×List UInt8×Bool
 | []=>([],[],false)
 | b::r=>if b == c then ([],r,true) else (b::(cutC c r).1,(cutC c r).2.1,(cutC c r).2.2)
def timeB (s:List UInt8):Bool :=
 dateB s || (clockB s || ((cutC 84 (zoneB s).1).2.2 && (dateB (cutC 84 (zoneB s).1).1 && clockB (cutC 84 (zoneB s).1).2.1)))
theorem cutC_le (c:UInt8):∀s:List UInt8,(cutC c s).1.length<=s.length/\(cutC c s).2.1.length<=s.length
 | []=>⟨nR _,nR _⟩
 | b::r=>by
  have:=cutC_le c r;simp only[cutC];split
  ·exact⟨Nat.zero_le _,by simp⟩
  ·simp only[lC];omega
theorem zoneB_le (s:List UInt8):(zoneB s).1.length<=s.length:=by
 unfold zoneB;split
 ·simp only[lT];omega
 ·split
  ·exact nR _
  ·split
   ·exact nR _
   ·simp only[lT];omega
theorem tl_len {c:UInt8}{s:List UInt8}(h:tl c s=true):1<=s.length:=by
 have:=hd_len h;rwa [List.length_reverse]at this
section
variable {gt:GT}{C:CallT}
set_option maxHeartbeats 4000000 in
theorem zone_wp (hm:MonoC C)(hsuf:∀(s:List UInt8) c,s.length<9223372036854775807->PF C 107 [.str s,.str [c]] (.bool (tl c s)))(hw:∀s lo hi,PF C 104 [.str s,.int .i64 lo,.int .i64 hi] (.bool (withinB s lo hi)))
  {s:List UInt8} (hl:s.length<9223372036854775807):wpF gt C F85 [.str s] St.init (Ret (encZ (zoneB s))):=by
 have ret:∀{z:List UInt8×List UInt8} {S:St},zoneB s=z->Ret (encZ (zoneB s)) (.ret (encZ z)) S:=λh=>by rw[h];exact Ret.sta (sta_Z _)
 have hf:zoneB s=if tl 90 s=true then (s.take (s.length-1),[90])
  else if s.length<6\/(atB s (s.length-6) 43=false/\atB s (s.length-6) 45=false) then (s,[])
  else if atB (s.drop (s.length-6)) 3 58=false\/withinB (sub (s.drop (s.length-6)) 1 3) 0 23=false\/withinB ((s.drop (s.length-6)).drop 4) 0 59=false then (s,[])
  else (s.take (s.length-6),s.drop (s.length-6)):=rfl
 generalize zoneB s=res at ret hf ⊢;refine⟨rfl,?_⟩;refine goW ?_;refine call_pf hm (by rfl) (hsuf s 90 hl) (goW ?_);cases y1:tl 90 s with
 | true =>
  have h1:=tl_len y1;refine goW ?_;rw[show wr .i64 ((s.length:Int)-1)=((s.length-1:Nat):Int) by rw[wr64 (by omega) (by omega)];omega];refine step_ruleO (sx_slHiS (h:=s.length-1) rfl rfl (by omega)) (goW ?_);exact⟨_,rfl,ret (z:=(s.take (s.length-1),[90])) (by rw[hf,if_pos y1])⟩
 | false =>
 rw[if_neg (by rw[y1];simp)]at hf;refine goW ?_;by_cases z6:s.length<6
 ·rw[dT (show ((s.length:Nat):Int)<6 by omega)];refine goW ?_;exact⟨_,rfl,ret (z:=(s,[])) (by rw[hf,if_pos (.inl z6)])⟩
 rw[dF (show ¬((s.length:Nat):Int)<6 by omega)];obtain⟨b6,hb6⟩:∃b,s[s.length-6]? = some b:=⟨_,gE (by omega)⟩
 have hwr:wr .i64 ((s.length:Int)-6)=((s.length-6:Nat):Int):=by rw[wr64 (by omega) (by omega)];omega
 refine goW ?_;rw[hwr];refine st_any (by exact rfl) (sx_ixS (k:=s.length-6) rfl rfl hb6) (goW ?_);rw[show ((43:Int))=((43:UInt8).toNat:Int) from rfl,u8_neI,<-atB_get (c:=43) hb6];have tail:¬(s.length<6\/(atB s (s.length-6) 43=false/\atB s (s.length-6) 45=false))->True:=λ_=>trivial
 clear tail
 have fin:¬(s.length<6\/(atB s (s.length-6) 43=false/\atB s (s.length-6) 45=false))->∀x:Env,wpD gt C F85.body.rt.rt.rt ((0,.val (.str s))::x) St.init (bodyQ gt F85.res (Ret (encZ res))):=λhno x=>by
  rw[if_neg hno]at hf
  conv=>whnf
  refine goW ?_;rw[hwr];refine step_ruleO (sx_slLo (l:=s.length-6) rfl rfl (by omega)) (goW ?_);have hz:(s.drop (s.length-6)).length=6:=by rw[lD];omega
  generalize hzz:s.drop (s.length-6)=z at hf hz ⊢;obtain⟨b3,hb3⟩:∃b,z[3]? = some b:=⟨_,gE (by omega)⟩
  refine step_ruleO (sx_ixS (k:=3) rfl rfl hb3) (goW ?_);rw[show ((58:Int))=((58:UInt8).toNat:Int) from rfl,u8_neI,<-atB_get (c:=58) hb3];cases w1:atB z 3 58 with
  | false =>
   refine goW ?_;exact⟨_,rfl,ret (z:=(s,[])) (by rw[hf,if_pos (.inl w1)])⟩
  | true =>
  refine goW ?_;refine st_any (by exact rfl) (sx_slLH (l:=1) (h:=3) rfl rfl rfl (by omega) (by omega)) (goW ?_);rw[show (z.drop 1).take (3-1)=sub z 1 3 from rfl];refine call_pf hm (by rfl) (hw (sub z 1 3) 0 23) (goW ?_);cases w2:withinB (sub z 1 3) 0 23 with
  | false =>
   refine goW ?_;exact⟨_,rfl,ret (z:=(s,[])) (by rw[hf,if_pos (.inr (.inl w2))])⟩
  | true =>
  refine goW ?_;refine st_any (by exact rfl) (sx_slLo (l:=4) rfl rfl (by omega)) (goW ?_);refine call_pf hm (by rfl) (hw (z.drop 4) 0 59) (goW ?_);cases w3:withinB (z.drop 4) 0 59 with
  | false =>
   refine goW ?_;exact⟨_,rfl,ret (z:=(s,[])) (by rw[hf,if_pos (.inr (.inr w3))])⟩
  | true =>
  refine goW ?_;rw[hwr];refine step_ruleO (sx_slHiS (h:=s.length-6) rfl rfl (by omega)) (goW ?_);exact⟨_,rfl,ret (z:=(s.take (s.length-6),z)) (by rw[hf,if_neg (by rintro (h | h | h);rw[w1]at h;cases h;rw[w2]at h;cases h;rw[w3]at h;cases h)])⟩
 cases y2:atB s (s.length-6) 43 with
 | true =>
  refine goK ?_
  with_unfolding_all exact fin (by rintro (h | ⟨h,_⟩);exact z6 h;rw[y2]at h;cases h) _
 | false =>
 refine goW ?_;rw[hwr];refine st_any (by exact rfl) (sx_ixS (k:=s.length-6) rfl rfl hb6) (goW ?_);rw[show ((45:Int))=((45:UInt8).toNat:Int) from rfl,u8_neI,<-atB_get (c:=45) hb6];cases y3:atB s (s.length-6) 45 with
 | true =>
  refine goK ?_
  with_unfolding_all exact fin (by rintro (h | ⟨_,h⟩);exact z6 h;rw[y3]at h;cases h) _
 | false =>
  refine goW ?_;exact⟨_,rfl,ret (z:=(s,[])) (by rw[hf,if_pos (.inr ⟨y2,y3⟩)])⟩
set_option maxHeartbeats 4000000 in
theorem time_wp (hm:MonoC C)(hd':∀s,PF C 83 [.str s] (.bool (dateB s)))(hc:∀s:List UInt8,s.length<9223372036854775807->PF C 84 [.str s] (.bool (clockB s)))
  (hz:∀s:List UInt8,s.length<9223372036854775807->PF C 85 [.str s] (encZ (zoneB s))) (hcut:∀s:List UInt8,s.length<4294967281->PF C 86 [.str s,.str [84]] (.tup [.str (cutC 84 s).1,.str (cutC 84 s).2.1,.bool (cutC 84 s).2.2]))
  {s:List UInt8} (hl:s.length<4294967281):wpF gt C F64 [.str s] St.init (Ret (.bool (timeB s))):=by
 have hzl:=zoneB_le s;have hcut:=hcut (zoneB s).1 (by omega);have hcl:=cutC_le 84 (zoneB s).1;unfold timeB;refine⟨rfl,?_⟩;refine goW ?_;refine call_pf hm (by rfl) (hd' s) (goW ?_);cases y1:dateB s with
 | true =>
  refine goW ?_;exact⟨_,rfl,Ret.sta trivial⟩
 | false =>
 refine goW ?_;refine call_pf hm (by rfl) (hc s (by omega)) (goW ?_);cases y2:clockB s with
 | true =>
  refine goW ?_;exact⟨_,rfl,Ret.sta trivial⟩
 | false =>
 refine goW ?_;refine call_pf hm (by rfl) (hz s (by omega)) (goW ?_);refine call_pf hm (by rfl) hcut ?_;generalize cutC 84 (zoneB s).1=q at hcl ⊢;obtain⟨d,c,k⟩:=q;refine goW ?_;cases k with
 | false =>
  refine goW ?_;exact⟨_,rfl,Ret.sta trivial⟩
 | true =>
 refine goW ?_;refine call_pf hm (by rfl) (hd' d) (goW ?_);cases y3:dateB d with
 | false =>
  refine goW ?_;exact⟨_,rfl,by simp only[y3];exact Ret.sta trivial⟩
 | true =>
 refine goW ?_;refine call_pf hm (by rfl) (hc c (by simp only at hcl;omega)) (goW ?_);exact⟨_,rfl,by simp only[y3];exact Ret.sta trivial⟩
end

section
variable {gt:GT}{C:CallT}
set_option maxHeartbeats 2000000 in
theorem hasSuf0_wp {s:List UInt8}{c:UInt8}(hl:s.length<9223372036854775807):wpF gt C F130 [.str s,.str [c]] St.init (Ret (.bool (tl c s))):=by
 refine⟨rfl,?_⟩;refine goW ?_;by_cases z:1<=s.length
 case neg =>
  have:s=[]:=List.length_eq_zero_iff.1 (by omega);subst this;rw[dF (show ¬((([]:List UInt8).length:Nat):Int) ≥ (([c]:List UInt8).length:Nat) by simp)];refine goW ?_;exact⟨_,rfl,Ret.sta trivial⟩
 rw[dT (show ((s.length:Nat):Int) ≥ (([c]:List UInt8).length:Nat) by simp only[lC,lN];omega)];refine goW ?_;rw[show wr .i64 ((s.length:Int)-(([c]:List UInt8).length:Nat))=((s.length-1:Nat):Int) by simp only[lC,lN];rw[wr64 (by omega) (by omega)];omega];refine st_any (by exact rfl) (sx_slLo (l:=s.length-1) rfl rfl (by omega)) (goW ?_);obtain⟨lb,hlb⟩:∃lb,s[s.length-1]? = some lb:=⟨_,gE (by omega)⟩
 have hd1:s.drop (s.length-1)=[lb]:=by
  rw[dC (show s.length-1<s.length by omega),List.drop_eq_nil_of_le (by omega)];rw[gE (show s.length-1<s.length by omega)]at hlb;simp only[oI]at hlb;rw[hlb]
 refine⟨_,rfl,?_⟩;rw[hd1,beqB_one,tl_last hlb (by omega)];exact Ret.sta trivial
theorem hasSuf_wp (hm:MonoC C)(h:∀(s:List UInt8) c,s.length<9223372036854775807->PF C 130 [.str s,.str [c]] (.bool (tl c s))){s:List UInt8}{c:UInt8}(hl:s.length<9223372036854775807):wpF gt C F107 [.str s,.str [c]] St.init (Ret (.bool (tl c s))):=by
 refine⟨rfl,?_⟩;refine goW ?_;refine call_pf hm (by rfl) (h s c hl) (goW ?_);exact⟨_,rfl,Ret.sta trivial⟩
end

def mpE (l:List (List UInt8×Int)):List (AV×AV):=l.map λp=>(.str p.1,.int .i64 p.2)
def posS (k:List UInt8):List (List UInt8×Int)->Nat->Option (Nat×Int)
 | [],_=>none
 | (k',v)::r,i=>if k=k' then some (i,v) else posS k r (i+1)
theorem fk (k:List UInt8):∀(l:List (List UInt8×Int)) (i:Nat),findK .str (.str k) (mpE l) i=some ((posS k l i).map λp=>(p.1,AV.int .i64 p.2))
 | [],_=>rfl
 | (k',v)::r,i=>by
  have ih:=fk k r (i+1);simp only[mpE,List.map_cons,findK,eqv,eqStr,posS]at ih ⊢;by_cases h:k=k'
  ·rw[beqB_true h,if_pos h];rfl
  ·rw[beqB_false h,if_neg h];exact ih
theorem posS_lt {k:List UInt8}:∀{l:List (List UInt8×Int)} {i j:Nat} {v:Int},posS k l i=some (j,v)->i<=j/\j<i+l.length/\l[j-i]? = some (k,v)
 | (k',v')::r,i,j,v,h=>by
  simp only[posS]at h;split at h
  ·rename_i e;simp only[oI,Prod.mk.injEq]at h;obtain⟨rfl,rfl⟩:=h;subst e;exact⟨nR _,by simp,by simp⟩
  ·obtain⟨h1,h2,h3⟩:=posS_lt h;refine⟨by omega,by simp only[lC];omega,?_⟩;rw[show j-i=(j-(i+1))+1 by omega,List.getElem?_cons_succ];exact h3
theorem posS_none {k:List UInt8}:∀{l:List (List UInt8×Int)} {i:Nat},posS k l i=none↔k ∉ l.map Prod.fst
 | [],i=>by simp[posS]
 | (k',v')::r,i=>by
  simp only[posS,List.map_cons,List.mem_cons,not_or];split
  ·rename_i e;simp[e]
  ·rename_i e;rw[posS_none];simp[e]
theorem posS_app {k:List UInt8}{v:Int}:∀{l:List (List UInt8×Int)} {i:Nat},posS k l i=none->posS k (l++[(k,v)]) i=some (i+l.length,v)
 | [],i,_=>by simp[posS]
 | (k',v')::r,i,h=>by
  simp only[posS,List.cons_append,lC]at h ⊢;split at h
  ·cases h
  ·rename_i e;rw[if_neg e,posS_app h];congr 2;omega
theorem posS_set {k:List UInt8}{v w:Int}:∀{l:List (List UInt8×Int)} {i j:Nat},posS k l i=some (j,v)->posS k (l.set (j-i) (k,w)) i=some (j,w)
 | (k',v')::r,i,j,h=>by
  have hlt:=posS_lt h;simp only[posS]at h;split at h
  ·rename_i e;simp only[oI,Prod.mk.injEq]at h;obtain⟨rfl,rfl⟩:=h;simp[posS]
  ·rename_i e;have h3:=posS_lt h;rw[show j-i=(j-(i+1))+1 by omega,List.set_cons_succ];simp only[posS];rw[if_neg e];exact posS_set h

theorem wrU8 (x:UInt8):wr .i64 (x.toNat:Int)=x.toNat:=by
 have:=u8_lt x;exact wr64 (by omega) (by omega)
theorem wrap8 {n:Nat}(h:n<256):IntKind.wrap .u8 (n:Int)=n:=by
 refine inR_wrap ?_;simp only[inR];exact Nat.ble_eq_true_of_le (by omega)
theorem wrap64 {n:Nat}(h:n<9223372036854775808):IntKind.wrap .i64 (n:Int)=n:=by
 refine inR_wrap ?_;simp only[inR];exact Nat.ble_eq_true_of_le (by omega)
theorem step63 {acc:Nat}(x:UInt8)(h1:128<=x.toNat)(h2:x.toNat<192)(ha:acc<1125899906842624) :
  IntKind.wrap .i64 ((BitVec.ofInt (IntKind.bits .i64) (wr .i64 ((acc:Int)*2 ^ (min (Int.toNat 6) (IntKind.bits .i64)))) ||| BitVec.ofInt (IntKind.bits .i64) (wr .i64 (IntKind.wrap .u8 ((BitVec.ofInt (IntKind.bits .u8) (x.toNat:Int) &&& BitVec.ofInt (IntKind.bits .u8) 63).toNat:Int)))).toNat:Int)=((acc*64+(x.toNat-128):Nat):Int):=by
 have e1:wr .i64 ((acc:Int)*2 ^ (min (Int.toNat 6) (IntKind.bits .i64)))=((acc*64:Nat):Int):=by
  rw[show min (Int.toNat 6) (IntKind.bits .i64)=6 by decide,show ((2:Int) ^ 6)=64 by decide,wr64 (by omega) (by omega)];omega
 have e2:wr .i64 (IntKind.wrap .u8 ((BitVec.ofInt (IntKind.bits .u8) (x.toNat:Int) &&& BitVec.ofInt (IntKind.bits .u8) 63).toNat:Int))=((x.toNat-128:Nat):Int):=by
  have:=and63 x h1 h2;rw[show IntKind.bits .u8=8 from rfl,this,wrap8 (by omega),wr64 (by omega) (by omega)]
 rw[e1,e2,show IntKind.bits .i64=64 from rfl,or_add (by omega) (by omega),wrap64 (by omega)]
section
variable {gt:GT}{C:CallT}
abbrev E_first (s:List UInt8)(acc n least i:Int):Env:=[(0,.val (.str s)),(2,.val (.int .i64 acc)),(3,.val (.int .i64 n)),(4,.val (.int .i64 least)),(5,.val (.int .i64 i))]
set_option maxHeartbeats 4000000 in
theorem first_wp (hm:MonoC C)(hrow:∀b:UInt8,PF C 99 [.int .u8 b.toNat] (encLead (leadB b.toNat)))(hch:∀c:Int,PF C 100 [.int .i64 c] (.bool (charB c)))
  {s:List UInt8} (hl:s.length<4611686018427387904):wpF gt C F78 [.str s] St.init (Ret (encFirst (firstC s))):=by
 have zero:∀{S:St},firstC s=(0,0)->Ret (encFirst (firstC s)) (.ret (.tup [.int .i64 0,.int .i64 0])) S:=λh=>by rw[h];exact Ret.sta ⟨trivial,trivial,trivial⟩
 cases s with
 | nil =>
  refine⟨rfl,?_⟩;refine goW ?_;exact⟨_,rfl,zero rfl⟩
 | cons b r =>
 have hrow:=hrow b;have hlb:=leadB_le b.toNat (u8_lt b);have hf:firstC (b::r)=if (leadB b.toNat).1=0\/r.length+1<(leadB b.toNat).1 then (0,0) else match contV ((leadB b.toNat).1-1) r (leadB b.toNat).2.1 with
   | none=>(0,0)
   | some c=>if c<(leadB b.toNat).2.2\/charB c=false then (0,0) else (c,(leadB b.toNat).1):=rfl
 generalize leadB b.toNat=p at hrow hlb hf;obtain⟨n,bits,least⟩:=p;simp only at hlb hf;simp only[lC]at hl;refine⟨rfl,?_⟩;refine goW ?_;refine call_pf hm (by rfl) hrow (goW ?_);by_cases z:(n:Int)=0
 ·rw[eqI_true z];refine goW ?_;exact⟨_,rfl,zero (by rw[hf,if_pos (.inl (by omega))])⟩
 rw[eqI_false z];refine goW ?_;by_cases z2:(n:Int) > ((b::r).length:Int)
 ·rw[dT z2];refine goW ?_;exact⟨_,rfl,zero (by rw[hf,if_pos (.inr (by simp only[lC]at z2;omega))])⟩
 rw[dF z2];refine goW ?_;simp only[lC]at z2;rw[if_neg (by omega)]at hf;refine loop_rule hm (α:=Nat×Nat) (λa env S'=>1<=a.1/\a.1<=n/\a.2<128*64 ^ (a.1-1)/\env=E_first (b::r) a.2 n least a.1/\S'=St.init/\contV (n-1) r bits=contV (n-a.1) (r.drop (a.1-1)) a.2) (λa=>n-a.1) ?_ (a:=(1,bits)) ⟨nR _,by simp only;omega,by simpa using hlb.2,rfl,rfl,rfl⟩;rintro⟨i,acc⟩ env S' ⟨h1,hi,hacc,rfl,rfl,hp⟩;simp only at h1 hi hacc hp;refine goW ?_;have hpow:64 ^ (i-1)<=64 ^ 3:=Nat.pow_le_pow_right (by decide) (by omega);have hsmall:acc<33554432:=by
  have:128*64 ^ (i-1)<=128*64 ^ 3:=Nat.mul_le_mul_left _ hpow;have e:128*64 ^ 3=33554432:=by decide
  omega
 by_cases hc:(i:Int)<n
 ·rw[dT hc];refine goW ?_;have hik:i-1<r.length:=by omega
  have hgb:(b::r)[i]? = some r[i-1]:=by
   obtain⟨j,rfl⟩:∃j,i=j+1:=⟨i-1,by omega⟩
   rw[List.getElem?_cons_succ];exact gE hik
  rw[show n-i=(n-(i+1))+1 by omega,contV_step hik]at hp;refine step_ruleO (sx_ixS rfl rfl hgb) (goW ?_);have hs6:=shr6 r[i-1];rw[show min (Int.toNat 6) (IntKind.bits .u8)=6 by decide,hs6];by_cases hx:128<=r[i-1].toNat/\r[i-1].toNat<192
  ·rw[dT hx];refine goW ?_;refine step_ruleO (sx_ixS rfl rfl hgb) (goW ?_);rw[step63 r[i-1] hx.1 hx.2 (by omega)];rw[if_pos hx]at hp;refine⟨(i+1,acc*64+(r[i-1].toNat-128)),⟨by simp only;omega,by simp only;omega,?_,?_,rfl,?_⟩,by simp only;omega⟩
   ·simp only;rw[show i+1-1=(i-1)+1 by omega,Nat.pow_succ];omega
   ·rw[wrNat (by omega)]
   ·simp only;rw[hp,show i+1-1=i-1+1 by omega]
  ·rw[dF hx];refine goW ?_;rw[if_neg hx]at hp;exact⟨_,rfl,zero (by rw[hf,hp])⟩
 rw[dF hc];obtain rfl:i=n:=by omega
 rw[Nat.sub_self,show contV 0 (r.drop (i-1)) acc=some acc from rfl]at hp;simp only[hp]at hf;refine goW ?_;by_cases hle:(acc:Int)<least
 ·rw[dT hle];refine goW ?_;exact⟨_,rfl,zero (by rw[hf,if_pos (.inl (by omega))])⟩
 rw[dF hle];refine goW ?_;refine call_pf hm (by rfl) (hch acc) (goW ?_);cases hcb:charB acc with
 | false =>
  refine goW ?_;exact⟨_,rfl,zero (by rw[hf,if_pos (.inr hcb)])⟩
 | true =>
  refine goW ?_;refine⟨_,rfl,?_⟩;rw[hf,if_neg (by rw[hcb];simp;omega)];exact Ret.sta ⟨trivial,trivial,trivial⟩
theorem firstC_le:∀s:List UInt8,(firstC s).2<=s.length
 | []=>nR _
 | b::r=>by
  simp only[firstC];split
  ·exact Nat.zero_le _
  ·split
   ·exact Nat.zero_le _
   ·split
    ·exact Nat.zero_le _
    ·simp only[lC];omega
def badI (s:List UInt8)(at_:Nat):Int :=
 if h:s=[] then -1 else if h0:(firstC s).2=0 then at_ else badI (s.drop (firstC s).2) (at_+(firstC s).2)
termination_by s.length
decreasing_by
 have:0<s.length:=List.length_pos_iff.2 h;simp only[lD];omega
theorem badI_nil (a:Nat):badI [] a=-1:=by rw[badI];simp
theorem badI_bad {s:List UInt8}{a:Nat}(h:s≠[])(h0:(firstC s).2=0):badI s a=a:=by rw[badI,dif_neg h,dif_pos h0]
theorem badI_go {s:List UInt8}{a:Nat}(h:s≠[])(h0:(firstC s).2≠0):badI s a=badI (s.drop (firstC s).2) (a+(firstC s).2):=by rw[badI,dif_neg h,dif_neg h0]
def validB (s:List UInt8):Bool:=decide (badI s 0<0)
abbrev E_bad (s:List UInt8)(i:Int):Env:=[(0,.val (.str s)),(3,.val (.int .i64 i))]
set_option maxHeartbeats 2000000 in
theorem bad_wp (hm:MonoC C)(hfst:∀s:List UInt8,s.length<4611686018427387904->PF C 78 [.str s] (encFirst (firstC s))){s:List UInt8}(hl:s.length<4611686018427387904) :
  wpF gt C F53 [.str s] St.init (Ret (.int .i64 (badI s 0))):=by
 refine⟨rfl,?_⟩;refine goW ?_;refine loop_rule hm (α:=Nat) (λi env S'=>i<=s.length/\env=E_bad s i/\S'=St.init/\badI s 0=badI (s.drop i) i) (λi=>s.length-i) ?_ (a:=0) ⟨Nat.zero_le _,rfl,rfl,rfl⟩;rintro i env S' ⟨hi,rfl,rfl,hp⟩;refine goW ?_;by_cases hc:(i:Int)<s.length
 ·rw[dT hc];refine goW ?_;have hik:i<s.length:=by omega
  have hne:s.drop i≠[]:=λh=>by have:=congrArg List.length h;simp at this;omega
  have hle:=firstC_le (s.drop i);rw[lD]at hle;have hcall:=hfst (s.drop i) (by rw[lD];omega);unfold encFirst at hcall;refine step_ruleO (sx_slLo (l:=i) rfl rfl hi) (goW ?_);refine call_pf hm (by rfl) hcall (goW ?_);by_cases z:((firstC (s.drop i)).2:Int)=0
  ·rw[eqI_true z];refine goW ?_;refine⟨_,rfl,?_⟩;rw[hp,badI_bad hne (by omega)];exact Ret.sta trivial
  ·rw[eqI_false z];refine goW ?_;refine⟨i+(firstC (s.drop i)).2,⟨by omega,?_,rfl,?_⟩,by omega⟩
   ·rw[wr64 (by omega) (by omega)];rfl
   ·rw[hp,badI_go hne (by omega),List.drop_drop]
 ·rw[dF hc];refine goW ?_;refine⟨_,rfl,?_⟩;rw[hp,List.drop_eq_nil_of_le (by omega),badI_nil];exact Ret.sta trivial
theorem validP_wp (hm:MonoC C)(hbad:∀s:List UInt8,s.length<4611686018427387904->PF C 53 [.str s] (.int .i64 (badI s 0))){s:List UInt8}(hl:s.length<4611686018427387904) :
  wpF gt C F68 [.str s] St.init (Ret (.bool (validB s))):=by
 refine⟨rfl,?_⟩;refine goW ?_;refine call_pf hm (by rfl) (hbad s hl) (goW ?_);exact⟨_,rfl,Ret.sta trivial⟩
theorem charR_wp {c:Int}:wpF gt C F141 [.int .i64 c] St.init (Ret (.bool (charB c))):=by
 refine⟨rfl,?_⟩;refine goW ?_;by_cases h0:c ≥ 0
 ·rw[dT h0];refine goW ?_;by_cases h1:c<=1114111
  ·rw[dT h1];refine goW ?_;by_cases h2:c<55296
   ·rw[dT h2];refine goW ?_;exact⟨_,rfl,by rw[show charB c=true by simp[charB];omega];exact Ret.sta trivial⟩
   ·rw[dF h2];refine goW ?_;exact⟨_,rfl,by rw[show charB c=decide (c > 57343) by simp only[charB];congr 1;simp;omega];exact Ret.sta trivial⟩
  ·rw[dF h1];refine goW ?_;exact⟨_,rfl,by rw[show charB c=false by simp[charB];omega];exact Ret.sta trivial⟩
 ·rw[dF h0];refine goW ?_;exact⟨_,rfl,by rw[show charB c=false by simp[charB];omega];exact Ret.sta trivial⟩
abbrev E_one (s:List UInt8)(at_:Nat)(size low c i:Int):Env:=[(0,.val (.str s)),(1,.val (.int .i64 at_)),(7,.val (.int .i64 size)),(8,.val (.int .i64 low)),(9,.val (.int .i64 c)),(10,.val (.int .i64 i))]
set_option maxHeartbeats 8000000 in
theorem one_wp (hm:MonoC C)(hch:∀c:Int,PF C 141 [.int .i64 c] (.bool (charB c))){s:List UInt8}{k:Nat}(hk:k<s.length)(hl:s.length<4611686018427387904) :
  wpF gt C F120 [.str s,.int .i64 k] St.init (Ret (encFirst (firstC (s.drop k)))):=by
 have zero:∀{S:St},firstC (s.drop k)=(0,0)->Ret (encFirst (firstC (s.drop k))) (.ret (.tup [.int .i64 0,.int .i64 0])) S:=λh=>by rw[h];exact Ret.sta ⟨trivial,trivial,trivial⟩
 have hs:s.drop k=s[k]::s.drop (k+1):=dC hk;have hgk:s[k]? = some s[k]:=gE hk;have hrl:(s.drop (k+1)).length=s.length-(k+1):=lD;have hf:firstC (s.drop k)=if (leadB s[k].toNat).1=0\/(s.drop (k+1)).length+1<(leadB s[k].toNat).1 then (0,0) else match contV ((leadB s[k].toNat).1-1) (s.drop (k+1)) (leadB s[k].toNat).2.1 with
   | none=>(0,0)
   | some c=>if c<(leadB s[k].toNat).2.2\/charB c=false then (0,0) else (c,(leadB s[k].toNat).1):=by rw[hs];rfl
 have hb:=u8_lt s[k];have hgr:∀i,1<=i->k+i<s.length->∃(h:i-1<(s.drop (k+1)).length),s[k+i]? = some (s.drop (k+1))[i-1]:=λi h1 h2=>by
  refine⟨by rw[hrl];omega,?_⟩;rw[<-gE,List.getElem?_drop,show k+1+(i-1)=k+i by omega]
 refine⟨rfl,?_⟩;refine goW ?_;refine step_ruleO (sx_ixS rfl rfl hgk) (goW ?_);rw[wrU8];generalize s[k]=b at hf hb ⊢;generalize s.drop (k+1)=r at hf hrl hgr ⊢;by_cases h0:(b.toNat:Int)<128
 ·rw[dT h0];refine goW ?_;refine⟨_,rfl,?_⟩;have hlb:leadB b.toNat=(1,b.toNat,0):=by unfold leadB;rw[if_pos (by omega)]
  rw[hlb]at hf;simp only[Nat.reduceEqDiff,false_or]at hf;rw[if_neg (by omega)]at hf;rw[show contV (1-1) r b.toNat=some b.toNat from rfl]at hf;simp only at hf;rw[if_neg (by simp[charB];omega)]at hf;rw[hf];exact Ret.sta ⟨trivial,trivial,trivial⟩
 rw[dF h0];refine goW ?_;by_cases h1:(b.toNat:Int) ≥ 192
 case neg =>
  rw[dF h1];refine goW ?_;have hz:leadB b.toNat=(0,0,0):=by unfold leadB;rw[if_neg (by omega),if_pos (by omega)]
  rw[show decide ((b.toNat:Int) ≥ 224)=false from dF (by omega)];refine goW ?_;rw[show decide ((b.toNat:Int) ≥ 240)=false from dF (by omega)];refine goW ?_;exact⟨_,rfl,zero (by rw[hf,if_pos (.inl (by rw[hz]))])⟩
 rw[dT h1];refine goW ?_;by_cases h2:(b.toNat:Int)<224
 ·rw[dT h2];refine goW ?_;have hlb:leadB b.toNat=(2,b.toNat-192,128):=by unfold leadB;simp only[show ¬b.toNat<128 by omega,show ¬b.toNat<192 by omega,if_false,show b.toNat<224 by omega,if_true]
  rw[hlb]at hf;simp only[Nat.reduceEqDiff,false_or]at hf;rw[show wr .i64 ((b.toNat:Int)-192)=((b.toNat-192:Nat):Int) by rw[wr64 (by omega) (by omega)];omega];generalize hbits:b.toNat-192=bits at hf ⊢;refine goW ?_;by_cases z2:wr .i64 ((k:Int)+2) > (s.length:Int)
  ·rw[dT z2];refine goW ?_;rw[wr64 (by omega) (by omega)]at z2;exact⟨_,rfl,zero (by rw[hf,if_pos (by omega)])⟩
  rw[dF z2];rw[wr64 (by omega) (by omega)]at z2;rw[if_neg (by omega)]at hf;refine goW ?_;have hlow:True:=trivial;refine loop_rule hm (α:=Nat×Nat) (λa env S'=>1<=a.1/\a.1<=2/\a.2<128*64 ^ (a.1-1)/\env=E_one s k 2 128 a.2 a.1/\S'=St.init/\contV (2-1) r bits=contV (2-a.1) (r.drop (a.1-1)) a.2) (λa=>2-a.1) ?_ (a:=(1,bits)) ⟨nR _,by simp only;omega,by simp only[Nat.sub_self,Nat.pow_zero];omega,rfl,rfl,rfl⟩;rintro⟨i,acc⟩ env S' ⟨h1,hi,hacc,rfl,rfl,hp⟩;simp only at h1 hi hacc hp;refine goW ?_;have hpow:64 ^ (i-1)<=64 ^ 3:=Nat.pow_le_pow_right (by decide) (by omega);have hsmall:acc<33554432:=by
   have:128*64 ^ (i-1)<=128*64 ^ 3:=Nat.mul_le_mul_left _ hpow;have e:128*64 ^ 3=33554432:=by decide
   omega
  by_cases hc:(i:Int)<2
  ·rw[dT hc];refine goW ?_;obtain⟨hik,hgb⟩:=hgr i h1 (by omega);rw[show 2-i=(2-(i+1))+1 by omega,contV_step hik]at hp;rw[show wr .i64 ((k:Int)+i)=((k+i:Nat):Int) by rw[wr64 (by omega) (by omega)];rfl];refine step_ruleO (sx_ixS (k:=k+i) rfl rfl hgb) (goW ?_);rw[wrU8];generalize r[i-1]=x at hp hgb ⊢;have hx:=u8_lt x;by_cases hx1:(x.toNat:Int)<128
   ·rw[dT hx1];refine goW ?_;rw[if_neg (by omega)]at hp;exact⟨_,rfl,zero (by rw[hf,hp])⟩
   rw[dF hx1];refine goW ?_;by_cases hx2:(x.toNat:Int) ≥ 192
   ·rw[dT hx2];refine goW ?_;rw[if_neg (by omega)]at hp;exact⟨_,rfl,zero (by rw[hf,hp])⟩
   rw[dF hx2];refine goW ?_;rw[if_pos ⟨by omega,by omega⟩]at hp;refine⟨(i+1,acc*64+(x.toNat-128)),⟨by simp only;omega,by simp only;omega,?_,?_,rfl,?_⟩,by simp only;omega⟩
   ·simp only;rw[show i+1-1=(i-1)+1 by omega,Nat.pow_succ];omega
   ·rw[wrNat (by omega),wr64 (n:=(acc:Int)*64) (by omega) (by omega),wr64 (n:=(acc:Int)*64+x.toNat) (by omega) (by omega),wr64 (n:=(acc:Int)*64+x.toNat-128) (by omega) (by omega),show (acc:Int)*64+x.toNat-128=((acc*64+(x.toNat-128):Nat):Int) by omega]
   ·simp only;rw[hp,show i+1-1=i-1+1 by omega]
  rw[dF hc];obtain rfl:i=2:=by omega
  rw[Nat.sub_self,show contV 0 (r.drop (2-1)) acc=some acc from rfl]at hp;simp only[hp]at hf;refine goW ?_;by_cases hle:(acc:Int)<128
  ·rw[dT hle];refine goW ?_;exact⟨_,rfl,zero (by rw[hf,if_pos (.inl (by omega))])⟩
  rw[dF hle];refine goW ?_;refine call_pf hm (by rfl) (hch acc) (goW ?_);cases hcb:charB acc with
  | false =>
   refine goW ?_;exact⟨_,rfl,zero (by rw[hf,if_pos (.inr hcb)])⟩
  | true =>
   refine goW ?_;refine⟨_,rfl,?_⟩;rw[hf,if_neg (by rw[hcb];simp;omega)];exact Ret.sta ⟨trivial,trivial,trivial⟩
 rw[dF h2];refine goW ?_;rw[show decide ((b.toNat:Int) ≥ 224)=true from dT (by omega)];refine goW ?_;by_cases h3:(b.toNat:Int)<240
 ·rw[dT h3];refine goW ?_;have hlb:leadB b.toNat=(3,b.toNat-224,2048):=by unfold leadB;simp only[show ¬b.toNat<128 by omega,show ¬b.toNat<192 by omega,if_false,show ¬b.toNat<224 by omega,show b.toNat<240 by omega,if_true]
  rw[hlb]at hf;simp only[Nat.reduceEqDiff,false_or]at hf;rw[show wr .i64 ((b.toNat:Int)-224)=((b.toNat-224:Nat):Int) by rw[wr64 (by omega) (by omega)];omega];generalize hbits:b.toNat-224=bits at hf ⊢;refine goW ?_;by_cases z2:wr .i64 ((k:Int)+3) > (s.length:Int)
  ·rw[dT z2];refine goW ?_;rw[wr64 (by omega) (by omega)]at z2;exact⟨_,rfl,zero (by rw[hf,if_pos (by omega)])⟩
  rw[dF z2];rw[wr64 (by omega) (by omega)]at z2;rw[if_neg (by omega)]at hf;refine goW ?_;have hlow:True:=trivial;refine loop_rule hm (α:=Nat×Nat) (λa env S'=>1<=a.1/\a.1<=3/\a.2<128*64 ^ (a.1-1)/\env=E_one s k 3 2048 a.2 a.1/\S'=St.init/\contV (3-1) r bits=contV (3-a.1) (r.drop (a.1-1)) a.2) (λa=>3-a.1) ?_ (a:=(1,bits)) ⟨nR _,by simp only;omega,by simp only[Nat.sub_self,Nat.pow_zero];omega,rfl,rfl,rfl⟩;rintro⟨i,acc⟩ env S' ⟨h1,hi,hacc,rfl,rfl,hp⟩;simp only at h1 hi hacc hp;refine goW ?_;have hpow:64 ^ (i-1)<=64 ^ 3:=Nat.pow_le_pow_right (by decide) (by omega);have hsmall:acc<33554432:=by
   have:128*64 ^ (i-1)<=128*64 ^ 3:=Nat.mul_le_mul_left _ hpow;have e:128*64 ^ 3=33554432:=by decide
   omega
  by_cases hc:(i:Int)<3
  ·rw[dT hc];refine goW ?_;obtain⟨hik,hgb⟩:=hgr i h1 (by omega);rw[show 3-i=(3-(i+1))+1 by omega,contV_step hik]at hp;rw[show wr .i64 ((k:Int)+i)=((k+i:Nat):Int) by rw[wr64 (by omega) (by omega)];rfl];refine step_ruleO (sx_ixS (k:=k+i) rfl rfl hgb) (goW ?_);rw[wrU8];generalize r[i-1]=x at hp hgb ⊢;have hx:=u8_lt x;by_cases hx1:(x.toNat:Int)<128
   ·rw[dT hx1];refine goW ?_;rw[if_neg (by omega)]at hp;exact⟨_,rfl,zero (by rw[hf,hp])⟩
   rw[dF hx1];refine goW ?_;by_cases hx2:(x.toNat:Int) ≥ 192
   ·rw[dT hx2];refine goW ?_;rw[if_neg (by omega)]at hp;exact⟨_,rfl,zero (by rw[hf,hp])⟩
   rw[dF hx2];refine goW ?_;rw[if_pos ⟨by omega,by omega⟩]at hp;refine⟨(i+1,acc*64+(x.toNat-128)),⟨by simp only;omega,by simp only;omega,?_,?_,rfl,?_⟩,by simp only;omega⟩
   ·simp only;rw[show i+1-1=(i-1)+1 by omega,Nat.pow_succ];omega
   ·rw[wrNat (by omega),wr64 (n:=(acc:Int)*64) (by omega) (by omega),wr64 (n:=(acc:Int)*64+x.toNat) (by omega) (by omega),wr64 (n:=(acc:Int)*64+x.toNat-128) (by omega) (by omega),show (acc:Int)*64+x.toNat-128=((acc*64+(x.toNat-128):Nat):Int) by omega]
   ·simp only;rw[hp,show i+1-1=i-1+1 by omega]
  rw[dF hc];obtain rfl:i=3:=by omega
  rw[Nat.sub_self,show contV 0 (r.drop (3-1)) acc=some acc from rfl]at hp;simp only[hp]at hf;refine goW ?_;by_cases hle:(acc:Int)<2048
  ·rw[dT hle];refine goW ?_;exact⟨_,rfl,zero (by rw[hf,if_pos (.inl (by omega))])⟩
  rw[dF hle];refine goW ?_;refine call_pf hm (by rfl) (hch acc) (goW ?_);cases hcb:charB acc with
  | false =>
   refine goW ?_;exact⟨_,rfl,zero (by rw[hf,if_pos (.inr hcb)])⟩
  | true =>
   refine goW ?_;refine⟨_,rfl,?_⟩;rw[hf,if_neg (by rw[hcb];simp;omega)];exact Ret.sta ⟨trivial,trivial,trivial⟩
 rw[dF h3];refine goW ?_;rw[show decide ((b.toNat:Int) ≥ 240)=true from dT (by omega)];refine goW ?_;by_cases h4:(b.toNat:Int)<248
 ·rw[dT h4];refine goW ?_;have hlb:leadB b.toNat=(4,b.toNat-240,65536):=by unfold leadB;simp only[show ¬b.toNat<128 by omega,show ¬b.toNat<192 by omega,if_false,show ¬b.toNat<224 by omega,show ¬b.toNat<240 by omega,show b.toNat<248 by omega,if_true]
  rw[hlb]at hf;simp only[Nat.reduceEqDiff,false_or]at hf;rw[show wr .i64 ((b.toNat:Int)-240)=((b.toNat-240:Nat):Int) by rw[wr64 (by omega) (by omega)];omega];generalize hbits:b.toNat-240=bits at hf ⊢;refine goW ?_;by_cases z2:wr .i64 ((k:Int)+4) > (s.length:Int)
  ·rw[dT z2];refine goW ?_;rw[wr64 (by omega) (by omega)]at z2;exact⟨_,rfl,zero (by rw[hf,if_pos (by omega)])⟩
  rw[dF z2];rw[wr64 (by omega) (by omega)]at z2;rw[if_neg (by omega)]at hf;refine goW ?_;generalize hlow:(65536:Int)=low;refine loop_rule hm (α:=Nat×Nat) (λa env S'=>1<=a.1/\a.1<=4/\a.2<128*64 ^ (a.1-1)/\env=E_one s k 4 low a.2 a.1/\S'=St.init/\contV (4-1) r bits=contV (4-a.1) (r.drop (a.1-1)) a.2) (λa=>4-a.1) ?_ (a:=(1,bits)) ⟨nR _,by simp only;omega,by simp only[Nat.sub_self,Nat.pow_zero];omega,rfl,rfl,rfl⟩;rintro⟨i,acc⟩ env S' ⟨h1,hi,hacc,rfl,rfl,hp⟩;simp only at h1 hi hacc hp;refine goW ?_;have hpow:64 ^ (i-1)<=64 ^ 3:=Nat.pow_le_pow_right (by decide) (by omega);have hsmall:acc<33554432:=by
   have:128*64 ^ (i-1)<=128*64 ^ 3:=Nat.mul_le_mul_left _ hpow;have e:128*64 ^ 3=33554432:=by decide
   omega
  by_cases hc:(i:Int)<4
  ·rw[dT hc];refine goW ?_;obtain⟨hik,hgb⟩:=hgr i h1 (by omega);rw[show 4-i=(4-(i+1))+1 by omega,contV_step hik]at hp;rw[show wr .i64 ((k:Int)+i)=((k+i:Nat):Int) by rw[wr64 (by omega) (by omega)];rfl];refine step_ruleO (sx_ixS (k:=k+i) rfl rfl hgb) (goW ?_);rw[wrU8];generalize r[i-1]=x at hp hgb ⊢;have hx:=u8_lt x;by_cases hx1:(x.toNat:Int)<128
   ·rw[dT hx1];refine goW ?_;rw[if_neg (by omega)]at hp;exact⟨_,rfl,zero (by rw[hf,hp])⟩
   rw[dF hx1];refine goW ?_;by_cases hx2:(x.toNat:Int) ≥ 192
   ·rw[dT hx2];refine goW ?_;rw[if_neg (by omega)]at hp;exact⟨_,rfl,zero (by rw[hf,hp])⟩
   rw[dF hx2];refine goW ?_;rw[if_pos ⟨by omega,by omega⟩]at hp;refine⟨(i+1,acc*64+(x.toNat-128)),⟨by simp only;omega,by simp only;omega,?_,?_,rfl,?_⟩,by simp only;omega⟩
   ·simp only;rw[show i+1-1=(i-1)+1 by omega,Nat.pow_succ];omega
   ·rw[wrNat (by omega),wr64 (n:=(acc:Int)*64) (by omega) (by omega),wr64 (n:=(acc:Int)*64+x.toNat) (by omega) (by omega),wr64 (n:=(acc:Int)*64+x.toNat-128) (by omega) (by omega),show (acc:Int)*64+x.toNat-128=((acc*64+(x.toNat-128):Nat):Int) by omega]
   ·simp only;rw[hp,show i+1-1=i-1+1 by omega]
  rw[dF hc];obtain rfl:i=4:=by omega
  rw[Nat.sub_self,show contV 0 (r.drop (4-1)) acc=some acc from rfl]at hp;simp only[hp]at hf;refine goW ?_;by_cases hle:(acc:Int)<low
  ·rw[dT hle];refine goW ?_;exact⟨_,rfl,zero (by rw[hf,if_pos (.inl (by omega))])⟩
  rw[dF hle];refine goW ?_;refine call_pf hm (by rfl) (hch acc) (goW ?_);cases hcb:charB acc with
  | false =>
   refine goW ?_;exact⟨_,rfl,zero (by rw[hf,if_pos (.inr hcb)])⟩
  | true =>
   refine goW ?_;refine⟨_,rfl,?_⟩;rw[hf,if_neg (by rw[hcb];simp;omega)];exact Ret.sta ⟨trivial,trivial,trivial⟩
 rw[dF h4];refine goW ?_;have hz:leadB b.toNat=(0,0,0):=by unfold leadB;simp only[show ¬b.toNat<128 by omega,show ¬b.toNat<192 by omega,show ¬b.toNat<224 by omega,show ¬b.toNat<240 by omega,show ¬b.toNat<248 by omega,if_false]
 exact⟨_,rfl,zero (by rw[hf,if_pos (.inl (by rw[hz]))])⟩
end

theorem sx_lkpS {gt:GT}{d:Option Nat}{env:Env}{S:St}{R:List Rs}{m k:DOpd}{z:AV}{id:Nat}{l:List (List UInt8×Int)}{s:List UInt8}(hR:Hs S R)(i:Nat)(hi:R[i]? = some (.mp id (mpE l)))(hm:opd env m=some (.map id))(hk:opd env k=some (.str s)) :
  stepO gt d env S (.lkp .str z m k false)=.done (putV d (match posS s l 0 with | some p=>.int .i64 p.2 | none=>z) env) S:=by
 have hl:=(hR.ok i _ hi).2;simp only[stepO,hm,hk,keyV,cond_true,hl,fk];cases posS s l 0<;>rfl
def putS (s:List UInt8)(v:Int)(l:List (List UInt8×Int)):List (List UInt8×Int) :=
 match posS s l 0 with
 | some p=>l.set p.1 (s,v)
 | none=>l++[(s,v)]
theorem r_mupS {gt:GT}{d:Option Nat}{env:Env}{S:St}{R:List Rs}{m k x:DOpd}{id:Nat}{l:List (List UInt8×Int)}{s:List UInt8}{v:Int}(hR:Hs S R)(i:Nat)(hi:R[i]? = some (.mp id (mpE l)))(hm:opd env m=some (.map id))(hk:opd env k=some (.str s))(hx:opd env x=some (.int .i64 v)) :
  ∃S',stepO gt d env S (.mup .str m k x)=.done (putV d .undef env) S'/\Hs S' (R.set i (.mp id (mpE (putS s v l)))):=by
 have hl:=(hR.ok i _ hi).2;refine⟨_,?_,hR.mapTo hi (mpE (putS s v l))⟩;simp only[stepO,hm,hk,hx,keyV,cond_true,hl,fk,putS];cases hp:posS s l 0 with
 | none=>simp only[Option.map_none];simp[mpE]
 | some p =>
  obtain⟨j,w⟩:=p;obtain⟨_,h2,h3⟩:=posS_lt hp;rw[Nat.sub_zero]at h3;have:keyAt .str (mpE l) j=true:=by simp[keyAt,mpE,h3,keyV]
  simp only[Option.map_some,this,cond_true];simp[mpE,List.map_set]
def unlikeB:List (List UInt8)->List (List UInt8)->Bool
 | _,[]=>true
 | seen,s::r=>if s∈seen then false else validB s && unlikeB (seen++[s]) r
theorem hs_mkm0:Hs { St.init with nm:=St.init.nm+1,maps:=(St.init.nm,[])::St.init.maps } [.mp St.init.nm []]:=by
 obtain⟨id,S',e,h⟩:=hs_mkm (gt:=[]) (d:=none) (env:=[]) Hs.init;simp only[stepO,SR.done.injEq]at e;obtain⟨_,rfl⟩:=e;have h2:=(h.ok 0 _ rfl).2;have h1:=(h.ok 0 _ rfl).1;have:id=0:=by simp[St.init]at h1;omega
 subst this;exact h
def ones (l:List (List UInt8)):List (List UInt8×Int):=l.map λs=>(s,1)
theorem posS_ones {s:List UInt8}{l:List (List UInt8)}(h:s∈l):∃j,posS s (ones l) 0=some (j,1):=by
 cases hp:posS s (ones l) 0 with
 | none =>
  have:=posS_none.1 hp;simp[ones]at this;exact absurd h this
 | some p =>
  obtain⟨j,v⟩:=p;obtain⟨_,_,h3⟩:=posS_lt hp;simp only[ones,List.getElem?_map,Option.map_eq_some_iff,Prod.mk.injEq]at h3;obtain⟨_,_,_,rfl⟩:=h3;exact⟨j,rfl⟩
theorem posS_no {s:List UInt8}{l:List (List UInt8)}(h:s ∉ l):posS s (ones l) 0=none:=posS_none.2 (by simp[ones];exact h)
section
variable {gt:GT}{C:CallT}
abbrev E_unl (id:Nat)(keys:List (List UInt8))(i:Int):Env:=[(3,.val (.map id)),(7,.val (.sl 1 stat (strs keys))),(8,.val (.int .i64 (strs keys).length)),(9,.val (.int .i64 i))]
set_option maxHeartbeats 4000000 in
theorem unlike_wp (hm:MonoC C)(hv:∀s:List UInt8,s.length<4611686018427387904->PF C 68 [.str s] (.bool (validB s))){keys:List (List UInt8)}(hk:∀s∈keys,s.length<4611686018427387904)(hl:keys.length<9223372036854775807) :
  wpF gt C F69 [.sl 1 stat (strs keys)] St.init (Ret (.bool (unlikeB [] keys))):=by
 have hlen:=strs_length keys;refine⟨rfl,?_⟩;refine goW ?_;have hR:=hs_mkm0;refine loop_rule hm (α:=Nat) (λi env S'=>i<=keys.length/\Hs S' [.mp 0 (mpE (ones (keys.take i)))]/\env=E_unl 0 keys i/\unlikeB [] keys=unlikeB (keys.take i) (keys.drop i)) (λi=>keys.length-i) ?_ (a:=0) ⟨Nat.zero_le _,hR,rfl,rfl⟩;rintro i env S' ⟨hi,hR,rfl,hp⟩;refine goW ?_;by_cases hc:(i:Int)<(strs keys).length
 ·rw[dT hc];refine goW ?_;have hik:i<keys.length:=by omega
  refine step_ruleO (sx_ia (k:=i) rfl rfl (by omega)) (goW ?_);have hge:(strs keys)[i]? = some (.str keys[i]):=by simp[strs,hik]
  refine step_ruleO (sx_ldEl (agg:=false) rfl rfl hge rfl) (goW ?_);have hkl:=hk keys[i] (List.getElem_mem hik);have htk:keys.take (i+1)=keys.take i++[keys[i]]:=tS hik;rw[dC hik]at hp;simp only[unlikeB]at hp;generalize keys[i]=s at hp hkl htk ⊢;refine step_ruleO (sx_lkpS hR 0 rfl rfl rfl) ?_;by_cases hs:s∈keys.take i
  ·obtain⟨j,hj⟩:=posS_ones hs;rw[if_pos hs]at hp;rw[hj];refine goW ?_;rw[show wr .i64 ((1:Int)+1)=2 from rfl];refine st_runP (r_mupS hR 0 rfl rfl rfl rfl) trivial ?_;intro S2 hR;refine goW ?_;refine step_ruleO (sx_lkpS hR 0 rfl rfl rfl) ?_;rw[show posS s (putS s 2 (ones (keys.take i))) 0=some (j,2) by unfold putS;rw[hj];exact posS_set hj];refine goW ?_;exact⟨_,rfl,by rw[hp];exact Ret.sta trivial⟩
  ·have hj:=posS_no hs;rw[if_neg hs]at hp;rw[hj];refine goW ?_;rw[show wr .i64 ((0:Int)+1)=1 from rfl];refine st_runP (r_mupS hR 0 rfl rfl rfl rfl) trivial ?_;intro S2 hR;refine goW ?_;refine step_ruleO (sx_lkpS hR 0 rfl rfl rfl) ?_;have hput:putS s 1 (ones (keys.take i))=ones (keys.take (i+1)):=by unfold putS;rw[hj,htk];simp[ones]
   rw[show posS s (putS s 1 (ones (keys.take i))) 0=some (0+(ones (keys.take i)).length,1) by unfold putS;rw[hj];exact posS_app hj];rw[hput]at hR;refine goW ?_;refine call_pf hm (by rfl) (hv s hkl) (goW ?_);cases hvb:validB s with
   | false =>
    refine goW ?_;exact⟨_,rfl,by rw[hp,hvb];exact Ret.sta trivial⟩
   | true =>
    refine goW ?_;rw[hvb,Bool.true_and]at hp;refine⟨i+1,⟨by omega,hR,?_,by rw[hp,htk]⟩,by omega⟩;rw[wrNat (by omega)]
 ·rw[dF hc];refine goW ?_;refine⟨_,rfl,?_⟩;rw[hp,List.drop_eq_nil_of_le (by omega)];exact Ret.sta trivial
end

def shapeB (k:Int)(s:List UInt8)(keys:List (List UInt8))(n:Nat):Bool :=
 if k=1 then (decide (keys.length=0) && decide (n=0)) && beqB s []
 else if k=2 then (decide (keys.length=0) && decide (n=0)) && (beqB s [116,114,117,101] || beqB s [102,97,108,115,101])
 else if k=3 then (decide (keys.length=0) && decide (n=0)) && (decide ((normB s).2=0) && beqB (normB s).1 s)
 else if k=4 then (decide (keys.length=0) && decide (n=0)) && validB s
 else if k=5 then (decide (keys.length=0) && decide (n=0)) && timeB s
 else if k=6 then beqB s [] && decide (keys.length=0)
 else if k=7 then beqB s [] && (decide (keys.length=n) && unlikeB [] keys)
 else false
mutual
def formedB:PT->Bool
 |.mk k s keys kids=>formedBs kids && shapeB k s keys kids.length
def formedBs:List PT->Bool
 | []=>true
 | t::r=>formedB t && formedBs r
end
mutual
def PT.sok:PT->Prop
 |.mk _ s keys kids=>s.length<4294967281/\(∀q∈keys,q.length<4294967281)/\keys.length<4611686018427387904/\kids.length<4611686018427387904/\PT.soks kids
def PT.soks:List PT->Prop
 | []=>True
 | t::r=>PT.sok t/\PT.soks r
end

theorem PT.soks_get:∀{l:List PT} {i:Nat} (h:i<l.length),PT.soks l->(l[i]).sok
 | a::r,0,_,h=>by simp only[PT.soks]at h;exact h.1
 | a::r,i+1,hi,h=>by simp only[PT.soks]at h;exact PT.soks_get (l:=r) (i:=i) (by simpa using hi) h.2
section
variable {gt:GT}{C:CallT}
abbrev E_formed (t:PT)(kids:List PT)(i:Int):Env:=[(1,.box (encT t).cells),(9,.val (.sl 4 stat (encTs kids))),(10,.val (.int .i64 (encTs kids).length)),(11,.val (.int .i64 i))]
set_option maxHeartbeats 16000000 in
theorem formed_wp (hm:MonoC C)(hn:∀s:List UInt8,s.length<4294967281->PF C 67 [.str s] (encJoin (normB s)))(hv:∀s:List UInt8,s.length<4294967281->PF C 68 [.str s] (.bool (validB s)))
  (ht:∀s:List UInt8,s.length<4294967281->PF C 64 [.str s] (.bool (timeB s))) (hu:∀keys:List (List UInt8),(∀s∈keys,s.length<4294967281)->keys.length<9223372036854775807->PF C 69 [.sl 1 stat (strs keys)] (.bool (unlikeB [] keys)))
  {t:PT} (ih:∀u,u.n<t.n->u.sok->PF C 43 [encT u] (.bool (formedB u))) (hk:t.sok):wpF gt C F43 [encT t] St.init (Ret (.bool (formedB t))):=by
 obtain⟨k,s,keys,kids⟩:=t;simp only[PT.sok]at hk;obtain⟨q1,q2,q3,q5,q4⟩:=hk;have ret:∀{z:Bool} {S:St},formedB (.mk k s keys kids)=z->Ret (.bool (formedB (.mk k s keys kids))) (.ret (.bool z)) S:=λh=>by rw[h];exact Ret.sta trivial
 have hf:formedB (.mk k s keys kids)=(formedBs kids && shapeB k s keys kids.length):=rfl;generalize formedB (.mk k s keys kids)=res at ret hf ⊢;have l1:=encTs_len kids;have l2:=strs_length keys;refine⟨rfl,?_⟩;refine goW ?_;refine loop_rule hm (α:=Nat) (λi env S'=>i<=kids.length/\env=E_formed (.mk k s keys kids) kids i/\S'=St.init/\formedBs kids=formedBs (kids.drop i)) (λi=>kids.length-i) ?_ (a:=0) ⟨Nat.zero_le _,rfl,rfl,rfl⟩;rintro i env S' ⟨hi,rfl,rfl,hp⟩;refine goW ?_;by_cases hc:(i:Int)<(encTs kids).length
 ·rw[dT hc];refine goW ?_;have hik:i<kids.length:=by omega
  refine step_ruleO (sx_ia (k:=i) rfl rfl (by omega)) (goW ?_);refine step_ruleO (sx_ldEl (agg:=true) rfl rfl (encTs_get hik) (rdT _)) ?_;have ihk:=ih _ (kid_lt hik) (PT.soks_get hik q4);obtain⟨ka,sa,xa,ya,he⟩:=encT_agg kids[i];rw[he]at ihk ⊢;rw[dC hik]at hp;simp only[formedBs]at hp;generalize formedB kids[i]=fk at ihk hp;refine goW ?_;refine call_pf hm (by rfl) ihk (goW ?_);cases fk with
  | false =>
   refine goW ?_;exact⟨_,rfl,ret (by rw[hf,hp];rfl)⟩
  | true =>
   refine goW ?_;refine⟨i+1,⟨by omega,?_,rfl,by rw[hp,Bool.true_and]⟩,by omega⟩;rw[wrNat (by omega)]
 rw[dF hc];rw[hp,List.drop_eq_nil_of_le (by omega)]at hf;simp only[formedBs,Bool.true_and]at hf
 clear hp
 refine goW ?_;have fin:∀bare:Bool,bare=(decide (keys.length=0) && decide (kids.length=0))->∀x:Env,wpD gt C F43.body.rt.rt.rt ((1,.box (encT (.mk k s keys kids)).cells)::(5,.val (.bool bare))::x) St.init (bodyQ gt F43.res (Ret (.bool res))):=λbare hb x=>by
  unfold shapeB at hf;rw[<-hb]at hf
  conv=>whnf
  refine goW ?_;by_cases k1:k=1
  ·rw[eqI_true k1];rw[if_pos k1]at hf;refine goW ?_;cases bare with
   | false =>
    refine goW ?_;exact⟨_,rfl,ret hf⟩
   | true =>
    refine goW ?_;exact⟨_,rfl,ret hf⟩
  rw[eqI_false k1];rw[if_neg k1]at hf;refine goW ?_;by_cases k2:k=2
  ·rw[eqI_true k2];rw[if_pos k2]at hf;refine goW ?_;cases bare with
   | false =>
    refine goW ?_;exact⟨_,rfl,ret hf⟩
   | true =>
    refine goW ?_;cases hb1:beqB s [116,114,117,101] with
    | true =>
     rw[hb1]at hf;refine goW ?_;exact⟨_,rfl,ret hf⟩
    | false =>
     rw[hb1]at hf;refine goW ?_;exact⟨_,rfl,ret hf⟩
  rw[eqI_false k2];rw[if_neg k2]at hf;refine goW ?_;by_cases k3:k=3
  ·rw[eqI_true k3];rw[if_pos k3]at hf;refine goW ?_;have hns:=hn s q1;generalize normB s=nb at hns hf;obtain⟨ns,ne⟩:=nb;simp only at hf;refine call_pf hm (by rfl) hns (goW ?_);cases bare with
   | false =>
    refine goW ?_;exact⟨_,rfl,ret hf⟩
   | true =>
    refine goW ?_;by_cases he:ne=0
    ·rw[eqI_true he];rw[dT he]at hf;refine goW ?_;exact⟨_,rfl,ret hf⟩
    ·rw[eqI_false he];rw[dF he]at hf;refine goW ?_;exact⟨_,rfl,ret hf⟩
  rw[eqI_false k3];rw[if_neg k3]at hf;refine goW ?_;by_cases k4:k=4
  ·rw[eqI_true k4];rw[if_pos k4]at hf;refine goW ?_;cases bare with
   | false =>
    refine goW ?_;exact⟨_,rfl,ret hf⟩
   | true =>
    refine goW ?_;refine call_pf hm (by rfl) (hv s q1) (goW ?_);exact⟨_,rfl,ret hf⟩
  rw[eqI_false k4];rw[if_neg k4]at hf;refine goW ?_;by_cases k5:k=5
  ·rw[eqI_true k5];rw[if_pos k5]at hf;refine goW ?_;cases bare with
   | false =>
    refine goW ?_;exact⟨_,rfl,ret hf⟩
   | true =>
    refine goW ?_;refine call_pf hm (by rfl) (ht s q1) (goW ?_);exact⟨_,rfl,ret hf⟩
  rw[eqI_false k5];rw[if_neg k5]at hf;refine goW ?_;by_cases k6:k=6
  ·rw[eqI_true k6];rw[if_pos k6]at hf;refine goW ?_;cases hs:beqB s [] with
   | false =>
    rw[hs]at hf;refine goW ?_;exact⟨_,rfl,ret hf⟩
   | true =>
    rw[hs]at hf;refine goW ?_;refine⟨_,rfl,ret ?_⟩;rw[hf,Bool.true_and,l2,Bool.eq_iff_iff];simp
  rw[eqI_false k6];rw[if_neg k6]at hf;refine goW ?_;by_cases k7:k=7
  ·rw[eqI_true k7];rw[if_pos k7]at hf;refine goW ?_;cases hs:beqB s [] with
   | false =>
    rw[hs]at hf;refine goW ?_;exact⟨_,rfl,ret hf⟩
   | true =>
    rw[hs]at hf;refine goW ?_;by_cases hkk:keys.length=kids.length
    ·rw[eqI_true (show (((strs keys).length:Nat):Int)=(encTs kids).length by omega)];rw[dT hkk]at hf;refine goW ?_;refine call_pf hm (by rfl) (hu keys q2 (by omega)) (goW ?_);exact⟨_,rfl,ret hf⟩
    ·rw[eqI_false (show ¬(((strs keys).length:Nat):Int)=(encTs kids).length by omega)];rw[dF hkk]at hf;refine goW ?_;exact⟨_,rfl,ret hf⟩
  rw[eqI_false k7];rw[if_neg k7]at hf;refine goW ?_;exact⟨_,rfl,ret hf⟩
 by_cases b1:keys.length=0
 ·rw[eqI_true (show (((strs keys).length:Nat):Int)=0 by omega)];refine goK ?_
  with_unfolding_all exact fin (((encTs kids).length:Int) == 0) (by rw[dT b1,Bool.true_and,l1,Bool.eq_iff_iff];simp) _
 ·rw[eqI_false (show ¬(((strs keys).length:Nat):Int)=0 by omega)];refine goK ?_
  with_unfolding_all exact fin false (by rw[dF b1];rfl) _
end

mutual
def PT.dp:PT->Nat
 |.mk _ _ _ kids=>PT.dps kids+1
def PT.dps:List PT->Nat
 | []=>0
 | t::r=>max (PT.dp t) (PT.dps r)
end
mutual
theorem PT.dp_le:∀t:PT,t.dp<=t.n
 |.mk _ _ _ kids=>by have:=PT.dps_le kids;simp only[PT.dp,PT.n];omega
theorem PT.dps_le:∀l:List PT,PT.dps l<=PT.ns l
 | []=>nR _
 | t::r=>by have:=PT.dp_le t;have:=PT.dps_le r;simp only[PT.dps,PT.ns];omega
end
theorem PT.dps_app:∀a b:List PT,PT.dps (a++b)=max (PT.dps a) (PT.dps b)
 | [],b=>by simp[PT.dps]
 | t::r,b=>by simp only[List.cons_append,PT.dps,PT.dps_app r b];omega
theorem PT.len_ns:∀l:List PT,l.length<=PT.ns l
 | []=>nR _
 | t::r=>by
  have:=PT.len_ns r;have:1<=t.n:=by cases t;simp only[PT.n];omega
  simp only[PT.ns,lC];omega
section
variable {gt:GT}{C:CallT}
end

def rightB (t:PT):Int:=if 64<t.dp then 4 else if 4096<t.n then 3 else if formedB t=true then 0 else 1
section
variable {gt:GT}{C:CallT}
end

theorem u8_beqN (b c:UInt8):Nat.beq b.toNat c.toNat=(b == c):=by
 rw[Bool.eq_iff_iff,Nat.beq_eq,beq_iff_eq,UInt8.toNat_inj]
theorem cutC_idx (c:UInt8):∀(s:List UInt8) (i:Nat),(idxB c s i=-1/\cutC c s=(s,[],false))\/∃j:Nat,j<s.length/\idxB c s i=((i+j:Nat):Int)/\cutC c s=(s.take j,s.drop (j+1),true)
 | [],i=>.inl ⟨rfl,rfl⟩
 | b::r,i=>by
  by_cases h:(b == c)=true
  ·right
   refine⟨0,by simp,?_,?_⟩
   ·simp only[idxB,u8_beqN,h,cond_true,Nat.add_zero]
   ·simp only[cutC,h,if_true,List.take_zero,Nat.zero_add,List.drop_succ_cons,List.drop_zero]
  ·have h':(b == c)=false:=by simpa using h
   rcases cutC_idx c r (i+1) with⟨h1,h2⟩ | ⟨j,hj,h1,h2⟩
   ·left
    refine⟨by simp only[idxB,u8_beqN,h',cond_false];exact h1,?_⟩;simp only[cutC,h',h2,Bool.false_eq_true,if_false]
   ·right
    refine⟨j+1,by simp only[lC];omega,?_,?_⟩
    ·simp only[idxB,u8_beqN,h',cond_false,h1];omega
    ·simp only[cutC,h',h2,Bool.false_eq_true,if_false,List.take_succ_cons,List.drop_succ_cons]
section
variable {gt:GT}{C:CallT}
set_option maxHeartbeats 2000000 in
theorem idxByte_wp {s:List UInt8}{c:UInt8}:wpF gt C F147 [.str s,.int .u8 c.toNat] St.init (Ret (.int .i64 (idxB c s 0))):=by
 refine⟨rfl,?_⟩;refine goW ?_;refine⟨_,rfl,?_⟩;rw[Int.toNat_natCast,UInt8.ofNat_toNat];exact Ret.sta trivial
set_option maxHeartbeats 2000000 in
theorem idx1_wp (hm:MonoC C)(hb:∀(s:List UInt8) (c:UInt8),PF C 147 [.str s,.int .u8 c.toNat] (.int .i64 (idxB c s 0))){s:List UInt8}:wpF gt C F131 [.str s,.str [84]] St.init (Ret (.int .i64 (idxB 84 s 0))):=by
 refine⟨rfl,?_⟩;refine goW ?_;by_cases h:([84]:List UInt8)=s
 ·rw[beqB_true h];subst h;refine goW ?_;exact⟨_,rfl,Ret.sta (u:=.int .i64 0) trivial⟩
 ·rw[beqB_false h];refine goW ?_;refine call_pf hm (by rfl) (hb s 84) (goW ?_);exact⟨_,rfl,Ret.sta trivial⟩
set_option maxHeartbeats 2000000 in
theorem cutL_wp (hm:MonoC C)(hi:∀s:List UInt8,PF C 131 [.str s,.str [84]] (.int .i64 (idxB 84 s 0))){s:List UInt8}(hl:s.length<4611686018427387904) :
  wpF gt C F108 [.str s,.str [84]] St.init (Ret (.tup [.str (cutC 84 s).1,.str (cutC 84 s).2.1,.bool (cutC 84 s).2.2])):=by
 have hi:=hi s;have hc:=cutC_idx 84 s 0;refine⟨rfl,?_⟩;refine goW ?_;refine call_pf hm (by rfl) hi ?_;rcases hc with⟨h1,h2⟩ | ⟨j,hj,h1,h2⟩
 ·rw[h1,h2];refine goW ?_;exact⟨_,rfl,Ret.sta ⟨trivial,trivial,trivial,trivial⟩⟩
 ·rw[h1,h2,Nat.zero_add];refine goW ?_;rw[dT (show (j:Int) ≥ 0 by omega)];refine goW ?_;refine step_ruleDO rfl rfl (sx_slHiS (h:=j) rfl rfl (by omega)) (goW ?_);rw[show wr .i64 ((j:Int)+(([84]:List UInt8).length:Int))=((j+1:Nat):Int) from wrNat (by omega)];refine step_ruleDO rfl rfl (sx_slLo (l:=j+1) rfl rfl (by omega)) (goW ?_);exact⟨_,rfl,Ret.sta ⟨trivial,trivial,trivial,trivial⟩⟩
set_option maxHeartbeats 2000000 in
theorem cutS_wp (hm:MonoC C){s:List UInt8}(h:PF C 108 [.str s,.str [84]] (.tup [.str (cutC 84 s).1,.str (cutC 84 s).2.1,.bool (cutC 84 s).2.2])) :
  wpF gt C F86 [.str s,.str [84]] St.init (Ret (.tup [.str (cutC 84 s).1,.str (cutC 84 s).2.1,.bool (cutC 84 s).2.2])):=by
 generalize cutC 84 s=q at h ⊢;obtain⟨a,b,c⟩:=q;refine⟨rfl,?_⟩;refine goW ?_;refine call_pf hm (by rfl) h (goW ?_);exact⟨_,rfl,Ret.sta ⟨trivial,trivial,trivial,trivial⟩⟩
end
end Go.Dn

namespace Go.Proofs.YtbojekglccdajaaGreatDoor
open Go.Shelf
def Tryz.lays161_ren:Go.Shelf.Ren:=⟨λ| 161=>111 | 231=>123 | 227=>125 | 233=>126 | 235=>128 | 228=>143 | 197=>144 | 151=>145 | 260=>158 | 152=>159 | 137=>173 | 119=>174 | 224=>149 | 225=>148 | 217=>147 | 266=>161 | n=>n,λ| 9=>9 | 4=>4 | 3=>3 | 5=>5 | 117=>158 | 116=>157 | 0=>0 | 124=>161 | 105=>167 | 21=>21 | 119=>190 | 46=>140 | 139=>193 | 138=>192 | n=>n,λ| 3=>1 | 4=>2 | n=>n⟩
theorem Tryz.lays161:Go.Proofs.Lays.n161 Tryz.prog Tryz.lays161_ren where
 mixed:=by kernel_rfl
 f119:=Tryz.func174.trans (congrArg some (by kernel_rfl))
 f137:=Tryz.func173.trans (congrArg some (by kernel_rfl))
 f151:=Tryz.func145.trans (congrArg some (by kernel_rfl))
 f152:=Tryz.func159.trans (congrArg some (by kernel_rfl))
 f161:=Tryz.func111.trans (congrArg some (by kernel_rfl))
 f197:=Tryz.func144.trans (congrArg some (by kernel_rfl))
 f217:=Tryz.func147.trans (congrArg some (by kernel_rfl))
 f224:=Tryz.func149.trans (congrArg some (by kernel_rfl))
 f225:=Tryz.func148.trans (congrArg some (by kernel_rfl))
 f227:=Tryz.func125.trans (congrArg some (by kernel_rfl))
 f228:=Tryz.func143.trans (congrArg some (by kernel_rfl))
 f231:=Tryz.func123.trans (congrArg some (by kernel_rfl))
 f233:=Tryz.func126.trans (congrArg some (by kernel_rfl))
 f235:=Tryz.func128.trans (congrArg some (by kernel_rfl))
 f260:=Tryz.func158.trans (congrArg some (by kernel_rfl))
 f266:=Tryz.func161.trans (congrArg some (by kernel_rfl))
 t0:=Tryz.underlying0
 a0:=Tryz.isAgg0
 z0:=Tryz.sizeOf0
 v0:=Tryz.zeroValue0
 t3:=Tryz.underlying3
 a3:=Tryz.isAgg3
 z3:=Tryz.sizeOf3
 v3:=Tryz.zeroValue3
 t4:=Tryz.underlying4
 a4:=Tryz.isAgg4
 z4:=Tryz.sizeOf4
 v4:=Tryz.zeroValue4
 t5:=Tryz.underlying5
 a5:=Tryz.isAgg5
 z5:=Tryz.sizeOf5
 v5:=Tryz.zeroValue5
 t9:=Tryz.underlying9
 a9:=Tryz.isAgg9
 z9:=Tryz.sizeOf9
 v9:=Tryz.zeroValue9
 t21:=Tryz.underlying21
 a21:=Tryz.isAgg21
 z21:=Tryz.sizeOf21
 v21:=Tryz.zeroValue21
 t46:=Tryz.underlying140
 a46:=Tryz.isAgg140
 z46:=Tryz.sizeOf140
 v46:=Tryz.zeroValue140
 t105:=Tryz.underlying167
 a105:=Tryz.isAgg167
 z105:=Tryz.sizeOf167
 v105:=Tryz.zeroValue167
 t116:=Tryz.underlying157
 a116:=Tryz.isAgg157
 z116:=Tryz.sizeOf157
 t117:=Tryz.underlying158
 a117:=Tryz.isAgg158
 z117:=Tryz.sizeOf158
 v117:=Tryz.zeroValue158
 t119:=Tryz.underlying190
 a119:=Tryz.isAgg190
 z119:=Tryz.sizeOf190
 t124:=Tryz.underlying161
 a124:=Tryz.isAgg161
 z124:=Tryz.sizeOf161
 v124:=Tryz.zeroValue161
 t138:=Tryz.underlying192
 a138:=Tryz.isAgg192
 z138:=Tryz.sizeOf192
 v138:=Tryz.zeroValue192
 t139:=Tryz.underlying193
 a139:=Tryz.isAgg193
 z139:=Tryz.sizeOf193
 v139:=Tryz.zeroValue193
 g3:=by kernel_rfl
 g4:=by kernel_rfl
def Tryz.lays162_ren:Go.Shelf.Ren:=⟨λ| 162=>112 | 232=>124 | 227=>125 | 234=>127 | 236=>129 | 228=>143 | 271=>146 | 151=>145 | 120=>160 | 197=>144 | 152=>159 | 260=>158 | 137=>173 | 119=>174 | 224=>149 | 225=>148 | 217=>147 | 266=>161 | n=>n,λ| 9=>9 | 4=>4 | 3=>3 | 5=>5 | 117=>158 | 116=>157 | 0=>0 | 124=>161 | 21=>21 | 105=>167 | 46=>140 | 119=>190 | 139=>193 | 138=>192 | n=>n,λ| 3=>1 | 4=>2 | n=>n⟩
theorem Tryz.lays162:Go.Proofs.Lays.n162 Tryz.prog Tryz.lays162_ren where
 mixed:=by kernel_rfl
 f119:=Tryz.func174.trans (congrArg some (by kernel_rfl))
 f120:=Tryz.func160.trans (congrArg some (by kernel_rfl))
 f137:=Tryz.func173.trans (congrArg some (by kernel_rfl))
 f151:=Tryz.func145.trans (congrArg some (by kernel_rfl))
 f152:=Tryz.func159.trans (congrArg some (by kernel_rfl))
 f162:=Tryz.func112.trans (congrArg some (by kernel_rfl))
 f197:=Tryz.func144.trans (congrArg some (by kernel_rfl))
 f217:=Tryz.func147.trans (congrArg some (by kernel_rfl))
 f224:=Tryz.func149.trans (congrArg some (by kernel_rfl))
 f225:=Tryz.func148.trans (congrArg some (by kernel_rfl))
 f227:=Tryz.func125.trans (congrArg some (by kernel_rfl))
 f228:=Tryz.func143.trans (congrArg some (by kernel_rfl))
 f232:=Tryz.func124.trans (congrArg some (by kernel_rfl))
 f234:=Tryz.func127.trans (congrArg some (by kernel_rfl))
 f236:=Tryz.func129.trans (congrArg some (by kernel_rfl))
 f260:=Tryz.func158.trans (congrArg some (by kernel_rfl))
 f266:=Tryz.func161.trans (congrArg some (by kernel_rfl))
 f271:=Tryz.func146.trans (congrArg some (by kernel_rfl))
 t0:=Tryz.underlying0
 a0:=Tryz.isAgg0
 z0:=Tryz.sizeOf0
 v0:=Tryz.zeroValue0
 t3:=Tryz.underlying3
 a3:=Tryz.isAgg3
 z3:=Tryz.sizeOf3
 v3:=Tryz.zeroValue3
 t4:=Tryz.underlying4
 a4:=Tryz.isAgg4
 z4:=Tryz.sizeOf4
 v4:=Tryz.zeroValue4
 t5:=Tryz.underlying5
 a5:=Tryz.isAgg5
 z5:=Tryz.sizeOf5
 v5:=Tryz.zeroValue5
 t9:=Tryz.underlying9
 a9:=Tryz.isAgg9
 z9:=Tryz.sizeOf9
 v9:=Tryz.zeroValue9
 t21:=Tryz.underlying21
 a21:=Tryz.isAgg21
 z21:=Tryz.sizeOf21
 v21:=Tryz.zeroValue21
 t46:=Tryz.underlying140
 a46:=Tryz.isAgg140
 z46:=Tryz.sizeOf140
 v46:=Tryz.zeroValue140
 t105:=Tryz.underlying167
 a105:=Tryz.isAgg167
 z105:=Tryz.sizeOf167
 v105:=Tryz.zeroValue167
 t116:=Tryz.underlying157
 a116:=Tryz.isAgg157
 z116:=Tryz.sizeOf157
 t117:=Tryz.underlying158
 a117:=Tryz.isAgg158
 z117:=Tryz.sizeOf158
 v117:=Tryz.zeroValue158
 t119:=Tryz.underlying190
 a119:=Tryz.isAgg190
 z119:=Tryz.sizeOf190
 t124:=Tryz.underlying161
 a124:=Tryz.isAgg161
 z124:=Tryz.sizeOf161
 v124:=Tryz.zeroValue161
 t138:=Tryz.underlying192
 a138:=Tryz.isAgg192
 z138:=Tryz.sizeOf192
 v138:=Tryz.zeroValue192
 t139:=Tryz.underlying193
 a139:=Tryz.isAgg193
 z139:=Tryz.sizeOf193
 v139:=Tryz.zeroValue193
 g3:=by kernel_rfl
 g4:=by kernel_rfl
def Tryz.lays160_ren:Go.Shelf.Ren:=⟨λ| 160=>106 | 232=>124 | 231=>123 | 227=>125 | 234=>127 | 233=>126 | 236=>129 | 235=>128 | 228=>143 | 271=>146 | 151=>145 | 197=>144 | 120=>160 | 152=>159 | 260=>158 | 137=>173 | 119=>174 | 224=>149 | 225=>148 | 217=>147 | 266=>161 | n=>n,λ| 9=>9 | 4=>4 | 3=>3 | 5=>5 | 117=>158 | 116=>157 | 0=>0 | 124=>161 | 21=>21 | 105=>167 | 46=>140 | 119=>190 | 139=>193 | 138=>192 | n=>n,λ| 3=>1 | 4=>2 | n=>n⟩
theorem Tryz.lays160:Go.Proofs.Lays.n160 Tryz.prog Tryz.lays160_ren where
 mixed:=by kernel_rfl
 f119:=Tryz.func174.trans (congrArg some (by kernel_rfl))
 f120:=Tryz.func160.trans (congrArg some (by kernel_rfl))
 f137:=Tryz.func173.trans (congrArg some (by kernel_rfl))
 f151:=Tryz.func145.trans (congrArg some (by kernel_rfl))
 f152:=Tryz.func159.trans (congrArg some (by kernel_rfl))
 f160:=Tryz.func106.trans (congrArg some (by kernel_rfl))
 f197:=Tryz.func144.trans (congrArg some (by kernel_rfl))
 f217:=Tryz.func147.trans (congrArg some (by kernel_rfl))
 f224:=Tryz.func149.trans (congrArg some (by kernel_rfl))
 f225:=Tryz.func148.trans (congrArg some (by kernel_rfl))
 f227:=Tryz.func125.trans (congrArg some (by kernel_rfl))
 f228:=Tryz.func143.trans (congrArg some (by kernel_rfl))
 f231:=Tryz.func123.trans (congrArg some (by kernel_rfl))
 f232:=Tryz.func124.trans (congrArg some (by kernel_rfl))
 f233:=Tryz.func126.trans (congrArg some (by kernel_rfl))
 f234:=Tryz.func127.trans (congrArg some (by kernel_rfl))
 f235:=Tryz.func128.trans (congrArg some (by kernel_rfl))
 f236:=Tryz.func129.trans (congrArg some (by kernel_rfl))
 f260:=Tryz.func158.trans (congrArg some (by kernel_rfl))
 f266:=Tryz.func161.trans (congrArg some (by kernel_rfl))
 f271:=Tryz.func146.trans (congrArg some (by kernel_rfl))
 t0:=Tryz.underlying0
 a0:=Tryz.isAgg0
 z0:=Tryz.sizeOf0
 v0:=Tryz.zeroValue0
 t3:=Tryz.underlying3
 a3:=Tryz.isAgg3
 z3:=Tryz.sizeOf3
 v3:=Tryz.zeroValue3
 t4:=Tryz.underlying4
 a4:=Tryz.isAgg4
 z4:=Tryz.sizeOf4
 v4:=Tryz.zeroValue4
 t5:=Tryz.underlying5
 a5:=Tryz.isAgg5
 z5:=Tryz.sizeOf5
 v5:=Tryz.zeroValue5
 t9:=Tryz.underlying9
 a9:=Tryz.isAgg9
 z9:=Tryz.sizeOf9
 v9:=Tryz.zeroValue9
 t21:=Tryz.underlying21
 a21:=Tryz.isAgg21
 z21:=Tryz.sizeOf21
 v21:=Tryz.zeroValue21
 t46:=Tryz.underlying140
 a46:=Tryz.isAgg140
 z46:=Tryz.sizeOf140
 v46:=Tryz.zeroValue140
 t105:=Tryz.underlying167
 a105:=Tryz.isAgg167
 z105:=Tryz.sizeOf167
 v105:=Tryz.zeroValue167
 t116:=Tryz.underlying157
 a116:=Tryz.isAgg157
 z116:=Tryz.sizeOf157
 t117:=Tryz.underlying158
 a117:=Tryz.isAgg158
 z117:=Tryz.sizeOf158
 v117:=Tryz.zeroValue158
 t119:=Tryz.underlying190
 a119:=Tryz.isAgg190
 z119:=Tryz.sizeOf190
 t124:=Tryz.underlying161
 a124:=Tryz.isAgg161
 z124:=Tryz.sizeOf161
 v124:=Tryz.zeroValue161
 t138:=Tryz.underlying192
 a138:=Tryz.isAgg192
 z138:=Tryz.sizeOf192
 v138:=Tryz.zeroValue192
 t139:=Tryz.underlying193
 a139:=Tryz.isAgg193
 z139:=Tryz.sizeOf193
 v139:=Tryz.zeroValue193
 g3:=by kernel_rfl
 g4:=by kernel_rfl
def Tryz.lays172_ren:Go.Shelf.Ren:=⟨λ| 172=>134 | 244=>153 | 245=>154 | 247=>163 | 279=>164 | 280=>165 | 281=>166 | 282=>167 | 287=>175 | 316=>176 | 171=>114 | 205=>177 | 321=>183 | 322=>184 | 243=>136 | 246=>155 | 283=>168 | 284=>169 | 285=>170 | 286=>171 | 129=>179 | 317=>178 | 318=>180 | 319=>181 | 320=>182 | 337=>185 | 338=>186 | n=>n,λ| 9=>9 | 3=>3 | 75=>60 | 76=>162 | 4=>4 | 5=>5 | 167=>179 | 37=>141 | 0=>0 | 85=>180 | 2=>2 | 168=>182 | 53=>166 | 175=>195 | 46=>140 | 210=>199 | 127=>206 | 145=>209 | 143=>207 | 21=>21 | 171=>185 | 173=>188 | 212=>202 | 51=>176 | 20=>20 | 213=>203 | 232=>211 | 233=>212 | 80=>94 | n=>n,λ| 15=>3 | 16=>4 | 17=>5 | 18=>6 | 19=>7 | n=>n⟩
theorem Tryz.lays172:Go.Proofs.Lays.n172 Tryz.prog Tryz.lays172_ren where
 mixed:=by kernel_rfl
 f129:=Tryz.func179.trans (congrArg some (by kernel_rfl))
 f171:=Tryz.func114.trans (congrArg some (by kernel_rfl))
 f172:=Tryz.func134.trans (congrArg some (by kernel_rfl))
 f205:=Tryz.func177.trans (congrArg some (by kernel_rfl))
 f243:=Tryz.func136.trans (congrArg some (by kernel_rfl))
 f244:=Tryz.func153.trans (congrArg some (by kernel_rfl))
 f245:=Tryz.func154.trans (congrArg some (by kernel_rfl))
 f246:=Tryz.func155.trans (congrArg some (by kernel_rfl))
 f247:=Tryz.func163.trans (congrArg some (by kernel_rfl))
 f279:=Tryz.func164.trans (congrArg some (by kernel_rfl))
 f280:=Tryz.func165.trans (congrArg some (by kernel_rfl))
 f281:=Tryz.func166.trans (congrArg some (by kernel_rfl))
 f282:=Tryz.func167.trans (congrArg some (by kernel_rfl))
 f283:=Tryz.func168.trans (congrArg some (by kernel_rfl))
 f284:=Tryz.func169.trans (congrArg some (by kernel_rfl))
 f285:=Tryz.func170.trans (congrArg some (by kernel_rfl))
 f286:=Tryz.func171.trans (congrArg some (by kernel_rfl))
 f287:=Tryz.func175.trans (congrArg some (by kernel_rfl))
 f316:=Tryz.func176.trans (congrArg some (by kernel_rfl))
 f317:=Tryz.func178.trans (congrArg some (by kernel_rfl))
 f318:=Tryz.func180.trans (congrArg some (by kernel_rfl))
 f319:=Tryz.func181.trans (congrArg some (by kernel_rfl))
 f320:=Tryz.func182.trans (congrArg some (by kernel_rfl))
 f321:=Tryz.func183.trans (congrArg some (by kernel_rfl))
 f322:=Tryz.func184.trans (congrArg some (by kernel_rfl))
 f337:=Tryz.func185.trans (congrArg some (by kernel_rfl))
 f338:=Tryz.func186.trans (congrArg some (by kernel_rfl))
 t0:=Tryz.underlying0
 a0:=Tryz.isAgg0
 z0:=Tryz.sizeOf0
 v0:=Tryz.zeroValue0
 t2:=Tryz.underlying2
 a2:=Tryz.isAgg2
 z2:=Tryz.sizeOf2
 v2:=Tryz.zeroValue2
 t3:=Tryz.underlying3
 a3:=Tryz.isAgg3
 z3:=Tryz.sizeOf3
 v3:=Tryz.zeroValue3
 t4:=Tryz.underlying4
 a4:=Tryz.isAgg4
 z4:=Tryz.sizeOf4
 v4:=Tryz.zeroValue4
 t5:=Tryz.underlying5
 a5:=Tryz.isAgg5
 z5:=Tryz.sizeOf5
 v5:=Tryz.zeroValue5
 t9:=Tryz.underlying9
 a9:=Tryz.isAgg9
 z9:=Tryz.sizeOf9
 v9:=Tryz.zeroValue9
 t20:=Tryz.underlying20
 a20:=Tryz.isAgg20
 z20:=Tryz.sizeOf20
 v20:=Tryz.zeroValue20
 t21:=Tryz.underlying21
 a21:=Tryz.isAgg21
 z21:=Tryz.sizeOf21
 v21:=Tryz.zeroValue21
 t37:=Tryz.underlying141
 a37:=Tryz.isAgg141
 z37:=Tryz.sizeOf141
 v37:=Tryz.zeroValue141
 t46:=Tryz.underlying140
 a46:=Tryz.isAgg140
 z46:=Tryz.sizeOf140
 v46:=Tryz.zeroValue140
 t51:=Tryz.underlying176
 a51:=Tryz.isAgg176
 z51:=Tryz.sizeOf176
 v51:=Tryz.zeroValue176
 t53:=Tryz.underlying166
 a53:=Tryz.isAgg166
 z53:=Tryz.sizeOf166
 v53:=Tryz.zeroValue166
 t75:=Tryz.underlying60
 a75:=Tryz.isAgg60
 z75:=Tryz.sizeOf60
 v75:=Tryz.zeroValue60
 t76:=Tryz.underlying162
 a76:=Tryz.isAgg162
 z76:=Tryz.sizeOf162
 v76:=Tryz.zeroValue162
 t85:=Tryz.underlying180
 a85:=Tryz.isAgg180
 z85:=Tryz.sizeOf180
 v85:=Tryz.zeroValue180
 t127:=Tryz.underlying206
 a127:=Tryz.isAgg206
 z127:=Tryz.sizeOf206
 v127:=Tryz.zeroValue206
 t143:=Tryz.underlying207
 a143:=Tryz.isAgg207
 z143:=Tryz.sizeOf207
 v143:=Tryz.zeroValue207
 t145:=Tryz.underlying209
 a145:=Tryz.isAgg209
 z145:=Tryz.sizeOf209
 v145:=Tryz.zeroValue209
 t167:=Tryz.underlying179
 a167:=Tryz.isAgg179
 z167:=Tryz.sizeOf179
 v167:=Tryz.zeroValue179
 t168:=Tryz.underlying182
 a168:=Tryz.isAgg182
 z168:=Tryz.sizeOf182
 v168:=Tryz.zeroValue182
 t171:=Tryz.underlying185
 a171:=Tryz.isAgg185
 z171:=Tryz.sizeOf185
 v171:=Tryz.zeroValue185
 t173:=Tryz.underlying188
 a173:=Tryz.isAgg188
 z173:=Tryz.sizeOf188
 v173:=Tryz.zeroValue188
 t175:=Tryz.underlying195
 a175:=Tryz.isAgg195
 z175:=Tryz.sizeOf195
 v175:=Tryz.zeroValue195
 t210:=Tryz.underlying199
 a210:=Tryz.isAgg199
 z210:=Tryz.sizeOf199
 v210:=Tryz.zeroValue199
 t212:=Tryz.underlying202
 a212:=Tryz.isAgg202
 z212:=Tryz.sizeOf202
 v212:=Tryz.zeroValue202
 t213:=Tryz.underlying203
 a213:=Tryz.isAgg203
 z213:=Tryz.sizeOf203
 t232:=Tryz.underlying211
 a232:=Tryz.isAgg211
 z232:=Tryz.sizeOf211
 v232:=Tryz.zeroValue211
 t233:=Tryz.underlying212
 a233:=Tryz.isAgg212
 z233:=Tryz.sizeOf212
 v233:=Tryz.zeroValue212
 g15:=by kernel_rfl
 g16:=by kernel_rfl
 g17:=by kernel_rfl
 g18:=by kernel_rfl
 g19:=by kernel_rfl
def Tryz.lays171M_ren:Go.Shelf.Ren:=⟨λ| 171=>114 | 243=>136 | 246=>155 | 283=>168 | 284=>169 | 285=>170 | 286=>171 | 129=>179 | 317=>178 | 318=>180 | 319=>181 | 320=>182 | 337=>185 | 338=>186 | n=>n,λ| 3=>3 | 9=>9 | 2=>2 | 4=>4 | 171=>185 | 0=>0 | 53=>166 | 37=>141 | 5=>5 | 173=>188 | 212=>202 | 51=>176 | 20=>20 | 213=>203 | 46=>140 | 232=>211 | 233=>212 | n=>n,λ| 17=>5 | 18=>6 | 19=>7 | n=>n⟩
theorem Tryz.lays171M:Go.Proofs.LaysM.n171 Tryz.prog Tryz.lays171M_ren where
 mixed:=by kernel_rfl
 f129:=Tryz.func179.trans (congrArg some (by kernel_rfl))
 f171:=Tryz.func114.trans (congrArg some (by kernel_rfl))
 f243:=Tryz.func136.trans (congrArg some (by kernel_rfl))
 f246:=Tryz.func155.trans (congrArg some (by kernel_rfl))
 f283:=Tryz.func168.trans (congrArg some (by kernel_rfl))
 f284:=Tryz.func169.trans (congrArg some (by kernel_rfl))
 f285:=Tryz.func170.trans (congrArg some (by kernel_rfl))
 f286:=Tryz.func171.trans (congrArg some (by kernel_rfl))
 f317:=Tryz.func178.trans (congrArg some (by kernel_rfl))
 f318:=Tryz.func180.trans (congrArg some (by kernel_rfl))
 f319:=Tryz.func181.trans (congrArg some (by kernel_rfl))
 f320:=Tryz.func182.trans (congrArg some (by kernel_rfl))
 f337:=Tryz.func185.trans (congrArg some (by kernel_rfl))
 f338:=Tryz.func186.trans (congrArg some (by kernel_rfl))
 t0:=Tryz.underlying0
 a0:=Tryz.isAgg0
 z0:=Tryz.sizeOf0
 v0:=Tryz.zeroValue0
 t2:=Tryz.underlying2
 a2:=Tryz.isAgg2
 z2:=Tryz.sizeOf2
 v2:=Tryz.zeroValue2
 t3:=Tryz.underlying3
 a3:=Tryz.isAgg3
 z3:=Tryz.sizeOf3
 v3:=Tryz.zeroValue3
 t4:=Tryz.underlying4
 a4:=Tryz.isAgg4
 z4:=Tryz.sizeOf4
 v4:=Tryz.zeroValue4
 t5:=Tryz.underlying5
 a5:=Tryz.isAgg5
 z5:=Tryz.sizeOf5
 v5:=Tryz.zeroValue5
 t9:=Tryz.underlying9
 a9:=Tryz.isAgg9
 z9:=Tryz.sizeOf9
 v9:=Tryz.zeroValue9
 t20:=Tryz.underlying20
 a20:=Tryz.isAgg20
 z20:=Tryz.sizeOf20
 v20:=Tryz.zeroValue20
 t37:=Tryz.underlying141
 a37:=Tryz.isAgg141
 z37:=Tryz.sizeOf141
 v37:=Tryz.zeroValue141
 t46:=Tryz.underlying140
 a46:=Tryz.isAgg140
 z46:=Tryz.sizeOf140
 v46:=Tryz.zeroValue140
 t51:=Tryz.underlying176
 a51:=Tryz.isAgg176
 z51:=Tryz.sizeOf176
 v51:=Tryz.zeroValue176
 t53:=Tryz.underlying166
 a53:=Tryz.isAgg166
 z53:=Tryz.sizeOf166
 v53:=Tryz.zeroValue166
 t171:=Tryz.underlying185
 a171:=Tryz.isAgg185
 z171:=Tryz.sizeOf185
 v171:=Tryz.zeroValue185
 t173:=Tryz.underlying188
 a173:=Tryz.isAgg188
 z173:=Tryz.sizeOf188
 v173:=Tryz.zeroValue188
 t212:=Tryz.underlying202
 a212:=Tryz.isAgg202
 z212:=Tryz.sizeOf202
 v212:=Tryz.zeroValue202
 t213:=Tryz.underlying203
 a213:=Tryz.isAgg203
 z213:=Tryz.sizeOf203
 t232:=Tryz.underlying211
 a232:=Tryz.isAgg211
 z232:=Tryz.sizeOf211
 v232:=Tryz.zeroValue211
 t233:=Tryz.underlying212
 a233:=Tryz.isAgg212
 z233:=Tryz.sizeOf212
 v233:=Tryz.zeroValue212
 g17:=by kernel_rfl
 g18:=by kernel_rfl
 g19:=by kernel_rfl
 i0:=by kernel_rfl
 i2:=by kernel_rfl
 i3:=by kernel_rfl
 i4:=by kernel_rfl
 i5:=by kernel_rfl
 i9:=by kernel_rfl
 i20:=by kernel_rfl
 i37:=by kernel_rfl
 i46:=by kernel_rfl
 i51:=by kernel_rfl
 i53:=by kernel_rfl
 i171:=by kernel_rfl
 i173:=by kernel_rfl
 i212:=by kernel_rfl
 i232:=by kernel_rfl
 i233:=by kernel_rfl
 m17:=by kernel_rfl
 m18:=by kernel_rfl
 m19:=by kernel_rfl
end Go.Proofs.YtbojekglccdajaaGreatDoor

namespace Go.Dn
open Go Go.RowKit
theorem PF.of_calls {P:Program}{gt:GT}{f:FuncId}{us:List AV}{u:AV}{args:List Value}{v:Value}(hb:HasBody P f)
  (ha:∀S G w vs,Rl S G w us vs->vs=args) (hv:∀S G w,Rv S G w u v)
  (h:∀w,Calls P f ⟨args⟩ w λe w'=>e=.returned v/\Below w.heap.size w w'):PF (AC P gt) f us u:=λS =>
 ⟨hb,λG w vs hI hx=>by
  rw[ha S G w vs hx];refine(h w).mono λe w' hp=>?_;obtain⟨rfl,bel⟩:=hp;exact⟨u,S,G,⟨rfl,rfl⟩,Tr.gr hI ⟨bel.os,bel.tape,bel.output,bel.size,bel.block⟩,hv S G w'⟩⟩
theorem PF.of_callsI {P:Program}{gt:GT}{f:FuncId}{us:List AV}{u:AV}{args:List Value}{v:Value}(hb:HasBody P f)
  (ha:∀S G w vs,Rl S G w us vs->vs=args) (hv:∀S G w,Rv S G w u v)
  (h:∀S G w,Inv P gt S G w->Calls P f ⟨args⟩ w λe w'=>e=.returned v/\Below w.heap.size w w'):PF (AC P gt) f us u:=λS =>
 ⟨hb,λG w vs hI hx=>by
  rw[ha S G w vs hx];refine(h S G w hI).mono λe w' hp=>?_;obtain⟨rfl,bel⟩:=hp;exact⟨u,S,G,⟨rfl,rfl⟩,Tr.gr hI ⟨bel.os,bel.tape,bel.output,bel.size,bel.block⟩,hv S G w'⟩⟩
theorem rl_str1 {S:St}{G:Gh}{w:World}{a:List UInt8}{vs:List Value}(h:Rl S G w [.str a] vs):vs=[.string ⟨a.toArray⟩]:=by
 simp only[Rl,Rv]at h;obtain⟨v,r,rfl,hv,rfl⟩:=h
 first | (obtain⟨b,rfl,e⟩:=hv;subst e;rfl) | (subst hv;rfl)
theorem rl_str2 {S:St}{G:Gh}{w:World}{a b:List UInt8}{vs:List Value}(h:Rl S G w [.str a,.str b] vs):vs=[.string ⟨a.toArray⟩,.string ⟨b.toArray⟩]:=by
 simp only[Rl,Rv]at h;obtain⟨v,r,rfl,hv,v2,r2,rfl,hv2,rfl⟩:=h
 first | (subst hv;subst hv2;rfl) | skip
end Go.Dn
