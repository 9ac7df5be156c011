/- Pure data: what a function that reads pure data and makes new things says, whatever the store. What a function holds in the store: slices that grow, maps, variables; each apart from the others. The walk of what needs no thought, as a lemma that a tactic of its own serves. Trees as pure data; the reference's Size, Copy, Plain; the program's Copy. Trees: the reference's Copy and Plain, the program's Copy. Trees: the reference's Plain; the program's Copy. Arrays that are made and written in place. Steps as pure data; lists of them: Same, Roomy, Intact. The entry, with the bulk of what is read; slices as pure data. The entry of laws about trees: what is read, as trees; that they are right where little is read. The entry of laws about steps. Trees: a copy whose lists are one's own, and may be written. Trees: the part to which a path leads, and the tree with it replaced: what they are; the program's Get and Set. A list of values that is made for one append. A slice of data that stays, from a place on, reads as one from its beginning. Trees: a tree with a part replaced: the program's set and Set. Trees: the part to which a path leads, and the tree with it replaced: the reference's answers. The law TreeGets, walked. Texts of characters: by the program and by the reference. Numbers: what a text begins with; its digits; a literal's pieces. Numbers: a literal's pieces, by the program. Numbers: the exponent; a literal's parts. Numbers: a number's normal form. Times: two digits; the days of a month. Times: dates. Times: times of a day. Times: the zone; a time. What a text ends with. Maps from texts to numbers, as lists of pairs. Texts of characters: First, Bad, Valid of the program; Char, One, Runes, Valid of the reference. Keys: valid, and no two the same. Trees that are right, however great. Trees that are right, however great: the program's answer. Trees: how deep and how great; whether they are right: the program's answers. Trees: how deep they are, and whether they are right: the program's answers. strings.Cut at one byte, walked. What the shelf's contracts ask of the program: its bodies are theirs. Printed by a program. -/
import Derived.Test.YthgidapmofcloaaGreatDoorProg
import Derived.Shelf.Strings.SlTrimAscii
import Derived.Shelf.Strconv.Atoi
import Derived.Shelf.Strconv.Itoa3
import Derived.Test.YthgidapmofcloaaGreatDoorQl
set_option linter.unusedSimpArgs false
set_option linter.unusedVariables false
namespace Go.Dn
open Go Go.RowKit
def stat:SI:=⟨none,0,none,false⟩
mutual
def Sta:AV→Prop
  |.sl _ o ys=>o=stat∧Stas ys
  |.agg us=>Stas us
  |.tup us=>Stas us
  |.ifc _ u=>Sta u
  |.fn _ fs cs=>Stas fs∧Stas cs
  |.ptr _ _=>False
  |.map _=>False
  |.eptr _ _ _ _ _=>False
  | _=>True
def Stas:List AV→Prop
  | []=>True
  | u::us=>Sta u∧Stas us
end
def flat1:AV→Bool
  |.bool _ |.int _ _ |.str _ |.nilp |.nilfn |.nilif |.nilmap |.undef=>true
  | _=>false
def Flat:AV→Prop
  |.tup us=>us.all flat1=true
  | u=>flat1 u=true
mutual
def Rdo (S:St):AV→AV→Prop
  |.sl es o ys,x=>o=stat∧∃o' xs agg zs,x=.sl es o' xs∧elems S agg es o' xs=some zs∧Rdos S ys zs
  |.agg us,x=>∃xs,x=.agg xs∧Rdos S us xs
  |.tup us,x=>∃xs,x=.tup xs∧Rdos S us xs
  |.ifc t u,x=>∃y,x=.ifc t y∧Rdo S u y
  |.fn f fs cs,x=>∃a b,x=.fn f a b∧Rdos S fs a∧Rdos S cs b
  |.ptr _ _,_=>False
  |.map _,_=>False
  |.eptr _ _ _ _ _,_=>False
  |.undef,x=>x=.undef
  |.bool b,x=>x=.bool b
  |.int k n,x=>x=.int k n
  |.str s,x=>x=.str s
  |.nilp,x=>x=.nilp
  |.gptr g o,x=>x=.gptr g o
  |.anyp,x=>x=.anyp
  |.nilfn,x=>x=.nilfn
  |.nilif,x=>x=.nilif
  |.nilmap,x=>x=.nilmap
  |.raw v,x=>x=.raw v
def Rdos (S:St):List AV→List AV→Prop
  | [],xs=>xs=[]
  | u::us,xs=>∃x r,xs=x::r∧Rdo S u x∧Rdos S us r
end
section
variable {S:St}
mutual
theorem Sta.rdo:∀u,Sta u→Rdo S u u
  |.sl es o ys,h=>by
    simp only [Sta] at h
    simp only [Rdo]
    refine⟨h.1,o,ys,true,ys,rfl,?_,Stas.rdos ys h.2⟩
    rw [h.1];rfl
  |.agg us,h=>by simp only [Sta] at h;simp only [Rdo];exact⟨us,rfl,Stas.rdos us h⟩
  |.tup us,h=>by simp only [Sta] at h;simp only [Rdo];exact⟨us,rfl,Stas.rdos us h⟩
  |.ifc t u,h=>by simp only [Sta] at h;simp only [Rdo];exact⟨u,rfl,Sta.rdo u h⟩
  |.fn f fs cs,h=>by simp only [Sta] at h;simp only [Rdo];exact⟨fs,cs,rfl,Stas.rdos fs h.1,Stas.rdos cs h.2⟩
  |.ptr _ _,h=>h.elim
  |.map _,h=>h.elim
  |.eptr _ _ _ _ _,h=>h.elim
  |.undef,_ |.bool _,_ |.int _ _,_ |.str _,_ |.nilp,_ |.gptr _ _,_ |.anyp,_ |.nilfn,_ |.nilif,_ |.nilmap,_ |.raw _,_=>by simp only [Rdo]
theorem Stas.rdos:∀us,Stas us→Rdos S us us
  | [],_=>by simp only [Rdos]
  | u::us,h=>by simp only [Stas] at h;simp only [Rdos];exact⟨u,us,rfl,Sta.rdo u h.1,Stas.rdos us h.2⟩
end
theorem Rdos.length:∀{us xs:List AV},Rdos S us xs→xs.length=us.length
  | [],xs,h=>by simp only [Rdos] at h;rw [h]
  | u::us,xs,h=>by simp only [Rdos] at h;obtain⟨x,r,rfl,_,k⟩:=h;simp [k.length]
end
section
variable {P:Program} {gt:GT} {S1 S2:St} {G1 G2:Gh} {w:World}
mutual
theorem Rdo.rv (hI:Inv P gt S1 G1 w) (h1:∀b,G1.st b→G2.st b) (h2:∀b,b<w.heap.size→Own S1 G1 b→G2.st b):∀(u x:AV) (v:Value),Rdo S1 u x→Rv S1 G1 w x v→Rv S2 G2 w u v
  |.sl es o ys,x,v,hx,hv=>by
    simp only [Rdo] at hx
    obtain⟨rfl,o',xs,agg,zs,rfl,he,hz⟩:=hx
    simp only [Rv] at hv ⊢
    obtain⟨a,len,cap,rfl,hs,hr⟩:=hv
    obtain⟨e1,e2,us,e3,e4,e5⟩:=elems_sound hI he hs hr
    have hly:=hz.length
    refine⟨a,len,cap,rfl,⟨by rw [hs.1,←e1,hly],hs.2.1,⟨(fun h=>by cases h),(fun h=>by cases h)⟩,(fun c h=>by cases h),hs.2.2.2.2.1,fun p hp hc=>?_⟩,fun _ p hp=>?_⟩
    · obtain⟨g1,g2,g3,g4⟩:=hs.2.2.2.2.2 p hp hc
      refine⟨g1,g2,g3,?_⟩
      have hlt:p.block<w.heap.size:=by obtain⟨ty,k,hk,_⟩:=g3;exact shape_lt hk
      rw [rd_none rfl]
      simp only [stat]
      cases hrd:rd S1 o' with
      | here =>
        rw [hrd] at g4
        simp only at g4
        cases ht:o'.tok with
        | none=>rw [ht] at g4;exact h1 _ g4
        | some q =>
          obtain⟨t,l⟩:=q
          rw [ht] at g4
          exact h2 _ hlt (.inr (.inl ⟨t,g4.1,g4.2.2.1⟩))
      | box b off =>
        rw [hrd] at g4
        exact h2 _ hlt (.inl ⟨b,g4.1,g4.2.1.symm⟩)
      | no =>
        unfold elems at he
        rw [hrd] at he
        cases he
    · by_cases hc:0<cap
      · obtain⟨e6,e7⟩:=e5 p hp hc
        exact Rdos.rat hI h1 h2 ys zs p.block p.off es hz (Rat.ofCells e3 e2 e7)
      · have:ys=[]:=by
          apply List.length_eq_zero_iff.1
          have:=hs.1;have:=hs.2.1;omega
        subst this
        simp only [Rat]
  |.agg us,x,v,hx,hv=>by
    simp only [Rdo] at hx
    obtain⟨xs,rfl,hx⟩:=hx
    simp only [Rv] at hv ⊢
    obtain⟨vs,rfl,hv⟩:=hv
    exact⟨vs,rfl,Rdos.rl hI h1 h2 us xs vs hx hv⟩
  |.tup us,x,v,hx,hv=>by
    simp only [Rdo] at hx
    obtain⟨xs,rfl,hx⟩:=hx
    simp only [Rv] at hv ⊢
    obtain⟨vs,rfl,hv⟩:=hv
    exact⟨vs,rfl,Rdos.rl hI h1 h2 us xs vs hx hv⟩
  |.ifc t u,x,v,hx,hv=>by
    simp only [Rdo] at hx
    obtain⟨y,rfl,hx⟩:=hx
    simp only [Rv] at hv ⊢
    obtain⟨z,rfl,hv⟩:=hv
    exact⟨z,rfl,Rdo.rv hI h1 h2 u y z hx hv⟩
  |.fn f fs cs,x,v,hx,hv=>by
    simp only [Rdo] at hx
    obtain⟨a,b,rfl,hx,hx'⟩:=hx
    simp only [Rv] at hv ⊢
    obtain⟨va,vb,rfl,hv,hv'⟩:=hv
    exact⟨va,vb,rfl,Rdos.rl hI h1 h2 fs a va hx hv,Rdos.rl hI h1 h2 cs b vb hx' hv'⟩
  |.ptr _ _,_,_,hx,_=>by simp only [Rdo] at hx
  |.map _,_,_,hx,_=>by simp only [Rdo] at hx
  |.eptr _ _ _ _ _,_,_,hx,_=>by simp only [Rdo] at hx
  |.undef,x,_,hx,hv |.bool _,x,_,hx,hv |.int _ _,x,_,hx,hv |.str _,x,_,hx,hv |.nilp,x,_,hx,hv |.gptr _ _,x,_,hx,hv |.anyp,x,_,hx,hv |.nilfn,x,_,hx,hv |.nilif,x,_,hx,hv |.nilmap,x,_,hx,hv |.raw _,x,_,hx,hv=>by
    simp only [Rdo] at hx
    subst hx
    simp only [Rv] at hv ⊢
    exact hv
theorem Rdos.rl (hI:Inv P gt S1 G1 w) (h1:∀b,G1.st b→G2.st b) (h2:∀b,b<w.heap.size→Own S1 G1 b→G2.st b):∀(us xs:List AV) (vs:List Value),Rdos S1 us xs→Rl S1 G1 w xs vs→Rl S2 G2 w us vs
  | [],xs,vs,hx,hv=>by simp only [Rdos] at hx;subst hx;simpa only [Rl] using hv
  | u::us,xs,vs,hx,hv=>by
    simp only [Rdos] at hx
    obtain⟨x,r,rfl,hx,hr⟩:=hx
    simp only [Rl] at hv ⊢
    obtain⟨v,vr,rfl,hv,hvr⟩:=hv
    exact⟨v,vr,rfl,Rdo.rv hI h1 h2 u x v hx hv,Rdos.rl hI h1 h2 us r vr hr hvr⟩
theorem Rdos.rat (hI:Inv P gt S1 G1 w) (h1:∀b,G1.st b→G2.st b) (h2:∀b,b<w.heap.size→Own S1 G1 b→G2.st b):∀(us xs:List AV) (b off es:Nat),Rdos S1 us xs→Rat S1 G1 w b es xs off→Rat S2 G2 w b es us off
  | [],xs,b,off,es,hx,hv=>by simp only [Rat]
  | u::us,xs,b,off,es,hx,hv=>by
    simp only [Rdos] at hx
    obtain⟨x,r,rfl,hx,hr⟩:=hx
    simp only [Rat] at hv ⊢
    obtain⟨⟨v,hv,hsz,hc⟩,hvr⟩:=hv
    exact⟨⟨v,Rdo.rv hI h1 h2 u x v hx hv,hsz,hc⟩,Rdos.rat hI h1 h2 us r b (off+es) es hr hvr⟩
end
mutual
theorem Sta.rv (h:∀b,b<w.heap.size→G1.st b→G2.st b):∀(u:AV) (v:Value),Sta u→Rv S1 G1 w u v→Rv S2 G2 w u v
  |.sl es o ys,v,hu,hv=>by
    simp only [Sta] at hu
    obtain⟨rfl,hu⟩:=hu
    simp only [Rv] at hv ⊢
    obtain⟨a,len,cap,rfl,hs,hr⟩:=hv
    refine⟨a,len,cap,rfl,⟨hs.1,hs.2.1,hs.2.2.1,hs.2.2.2.1,hs.2.2.2.2.1,fun p hp hc=>?_⟩,fun _ p hp=>Stas.rat h ys p.block p.off es hu (hr (rd_none rfl) p hp)⟩
    obtain⟨g1,g2,g3,g4⟩:=hs.2.2.2.2.2 p hp hc
    have hlt:p.block<w.heap.size:=by obtain⟨ty,k,hk,_⟩:=g3;exact shape_lt hk
    refine⟨g1,g2,g3,?_⟩
    rw [rd_none rfl] at g4 ⊢
    exact h _ hlt g4
  |.agg us,v,hu,hv=>by
    simp only [Sta] at hu
    simp only [Rv] at hv ⊢
    obtain⟨vs,rfl,hv⟩:=hv
    exact⟨vs,rfl,Stas.rl h us vs hu hv⟩
  |.tup us,v,hu,hv=>by
    simp only [Sta] at hu
    simp only [Rv] at hv ⊢
    obtain⟨vs,rfl,hv⟩:=hv
    exact⟨vs,rfl,Stas.rl h us vs hu hv⟩
  |.ifc t u,v,hu,hv=>by
    simp only [Sta] at hu
    simp only [Rv] at hv ⊢
    obtain⟨z,rfl,hv⟩:=hv
    exact⟨z,rfl,Sta.rv h u z hu hv⟩
  |.fn f fs cs,v,hu,hv=>by
    simp only [Sta] at hu
    simp only [Rv] at hv ⊢
    obtain⟨va,vb,rfl,hv,hv'⟩:=hv
    exact⟨va,vb,rfl,Stas.rl h fs va hu.1 hv,Stas.rl h cs vb hu.2 hv'⟩
  |.ptr _ _,_,hu,_=>by simp only [Sta] at hu
  |.map _,_,hu,_=>by simp only [Sta] at hu
  |.eptr _ _ _ _ _,_,hu,_=>by simp only [Sta] at hu
  |.undef,_,_,hv |.bool _,_,_,hv |.int _ _,_,_,hv |.str _,_,_,hv |.nilp,_,_,hv |.gptr _ _,_,_,hv |.anyp,_,_,hv |.nilfn,_,_,hv |.nilif,_,_,hv |.nilmap,_,_,hv |.raw _,_,_,hv=>by
    simp only [Rv] at hv ⊢
    exact hv
theorem Stas.rl (h:∀b,b<w.heap.size→G1.st b→G2.st b):∀(us:List AV) (vs:List Value),Stas us→Rl S1 G1 w us vs→Rl S2 G2 w us vs
  | [],vs,hu,hv=>by simpa only [Rl] using hv
  | u::us,vs,hu,hv=>by
    simp only [Stas] at hu
    simp only [Rl] at hv ⊢
    obtain⟨v,vr,rfl,hv,hvr⟩:=hv
    exact⟨v,vr,rfl,Sta.rv h u v hu.1 hv,Stas.rl h us vr hu.2 hvr⟩
theorem Stas.rat (h:∀b,b<w.heap.size→G1.st b→G2.st b):∀(us:List AV) (b off es:Nat),Stas us→Rat S1 G1 w b es us off→Rat S2 G2 w b es us off
  | [],b,off,es,hu,hv=>by simp only [Rat]
  | u::us,b,off,es,hu,hv=>by
    simp only [Stas] at hu
    simp only [Rat] at hv ⊢
    obtain⟨⟨v,hv,hsz,hc⟩,hvr⟩:=hv
    exact⟨⟨v,Sta.rv h u v hu.1 hv,hsz,hc⟩,Stas.rat h us b (off+es) es hu.2 hvr⟩
end
theorem flat1_rv {u:AV} {v:Value} (hu:flat1 u=true) (hv:Rv S1 G1 w u v):Rv S2 G2 w u v:=by
  cases u<;>first | (exfalso;revert hu;simp [flat1];done) | (simp only [Rv] at hv ⊢;exact hv)
theorem flats_rl:∀{us:List AV} {vs:List Value},us.all flat1=true→Rl S1 G1 w us vs→Rl S2 G2 w us vs
  | [],vs,_,hv=>by simpa only [Rl] using hv
  | u::us,vs,hu,hv=>by
    simp only [List.all_cons,bA] at hu
    simp only [Rl] at hv ⊢
    obtain⟨v,vr,rfl,hv,hvr⟩:=hv
    exact⟨v,vr,rfl,flat1_rv hu.1 hv,flats_rl hu.2 hvr⟩
theorem Flat.rv {u:AV} {v:Value} (hu:Flat u) (hv:Rv S1 G1 w u v):Rv S2 G2 w u v:=by
  cases u with
  | tup us =>
    simp only [Flat] at hu
    simp only [Rv] at hv ⊢
    obtain⟨vs,rfl,hv⟩:=hv
    exact⟨vs,rfl,flats_rl hu hv⟩
  | _=>exact flat1_rv hu hv
end
section
variable {P:Program} {gt:GT}
def Gst (st:Nat→Prop):Gh:=⟨fun _=>0,fun _=>0,fun _=>0,fun _=>0,fun _=>0,st⟩
theorem ownG {st:Nat→Prop} {b:Nat}:¬Own St.init (Gst st) b:=by
  rintro (⟨i,hi,_⟩ | ⟨i,hi,_⟩ | ⟨i,hi,_⟩)<;>exact absurd hi (Nat.not_lt_zero i)
theorem invG {st:Nat→Prop} {w:World} (hl:∀b,st b→b<w.heap.size) (hg:∀g cs,lk gt g=some cs→st g∧∃c ty fr,w.heap[g]? = some (.cells c ty fr)∧Rl St.init (Gst st) w cs c.toList):Inv P gt St.init (Gst st) w :=
  { boxLt:=fun i hi=>absurd hi (Nat.not_lt_zero i)
    tokLt:=fun i hi=>absurd hi (Nat.not_lt_zero i)
    mapLt:=fun i hi=>absurd hi (Nat.not_lt_zero i)
    stLt:=hl
    stOwn:=fun b _=>ownG
    box:=fun i ty cs h=>by cases h
    boxInj:=fun i i' x x' h=>by cases h
    boxTok:=fun i x t h=>by cases h
    map:=fun i hi=>absurd hi (Nat.not_lt_zero i)
    mapInj:=fun i i' hi=>absurd hi (Nat.not_lt_zero i)
    tip:=fun t n ty sf h=>by cases h
    tipInj:=fun t t' x x' h=>by cases h
    line:=fun t t' ht=>absurd ht (Nat.not_lt_zero t)
    lnLt:=fun t ht=>absurd ht (Nat.not_lt_zero t)
    kBox:=fun i _=>rfl
    kMap:=fun i _=>rfl
    kMv:=fun i _=>rfl
    kTip:=fun i _=>rfl
    kDl:=fun i _=>rfl
    glob:=hg }
theorem own_lt {S:St} {G:Gh} {w:World} (h:Inv P gt S G w) {b:Nat} (ho:Own S G b):b<w.heap.size:=by
  rcases ho with⟨i,hi,rfl⟩ | ⟨i,hi,rfl⟩ | ⟨i,hi,rfl⟩
  · exact h.boxLt i hi
  · exact h.tokLt i hi
  · exact h.mapLt i hi
def addSt (G:Gh) (n m:Nat):Gh:={ G with st:=fun b=>G.st b∨(n≤b∧b<m) }
section
variable {S:St} {G:Gh} {w w':World}
theorem own_add {n m b:Nat}:Own S (addSt G n m) b↔Own S G b:=Iff.rfl
theorem ext_add (hI:Inv P gt S G w) (h:Gr w w'):Ext S G w S (addSt G w.heap.size w'.heap.size) w' where
  nb:=nR _
  nt:=nR _
  nm:=nR _
  β _ _:=rfl
  τ _ _:=rfl
  ln _ _:=rfl
  μ _ _:=rfl
  size:=h.size
  own _ _ h:=h
  st b hb:=⟨.inl hb,h.same b (hI.stLt b hb)⟩
  stNew b hb hs:=by
    rcases hs with hs | hs
    · exact hs
    · omega
  shape b x hx:=by simpa [World.shape?,h.same b (shape_lt hx)] using hx
  mv _ _ _ h:=h
  dl _ h:=h
  sea t ht _ _:=⟨nR _,fun i _=>by simp only [World.cell?,h.same _ (hI.tokLt t ht)]⟩
  moved t b o _ h h':=by rw [h] at h';cases h'
  os:=h.os
  tape:=h.tape
  output:=h.output
theorem inv_add (hI:Inv P gt S G w) (h:Gr w w'):Inv P gt S (addSt G w.heap.size w'.heap.size) w' where
  boxLt id hi:=Nat.lt_of_lt_of_le (hI.boxLt id hi) h.size
  tokLt id hi:=Nat.lt_of_lt_of_le (hI.tokLt id hi) h.size
  mapLt id hi:=Nat.lt_of_lt_of_le (hI.mapLt id hi) h.size
  stLt b hb:=by
    rcases hb with hb | hb
    · exact Nat.lt_of_lt_of_le (hI.stLt b hb) h.size
    · exact hb.2
  stOwn b hb ho:=by
    rcases hb with hb | hb
    · exact hI.stOwn b hb ho
    · have:=own_lt hI (own_add.1 ho);omega
  box id ty cs hb:=by
    obtain⟨h1,c,fr,sf,pre,rest,h2,h3,h4,h5⟩:=hI.box id ty cs hb
    exact⟨h1,c,fr,sf,pre,rest,by rw [←h2];exact h.same _ (hI.boxLt id h1),h3,h4,h5.mono (ext_add hI h)⟩
  boxInj:=hI.boxInj
  boxTok:=hI.boxTok
  map id hi:=by
    obtain⟨es,ents,clk,h1,h2,h3⟩:=hI.map id hi
    exact⟨es,ents,clk,h1,by rw [←h2];exact h.same _ (hI.mapLt id hi),h3.mono (ext_add hI h)⟩
  mapInj:=hI.mapInj
  tip t n ty sf ht:=by
    obtain⟨h1,h2⟩:=hI.tip t n ty sf ht
    refine⟨h1,fun hv=>?_⟩
    obtain⟨es,c,fr,e1,e2,e3⟩:=h2 hv
    exact⟨es,c,fr,e1,by rw [←e2];exact h.same _ (hI.tokLt t h1),e3⟩
  tipInj:=hI.tipInj
  line:=hI.line
  lnLt:=hI.lnLt
  kBox:=hI.kBox
  kMap:=hI.kMap
  kMv:=hI.kMv
  kTip:=hI.kTip
  kDl:=hI.kDl
  glob g cs hg:=by
    obtain⟨h1,c,ty,fr,h2,h3⟩:=hI.glob g cs hg
    exact⟨.inl h1,c,ty,fr,by rw [h.same _ (hI.stLt g h1)];exact h2,h3.mono (ext_add hI h)⟩
end
theorem gr_of_tr {st:Nat→Prop} {S1:St} {G1:Gh} {w w1:World} (t:Tr P gt St.init (Gst st) w S1 G1 w1):Gr w w1 :=
  ⟨t.ext.os,t.ext.tape,t.ext.output,t.ext.size,fun b hb=>t.keep b hb ownG⟩
def GtSta (gt:GT):Prop:=∀g cs,lk gt g=some cs→Stas cs
theorem AC_pure (hgt:GtSta gt) {f:FuncId} {us:List AV} {Φ:AV→Prop} (hus:Stas us)
    (h:AC P gt f us St.init fun r S1=>∃x u,r=.ret x∧Rdo S1 u x∧Φ u) (S:St) :
    AC P gt f us S fun r S'=>∃u,r=.ret u∧Φ u∧S'=S:=by
  refine⟨h.1,fun G w args hI hx=>?_⟩
  have hI0:Inv P gt St.init (Gst G.st) w:=invG hI.stLt fun g cs hg=>by
    obtain⟨h1,c,ty,fr,h2,h3⟩:=hI.glob g cs hg
    exact⟨h1,c,ty,fr,h2,Stas.rl (G1:=G) (G2:=Gst G.st) (fun b _ hb=>hb) cs _ (hgt g cs hg) h3⟩
  refine Calls.mono (h.2 (Gst G.st) w args hI0 (Stas.rl (G1:=G) (G2:=Gst G.st) (fun b _ hb=>hb) us _ hus hx)) fun e w1 hp=>?_
  cases e with
  | returned v =>
    obtain⟨x',S1,G1,⟨x,u,e,hr,hφ⟩,t,rv⟩:=hp
    cases e
    have g:=gr_of_tr t
    refine⟨u,S,addSt G w.heap.size w1.heap.size,⟨u,rfl,hφ,rfl⟩,⟨inv_add hI g,ext_add hI g,fun b hb _=>g.same b hb⟩,?_⟩
    refine Rdo.rv t.inv (fun b hb=>?_) (fun b hb ho=>?_) u _ v hr rv
    · rcases Nat.lt_or_ge b w.heap.size with hlt | hge
      · exact .inl (t.ext.stNew b hlt hb)
      · exact .inr ⟨hge,t.inv.stLt b hb⟩
    · rcases Nat.lt_or_ge b w.heap.size with hlt | hge
      · exact absurd (t.ext.own b hlt ho) ownG
      · exact .inr ⟨hge,hb⟩
  | panicked chain=>obtain⟨x',S1,G1,u',hc,⟨x,u,e,_⟩,_⟩:=hp;cases e
  | outgrown=>exact hp.elim
theorem AC_read (hgt:GtSta gt) {f:FuncId} {us xs:List AV} {Φ:AV→Prop} {S:St} (hxs:Rdos S us xs) (hfl:∀u,Φ u→Flat u)
    (h:AC P gt f us St.init fun r S1=>∃x u,r=.ret x∧Rdo S1 u x∧Φ u) :
    AC P gt f xs S fun r S'=>∃u,r=.ret u∧Φ u∧S'=S:=by
  refine⟨h.1,fun G w args hI hx=>?_⟩
  have hI0:Inv P gt St.init (Gst fun b=>b<w.heap.size) w:=invG (fun b hb=>hb) fun g cs hg=>by
    obtain⟨h1,c,ty,fr,h2,h3⟩:=hI.glob g cs hg
    exact⟨hI.stLt g h1,c,ty,fr,h2,Stas.rl (G1:=G) (fun b hb _=>hb) cs _ (hgt g cs hg) h3⟩
  have hx0:Rl St.init (Gst fun b=>b<w.heap.size) w us args:=Rdos.rl hI (fun b hb=>hI.stLt b hb) (fun b hb _=>hb) us xs args hxs hx
  refine Calls.mono (h.2 _ w args hI0 hx0) fun e w1 hp=>?_
  cases e with
  | returned v =>
    obtain⟨x',S1,G1,⟨x,u,e,hr,hφ⟩,t,rv⟩:=hp
    cases e
    have g:=gr_of_tr t
    refine⟨u,S,G,⟨u,rfl,hφ,rfl⟩,Tr.gr hI g,?_⟩
    exact Flat.rv (S1:=S) (G1:={ G1 with st:=fun _=>True }) (hfl u hφ) (Rdo.rv t.inv (fun b hb=>trivial) (fun b hb ho=>trivial) u _ v hr rv)
  | panicked chain=>obtain⟨x',S1,G1,u',hc,⟨x,u,e,_⟩,_⟩:=hp;cases e
  | outgrown=>exact hp.elim
end
def PF (C:CallT) (f:FuncId) (us:List AV) (u:AV):Prop:=∀S,C f us S fun r S'=>r=.ret u∧S'=S
theorem PF.of_init {P:Program} {gt:GT} (hgt:GtSta gt) {f:FuncId} {us:List AV} {u:AV} (hus:Stas us) (h:AC P gt f us St.init fun r S1=>∃x,r=.ret x∧Rdo S1 u x):PF (AC P gt) f us u:=fun S=>by
  refine AC_mono _ _ _ _ _ (AC_pure (Φ:=fun u'=>u'=u) hgt hus (AC_mono _ _ _ _ _ h ?_) S) ?_
  · rintro r S1 ⟨x,rfl,hx⟩;exact⟨x,u,rfl,hx,rfl⟩
  · rintro r S1 ⟨_,rfl,rfl,rfl⟩;exact⟨rfl,rfl⟩
section
variable {gt:GT} {C:CallT}
theorem call_pf (hm:MonoC C) {i:DI} {env:Env} {S:St} {K:Env→St→Prop} {Q:Ex→Env→St→Prop} {f:FuncId} {xs:List AV} {u:AV} (h:stepI gt i env S=.call f xs) (hp:PF C f xs u) (k:K (putV i.dst u env) S):afterS C i.dst env S K Q (stepI gt i env S):=by
  refine call_rule h (hm _ _ _ _ _ (hp S) ?_)
  rintro r S' ⟨rfl,rfl⟩
  exact k
theorem call_pfD (hm:MonoC C) {i:DI×Option Nat} {env:Env} {S:St} {K:Env→St→Prop} {Q:Ex→Env→St→Prop} {f:FuncId} {xs:List AV} {u:AV} (h:stepD gt i env S=.call f xs) (hp:PF C f xs u) (k:K (putV i.1.dst u env) S):afterS C i.1.dst env S K Q (stepD gt i env S):=by
  refine call_ruleD h (hm _ _ _ _ _ (hp S) ?_)
  rintro r S' ⟨rfl,rfl⟩
  exact k
end
end Go.Dn

namespace Go.Dn
open Go Go.RowKit
inductive Rs where
 | gr (ty:TypeId) (o:SI) (xs:List AV)
 | mp (id:Nat) (es:List (AV×AV))
 | bx (id:Nat) (ty:TypeId) (cs:List AV)
 | mk (t l b:Nat)
def RsOK (S:St):Rs->Prop
 |.gr ty o xs=>(o.tok=none/\o.off=0/\o.cap=some 0/\xs=[])\/∃t l,o=⟨some (t,l),0,none,false⟩/\t<S.nt/\l<S.nt/\lk S.tip t=some (some (xs.length,ty,false))/\lk S.mv t=none/\lk S.dl l=none
 |.mp id es=>id<S.nm/\lk S.maps id=some es
 |.bx id ty cs=>id<S.nb/\lk S.boxes id=some (some (ty,cs))
 |.mk t l b=>t<S.nt/\l<S.nt/\lk S.mv t=some (.bx b 0)
def RsDj:Rs->Rs->Prop
 |.gr _ o _,.gr _ o' _=>∀t l t' l',o.tok=some (t,l)->o'.tok=some (t',l')->t≠t'/\l≠l'
 |.mp i _,.mp j _=>i≠j
 |.bx i _ _,.bx j _ _=>i≠j
 | _,_=>True
theorem RsDj.symm:∀{a b:Rs},RsDj a b->RsDj b a
 |.gr ..,.gr ..,h=>λt l t' l' e e'=>⟨λq=>(h t' l' t l e' e).1 q.symm,λq=>(h t' l' t l e' e).2 q.symm⟩
 |.mp ..,.mp ..,h=>λq=>h q.symm
 |.bx ..,.bx ..,h=>λq=>h q.symm
 |.gr ..,.mp ..,_ |.gr ..,.bx ..,_ |.gr ..,.mk ..,_ |.mp ..,.gr ..,_ |.mp ..,.bx ..,_ |.mp ..,.mk ..,_
 |.bx ..,.gr ..,_ |.bx ..,.mp ..,_ |.bx ..,.mk ..,_ |.mk ..,.gr ..,_ |.mk ..,.mp ..,_ |.mk ..,.bx ..,_ |.mk ..,.mk ..,_=>trivial
structure Hs (S:St)(R:List Rs):Prop where
 wf:Wf S
 ok:∀(i:Nat) (r:Rs),R[i]? = some r->RsOK S r
 dj:∀(i j:Nat) (r s:Rs),i≠j->R[i]? = some r->R[j]? = some s->RsDj r s
theorem Hs.nil {S:St}(h:Wf S):Hs S []:=⟨h,λi r h=>by simp at h,λi j r s _ h=>by simp at h⟩
theorem Hs.init:Hs St.init []:=Hs.nil λ_ _=>⟨rfl,rfl⟩
structure Chg (S S':St)(T L M B:Nat->Prop):Prop where
 nt:S.nt<=S'.nt
 nb:S.nb<=S'.nb
 nm:S.nm<=S'.nm
 tip:∀t,t<S.nt->¬T t->lk S'.tip t=lk S.tip t/\lk S'.mv t=lk S.mv t
 dl:∀l,l<S.nt->¬L l->lk S'.dl l=lk S.dl l
 mv:∀t m,t<S.nt->lk S.mv t=some m->lk S'.mv t=some m
 maps:∀i,i<S.nm->¬M i->lk S'.maps i=lk S.maps i
 boxes:∀i,i<S.nb->¬B i->lk S'.boxes i=lk S.boxes i
def Rs.off (T L M B:Nat->Prop):Rs->Prop
 |.gr _ o _=>∀t l,o.tok=some (t,l)->¬T t/\¬L l
 |.mp id _=>¬M id
 |.bx id _ _=>¬B id
 |.mk _ _ _=>True
theorem RsOK.chg {S S':St}{T L M B:Nat->Prop}(hc:Chg S S' T L M B):∀{r:Rs},RsOK S r->r.off T L M B->RsOK S' r
 |.gr ty o xs,h,ho=>by
  rcases h with h | ⟨t,l,rfl,h1,h2,h3,h4,h5⟩
  ·exact .inl h
  ·obtain⟨g1,g2⟩:=ho t l rfl;obtain⟨e1,e2⟩:=hc.tip t h1 g1;exact .inr ⟨t,l,rfl,Nat.lt_of_lt_of_le h1 hc.nt,Nat.lt_of_lt_of_le h2 hc.nt,by rw[e1];exact h3,by rw[e2];exact h4,by rw[hc.dl l h2 g2];exact h5⟩
 |.mp id es,h,ho=>⟨Nat.lt_of_lt_of_le h.1 hc.nm,by rw[hc.maps id h.1 ho];exact h.2⟩
 |.bx id ty cs,h,ho=>⟨Nat.lt_of_lt_of_le h.1 hc.nb,by rw[hc.boxes id h.1 ho];exact h.2⟩
 |.mk t l b,h,_=>⟨Nat.lt_of_lt_of_le h.1 hc.nt,Nat.lt_of_lt_of_le h.2.1 hc.nt,hc.mv t _ h.1 h.2.2⟩
theorem set_get {α:Type}{R:List α}{i j:Nat}{x y:α}(h:(R.set i x)[j]? = some y):(j=i/\y=x)\/(j≠i/\R[j]? = some y):=by
 by_cases e:i=j
 ·subst e;rw[List.getElem?_set_self']at h;cases hr:R[i]? with
  | none=>rw[hr]at h;cases h
  | some z=>rw[hr]at h;cases h;exact .inl ⟨rfl,rfl⟩
 ·rw[List.getElem?_set_ne e]at h;exact .inr ⟨λq=>e q.symm,h⟩
theorem Hs.turn {S S':St}{R:List Rs}{T L M B:Nat->Prop}(h:Hs S R)(hw:Wf S')(hc:Chg S S' T L M B){i:Nat}{r':Rs}
  (hoff:∀(j:Nat) (s:Rs),j≠i->R[j]? = some s->s.off T L M B) (hr:RsOK S' r') (hd:∀(j:Nat) (s:Rs),j≠i->R[j]? = some s->RsDj r' s):Hs S' (R.set i r') where
 wf:=hw
 ok j s hs:=by
  rcases set_get hs with⟨_,rfl⟩ | ⟨e,hs⟩
  ·exact hr
  ·exact(h.ok j s hs).chg hc (hoff j s e hs)
 dj j k r s hjk hj hk:=by
  rcases set_get hj with⟨rfl,rfl⟩ | ⟨e,hj2⟩
  ·rcases set_get hk with⟨e,rfl⟩ | ⟨e,hk2⟩
   ·exact absurd e.symm hjk
   ·exact hd k s e hk2
  ·rcases set_get hk with⟨e',rfl⟩ | ⟨e',hk2⟩
   ·exact(hd j r e hj2).symm
   ·exact h.dj j k r s hjk hj2 hk2
theorem Hs.more {S S':St}{R:List Rs}(h:Hs S R)(hw:Wf S')(hc:Chg S S' (λ_=>False) (λ_=>False) (λ_=>False) (λ_=>False)){r':Rs}
  (hr:RsOK S' r') (hd:∀(j:Nat) (s:Rs),R[j]? = some s->RsDj r' s):Hs S' (R++[r']) where
 wf:=hw
 ok j s hs:=by
  rcases Nat.lt_or_ge j R.length with hj | hj
  ·rw[List.getElem?_append_left hj]at hs;refine(h.ok j s hs).chg hc ?_;cases s<;>simp[Rs.off]
  ·rw[List.getElem?_append_right hj]at hs;have:j-R.length=0:=by
    rcases Nat.eq_zero_or_pos (j-R.length) with e | e
    ·exact e
    ·rw[List.getElem?_eq_none (by simp;omega)]at hs;cases hs
   rw[this]at hs;cases hs;exact hr
 dj j k r s hjk hj hk:=by
  have key:∀{j:Nat} {s:Rs},(R++[r'])[j]? = some s->(R[j]? = some s)\/(j=R.length/\s=r'):=λ{j s} hs=>by
   rcases Nat.lt_or_ge j R.length with hj | hj
   ·rw[List.getElem?_append_left hj]at hs;exact .inl hs
   ·rw[List.getElem?_append_right hj]at hs;have:j-R.length=0:=by
     rcases Nat.eq_zero_or_pos (j-R.length) with e | e
     ·exact e
     ·rw[List.getElem?_eq_none (by simp;omega)]at hs;cases hs
    rw[this]at hs;cases hs;exact .inr ⟨by omega,rfl⟩
  rcases key hj with hj2 | ⟨rfl,rfl⟩
  ·rcases key hk with hk2 | ⟨rfl,rfl⟩
   ·exact h.dj j k r s hjk hj2 hk2
   ·exact(hd j r hj2).symm
  ·rcases key hk with hk2 | ⟨rfl,rfl⟩
   ·exact hd k s hk2
   ·exact absurd rfl hjk
theorem Hs.less {S:St}{R R':List Rs}(h:Hs S R)(f:Nat->Nat)(hf:∀i j,i<R'.length->j<R'.length->f i=f j->i=j)(he:∀i,i<R'.length->R[f i]? = R'[i]?):Hs S R' where
 wf:=h.wf
 ok i r hi:=h.ok (f i) r (by rw[he i (List.getElem?_eq_some_iff.1 hi).1];exact hi)
 dj i j r s hij hi hj:=by
  have a:=(List.getElem?_eq_some_iff.1 hi).1;have b:=(List.getElem?_eq_some_iff.1 hj).1;exact h.dj (f i) (f j) r s (λe=>hij (hf i j a b e)) (by rw[he i a];exact hi) (by rw[he j b];exact hj)
theorem Hs.addNil {S:St}{R:List Rs}(h:Hs S R)(ty:TypeId)(nl:Bool):Hs S (R++[.gr ty ⟨none,0,some 0,nl⟩ []]) :=
 h.more h.wf ⟨nR _,nR _,nR _,λ_ _ _=>⟨rfl,rfl⟩,λ_ _ _=>rfl,λ_ _ _ h=>h,λ_ _ _=>rfl,λ_ _ _=>rfl⟩ (.inl ⟨rfl,rfl,rfl,rfl⟩) λj s _=>by
  cases s<;>simp[RsDj]
theorem RsOK.rd {S:St}{ty:TypeId}{o:SI}{xs:List AV}(h:RsOK S (.gr ty o xs)):rd S o=.here:=by
 rcases h with⟨h,_⟩ | ⟨t,l,rfl,_,_,_,h3,h4⟩
 ·exact rd_none h
 ·simp only[Dn.rd,h3,h4]
theorem RsOK.els {S:St}{ty:TypeId}{o:SI}{xs:List AV}(h:RsOK S (.gr ty o xs))(agg:Bool)(es:Nat):elems S agg es o xs=some xs:=by
 simp only[elems,h.rd]
theorem hs_app {gt:GT}{d:Option Nat}{env:Env}{S:St}{R:List Rs}{agg:Bool}{ty:TypeId}{es bytes:Nat}{x y:DOpd}{o:SI}{xs ys:List AV}{yv:AV}(h:Hs S R)(i:Nat)(hi:R[i]? = some (.gr ty o xs))
  (hx:opd env x=some (.sl es o xs)) (hy:opd env y=some yv) (hys:srcE S agg es yv=some ys)
  (hb:(xs.length+ys.length)*bytes<=140737488355328) (hb2:xs.length+ys.length<=140737488355328) (hb3:bytes<=1048576) (hes:0<es) (hok:(ys.flatMap AV.cells).all ok1=true) :
  ∃o' S',stepO gt d env S (.app agg ty es bytes x y)=.done (putV d (.sl es o' (xs++ys)) env) S'/\Hs S' (R.set i (.gr ty o' (xs++ys))):=by
 have hg:=h.ok i _ hi;have hel:elems S agg es o xs=some xs:=hg.els _ _;have hset:∀z,R[i]? = some z->R.set i z=R:=λz hz=>by
  apply List.ext_getElem?
  intro j;by_cases e:i=j
  ·subst e;rw[List.getElem?_set_self',hz];rfl
  ·rw[List.getElem?_set_ne e]
 cases ys with
 | nil =>
  refine⟨o,S,?_,by rw[List.append_nil,hset _ hi];exact h⟩;simp only[stepO,hx,hy,appV,hys,hel,List.append_nil]
 | cons y ys =>
  have hguard:(Nat.beq es es && (Nat.ble ((xs.length+(y::ys).length)*bytes) 140737488355328 && (Nat.ble (xs.length+(y::ys).length) 140737488355328 && (Nat.ble bytes 1048576 && Nat.blt 0 es))))=true:=by
   rw[Nat.beq_refl,ble_true hb,ble_true hb2,ble_true hb3];simp only[Bool.true_and];exact Nat.ble_eq_true_of_le hes
  have hw:=h.wf S.nt (nR _);rcases hg with⟨h1,h2,h3,rfl⟩ | ⟨t,l,rfl,h1,h2,h5,h3,h4⟩
  ·refine⟨⟨some (S.nt,S.nt),0,none,false⟩,{ S with nt:=S.nt+1,tip:=(S.nt,some (([]:List AV).length+(y::ys).length,ty,false))::S.tip },?_,?_⟩
   ·have hz:Nat.ble (([]:List AV).length+(y::ys).length) 0=false:=by
     cases hq:Nat.ble (([]:List AV).length+(y::ys).length) 0 with
     | false=>rfl
     | true=>have:=bL hq;simp at this
    simp only[stepO,hx,hy,appV,hys,hel,hguard,cond_true,h3,hz,cond_false]
   ·refine h.turn (S':={ S with nt:=S.nt+1,tip:=(S.nt,some (([]:List AV).length+(y::ys).length,ty,false))::S.tip }) (r':=.gr ty ⟨some (S.nt,S.nt),0,none,false⟩ ([]++y::ys)) (T:=λ_=>False) (L:=λ_=>False) (M:=λ_=>False) (B:=λ_=>False) (λt ht=>h.wf t (by simp at ht;omega)) ⟨Nat.le_succ _,nR _,nR _,λt ht _=>⟨lk_ne _ _ (by omega),rfl⟩,λ_ _ _=>rfl,λ_ _ _ h=>h,λ_ _ _=>rfl,λ_ _ _=>rfl⟩ (λj s _ _=>by cases s<;>simp[Rs.off]) ?_ λj s _ hs=>?_
    ·exact .inr ⟨S.nt,S.nt,rfl,Nat.lt_succ_self _,Nat.lt_succ_self _,by simp[lk_same],hw.1,hw.2⟩
    ·have hsk:=h.ok j s hs;cases s with
     | gr ty2 o2 zs =>
      intro t l t2 l2 e e2;cases e;rcases hsk with⟨e3,_⟩ | ⟨t3,l3,rfl,b1,b2,_⟩
      ·rw[e3]at e2;cases e2
      ·cases e2;exact⟨by omega,by omega⟩
     | _=>trivial
  ·refine⟨⟨some (S.nt,l),0,none,false⟩,{ S with nt:=S.nt+1,tip:=(S.nt,some (xs.length+(y::ys).length,ty,false))::(t,none)::S.tip },?_,?_⟩
   ·have hrd:rd S ⟨some (t,l),0,none,false⟩=.here:=by simp only[rd,h3,h4]
    have hg2:(Nat.beq ty ty && (Nat.beq xs.length xs.length && (Nat.beq 0 0 && (Nat.ble l S.nt && ((y::ys).flatMap AV.cells).all ok1))))=true:=by
     rw[Nat.beq_refl,Nat.beq_refl,Nat.beq_refl,ble_true (by omega),hok];rfl
    simp only[stepO,hx,hy,appV,hys,hel,hguard,cond_true,hrd,h5,hg2]
   ·refine h.turn (S':={ S with nt:=S.nt+1,tip:=(S.nt,some (xs.length+(y::ys).length,ty,false))::(t,none)::S.tip }) (r':=.gr ty ⟨some (S.nt,l),0,none,false⟩ (xs++y::ys)) (T:=λq=>q=t) (L:=λ_=>False) (M:=λ_=>False) (B:=λ_=>False) (λt ht=>h.wf t (by simp at ht;omega)) ⟨Nat.le_succ _,nR _,nR _,λq hq hne=>⟨by rw[lk_ne _ _ (by omega),lk_ne _ _ (λe=>hne e.symm)],rfl⟩,λ_ _ _=>rfl,λ_ _ _ h=>h,λ_ _ _=>rfl,λ_ _ _=>rfl⟩ (λj s hj hs=>?_) ?_ λj s hj hs=>?_
    ·have hdj:=h.dj i j _ s (λe=>hj e.symm) hi hs;cases s with
     | gr ty2 o2 zs=>intro t2 l2 e2;exact⟨λe=>(hdj t l t2 l2 rfl e2).1 e.symm,λe=>e⟩
     | _=>simp[Rs.off]
    ·exact .inr ⟨S.nt,l,rfl,Nat.lt_succ_self _,Nat.lt_succ_of_lt h2,by simp[lk_same],hw.1,h4⟩
    ·have hsk:=h.ok j s hs;have hdj:=h.dj i j _ s (λe=>hj e.symm) hi hs;cases s with
     | gr ty2 o2 zs =>
      intro t' l' t2 l2 e e2;cases e;rcases hsk with⟨e3,_⟩ | ⟨t3,l3,rfl,b1,b2,_⟩
      ·rw[e3]at e2;cases e2
      ·cases e2;exact⟨by omega,(hdj _ _ _ _ rfl rfl).2⟩
     | _=>trivial
theorem hs_mkm {gt:GT}{d:Option Nat}{env:Env}{S:St}{R:List Rs}(h:Hs S R) :
  ∃id S',stepO gt d env S .mkm=.done (putV d (.map id) env) S'/\Hs S' (R++[.mp id []]):=by
 refine⟨S.nm,{ S with nm:=S.nm+1,maps:=(S.nm,[])::S.maps },rfl,h.more (S':={ S with nm:=S.nm+1,maps:=(S.nm,[])::S.maps }) (r':=.mp S.nm []) (λt ht=>h.wf t ht) ⟨nR _,nR _,Nat.le_succ _,λ_ _ _=>⟨rfl,rfl⟩,λ_ _ _=>rfl,λ_ _ _ h=>h,λi hi _=>lk_ne _ _ (by omega),λ_ _ _=>rfl⟩ ⟨Nat.lt_succ_self _,lk_same _ _ _⟩ λj s hs=>?_⟩;have:=h.ok j s hs;cases s with
 | mp i es=>intro e;have:=this.1;omega
 | _=>trivial
theorem Hs.mapTo {S:St}{R:List Rs}(h:Hs S R){i:Nat}{id:Nat}{es:List (AV×AV)}(hi:R[i]? = some (.mp id es))(es':List (AV×AV)):Hs { S with maps:=(id,es')::S.maps } (R.set i (.mp id es')):=by
 have hk:=h.ok i _ hi;refine h.turn (S':={ S with maps:=(id,es')::S.maps }) (r':=.mp id es') (T:=λ_=>False) (L:=λ_=>False) (M:=λq=>q=id) (B:=λ_=>False) (λt ht=>h.wf t ht) ⟨nR _,nR _,nR _,λ_ _ _=>⟨rfl,rfl⟩,λ_ _ _=>rfl,λ_ _ _ h=>h,λj hj hne=>lk_ne _ _ (λe=>hne e.symm),λ_ _ _=>rfl⟩ (λj s hj hs=>?_) ⟨hk.1,lk_same _ _ _⟩ λj s hj hs=>?_
 ·have hdj:=h.dj i j _ s (λe=>hj e.symm) hi hs;cases s with
  | mp k es2=>exact λe=>hdj e.symm
  | _=>simp[Rs.off]
 ·have hdj:=h.dj i j _ s (λe=>hj e.symm) hi hs;cases s with
  | mp k es2=>exact hdj
  | _=>trivial
theorem Hs.boxTo {S:St}{R:List Rs}(h:Hs S R){i:Nat}{id:Nat}{ty:TypeId}{cs:List AV}(hi:R[i]? = some (.bx id ty cs))(cs':List AV):Hs { S with boxes:=(id,some (ty,cs'))::S.boxes } (R.set i (.bx id ty cs')):=by
 have hk:=h.ok i _ hi;refine h.turn (S':={ S with boxes:=(id,some (ty,cs'))::S.boxes }) (r':=.bx id ty cs') (T:=λ_=>False) (L:=λ_=>False) (M:=λ_=>False) (B:=λq=>q=id) (λt ht=>h.wf t ht) ⟨nR _,nR _,nR _,λ_ _ _=>⟨rfl,rfl⟩,λ_ _ _=>rfl,λ_ _ _ h=>h,λ_ _ _=>rfl,λj hj hne=>lk_ne _ _ (λe=>hne e.symm)⟩ (λj s hj hs=>?_) ⟨hk.1,lk_same _ _ _⟩ λj s hj hs=>?_
 ·have hdj:=h.dj i j _ s (λe=>hj e.symm) hi hs;cases s with
  | bx k ty2 es2=>exact λe=>hdj e.symm
  | _=>simp[Rs.off]
 ·have hdj:=h.dj i j _ s (λe=>hj e.symm) hi hs;cases s with
  | bx k ty2 es2=>exact hdj
  | _=>trivial
theorem Hs.newBox {S:St}{R:List Rs}(h:Hs S R)(ty:TypeId)(cs:List AV):Hs { S with nb:=S.nb+1,boxes:=(S.nb,some (ty,cs))::S.boxes } (R++[.bx S.nb ty cs]) :=
 h.more (S':={ S with nb:=S.nb+1,boxes:=(S.nb,some (ty,cs))::S.boxes }) (r':=.bx S.nb ty cs) (λt ht=>h.wf t ht) ⟨nR _,Nat.le_succ _,nR _,λ_ _ _=>⟨rfl,rfl⟩,λ_ _ _=>rfl,λ_ _ _ h=>h,λ_ _ _=>rfl,λi hi _=>lk_ne _ _ (by omega)⟩ ⟨Nat.lt_succ_self _,lk_same _ _ _⟩ λj s hs=>by
  have:=h.ok j s hs;cases s with
  | bx i ty2 es=>intro e;have:=this.1;omega
  | _=>trivial
section
variable {gt:GT}{C:CallT}
theorem st_any {d:Option Nat}{op:DOp}{gd:Option (Nat×Bool)}{env env':Env}{S S':St}{K:Env->St->Prop}{Q:Ex->Env->St->Prop}(hg:Gd env gd)(h:stepO gt d env S op=.done env' S')(k:K env' S'):afterS C d env S K Q (stepI gt ⟨d,op,gd⟩ env S):=by
 rw[st_gd hg,h];exact k
theorem st_anyD {d:Option Nat}{op:DOp}{gd:Option (Nat×Bool)}{l:Option Nat}{env env':Env}{S S':St}{K:Env->St->Prop}{Q:Ex->Env->St->Prop}(hg:Gd env gd)(h0:isLoc op=false)(h1:conform l env op=true)(h:stepO gt d env S op=.done env' S')(k:K env' S'):afterS C d env S K Q (stepD gt (⟨d,op,gd⟩,l) env S):=by
 have:stepD gt (⟨d,op,gd⟩,l) env S=stepO gt d env S op:=by
  cases gd with
  | none=>simp only[stepD,stepDO,h0,h1,cond_false,cond_true]
  | some p =>
   obtain⟨g,w⟩:=p;have hg:lk env g=some (.val (.bool w)):=hg;simp only[stepD,stepDO,h0,h1,cond_false,cond_true,hg,beq_self_eq_true]
 rw[this,h];exact k
theorem r_app {d:Option Nat}{env:Env}{S:St}{R:List Rs}{agg:Bool}{ty:TypeId}{es bytes:Nat}{x y:DOpd}{o:SI}{xs ys:List AV}{yv:AV}{gd:Option (Nat×Bool)}{K:Env->St->Prop}{Q:Ex->Env->St->Prop}(h:Hs S R)(i:Nat)(hi:R[i]? = some (.gr ty o xs))
  (hg:Gd env gd) (hx:opd env x=some (.sl es o xs)) (hy:opd env y=some yv) (hys:srcE S agg es yv=some ys)
  (hb:(xs.length+ys.length)*bytes<=140737488355328) (hb2:xs.length+ys.length<=140737488355328) (hb3:bytes<=1048576) (hes:0<es) (hok:(ys.flatMap AV.cells).all ok1=true)
  (k:∀o' S',Hs S' (R.set i (.gr ty o' (xs++ys)))->K (putV d (.sl es o' (xs++ys)) env) S'):afterS C d env S K Q (stepI gt ⟨d,.app agg ty es bytes x y,gd⟩ env S):=by
 obtain⟨o',S',e,h'⟩:=hs_app (gt:=gt) (d:=d) h i hi hx hy hys hb hb2 hb3 hes hok;exact st_any hg e (k o' S' h')
end
end Go.Dn
namespace Go.Dn
def isVB:Ent->Bool
 |.val _ |.box _=>true
 | _=>false
theorem keep_cons {env rest:Env}{k:Nat}{r:List Nat}{e:Ent}(h:lk env k=some e)(hv:isVB e=true)(hr:keepE env r=rest):keepE env (k::r)=(k,e)::rest:=by
 subst hr;cases e<;>first | (simp only[keepE,h];done) | cases hv
end Go.Dn
namespace Go.Dn
theorem keep_intro {env l e0:Env}{ks:List Nat}{G:Prop}(h:keepE env ks=l)(k:l=e0->G):keepE env ks=e0->G:=λh'=>k (h.symm.trans h')
end Go.Dn
namespace Go.Dn
theorem sI {gt:GT}{C:CallT}{i:DI}{env env':Env}{S S':St}{K:Env->St->Prop}{Q:Ex->Env->St->Prop}(h:stepI gt i env S=.done env' S')(k:K env' S'):afterS C i.dst env S K Q (stepI gt i env S):=step_rule h k
theorem sD {gt:GT}{C:CallT}{i:DI×Option Nat}{env env':Env}{S S':St}{A B:Env->St->Prop}{Q:Ex->Env->St->Prop}(h:stepD gt i env S=.done env' S')(a:A env' S')(k:B env' S'):afterS C i.1.dst env S (λe s=>A e s/\B e s) Q (stepD gt i env S):=step_ruleD h ⟨a,k⟩
theorem kI {env l e0:Env}{ks:List Nat}{G:Prop}(h:keepE env ks=l)(k:l=e0->G):keepE env ks=e0->G:=keep_intro h k
theorem kN (env:Env):keepE env []=[]:=rfl
theorem kC {env rest:Env}{k:Nat}{r:List Nat}{e:Ent}(h:lk env k=some e)(hv:isVB e=true)(hr:keepE env r=rest):keepE env (k::r)=(k,e)::rest:=keep_cons h hv hr
end Go.Dn

namespace Go.Dn
open Go
theorem goW {G G':Prop}(k:G')(h:G'->G:=by
 intro hk;((try refine And.intro (by rfl) ?_);(conv=>whnf);repeat (first | (refine sI (by rfl) ?_;conv=>whnf) | (refine sD (by rfl) (by rfl) ?_;conv=>whnf) | (generalize hE:keepE _ _=e0;revert hE;apply kI;(repeat (first | exact kN _ | (apply kC;with_unfolding_all rfl;rfl)));rintro rfl;(conv=>whnf);conv=>whnf)));exact hk):G:=h k
theorem goK {G G':Prop}(k:G')(h:G'->G:=by
 intro hk;((try refine And.intro (by rfl) ?_);(conv=>whnf);repeat (refine sI (by rfl) ?_;conv=>whnf);(generalize hE:keepE _ _=e0;revert hE;apply kI;(repeat (first | exact kN _ | (apply kC;with_unfolding_all rfl;rfl)));rintro rfl));exact hk):G:=h k
end Go.Dn

namespace Go.Dn
open Go Go.Proofs.C1
set_option maxRecDepth 100000
attribute [local irreducible] afterS keepE
mutual
def encT:PT->AV
 |.mk k s keys kids=>.agg [.int .i64 k,.str s,.sl 1 stat (strs keys),.sl 4 stat (encTs kids)]
def encTs:List PT->List AV
 | []=>[]
 | t::r=>encT t::encTs r
end
theorem encTs_len:∀l:List PT,(encTs l).length=l.length
 | []=>rfl
 | t::r=>by simp[encTs,encTs_len r]
theorem encTs_get:∀{l:List PT} {i:Nat} (h:i<l.length),(encTs l)[i]? = some (encT l[i])
 | t::r,0,_=>rfl
 | t::r,i+1,h=>by simpa[encTs] using encTs_get (l:=r) (i:=i) (by simpa using h)
theorem sta_strs:∀l:List (List UInt8),Stas (strs l)
 | []=>trivial
 | a::r=>⟨trivial,sta_strs r⟩
mutual
theorem sta_T:∀t,Sta (encT t)
 |.mk k s keys kids=>by
  simp only[encT,Sta,Stas];exact⟨trivial,trivial,⟨trivial,sta_strs keys⟩,⟨trivial,sta_Ts kids⟩,trivial⟩
theorem sta_Ts:∀l,Stas (encTs l)
 | []=>trivial
 | t::r=>by simp only[encTs,Stas];exact⟨sta_T t,sta_Ts r⟩
end
theorem rdT (t:PT):(cut (encT t).cells 0 4).bind (mkv true)=some (encT t):=by cases t;rfl
abbrev Ret (u:AV):Res->St->Prop:=λr S1=>∃x,r=.ret x/\Rdo S1 u x
theorem Ret.sta {u:AV}{S:St}(h:Sta u):Ret u (.ret u) S:=⟨u,rfl,h.rdo _⟩
theorem kid_lt {k s keys}{kids:List PT}{i:Nat}(h:i<kids.length):kids[i].n<(PT.mk k s keys kids).n:=by
 have:=PT.ns_mem (List.getElem_mem h);simp only[PT.n];omega
section
variable {gt:GT}{C:CallT}
end

theorem beqB_iff {a b:List UInt8}:beqB a b=true↔a=b:=by
 induction a generalizing b with
 | nil=>cases b<;>simp[beqB]
 | cons x a ih =>
  cases b with
  | nil=>simp[beqB]
  | cons y b =>
   simp only[beqB];by_cases h:x=y
   ·subst h;rw[Nat.beq_refl];simp[ih]
   ·have:Nat.beq x.toNat y.toNat=false:=by
     cases hb:Nat.beq x.toNat y.toNat with
     | false=>rfl
     | true=>exact absurd (UInt8.toNat_inj.1 (bE hb)) h
    rw[this];simp[h]
theorem beqB_true {a b:List UInt8}(h:a=b):beqB a b=true:=beqB_iff.2 h
theorem beqB_false {a b:List UInt8}(h:¬a=b):beqB a b=false:=by
 cases hh:beqB a b with
 | false=>rfl
 | true=>exact absurd (beqB_iff.1 hh) h
theorem neI_true {a b:Int}(h:¬a=b):(a != b)=true:=by simp[h]
theorem neI_false {a b:Int}(h:a=b):(a != b)=false:=by simp[h]
theorem eqI_true {a b:Int}(h:a=b):(a == b)=true:=by simp[h]
theorem eqI_false {a b:Int}(h:¬a=b):(a == b)=false:=by simp[h]
section
variable {gt:GT}{C:CallT}
end

mutual
def eqT:PT->PT->Bool
 |.mk k s keys kids,.mk k' s' keys' kids'=>decide (k=k') && (decide (s=s') && (decide (keys=keys') && eqTs kids kids'))
def eqTs:List PT->List PT->Bool
 | [],[]=>true
 | a::r,b::q=>eqT a b && eqTs r q
 | _,_=>false
end
mutual
theorem eqT_iff:∀{a b:PT},eqT a b=true↔a=b
 |.mk k s keys kids,.mk k' s' keys' kids'=>by simp[eqT,eqTs_iff (a:=kids) (b:=kids')]
theorem eqTs_iff:∀{a b:List PT},eqTs a b=true↔a=b
 | [],[]=>by simp[eqTs]
 | a::r,b::q=>by simp[eqTs,eqT_iff (a:=a) (b:=b),eqTs_iff (a:=r) (b:=q)]
 | [],b::q=>by simp[eqTs]
 | a::r,[]=>by simp[eqTs]
end
theorem eqT_false {a b:PT}(h:¬a=b):eqT a b=false:=by
 cases hh:eqT a b with
 | false=>rfl
 | true=>exact absurd (eqT_iff.1 hh) h
theorem eqT_true {a b:PT}(h:a=b):eqT a b=true:=eqT_iff.2 h
theorem strs_at {l:List (List UInt8)}{i:Nat}(h:i<l.length):(strs l)[i]? = some (.str l[i]):=strs_get (gE h)
def PT.k:PT->Int |.mk k _ _ _=>k
def PT.s:PT->List UInt8 |.mk _ s _ _=>s
def PT.keys:PT->List (List UInt8) |.mk _ _ keys _=>keys
def PT.kids:PT->List PT |.mk _ _ _ kids=>kids
section
variable {gt:GT}{C:CallT}
abbrev E_plain (t u:PT)(i:Int):Env:=[(2,.box (encT t).cells),(3,.box (encT u).cells),(5,.val (.int .i64 i))]
abbrev E_plain2 (t u:PT)(i:Int):Env:=[(2,.box (encT t).cells),(3,.box (encT u).cells),(6,.val (.int .i64 i))]
set_option maxHeartbeats 2000000 in
theorem plain_wp (hm:MonoC C){t t':PT}(ih:∀u,u.n<t.n->∀u',u.ok->PF C 32 [encT u,encT u'] (.bool (eqT u u')))(hk:t.ok) :
  wpF gt C F32 [encT t,encT t'] St.init (Ret (.bool (eqT t t'))):=by
 obtain⟨k,s,keys,kids⟩:=t;obtain⟨k',s',keys',kids'⟩:=t';simp only[PT.ok]at hk;obtain⟨hk1,hk2,hk3⟩:=hk;have no:∀{S:St},¬PT.mk k s keys kids=.mk k' s' keys' kids'->Ret (.bool (eqT (.mk k s keys kids) (.mk k' s' keys' kids'))) (.ret (.bool false)) S:=λh=>by rw[eqT_false h];exact Ret.sta trivial
 have l1:=strs_length keys;have l2:=strs_length keys';have l3:=encTs_len kids;have l4:=encTs_len kids';refine⟨rfl,?_⟩;refine goW ?_;by_cases z0:k=k'
 case neg =>
  rw[neI_true z0];refine goW ?_;exact⟨_,rfl,no (by simp[z0])⟩
 rw[neI_false z0];refine goW ?_;by_cases z1:s=s'
 case neg =>
  rw[beqB_false z1];refine goW ?_;exact⟨_,rfl,no (by simp[z1])⟩
 rw[beqB_true z1];refine goW ?_;by_cases z2:((strs keys).length:Int)=(strs keys').length
 case neg =>
  rw[neI_true z2];refine goW ?_;exact⟨_,rfl,no λh=>by simp only[PT.mk.injEq]at h;rw[h.2.2.1]at z2;exact z2 rfl⟩
 rw[neI_false z2];refine goW ?_;by_cases z3:((encTs kids).length:Int)=(encTs kids').length
 case neg =>
  rw[neI_true z3];refine goW ?_;exact⟨_,rfl,no λh=>by simp only[PT.mk.injEq]at h;rw[h.2.2.2]at z3;exact z3 rfl⟩
 rw[neI_false z3];refine goW ?_;refine loop_rule hm (α:=Nat) (λi env S'=>i<=keys.length/\env=E_plain (.mk k s keys kids) (.mk k' s' keys' kids') i/\S'=St.init/\keys.take i=keys'.take i) (λi=>keys.length-i) ?_ (a:=0) ⟨Nat.zero_le _,rfl,rfl,rfl⟩;rintro i env S' ⟨hi,rfl,rfl,hp⟩;refine goW ?_;by_cases h:(i:Int)<(strs keys).length
 ·rw[dT h];refine goW ?_;have hik:i<keys.length:=by omega
  have hik':i<keys'.length:=by omega
  refine step_ruleDO rfl rfl (sx_ia (k:=i) rfl rfl (by omega)) (goW ?_);refine step_ruleDO rfl rfl (sx_ldEl (agg:=false) rfl rfl (strs_at hik) rfl) (goW ?_);refine step_ruleDO rfl rfl (sx_ia (k:=i) rfl rfl (by omega)) (goW ?_);refine step_ruleDO rfl rfl (sx_ldEl (agg:=false) rfl rfl (strs_at hik') rfl) (goW ?_);by_cases z:keys[i]=keys'[i]
  ·rw[beqB_true z];refine goW ?_;refine⟨i+1,⟨by omega,?_,rfl,?_⟩,by omega⟩
   ·rw[wrNat (by omega)];try rfl
   ·rw[tS hik,tS hik',hp,z]
  ·rw[beqB_false z];refine goW ?_;exact⟨_,rfl,no λh=>by simp only[PT.mk.injEq]at h;obtain⟨_,_,rfl,_⟩:=h;exact z rfl⟩
 rw[dF h];refine goW ?_;have hkeys:keys=keys':=by
  rwa [List.take_of_length_le (by omega),List.take_of_length_le (by omega)]at hp
 clear h hi hp
 refine loop_rule hm (α:=Nat) (λi env S'=>i<=kids.length/\env=E_plain2 (.mk k s keys kids) (.mk k' s' keys' kids') i/\S'=St.init/\kids.take i=kids'.take i) (λi=>kids.length-i) ?_ (a:=0) ⟨Nat.zero_le _,rfl,rfl,rfl⟩;rintro i env S' ⟨hi,rfl,rfl,hp⟩;refine goW ?_;by_cases h:(i:Int)<(encTs kids).length
 ·rw[dT h];refine goW ?_;have hik:i<kids.length:=by omega
  have hik':i<kids'.length:=by omega
  refine step_ruleDO rfl rfl (sx_ia (k:=i) rfl rfl (by omega)) (goW ?_);refine step_ruleDO rfl rfl (sx_ldEl (agg:=true) rfl rfl (encTs_get hik) (rdT _)) (goW ?_);refine step_ruleDO rfl rfl (sx_ia (k:=i) rfl rfl (by omega)) (goW ?_);refine step_ruleDO rfl rfl (sx_ldEl (agg:=true) rfl rfl (encTs_get hik') (rdT _)) (goW ?_);refine call_pfD hm (by rfl) (ih _ (kid_lt hik) _ (PT.oks_get hk3 (gE hik))) (goW ?_);by_cases z:kids[i]=kids'[i]
  ·rw[eqT_true z];refine goW ?_;refine⟨i+1,⟨by omega,?_,rfl,?_⟩,by omega⟩
   ·rw[wrNat (by omega)];try rfl
   ·rw[tS hik,tS hik',hp,z]
  ·rw[eqT_false z];refine goW ?_;exact⟨_,rfl,no λh=>by simp only[PT.mk.injEq]at h;obtain⟨_,_,_,rfl⟩:=h;exact z rfl⟩
 rw[dF h];refine goW ?_;have hkids:kids=kids':=by
  rwa [List.take_of_length_le (by omega),List.take_of_length_le (by omega)]at hp
 refine⟨_,rfl,?_⟩;rw[eqT_true (by rw[z0,z1,hkeys,hkids])];exact Ret.sta trivial
end
end Go.Dn

namespace Go.Dn
open Go Go.RowKit
section
variable {gt:GT}{C:CallT}{S:St}{R:List Rs}
end
end Go.Dn

namespace Go.Dn
open Go Go.Proofs.C1
set_option maxRecDepth 100000
attribute [local irreducible] afterS keepE
section
variable {gt:GT}{C:CallT}
end
end Go.Dn

namespace Go.Dn
open Go Go.RowKit
section
variable {P:Program}{W:World}{H:Type}{enc:TypeId×Value->H}
end
end Go.Dn

namespace Go.Proofs.YthgidapmofcloaaGreatDoor
open Go.Dn
theorem u_int:Tryz.prog.underlying 3=some (.int .i64):=by kernel_rfl
theorem u_str:Tryz.prog.underlying 9=some .string:=by kernel_rfl
end Go.Proofs.YthgidapmofcloaaGreatDoor

namespace Go.Proofs.YthgidapmofcloaaGreatDoor
open Go.Dn
end Go.Proofs.YthgidapmofcloaaGreatDoor

namespace Go.Dn
open Go Go.Proofs.C1
set_option maxRecDepth 100000
attribute [local irreducible] afterS keepE
theorem st_runP {C:CallT}{gt:GT}{d:Option Nat}{op:DOp}{gd:Option (Nat×Bool)}{env env':Env}{S:St}{P:St->Prop}{K:Env->St->Prop}{Q:Ex->Env->St->Prop}(h:∃S',stepO gt d env S op=.done env' S'/\P S')(hg:Gd env gd)(k:∀S',P S'->K env' S'):afterS C d env S K Q (stepI gt ⟨d,op,gd⟩ env S):=by
 obtain⟨S',h1,h2⟩:=h;exact st_any hg h1 (k S' h2)
section
variable {gt:GT}{C:CallT}
end

def PT.zero:PT:=.mk 0 [] [] []
section
variable {gt:GT}{C:CallT}
end
end Go.Dn

namespace Go.Dn
open Go Go.RowKit
theorem Hs.bldT {S:St}{R:List Rs}(h:Hs S R)(ty:TypeId)(n:Nat):Hs { S with nt:=S.nt+1,tip:=(S.nt,some (n,ty,false))::S.tip } R /\
  ∀(agg:Bool) (es:Nat) (xs:List AV),srcE { S with nt:=S.nt+1,tip:=(S.nt,some (n,ty,false))::S.tip } agg es (.sl es ⟨some (S.nt,S.nt),0,some n,false⟩ xs)=some xs:=by
 have hw:=h.wf S.nt (nR _);refine⟨?_,λagg es xs=>?_⟩
 ·have:=h.more (S':={ S with nt:=S.nt+1,tip:=(S.nt,some (n,ty,false))::S.tip }) (r':=.gr ty ⟨none,0,some 0,true⟩ []) (λt ht=>h.wf t (by simp only at ht;omega)) ⟨Nat.le_succ _,nR _,nR _,λt ht _=>⟨lk_ne _ _ (by omega),rfl⟩,λ_ _ _=>rfl,λ_ _ _ h=>h,λ_ _ _=>rfl,λ_ _ _=>rfl⟩ (.inl ⟨rfl,rfl,rfl,rfl⟩) λj s _=>by
   cases s<;>simp[RsDj]
  exact this.less id (λi j _ _ e=>e) λi hi=>by rw[id,List.getElem?_append_left hi]
 ·simp only[srcE,Nat.beq_refl,cond_true,elems,rd,hw.1,hw.2]

end Go.Dn

namespace Go.Dn
open Go Go.Proofs.C1
set_option maxRecDepth 100000
attribute [local irreducible] afterS keepE
section
variable {gt:GT}{C:CallT}
end

section
variable {gt:GT}{C:CallT}
end

section
variable {gt:GT}{C:CallT}
end

theorem sx_ixS {gt:GT}{d:Option Nat}{env:Env}{S:St}{x i:DOpd}{s:List UInt8}{k:Nat}{b:UInt8}(hx:opd env x=some (.str s))(hi:(opd env i).bind nat? = some k)(hb:s[k]? = some b) :
  stepO gt d env S (.ixS x i)=.done (putV d (.int .u8 b.toNat) env) S:=by
 simp only[stepO,hx,hi,hb]
theorem sx_slLo {gt:GT}{d:Option Nat}{env:Env}{S:St}{x lo:DOpd}{s:List UInt8}{l:Nat}(hx:opd env x=some (.str s))(hl:(opd env lo).bind nat? = some l)(h:l<=s.length) :
  stepO gt d env S (.slS x (some lo) none)=.done (putV d (.str (s.drop l)) env) S:=by
 have hb:bnds env s.length (some lo) none=some (l,s.length):=by
  simp only[bnds,hl,ble_true h,ble_true (nR _),Bool.and_self,cond_true]
 simp only[stepO,hx,hb];rw[List.take_of_length_le (by simp)]
theorem sx_slHiS {gt:GT}{d:Option Nat}{env:Env}{S:St}{x hi:DOpd}{s:List UInt8}{h:Nat}(hx:opd env x=some (.str s))(hh:(opd env hi).bind nat? = some h)(hl:h<=s.length) :
  stepO gt d env S (.slS x none (some hi))=.done (putV d (.str (s.take h)) env) S:=by
 have hb:bnds env s.length none (some hi)=some (0,h):=by
  simp only[bnds,hh,ble_true (Nat.zero_le h),ble_true hl,Bool.and_self,cond_true]
 simp only[stepO,hx,hb,List.drop_zero,Nat.sub_zero]
theorem sx_slLH {gt:GT}{d:Option Nat}{env:Env}{S:St}{x lo hi:DOpd}{s:List UInt8}{l h:Nat}(hx:opd env x=some (.str s))(hl:(opd env lo).bind nat? = some l)(hh:(opd env hi).bind nat? = some h)(h1:l<=h)(h2:h<=s.length) :
  stepO gt d env S (.slS x (some lo) (some hi))=.done (putV d (.str ((s.drop l).take (h-l))) env) S:=by
 have hb:bnds env s.length (some lo) (some hi)=some (l,h):=by
  simp only[bnds,hl,hh,ble_true h1,ble_true h2,Bool.and_self,cond_true]
 simp only[stepO,hx,hb]
def eqRes (u:AV):Res->St->Bool
 |.ret v,_=>beqA u v
 | _,_=>false
theorem byRun {gt:GT}{C:CallT}(hm:MonoC C){F:DF}{xs:List AV}{u:AV}(hs:Sta u)(h:exF gt (λ_ _ _ _=>false) 1000 F xs St.init (eqRes u)=true):wpF gt C F xs St.init (Ret u):=by
 refine exF_sound (C':=C) (λf xs S k h=>by cases h) hm (λr S h=>?_) h;cases r with
 | ret v =>
  have:=beqA_eq h;subst this;exact Ret.sta hs
 | pan v=>cases h
def leadB (b:Nat):Nat×Nat×Nat :=
 if b<128 then (1,b,0) else if b<192 then (0,0,0) else if b<224 then (2,b-192,128) else if b<240 then (3,b-224,2048) else if b<248 then (4,b-240,65536) else (0,0,0)
def encLead (p:Nat×Nat×Nat):AV:=.tup [.int .i64 p.1,.int .i64 p.2.1,.int .i64 p.2.2]
def contV:Nat->List UInt8->Nat->Option Nat
 | 0,_,acc=>some acc
 | _+1,[],_=>none
 | k+1,x::r,acc=>if 128<=x.toNat/\x.toNat<192 then contV k r (acc*64+(x.toNat-128)) else none
def charB (c:Int):Bool:=decide (0<=c/\c<=1114111/\(c<55296\/57343<c))
def firstC:List UInt8->Nat×Nat
 | []=>(0,0)
 | b::r =>
  if (leadB b.toNat).1=0\/r.length+1<(leadB b.toNat).1 then (0,0) else match contV ((leadB b.toNat).1-1) r (leadB b.toNat).2.1 with
   | none=>(0,0)
   | some c=>if c<(leadB b.toNat).2.2\/charB c=false then (0,0) else (c,(leadB b.toNat).1)
def encFirst (p:Nat×Nat):AV:=.tup [.int .i64 p.1,.int .i64 p.2]
theorem leadB_le (b:Nat)(h:b<256):(leadB b).1<=4/\(leadB b).2.1<128:=by
 unfold leadB;split
 ·exact⟨by show 1<=4;decide,by assumption⟩
 ·split
  ·exact⟨by decide,by decide⟩
  ·split
   ·exact⟨by show 2<=4;decide,by show b-192<128;omega⟩
   ·split
    ·exact⟨by show 3<=4;decide,by show b-224<128;omega⟩
    ·split
     ·exact⟨by show 4<=4;decide,by show b-240<128;omega⟩
     ·exact⟨by decide,by decide⟩
theorem contV_step {k:Nat}{l:List UInt8}{i acc:Nat}(hi:i<l.length):contV (k+1) (l.drop i) acc=if 128<=l[i].toNat/\l[i].toNat<192 then contV k (l.drop (i+1)) (acc*64+(l[i].toNat-128)) else none:=by
 rw[dC hi];rfl
theorem u8_lt (x:UInt8):x.toNat<256:=UInt8.toNat_lt x
theorem or_add {a b:Nat}(hb:b<64)(ha:a*64+b<18446744073709551616):(BitVec.ofInt 64 ((a*64:Nat):Int) ||| BitVec.ofInt 64 (b:Int)).toNat=a*64+b:=by
 rw[BitVec.ofInt_natCast,BitVec.ofInt_natCast,BitVec.toNat_or,BitVec.toNat_ofNat,BitVec.toNat_ofNat,Nat.mod_eq_of_lt (show a*64<2 ^ 64 by omega),Nat.mod_eq_of_lt (show b<2 ^ 64 by omega)];have:=Nat.shiftLeft_add_eq_or_of_lt (i:=6) (b:=b) (by omega) a;rw[Nat.shiftLeft_eq]at this;exact this.symm
theorem and63 (x:UInt8)(h1:128<=x.toNat)(h2:x.toNat<192):(BitVec.ofInt 8 (x.toNat:Int) &&& BitVec.ofInt 8 63).toNat=x.toNat-128:=by
 rw[show (63:Int)=((63:Nat):Int) from rfl,BitVec.ofInt_natCast,BitVec.ofInt_natCast,BitVec.toNat_and,BitVec.toNat_ofNat,BitVec.toNat_ofNat,Nat.mod_eq_of_lt (show x.toNat<2 ^ 8 by omega),show (63:Nat) % 2 ^ 8=2 ^ 6-1 by decide,Nat.and_two_pow_sub_one_eq_mod];omega
theorem shr6 (x:UInt8):(((x.toNat:Int).fdiv (2 ^ 6)) != 2) = !decide (128<=x.toNat/\x.toNat<192):=by
 have hx:=u8_lt x;rw[show ((2:Int) ^ 6)=64 by decide,Int.fdiv_eq_ediv_of_nonneg _ (by decide)];by_cases h:128<=x.toNat/\x.toNat<192
 ·rw[dT h,show ((x.toNat:Int) / 64)=2 by omega];rfl
 ·rw[dF h];have:¬((x.toNat:Int) / 64)=2:=by omega
  simp[this]
section
variable {gt:GT}{C:CallT}
theorem row_gt (gt:GT):(List.range 256).all (λb=>exF gt (λ_ _ _ _=>false) 1000 F172 [.int .u8 b] St.init (eqRes (encLead (leadB b))))=true:=by kernel_rfl
theorem row_wp (hm:MonoC C)(b:UInt8):wpF gt C F172 [.int .u8 b.toNat] St.init (Ret (encLead (leadB b.toNat))) :=
 byRun hm ⟨trivial,trivial,trivial,trivial⟩ (List.all_eq_true.1 (row_gt gt) b.toNat (List.mem_range.2 (u8_lt b)))
theorem charB_wp {c:Int}:wpF gt C F173 [.int .i64 c] St.init (Ret (.bool (charB c))):=by
 refine⟨rfl,?_⟩;refine goW ?_;by_cases h0:c ≥ 0
 ·rw[dT h0];refine goW ?_;by_cases h1:c<=1114111
  ·rw[dT h1];refine goW ?_;by_cases h2:c<55296
   ·rw[dT h2];refine goW ?_;exact⟨_,rfl,by rw[show charB c=true by simp[charB];omega];exact Ret.sta trivial⟩
   ·rw[dF h2];refine goW ?_;exact⟨_,rfl,by rw[show charB c=decide (c > 57343) by simp only[charB];congr 1;simp;omega];exact Ret.sta trivial⟩
  ·rw[dF h1];refine goW ?_;exact⟨_,rfl,by rw[show charB c=false by simp[charB];omega];exact Ret.sta trivial⟩
 ·rw[dF h0];refine goW ?_;exact⟨_,rfl,by rw[show charB c=false by simp[charB];omega];exact Ret.sta trivial⟩
end

def hd (c:UInt8):List UInt8->Bool
 | []=>false
 | b::_=>b == c
def dig (b:UInt8):Bool:=decide (48<=b.toNat) && decide (b.toNat<=57)
def runB:List UInt8->Nat
 | []=>0
 | b::r=>if dig b then runB r+1 else 0
theorem runB_le:∀s,runB s<=s.length
 | []=>nR _
 | b::r=>by have:=runB_le r;simp only[runB,lC];split<;>omega
theorem beqB_one (b c:UInt8):beqB [b] [c]=(b == c):=by
 rw[beqB_eq,Bool.eq_iff_iff];simp
section
variable {gt:GT}{C:CallT}
theorem hasPre0_wp {s:List UInt8}{c:UInt8}:wpF gt C F204 [.str s,.str [c]] St.init (Ret (.bool (hd c s))):=by
 refine⟨rfl,?_⟩;cases s with
 | nil =>
  refine goW ?_;exact⟨_,rfl,Ret.sta trivial⟩
 | cons b r =>
  refine goW ?_;rw[dT (show (((b::r).length:Nat):Int) ≥ (([c]:List UInt8).length:Nat) by simp only[lC,lN];omega)];refine goW ?_;refine⟨_,rfl,?_⟩;rw[show (List.take (([c]:List UInt8).length-0) (List.drop 0 (b::r)))=[b] from rfl,beqB_one];exact Ret.sta trivial
theorem hasPre_wp (hm:MonoC C)(h:∀s c,PF C 204 [.str s,.str [c]] (.bool (hd c s))){s:List UInt8}{c:UInt8}:wpF gt C F185 [.str s,.str [c]] St.init (Ret (.bool (hd c s))):=by
 refine⟨rfl,?_⟩;refine goW ?_;refine call_pf hm (by rfl) (h s c) (goW ?_);exact⟨_,rfl,Ret.sta trivial⟩
theorem trimPre0_wp (hm:MonoC C)(h:∀s c,PF C 204 [.str s,.str [c]] (.bool (hd c s))){s:List UInt8}{c:UInt8}:wpF gt C F205 [.str s,.str [c]] St.init (Ret (.str (if hd c s then s.drop 1 else s))):=by
 refine⟨rfl,?_⟩;refine goW ?_;refine call_pf hm (by rfl) (h s c) (goW ?_);cases hh:hd c s with
 | false =>
  refine goW ?_;exact⟨_,rfl,Ret.sta trivial⟩
 | true =>
  refine goW ?_;have hl:1<=s.length:=by
   cases s with
   | nil=>cases hh
   | cons b r=>simp
  refine step_ruleO (sx_slLo (l:=1) rfl rfl hl) (goW ?_);exact⟨_,rfl,Ret.sta trivial⟩
theorem trimPre_wp (hm:MonoC C)(h:∀s c,PF C 205 [.str s,.str [c]] (.str (if hd c s then s.drop 1 else s))){s:List UInt8}{c:UInt8}:wpF gt C F186 [.str s,.str [c]] St.init (Ret (.str (if hd c s then s.drop 1 else s))):=by
 refine⟨rfl,?_⟩;refine goW ?_;refine call_pf hm (by rfl) (h s c) (goW ?_);exact⟨_,rfl,Ret.sta trivial⟩
theorem digit_wp {b:UInt8}:wpF gt C F195 [.int .u8 b.toNat] St.init (Ret (.bool (dig b))):=by
 refine⟨rfl,?_⟩;refine goW ?_;by_cases h:(b.toNat:Int) ≥ 48
 ·rw[dT h];refine goW ?_;refine⟨_,rfl,?_⟩;rw[show dig b=decide ((b.toNat:Int)<=57) by unfold dig;rw[dT (by omega),Bool.true_and];congr 1;simp;omega];exact Ret.sta trivial
 ·rw[dF h];refine goW ?_;refine⟨_,rfl,?_⟩;rw[show dig b=false by unfold dig;rw[dF (by omega),Bool.false_and]];exact Ret.sta trivial
abbrev E_run (s:List UInt8)(i:Int):Env:=[(0,.val (.str s)),(3,.val (.int .i64 i))]
set_option maxHeartbeats 2000000 in
theorem run_wp (hm:MonoC C)(hd:∀b:UInt8,PF C 195 [.int .u8 b.toNat] (.bool (dig b))){s:List UInt8}(hl:s.length<9223372036854775807):wpF gt C F164 [.str s] St.init (Ret (.int .i64 (runB s))):=by
 refine⟨rfl,?_⟩;refine goW ?_;refine loop_rule hm (α:=Nat) (λi env S'=>i<=s.length/\env=E_run s i/\S'=St.init/\runB s=i+runB (s.drop i)) (λi=>s.length-i) ?_ (a:=0) ⟨Nat.zero_le _,rfl,rfl,by simp⟩;rintro i env S' ⟨hi,rfl,rfl,hp⟩;refine goW ?_;by_cases hc:(i:Int)<(s.length:Nat)
 ·rw[dT hc];refine goW ?_;have hik:i<s.length:=by omega
  refine st_any (by exact rfl) (sx_ixS (k:=i) rfl rfl (gE hik)) (goW ?_);refine call_pf hm (by rfl) (hd s[i]) (goW ?_);rw[dC hik]at hp;simp only[runB]at hp;cases hdg:dig s[i] with
  | false =>
   refine goW ?_;refine⟨_,rfl,?_⟩;rw[hdg]at hp;rw[hp];exact Ret.sta trivial
  | true =>
   refine goW ?_;rw[hdg,if_pos rfl]at hp;refine⟨i+1,⟨by omega,?_,rfl,by rw[hp];omega⟩,by omega⟩;rw[wrNat (by omega)]
 ·rw[dF hc];refine goW ?_;refine⟨_,rfl,?_⟩;rw[hp,List.drop_eq_nil_of_le (by omega)];exact Ret.sta trivial
end

abbrev Cut4:=Bool×List UInt8×List UInt8×List UInt8
def expD (ex:List UInt8):List UInt8:=if hd 45 ex then ex.drop 1 else if hd 43 ex then ex.drop 1 else ex
def cutE (neg:Bool)(w p s:List UInt8):Option Cut4 :=
 if s=[] then some (neg,w,p,[])
 else if hd 101 s=false/\hd 69 s=false then none
 else if expD (s.drop 1)=[]\/runB (expD (s.drop 1))<(expD (s.drop 1)).length then none else some (neg,w,p,s.drop 1)
def cutP (neg:Bool)(s:List UInt8):Option Cut4 :=
 if runB s=0\/(1<runB s/\hd 48 s=true) then none
 else if hd 46 (s.drop (runB s)) then
  (if runB ((s.drop (runB s)).drop 1)=0 then none
   else cutE neg (s.take (runB s)) (((s.drop (runB s)).drop 1).take (runB ((s.drop (runB s)).drop 1))) ((s.drop (runB s)).drop (1+runB ((s.drop (runB s)).drop 1))))
 else cutE neg (s.take (runB s)) [] (s.drop (runB s))
def cutB (s:List UInt8):Option Cut4:=if hd 45 s then cutP true (s.drop 1) else cutP false s
def encCut:Option Cut4->AV
 | none=>.tup [.bool false,.str [],.str [],.str [],.bool false]
 | some (n,w,p,e)=>.tup [.bool n,.str w,.str p,.str e,.bool true]
theorem sta_cut (o:Option Cut4):Sta (encCut o):=by
 cases o with
 | none=>exact⟨trivial,trivial,trivial,trivial,trivial,trivial⟩
 | some p=>exact⟨trivial,trivial,trivial,trivial,trivial,trivial⟩
theorem hd_head {c:UInt8}{s:List UInt8}{b:UInt8}(h:s[0]? = some b):hd c s=(b == c):=by
 cases s with
 | nil=>cases h
 | cons x r=>simp only[List.getElem?_cons_zero,oI]at h;rw[<-h];rfl
theorem u8_eqI (b c:UInt8):((b.toNat:Int) == (c.toNat:Int))=(b == c):=by
 rw[Bool.eq_iff_iff];simp only[beq_iff_eq];constructor
 ·intro h;exact UInt8.toNat_inj.1 (by omega)
 ·intro h;rw[h]
theorem u8_neI (b c:UInt8):((b.toNat:Int) != (c.toNat:Int)) = !(b == c):=by
 rw[<-u8_eqI];rfl
theorem get0 {s:List UInt8}(h:s≠[]):∃b,s[0]? = some b:=by
 cases s with
 | nil=>exact absurd rfl h
 | cons b r=>exact⟨b,rfl⟩
theorem hd_len {c:UInt8}{s:List UInt8}(h:hd c s=true):1<=s.length:=by
 cases s with
 | nil=>cases h
 | cons b r=>simp
theorem drop1_ne {s:List UInt8}(h:s≠[]):¬s.drop 1=s:=λe=>by
 have:=congrArg List.length e;cases s with
 | nil=>exact h rfl
 | cons b r=>simp at this
def DC.rt:DC->DC |.seq _ b=>b | c=>c
section
variable {gt:GT}{C:CallT}
abbrev E_cut (neg:Bool)(w p s:List UInt8)(x:Env):Env:=(2,.val (.bool neg))::(3,.val (.str w))::(4,.val (.str p))::(7,.val (.str s))::x
set_option maxHeartbeats 4000000 in
theorem cutExp_wp (hm:MonoC C)(htp:∀s c,PF C 186 [.str s,.str [c]] (.str (if hd c s then s.drop 1 else s)))
  (hrun:∀s:List UInt8,s.length<9223372036854775807->PF C 164 [.str s] (.int .i64 (runB s))) {res:Option Cut4} {neg:Bool} {w p s:List UInt8} {x:Env} (hl:s.length<9223372036854775807) (h1:1<=s.length)
  (hf:res=if expD (s.drop 1)=[]\/runB (expD (s.drop 1))<(expD (s.drop 1)).length then none else some (neg,w,p,s.drop 1)) :
  wpD gt C F160.body.rt.rt.rt.rt.rt.rt.rt.rt.rt (E_cut neg w p s x) St.init (bodyQ gt F160.res (Ret (encCut res))):=by
 have ret:∀{o:Option Cut4} {S:St},res=o->Ret (encCut res) (.ret (encCut o)) S:=λh=>by rw[h];exact Ret.sta (sta_cut _)
 conv=>whnf
 refine goW ?_;refine step_ruleO (sx_slLo (l:=1) rfl rfl h1) (goW ?_);have hexl:(s.drop 1).length<=s.length:=by rw[lD];omega
 generalize s.drop 1=ex at hf hexl ⊢;refine call_pf hm (by rfl) (htp ex 45) (goW ?_);cases hm1:hd 45 ex with
 | true =>
  rw[if_pos rfl,beqB_false (drop1_ne (by intro e;rw[e]at hm1;cases hm1))];have hx:expD ex=ex.drop 1:=by unfold expD;rw[hm1];rfl
  have hdl:(ex.drop 1).length<=ex.length:=by rw[lD];omega
  rw[hx]at hf;generalize ex.drop 1=d at hf hdl ⊢;refine goW ?_;by_cases z4:d=[]
  ·rw[beqB_true z4];refine goW ?_;exact⟨_,rfl,ret (o:=none) (by rw[hf,if_pos (.inl z4)])⟩
  rw[beqB_false z4];refine goW ?_;refine call_pf hm (by rfl) (hrun d (by omega)) (goW ?_);by_cases z5:(runB d:Int)<(d.length:Nat)
  ·rw[dT z5];refine goW ?_;exact⟨_,rfl,ret (o:=none) (by rw[hf,if_pos (.inr (by omega))])⟩
  rw[dF z5];refine goW ?_;exact⟨_,rfl,ret (o:=some (neg,w,p,ex)) (by rw[hf,if_neg (by rintro (e | e);exact z4 e;omega)])⟩
 | false =>
  rw[if_neg (by simp),beqB_true rfl];refine goW ?_;refine call_pf hm (by rfl) (htp ex 43) (goW ?_);have hx:expD ex=if hd 43 ex then ex.drop 1 else ex:=by unfold expD;rw[hm1];rfl
  have hdl:(if hd 43 ex then ex.drop 1 else ex).length<=ex.length:=by split<;>first | (rw[lD];omega) | omega
  rw[hx]at hf;generalize (if hd 43 ex then ex.drop 1 else ex)=d at hf hdl ⊢;refine goW ?_;by_cases z4:d=[]
  ·rw[beqB_true z4];refine goW ?_;exact⟨_,rfl,ret (o:=none) (by rw[hf,if_pos (.inl z4)])⟩
  rw[beqB_false z4];refine goW ?_;refine call_pf hm (by rfl) (hrun d (by omega)) (goW ?_);by_cases z5:(runB d:Int)<(d.length:Nat)
  ·rw[dT z5];refine goW ?_;exact⟨_,rfl,ret (o:=none) (by rw[hf,if_pos (.inr (by omega))])⟩
  rw[dF z5];refine goW ?_;exact⟨_,rfl,ret (o:=some (neg,w,p,ex)) (by rw[hf,if_neg (by rintro (e | e);exact z4 e;omega)])⟩
set_option maxHeartbeats 4000000 in
theorem cutTail_wp (hm:MonoC C)(htp:∀s c,PF C 186 [.str s,.str [c]] (.str (if hd c s then s.drop 1 else s)))
  (hrun:∀s:List UInt8,s.length<9223372036854775807->PF C 164 [.str s] (.int .i64 (runB s))) {res:Option Cut4} {neg:Bool} {w p s:List UInt8} {x:Env} (hl:s.length<9223372036854775807)
  (hf:res=cutE neg w p s) :
  wpD gt C F160.body.rt.rt.rt.rt.rt.rt.rt (E_cut neg w p s x) St.init (bodyQ gt F160.res (Ret (encCut res))):=by
 have ret:∀{o:Option Cut4} {S:St},res=o->Ret (encCut res) (.ret (encCut o)) S:=λh=>by rw[h];exact Ret.sta (sta_cut _)
 conv=>whnf
 refine goW ?_;unfold cutE at hf;by_cases z1:s=[]
 ·rw[beqB_true z1];refine goW ?_;exact⟨_,rfl,ret (o:=some (neg,w,p,[])) (by rw[hf,if_pos z1])⟩
 obtain⟨b0,hb0⟩:=get0 z1;rw[beqB_false z1];rw[if_neg z1]at hf;refine goW ?_;refine step_ruleO (sx_ixS (k:=0) rfl rfl hb0) (goW ?_);rw[show ((101:Int))=((101:UInt8).toNat:Int) from rfl,u8_neI,<-hd_head (c:=101) hb0];cases hxe:hd 101 s with
 | true =>
  refine goW ?_
  with_unfolding_all exact cutExp_wp hm htp hrun hl (hd_len hxe) (hf.trans (if_neg (by rw[hxe];simp)))
 | false =>
  refine goW ?_;refine st_any (by exact rfl) (sx_ixS (k:=0) rfl rfl hb0) (goW ?_);rw[show ((69:Int))=((69:UInt8).toNat:Int) from rfl,u8_neI,<-hd_head (c:=69) hb0];cases hxe2:hd 69 s with
  | false =>
   refine goW ?_;exact⟨_,rfl,ret (o:=none) (by rw[hf,if_pos ⟨hxe,hxe2⟩])⟩
  | true =>
   refine goW ?_
   with_unfolding_all exact cutExp_wp hm htp hrun hl (hd_len hxe2) (hf.trans (if_neg (by rw[hxe2];simp)))
abbrev E_cut0 (neg:Bool)(s:List UInt8)(x:Env):Env:=(2,.val (.bool neg))::(4,.val (.str []))::(7,.val (.str s))::x
set_option maxHeartbeats 4000000 in
theorem cutPoint_wp (hm:MonoC C)(hpre:∀s c,PF C 185 [.str s,.str [c]] (.bool (hd c s)))(htp:∀s c,PF C 186 [.str s,.str [c]] (.str (if hd c s then s.drop 1 else s)))
  (hrun:∀s:List UInt8,s.length<9223372036854775807->PF C 164 [.str s] (.int .i64 (runB s))) {res:Option Cut4} {neg:Bool} {s:List UInt8} {x:Env} (hl:s.length<9223372036854775807) (y1:runB s≠0)
  (hf:res=if hd 46 (s.drop (runB s)) then
  (if runB ((s.drop (runB s)).drop 1)=0 then none
   else cutE neg (s.take (runB s)) (((s.drop (runB s)).drop 1).take (runB ((s.drop (runB s)).drop 1))) ((s.drop (runB s)).drop (1+runB ((s.drop (runB s)).drop 1))))
 else cutE neg (s.take (runB s)) [] (s.drop (runB s))) :
  wpD gt C F160.body.rt.rt.rt.rt.rt ((2,.val (.bool neg))::(4,.val (.str []))::(7,.val (.str s))::(8,.val (.int .i64 (runB s)))::x) St.init (bodyQ gt F160.res (Ret (encCut res))):=by
 have ret:∀{o:Option Cut4} {S:St},res=o->Ret (encCut res) (.ret (encCut o)) S:=λh=>by rw[h];exact Ret.sta (sta_cut _)
 have hrl:=runB_le s;generalize runB s=n at hf hrl y1 ⊢
 conv=>whnf
 refine goW ?_;refine step_ruleDO rfl rfl (sx_slHiS (h:=n) rfl rfl hrl) (goW ?_);refine step_ruleDO rfl rfl (sx_slLo (l:=n) rfl rfl hrl) (goW ?_);have hsl:(s.drop n).length<=s.length:=by rw[lD];omega
 generalize s.drop n=s2 at hf hsl ⊢;generalize s.take n=w at hf ⊢;refine call_pf hm (by rfl) (hpre s2 46) (goW ?_);cases hp:hd 46 s2 with
 | false =>
  rw[hp,if_neg (by simp)]at hf;refine goW ?_
  with_unfolding_all exact cutTail_wp (x:=[(36,.val (.bool false))]) hm htp hrun (by omega) hf
 | true =>
  rw[hp,if_pos rfl]at hf;have h1:=hd_len hp;refine goW ?_;refine step_ruleO (sx_slLo (l:=1) rfl rfl h1) (goW ?_);have hrl3:=runB_le (s2.drop 1);rw[lD]at hrl3;refine call_pf hm (by rfl) (hrun (s2.drop 1) (by rw[lD];omega)) (goW ?_);generalize hm3:runB (s2.drop 1)=m at hf hrl3 ⊢;by_cases y4:m=0
  ·rw[eqI_true (by omega)];refine goW ?_;exact⟨_,rfl,ret (o:=none) (by rw[hf,if_pos y4])⟩
  rw[eqI_false (by omega)];rw[if_neg y4]at hf;refine goW ?_;rw[show wr .i64 (1+(m:Int))=((1+m:Nat):Int) by rw[wr64 (by omega) (by omega)];omega];refine step_ruleDO rfl rfl (sx_slLH (l:=1) (h:=1+m) rfl rfl rfl (by omega) (by omega)) (goW ?_);rw[show wr .i64 (1+(m:Int))=((1+m:Nat):Int) by rw[wr64 (by omega) (by omega)];omega];refine step_ruleDO rfl rfl (sx_slLo (l:=1+m) rfl rfl (by omega)) (goW ?_);rw[show 1+m-1=m by omega]
  with_unfolding_all exact cutTail_wp (x:=[]) hm htp hrun (by rw[lD];omega) hf
set_option maxHeartbeats 4000000 in
theorem cutSign_wp (hm:MonoC C)(hpre:∀s c,PF C 185 [.str s,.str [c]] (.bool (hd c s)))(htp:∀s c,PF C 186 [.str s,.str [c]] (.str (if hd c s then s.drop 1 else s)))
  (hrun:∀s:List UInt8,s.length<9223372036854775807->PF C 164 [.str s] (.int .i64 (runB s))) {res:Option Cut4} {neg:Bool} {s:List UInt8} {x:Env} (hl:s.length<9223372036854775807)
  (hf:res=cutP neg s) :
  wpD gt C F160.body.rt.rt.rt (E_cut0 neg s x) St.init (bodyQ gt F160.res (Ret (encCut res))):=by
 have ret:∀{o:Option Cut4} {S:St},res=o->Ret (encCut res) (.ret (encCut o)) S:=λh=>by rw[h];exact Ret.sta (sta_cut _)
 unfold cutP at hf;have hrun0:=hrun s hl
 conv=>whnf
 refine goW ?_;refine call_pf hm (by rfl) hrun0 (goW ?_);by_cases y1:runB s=0
 ·rw[eqI_true (by omega)];refine goW ?_;exact⟨_,rfl,ret (o:=none) (by rw[hf,if_pos (.inl y1)])⟩
 rw[eqI_false (by omega)];refine goW ?_;have hnil:s≠[]:=by intro e;rw[e]at y1;exact y1 rfl
 obtain⟨b1,hb1⟩:=get0 hnil;by_cases y2:(runB s:Int) > 1
 ·rw[dT y2];refine goW ?_;refine st_any (by exact rfl) (sx_ixS (k:=0) rfl rfl hb1) (goW ?_);rw[show ((48:Int))=((48:UInt8).toNat:Int) from rfl,u8_eqI,<-hd_head (c:=48) hb1];cases y3:hd 48 s with
  | true =>
   refine goW ?_;exact⟨_,rfl,ret (o:=none) (by rw[hf,if_pos (.inr ⟨by omega,y3⟩)])⟩
  | false =>
   rw[if_neg (by rintro (e | ⟨_,e⟩);exact y1 e;rw[y3]at e;cases e)]at hf;refine goK ?_
   with_unfolding_all exact cutPoint_wp hm hpre htp hrun hl y1 hf
 ·rw[dF y2];rw[if_neg (by rintro (e | ⟨e,_⟩);exact y1 e;omega)]at hf;refine goK ?_
  with_unfolding_all exact cutPoint_wp hm hpre htp hrun hl y1 hf
set_option maxHeartbeats 4000000 in
theorem cut_wp (hm:MonoC C)(hpre:∀s c,PF C 185 [.str s,.str [c]] (.bool (hd c s)))(htp:∀s c,PF C 186 [.str s,.str [c]] (.str (if hd c s then s.drop 1 else s)))
  (hrun:∀s:List UInt8,s.length<9223372036854775807->PF C 164 [.str s] (.int .i64 (runB s))) {s:List UInt8} (hl:s.length<9223372036854775807):wpF gt C F160 [.str s] St.init (Ret (encCut (cutB s))):=by
 have hf:cutB s=if hd 45 s then cutP true (s.drop 1) else cutP false s:=rfl
 generalize cutB s=res at hf ⊢;refine⟨rfl,?_⟩;refine goW ?_;refine call_pf hm (by rfl) (hpre s 45) (goW ?_);cases hh:hd 45 s with
 | true =>
  rw[hh,if_pos rfl]at hf;refine goW ?_;refine step_ruleO (sx_slLo (l:=1) rfl rfl (hd_len hh)) (goW ?_)
  with_unfolding_all exact cutSign_wp hm hpre htp hrun (by rw[lD];omega) hf
 | false =>
  rw[hh,if_neg (by simp)]at hf;refine goW ?_
  with_unfolding_all exact cutSign_wp hm hpre htp hrun hl hf
end

def trimL (cs s:List UInt8):List UInt8:=s.dropWhile (cs.contains ·)
def trimR (cs s:List UInt8):List UInt8:=(s.reverse.dropWhile (cs.contains ·)).reverse
def valB:Nat->List UInt8->Nat
 | a,[]=>a
 | a,b::r=>valB (a*10+(b.toNat-48)) r
theorem trimL_le (cs s:List UInt8):(trimL cs s).length<=s.length:=(List.dropWhile_sublist _).length_le
theorem trimR_le (cs s:List UInt8):(trimR cs s).length<=s.length:=by
 have:=(List.dropWhile_sublist (l:=s.reverse) (cs.contains ·)).length_le;simp only[trimR,List.length_reverse]at this ⊢;exact this
theorem pow1 (n:Nat):10 ^ (n+1)=10*10 ^ n:=by rw[Nat.pow_succ,Nat.mul_comm]
theorem valB_lt (l:List UInt8):∀(a:Nat),l.all dig=true->valB a l<(a+1)*10 ^ l.length:=by
 induction l with
 | nil=>intro a _;rw[lN,Nat.pow_zero,Nat.mul_one];exact Nat.lt_succ_self a
 | cons b r ih =>
  intro a h;rw[List.all_cons,bA]at h;have hb:b.toNat-48<=9:=by
   have:=h.1;simp only[dig,bA,decide_eq_true_eq]at this;omega
  have h2:=ih (a*10+(b.toNat-48)) h.2;rw[lC,pow1,<-Nat.mul_assoc];refine Nat.lt_of_lt_of_le h2 ?_;exact Nat.mul_le_mul_right _ (by omega)
def expT (e:List UInt8):List UInt8:=trimL [48] (trimL [43,45] e)
def expB (e:List UInt8):Option Int :=
 if 6<(expT e).length then none else some (if hd 45 e then -(valB 0 (expT e):Int) else valB 0 (expT e))
def encExp:Option Int->AV
 | none=>.tup [.int .i64 0,.bool false]
 | some n=>.tup [.int .i64 n,.bool true]
theorem sta_exp (o:Option Int):Sta (encExp o):=by cases o<;>exact⟨trivial,trivial,trivial⟩
abbrev Parts3:=Bool×List UInt8×Int
def encP (p:Parts3):AV:=.agg [.bool p.1,.str p.2.1,.int .i64 p.2.2]
def zeroP:Parts3:=(false,[],0)
def splitB (s:List UInt8):Parts3×Int :=
 match cutB s with
 | none=>(zeroP,12)
 | some (neg,w,p,e) =>
  if 1000<s.length then (zeroP,2)
  else match expB e with
  | none=>(zeroP,5)
  | some x =>
   if trimR [48] (trimL [48] (w++p))=[] then (zeroP,0)
   else ((neg,trimR [48] (trimL [48] (w++p)),x-p.length+((trimL [48] (w++p)).length-(trimR [48] (trimL [48] (w++p))).length)),0)
def encSplit (p:Parts3×Int):AV:=.tup [encP p.1,.int .i64 p.2]
theorem sta_split (p:Parts3×Int):Sta (encSplit p):=⟨⟨trivial,trivial,trivial,trivial⟩,trivial,trivial⟩
theorem expB_lt {e:List UInt8}{x:Int}(hd':(expT e).all dig=true)(h:expB e=some x):-999999<=x/\x<=999999:=by
 unfold expB at h;split at h
 ·cases h
 ·rename_i hl;have:=valB_lt (expT e) 0 hd';have h6:10 ^ (expT e).length<=10 ^ 6:=Nat.pow_le_pow_right (by decide) (by omega);have h10:(10:Nat) ^ 6=1000000:=by decide
  simp only[oI]at h;split at h<;>omega
theorem runB_all:∀{s:List UInt8},¬runB s<s.length->s.all dig=true
 | [],_=>rfl
 | b::r,h=>by
  simp only[runB]at h;have:=runB_le r;split at h
  ·rename_i hb;simp only[lC]at h;simp only[List.all_cons,hb,Bool.true_and];exact runB_all (by omega)
  ·simp only[lC]at h;omega
theorem all_dropWhile {p q:UInt8->Bool}:∀{s:List UInt8},s.all q=true->(s.dropWhile p).all q=true
 | [],_=>rfl
 | b::r,h=>by
  simp only[List.all_cons,bA]at h;simp only[List.dropWhile_cons];split
  ·exact all_dropWhile h.2
  ·simp only[List.all_cons,h.1,h.2,Bool.and_self]
theorem dig_noSign {b:UInt8}(h:dig b=true):([43,45]:List UInt8).contains b=false:=by
 simp only[dig,bA,decide_eq_true_eq]at h;cases hh:([43,45]:List UInt8).contains b with
 | false=>rfl
 | true =>
  simp only[List.contains_eq_mem,List.mem_cons,List.not_mem_nil,or_false,decide_eq_true_eq]at hh;rcases hh with rfl | rfl
  ·have:(43:UInt8).toNat=43:=rfl;omega
  ·have:(45:UInt8).toNat=45:=rfl;omega
theorem expT_dig {e:List UInt8}(h:(expD e).all dig=true):(expT e).all dig=true:=by
 unfold expT trimL;apply all_dropWhile
 unfold expD at h;cases e with
 | nil=>rfl
 | cons b r =>
  by_cases h1:hd 45 (b::r)=true
  ·rw[if_pos h1]at h;have:b=45:=by simpa[hd] using h1
   subst this;exact all_dropWhile (p:=λx=>([43,45]:List UInt8).contains x) (s:=r) h
  ·rw[if_neg h1]at h;by_cases h2:hd 43 (b::r)=true
   ·rw[if_pos h2]at h;have:b=43:=by simpa[hd] using h2
    subst this;exact all_dropWhile (p:=λx=>([43,45]:List UInt8).contains x) (s:=r) h
   ·rw[if_neg h2]at h;exact all_dropWhile h
theorem cutE_ok {neg n:Bool}{w p s w' p' e:List UInt8}(h:cutE neg w p s=some (n,w',p',e)):w'=w/\p'=p/\(expT e).all dig=true:=by
 unfold cutE at h;split at h
 ·simp only[oI,Prod.mk.injEq]at h;obtain⟨_,rfl,rfl,rfl⟩:=h;exact⟨rfl,rfl,rfl⟩
 ·split at h
  ·cases h
  ·split at h
   ·cases h
   ·rename_i hh;simp only[oI,Prod.mk.injEq]at h;obtain⟨_,rfl,rfl,rfl⟩:=h;exact⟨rfl,rfl,expT_dig (runB_all λh=>hh (.inr h))⟩
theorem cutP_ok {neg n:Bool}{s w p e:List UInt8}(h:cutP neg s=some (n,w,p,e)):w.length+p.length<=s.length/\(expT e).all dig=true:=by
 unfold cutP at h;have h0:=runB_le s;split at h
 ·cases h
 ·split at h
  ·split at h
   ·cases h
   ·obtain⟨rfl,rfl,h3⟩:=cutE_ok h;refine⟨?_,h3⟩;have:=runB_le ((s.drop (runB s)).drop 1);simp only[lT,lD]at this ⊢;omega
  ·obtain⟨rfl,rfl,h3⟩:=cutE_ok h;exact⟨by simp only[lT,lN];omega,h3⟩
theorem cutB_ok {n:Bool}{s w p e:List UInt8}(h:cutB s=some (n,w,p,e)):w.length+p.length<=s.length/\(expT e).all dig=true:=by
 unfold cutB at h;split at h
 ·have:=cutP_ok h;rw[lD]at this;exact⟨by omega,this.2⟩
 ·exact cutP_ok h
theorem st_addS {gt:GT}{d:Option Nat}{x y:DOpd}{env:Env}{S:St}{a b:List UInt8}(hx:opd env x=some (.str a))(hy:opd env y=some (.str b))(hl:a.length+b.length<=9223372036854775807) :
  stepO gt d env S (.bin .add none x y)=.done (putV d (.str (a++b)) env) S:=by
 simp only[stepO,hx,hy,binV,binS,ble_true hl,cond_true]
 try rfl
section
variable {gt:GT}{C:CallT}
set_option maxHeartbeats 4000000 in
theorem exponent_wp (hm:MonoC C)(hpre:∀s c,PF C 185 [.str s,.str [c]] (.bool (hd c s)))(hs:∀s,PF C 162 [.str s,.str [43,45]] (.str (trimL [43,45] s)))(h0:∀s,PF C 162 [.str s,.str [48]] (.str (trimL [48] s)))
  (hat:∀s:List UInt8,s.all dig=true->1<=s.length->s.length<=18->PF C 187 [.str s] (.tup [.int .i64 (valB 0 s),.nilif])) {e:List UInt8} (he:(expT e).all dig=true) :
  wpF gt C F161 [.str e] St.init (Ret (encExp (expB e))):=by
 have hat:=λh=>hat (48::expT e) (by simp only[List.all_cons,he,Bool.and_true];decide) (by simp) h;have hv:valB 0 (48::expT e)=valB 0 (expT e):=rfl;rw[hv]at hat;have hlt:=λx=>expB_lt (x:=x) he;refine⟨rfl,?_⟩;refine goW ?_;refine call_pf hm (by rfl) (hpre e 45) (goW ?_);refine call_pf hm (by rfl) (hs e) (goW ?_);refine call_pf hm (by rfl) (h0 _) (goW ?_);rw[show trimL [48] (trimL [43,45] e)=expT e from rfl];unfold expB;unfold expB at hlt;generalize expT e=t at hat hlt ⊢;by_cases h6:(t.length:Int) > 6
 ·rw[dT h6];refine goW ?_;refine⟨_,rfl,?_⟩;rw[if_pos (by omega)];exact Ret.sta (sta_exp none)
 rw[dF h6];rw[if_neg (by omega)]at hlt ⊢;refine goW ?_;refine step_ruleO (st_addS rfl rfl (by simp only[lC,lN];omega)) (goW ?_);refine call_pf hm (by rfl) (hat (by simp only[lC];omega)) (goW ?_);cases hn:hd 45 e with
 | true =>
  have:=hlt _ rfl;rw[hn,if_pos rfl]at this;refine goW ?_;rw[wr64 (by omega) (by omega)];refine⟨_,rfl,?_⟩;rw[if_pos rfl,Int.zero_sub];exact Ret.sta (sta_exp (some _))
 | false =>
  refine goW ?_;refine⟨_,rfl,?_⟩;rw[if_neg (by simp)];exact Ret.sta (sta_exp (some _))
set_option maxHeartbeats 4000000 in
theorem split_wp (hm:MonoC C)(hcut:∀s:List UInt8,s.length<9223372036854775807->PF C 160 [.str s] (encCut (cutB s)))(hexp:∀e:List UInt8,(expT e).all dig=true->PF C 161 [.str e] (encExp (expB e)))
  (h0:∀s,PF C 162 [.str s,.str [48]] (.str (trimL [48] s))) (h1:∀s:List UInt8,s.length<9223372036854775807->PF C 163 [.str s,.str [48]] (.str (trimR [48] s)))
  {s:List UInt8} (hl:s.length<9223372036854775807):wpF gt C F132 [.str s] St.init (Ret (encSplit (splitB s))):=by
 have hcut:=hcut s hl;have hok:=λn w p e=>cutB_ok (n:=n) (s:=s) (w:=w) (p:=p) (e:=e);have ret:∀{o:Parts3×Int} {S:St},splitB s=o->Ret (encSplit (splitB s)) (.ret (encSplit o)) S:=λh=>by rw[h];exact Ret.sta (sta_split _)
 have hf:splitB s=match cutB s with
  | none=>(zeroP,12)
  | some (neg,w,p,e) =>
   if 1000<s.length then (zeroP,2)
   else match expB e with
   | none=>(zeroP,5)
   | some x =>
    if trimR [48] (trimL [48] (w++p))=[] then (zeroP,0)
    else ((neg,trimR [48] (trimL [48] (w++p)),x-p.length+((trimL [48] (w++p)).length-(trimR [48] (trimL [48] (w++p))).length)),0):=rfl
 generalize splitB s=res at ret hf ⊢;generalize cutB s=cu at hcut hok hf;refine⟨rfl,?_⟩;refine goW ?_;refine call_pf hm (by rfl) hcut ?_;cases cu with
 | none =>
  refine goW ?_;exact⟨_,rfl,ret (o:=(zeroP,12)) hf⟩
 | some q =>
  obtain⟨neg,w,p,e⟩:=q;obtain⟨hwp,he⟩:=hok neg w p e rfl;simp only at hf;have hexp:=hexp e he;have hb:=λx=>expB_lt (x:=x) he;refine goW ?_;by_cases z1:(s.length:Int) > 1000
  ·rw[dT z1];refine goW ?_;exact⟨_,rfl,ret (o:=(zeroP,2)) (by rw[hf,if_pos (by omega)])⟩
  rw[dF z1];rw[if_neg (by omega)]at hf;refine goW ?_;generalize expB e=ex at hexp hb hf;refine call_pf hm (by rfl) hexp ?_;cases ex with
  | none =>
   refine goW ?_;exact⟨_,rfl,ret (o:=(zeroP,5)) hf⟩
  | some x =>
   simp only at hf;have hb:=hb x rfl;refine goW ?_;refine step_ruleO (st_addS rfl rfl (by omega)) (goW ?_);have t1:=trimL_le [48] (w++p);rw[lA]at t1;have t2:=trimR_le [48] (trimL [48] (w++p));refine call_pf hm (by rfl) (h0 (w++p)) (goW ?_);generalize trimL [48] (w++p)=ds at t1 t2 hf ⊢;refine call_pf hm (by rfl) (h1 ds (by omega)) (goW ?_);generalize trimR [48] ds=sh at t2 hf ⊢;by_cases z2:sh=[]
   ·rw[beqB_true z2];refine goW ?_;exact⟨_,rfl,ret (o:=(zeroP,0)) (by rw[hf,if_pos z2])⟩
   rw[beqB_false z2];refine goW ?_;rw[wr64 (n:=x-(p.length:Int)) (by omega) (by omega),wr64 (n:=(ds.length:Int)-(sh.length:Int)) (by omega) (by omega),wr64 (by omega) (by omega)];exact⟨_,rfl,ret (o:=((neg,sh,_),0)) (by rw[hf,if_neg z2])⟩
end

def decB (n:Nat):List UInt8:=if h:n<10 then [UInt8.ofNat (48+n)] else decB (n / 10)++[UInt8.ofNat (48+n % 10)]
termination_by n
def itoaB (e:Int):List UInt8:=if e<0 then 45::decB e.natAbs else decB e.toNat
theorem decB_len (n:Nat):(decB n).length<=n+1:=by
 induction n using Nat.strongRecOn with
 | _ n ih =>
  unfold decB;split
  ·simp
  ·have:=ih (n / 10) (by omega);simp only[lA,lC,lN];omega
theorem itoaB_len {e:Int}(h:-999999<=e)(h2:e<=999999):(itoaB e).length<=1000001:=by
 unfold itoaB;split
 ·have:=decB_len e.natAbs;simp only[lC];omega
 ·have:=decB_len e.toNat;omega
def tl (c:UInt8)(s:List UInt8):Bool:=hd c s.reverse
theorem tl_last {c:UInt8}{s:List UInt8}{b:UInt8}(h:s[s.length-1]? = some b)(h0:0<s.length):tl c s=(b == c):=by
 unfold tl;refine hd_head ?_;rw[List.getElem?_reverse h0];exact h
def joinB (p:Parts3):List UInt8×Int :=
 if runB p.2.1<p.2.1.length\/(hd 48 p.2.1=true\/tl 48 p.2.1=true)\/(p.2.1=[]/\(p.2.2≠0\/p.1=true)) then ([],1)
 else if p.2.2 < -999999\/999999<p.2.2 then ([],5)
 else if p.2.1=[] then ([48],0)
 else if 1000<((if p.1=true then [45]++p.2.1 else p.2.1)++(if p.2.2=0 then [] else [101]++itoaB p.2.2)).length then ([],2)
 else ((if p.1=true then [45]++p.2.1 else p.2.1)++(if p.2.2=0 then [] else [101]++itoaB p.2.2),0)
def encJoin (p:List UInt8×Int):AV:=.tup [.str p.1,.int .i64 p.2]
theorem sta_join (p:List UInt8×Int):Sta (encJoin p):=⟨trivial,trivial,trivial⟩
def normB (s:List UInt8):List UInt8×Int:=if (splitB s).2=0 then joinB (splitB s).1 else ([],(splitB s).2)
theorem splitB_len {s:List UInt8}(h:(splitB s).2=0):(splitB s).1.2.1.length<=1000:=by
 unfold splitB at h ⊢;cases hc:cutB s with
 | none=>rw[hc]at h;cases h
 | some q =>
  obtain⟨neg,w,p,e⟩:=q;rw[hc]at h;simp only at h ⊢;obtain⟨h1,_⟩:=cutB_ok hc;split
  ·exact Nat.zero_le _
  ·cases expB e with
   | none=>exact Nat.zero_le _
   | some x =>
    simp only;split
    ·exact Nat.zero_le _
    ·have t1:=trimL_le [48] (w++p);have t2:=trimR_le [48] (trimL [48] (w++p));rw[lA]at t1;show (trimR [48] (trimL [48] (w++p))).length<=1000;omega
section
variable {gt:GT}{C:CallT}
set_option maxHeartbeats 8000000 in
theorem join_wp (hm:MonoC C)(hrun:∀s:List UInt8,s.length<9223372036854775807->PF C 164 [.str s] (.int .i64 (runB s)))
  (hit:∀e:Int,-999999<=e->e<=999999->PF C 165 [.int .i64 e] (.str (itoaB e))) {p:Parts3} (hl:p.2.1.length<=1000):wpF gt C F133 [encP p] St.init (Ret (encJoin (joinB p))):=by
 obtain⟨neg,d,e⟩:=p;simp only at hl;have ret:∀{o:List UInt8×Int} {S:St},joinB (neg,d,e)=o->Ret (encJoin (joinB (neg,d,e))) (.ret (encJoin o)) S:=λh=>by rw[h];exact Ret.sta (sta_join _)
 have hf:joinB (neg,d,e)=if runB d<d.length\/(hd 48 d=true\/tl 48 d=true)\/(d=[]/\(e≠0\/neg=true)) then ([],1)
  else if e < -999999\/999999<e then ([],5)
  else if d=[] then ([48],0)
  else if 1000<((if neg=true then [45]++d else d)++(if e=0 then [] else [101]++itoaB e)).length then ([],2)
  else ((if neg=true then [45]++d else d)++(if e=0 then [] else [101]++itoaB e),0):=rfl
 generalize joinB (neg,d,e)=res at ret hf ⊢;refine⟨rfl,?_⟩;refine goW ?_;refine call_pf hm (by rfl) (hrun d (by omega)) (goW ?_);by_cases z1:(runB d:Int)<(d.length:Nat)
 ·rw[dT z1];refine goW ?_;exact⟨_,rfl,ret (o:=([],1)) (by rw[hf,if_pos (.inl (by omega))])⟩
 rw[dF z1];have z1':¬runB d<d.length:=by omega
 clear z1
 refine goW ?_;cases d with
 | nil =>
  have hn:¬((([]:List UInt8).length:Nat):Int) > 0:=by simp
  rw[dF hn];refine goW ?_;by_cases y1:e=0
  ·rw[neI_false y1];refine goW ?_;cases neg with
   | true =>
    refine goW ?_;exact⟨_,rfl,ret (o:=([],1)) (by rw[hf,if_pos (.inr (.inr ⟨rfl,.inr rfl⟩))])⟩
   | false =>
    refine goW ?_;rw[if_neg (by rintro (h | (h | h) | ⟨_,h | h⟩);exact z1' h;cases h;cases h;exact h y1;cases h)]at hf;subst y1;refine goW ?_;exact⟨_,rfl,ret (o:=([48],0)) (by rw[hf,if_neg (by omega),if_pos rfl])⟩
  ·rw[neI_true y1];refine goW ?_;exact⟨_,rfl,ret (o:=([],1)) (by rw[hf,if_pos (.inr (.inr ⟨rfl,.inl y1⟩))])⟩
 | cons b r =>
  have hlen:(b::r).length=r.length+1:=rfl;generalize hd0:b::r=d at ret hf hl z1' hlen ⊢;have hb0:d[0]? = some b:=by rw[<-hd0];rfl
  have hne:d≠[]:=by rw[<-hd0];simp
  obtain⟨lb,hlb⟩:∃lb,d[d.length-1]? = some lb:=⟨_,gE (by omega)⟩
  rw[dT (show ((d.length:Nat):Int) > 0 by omega)];refine goW ?_;refine st_any (by exact rfl) (sx_ixS (k:=0) rfl rfl hb0) (goW ?_);rw[show ((48:Int))=((48:UInt8).toNat:Int) from rfl,u8_eqI,<-hd_head (c:=48) hb0];cases y1:hd 48 d with
  | true =>
   refine goW ?_;exact⟨_,rfl,ret (o:=([],1)) (by rw[hf,if_pos (.inr (.inl (.inl y1)))])⟩
  | false =>
   refine goW ?_;rw[show wr .i64 ((d.length:Int)-1)=((d.length-1:Nat):Int) by rw[wr64 (by omega) (by omega)];omega];refine st_any (by exact rfl) (sx_ixS (k:=d.length-1) rfl rfl hlb) (goW ?_);rw[u8_eqI,<-tl_last (c:=48) hlb (by omega)];cases y2:tl 48 d with
   | true =>
    refine goW ?_;exact⟨_,rfl,ret (o:=([],1)) (by rw[hf,if_pos (.inr (.inl (.inr y2)))])⟩
   | false =>
    rw[if_neg (by rintro (h | (h | h) | ⟨h,_⟩);exact z1' h;rw[y1]at h;cases h;rw[y2]at h;cases h;exact hne h)]at hf;refine goW ?_;rw[eqI_false (show ¬((d.length:Nat):Int)=0 by omega)];refine goW ?_;by_cases x1:e < -999999
    ·rw[dT x1];refine goW ?_;exact⟨_,rfl,ret (o:=([],5)) (by rw[hf,if_pos (.inl x1)])⟩
    rw[dF x1];refine goW ?_;by_cases x2:e > 999999
    ·rw[dT x2];refine goW ?_;exact⟨_,rfl,ret (o:=([],5)) (by rw[hf,if_pos (.inr x2)])⟩
    rw[dF x2];rw[if_neg (by omega),if_neg hne]at hf;have hil:=itoaB_len (e:=e) (by omega) (by omega);refine goW ?_;rw[eqI_false (show ¬((d.length:Nat):Int)=0 by omega)];refine goW ?_;cases neg with
    | true =>
     rw[if_pos rfl]at hf;refine goW ?_;refine step_ruleO (st_addS rfl rfl (by simp only[lC,lN];omega)) (goW ?_);by_cases z5:e=0
     ·rw[neI_false z5];rw[if_pos z5]at hf;refine goW ?_;by_cases z6:(([45]++d).length:Int) > 1000
      ·rw[dT z6];refine goW ?_;exact⟨_,rfl,ret (o:=([],2)) (by rw[hf,if_pos (by (try simp only[lA,lC,lN]at z6);(try simp only[lA,lC,lN]);omega)])⟩
      rw[dF z6];refine goW ?_;exact⟨_,rfl,ret (o:=([45]++d,0)) (by rw[hf,if_neg (by (try simp only[lA,lC,lN]at z6);(try simp only[lA,lC,lN]);omega)];try simp only[List.append_nil,aA];try rfl)⟩
     rw[neI_true z5];rw[if_neg z5]at hf;refine goW ?_;refine call_pf hm (by rfl) (hit e (by omega) (by omega)) (goW ?_);refine step_ruleO (st_addS rfl rfl (by simp only[lC,lN];omega)) (goW ?_);refine step_ruleO (st_addS rfl rfl (by simp only[lA,lC,lN];omega)) (goW ?_);by_cases z6:(([45]++d++([101]++itoaB e)).length:Int) > 1000
     ·rw[dT z6];refine goW ?_;exact⟨_,rfl,ret (o:=([],2)) (by rw[hf,if_pos (by (try simp only[lA,lC,lN]at z6);(try simp only[lA,lC,lN]);omega)])⟩
     rw[dF z6];refine goW ?_;exact⟨_,rfl,ret (o:=([45]++d++([101]++itoaB e),0)) (by rw[hf,if_neg (by (try simp only[lA,lC,lN]at z6);(try simp only[lA,lC,lN]);omega)];try simp only[List.append_nil,aA];try rfl)⟩
    | false =>
     simp only[Bool.false_eq_true,if_false]at hf;refine goW ?_;by_cases z5:e=0
     ·rw[neI_false z5];rw[if_pos z5]at hf;refine goW ?_;by_cases z6:((d).length:Int) > 1000
      ·rw[dT z6];refine goW ?_;exact⟨_,rfl,ret (o:=([],2)) (by rw[hf,if_pos (by (try simp only[lA,lC,lN]at z6);(try simp only[lA,lC,lN]);omega)])⟩
      rw[dF z6];refine goW ?_;exact⟨_,rfl,ret (o:=(d,0)) (by rw[hf,if_neg (by (try simp only[lA,lC,lN]at z6);(try simp only[lA,lC,lN]);omega)];try simp only[List.append_nil,aA];try rfl)⟩
     rw[neI_true z5];rw[if_neg z5]at hf;refine goW ?_;refine call_pf hm (by rfl) (hit e (by omega) (by omega)) (goW ?_);refine step_ruleO (st_addS rfl rfl (by simp only[lC,lN];omega)) (goW ?_);refine step_ruleO (st_addS rfl rfl (by simp only[lA,lC,lN];omega)) (goW ?_);by_cases z6:((d++([101]++itoaB e)).length:Int) > 1000
     ·rw[dT z6];refine goW ?_;exact⟨_,rfl,ret (o:=([],2)) (by rw[hf,if_pos (by (try simp only[lA,lC,lN]at z6);(try simp only[lA,lC,lN]);omega)])⟩
     rw[dF z6];refine goW ?_;exact⟨_,rfl,ret (o:=(d++([101]++itoaB e),0)) (by rw[hf,if_neg (by (try simp only[lA,lC,lN]at z6);(try simp only[lA,lC,lN]);omega)];try simp only[List.append_nil,aA];try rfl)⟩
set_option maxHeartbeats 4000000 in
theorem normal_wp (hm:MonoC C)(hsplit:∀s:List UInt8,s.length<9223372036854775807->PF C 132 [.str s] (encSplit (splitB s)))(hjoin:∀p:Parts3,p.2.1.length<=1000->PF C 133 [encP p] (encJoin (joinB p)))
  {s:List UInt8} (hl:s.length<9223372036854775807):wpF gt C F81 [.str s] St.init (Ret (encJoin (normB s))):=by
 have hsplit:=hsplit s hl;have hlen:=splitB_len (s:=s);unfold normB;generalize splitB s=q at hsplit hlen ⊢;obtain⟨⟨neg,d,e⟩,er⟩:=q;simp only at hlen ⊢;refine⟨rfl,?_⟩;refine goW ?_;refine call_pf hm (by rfl) hsplit (goW ?_);by_cases z:er=0
 ·rw[neI_false z,if_pos z];refine goW ?_;have hj:=hjoin (neg,d,e) (hlen z);refine call_pf hm (by rfl) hj ?_;generalize joinB (neg,d,e)=jr;refine goW ?_;exact⟨_,rfl,Ret.sta (sta_join _)⟩
 ·rw[neI_true z,if_neg z];refine goW ?_;exact⟨_,rfl,Ret.sta (sta_join ([],er))⟩
end

def twoB:List UInt8->Int
 | [a,b]=>if dig a=true/\dig b=true then ((a.toNat:Int)-48)*10+((b.toNat:Int)-48) else -1
 | _=>-1
def withinB (s:List UInt8)(lo hi:Int):Bool:=decide (twoB s ≥ lo) && decide (twoB s<=hi)
def daysB (y m:Int):Int :=
 if m=4\/m=6\/m=9\/m=11 then 30
 else if m=2 then (if Int.tmod y 4=0/\(Int.tmod y 100≠0\/Int.tmod y 400=0) then 29 else 28)
 else 31
theorem dig_iff {b:UInt8}:dig b=true↔48<=b.toNat/\b.toNat<=57:=by
 simp only[dig,bA,decide_eq_true_eq]
section
variable {gt:GT}{C:CallT}
theorem twoB_len {s:List UInt8}(h:s.length≠2):twoB s=-1:=by
 match s,h with
 | [],_=>rfl
 | [_],_=>rfl
 | [_,_],h=>exact absurd rfl h
 | _::_::_::_,_=>rfl
theorem wr8 {n:Int}(h:0<=n)(h2:n<256):wr .u8 n=n:=by
 rw[wr_eq];refine inR_wrap ?_;obtain⟨m,rfl⟩:∃m:Nat,n=m:=⟨n.toNat,by omega⟩
 simp only[inR];exact Nat.ble_eq_true_of_le (by omega)
set_option maxHeartbeats 4000000 in
theorem two_wp {s:List UInt8}:wpF gt C F166 [.str s] St.init (Ret (.int .i64 (twoB s))):=by
 have ret:∀{z:Int} {S:St},twoB s=z->Ret (.int .i64 (twoB s)) (.ret (.int .i64 z)) S:=λh=>by rw[h];exact Ret.sta trivial
 refine⟨rfl,?_⟩;refine goW ?_;by_cases z:s.length=2
 case neg =>
  rw[neI_true (show ¬((s.length:Nat):Int)=2 by omega)];refine goW ?_;exact⟨_,rfl,ret (twoB_len z)⟩
 obtain⟨a,b,rfl⟩:∃a b,s=[a,b]:=by
  match s,z with
  | [a,b],_=>exact⟨a,b,rfl⟩
 have ha:=u8_lt a;have hb:=u8_lt b;rw[neI_false (show (([a,b]:List UInt8).length:Int)=2 from rfl)];have hno:¬(dig a=true/\dig b=true)->twoB [a,b]=-1:=λh=>if_neg h;refine goW ?_;by_cases z1:(a.toNat:Int)<48
 ·rw[dT z1];refine goW ?_;exact⟨_,rfl,ret (hno (by rw[dig_iff,dig_iff];omega))⟩
 rw[dF z1];refine goW ?_;by_cases z2:(a.toNat:Int) > 57
 ·rw[dT z2];refine goW ?_;exact⟨_,rfl,ret (hno (by rw[dig_iff,dig_iff];omega))⟩
 rw[dF z2];refine goW ?_;by_cases z3:(b.toNat:Int)<48
 ·rw[dT z3];refine goW ?_;exact⟨_,rfl,ret (hno (by rw[dig_iff,dig_iff];omega))⟩
 rw[dF z3];refine goW ?_;by_cases z4:(b.toNat:Int) > 57
 ·rw[dT z4];refine goW ?_;exact⟨_,rfl,ret (hno (by rw[dig_iff,dig_iff];omega))⟩
 rw[dF z4];refine goW ?_;refine⟨_,rfl,ret ?_⟩;rw[wr8 (n:=(a.toNat:Int)-48) (by omega) (by omega),wr8 (n:=(b.toNat:Int)-48) (by omega) (by omega),wr64 (n:=(a.toNat:Int)-48) (by omega) (by omega),wr64 (n:=(b.toNat:Int)-48) (by omega) (by omega),wr64 (n:=((a.toNat:Int)-48)*10) (by omega) (by omega),wr64 (by omega) (by omega)];exact if_pos (by rw[dig_iff,dig_iff];omega)
set_option maxHeartbeats 4000000 in
theorem within_wp (hm:MonoC C)(h:∀s,PF C 166 [.str s] (.int .i64 (twoB s))){s:List UInt8}{lo hi:Int}:wpF gt C F167 [.str s,.int .i64 lo,.int .i64 hi] St.init (Ret (.bool (withinB s lo hi))):=by
 refine⟨rfl,?_⟩;refine goW ?_;refine call_pf hm (by rfl) (h s) (goW ?_);unfold withinB;by_cases z1:twoB s ≥ lo
 ·rw[dT z1];refine goW ?_;refine call_pf hm (by rfl) (h s) (goW ?_);exact⟨_,rfl,Ret.sta trivial⟩
 ·rw[dF z1];refine goW ?_;exact⟨_,rfl,Ret.sta trivial⟩
set_option maxHeartbeats 4000000 in
theorem days_wp {y m:Int}:wpF gt C F168 [.int .i64 y,.int .i64 m] St.init (Ret (.int .i64 (daysB y m))):=by
 have ret:∀{z:Int} {S:St},daysB y m=z->Ret (.int .i64 (daysB y m)) (.ret (.int .i64 z)) S:=λh=>by rw[h];exact Ret.sta trivial
 refine⟨rfl,?_⟩;refine goW ?_;by_cases z1:m=4
 ·rw[eqI_true z1];refine goW ?_;exact⟨_,rfl,ret (if_pos (.inl z1))⟩
 rw[eqI_false z1];refine goW ?_;by_cases z2:m=6
 ·rw[eqI_true z2];refine goW ?_;exact⟨_,rfl,ret (if_pos (.inr (.inl z2)))⟩
 rw[eqI_false z2];refine goW ?_;by_cases z3:m=9
 ·rw[eqI_true z3];refine goW ?_;exact⟨_,rfl,ret (if_pos (.inr (.inr (.inl z3))))⟩
 rw[eqI_false z3];refine goW ?_;by_cases z4:m=11
 ·rw[eqI_true z4];refine goW ?_;exact⟨_,rfl,ret (if_pos (.inr (.inr (.inr z4))))⟩
 rw[eqI_false z4];have hf:daysB y m=if m=2 then (if Int.tmod y 4=0/\(Int.tmod y 100≠0\/Int.tmod y 400=0) then 29 else 28) else 31:=if_neg (by rintro (h | h | h | h)<;>contradiction)
 refine goW ?_;by_cases z5:m=2
 case neg =>
  rw[eqI_false z5];refine goW ?_;exact⟨_,rfl,ret (by rw[hf,if_neg z5])⟩
 rw[eqI_true z5];rw[if_pos z5]at hf;refine goW ?_;by_cases z6:Int.tmod y 4=0
 case neg =>
  rw[eqI_false z6];refine goW ?_;exact⟨_,rfl,ret (by rw[hf,if_neg (by rintro⟨h,_⟩;exact z6 h)])⟩
 rw[eqI_true z6];refine goW ?_;by_cases z7:Int.tmod y 100=0
 case neg =>
  rw[neI_true z7];refine goW ?_;exact⟨_,rfl,ret (by rw[hf,if_pos ⟨z6,.inl z7⟩])⟩
 rw[neI_false z7];refine goW ?_;by_cases z8:Int.tmod y 400=0
 ·rw[eqI_true z8];refine goW ?_;exact⟨_,rfl,ret (by rw[hf,if_pos ⟨z6,.inr z8⟩])⟩
 ·rw[eqI_false z8];refine goW ?_;exact⟨_,rfl,ret (by rw[hf,if_neg (by rintro⟨_,h | h⟩;exact h z7;exact z8 h)])⟩
end

def atB (s:List UInt8)(k:Nat)(c:UInt8):Bool:=hd c (s.drop k)
theorem atB_get {s:List UInt8}{k:Nat}{b c:UInt8}(h:s[k]? = some b):atB s k c=(b == c) :=
 hd_head (by rw[List.getElem?_drop];exact h)
def sub (s:List UInt8)(i j:Nat):List UInt8:=(s.drop i).take (j-i)
def dateB (s:List UInt8):Bool :=
 decide (s.length=10) && (atB s 4 45 && (atB s 7 45 && (decide (0<=twoB (s.take 2)) && (decide (0<=twoB (sub s 2 4)) && (withinB (sub s 5 7) 1 12 &&
  withinB (s.drop 8) 1 (daysB (twoB (s.take 2)*100+twoB (sub s 2 4)) (twoB (sub s 5 7))))))))
theorem twoB_le (s:List UInt8):-1<=twoB s/\twoB s<=99:=by
 match s with
 | []=>exact⟨by decide,by decide⟩
 | [_]=>exact⟨Int.le_refl _,by simp only[twoB];omega⟩
 | [a,b] =>
  simp only[twoB];split
  ·rename_i h;rw[dig_iff,dig_iff]at h;omega
  ·omega
 | _::_::_::_=>exact⟨Int.le_refl _,by simp only[twoB];omega⟩
section
variable {gt:GT}{C:CallT}
set_option maxHeartbeats 4000000 in
theorem date_wp (hm:MonoC C)(h2:∀s,PF C 166 [.str s] (.int .i64 (twoB s)))(hw:∀s lo hi,PF C 167 [.str s,.int .i64 lo,.int .i64 hi] (.bool (withinB s lo hi)))
  (hdy:∀y m,PF C 168 [.int .i64 y,.int .i64 m] (.int .i64 (daysB y m))) {s:List UInt8}:wpF gt C F134 [.str s] St.init (Ret (.bool (dateB s))):=by
 have ret:∀{z:Bool} {S:St},dateB s=z->Ret (.bool (dateB s)) (.ret (.bool z)) S:=λh=>by rw[h];exact Ret.sta trivial
 have hf:dateB s=(decide (s.length=10) && (atB s 4 45 && (atB s 7 45 && (decide (0<=twoB (s.take 2)) && (decide (0<=twoB (sub s 2 4)) && (withinB (sub s 5 7) 1 12 &&
  withinB (s.drop 8) 1 (daysB (twoB (s.take 2)*100+twoB (sub s 2 4)) (twoB (sub s 5 7))))))))):=rfl
 generalize dateB s=res at ret hf ⊢;refine⟨rfl,?_⟩;refine goW ?_;by_cases z:s.length=10
 case neg =>
  rw[neI_true (show ¬((s.length:Nat):Int)=10 by omega)];refine goW ?_;exact⟨_,rfl,ret (by rw[hf,dF z];rfl)⟩
 rw[neI_false (show ((s.length:Nat):Int)=10 by omega)];rw[dT z,Bool.true_and]at hf;obtain⟨b4,hb4⟩:∃b,s[4]? = some b:=⟨_,gE (by omega)⟩
 obtain⟨b7,hb7⟩:∃b,s[7]? = some b:=⟨_,gE (by omega)⟩
 refine goW ?_;refine st_any (by exact rfl) (sx_ixS (k:=4) rfl rfl hb4) (goW ?_);rw[show ((45:Int))=((45:UInt8).toNat:Int) from rfl,u8_neI,<-atB_get (c:=45) hb4];cases y1:atB s 4 45 with
 | false =>
  refine goW ?_;exact⟨_,rfl,ret (by rw[hf,y1];rfl)⟩
 | true =>
 rw[y1,Bool.true_and]at hf;refine goW ?_;refine st_any (by exact rfl) (sx_ixS (k:=7) rfl rfl hb7) (goW ?_);rw[u8_neI,<-atB_get (c:=45) hb7];cases y2:atB s 7 45 with
 | false =>
  refine goW ?_;exact⟨_,rfl,ret (by rw[hf,y2];rfl)⟩
 | true =>
 rw[y2,Bool.true_and]at hf;refine goW ?_;refine st_any (by exact rfl) (sx_slHiS (h:=2) rfl rfl (by omega)) (goW ?_);refine call_pf hm (by rfl) (h2 (s.take 2)) (goW ?_);have g1:=twoB_le (s.take 2);by_cases y3:twoB (s.take 2)<0
 ·rw[dT y3];refine goW ?_;exact⟨_,rfl,ret (by rw[hf,dF (show ¬0<=twoB (s.take 2) by omega)];rfl)⟩
 rw[dF y3];rw[dT (show 0<=twoB (s.take 2) by omega),Bool.true_and]at hf;refine goW ?_;refine st_any (by exact rfl) (sx_slLH (l:=2) (h:=4) rfl rfl rfl (by omega) (by omega)) (goW ?_);rw[show (s.drop 2).take (4-2)=sub s 2 4 from rfl];refine call_pf hm (by rfl) (h2 (sub s 2 4)) (goW ?_);have g2:=twoB_le (sub s 2 4);by_cases y4:twoB (sub s 2 4)<0
 ·rw[dT y4];refine goW ?_;exact⟨_,rfl,ret (by rw[hf,dF (show ¬0<=twoB (sub s 2 4) by omega)];rfl)⟩
 rw[dF y4];rw[dT (show 0<=twoB (sub s 2 4) by omega),Bool.true_and]at hf;refine goW ?_;refine st_any (by exact rfl) (sx_slLH (l:=5) (h:=7) rfl rfl rfl (by omega) (by omega)) (goW ?_);rw[show (s.drop 5).take (7-5)=sub s 5 7 from rfl];refine call_pf hm (by rfl) (hw (sub s 5 7) 1 12) (goW ?_);cases y5:withinB (sub s 5 7) 1 12 with
 | false =>
  refine goW ?_;exact⟨_,rfl,ret (by rw[hf,y5];rfl)⟩
 | true =>
 rw[y5,Bool.true_and]at hf;refine goW ?_;refine step_ruleDO rfl rfl (sx_slLo (l:=8) rfl rfl (by omega)) (goW ?_);refine step_ruleDO rfl rfl (sx_slHiS (h:=2) rfl rfl (by omega)) (goW ?_);refine step_ruleDO rfl rfl (sx_slLH (l:=2) (h:=4) rfl rfl rfl (by omega) (by omega)) (goW ?_);refine step_ruleDO rfl rfl (sx_slLH (l:=5) (h:=7) rfl rfl rfl (by omega) (by omega)) (goW ?_);rw[show (s.drop 5).take (7-5)=sub s 5 7 from rfl,show (s.drop 2).take (4-2)=sub s 2 4 from rfl];refine call_pfD hm (by rfl) (h2 (s.take 2)) (goW ?_);refine call_pfD hm (by rfl) (h2 (sub s 2 4)) (goW ?_);refine call_pfD hm (by rfl) (h2 (sub s 5 7)) (goW ?_);rw[wr64 (n:=twoB (s.take 2)*100) (by omega) (by omega),wr64 (by omega) (by omega)];refine call_pfD hm (by rfl) (hdy _ _) (goW ?_);refine call_pfD hm (by rfl) (hw _ _ _) (goW ?_);exact⟨_,rfl,ret hf⟩
end

abbrev tenD:List UInt8:=[48,49,50,51,52,53,54,55,56,57]
def trimA (cs s:List UInt8):List UInt8:=trimL cs (trimR cs s)
def clockB (s:List UInt8):Bool :=
 decide (8<=s.length) && (atB s 2 58 && (atB s 5 58 && (withinB (s.take 2) 0 23 && (withinB (sub s 3 5) 0 59 && (withinB (sub s 6 8) 0 59 &&
  (decide (s.length=8) || (atB s 8 46 && (decide (1<=(s.drop 9).length) && (decide ((s.drop 9).length<=9) && beqB (trimA tenD (s.drop 9)) [])))))))))
section
variable {gt:GT}{C:CallT}
set_option maxHeartbeats 4000000 in
theorem clock_wp (hm:MonoC C)(hw:∀s lo hi,PF C 167 [.str s,.int .i64 lo,.int .i64 hi] (.bool (withinB s lo hi)))
  (htr:∀s:List UInt8,s.length<9223372036854775807->PF C 169 [.str s,.str tenD] (.str (trimA tenD s))) {s:List UInt8} (hl:s.length<9223372036854775807):wpF gt C F135 [.str s] St.init (Ret (.bool (clockB s))):=by
 have ret:∀{z:Bool} {S:St},clockB s=z->Ret (.bool (clockB s)) (.ret (.bool z)) S:=λh=>by rw[h];exact Ret.sta trivial
 have hf:clockB s=(decide (8<=s.length) && (atB s 2 58 && (atB s 5 58 && (withinB (s.take 2) 0 23 && (withinB (sub s 3 5) 0 59 && (withinB (sub s 6 8) 0 59 &&
  (decide (s.length=8) || (atB s 8 46 && (decide (1<=(s.drop 9).length) && (decide ((s.drop 9).length<=9) && beqB (trimA tenD (s.drop 9)) [])))))))))):=rfl
 generalize clockB s=res at ret hf ⊢;refine⟨rfl,?_⟩;refine goW ?_;by_cases z:8<=s.length
 case neg =>
  rw[dT (show ((s.length:Nat):Int)<8 by omega)];refine goW ?_;exact⟨_,rfl,ret (by rw[hf,dF z];rfl)⟩
 rw[dF (show ¬((s.length:Nat):Int)<8 by omega)];rw[dT z,Bool.true_and]at hf;obtain⟨b2,hb2⟩:∃b,s[2]? = some b:=⟨_,gE (by omega)⟩
 obtain⟨b5,hb5⟩:∃b,s[5]? = some b:=⟨_,gE (by omega)⟩
 refine goW ?_;refine st_any (by exact rfl) (sx_ixS (k:=2) rfl rfl hb2) (goW ?_);rw[show ((58:Int))=((58:UInt8).toNat:Int) from rfl,u8_neI,<-atB_get (c:=58) hb2];cases y1:atB s 2 58 with
 | false =>
  refine goW ?_;exact⟨_,rfl,ret (by rw[hf,y1];rfl)⟩
 | true =>
 rw[y1,Bool.true_and]at hf;refine goW ?_;refine st_any (by exact rfl) (sx_ixS (k:=5) rfl rfl hb5) (goW ?_);rw[u8_neI,<-atB_get (c:=58) hb5];cases y2:atB s 5 58 with
 | false =>
  refine goW ?_;exact⟨_,rfl,ret (by rw[hf,y2];rfl)⟩
 | true =>
 rw[y2,Bool.true_and]at hf;refine goW ?_;refine st_any (by exact rfl) (sx_slHiS (h:=2) rfl rfl (by omega)) (goW ?_);refine call_pf hm (by rfl) (hw (s.take 2) 0 23) (goW ?_);cases y3:withinB (s.take 2) 0 23 with
 | false =>
  refine goW ?_;exact⟨_,rfl,ret (by rw[hf,y3];rfl)⟩
 | true =>
 rw[y3,Bool.true_and]at hf;refine goW ?_;refine st_any (by exact rfl) (sx_slLH (l:=3) (h:=5) rfl rfl rfl (by omega) (by omega)) (goW ?_);rw[show (s.drop 3).take (5-3)=sub s 3 5 from rfl];refine call_pf hm (by rfl) (hw (sub s 3 5) 0 59) (goW ?_);cases y4:withinB (sub s 3 5) 0 59 with
 | false =>
  refine goW ?_;exact⟨_,rfl,ret (by rw[hf,y4];rfl)⟩
 | true =>
 rw[y4,Bool.true_and]at hf;refine goW ?_;refine st_any (by exact rfl) (sx_slLH (l:=6) (h:=8) rfl rfl rfl (by omega) (by omega)) (goW ?_);rw[show (s.drop 6).take (8-6)=sub s 6 8 from rfl];refine call_pf hm (by rfl) (hw (sub s 6 8) 0 59) (goW ?_);cases y5:withinB (sub s 6 8) 0 59 with
 | false =>
  refine goW ?_;exact⟨_,rfl,ret (by rw[hf,y5];rfl)⟩
 | true =>
 rw[y5,Bool.true_and]at hf;refine goW ?_;by_cases z8:s.length=8
 ·rw[eqI_true (show ((s.length:Nat):Int)=8 by omega)];refine goW ?_;exact⟨_,rfl,ret (by rw[hf,dT z8];rfl)⟩
 rw[eqI_false (show ¬((s.length:Nat):Int)=8 by omega)];rw[dF z8,Bool.false_or]at hf;obtain⟨b8,hb8⟩:∃b,s[8]? = some b:=⟨_,gE (by omega)⟩
 refine goW ?_;refine step_ruleO (sx_slLo (l:=9) rfl rfl (by omega)) (goW ?_);refine step_ruleO (sx_ixS (k:=8) rfl rfl hb8) (goW ?_);rw[show ((46:Int))=((46:UInt8).toNat:Int) from rfl,u8_eqI,<-atB_get (c:=46) hb8];cases y6:atB s 8 46 with
 | false =>
  refine goW ?_;exact⟨_,rfl,ret (by rw[hf,y6];rfl)⟩
 | true =>
 rw[y6,Bool.true_and]at hf;have hd9:(s.drop 9).length<=s.length:=by rw[lD];omega
 generalize s.drop 9=p at hf hd9 ⊢;refine goW ?_;by_cases z1:1<=p.length
 case neg =>
  rw[dF (show ¬((p.length:Nat):Int) ≥ 1 by omega)];refine goW ?_;exact⟨_,rfl,ret (by rw[hf,dF z1];rfl)⟩
 rw[dT (show ((p.length:Nat):Int) ≥ 1 by omega)];rw[dT z1,Bool.true_and]at hf;refine goW ?_;by_cases z9:p.length<=9
 case neg =>
  rw[dF (show ¬((p.length:Nat):Int)<=9 by omega)];refine goW ?_;exact⟨_,rfl,ret (by rw[hf,dF z9];rfl)⟩
 rw[dT (show ((p.length:Nat):Int)<=9 by omega)];rw[dT z9,Bool.true_and]at hf;refine goW ?_;refine call_pf hm (by rfl) (htr p (by omega)) (goW ?_);exact⟨_,rfl,ret hf⟩
end

def zoneB (s:List UInt8):List UInt8×List UInt8 :=
 if tl 90 s=true then (s.take (s.length-1),[90])
 else if s.length<6\/(atB s (s.length-6) 43=false/\atB s (s.length-6) 45=false) then (s,[])
 else if atB (s.drop (s.length-6)) 3 58=false\/withinB (sub (s.drop (s.length-6)) 1 3) 0 23=false\/withinB ((s.drop (s.length-6)).drop 4) 0 59=false then (s,[])
 else (s.take (s.length-6),s.drop (s.length-6))
def encZ (p:List UInt8×List UInt8):AV:=.tup [.str p.1,.str p.2]
theorem sta_Z (p:List UInt8×List UInt8):Sta (encZ p):=⟨trivial,trivial,trivial⟩
def cutC (c:UInt8):List UInt8->List UInt8×List UInt8×Bool
 | []=>([],[],false)
 | b::r=>if b == c then ([],r,true) else (b::(cutC c r).1,(cutC c r).2.1,(cutC c r).2.2)
def timeB (s:List UInt8):Bool :=
 dateB s || (clockB s || ((cutC 84 (zoneB s).1).2.2 && (dateB (cutC 84 (zoneB s).1).1 && clockB (cutC 84 (zoneB s).1).2.1)))
theorem cutC_le (c:UInt8):∀s:List UInt8,(cutC c s).1.length<=s.length/\(cutC c s).2.1.length<=s.length
 | []=>⟨nR _,nR _⟩
 | b::r=>by
  have:=cutC_le c r;simp only[cutC];split
  ·exact⟨Nat.zero_le _,by simp⟩
  ·simp only[lC];omega
theorem zoneB_le (s:List UInt8):(zoneB s).1.length<=s.length:=by
 unfold zoneB;split
 ·simp only[lT];omega
 ·split
  ·exact nR _
  ·split
   ·exact nR _
   ·simp only[lT];omega
theorem tl_len {c:UInt8}{s:List UInt8}(h:tl c s=true):1<=s.length:=by
 have:=hd_len h;rwa [List.length_reverse]at this
section
variable {gt:GT}{C:CallT}
set_option maxHeartbeats 4000000 in
theorem zone_wp (hm:MonoC C)(hsuf:∀(s:List UInt8) c,s.length<9223372036854775807->PF C 170 [.str s,.str [c]] (.bool (tl c s)))(hw:∀s lo hi,PF C 167 [.str s,.int .i64 lo,.int .i64 hi] (.bool (withinB s lo hi)))
  {s:List UInt8} (hl:s.length<9223372036854775807):wpF gt C F136 [.str s] St.init (Ret (encZ (zoneB s))):=by
 have ret:∀{z:List UInt8×List UInt8} {S:St},zoneB s=z->Ret (encZ (zoneB s)) (.ret (encZ z)) S:=λh=>by rw[h];exact Ret.sta (sta_Z _)
 have hf:zoneB s=if tl 90 s=true then (s.take (s.length-1),[90])
  else if s.length<6\/(atB s (s.length-6) 43=false/\atB s (s.length-6) 45=false) then (s,[])
  else if atB (s.drop (s.length-6)) 3 58=false\/withinB (sub (s.drop (s.length-6)) 1 3) 0 23=false\/withinB ((s.drop (s.length-6)).drop 4) 0 59=false then (s,[])
  else (s.take (s.length-6),s.drop (s.length-6)):=rfl
 generalize zoneB s=res at ret hf ⊢;refine⟨rfl,?_⟩;refine goW ?_;refine call_pf hm (by rfl) (hsuf s 90 hl) (goW ?_);cases y1:tl 90 s with
 | true =>
  have h1:=tl_len y1;refine goW ?_;rw[show wr .i64 ((s.length:Int)-1)=((s.length-1:Nat):Int) by rw[wr64 (by omega) (by omega)];omega];refine step_ruleO (sx_slHiS (h:=s.length-1) rfl rfl (by omega)) (goW ?_);exact⟨_,rfl,ret (z:=(s.take (s.length-1),[90])) (by rw[hf,if_pos y1])⟩
 | false =>
 rw[if_neg (by rw[y1];simp)]at hf;refine goW ?_;by_cases z6:s.length<6
 ·rw[dT (show ((s.length:Nat):Int)<6 by omega)];refine goW ?_;exact⟨_,rfl,ret (z:=(s,[])) (by rw[hf,if_pos (.inl z6)])⟩
 rw[dF (show ¬((s.length:Nat):Int)<6 by omega)];obtain⟨b6,hb6⟩:∃b,s[s.length-6]? = some b:=⟨_,gE (by omega)⟩
 have hwr:wr .i64 ((s.length:Int)-6)=((s.length-6:Nat):Int):=by rw[wr64 (by omega) (by omega)];omega
 refine goW ?_;rw[hwr];refine st_any (by exact rfl) (sx_ixS (k:=s.length-6) rfl rfl hb6) (goW ?_);rw[show ((43:Int))=((43:UInt8).toNat:Int) from rfl,u8_neI,<-atB_get (c:=43) hb6];have tail:¬(s.length<6\/(atB s (s.length-6) 43=false/\atB s (s.length-6) 45=false))->True:=λ_=>trivial
 clear tail
 have fin:¬(s.length<6\/(atB s (s.length-6) 43=false/\atB s (s.length-6) 45=false))->∀x:Env,wpD gt C F136.body.rt.rt.rt ((0,.val (.str s))::x) St.init (bodyQ gt F136.res (Ret (encZ res))):=λhno x=>by
  rw[if_neg hno]at hf
  conv=>whnf
  refine goW ?_;rw[hwr];refine step_ruleO (sx_slLo (l:=s.length-6) rfl rfl (by omega)) (goW ?_);have hz:(s.drop (s.length-6)).length=6:=by rw[lD];omega
  generalize hzz:s.drop (s.length-6)=z at hf hz ⊢;obtain⟨b3,hb3⟩:∃b,z[3]? = some b:=⟨_,gE (by omega)⟩
  refine step_ruleO (sx_ixS (k:=3) rfl rfl hb3) (goW ?_);rw[show ((58:Int))=((58:UInt8).toNat:Int) from rfl,u8_neI,<-atB_get (c:=58) hb3];cases w1:atB z 3 58 with
  | false =>
   refine goW ?_;exact⟨_,rfl,ret (z:=(s,[])) (by rw[hf,if_pos (.inl w1)])⟩
  | true =>
  refine goW ?_;refine st_any (by exact rfl) (sx_slLH (l:=1) (h:=3) rfl rfl rfl (by omega) (by omega)) (goW ?_);rw[show (z.drop 1).take (3-1)=sub z 1 3 from rfl];refine call_pf hm (by rfl) (hw (sub z 1 3) 0 23) (goW ?_);cases w2:withinB (sub z 1 3) 0 23 with
  | false =>
   refine goW ?_;exact⟨_,rfl,ret (z:=(s,[])) (by rw[hf,if_pos (.inr (.inl w2))])⟩
  | true =>
  refine goW ?_;refine st_any (by exact rfl) (sx_slLo (l:=4) rfl rfl (by omega)) (goW ?_);refine call_pf hm (by rfl) (hw (z.drop 4) 0 59) (goW ?_);cases w3:withinB (z.drop 4) 0 59 with
  | false =>
   refine goW ?_;exact⟨_,rfl,ret (z:=(s,[])) (by rw[hf,if_pos (.inr (.inr w3))])⟩
  | true =>
  refine goW ?_;rw[hwr];refine step_ruleO (sx_slHiS (h:=s.length-6) rfl rfl (by omega)) (goW ?_);exact⟨_,rfl,ret (z:=(s.take (s.length-6),z)) (by rw[hf,if_neg (by rintro (h | h | h);rw[w1]at h;cases h;rw[w2]at h;cases h;rw[w3]at h;cases h)])⟩
 cases y2:atB s (s.length-6) 43 with
 | true =>
  refine goK ?_
  with_unfolding_all exact fin (by rintro (h | ⟨h,_⟩);exact z6 h;rw[y2]at h;cases h) _
 | false =>
 refine goW ?_;rw[hwr];refine st_any (by exact rfl) (sx_ixS (k:=s.length-6) rfl rfl hb6) (goW ?_);rw[show ((45:Int))=((45:UInt8).toNat:Int) from rfl,u8_neI,<-atB_get (c:=45) hb6];cases y3:atB s (s.length-6) 45 with
 | true =>
  refine goK ?_
  with_unfolding_all exact fin (by rintro (h | ⟨_,h⟩);exact z6 h;rw[y3]at h;cases h) _
 | false =>
  refine goW ?_;exact⟨_,rfl,ret (z:=(s,[])) (by rw[hf,if_pos (.inr ⟨y2,y3⟩)])⟩
set_option maxHeartbeats 4000000 in
theorem time_wp (hm:MonoC C)(hd':∀s,PF C 134 [.str s] (.bool (dateB s)))(hc:∀s:List UInt8,s.length<9223372036854775807->PF C 135 [.str s] (.bool (clockB s)))
  (hz:∀s:List UInt8,s.length<9223372036854775807->PF C 136 [.str s] (encZ (zoneB s))) (hcut:∀s:List UInt8,s.length<4294967281->PF C 137 [.str s,.str [84]] (.tup [.str (cutC 84 s).1,.str (cutC 84 s).2.1,.bool (cutC 84 s).2.2]))
  {s:List UInt8} (hl:s.length<4294967281):wpF gt C F83 [.str s] St.init (Ret (.bool (timeB s))):=by
 have hzl:=zoneB_le s;have hcut:=hcut (zoneB s).1 (by omega);have hcl:=cutC_le 84 (zoneB s).1;unfold timeB;refine⟨rfl,?_⟩;refine goW ?_;refine call_pf hm (by rfl) (hd' s) (goW ?_);cases y1:dateB s with
 | true =>
  refine goW ?_;exact⟨_,rfl,Ret.sta trivial⟩
 | false =>
 refine goW ?_;refine call_pf hm (by rfl) (hc s (by omega)) (goW ?_);cases y2:clockB s with
 | true =>
  refine goW ?_;exact⟨_,rfl,Ret.sta trivial⟩
 | false =>
 refine goW ?_;refine call_pf hm (by rfl) (hz s (by omega)) (goW ?_);refine call_pf hm (by rfl) hcut ?_;generalize cutC 84 (zoneB s).1=q at hcl ⊢;obtain⟨d,c,k⟩:=q;refine goW ?_;cases k with
 | false =>
  refine goW ?_;exact⟨_,rfl,Ret.sta trivial⟩
 | true =>
 refine goW ?_;refine call_pf hm (by rfl) (hd' d) (goW ?_);cases y3:dateB d with
 | false =>
  refine goW ?_;exact⟨_,rfl,by simp only[y3];exact Ret.sta trivial⟩
 | true =>
 refine goW ?_;refine call_pf hm (by rfl) (hc c (by simp only at hcl;omega)) (goW ?_);exact⟨_,rfl,by simp only[y3];exact Ret.sta trivial⟩
end

section
variable {gt:GT}{C:CallT}
set_option maxHeartbeats 2000000 in
theorem hasSuf0_wp {s:List UInt8}{c:UInt8}(hl:s.length<9223372036854775807):wpF gt C F197 [.str s,.str [c]] St.init (Ret (.bool (tl c s))):=by
 refine⟨rfl,?_⟩;refine goW ?_;by_cases z:1<=s.length
 case neg =>
  have:s=[]:=List.length_eq_zero_iff.1 (by omega);subst this;rw[dF (show ¬((([]:List UInt8).length:Nat):Int) ≥ (([c]:List UInt8).length:Nat) by simp)];refine goW ?_;exact⟨_,rfl,Ret.sta trivial⟩
 rw[dT (show ((s.length:Nat):Int) ≥ (([c]:List UInt8).length:Nat) by simp only[lC,lN];omega)];refine goW ?_;rw[show wr .i64 ((s.length:Int)-(([c]:List UInt8).length:Nat))=((s.length-1:Nat):Int) by simp only[lC,lN];rw[wr64 (by omega) (by omega)];omega];refine st_any (by exact rfl) (sx_slLo (l:=s.length-1) rfl rfl (by omega)) (goW ?_);obtain⟨lb,hlb⟩:∃lb,s[s.length-1]? = some lb:=⟨_,gE (by omega)⟩
 have hd1:s.drop (s.length-1)=[lb]:=by
  rw[dC (show s.length-1<s.length by omega),List.drop_eq_nil_of_le (by omega)];rw[gE (show s.length-1<s.length by omega)]at hlb;simp only[oI]at hlb;rw[hlb]
 refine⟨_,rfl,?_⟩;rw[hd1,beqB_one,tl_last hlb (by omega)];exact Ret.sta trivial
theorem hasSuf_wp (hm:MonoC C)(h:∀(s:List UInt8) c,s.length<9223372036854775807->PF C 197 [.str s,.str [c]] (.bool (tl c s))){s:List UInt8}{c:UInt8}(hl:s.length<9223372036854775807):wpF gt C F170 [.str s,.str [c]] St.init (Ret (.bool (tl c s))):=by
 refine⟨rfl,?_⟩;refine goW ?_;refine call_pf hm (by rfl) (h s c hl) (goW ?_);exact⟨_,rfl,Ret.sta trivial⟩
end

def mpE (l:List (List UInt8×Int)):List (AV×AV):=l.map λp=>(.str p.1,.int .i64 p.2)
def posS (k:List UInt8):List (List UInt8×Int)->Nat->Option (Nat×Int)
 | [],_=>none
 | (k',v)::r,i=>if k=k' then some (i,v) else posS k r (i+1)
theorem fk (k:List UInt8):∀(l:List (List UInt8×Int)) (i:Nat),findK .str (.str k) (mpE l) i=some ((posS k l i).map λp=>(p.1,AV.int .i64 p.2))
 | [],_=>rfl
 | (k',v)::r,i=>by
  have ih:=fk k r (i+1);simp only[mpE,List.map_cons,findK,eqv,eqStr,posS]at ih ⊢;by_cases h:k=k'
  ·rw[beqB_true h,if_pos h];rfl
  ·rw[beqB_false h,if_neg h];exact ih
theorem posS_lt {k:List UInt8}:∀{l:List (List UInt8×Int)} {i j:Nat} {v:Int},posS k l i=some (j,v)->i<=j/\j<i+l.length/\l[j-i]? = some (k,v)
 | (k',v')::r,i,j,v,h=>by
  simp only[posS]at h;split at h
  ·rename_i e;simp only[oI,Prod.mk.injEq]at h;obtain⟨rfl,rfl⟩:=h;subst e;exact⟨nR _,by simp,by simp⟩
  ·obtain⟨h1,h2,h3⟩:=posS_lt h;refine⟨by omega,by simp only[lC];omega,?_⟩;rw[show j-i=(j-(i+1))+1 by omega,List.getElem?_cons_succ];exact h3
theorem posS_none {k:List UInt8}:∀{l:List (List UInt8×Int)} {i:Nat},posS k l i=none↔k ∉ l.map Prod.fst
 | [],i=>by simp[posS]
 | (k',v')::r,i=>by
  simp only[posS,List.map_cons,List.mem_cons,not_or];split
  ·rename_i e;simp[e]
  ·rename_i e;rw[posS_none];simp[e]
theorem posS_app {k:List UInt8}{v:Int}:∀{l:List (List UInt8×Int)} {i:Nat},posS k l i=none->posS k (l++[(k,v)]) i=some (i+l.length,v)
 | [],i,_=>by simp[posS]
 | (k',v')::r,i,h=>by
  simp only[posS,List.cons_append,lC]at h ⊢;split at h
  ·cases h
  ·rename_i e;rw[if_neg e,posS_app h];congr 2;omega
theorem posS_set {k:List UInt8}{v w:Int}:∀{l:List (List UInt8×Int)} {i j:Nat},posS k l i=some (j,v)->posS k (l.set (j-i) (k,w)) i=some (j,w)
 | (k',v')::r,i,j,h=>by
  have hlt:=posS_lt h;simp only[posS]at h;split at h
  ·rename_i e;simp only[oI,Prod.mk.injEq]at h;obtain⟨rfl,rfl⟩:=h;simp[posS]
  ·rename_i e;have h3:=posS_lt h;rw[show j-i=(j-(i+1))+1 by omega,List.set_cons_succ];simp only[posS];rw[if_neg e];exact posS_set h

theorem wrU8 (x:UInt8):wr .i64 (x.toNat:Int)=x.toNat:=by
 have:=u8_lt x;exact wr64 (by omega) (by omega)
theorem wrap8 {n:Nat}(h:n<256):IntKind.wrap .u8 (n:Int)=n:=by
 refine inR_wrap ?_;simp only[inR];exact Nat.ble_eq_true_of_le (by omega)
theorem wrap64 {n:Nat}(h:n<9223372036854775808):IntKind.wrap .i64 (n:Int)=n:=by
 refine inR_wrap ?_;simp only[inR];exact Nat.ble_eq_true_of_le (by omega)
theorem step63 {acc:Nat}(x:UInt8)(h1:128<=x.toNat)(h2:x.toNat<192)(ha:acc<1125899906842624) :
  IntKind.wrap .i64 ((BitVec.ofInt (IntKind.bits .i64) (wr .i64 ((acc:Int)*2 ^ (min (Int.toNat 6) (IntKind.bits .i64)))) ||| BitVec.ofInt (IntKind.bits .i64) (wr .i64 (IntKind.wrap .u8 ((BitVec.ofInt (IntKind.bits .u8) (x.toNat:Int) &&& BitVec.ofInt (IntKind.bits .u8) 63).toNat:Int)))).toNat:Int)=((acc*64+(x.toNat-128):Nat):Int):=by
 have e1:wr .i64 ((acc:Int)*2 ^ (min (Int.toNat 6) (IntKind.bits .i64)))=((acc*64:Nat):Int):=by
  rw[show min (Int.toNat 6) (IntKind.bits .i64)=6 by decide,show ((2:Int) ^ 6)=64 by decide,wr64 (by omega) (by omega)];omega
 have e2:wr .i64 (IntKind.wrap .u8 ((BitVec.ofInt (IntKind.bits .u8) (x.toNat:Int) &&& BitVec.ofInt (IntKind.bits .u8) 63).toNat:Int))=((x.toNat-128:Nat):Int):=by
  have:=and63 x h1 h2;rw[show IntKind.bits .u8=8 from rfl,this,wrap8 (by omega),wr64 (by omega) (by omega)]
 rw[e1,e2,show IntKind.bits .i64=64 from rfl,or_add (by omega) (by omega),wrap64 (by omega)]
section
variable {gt:GT}{C:CallT}
abbrev E_first (s:List UInt8)(acc n least i:Int):Env:=[(0,.val (.str s)),(2,.val (.int .i64 acc)),(3,.val (.int .i64 n)),(4,.val (.int .i64 least)),(5,.val (.int .i64 i))]
set_option maxHeartbeats 4000000 in
theorem first_wp (hm:MonoC C)(hrow:∀b:UInt8,PF C 172 [.int .u8 b.toNat] (encLead (leadB b.toNat)))(hch:∀c:Int,PF C 173 [.int .i64 c] (.bool (charB c)))
  {s:List UInt8} (hl:s.length<4611686018427387904):wpF gt C F138 [.str s] St.init (Ret (encFirst (firstC s))):=by
 have zero:∀{S:St},firstC s=(0,0)->Ret (encFirst (firstC s)) (.ret (.tup [.int .i64 0,.int .i64 0])) S:=λh=>by rw[h];exact Ret.sta ⟨trivial,trivial,trivial⟩
 cases s with
 | nil =>
  refine⟨rfl,?_⟩;refine goW ?_;exact⟨_,rfl,zero rfl⟩
 | cons b r =>
 have hrow:=hrow b;have hlb:=leadB_le b.toNat (u8_lt b);have hf:firstC (b::r)=if (leadB b.toNat).1=0\/r.length+1<(leadB b.toNat).1 then (0,0) else match contV ((leadB b.toNat).1-1) r (leadB b.toNat).2.1 with
   | none=>(0,0)
   | some c=>if c<(leadB b.toNat).2.2\/charB c=false then (0,0) else (c,(leadB b.toNat).1):=rfl
 generalize leadB b.toNat=p at hrow hlb hf;obtain⟨n,bits,least⟩:=p;simp only at hlb hf;simp only[lC]at hl;refine⟨rfl,?_⟩;refine goW ?_;refine call_pf hm (by rfl) hrow (goW ?_);by_cases z:(n:Int)=0
 ·rw[eqI_true z];refine goW ?_;exact⟨_,rfl,zero (by rw[hf,if_pos (.inl (by omega))])⟩
 rw[eqI_false z];refine goW ?_;by_cases z2:(n:Int) > ((b::r).length:Int)
 ·rw[dT z2];refine goW ?_;exact⟨_,rfl,zero (by rw[hf,if_pos (.inr (by simp only[lC]at z2;omega))])⟩
 rw[dF z2];refine goW ?_;simp only[lC]at z2;rw[if_neg (by omega)]at hf;refine loop_rule hm (α:=Nat×Nat) (λa env S'=>1<=a.1/\a.1<=n/\a.2<128*64 ^ (a.1-1)/\env=E_first (b::r) a.2 n least a.1/\S'=St.init/\contV (n-1) r bits=contV (n-a.1) (r.drop (a.1-1)) a.2) (λa=>n-a.1) ?_ (a:=(1,bits)) ⟨nR _,by simp only;omega,by simpa using hlb.2,rfl,rfl,rfl⟩;rintro⟨i,acc⟩ env S' ⟨h1,hi,hacc,rfl,rfl,hp⟩;simp only at h1 hi hacc hp;refine goW ?_;have hpow:64 ^ (i-1)<=64 ^ 3:=Nat.pow_le_pow_right (by decide) (by omega);have hsmall:acc<33554432:=by
  have:128*64 ^ (i-1)<=128*64 ^ 3:=Nat.mul_le_mul_left _ hpow;have e:128*64 ^ 3=33554432:=by decide
  omega
 by_cases hc:(i:Int)<n
 ·rw[dT hc];refine goW ?_;have hik:i-1<r.length:=by omega
  have hgb:(b::r)[i]? = some r[i-1]:=by
   obtain⟨j,rfl⟩:∃j,i=j+1:=⟨i-1,by omega⟩
   rw[List.getElem?_cons_succ];exact gE hik
  rw[show n-i=(n-(i+1))+1 by omega,contV_step hik]at hp;refine step_ruleO (sx_ixS rfl rfl hgb) (goW ?_);have hs6:=shr6 r[i-1];rw[show min (Int.toNat 6) (IntKind.bits .u8)=6 by decide,hs6];by_cases hx:128<=r[i-1].toNat/\r[i-1].toNat<192
  ·rw[dT hx];refine goW ?_;refine step_ruleO (sx_ixS rfl rfl hgb) (goW ?_);rw[step63 r[i-1] hx.1 hx.2 (by omega)];rw[if_pos hx]at hp;refine⟨(i+1,acc*64+(r[i-1].toNat-128)),⟨by simp only;omega,by simp only;omega,?_,?_,rfl,?_⟩,by simp only;omega⟩
   ·simp only;rw[show i+1-1=(i-1)+1 by omega,Nat.pow_succ];omega
   ·rw[wrNat (by omega)]
   ·simp only;rw[hp,show i+1-1=i-1+1 by omega]
  ·rw[dF hx];refine goW ?_;rw[if_neg hx]at hp;exact⟨_,rfl,zero (by rw[hf,hp])⟩
 rw[dF hc];obtain rfl:i=n:=by omega
 rw[Nat.sub_self,show contV 0 (r.drop (i-1)) acc=some acc from rfl]at hp;simp only[hp]at hf;refine goW ?_;by_cases hle:(acc:Int)<least
 ·rw[dT hle];refine goW ?_;exact⟨_,rfl,zero (by rw[hf,if_pos (.inl (by omega))])⟩
 rw[dF hle];refine goW ?_;refine call_pf hm (by rfl) (hch acc) (goW ?_);cases hcb:charB acc with
 | false =>
  refine goW ?_;exact⟨_,rfl,zero (by rw[hf,if_pos (.inr hcb)])⟩
 | true =>
  refine goW ?_;refine⟨_,rfl,?_⟩;rw[hf,if_neg (by rw[hcb];simp;omega)];exact Ret.sta ⟨trivial,trivial,trivial⟩
theorem firstC_le:∀s:List UInt8,(firstC s).2<=s.length
 | []=>nR _
 | b::r=>by
  simp only[firstC];split
  ·exact Nat.zero_le _
  ·split
   ·exact Nat.zero_le _
   ·split
    ·exact Nat.zero_le _
    ·simp only[lC];omega
def badI (s:List UInt8)(at_:Nat):Int :=
 if h:s=[] then -1 else if h0:(firstC s).2=0 then at_ else badI (s.drop (firstC s).2) (at_+(firstC s).2)
termination_by s.length
decreasing_by
 have:0<s.length:=List.length_pos_iff.2 h;simp only[lD];omega
theorem badI_nil (a:Nat):badI [] a=-1:=by rw[badI];simp
theorem badI_bad {s:List UInt8}{a:Nat}(h:s≠[])(h0:(firstC s).2=0):badI s a=a:=by rw[badI,dif_neg h,dif_pos h0]
theorem badI_go {s:List UInt8}{a:Nat}(h:s≠[])(h0:(firstC s).2≠0):badI s a=badI (s.drop (firstC s).2) (a+(firstC s).2):=by rw[badI,dif_neg h,dif_neg h0]
abbrev E_bad (s:List UInt8)(i:Int):Env:=[(0,.val (.str s)),(3,.val (.int .i64 i))]
set_option maxHeartbeats 2000000 in
theorem bad_wp (hm:MonoC C)(hfst:∀s:List UInt8,s.length<4611686018427387904->PF C 138 [.str s] (encFirst (firstC s))){s:List UInt8}(hl:s.length<4611686018427387904) :
  wpF gt C F86 [.str s] St.init (Ret (.int .i64 (badI s 0))):=by
 refine⟨rfl,?_⟩;refine goW ?_;refine loop_rule hm (α:=Nat) (λi env S'=>i<=s.length/\env=E_bad s i/\S'=St.init/\badI s 0=badI (s.drop i) i) (λi=>s.length-i) ?_ (a:=0) ⟨Nat.zero_le _,rfl,rfl,rfl⟩;rintro i env S' ⟨hi,rfl,rfl,hp⟩;refine goW ?_;by_cases hc:(i:Int)<s.length
 ·rw[dT hc];refine goW ?_;have hik:i<s.length:=by omega
  have hne:s.drop i≠[]:=λh=>by have:=congrArg List.length h;simp at this;omega
  have hle:=firstC_le (s.drop i);rw[lD]at hle;have hcall:=hfst (s.drop i) (by rw[lD];omega);unfold encFirst at hcall;refine step_ruleO (sx_slLo (l:=i) rfl rfl hi) (goW ?_);refine call_pf hm (by rfl) hcall (goW ?_);by_cases z:((firstC (s.drop i)).2:Int)=0
  ·rw[eqI_true z];refine goW ?_;refine⟨_,rfl,?_⟩;rw[hp,badI_bad hne (by omega)];exact Ret.sta trivial
  ·rw[eqI_false z];refine goW ?_;refine⟨i+(firstC (s.drop i)).2,⟨by omega,?_,rfl,?_⟩,by omega⟩
   ·rw[wr64 (by omega) (by omega)];rfl
   ·rw[hp,badI_go hne (by omega),List.drop_drop]
 ·rw[dF hc];refine goW ?_;refine⟨_,rfl,?_⟩;rw[hp,List.drop_eq_nil_of_le (by omega),badI_nil];exact Ret.sta trivial
theorem charR_wp {c:Int}:wpF gt C F179 [.int .i64 c] St.init (Ret (.bool (charB c))):=by
 refine⟨rfl,?_⟩;refine goW ?_;by_cases h0:c ≥ 0
 ·rw[dT h0];refine goW ?_;by_cases h1:c<=1114111
  ·rw[dT h1];refine goW ?_;by_cases h2:c<55296
   ·rw[dT h2];refine goW ?_;exact⟨_,rfl,by rw[show charB c=true by simp[charB];omega];exact Ret.sta trivial⟩
   ·rw[dF h2];refine goW ?_;exact⟨_,rfl,by rw[show charB c=decide (c > 57343) by simp only[charB];congr 1;simp;omega];exact Ret.sta trivial⟩
  ·rw[dF h1];refine goW ?_;exact⟨_,rfl,by rw[show charB c=false by simp[charB];omega];exact Ret.sta trivial⟩
 ·rw[dF h0];refine goW ?_;exact⟨_,rfl,by rw[show charB c=false by simp[charB];omega];exact Ret.sta trivial⟩
abbrev E_one (s:List UInt8)(at_:Nat)(size low c i:Int):Env:=[(0,.val (.str s)),(1,.val (.int .i64 at_)),(7,.val (.int .i64 size)),(8,.val (.int .i64 low)),(9,.val (.int .i64 c)),(10,.val (.int .i64 i))]
set_option maxHeartbeats 8000000 in
theorem one_wp (hm:MonoC C)(hch:∀c:Int,PF C 179 [.int .i64 c] (.bool (charB c))){s:List UInt8}{k:Nat}(hk:k<s.length)(hl:s.length<4611686018427387904) :
  wpF gt C F149 [.str s,.int .i64 k] St.init (Ret (encFirst (firstC (s.drop k)))):=by
 have zero:∀{S:St},firstC (s.drop k)=(0,0)->Ret (encFirst (firstC (s.drop k))) (.ret (.tup [.int .i64 0,.int .i64 0])) S:=λh=>by rw[h];exact Ret.sta ⟨trivial,trivial,trivial⟩
 have hs:s.drop k=s[k]::s.drop (k+1):=dC hk;have hgk:s[k]? = some s[k]:=gE hk;have hrl:(s.drop (k+1)).length=s.length-(k+1):=lD;have hf:firstC (s.drop k)=if (leadB s[k].toNat).1=0\/(s.drop (k+1)).length+1<(leadB s[k].toNat).1 then (0,0) else match contV ((leadB s[k].toNat).1-1) (s.drop (k+1)) (leadB s[k].toNat).2.1 with
   | none=>(0,0)
   | some c=>if c<(leadB s[k].toNat).2.2\/charB c=false then (0,0) else (c,(leadB s[k].toNat).1):=by rw[hs];rfl
 have hb:=u8_lt s[k];have hgr:∀i,1<=i->k+i<s.length->∃(h:i-1<(s.drop (k+1)).length),s[k+i]? = some (s.drop (k+1))[i-1]:=λi h1 h2=>by
  refine⟨by rw[hrl];omega,?_⟩;rw[<-gE,List.getElem?_drop,show k+1+(i-1)=k+i by omega]
 refine⟨rfl,?_⟩;refine goW ?_;refine step_ruleO (sx_ixS rfl rfl hgk) (goW ?_);rw[wrU8];generalize s[k]=b at hf hb ⊢;generalize s.drop (k+1)=r at hf hrl hgr ⊢;by_cases h0:(b.toNat:Int)<128
 ·rw[dT h0];refine goW ?_;refine⟨_,rfl,?_⟩;have hlb:leadB b.toNat=(1,b.toNat,0):=by unfold leadB;rw[if_pos (by omega)]
  rw[hlb]at hf;simp only[Nat.reduceEqDiff,false_or]at hf;rw[if_neg (by omega)]at hf;rw[show contV (1-1) r b.toNat=some b.toNat from rfl]at hf;simp only at hf;rw[if_neg (by simp[charB];omega)]at hf;rw[hf];exact Ret.sta ⟨trivial,trivial,trivial⟩
 rw[dF h0];refine goW ?_;by_cases h1:(b.toNat:Int) ≥ 192
 case neg =>
  rw[dF h1];refine goW ?_;have hz:leadB b.toNat=(0,0,0):=by unfold leadB;rw[if_neg (by omega),if_pos (by omega)]
  rw[show decide ((b.toNat:Int) ≥ 224)=false from dF (by omega)];refine goW ?_;rw[show decide ((b.toNat:Int) ≥ 240)=false from dF (by omega)];refine goW ?_;exact⟨_,rfl,zero (by rw[hf,if_pos (.inl (by rw[hz]))])⟩
 rw[dT h1];refine goW ?_;by_cases h2:(b.toNat:Int)<224
 ·rw[dT h2];refine goW ?_;have hlb:leadB b.toNat=(2,b.toNat-192,128):=by unfold leadB;simp only[show ¬b.toNat<128 by omega,show ¬b.toNat<192 by omega,if_false,show b.toNat<224 by omega,if_true]
  rw[hlb]at hf;simp only[Nat.reduceEqDiff,false_or]at hf;rw[show wr .i64 ((b.toNat:Int)-192)=((b.toNat-192:Nat):Int) by rw[wr64 (by omega) (by omega)];omega];generalize hbits:b.toNat-192=bits at hf ⊢;refine goW ?_;by_cases z2:wr .i64 ((k:Int)+2) > (s.length:Int)
  ·rw[dT z2];refine goW ?_;rw[wr64 (by omega) (by omega)]at z2;exact⟨_,rfl,zero (by rw[hf,if_pos (by omega)])⟩
  rw[dF z2];rw[wr64 (by omega) (by omega)]at z2;rw[if_neg (by omega)]at hf;refine goW ?_;have hlow:True:=trivial;refine loop_rule hm (α:=Nat×Nat) (λa env S'=>1<=a.1/\a.1<=2/\a.2<128*64 ^ (a.1-1)/\env=E_one s k 2 128 a.2 a.1/\S'=St.init/\contV (2-1) r bits=contV (2-a.1) (r.drop (a.1-1)) a.2) (λa=>2-a.1) ?_ (a:=(1,bits)) ⟨nR _,by simp only;omega,by simp only[Nat.sub_self,Nat.pow_zero];omega,rfl,rfl,rfl⟩;rintro⟨i,acc⟩ env S' ⟨h1,hi,hacc,rfl,rfl,hp⟩;simp only at h1 hi hacc hp;refine goW ?_;have hpow:64 ^ (i-1)<=64 ^ 3:=Nat.pow_le_pow_right (by decide) (by omega);have hsmall:acc<33554432:=by
   have:128*64 ^ (i-1)<=128*64 ^ 3:=Nat.mul_le_mul_left _ hpow;have e:128*64 ^ 3=33554432:=by decide
   omega
  by_cases hc:(i:Int)<2
  ·rw[dT hc];refine goW ?_;obtain⟨hik,hgb⟩:=hgr i h1 (by omega);rw[show 2-i=(2-(i+1))+1 by omega,contV_step hik]at hp;rw[show wr .i64 ((k:Int)+i)=((k+i:Nat):Int) by rw[wr64 (by omega) (by omega)];rfl];refine step_ruleO (sx_ixS (k:=k+i) rfl rfl hgb) (goW ?_);rw[wrU8];generalize r[i-1]=x at hp hgb ⊢;have hx:=u8_lt x;by_cases hx1:(x.toNat:Int)<128
   ·rw[dT hx1];refine goW ?_;rw[if_neg (by omega)]at hp;exact⟨_,rfl,zero (by rw[hf,hp])⟩
   rw[dF hx1];refine goW ?_;by_cases hx2:(x.toNat:Int) ≥ 192
   ·rw[dT hx2];refine goW ?_;rw[if_neg (by omega)]at hp;exact⟨_,rfl,zero (by rw[hf,hp])⟩
   rw[dF hx2];refine goW ?_;rw[if_pos ⟨by omega,by omega⟩]at hp;refine⟨(i+1,acc*64+(x.toNat-128)),⟨by simp only;omega,by simp only;omega,?_,?_,rfl,?_⟩,by simp only;omega⟩
   ·simp only;rw[show i+1-1=(i-1)+1 by omega,Nat.pow_succ];omega
   ·rw[wrNat (by omega),wr64 (n:=(acc:Int)*64) (by omega) (by omega),wr64 (n:=(acc:Int)*64+x.toNat) (by omega) (by omega),wr64 (n:=(acc:Int)*64+x.toNat-128) (by omega) (by omega),show (acc:Int)*64+x.toNat-128=((acc*64+(x.toNat-128):Nat):Int) by omega]
   ·simp only;rw[hp,show i+1-1=i-1+1 by omega]
  rw[dF hc];obtain rfl:i=2:=by omega
  rw[Nat.sub_self,show contV 0 (r.drop (2-1)) acc=some acc from rfl]at hp;simp only[hp]at hf;refine goW ?_;by_cases hle:(acc:Int)<128
  ·rw[dT hle];refine goW ?_;exact⟨_,rfl,zero (by rw[hf,if_pos (.inl (by omega))])⟩
  rw[dF hle];refine goW ?_;refine call_pf hm (by rfl) (hch acc) (goW ?_);cases hcb:charB acc with
  | false =>
   refine goW ?_;exact⟨_,rfl,zero (by rw[hf,if_pos (.inr hcb)])⟩
  | true =>
   refine goW ?_;refine⟨_,rfl,?_⟩;rw[hf,if_neg (by rw[hcb];simp;omega)];exact Ret.sta ⟨trivial,trivial,trivial⟩
 rw[dF h2];refine goW ?_;rw[show decide ((b.toNat:Int) ≥ 224)=true from dT (by omega)];refine goW ?_;by_cases h3:(b.toNat:Int)<240
 ·rw[dT h3];refine goW ?_;have hlb:leadB b.toNat=(3,b.toNat-224,2048):=by unfold leadB;simp only[show ¬b.toNat<128 by omega,show ¬b.toNat<192 by omega,if_false,show ¬b.toNat<224 by omega,show b.toNat<240 by omega,if_true]
  rw[hlb]at hf;simp only[Nat.reduceEqDiff,false_or]at hf;rw[show wr .i64 ((b.toNat:Int)-224)=((b.toNat-224:Nat):Int) by rw[wr64 (by omega) (by omega)];omega];generalize hbits:b.toNat-224=bits at hf ⊢;refine goW ?_;by_cases z2:wr .i64 ((k:Int)+3) > (s.length:Int)
  ·rw[dT z2];refine goW ?_;rw[wr64 (by omega) (by omega)]at z2;exact⟨_,rfl,zero (by rw[hf,if_pos (by omega)])⟩
  rw[dF z2];rw[wr64 (by omega) (by omega)]at z2;rw[if_neg (by omega)]at hf;refine goW ?_;have hlow:True:=trivial;refine loop_rule hm (α:=Nat×Nat) (λa env S'=>1<=a.1/\a.1<=3/\a.2<128*64 ^ (a.1-1)/\env=E_one s k 3 2048 a.2 a.1/\S'=St.init/\contV (3-1) r bits=contV (3-a.1) (r.drop (a.1-1)) a.2) (λa=>3-a.1) ?_ (a:=(1,bits)) ⟨nR _,by simp only;omega,by simp only[Nat.sub_self,Nat.pow_zero];omega,rfl,rfl,rfl⟩;rintro⟨i,acc⟩ env S' ⟨h1,hi,hacc,rfl,rfl,hp⟩;simp only at h1 hi hacc hp;refine goW ?_;have hpow:64 ^ (i-1)<=64 ^ 3:=Nat.pow_le_pow_right (by decide) (by omega);have hsmall:acc<33554432:=by
   have:128*64 ^ (i-1)<=128*64 ^ 3:=Nat.mul_le_mul_left _ hpow;have e:128*64 ^ 3=33554432:=by decide
   omega
  by_cases hc:(i:Int)<3
  ·rw[dT hc];refine goW ?_;obtain⟨hik,hgb⟩:=hgr i h1 (by omega);rw[show 3-i=(3-(i+1))+1 by omega,contV_step hik]at hp;rw[show wr .i64 ((k:Int)+i)=((k+i:Nat):Int) by rw[wr64 (by omega) (by omega)];rfl];refine step_ruleO (sx_ixS (k:=k+i) rfl rfl hgb) (goW ?_);rw[wrU8];generalize r[i-1]=x at hp hgb ⊢;have hx:=u8_lt x;by_cases hx1:(x.toNat:Int)<128
   ·rw[dT hx1];refine goW ?_;rw[if_neg (by omega)]at hp;exact⟨_,rfl,zero (by rw[hf,hp])⟩
   rw[dF hx1];refine goW ?_;by_cases hx2:(x.toNat:Int) ≥ 192
   ·rw[dT hx2];refine goW ?_;rw[if_neg (by omega)]at hp;exact⟨_,rfl,zero (by rw[hf,hp])⟩
   rw[dF hx2];refine goW ?_;rw[if_pos ⟨by omega,by omega⟩]at hp;refine⟨(i+1,acc*64+(x.toNat-128)),⟨by simp only;omega,by simp only;omega,?_,?_,rfl,?_⟩,by simp only;omega⟩
   ·simp only;rw[show i+1-1=(i-1)+1 by omega,Nat.pow_succ];omega
   ·rw[wrNat (by omega),wr64 (n:=(acc:Int)*64) (by omega) (by omega),wr64 (n:=(acc:Int)*64+x.toNat) (by omega) (by omega),wr64 (n:=(acc:Int)*64+x.toNat-128) (by omega) (by omega),show (acc:Int)*64+x.toNat-128=((acc*64+(x.toNat-128):Nat):Int) by omega]
   ·simp only;rw[hp,show i+1-1=i-1+1 by omega]
  rw[dF hc];obtain rfl:i=3:=by omega
  rw[Nat.sub_self,show contV 0 (r.drop (3-1)) acc=some acc from rfl]at hp;simp only[hp]at hf;refine goW ?_;by_cases hle:(acc:Int)<2048
  ·rw[dT hle];refine goW ?_;exact⟨_,rfl,zero (by rw[hf,if_pos (.inl (by omega))])⟩
  rw[dF hle];refine goW ?_;refine call_pf hm (by rfl) (hch acc) (goW ?_);cases hcb:charB acc with
  | false =>
   refine goW ?_;exact⟨_,rfl,zero (by rw[hf,if_pos (.inr hcb)])⟩
  | true =>
   refine goW ?_;refine⟨_,rfl,?_⟩;rw[hf,if_neg (by rw[hcb];simp;omega)];exact Ret.sta ⟨trivial,trivial,trivial⟩
 rw[dF h3];refine goW ?_;rw[show decide ((b.toNat:Int) ≥ 240)=true from dT (by omega)];refine goW ?_;by_cases h4:(b.toNat:Int)<248
 ·rw[dT h4];refine goW ?_;have hlb:leadB b.toNat=(4,b.toNat-240,65536):=by unfold leadB;simp only[show ¬b.toNat<128 by omega,show ¬b.toNat<192 by omega,if_false,show ¬b.toNat<224 by omega,show ¬b.toNat<240 by omega,show b.toNat<248 by omega,if_true]
  rw[hlb]at hf;simp only[Nat.reduceEqDiff,false_or]at hf;rw[show wr .i64 ((b.toNat:Int)-240)=((b.toNat-240:Nat):Int) by rw[wr64 (by omega) (by omega)];omega];generalize hbits:b.toNat-240=bits at hf ⊢;refine goW ?_;by_cases z2:wr .i64 ((k:Int)+4) > (s.length:Int)
  ·rw[dT z2];refine goW ?_;rw[wr64 (by omega) (by omega)]at z2;exact⟨_,rfl,zero (by rw[hf,if_pos (by omega)])⟩
  rw[dF z2];rw[wr64 (by omega) (by omega)]at z2;rw[if_neg (by omega)]at hf;refine goW ?_;generalize hlow:(65536:Int)=low;refine loop_rule hm (α:=Nat×Nat) (λa env S'=>1<=a.1/\a.1<=4/\a.2<128*64 ^ (a.1-1)/\env=E_one s k 4 low a.2 a.1/\S'=St.init/\contV (4-1) r bits=contV (4-a.1) (r.drop (a.1-1)) a.2) (λa=>4-a.1) ?_ (a:=(1,bits)) ⟨nR _,by simp only;omega,by simp only[Nat.sub_self,Nat.pow_zero];omega,rfl,rfl,rfl⟩;rintro⟨i,acc⟩ env S' ⟨h1,hi,hacc,rfl,rfl,hp⟩;simp only at h1 hi hacc hp;refine goW ?_;have hpow:64 ^ (i-1)<=64 ^ 3:=Nat.pow_le_pow_right (by decide) (by omega);have hsmall:acc<33554432:=by
   have:128*64 ^ (i-1)<=128*64 ^ 3:=Nat.mul_le_mul_left _ hpow;have e:128*64 ^ 3=33554432:=by decide
   omega
  by_cases hc:(i:Int)<4
  ·rw[dT hc];refine goW ?_;obtain⟨hik,hgb⟩:=hgr i h1 (by omega);rw[show 4-i=(4-(i+1))+1 by omega,contV_step hik]at hp;rw[show wr .i64 ((k:Int)+i)=((k+i:Nat):Int) by rw[wr64 (by omega) (by omega)];rfl];refine step_ruleO (sx_ixS (k:=k+i) rfl rfl hgb) (goW ?_);rw[wrU8];generalize r[i-1]=x at hp hgb ⊢;have hx:=u8_lt x;by_cases hx1:(x.toNat:Int)<128
   ·rw[dT hx1];refine goW ?_;rw[if_neg (by omega)]at hp;exact⟨_,rfl,zero (by rw[hf,hp])⟩
   rw[dF hx1];refine goW ?_;by_cases hx2:(x.toNat:Int) ≥ 192
   ·rw[dT hx2];refine goW ?_;rw[if_neg (by omega)]at hp;exact⟨_,rfl,zero (by rw[hf,hp])⟩
   rw[dF hx2];refine goW ?_;rw[if_pos ⟨by omega,by omega⟩]at hp;refine⟨(i+1,acc*64+(x.toNat-128)),⟨by simp only;omega,by simp only;omega,?_,?_,rfl,?_⟩,by simp only;omega⟩
   ·simp only;rw[show i+1-1=(i-1)+1 by omega,Nat.pow_succ];omega
   ·rw[wrNat (by omega),wr64 (n:=(acc:Int)*64) (by omega) (by omega),wr64 (n:=(acc:Int)*64+x.toNat) (by omega) (by omega),wr64 (n:=(acc:Int)*64+x.toNat-128) (by omega) (by omega),show (acc:Int)*64+x.toNat-128=((acc*64+(x.toNat-128):Nat):Int) by omega]
   ·simp only;rw[hp,show i+1-1=i-1+1 by omega]
  rw[dF hc];obtain rfl:i=4:=by omega
  rw[Nat.sub_self,show contV 0 (r.drop (4-1)) acc=some acc from rfl]at hp;simp only[hp]at hf;refine goW ?_;by_cases hle:(acc:Int)<low
  ·rw[dT hle];refine goW ?_;exact⟨_,rfl,zero (by rw[hf,if_pos (.inl (by omega))])⟩
  rw[dF hle];refine goW ?_;refine call_pf hm (by rfl) (hch acc) (goW ?_);cases hcb:charB acc with
  | false =>
   refine goW ?_;exact⟨_,rfl,zero (by rw[hf,if_pos (.inr hcb)])⟩
  | true =>
   refine goW ?_;refine⟨_,rfl,?_⟩;rw[hf,if_neg (by rw[hcb];simp;omega)];exact Ret.sta ⟨trivial,trivial,trivial⟩
 rw[dF h4];refine goW ?_;have hz:leadB b.toNat=(0,0,0):=by unfold leadB;simp only[show ¬b.toNat<128 by omega,show ¬b.toNat<192 by omega,show ¬b.toNat<224 by omega,show ¬b.toNat<240 by omega,show ¬b.toNat<248 by omega,if_false]
 exact⟨_,rfl,zero (by rw[hf,if_pos (.inl (by rw[hz]))])⟩
end

theorem sx_lkpS {gt:GT}{d:Option Nat}{env:Env}{S:St}{R:List Rs}{m k:DOpd}{z:AV}{id:Nat}{l:List (List UInt8×Int)}{s:List UInt8}(hR:Hs S R)(i:Nat)(hi:R[i]? = some (.mp id (mpE l)))(hm:opd env m=some (.map id))(hk:opd env k=some (.str s)) :
  stepO gt d env S (.lkp .str z m k false)=.done (putV d (match posS s l 0 with | some p=>.int .i64 p.2 | none=>z) env) S:=by
 have hl:=(hR.ok i _ hi).2;simp only[stepO,hm,hk,keyV,cond_true,hl,fk];cases posS s l 0<;>rfl
def putS (s:List UInt8)(v:Int)(l:List (List UInt8×Int)):List (List UInt8×Int) :=
 match posS s l 0 with
 | some p=>l.set p.1 (s,v)
 | none=>l++[(s,v)]
theorem r_mupS {gt:GT}{d:Option Nat}{env:Env}{S:St}{R:List Rs}{m k x:DOpd}{id:Nat}{l:List (List UInt8×Int)}{s:List UInt8}{v:Int}(hR:Hs S R)(i:Nat)(hi:R[i]? = some (.mp id (mpE l)))(hm:opd env m=some (.map id))(hk:opd env k=some (.str s))(hx:opd env x=some (.int .i64 v)) :
  ∃S',stepO gt d env S (.mup .str m k x)=.done (putV d .undef env) S'/\Hs S' (R.set i (.mp id (mpE (putS s v l)))):=by
 have hl:=(hR.ok i _ hi).2;refine⟨_,?_,hR.mapTo hi (mpE (putS s v l))⟩;simp only[stepO,hm,hk,hx,keyV,cond_true,hl,fk,putS];cases hp:posS s l 0 with
 | none=>simp only[Option.map_none];simp[mpE]
 | some p =>
  obtain⟨j,w⟩:=p;obtain⟨_,h2,h3⟩:=posS_lt hp;rw[Nat.sub_zero]at h3;have:keyAt .str (mpE l) j=true:=by simp[keyAt,mpE,h3,keyV]
  simp only[Option.map_some,this,cond_true];simp[mpE,List.map_set]
def ones (l:List (List UInt8)):List (List UInt8×Int):=l.map λs=>(s,1)
theorem posS_ones {s:List UInt8}{l:List (List UInt8)}(h:s∈l):∃j,posS s (ones l) 0=some (j,1):=by
 cases hp:posS s (ones l) 0 with
 | none =>
  have:=posS_none.1 hp;simp[ones]at this;exact absurd h this
 | some p =>
  obtain⟨j,v⟩:=p;obtain⟨_,_,h3⟩:=posS_lt hp;simp only[ones,List.getElem?_map,Option.map_eq_some_iff,Prod.mk.injEq]at h3;obtain⟨_,_,_,rfl⟩:=h3;exact⟨j,rfl⟩
theorem posS_no {s:List UInt8}{l:List (List UInt8)}(h:s ∉ l):posS s (ones l) 0=none:=posS_none.2 (by simp[ones];exact h)
section
variable {gt:GT}{C:CallT}
end

section
variable {gt:GT}{C:CallT}
end

mutual
def PT.dp:PT->Nat
 |.mk _ _ _ kids=>PT.dps kids+1
def PT.dps:List PT->Nat
 | []=>0
 | t::r=>max (PT.dp t) (PT.dps r)
end
section
variable {gt:GT}{C:CallT}
end

section
variable {gt:GT}{C:CallT}
end

theorem u8_beqN (b c:UInt8):Nat.beq b.toNat c.toNat=(b == c):=by
 rw[Bool.eq_iff_iff,Nat.beq_eq,beq_iff_eq,UInt8.toNat_inj]
theorem cutC_idx (c:UInt8):∀(s:List UInt8) (i:Nat),(idxB c s i=-1/\cutC c s=(s,[],false))\/∃j:Nat,j<s.length/\idxB c s i=((i+j:Nat):Int)/\cutC c s=(s.take j,s.drop (j+1),true)
 | [],i=>.inl ⟨rfl,rfl⟩
 | b::r,i=>by
  by_cases h:(b == c)=true
  ·right
   refine⟨0,by simp,?_,?_⟩
   ·simp only[idxB,u8_beqN,h,cond_true,Nat.add_zero]
   ·simp only[cutC,h,if_true,List.take_zero,Nat.zero_add,List.drop_succ_cons,List.drop_zero]
  ·have h':(b == c)=false:=by simpa using h
   rcases cutC_idx c r (i+1) with⟨h1,h2⟩ | ⟨j,hj,h1,h2⟩
   ·left
    refine⟨by simp only[idxB,u8_beqN,h',cond_false];exact h1,?_⟩;simp only[cutC,h',h2,Bool.false_eq_true,if_false]
   ·right
    refine⟨j+1,by simp only[lC];omega,?_,?_⟩
    ·simp only[idxB,u8_beqN,h',cond_false,h1];omega
    ·simp only[cutC,h',h2,Bool.false_eq_true,if_false,List.take_succ_cons,List.drop_succ_cons]
section
variable {gt:GT}{C:CallT}
set_option maxHeartbeats 2000000 in
theorem idxByte_wp {s:List UInt8}{c:UInt8}:wpF gt C F213 [.str s,.int .u8 c.toNat] St.init (Ret (.int .i64 (idxB c s 0))):=by
 refine⟨rfl,?_⟩;refine goW ?_;refine⟨_,rfl,?_⟩;rw[Int.toNat_natCast,UInt8.ofNat_toNat];exact Ret.sta trivial
set_option maxHeartbeats 2000000 in
theorem idx1_wp (hm:MonoC C)(hb:∀(s:List UInt8) (c:UInt8),PF C 213 [.str s,.int .u8 c.toNat] (.int .i64 (idxB c s 0))){s:List UInt8}:wpF gt C F198 [.str s,.str [84]] St.init (Ret (.int .i64 (idxB 84 s 0))):=by
 refine⟨rfl,?_⟩;refine goW ?_;by_cases h:([84]:List UInt8)=s
 ·rw[beqB_true h];subst h;refine goW ?_;exact⟨_,rfl,Ret.sta (u:=.int .i64 0) trivial⟩
 ·rw[beqB_false h];refine goW ?_;refine call_pf hm (by rfl) (hb s 84) (goW ?_);exact⟨_,rfl,Ret.sta trivial⟩
set_option maxHeartbeats 2000000 in
theorem cutL_wp (hm:MonoC C)(hi:∀s:List UInt8,PF C 198 [.str s,.str [84]] (.int .i64 (idxB 84 s 0))){s:List UInt8}(hl:s.length<4611686018427387904) :
  wpF gt C F171 [.str s,.str [84]] St.init (Ret (.tup [.str (cutC 84 s).1,.str (cutC 84 s).2.1,.bool (cutC 84 s).2.2])):=by
 have hi:=hi s;have hc:=cutC_idx 84 s 0;refine⟨rfl,?_⟩;refine goW ?_;refine call_pf hm (by rfl) hi ?_;rcases hc with⟨h1,h2⟩ | ⟨j,hj,h1,h2⟩
 ·rw[h1,h2];refine goW ?_;exact⟨_,rfl,Ret.sta ⟨trivial,trivial,trivial,trivial⟩⟩
 ·rw[h1,h2,Nat.zero_add];refine goW ?_;rw[dT (show (j:Int) ≥ 0 by omega)];refine goW ?_;refine step_ruleDO rfl rfl (sx_slHiS (h:=j) rfl rfl (by omega)) (goW ?_);rw[show wr .i64 ((j:Int)+(([84]:List UInt8).length:Int))=((j+1:Nat):Int) from wrNat (by omega)];refine step_ruleDO rfl rfl (sx_slLo (l:=j+1) rfl rfl (by omega)) (goW ?_);exact⟨_,rfl,Ret.sta ⟨trivial,trivial,trivial,trivial⟩⟩
set_option maxHeartbeats 2000000 in
theorem cutS_wp (hm:MonoC C){s:List UInt8}(h:PF C 171 [.str s,.str [84]] (.tup [.str (cutC 84 s).1,.str (cutC 84 s).2.1,.bool (cutC 84 s).2.2])) :
  wpF gt C F137 [.str s,.str [84]] St.init (Ret (.tup [.str (cutC 84 s).1,.str (cutC 84 s).2.1,.bool (cutC 84 s).2.2])):=by
 generalize cutC 84 s=q at h ⊢;obtain⟨a,b,c⟩:=q;refine⟨rfl,?_⟩;refine goW ?_;refine call_pf hm (by rfl) h (goW ?_);exact⟨_,rfl,Ret.sta ⟨trivial,trivial,trivial,trivial⟩⟩
end
end Go.Dn

namespace Go.Proofs.YthgidapmofcloaaGreatDoor
open Go.Shelf
def Tryz.lays161_ren:Go.Shelf.Ren:=⟨λ| 161=>162 | 231=>188 | 227=>189 | 233=>190 | 235=>191 | 228=>208 | 197=>209 | 151=>210 | 260=>225 | 152=>226 | 137=>238 | 119=>239 | 224=>215 | 225=>214 | 217=>213 | 266=>232 | n=>n,λ| 9=>9 | 4=>4 | 3=>3 | 5=>5 | 117=>219 | 116=>218 | 0=>0 | 124=>222 | 105=>225 | 21=>21 | 119=>250 | 46=>165 | 139=>253 | 138=>252 | n=>n,λ| 3=>4 | 4=>5 | n=>n⟩
theorem Tryz.lays161:Go.Proofs.Lays.n161 Tryz.prog Tryz.lays161_ren where
 mixed:=by kernel_rfl
 f119:=Tryz.func239.trans (congrArg some (by kernel_rfl))
 f137:=Tryz.func238.trans (congrArg some (by kernel_rfl))
 f151:=Tryz.func210.trans (congrArg some (by kernel_rfl))
 f152:=Tryz.func226.trans (congrArg some (by kernel_rfl))
 f161:=Tryz.func162.trans (congrArg some (by kernel_rfl))
 f197:=Tryz.func209.trans (congrArg some (by kernel_rfl))
 f217:=Tryz.func213.trans (congrArg some (by kernel_rfl))
 f224:=Tryz.func215.trans (congrArg some (by kernel_rfl))
 f225:=Tryz.func214.trans (congrArg some (by kernel_rfl))
 f227:=Tryz.func189.trans (congrArg some (by kernel_rfl))
 f228:=Tryz.func208.trans (congrArg some (by kernel_rfl))
 f231:=Tryz.func188.trans (congrArg some (by kernel_rfl))
 f233:=Tryz.func190.trans (congrArg some (by kernel_rfl))
 f235:=Tryz.func191.trans (congrArg some (by kernel_rfl))
 f260:=Tryz.func225.trans (congrArg some (by kernel_rfl))
 f266:=Tryz.func232.trans (congrArg some (by kernel_rfl))
 t0:=Tryz.underlying0
 a0:=Tryz.isAgg0
 z0:=Tryz.sizeOf0
 v0:=Tryz.zeroValue0
 t3:=Tryz.underlying3
 a3:=Tryz.isAgg3
 z3:=Tryz.sizeOf3
 v3:=Tryz.zeroValue3
 t4:=Tryz.underlying4
 a4:=Tryz.isAgg4
 z4:=Tryz.sizeOf4
 v4:=Tryz.zeroValue4
 t5:=Tryz.underlying5
 a5:=Tryz.isAgg5
 z5:=Tryz.sizeOf5
 v5:=Tryz.zeroValue5
 t9:=Tryz.underlying9
 a9:=Tryz.isAgg9
 z9:=Tryz.sizeOf9
 v9:=Tryz.zeroValue9
 t21:=Tryz.underlying21
 a21:=Tryz.isAgg21
 z21:=Tryz.sizeOf21
 v21:=Tryz.zeroValue21
 t46:=Tryz.underlying165
 a46:=Tryz.isAgg165
 z46:=Tryz.sizeOf165
 v46:=Tryz.zeroValue165
 t105:=Tryz.underlying225
 a105:=Tryz.isAgg225
 z105:=Tryz.sizeOf225
 v105:=Tryz.zeroValue225
 t116:=Tryz.underlying218
 a116:=Tryz.isAgg218
 z116:=Tryz.sizeOf218
 t117:=Tryz.underlying219
 a117:=Tryz.isAgg219
 z117:=Tryz.sizeOf219
 v117:=Tryz.zeroValue219
 t119:=Tryz.underlying250
 a119:=Tryz.isAgg250
 z119:=Tryz.sizeOf250
 t124:=Tryz.underlying222
 a124:=Tryz.isAgg222
 z124:=Tryz.sizeOf222
 v124:=Tryz.zeroValue222
 t138:=Tryz.underlying252
 a138:=Tryz.isAgg252
 z138:=Tryz.sizeOf252
 v138:=Tryz.zeroValue252
 t139:=Tryz.underlying253
 a139:=Tryz.isAgg253
 z139:=Tryz.sizeOf253
 v139:=Tryz.zeroValue253
 g3:=by kernel_rfl
 g4:=by kernel_rfl
def Tryz.lays162_ren:Go.Shelf.Ren:=⟨λ| 162=>163 | 232=>192 | 227=>189 | 234=>193 | 236=>194 | 228=>208 | 271=>211 | 151=>210 | 120=>227 | 197=>209 | 152=>226 | 260=>225 | 137=>238 | 119=>239 | 224=>215 | 225=>214 | 217=>213 | 266=>232 | n=>n,λ| 9=>9 | 4=>4 | 3=>3 | 5=>5 | 117=>219 | 116=>218 | 0=>0 | 124=>222 | 21=>21 | 105=>225 | 46=>165 | 119=>250 | 139=>253 | 138=>252 | n=>n,λ| 3=>4 | 4=>5 | n=>n⟩
theorem Tryz.lays162:Go.Proofs.Lays.n162 Tryz.prog Tryz.lays162_ren where
 mixed:=by kernel_rfl
 f119:=Tryz.func239.trans (congrArg some (by kernel_rfl))
 f120:=Tryz.func227.trans (congrArg some (by kernel_rfl))
 f137:=Tryz.func238.trans (congrArg some (by kernel_rfl))
 f151:=Tryz.func210.trans (congrArg some (by kernel_rfl))
 f152:=Tryz.func226.trans (congrArg some (by kernel_rfl))
 f162:=Tryz.func163.trans (congrArg some (by kernel_rfl))
 f197:=Tryz.func209.trans (congrArg some (by kernel_rfl))
 f217:=Tryz.func213.trans (congrArg some (by kernel_rfl))
 f224:=Tryz.func215.trans (congrArg some (by kernel_rfl))
 f225:=Tryz.func214.trans (congrArg some (by kernel_rfl))
 f227:=Tryz.func189.trans (congrArg some (by kernel_rfl))
 f228:=Tryz.func208.trans (congrArg some (by kernel_rfl))
 f232:=Tryz.func192.trans (congrArg some (by kernel_rfl))
 f234:=Tryz.func193.trans (congrArg some (by kernel_rfl))
 f236:=Tryz.func194.trans (congrArg some (by kernel_rfl))
 f260:=Tryz.func225.trans (congrArg some (by kernel_rfl))
 f266:=Tryz.func232.trans (congrArg some (by kernel_rfl))
 f271:=Tryz.func211.trans (congrArg some (by kernel_rfl))
 t0:=Tryz.underlying0
 a0:=Tryz.isAgg0
 z0:=Tryz.sizeOf0
 v0:=Tryz.zeroValue0
 t3:=Tryz.underlying3
 a3:=Tryz.isAgg3
 z3:=Tryz.sizeOf3
 v3:=Tryz.zeroValue3
 t4:=Tryz.underlying4
 a4:=Tryz.isAgg4
 z4:=Tryz.sizeOf4
 v4:=Tryz.zeroValue4
 t5:=Tryz.underlying5
 a5:=Tryz.isAgg5
 z5:=Tryz.sizeOf5
 v5:=Tryz.zeroValue5
 t9:=Tryz.underlying9
 a9:=Tryz.isAgg9
 z9:=Tryz.sizeOf9
 v9:=Tryz.zeroValue9
 t21:=Tryz.underlying21
 a21:=Tryz.isAgg21
 z21:=Tryz.sizeOf21
 v21:=Tryz.zeroValue21
 t46:=Tryz.underlying165
 a46:=Tryz.isAgg165
 z46:=Tryz.sizeOf165
 v46:=Tryz.zeroValue165
 t105:=Tryz.underlying225
 a105:=Tryz.isAgg225
 z105:=Tryz.sizeOf225
 v105:=Tryz.zeroValue225
 t116:=Tryz.underlying218
 a116:=Tryz.isAgg218
 z116:=Tryz.sizeOf218
 t117:=Tryz.underlying219
 a117:=Tryz.isAgg219
 z117:=Tryz.sizeOf219
 v117:=Tryz.zeroValue219
 t119:=Tryz.underlying250
 a119:=Tryz.isAgg250
 z119:=Tryz.sizeOf250
 t124:=Tryz.underlying222
 a124:=Tryz.isAgg222
 z124:=Tryz.sizeOf222
 v124:=Tryz.zeroValue222
 t138:=Tryz.underlying252
 a138:=Tryz.isAgg252
 z138:=Tryz.sizeOf252
 v138:=Tryz.zeroValue252
 t139:=Tryz.underlying253
 a139:=Tryz.isAgg253
 z139:=Tryz.sizeOf253
 v139:=Tryz.zeroValue253
 g3:=by kernel_rfl
 g4:=by kernel_rfl
def Tryz.lays160_ren:Go.Shelf.Ren:=⟨λ| 160=>169 | 232=>192 | 231=>188 | 227=>189 | 234=>193 | 233=>190 | 236=>194 | 235=>191 | 228=>208 | 271=>211 | 151=>210 | 197=>209 | 120=>227 | 152=>226 | 260=>225 | 137=>238 | 119=>239 | 224=>215 | 225=>214 | 217=>213 | 266=>232 | n=>n,λ| 9=>9 | 4=>4 | 3=>3 | 5=>5 | 117=>219 | 116=>218 | 0=>0 | 124=>222 | 21=>21 | 105=>225 | 46=>165 | 119=>250 | 139=>253 | 138=>252 | n=>n,λ| 3=>4 | 4=>5 | n=>n⟩
theorem Tryz.lays160:Go.Proofs.Lays.n160 Tryz.prog Tryz.lays160_ren where
 mixed:=by kernel_rfl
 f119:=Tryz.func239.trans (congrArg some (by kernel_rfl))
 f120:=Tryz.func227.trans (congrArg some (by kernel_rfl))
 f137:=Tryz.func238.trans (congrArg some (by kernel_rfl))
 f151:=Tryz.func210.trans (congrArg some (by kernel_rfl))
 f152:=Tryz.func226.trans (congrArg some (by kernel_rfl))
 f160:=Tryz.func169.trans (congrArg some (by kernel_rfl))
 f197:=Tryz.func209.trans (congrArg some (by kernel_rfl))
 f217:=Tryz.func213.trans (congrArg some (by kernel_rfl))
 f224:=Tryz.func215.trans (congrArg some (by kernel_rfl))
 f225:=Tryz.func214.trans (congrArg some (by kernel_rfl))
 f227:=Tryz.func189.trans (congrArg some (by kernel_rfl))
 f228:=Tryz.func208.trans (congrArg some (by kernel_rfl))
 f231:=Tryz.func188.trans (congrArg some (by kernel_rfl))
 f232:=Tryz.func192.trans (congrArg some (by kernel_rfl))
 f233:=Tryz.func190.trans (congrArg some (by kernel_rfl))
 f234:=Tryz.func193.trans (congrArg some (by kernel_rfl))
 f235:=Tryz.func191.trans (congrArg some (by kernel_rfl))
 f236:=Tryz.func194.trans (congrArg some (by kernel_rfl))
 f260:=Tryz.func225.trans (congrArg some (by kernel_rfl))
 f266:=Tryz.func232.trans (congrArg some (by kernel_rfl))
 f271:=Tryz.func211.trans (congrArg some (by kernel_rfl))
 t0:=Tryz.underlying0
 a0:=Tryz.isAgg0
 z0:=Tryz.sizeOf0
 v0:=Tryz.zeroValue0
 t3:=Tryz.underlying3
 a3:=Tryz.isAgg3
 z3:=Tryz.sizeOf3
 v3:=Tryz.zeroValue3
 t4:=Tryz.underlying4
 a4:=Tryz.isAgg4
 z4:=Tryz.sizeOf4
 v4:=Tryz.zeroValue4
 t5:=Tryz.underlying5
 a5:=Tryz.isAgg5
 z5:=Tryz.sizeOf5
 v5:=Tryz.zeroValue5
 t9:=Tryz.underlying9
 a9:=Tryz.isAgg9
 z9:=Tryz.sizeOf9
 v9:=Tryz.zeroValue9
 t21:=Tryz.underlying21
 a21:=Tryz.isAgg21
 z21:=Tryz.sizeOf21
 v21:=Tryz.zeroValue21
 t46:=Tryz.underlying165
 a46:=Tryz.isAgg165
 z46:=Tryz.sizeOf165
 v46:=Tryz.zeroValue165
 t105:=Tryz.underlying225
 a105:=Tryz.isAgg225
 z105:=Tryz.sizeOf225
 v105:=Tryz.zeroValue225
 t116:=Tryz.underlying218
 a116:=Tryz.isAgg218
 z116:=Tryz.sizeOf218
 t117:=Tryz.underlying219
 a117:=Tryz.isAgg219
 z117:=Tryz.sizeOf219
 v117:=Tryz.zeroValue219
 t119:=Tryz.underlying250
 a119:=Tryz.isAgg250
 z119:=Tryz.sizeOf250
 t124:=Tryz.underlying222
 a124:=Tryz.isAgg222
 z124:=Tryz.sizeOf222
 v124:=Tryz.zeroValue222
 t138:=Tryz.underlying252
 a138:=Tryz.isAgg252
 z138:=Tryz.sizeOf252
 v138:=Tryz.zeroValue252
 t139:=Tryz.underlying253
 a139:=Tryz.isAgg253
 z139:=Tryz.sizeOf253
 v139:=Tryz.zeroValue253
 g3:=by kernel_rfl
 g4:=by kernel_rfl
def Tryz.lays172_ren:Go.Shelf.Ren:=⟨λ| 172=>187 | 244=>206 | 245=>207 | 247=>220 | 279=>221 | 280=>222 | 281=>223 | 282=>224 | 287=>235 | 316=>236 | 171=>165 | 205=>237 | 321=>245 | 322=>246 | 243=>196 | 246=>212 | 283=>228 | 284=>229 | 285=>230 | 286=>231 | 129=>241 | 317=>240 | 318=>242 | 319=>243 | 320=>244 | 337=>247 | 338=>248 | n=>n,λ| 9=>9 | 3=>3 | 75=>32 | 76=>160 | 4=>4 | 5=>5 | 167=>230 | 37=>71 | 0=>0 | 85=>231 | 2=>2 | 168=>233 | 53=>212 | 175=>245 | 46=>165 | 210=>248 | 127=>116 | 145=>261 | 143=>259 | 21=>21 | 171=>237 | 173=>240 | 212=>256 | 51=>242 | 20=>20 | 213=>257 | 232=>263 | 233=>264 | 80=>81 | n=>n,λ| 15=>2 | 16=>3 | 17=>6 | 18=>7 | 19=>8 | n=>n⟩
theorem Tryz.lays172:Go.Proofs.Lays.n172 Tryz.prog Tryz.lays172_ren where
 mixed:=by kernel_rfl
 f129:=Tryz.func241.trans (congrArg some (by kernel_rfl))
 f171:=Tryz.func165.trans (congrArg some (by kernel_rfl))
 f172:=Tryz.func187.trans (congrArg some (by kernel_rfl))
 f205:=Tryz.func237.trans (congrArg some (by kernel_rfl))
 f243:=Tryz.func196.trans (congrArg some (by kernel_rfl))
 f244:=Tryz.func206.trans (congrArg some (by kernel_rfl))
 f245:=Tryz.func207.trans (congrArg some (by kernel_rfl))
 f246:=Tryz.func212.trans (congrArg some (by kernel_rfl))
 f247:=Tryz.func220.trans (congrArg some (by kernel_rfl))
 f279:=Tryz.func221.trans (congrArg some (by kernel_rfl))
 f280:=Tryz.func222.trans (congrArg some (by kernel_rfl))
 f281:=Tryz.func223.trans (congrArg some (by kernel_rfl))
 f282:=Tryz.func224.trans (congrArg some (by kernel_rfl))
 f283:=Tryz.func228.trans (congrArg some (by kernel_rfl))
 f284:=Tryz.func229.trans (congrArg some (by kernel_rfl))
 f285:=Tryz.func230.trans (congrArg some (by kernel_rfl))
 f286:=Tryz.func231.trans (congrArg some (by kernel_rfl))
 f287:=Tryz.func235.trans (congrArg some (by kernel_rfl))
 f316:=Tryz.func236.trans (congrArg some (by kernel_rfl))
 f317:=Tryz.func240.trans (congrArg some (by kernel_rfl))
 f318:=Tryz.func242.trans (congrArg some (by kernel_rfl))
 f319:=Tryz.func243.trans (congrArg some (by kernel_rfl))
 f320:=Tryz.func244.trans (congrArg some (by kernel_rfl))
 f321:=Tryz.func245.trans (congrArg some (by kernel_rfl))
 f322:=Tryz.func246.trans (congrArg some (by kernel_rfl))
 f337:=Tryz.func247.trans (congrArg some (by kernel_rfl))
 f338:=Tryz.func248.trans (congrArg some (by kernel_rfl))
 t0:=Tryz.underlying0
 a0:=Tryz.isAgg0
 z0:=Tryz.sizeOf0
 v0:=Tryz.zeroValue0
 t2:=Tryz.underlying2
 a2:=Tryz.isAgg2
 z2:=Tryz.sizeOf2
 v2:=Tryz.zeroValue2
 t3:=Tryz.underlying3
 a3:=Tryz.isAgg3
 z3:=Tryz.sizeOf3
 v3:=Tryz.zeroValue3
 t4:=Tryz.underlying4
 a4:=Tryz.isAgg4
 z4:=Tryz.sizeOf4
 v4:=Tryz.zeroValue4
 t5:=Tryz.underlying5
 a5:=Tryz.isAgg5
 z5:=Tryz.sizeOf5
 v5:=Tryz.zeroValue5
 t9:=Tryz.underlying9
 a9:=Tryz.isAgg9
 z9:=Tryz.sizeOf9
 v9:=Tryz.zeroValue9
 t20:=Tryz.underlying20
 a20:=Tryz.isAgg20
 z20:=Tryz.sizeOf20
 v20:=Tryz.zeroValue20
 t21:=Tryz.underlying21
 a21:=Tryz.isAgg21
 z21:=Tryz.sizeOf21
 v21:=Tryz.zeroValue21
 t37:=Tryz.underlying71
 a37:=Tryz.isAgg71
 z37:=Tryz.sizeOf71
 v37:=Tryz.zeroValue71
 t46:=Tryz.underlying165
 a46:=Tryz.isAgg165
 z46:=Tryz.sizeOf165
 v46:=Tryz.zeroValue165
 t51:=Tryz.underlying242
 a51:=Tryz.isAgg242
 z51:=Tryz.sizeOf242
 v51:=Tryz.zeroValue242
 t53:=Tryz.underlying212
 a53:=Tryz.isAgg212
 z53:=Tryz.sizeOf212
 v53:=Tryz.zeroValue212
 t75:=Tryz.underlying32
 a75:=Tryz.isAgg32
 z75:=Tryz.sizeOf32
 v75:=Tryz.zeroValue32
 t76:=Tryz.underlying160
 a76:=Tryz.isAgg160
 z76:=Tryz.sizeOf160
 v76:=Tryz.zeroValue160
 t85:=Tryz.underlying231
 a85:=Tryz.isAgg231
 z85:=Tryz.sizeOf231
 v85:=Tryz.zeroValue231
 t127:=Tryz.underlying116
 a127:=Tryz.isAgg116
 z127:=Tryz.sizeOf116
 v127:=Tryz.zeroValue116
 t143:=Tryz.underlying259
 a143:=Tryz.isAgg259
 z143:=Tryz.sizeOf259
 v143:=Tryz.zeroValue259
 t145:=Tryz.underlying261
 a145:=Tryz.isAgg261
 z145:=Tryz.sizeOf261
 v145:=Tryz.zeroValue261
 t167:=Tryz.underlying230
 a167:=Tryz.isAgg230
 z167:=Tryz.sizeOf230
 v167:=Tryz.zeroValue230
 t168:=Tryz.underlying233
 a168:=Tryz.isAgg233
 z168:=Tryz.sizeOf233
 v168:=Tryz.zeroValue233
 t171:=Tryz.underlying237
 a171:=Tryz.isAgg237
 z171:=Tryz.sizeOf237
 v171:=Tryz.zeroValue237
 t173:=Tryz.underlying240
 a173:=Tryz.isAgg240
 z173:=Tryz.sizeOf240
 v173:=Tryz.zeroValue240
 t175:=Tryz.underlying245
 a175:=Tryz.isAgg245
 z175:=Tryz.sizeOf245
 v175:=Tryz.zeroValue245
 t210:=Tryz.underlying248
 a210:=Tryz.isAgg248
 z210:=Tryz.sizeOf248
 v210:=Tryz.zeroValue248
 t212:=Tryz.underlying256
 a212:=Tryz.isAgg256
 z212:=Tryz.sizeOf256
 v212:=Tryz.zeroValue256
 t213:=Tryz.underlying257
 a213:=Tryz.isAgg257
 z213:=Tryz.sizeOf257
 t232:=Tryz.underlying263
 a232:=Tryz.isAgg263
 z232:=Tryz.sizeOf263
 v232:=Tryz.zeroValue263
 t233:=Tryz.underlying264
 a233:=Tryz.isAgg264
 z233:=Tryz.sizeOf264
 v233:=Tryz.zeroValue264
 g15:=by kernel_rfl
 g16:=by kernel_rfl
 g17:=by kernel_rfl
 g18:=by kernel_rfl
 g19:=by kernel_rfl
def Tryz.lays171M_ren:Go.Shelf.Ren:=⟨λ| 171=>165 | 243=>196 | 246=>212 | 283=>228 | 284=>229 | 285=>230 | 286=>231 | 129=>241 | 317=>240 | 318=>242 | 319=>243 | 320=>244 | 337=>247 | 338=>248 | n=>n,λ| 3=>3 | 9=>9 | 2=>2 | 4=>4 | 171=>237 | 0=>0 | 53=>212 | 37=>71 | 5=>5 | 173=>240 | 212=>256 | 51=>242 | 20=>20 | 213=>257 | 46=>165 | 232=>263 | 233=>264 | n=>n,λ| 17=>6 | 18=>7 | 19=>8 | n=>n⟩
theorem Tryz.lays171M:Go.Proofs.LaysM.n171 Tryz.prog Tryz.lays171M_ren where
 mixed:=by kernel_rfl
 f129:=Tryz.func241.trans (congrArg some (by kernel_rfl))
 f171:=Tryz.func165.trans (congrArg some (by kernel_rfl))
 f243:=Tryz.func196.trans (congrArg some (by kernel_rfl))
 f246:=Tryz.func212.trans (congrArg some (by kernel_rfl))
 f283:=Tryz.func228.trans (congrArg some (by kernel_rfl))
 f284:=Tryz.func229.trans (congrArg some (by kernel_rfl))
 f285:=Tryz.func230.trans (congrArg some (by kernel_rfl))
 f286:=Tryz.func231.trans (congrArg some (by kernel_rfl))
 f317:=Tryz.func240.trans (congrArg some (by kernel_rfl))
 f318:=Tryz.func242.trans (congrArg some (by kernel_rfl))
 f319:=Tryz.func243.trans (congrArg some (by kernel_rfl))
 f320:=Tryz.func244.trans (congrArg some (by kernel_rfl))
 f337:=Tryz.func247.trans (congrArg some (by kernel_rfl))
 f338:=Tryz.func248.trans (congrArg some (by kernel_rfl))
 t0:=Tryz.underlying0
 a0:=Tryz.isAgg0
 z0:=Tryz.sizeOf0
 v0:=Tryz.zeroValue0
 t2:=Tryz.underlying2
 a2:=Tryz.isAgg2
 z2:=Tryz.sizeOf2
 v2:=Tryz.zeroValue2
 t3:=Tryz.underlying3
 a3:=Tryz.isAgg3
 z3:=Tryz.sizeOf3
 v3:=Tryz.zeroValue3
 t4:=Tryz.underlying4
 a4:=Tryz.isAgg4
 z4:=Tryz.sizeOf4
 v4:=Tryz.zeroValue4
 t5:=Tryz.underlying5
 a5:=Tryz.isAgg5
 z5:=Tryz.sizeOf5
 v5:=Tryz.zeroValue5
 t9:=Tryz.underlying9
 a9:=Tryz.isAgg9
 z9:=Tryz.sizeOf9
 v9:=Tryz.zeroValue9
 t20:=Tryz.underlying20
 a20:=Tryz.isAgg20
 z20:=Tryz.sizeOf20
 v20:=Tryz.zeroValue20
 t37:=Tryz.underlying71
 a37:=Tryz.isAgg71
 z37:=Tryz.sizeOf71
 v37:=Tryz.zeroValue71
 t46:=Tryz.underlying165
 a46:=Tryz.isAgg165
 z46:=Tryz.sizeOf165
 v46:=Tryz.zeroValue165
 t51:=Tryz.underlying242
 a51:=Tryz.isAgg242
 z51:=Tryz.sizeOf242
 v51:=Tryz.zeroValue242
 t53:=Tryz.underlying212
 a53:=Tryz.isAgg212
 z53:=Tryz.sizeOf212
 v53:=Tryz.zeroValue212
 t171:=Tryz.underlying237
 a171:=Tryz.isAgg237
 z171:=Tryz.sizeOf237
 v171:=Tryz.zeroValue237
 t173:=Tryz.underlying240
 a173:=Tryz.isAgg240
 z173:=Tryz.sizeOf240
 v173:=Tryz.zeroValue240
 t212:=Tryz.underlying256
 a212:=Tryz.isAgg256
 z212:=Tryz.sizeOf256
 v212:=Tryz.zeroValue256
 t213:=Tryz.underlying257
 a213:=Tryz.isAgg257
 z213:=Tryz.sizeOf257
 t232:=Tryz.underlying263
 a232:=Tryz.isAgg263
 z232:=Tryz.sizeOf263
 v232:=Tryz.zeroValue263
 t233:=Tryz.underlying264
 a233:=Tryz.isAgg264
 z233:=Tryz.sizeOf264
 v233:=Tryz.zeroValue264
 g17:=by kernel_rfl
 g18:=by kernel_rfl
 g19:=by kernel_rfl
 i0:=by kernel_rfl
 i2:=by kernel_rfl
 i3:=by kernel_rfl
 i4:=by kernel_rfl
 i5:=by kernel_rfl
 i9:=by kernel_rfl
 i20:=by kernel_rfl
 i37:=by kernel_rfl
 i46:=by kernel_rfl
 i51:=by kernel_rfl
 i53:=by kernel_rfl
 i171:=by kernel_rfl
 i173:=by kernel_rfl
 i212:=by kernel_rfl
 i232:=by kernel_rfl
 i233:=by kernel_rfl
 m17:=by kernel_rfl
 m18:=by kernel_rfl
 m19:=by kernel_rfl
end Go.Proofs.YthgidapmofcloaaGreatDoor
