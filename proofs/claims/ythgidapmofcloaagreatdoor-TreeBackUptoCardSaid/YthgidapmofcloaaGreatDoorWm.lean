/- Steps as pure data; lists of them: Same, Roomy, Intact. The entry, with the bulk of what is read; slices as pure data. The entry of laws about trees: what is read, as trees; that they are right where little is read. The entry of laws about steps. Trees: a copy whose lists are one's own, and may be written. Trees: the part to which a path leads, and the tree with it replaced: what they are; the program's Get and Set. A list of values that is made for one append. A slice of data that stays, from a place on, reads as one from its beginning. Trees: a tree with a part replaced: the program's set and Set. Trees: the part to which a path leads, and the tree with it replaced: the reference's answers. The law TreeGets, walked. Texts of characters: by the program and by the reference. Numbers: what a text begins with; its digits; a literal's pieces. Numbers: a literal's pieces, by the program. Numbers: the exponent; a literal's parts. Numbers: a number's normal form. Times: two digits; the days of a month. Times: dates. Times: times of a day. Times: the zone; a time. What a text ends with. Maps from texts to numbers, as lists of pairs. Texts of characters: First, Bad, Valid of the program; Char, One, Runes, Valid of the reference. Keys: valid, and no two the same. Trees that are right, however great. Trees that are right, however great: the program's answer. Trees: how deep and how great; whether they are right: the program's answers. Trees: how deep they are, and whether they are right: the program's answers. strings.Cut at one byte, walked. What the shelf's contracts ask of the program: its bodies are theirs. Printed by a program. A function of the library, by a contract of the shelf: pure data in, pure data out. The code is the program's,printed by a program (Gen). errors.As and errors.Is at the targets that 'refused' hands them ('**text.Refusal', 'api.Errno'), walked after the worked proofs of toyas and sentry; then as contracts over the abstract store. -/
import Derived.Test.YthgidapmofcloaaGreatDoorProg
import Derived.Shelf.Strings.SlTrimAscii
import Derived.Shelf.Strconv.Atoi
import Derived.Shelf.Strconv.Itoa3
import Derived.Below
import Derived.WalkKit
import Derived.LaidEql
import Derived.Stop.Asserts
import Derived.RowKitTokens
import Derived.Test.YthgidapmofcloaaGreatDoorWl
set_option linter.unusedSimpArgs false
set_option linter.unusedVariables false
set_option maxHeartbeats 64000000
namespace Go.Dn
open Go Go.Proofs.C1
set_option maxRecDepth 100000
attribute [local irreducible] afterS keepE
section
variable {gt:GT}{C:CallT}
end
end Go.Dn

namespace Go.Dn
open Go Go.RowKit
mutual
def bulkA:AV->Nat
 |.str s=>s.length+1
 |.sl _ _ xs=>bulkAs xs+1
 |.agg cs=>bulkAs cs+1
 | _=>1
def bulkAs:List AV->Nat
 | []=>0
 | x::r=>bulkA x+bulkAs r
end
theorem bulkAs_app (a b:List AV):bulkAs (a++b)=bulkAs a+bulkAs b:=by
 induction a with
 | nil=>simp[bulkAs]
 | cons x r ih=>simp only[List.cons_append,bulkAs,ih];omega
structure IsUb {H:Type}(ub:DataW H->Nat)(ubAll:List (DataW H)->Nat):Prop where
 lit:∀l,1<=ub (.lit l)
 str:∀s,s.length+1<=ub (.lit (.string s))
 nil:1<=ub .nil
 slice:∀a b,ub (.slice a b)=ubAll a+ubAll b+1
 agg:∀a,ub (.agg a)=ubAll a+1
 none:ubAll []=0
 cons:∀d r,ubAll (d::r)=ub d+ubAll r
def sb (P:Program)(t:TypeId):Nat:=match P.underlying t with
 | some (.struct _)=>1
 | _=>0
def AVB (P:Program):Nat->TypeId->List AV->Prop
 | 0,_,_=>False
 | d+1,t,xs=>match P.underlying t with
  | some .bool=>∃b,xs=[.bool b]
  | some (.int k)=>∃n,xs=[.int k n]/\(Lit.int k n).wf=true
  | some .string=>∃s,xs=[.str s]/\s.length<=maxLen
  | some (.slice e)=>∃ys,xs=[.sl (P.cellsOf e) stat ys]/\∀y∈ys,AVB P d e y.cells/\(isAggP P e=some true->∃cs,y=.agg cs)/\(isAggP P e=some false->y.cells=[y])
  | some (.struct fs)=>xs.length=P.cellsOf t/\∀f∈fs.toList,AVB P d f.type ((xs.drop f.offset).take (P.cellsOf f.type))
  | _=>False
section
variable {P:Program}{W:World}{H:Type}{enc:TypeId×Value->H}
theorem elem_avb {g:Bool}{e:TypeId}{d:Nat}(hg:isAggP P e=some g){cs:List Value}{xs:List AV}(hr:Rl St.init (G0 W) W xs cs)(ht:AVB P d e xs) :
  ∃y v,y.cells=xs/\v.cells.toList=cs/\Rv St.init (G0 W) W y v/\(g=true->∃zs,y=.agg zs)/\(g=false->y.cells=[y]):=by
 cases g with
 | true=>exact⟨.agg xs,.agg ⟨cs⟩,rfl,rfl,by simp only[Rv];exact⟨_,rfl,hr⟩,λ_=>⟨_,rfl⟩,λh=>by cases h⟩
 | false =>
  have hone:∃x,xs=[x]/\x.cells=[x]/\∀zs,x≠.agg zs:=by
   cases d with
   | zero=>exact ht.elim
   | succ d =>
    unfold AVB at ht;unfold isAggP at hg;split at ht
    ·obtain⟨b,rfl⟩:=ht;exact⟨_,rfl,rfl,λzs h=>by cases h⟩
    ·obtain⟨n,rfl,_⟩:=ht;exact⟨_,rfl,rfl,λzs h=>by cases h⟩
    ·obtain⟨s,rfl,_⟩:=ht;exact⟨_,rfl,rfl,λzs h=>by cases h⟩
    ·obtain⟨ys,rfl,_⟩:=ht;exact⟨_,rfl,rfl,λzs h=>by cases h⟩
    ·rename_i fs hu;rw[hu]at hg;cases hg
    ·exact ht.elim
  obtain⟨x,rfl,hx,hna⟩:=hone;simp only[Rl]at hr;obtain⟨v,r,rfl,hv,rfl⟩:=hr;refine⟨x,v,hx,?_,hv,(λh=>by cases h),λ_=>hx⟩;rw[Value.cells_of_not_agg (hv.not_agg hna)]
theorem fields_avb {ub:DataW H->Nat}{ubAll:List (DataW H)->Nat}(hub:IsUb ub ubAll){d:Nat}:∀(fs:List Field) (ds:List (DataW H)) (n m:Nat) (cs:List Value),fieldsAt P fs n=some m->cs.length=m->ds.length=fs.length ->
  (∀(i:Nat) (f:Field),fs[i]? = some f->∃(dd:DataW H) (xs:List AV),ds[i]? = some dd/\Rl St.init (G0 W) W xs ((cs.drop f.offset).take (P.cellsOf f.type))/\AVB P d f.type xs/\bulkAs xs<=ub dd) ->
  n<=m/\(∀f∈fs,n<=f.offset)/\∃xs,Rl St.init (G0 W) W xs (cs.drop n)/\(∀f∈fs,AVB P d f.type ((xs.drop (f.offset-n)).take (P.cellsOf f.type)))/\bulkAs xs<=ubAll ds
 | [],ds,n,m,cs,h,hl,_,_=>by
  simp only[fieldsAt,oI]at h;subst h;refine⟨nR _,λf hf=>(by cases hf),[],?_,λf hf=>(by cases hf),by simp[bulkAs]⟩;rw[List.drop_of_length_le (by omega)];exact Rl.nil
 | f::r,[],n,m,cs,h,hl,hd,hf=>by simp at hd
 | f::r,d0::ds,n,m,cs,h,hl,hd,hf=>by
  simp only[fieldsAt]at h;split at h
  ·rename_i ho;obtain⟨h1,h2,xr,h3,h4,h5⟩:=fields_avb hub r ds _ m cs h hl (by simpa using hd) λi g hg=>by simpa using hf (i+1) g (by simpa using hg)
   obtain⟨dd,xf,e0,g1,g2,g3⟩:=hf 0 f rfl;simp only[List.getElem?_cons_zero,oI]at e0;subst e0;rw[ho]at g1;have hxf:xf.length=P.cellsOf f.type:=by
    have:=g1.length;rw[lT,lD]at this;omega
   refine⟨by omega,λg hg=>?_,xf++xr,?_,λg hg=>?_,by rw[bulkAs_app,hub.cons];omega⟩
   ·rcases List.mem_cons.1 hg with rfl | hg
    ·omega
    ·have:=h2 g hg;omega
   ·have:=g1.append h3
    rwa [<-List.drop_drop,tkD]at this
   ·rcases List.mem_cons.1 hg with rfl | hg
    ·rw[ho,Nat.sub_self,List.drop_zero,List.take_append_of_le_length (by omega),List.take_of_length_le (by omega)];exact g2
    ·have hgo:=h2 g hg;have:=h4 g hg;rw[List.drop_append,List.drop_of_length_le (by omega),List.nil_append,hxf,show g.offset-n-P.cellsOf f.type=g.offset-(n+P.cellsOf f.type) by omega];exact this
  ·cases h
theorem trod_avb {ub:DataW H->Nat}{ubAll:List (DataW H)->Nat}(hub:IsUb ub ubAll){L:List TypeId}(hL:okTypes P L=true):∀(fuel:Nat) (t:TypeId) (cs:List Value) (x:DataW H×List MemPlace),t∈L->DataW.trod enc P W 0 (λ_=>true) true fuel t cs=some x ->
  ∃xs,Rl St.init (G0 W) W xs cs/\AVB P fuel t xs/\bulkAs xs+sb P t<=ub x.1
 | 0,_,_,_,_,h=>by simp[DataW.trod]at h
 | fuel+1,t,cs,x,ht,h=>by
  have hok:=List.all_eq_true.1 hL t ht;unfold okType at hok;unfold AVB;have hsb:∀{td},P.underlying t=some td->sb P t=match td with |.struct _=>1 | _=>0:=λ{td} h=>by unfold sb;rw[h];cases td<;>rfl
  cases hu:P.underlying t with
  | none=>rw[hu]at hok;cases hok
  | some td =>
  rw[hu]at hok;cases td<;>simp only[Bool.false_eq_true]at hok
  case bool =>
   obtain⟨b,rfl,rfl⟩:=DataW.trod_bool hu h;exact⟨[.bool b],Rl.cons (by simp only[Rv]) Rl.nil,⟨b,rfl⟩,by rw[hsb hu];have:=hub.lit (.bool b);simp only[bulkAs,bulkA];omega⟩
  case int k =>
   obtain⟨n,rfl,rfl,hwf⟩:=DataW.trod_int hu h;exact⟨[.int k n],Rl.cons (by simp only[Rv]) Rl.nil,⟨n,rfl,hwf⟩,by rw[hsb hu];have:=hub.lit (.int k n);simp only[bulkAs,bulkA];omega⟩
  case string =>
   obtain⟨s,rfl,rfl,hs⟩:=DataW.trod_string hu h;exact⟨[.str s.data.toList],Rl.cons (by simp only[Rv]) Rl.nil,⟨_,rfl,by simpa using hs⟩,by rw[hsb hu];have:=hub.str s.data.toList;simp only[bulkAs,bulkA];omega⟩
  case slice e =>
   simp only[bA]at hok;have heL:=any_mem hok.1;have hc0:=blt_lt hok.2;rcases DataW.trod_slice hu h with⟨rfl,rfl⟩ | ⟨a,len,cap,elems,rest,n,hn,rfl,hx,_,hl,hm,hlen,hel,hsp,_⟩
   ·refine⟨[.sl (P.cellsOf e) stat []],Rl.cons ?_ Rl.nil,⟨[],rfl,λy hy=>by cases hy⟩,by rw[hsb hu];have:=hub.nil;simp only[bulkAs,bulkA];omega⟩;simp only[Rv];exact⟨none,0,0,rfl,⟨rfl,nR _,by simp[stat],(λc hc=>by cases hc),(λ_=>rfl),(λp hp=>by cases hp)⟩,(λ_ p hp=>by cases hp)⟩
   ·cases hn;obtain⟨hrl,hrest⟩:=hsp rfl;subst hx;have cellsAt:∀i,i<cap->∃cs' y,W.cells? 0 (a.add (i*P.cellsOf e)) (P.cellsOf e)=some cs'/\DataW.trod enc P W 0 (λ_=>true) true fuel e cs'=some y:=λi hi=>by
     have:∃y,(W.cells? 0 (a.add (i*P.cellsOf e)) (P.cellsOf e)).bind (DataW.trod enc P W 0 (λ_=>true) true fuel e)=some y:=by
      by_cases h':i<len
      ·exact⟨_,(hel i h').trans (gE (by omega))⟩
      ·have:=hrest (i-len) (by omega);rw[show len+(i-len)=i by omega]at this;exact⟨_,this.trans (gE (by omega))⟩
     obtain⟨y,hy⟩:=this;obtain⟨cs',e1,e2⟩:=Option.bind_eq_some_iff.1 hy;exact⟨cs',y,e1,e2⟩
    have hge:∃g,isAggP P e=some g:=by
     have:=List.all_eq_true.1 hL e heL;unfold okType at this;unfold isAggP;split at this<;>first | (cases this;done) | skip
     all_goals rename_i hh;rw[hh];exact⟨_,rfl⟩
    obtain⟨g,hg⟩:=hge;have hspot:0<cap->a.spot=none:=λhc=>by
     obtain⟨cs',y,e1,_⟩:=cellsAt 0 hc;obtain⟨l1,l2⟩:=cells_get e1;have:=l2 0 hc0;rw[Nat.zero_mul]at this;have ha:(a.add 0).add 0=a:=by simp[Addr.add]
     rw[ha]at this;cases hs:a.spot with
     | none=>rfl
     | some s =>
      exfalso;have h0:cs'[0]? = some cs'[0]:=gE (by omega);rw[h0]at this;unfold World.cell? at this;split at this
      ·simp[hs]at this
      ·cases this
    have cellAt:∀i,i<cap->∃cs',cs'.length=P.cellsOf e/\(∀j,j<P.cellsOf e->W.cell? ⟨a.block,a.off+i*P.cellsOf e+j,none⟩=cs'[j]?)/\∃y,DataW.trod enc P W 0 (λ_=>true) true fuel e cs'=some y:=λi hi=>by
     obtain⟨cs',y,e1,e2⟩:=cellsAt i hi;obtain⟨l1,l2⟩:=cells_get e1;refine⟨cs',l1,λj hj=>?_,y,e2⟩;rw[<-l2 j hj];have hs:=hspot (by omega);obtain⟨ab,ao,asp⟩:=a;simp only at hs;subst hs;rw[add_none,add_none]
    obtain⟨ys,hy1,hy2⟩:=seq_ex (n:=len) (R:=λi y=>(∃d,elems[i]? = some d/\bulkA y<=ub d.1)/\AVB P fuel e y.cells/\((isAggP P e=some true->∃zs,y=.agg zs)/\(isAggP P e=some false->y.cells=[y]))/\∃v,Rv St.init (G0 W) W y v/\v.cells.size=P.cellsOf e/\∀j,j<P.cellsOf e->W.cell? ⟨a.block,a.off+i*P.cellsOf e+j,none⟩=v.cells[j]?) λi hi=>by
     have hq:=(hel i hi).trans (gE (by omega));obtain⟨cs0,e1,e2⟩:=Option.bind_eq_some_iff.1 hq;obtain⟨cs',l1,l2,_⟩:=cellAt i (by omega);have hcs:cs'=cs0:=by
      obtain⟨m1,m2⟩:=cells_get e1;apply List.ext_getElem?
      intro j;by_cases hj:j<P.cellsOf e
      ·rw[<-l2 j hj,<-m2 j hj];have hs:=hspot (by omega);obtain⟨ab,ao,asp⟩:=a;simp only at hs;subst hs;rw[add_none,add_none]
      ·rw[List.getElem?_eq_none (by omega),List.getElem?_eq_none (by omega)]
     subst hcs;obtain⟨xs,r1,r2,r3⟩:=trod_avb hub hL fuel e cs' _ heL e2;obtain⟨z,v,z1,z2,z3,z4,z5⟩:=elem_avb hg r1 r2;refine⟨z,⟨_,gE (by omega),?_⟩,by rw[z1];exact r2,⟨λh'=>z4 (by rw[hg]at h';cases h';rfl),λh'=>z5 (by rw[hg]at h';cases h';rfl)⟩,v,z3,?_,λj hj=>?_⟩
     ·cases g with
      | true =>
       obtain⟨zs,rfl⟩:=z4 rfl;have hs1:sb P e=1:=by
        unfold isAggP at hg;unfold sb;split at hg<;>first | (cases hg;done) | skip
        all_goals (rename_i hh;rw[hh])
        all_goals (have hqq:=List.all_eq_true.1 hL e heL;unfold okType at hqq;rw[hh]at hqq;cases hqq)
       rw[<-z1]at r3;simp only[AV.cells]at r3;simp only[bulkA];omega
      | false =>
       have:=z5 rfl;rw[z1]at this;rw[this]at r3;simp only[bulkAs]at r3;omega
     ·rw[<-l1,<-z2];simp
     ·rw[l2 j hj,<-z2];simp
    refine⟨[.sl (P.cellsOf e) stat ys],Rl.cons ?_ Rl.nil,⟨ys,rfl,λy hy=>?_⟩,?_⟩
    ·simp only[Rv];refine⟨some a,len,cap,rfl,⟨hy1.symm,hl,by simp[stat],(λc hc=>by cases hc),(λhc=>by cases hc),λp hp hc=>?_⟩,λ_ p hp=>?_⟩
     ·cases hp;obtain⟨cs',l1,l2,_⟩:=cellAt (cap-1) (by omega);have hlast:=l2 (P.cellsOf e-1) (by omega);rw[gE (by omega)]at hlast;unfold World.cell? at hlast;split at hlast
      ·rename_i c ty fr hb;simp only[Option.isSome_none,Bool.false_eq_true,if_false]at hlast;have hlt:=(Array.getElem?_eq_some_iff.1 hlast).1;refine⟨hc0,hspot hc,⟨ty,c.size,by simp[World.shape?,hb],?_⟩,?_⟩
       ·have:cap*P.cellsOf e=(cap-1)*P.cellsOf e+P.cellsOf e:=by
         rw[<-Nat.succ_mul];congr 1;omega
        omega
       ·rw[rd_none rfl];exact(Array.getElem?_eq_some_iff.1 hb).1
      ·cases hlast
     ·cases hp;exact Rat_of_get λi y hy=>(hy2 i y hy).2.2.2
    ·obtain⟨i,hi⟩:=List.getElem?_of_mem hy;exact⟨(hy2 i y hi).2.1,(hy2 i y hi).2.2.1⟩
    ·have hle:bulkAs ys<=ubAll (elems.map (·.1)):=by
      have key:∀(ys:List AV) (ds:List (DataW H×List MemPlace)),ys.length=ds.length->(∀(i:Nat) (y:AV),ys[i]? = some y->∃d:DataW H×List MemPlace,ds[i]? = some d/\bulkA y<=ub d.1)->bulkAs ys<=ubAll (ds.map (·.1)):=by
       intro ys
       induction ys with
       | nil=>intro ds _ _;simp[bulkAs]
       | cons y r ih =>
        intro ds hl hh;cases ds with
        | nil=>simp at hl
        | cons d q =>
         obtain⟨d',e1,e2⟩:=hh 0 y rfl;simp only[List.getElem?_cons_zero,oI]at e1;subst e1;have:=ih q (by simpa using hl) λi z hz=>by simpa using hh (i+1) z (by simpa using hz)
         simp only[bulkAs,List.map_cons,hub.cons];omega
      exact key ys elems (by rw[hy1,hlen]) λi y hy=>(hy2 i y hy).1
     rw[hsb hu];simp only[bulkAs,bulkA,hub.slice];omega
  case struct fs =>
   simp only[bA,decide_eq_true_eq]at hok;obtain⟨xs,n,hn,hx,hlen,hxl,hfs⟩:=DataW.trod_struct hu h;cases hn;subst hx;obtain⟨_,_,zs,z1,z2,z3⟩:=fields_avb (P:=P) (W:=W) (d:=fuel) hub fs.toList (xs.map (·.1)) 0 _ cs hok.2 hlen (by simp[hxl]) λi f hi=>by
    have hi':fs[i]? = some f:=by simpa using hi
    have:=hfs i f hi';have hlt:i<xs.length:=by
     rw[hxl];exact(Array.getElem?_eq_some_iff.1 hi').1
    rw[gE hlt]at this;have hmem:f∈fs.toList:=List.mem_of_getElem? hi;obtain⟨ys,r1,r2,r3⟩:=trod_avb hub hL fuel f.type _ _ (any_mem (List.all_eq_true.1 hok.1 f hmem)) this;exact⟨xs[i].1,ys,by simp[hlt],r1,r2,by omega⟩
   rw[List.drop_zero]at z1;refine⟨zs,z1,⟨by rw[<-hlen,z1.length],z2⟩,?_⟩;rw[hsb hu];simp only[hub.agg];omega
end
end Go.Dn

namespace Go.Proofs.YthgidapmofcloaaGreatDoor
open Go.Dn
theorem c_int:Tryz.prog.cellsOf 3=1:=by kernel_rfl
theorem c_str:Tryz.prog.cellsOf 9=1:=by kernel_rfl
theorem c_strs:Tryz.prog.cellsOf 22=1:=by kernel_rfl
theorem c_trees:Tryz.prog.cellsOf 23=1:=by kernel_rfl
theorem c_tree:Tryz.prog.cellsOf 25=4:=by kernel_rfl
theorem a_str:isAggP Tryz.prog 9=some false:=by kernel_rfl
theorem a_tree:isAggP Tryz.prog 25=some true:=by kernel_rfl
theorem u_int:Tryz.prog.underlying 3=some (.int .i64):=by kernel_rfl
theorem u_str:Tryz.prog.underlying 9=some .string:=by kernel_rfl
theorem u_strs:Tryz.prog.underlying 22=some (.slice 9):=by kernel_rfl
theorem u_trees:Tryz.prog.underlying 23=some (.slice 25):=by kernel_rfl
theorem av_int {d:Nat}{x:AV}(h:AVB Tryz.prog d 3 [x]):∃n,x=.int .i64 n:=by
 cases d with
 | zero=>exact h.elim
 | succ d =>
  unfold AVB at h;rw[u_int]at h;obtain⟨n,e,_⟩:=h;cases e;exact⟨n,rfl⟩
theorem av_str {d:Nat}{x:AV}(h:AVB Tryz.prog d 9 [x]):∃s,x=.str s:=by
 cases d with
 | zero=>exact h.elim
 | succ d =>
  unfold AVB at h;rw[u_str]at h;obtain⟨n,e,_⟩:=h;cases e;exact⟨n,rfl⟩
theorem av_strs {d:Nat}{x:AV}(h:AVB Tryz.prog d 22 [x]):∃l,x=.sl 1 stat (strs l):=by
 cases d with
 | zero=>exact h.elim
 | succ d =>
  unfold AVB at h;rw[u_strs]at h;obtain⟨ys,e,h2⟩:=h;cases e;rw[c_str];have:∃l,ys=strs l:=by
   induction ys with
   | nil=>exact⟨[],rfl⟩
   | cons y r ih =>
    obtain⟨l,hl⟩:=ih λz hz=>h2 z (by simp[hz]);obtain⟨k1,_,k3⟩:=h2 y (by simp);rw[k3 a_str]at k1;obtain⟨s,rfl⟩:=av_str k1;exact⟨s::l,by rw[hl];rfl⟩
  obtain⟨l,rfl⟩:=this;exact⟨l,rfl⟩
theorem list_trees {ys:List AV}(h:∀y∈ys,∃t:PT,y=encT t):∃l,ys=encTs l:=by
 induction ys with
 | nil=>exact⟨[],rfl⟩
 | cons y r ih =>
  obtain⟨l,h1⟩:=ih λz hz=>h z (by simp[hz]);obtain⟨t,h3⟩:=h y (by simp);exact⟨t::l,by rw[h1,h3];rfl⟩
theorem four {α:Type}{l:List α}(h:l.length=4):∃a b c d,l=[a,b,c,d]:=by
 match l,h with
 | [a,b,c,d],_=>exact⟨a,b,c,d,rfl⟩
set_option maxRecDepth 100000 in
theorem av_tree:∀{d:Nat} {xs:List AV},AVB Tryz.prog d 25 xs->∃t:PT,.agg xs=encT t:=by
 intro d
 induction d using Nat.strongRecOn with
 | _ d ih =>
 intro xs h;cases d with
 | zero=>exact h.elim
 | succ d =>
  unfold AVB at h;rw[Tryz.underlying25]at h;obtain⟨hl,h⟩:=h;rw[c_tree]at hl;obtain⟨x0,x1,x2,x3,rfl⟩:=four hl;simp only[List.forall_mem_cons]at h;simp only[c_int,c_str,c_strs,c_trees]at h;obtain⟨f0,f1,f2,f3,_⟩:=h;obtain⟨k,rfl⟩:=av_int f0;obtain⟨s,rfl⟩:=av_str f1;obtain⟨keys,rfl⟩:=av_strs f2;cases d with
  | zero=>exact f3.elim
  | succ d =>
   unfold AVB at f3;rw[u_trees]at f3;obtain⟨ys,e,g2⟩:=f3;cases e;obtain⟨kids,rfl⟩:=list_trees (ys:=ys) λy hy=>by
    obtain⟨k1,k2,_⟩:=g2 y hy;obtain⟨cs,rfl⟩:=k2 a_tree;exact ih d (by omega) k1
   refine⟨.mk k s keys kids,?_⟩;simp only[encT];rw[c_tree]
theorem bulk_strs0 (l:List (List UInt8)):l.length<=bulkAs (strs l):=by
 induction l with
 | nil=>exact Nat.zero_le _
 | cons a r ih =>
  have:strs (a::r)=.str a::strs r:=rfl;rw[this];simp only[bulkAs,bulkA,lC];omega
mutual
theorem bulk_T:∀t:PT,bulkA (encT t)<=1048576->t.ok
 |.mk k s keys kids,h=>by
  simp only[encT,bulkA,bulkAs]at h;have h1:=bulk_strs0 keys;have h2:=bulk_Ts kids (by omega);simp only[PT.ok];exact⟨by omega,by omega,h2.1⟩
theorem bulk_Ts:∀l:List PT,bulkAs (encTs l)<=1048576->PT.oks l/\l.length<=bulkAs (encTs l)
 | [],_=>⟨trivial,Nat.zero_le _⟩
 | t::r,h=>by
  simp only[encTs,bulkAs]at h;have h1:=bulk_T t (by omega);have h2:=bulk_Ts r (by omega);have:1<=bulkA (encT t):=by cases t;simp only[encT,bulkA];omega
  simp only[PT.oks,encTs,bulkAs,lC];exact⟨⟨h1,h2.1⟩,by omega⟩
end
end Go.Proofs.YthgidapmofcloaaGreatDoor

namespace Go.Proofs.YthgidapmofcloaaGreatDoor
open Go.Dn
end Go.Proofs.YthgidapmofcloaaGreatDoor

namespace Go.Dn
open Go Go.Proofs.C1
set_option maxRecDepth 100000
attribute [local irreducible] afterS keepE
theorem st_runP {C:CallT}{gt:GT}{d:Option Nat}{op:DOp}{gd:Option (Nat×Bool)}{env env':Env}{S:St}{P:St->Prop}{K:Env->St->Prop}{Q:Ex->Env->St->Prop}(h:∃S',stepO gt d env S op=.done env' S'/\P S')(hg:Gd env gd)(k:∀S',P S'->K env' S'):afterS C d env S K Q (stepI gt ⟨d,op,gd⟩ env S):=by
 obtain⟨S',h1,h2⟩:=h;exact st_any hg h1 (k S' h2)
section
variable {gt:GT}{C:CallT}
end

def PT.zero:PT:=.mk 0 [] [] []
section
variable {gt:GT}{C:CallT}
end
end Go.Dn

namespace Go.Dn
open Go Go.RowKit
theorem Hs.bldT {S:St}{R:List Rs}(h:Hs S R)(ty:TypeId)(n:Nat):Hs { S with nt:=S.nt+1,tip:=(S.nt,some (n,ty,false))::S.tip } R /\
  ∀(agg:Bool) (es:Nat) (xs:List AV),srcE { S with nt:=S.nt+1,tip:=(S.nt,some (n,ty,false))::S.tip } agg es (.sl es ⟨some (S.nt,S.nt),0,some n,false⟩ xs)=some xs:=by
 have hw:=h.wf S.nt (nR _);refine⟨?_,λagg es xs=>?_⟩
 ·have:=h.more (S':={ S with nt:=S.nt+1,tip:=(S.nt,some (n,ty,false))::S.tip }) (r':=.gr ty ⟨none,0,some 0,true⟩ []) (λt ht=>h.wf t (by simp only at ht;omega)) ⟨Nat.le_succ _,nR _,nR _,λt ht _=>⟨lk_ne _ _ (by omega),rfl⟩,λ_ _ _=>rfl,λ_ _ _ h=>h,λ_ _ _=>rfl,λ_ _ _=>rfl⟩ (.inl ⟨rfl,rfl,rfl,rfl⟩) λj s _=>by
   cases s<;>simp[RsDj]
  exact this.less id (λi j _ _ e=>e) λi hi=>by rw[id,List.getElem?_append_left hi]
 ·simp only[srcE,Nat.beq_refl,cond_true,elems,rd,hw.1,hw.2]

end Go.Dn

namespace Go.Dn
open Go Go.Proofs.C1
set_option maxRecDepth 100000
attribute [local irreducible] afterS keepE
section
variable {gt:GT}{C:CallT}
end

section
variable {gt:GT}{C:CallT}
end

section
variable {gt:GT}{C:CallT}
def smallB (t:PT):Bool:=decide (size3 t 6000<6000)
theorem small_wp (hm:MonoC C)(hsize:∀(u:PT) m,m<4611686018427387904->PF C 28 [encT u,.int .i64 m] (.int .i64 (size3 u m))){t:PT}:wpF gt C F26 [encT t] St.init (Ret (.bool (smallB t))):=by
 have h:=hsize t 6000 (by omega);unfold smallB;generalize size3 t 6000=z at h ⊢;obtain⟨k,s,keys,kids⟩:=t;refine⟨rfl,?_⟩;refine goW ?_;refine call_pf hm (by rfl) h (goW ?_);exact⟨_,rfl,Ret.sta trivial⟩
end

theorem sx_ixS {gt:GT}{d:Option Nat}{env:Env}{S:St}{x i:DOpd}{s:List UInt8}{k:Nat}{b:UInt8}(hx:opd env x=some (.str s))(hi:(opd env i).bind nat? = some k)(hb:s[k]? = some b) :
  stepO gt d env S (.ixS x i)=.done (putV d (.int .u8 b.toNat) env) S:=by
 simp only[stepO,hx,hi,hb]
theorem sx_slLo {gt:GT}{d:Option Nat}{env:Env}{S:St}{x lo:DOpd}{s:List UInt8}{l:Nat}(hx:opd env x=some (.str s))(hl:(opd env lo).bind nat? = some l)(h:l<=s.length) :
  stepO gt d env S (.slS x (some lo) none)=.done (putV d (.str (s.drop l)) env) S:=by
 have hb:bnds env s.length (some lo) none=some (l,s.length):=by
  simp only[bnds,hl,ble_true h,ble_true (nR _),Bool.and_self,cond_true]
 simp only[stepO,hx,hb];rw[List.take_of_length_le (by simp)]
theorem sx_slHiS {gt:GT}{d:Option Nat}{env:Env}{S:St}{x hi:DOpd}{s:List UInt8}{h:Nat}(hx:opd env x=some (.str s))(hh:(opd env hi).bind nat? = some h)(hl:h<=s.length) :
  stepO gt d env S (.slS x none (some hi))=.done (putV d (.str (s.take h)) env) S:=by
 have hb:bnds env s.length none (some hi)=some (0,h):=by
  simp only[bnds,hh,ble_true (Nat.zero_le h),ble_true hl,Bool.and_self,cond_true]
 simp only[stepO,hx,hb,List.drop_zero,Nat.sub_zero]
theorem sx_slLH {gt:GT}{d:Option Nat}{env:Env}{S:St}{x lo hi:DOpd}{s:List UInt8}{l h:Nat}(hx:opd env x=some (.str s))(hl:(opd env lo).bind nat? = some l)(hh:(opd env hi).bind nat? = some h)(h1:l<=h)(h2:h<=s.length) :
  stepO gt d env S (.slS x (some lo) (some hi))=.done (putV d (.str ((s.drop l).take (h-l))) env) S:=by
 have hb:bnds env s.length (some lo) (some hi)=some (l,h):=by
  simp only[bnds,hl,hh,ble_true h1,ble_true h2,Bool.and_self,cond_true]
 simp only[stepO,hx,hb]
def eqRes (u:AV):Res->St->Bool
 |.ret v,_=>beqA u v
 | _,_=>false
theorem byRun {gt:GT}{C:CallT}(hm:MonoC C){F:DF}{xs:List AV}{u:AV}(hs:Sta u)(h:exF gt (λ_ _ _ _=>false) 1000 F xs St.init (eqRes u)=true):wpF gt C F xs St.init (Ret u):=by
 refine exF_sound (C':=C) (λf xs S k h=>by cases h) hm (λr S h=>?_) h;cases r with
 | ret v =>
  have:=beqA_eq h;subst this;exact Ret.sta hs
 | pan v=>cases h
def leadB (b:Nat):Nat×Nat×Nat :=
 if b<128 then (1,b,0) else if b<192 then (0,0,0) else if b<224 then (2,b-192,128) else if b<240 then (3,b-224,2048) else if b<248 then (4,b-240,65536) else (0,0,0)
def encLead (p:Nat×Nat×Nat):AV:=.tup [.int .i64 p.1,.int .i64 p.2.1,.int .i64 p.2.2]
def contV:Nat->List UInt8->Nat->Option Nat
 | 0,_,acc=>some acc
 | _+1,[],_=>none
 | k+1,x::r,acc=>if 128<=x.toNat/\x.toNat<192 then contV k r (acc*64+(x.toNat-128)) else none
def charB (c:Int):Bool:=decide (0<=c/\c<=1114111/\(c<55296\/57343<c))
def firstC:List UInt8->Nat×Nat
 | []=>(0,0)
 | b::r =>
  if (leadB b.toNat).1=0\/r.length+1<(leadB b.toNat).1 then (0,0) else match contV ((leadB b.toNat).1-1) r (leadB b.toNat).2.1 with
   | none=>(0,0)
   | some c=>if c<(leadB b.toNat).2.2\/charB c=false then (0,0) else (c,(leadB b.toNat).1)
def encFirst (p:Nat×Nat):AV:=.tup [.int .i64 p.1,.int .i64 p.2]
theorem leadB_le (b:Nat)(h:b<256):(leadB b).1<=4/\(leadB b).2.1<128:=by
 unfold leadB;split
 ·exact⟨by show 1<=4;decide,by assumption⟩
 ·split
  ·exact⟨by decide,by decide⟩
  ·split
   ·exact⟨by show 2<=4;decide,by show b-192<128;omega⟩
   ·split
    ·exact⟨by show 3<=4;decide,by show b-224<128;omega⟩
    ·split
     ·exact⟨by show 4<=4;decide,by show b-240<128;omega⟩
     ·exact⟨by decide,by decide⟩
theorem contV_step {k:Nat}{l:List UInt8}{i acc:Nat}(hi:i<l.length):contV (k+1) (l.drop i) acc=if 128<=l[i].toNat/\l[i].toNat<192 then contV k (l.drop (i+1)) (acc*64+(l[i].toNat-128)) else none:=by
 rw[dC hi];rfl
theorem u8_lt (x:UInt8):x.toNat<256:=UInt8.toNat_lt x
theorem or_add {a b:Nat}(hb:b<64)(ha:a*64+b<18446744073709551616):(BitVec.ofInt 64 ((a*64:Nat):Int) ||| BitVec.ofInt 64 (b:Int)).toNat=a*64+b:=by
 rw[BitVec.ofInt_natCast,BitVec.ofInt_natCast,BitVec.toNat_or,BitVec.toNat_ofNat,BitVec.toNat_ofNat,Nat.mod_eq_of_lt (show a*64<2 ^ 64 by omega),Nat.mod_eq_of_lt (show b<2 ^ 64 by omega)];have:=Nat.shiftLeft_add_eq_or_of_lt (i:=6) (b:=b) (by omega) a;rw[Nat.shiftLeft_eq]at this;exact this.symm
theorem and63 (x:UInt8)(h1:128<=x.toNat)(h2:x.toNat<192):(BitVec.ofInt 8 (x.toNat:Int) &&& BitVec.ofInt 8 63).toNat=x.toNat-128:=by
 rw[show (63:Int)=((63:Nat):Int) from rfl,BitVec.ofInt_natCast,BitVec.ofInt_natCast,BitVec.toNat_and,BitVec.toNat_ofNat,BitVec.toNat_ofNat,Nat.mod_eq_of_lt (show x.toNat<2 ^ 8 by omega),show (63:Nat) % 2 ^ 8=2 ^ 6-1 by decide,Nat.and_two_pow_sub_one_eq_mod];omega
theorem shr6 (x:UInt8):(((x.toNat:Int).fdiv (2 ^ 6)) != 2) = !decide (128<=x.toNat/\x.toNat<192):=by
 have hx:=u8_lt x;rw[show ((2:Int) ^ 6)=64 by decide,Int.fdiv_eq_ediv_of_nonneg _ (by decide)];by_cases h:128<=x.toNat/\x.toNat<192
 ·rw[dT h,show ((x.toNat:Int) / 64)=2 by omega];rfl
 ·rw[dF h];have:¬((x.toNat:Int) / 64)=2:=by omega
  simp[this]
section
variable {gt:GT}{C:CallT}
theorem row_gt (gt:GT):(List.range 256).all (λb=>exF gt (λ_ _ _ _=>false) 1000 F172 [.int .u8 b] St.init (eqRes (encLead (leadB b))))=true:=by kernel_rfl
theorem row_wp (hm:MonoC C)(b:UInt8):wpF gt C F172 [.int .u8 b.toNat] St.init (Ret (encLead (leadB b.toNat))) :=
 byRun hm ⟨trivial,trivial,trivial,trivial⟩ (List.all_eq_true.1 (row_gt gt) b.toNat (List.mem_range.2 (u8_lt b)))
theorem charB_wp {c:Int}:wpF gt C F173 [.int .i64 c] St.init (Ret (.bool (charB c))):=by
 refine⟨rfl,?_⟩;refine goW ?_;by_cases h0:c ≥ 0
 ·rw[dT h0];refine goW ?_;by_cases h1:c<=1114111
  ·rw[dT h1];refine goW ?_;by_cases h2:c<55296
   ·rw[dT h2];refine goW ?_;exact⟨_,rfl,by rw[show charB c=true by simp[charB];omega];exact Ret.sta trivial⟩
   ·rw[dF h2];refine goW ?_;exact⟨_,rfl,by rw[show charB c=decide (c > 57343) by simp only[charB];congr 1;simp;omega];exact Ret.sta trivial⟩
  ·rw[dF h1];refine goW ?_;exact⟨_,rfl,by rw[show charB c=false by simp[charB];omega];exact Ret.sta trivial⟩
 ·rw[dF h0];refine goW ?_;exact⟨_,rfl,by rw[show charB c=false by simp[charB];omega];exact Ret.sta trivial⟩
end

def hd (c:UInt8):List UInt8->Bool
 | []=>false
 | b::_=>b == c
def dig (b:UInt8):Bool:=decide (48<=b.toNat) && decide (b.toNat<=57)
def runB:List UInt8->Nat
 | []=>0
 | b::r=>if dig b then runB r+1 else 0
theorem runB_le:∀s,runB s<=s.length
 | []=>nR _
 | b::r=>by have:=runB_le r;simp only[runB,lC];split<;>omega
theorem beqB_one (b c:UInt8):beqB [b] [c]=(b == c):=by
 rw[beqB_eq,Bool.eq_iff_iff];simp
section
variable {gt:GT}{C:CallT}
theorem hasPre0_wp {s:List UInt8}{c:UInt8}:wpF gt C F204 [.str s,.str [c]] St.init (Ret (.bool (hd c s))):=by
 refine⟨rfl,?_⟩;cases s with
 | nil =>
  refine goW ?_;exact⟨_,rfl,Ret.sta trivial⟩
 | cons b r =>
  refine goW ?_;rw[dT (show (((b::r).length:Nat):Int) ≥ (([c]:List UInt8).length:Nat) by simp only[lC,lN];omega)];refine goW ?_;refine⟨_,rfl,?_⟩;rw[show (List.take (([c]:List UInt8).length-0) (List.drop 0 (b::r)))=[b] from rfl,beqB_one];exact Ret.sta trivial
theorem hasPre_wp (hm:MonoC C)(h:∀s c,PF C 204 [.str s,.str [c]] (.bool (hd c s))){s:List UInt8}{c:UInt8}:wpF gt C F185 [.str s,.str [c]] St.init (Ret (.bool (hd c s))):=by
 refine⟨rfl,?_⟩;refine goW ?_;refine call_pf hm (by rfl) (h s c) (goW ?_);exact⟨_,rfl,Ret.sta trivial⟩
theorem trimPre0_wp (hm:MonoC C)(h:∀s c,PF C 204 [.str s,.str [c]] (.bool (hd c s))){s:List UInt8}{c:UInt8}:wpF gt C F205 [.str s,.str [c]] St.init (Ret (.str (if hd c s then s.drop 1 else s))):=by
 refine⟨rfl,?_⟩;refine goW ?_;refine call_pf hm (by rfl) (h s c) (goW ?_);cases hh:hd c s with
 | false =>
  refine goW ?_;exact⟨_,rfl,Ret.sta trivial⟩
 | true =>
  refine goW ?_;have hl:1<=s.length:=by
   cases s with
   | nil=>cases hh
   | cons b r=>simp
  refine step_ruleO (sx_slLo (l:=1) rfl rfl hl) (goW ?_);exact⟨_,rfl,Ret.sta trivial⟩
theorem trimPre_wp (hm:MonoC C)(h:∀s c,PF C 205 [.str s,.str [c]] (.str (if hd c s then s.drop 1 else s))){s:List UInt8}{c:UInt8}:wpF gt C F186 [.str s,.str [c]] St.init (Ret (.str (if hd c s then s.drop 1 else s))):=by
 refine⟨rfl,?_⟩;refine goW ?_;refine call_pf hm (by rfl) (h s c) (goW ?_);exact⟨_,rfl,Ret.sta trivial⟩
theorem digit_wp {b:UInt8}:wpF gt C F195 [.int .u8 b.toNat] St.init (Ret (.bool (dig b))):=by
 refine⟨rfl,?_⟩;refine goW ?_;by_cases h:(b.toNat:Int) ≥ 48
 ·rw[dT h];refine goW ?_;refine⟨_,rfl,?_⟩;rw[show dig b=decide ((b.toNat:Int)<=57) by unfold dig;rw[dT (by omega),Bool.true_and];congr 1;simp;omega];exact Ret.sta trivial
 ·rw[dF h];refine goW ?_;refine⟨_,rfl,?_⟩;rw[show dig b=false by unfold dig;rw[dF (by omega),Bool.false_and]];exact Ret.sta trivial
abbrev E_run (s:List UInt8)(i:Int):Env:=[(0,.val (.str s)),(3,.val (.int .i64 i))]
theorem run_wp (hm:MonoC C)(hd:∀b:UInt8,PF C 195 [.int .u8 b.toNat] (.bool (dig b))){s:List UInt8}(hl:s.length<9223372036854775807):wpF gt C F164 [.str s] St.init (Ret (.int .i64 (runB s))):=by
 refine⟨rfl,?_⟩;refine goW ?_;refine loop_rule hm (α:=Nat) (λi env S'=>i<=s.length/\env=E_run s i/\S'=St.init/\runB s=i+runB (s.drop i)) (λi=>s.length-i) ?_ (a:=0) ⟨Nat.zero_le _,rfl,rfl,by simp⟩;rintro i env S' ⟨hi,rfl,rfl,hp⟩;refine goW ?_;by_cases hc:(i:Int)<(s.length:Nat)
 ·rw[dT hc];refine goW ?_;have hik:i<s.length:=by omega
  refine st_any (by exact rfl) (sx_ixS (k:=i) rfl rfl (gE hik)) (goW ?_);refine call_pf hm (by rfl) (hd s[i]) (goW ?_);rw[dC hik]at hp;simp only[runB]at hp;cases hdg:dig s[i] with
  | false =>
   refine goW ?_;refine⟨_,rfl,?_⟩;rw[hdg]at hp;rw[hp];exact Ret.sta trivial
  | true =>
   refine goW ?_;rw[hdg,if_pos rfl]at hp;refine⟨i+1,⟨by omega,?_,rfl,by rw[hp];omega⟩,by omega⟩;rw[wrNat (by omega)]
 ·rw[dF hc];refine goW ?_;refine⟨_,rfl,?_⟩;rw[hp,List.drop_eq_nil_of_le (by omega)];exact Ret.sta trivial
end

abbrev Cut4:=Bool×List UInt8×List UInt8×List UInt8
def expD (ex:List UInt8):List UInt8:=if hd 45 ex then ex.drop 1 else if hd 43 ex then ex.drop 1 else ex
def cutE (neg:Bool)(w p s:List UInt8):Option Cut4 :=
 if s=[] then some (neg,w,p,[])
 else if hd 101 s=false/\hd 69 s=false then none
 else if expD (s.drop 1)=[]\/runB (expD (s.drop 1))<(expD (s.drop 1)).length then none else some (neg,w,p,s.drop 1)
def cutP (neg:Bool)(s:List UInt8):Option Cut4 :=
 if runB s=0\/(1<runB s/\hd 48 s=true) then none
 else if hd 46 (s.drop (runB s)) then
  (if runB ((s.drop (runB s)).drop 1)=0 then none
   else cutE neg (s.take (runB s)) (((s.drop (runB s)).drop 1).take (runB ((s.drop (runB s)).drop 1))) ((s.drop (runB s)).drop (1+runB ((s.drop (runB s)).drop 1))))
 else cutE neg (s.take (runB s)) [] (s.drop (runB s))
def cutB (s:List UInt8):Option Cut4:=if hd 45 s then cutP true (s.drop 1) else cutP false s
def encCut:Option Cut4->AV
 | none=>.tup [.bool false,.str [],.str [],.str [],.bool false]
 | some (n,w,p,e)=>.tup [.bool n,.str w,.str p,.str e,.bool true]
theorem sta_cut (o:Option Cut4):Sta (encCut o):=by
 cases o with
 | none=>exact⟨trivial,trivial,trivial,trivial,trivial,trivial⟩
 | some p=>exact⟨trivial,trivial,trivial,trivial,trivial,trivial⟩
theorem hd_head {c:UInt8}{s:List UInt8}{b:UInt8}(h:s[0]? = some b):hd c s=(b == c):=by
 cases s with
 | nil=>cases h
 | cons x r=>simp only[List.getElem?_cons_zero,oI]at h;rw[<-h];rfl
theorem u8_eqI (b c:UInt8):((b.toNat:Int) == (c.toNat:Int))=(b == c):=by
 rw[Bool.eq_iff_iff];simp only[beq_iff_eq];constructor
 ·intro h;exact UInt8.toNat_inj.1 (by omega)
 ·intro h;rw[h]
theorem u8_neI (b c:UInt8):((b.toNat:Int) != (c.toNat:Int)) = !(b == c):=by
 rw[<-u8_eqI];rfl
theorem get0 {s:List UInt8}(h:s≠[]):∃b,s[0]? = some b:=by
 cases s with
 | nil=>exact absurd rfl h
 | cons b r=>exact⟨b,rfl⟩
theorem hd_len {c:UInt8}{s:List UInt8}(h:hd c s=true):1<=s.length:=by
 cases s with
 | nil=>cases h
 | cons b r=>simp
theorem drop1_ne {s:List UInt8}(h:s≠[]):¬s.drop 1=s:=λe=>by
 have:=congrArg List.length e;cases s with
 | nil=>exact h rfl
 | cons b r=>simp at this
def DC.rt:DC->DC |.seq _ b=>b | c=>c
section
variable {gt:GT}{C:CallT}
abbrev E_cut (neg:Bool)(w p s:List UInt8)(x:Env):Env:=(2,.val (.bool neg))::(3,.val (.str w))::(4,.val (.str p))::(7,.val (.str s))::x
theorem cutExp_wp (hm:MonoC C)(htp:∀s c,PF C 186 [.str s,.str [c]] (.str (if hd c s then s.drop 1 else s)))
  (hrun:∀s:List UInt8,s.length<9223372036854775807->PF C 164 [.str s] (.int .i64 (runB s))) {res:Option Cut4} {neg:Bool} {w p s:List UInt8} {x:Env} (hl:s.length<9223372036854775807) (h1:1<=s.length)
  (hf:res=if expD (s.drop 1)=[]\/runB (expD (s.drop 1))<(expD (s.drop 1)).length then none else some (neg,w,p,s.drop 1)) :
  wpD gt C F160.body.rt.rt.rt.rt.rt.rt.rt.rt.rt (E_cut neg w p s x) St.init (bodyQ gt F160.res (Ret (encCut res))):=by
 have ret:∀{o:Option Cut4} {S:St},res=o->Ret (encCut res) (.ret (encCut o)) S:=λh=>by rw[h];exact Ret.sta (sta_cut _)
 conv=>whnf
 refine goW ?_;refine step_ruleO (sx_slLo (l:=1) rfl rfl h1) (goW ?_);have hexl:(s.drop 1).length<=s.length:=by rw[lD];omega
 generalize s.drop 1=ex at hf hexl ⊢;refine call_pf hm (by rfl) (htp ex 45) (goW ?_);cases hm1:hd 45 ex with
 | true =>
  rw[if_pos rfl,beqB_false (drop1_ne (by intro e;rw[e]at hm1;cases hm1))];have hx:expD ex=ex.drop 1:=by unfold expD;rw[hm1];rfl
  have hdl:(ex.drop 1).length<=ex.length:=by rw[lD];omega
  rw[hx]at hf;generalize ex.drop 1=d at hf hdl ⊢;refine goW ?_;by_cases z4:d=[]
  ·rw[beqB_true z4];refine goW ?_;exact⟨_,rfl,ret (o:=none) (by rw[hf,if_pos (.inl z4)])⟩
  rw[beqB_false z4];refine goW ?_;refine call_pf hm (by rfl) (hrun d (by omega)) (goW ?_);by_cases z5:(runB d:Int)<(d.length:Nat)
  ·rw[dT z5];refine goW ?_;exact⟨_,rfl,ret (o:=none) (by rw[hf,if_pos (.inr (by omega))])⟩
  rw[dF z5];refine goW ?_;exact⟨_,rfl,ret (o:=some (neg,w,p,ex)) (by rw[hf,if_neg (by rintro (e | e);exact z4 e;omega)])⟩
 | false =>
  rw[if_neg (by simp),beqB_true rfl];refine goW ?_;refine call_pf hm (by rfl) (htp ex 43) (goW ?_);have hx:expD ex=if hd 43 ex then ex.drop 1 else ex:=by unfold expD;rw[hm1];rfl
  have hdl:(if hd 43 ex then ex.drop 1 else ex).length<=ex.length:=by split<;>first | (rw[lD];omega) | omega
  rw[hx]at hf;generalize (if hd 43 ex then ex.drop 1 else ex)=d at hf hdl ⊢;refine goW ?_;by_cases z4:d=[]
  ·rw[beqB_true z4];refine goW ?_;exact⟨_,rfl,ret (o:=none) (by rw[hf,if_pos (.inl z4)])⟩
  rw[beqB_false z4];refine goW ?_;refine call_pf hm (by rfl) (hrun d (by omega)) (goW ?_);by_cases z5:(runB d:Int)<(d.length:Nat)
  ·rw[dT z5];refine goW ?_;exact⟨_,rfl,ret (o:=none) (by rw[hf,if_pos (.inr (by omega))])⟩
  rw[dF z5];refine goW ?_;exact⟨_,rfl,ret (o:=some (neg,w,p,ex)) (by rw[hf,if_neg (by rintro (e | e);exact z4 e;omega)])⟩
theorem cutTail_wp (hm:MonoC C)(htp:∀s c,PF C 186 [.str s,.str [c]] (.str (if hd c s then s.drop 1 else s)))
  (hrun:∀s:List UInt8,s.length<9223372036854775807->PF C 164 [.str s] (.int .i64 (runB s))) {res:Option Cut4} {neg:Bool} {w p s:List UInt8} {x:Env} (hl:s.length<9223372036854775807)
  (hf:res=cutE neg w p s) :
  wpD gt C F160.body.rt.rt.rt.rt.rt.rt.rt (E_cut neg w p s x) St.init (bodyQ gt F160.res (Ret (encCut res))):=by
 have ret:∀{o:Option Cut4} {S:St},res=o->Ret (encCut res) (.ret (encCut o)) S:=λh=>by rw[h];exact Ret.sta (sta_cut _)
 conv=>whnf
 refine goW ?_;unfold cutE at hf;by_cases z1:s=[]
 ·rw[beqB_true z1];refine goW ?_;exact⟨_,rfl,ret (o:=some (neg,w,p,[])) (by rw[hf,if_pos z1])⟩
 obtain⟨b0,hb0⟩:=get0 z1;rw[beqB_false z1];rw[if_neg z1]at hf;refine goW ?_;refine step_ruleO (sx_ixS (k:=0) rfl rfl hb0) (goW ?_);rw[show ((101:Int))=((101:UInt8).toNat:Int) from rfl,u8_neI,<-hd_head (c:=101) hb0];cases hxe:hd 101 s with
 | true =>
  refine goW ?_
  with_unfolding_all exact cutExp_wp hm htp hrun hl (hd_len hxe) (hf.trans (if_neg (by rw[hxe];simp)))
 | false =>
  refine goW ?_;refine st_any (by exact rfl) (sx_ixS (k:=0) rfl rfl hb0) (goW ?_);rw[show ((69:Int))=((69:UInt8).toNat:Int) from rfl,u8_neI,<-hd_head (c:=69) hb0];cases hxe2:hd 69 s with
  | false =>
   refine goW ?_;exact⟨_,rfl,ret (o:=none) (by rw[hf,if_pos ⟨hxe,hxe2⟩])⟩
  | true =>
   refine goW ?_
   with_unfolding_all exact cutExp_wp hm htp hrun hl (hd_len hxe2) (hf.trans (if_neg (by rw[hxe2];simp)))
abbrev E_cut0 (neg:Bool)(s:List UInt8)(x:Env):Env:=(2,.val (.bool neg))::(4,.val (.str []))::(7,.val (.str s))::x
theorem cutPoint_wp (hm:MonoC C)(hpre:∀s c,PF C 185 [.str s,.str [c]] (.bool (hd c s)))(htp:∀s c,PF C 186 [.str s,.str [c]] (.str (if hd c s then s.drop 1 else s)))
  (hrun:∀s:List UInt8,s.length<9223372036854775807->PF C 164 [.str s] (.int .i64 (runB s))) {res:Option Cut4} {neg:Bool} {s:List UInt8} {x:Env} (hl:s.length<9223372036854775807) (y1:runB s≠0)
  (hf:res=if hd 46 (s.drop (runB s)) then
  (if runB ((s.drop (runB s)).drop 1)=0 then none
   else cutE neg (s.take (runB s)) (((s.drop (runB s)).drop 1).take (runB ((s.drop (runB s)).drop 1))) ((s.drop (runB s)).drop (1+runB ((s.drop (runB s)).drop 1))))
 else cutE neg (s.take (runB s)) [] (s.drop (runB s))) :
  wpD gt C F160.body.rt.rt.rt.rt.rt ((2,.val (.bool neg))::(4,.val (.str []))::(7,.val (.str s))::(8,.val (.int .i64 (runB s)))::x) St.init (bodyQ gt F160.res (Ret (encCut res))):=by
 have ret:∀{o:Option Cut4} {S:St},res=o->Ret (encCut res) (.ret (encCut o)) S:=λh=>by rw[h];exact Ret.sta (sta_cut _)
 have hrl:=runB_le s;generalize runB s=n at hf hrl y1 ⊢
 conv=>whnf
 refine goW ?_;refine step_ruleDO rfl rfl (sx_slHiS (h:=n) rfl rfl hrl) (goW ?_);refine step_ruleDO rfl rfl (sx_slLo (l:=n) rfl rfl hrl) (goW ?_);have hsl:(s.drop n).length<=s.length:=by rw[lD];omega
 generalize s.drop n=s2 at hf hsl ⊢;generalize s.take n=w at hf ⊢;refine call_pf hm (by rfl) (hpre s2 46) (goW ?_);cases hp:hd 46 s2 with
 | false =>
  rw[hp,if_neg (by simp)]at hf;refine goW ?_
  with_unfolding_all exact cutTail_wp (x:=[(36,.val (.bool false))]) hm htp hrun (by omega) hf
 | true =>
  rw[hp,if_pos rfl]at hf;have h1:=hd_len hp;refine goW ?_;refine step_ruleO (sx_slLo (l:=1) rfl rfl h1) (goW ?_);have hrl3:=runB_le (s2.drop 1);rw[lD]at hrl3;refine call_pf hm (by rfl) (hrun (s2.drop 1) (by rw[lD];omega)) (goW ?_);generalize hm3:runB (s2.drop 1)=m at hf hrl3 ⊢;by_cases y4:m=0
  ·rw[eqI_true (by omega)];refine goW ?_;exact⟨_,rfl,ret (o:=none) (by rw[hf,if_pos y4])⟩
  rw[eqI_false (by omega)];rw[if_neg y4]at hf;refine goW ?_;rw[show wr .i64 (1+(m:Int))=((1+m:Nat):Int) by rw[wr64 (by omega) (by omega)];omega];refine step_ruleDO rfl rfl (sx_slLH (l:=1) (h:=1+m) rfl rfl rfl (by omega) (by omega)) (goW ?_);rw[show wr .i64 (1+(m:Int))=((1+m:Nat):Int) by rw[wr64 (by omega) (by omega)];omega];refine step_ruleDO rfl rfl (sx_slLo (l:=1+m) rfl rfl (by omega)) (goW ?_);rw[show 1+m-1=m by omega]
  with_unfolding_all exact cutTail_wp (x:=[]) hm htp hrun (by rw[lD];omega) hf
theorem cutSign_wp (hm:MonoC C)(hpre:∀s c,PF C 185 [.str s,.str [c]] (.bool (hd c s)))(htp:∀s c,PF C 186 [.str s,.str [c]] (.str (if hd c s then s.drop 1 else s)))
  (hrun:∀s:List UInt8,s.length<9223372036854775807->PF C 164 [.str s] (.int .i64 (runB s))) {res:Option Cut4} {neg:Bool} {s:List UInt8} {x:Env} (hl:s.length<9223372036854775807)
  (hf:res=cutP neg s) :
  wpD gt C F160.body.rt.rt.rt (E_cut0 neg s x) St.init (bodyQ gt F160.res (Ret (encCut res))):=by
 have ret:∀{o:Option Cut4} {S:St},res=o->Ret (encCut res) (.ret (encCut o)) S:=λh=>by rw[h];exact Ret.sta (sta_cut _)
 unfold cutP at hf;have hrun0:=hrun s hl
 conv=>whnf
 refine goW ?_;refine call_pf hm (by rfl) hrun0 (goW ?_);by_cases y1:runB s=0
 ·rw[eqI_true (by omega)];refine goW ?_;exact⟨_,rfl,ret (o:=none) (by rw[hf,if_pos (.inl y1)])⟩
 rw[eqI_false (by omega)];refine goW ?_;have hnil:s≠[]:=by intro e;rw[e]at y1;exact y1 rfl
 obtain⟨b1,hb1⟩:=get0 hnil;by_cases y2:(runB s:Int) > 1
 ·rw[dT y2];refine goW ?_;refine st_any (by exact rfl) (sx_ixS (k:=0) rfl rfl hb1) (goW ?_);rw[show ((48:Int))=((48:UInt8).toNat:Int) from rfl,u8_eqI,<-hd_head (c:=48) hb1];cases y3:hd 48 s with
  | true =>
   refine goW ?_;exact⟨_,rfl,ret (o:=none) (by rw[hf,if_pos (.inr ⟨by omega,y3⟩)])⟩
  | false =>
   rw[if_neg (by rintro (e | ⟨_,e⟩);exact y1 e;rw[y3]at e;cases e)]at hf;refine goK ?_
   with_unfolding_all exact cutPoint_wp hm hpre htp hrun hl y1 hf
 ·rw[dF y2];rw[if_neg (by rintro (e | ⟨e,_⟩);exact y1 e;omega)]at hf;refine goK ?_
  with_unfolding_all exact cutPoint_wp hm hpre htp hrun hl y1 hf
theorem cut_wp (hm:MonoC C)(hpre:∀s c,PF C 185 [.str s,.str [c]] (.bool (hd c s)))(htp:∀s c,PF C 186 [.str s,.str [c]] (.str (if hd c s then s.drop 1 else s)))
  (hrun:∀s:List UInt8,s.length<9223372036854775807->PF C 164 [.str s] (.int .i64 (runB s))) {s:List UInt8} (hl:s.length<9223372036854775807):wpF gt C F160 [.str s] St.init (Ret (encCut (cutB s))):=by
 have hf:cutB s=if hd 45 s then cutP true (s.drop 1) else cutP false s:=rfl
 generalize cutB s=res at hf ⊢;refine⟨rfl,?_⟩;refine goW ?_;refine call_pf hm (by rfl) (hpre s 45) (goW ?_);cases hh:hd 45 s with
 | true =>
  rw[hh,if_pos rfl]at hf;refine goW ?_;refine step_ruleO (sx_slLo (l:=1) rfl rfl (hd_len hh)) (goW ?_)
  with_unfolding_all exact cutSign_wp hm hpre htp hrun (by rw[lD];omega) hf
 | false =>
  rw[hh,if_neg (by simp)]at hf;refine goW ?_
  with_unfolding_all exact cutSign_wp hm hpre htp hrun hl hf
end

def trimL (cs s:List UInt8):List UInt8:=s.dropWhile (cs.contains ·)
def trimR (cs s:List UInt8):List UInt8:=(s.reverse.dropWhile (cs.contains ·)).reverse
def valB:Nat->List UInt8->Nat
 | a,[]=>a
 | a,b::r=>valB (a*10+(b.toNat-48)) r
theorem trimL_le (cs s:List UInt8):(trimL cs s).length<=s.length:=(List.dropWhile_sublist _).length_le
theorem trimR_le (cs s:List UInt8):(trimR cs s).length<=s.length:=by
 have:=(List.dropWhile_sublist (l:=s.reverse) (cs.contains ·)).length_le;simp only[trimR,List.length_reverse]at this ⊢;exact this
theorem pow1 (n:Nat):10 ^ (n+1)=10*10 ^ n:=by rw[Nat.pow_succ,Nat.mul_comm]
theorem valB_lt (l:List UInt8):∀(a:Nat),l.all dig=true->valB a l<(a+1)*10 ^ l.length:=by
 induction l with
 | nil=>intro a _;rw[lN,Nat.pow_zero,Nat.mul_one];exact Nat.lt_succ_self a
 | cons b r ih =>
  intro a h;rw[List.all_cons,bA]at h;have hb:b.toNat-48<=9:=by
   have:=h.1;simp only[dig,bA,decide_eq_true_eq]at this;omega
  have h2:=ih (a*10+(b.toNat-48)) h.2;rw[lC,pow1,<-Nat.mul_assoc];refine Nat.lt_of_lt_of_le h2 ?_;exact Nat.mul_le_mul_right _ (by omega)
def expT (e:List UInt8):List UInt8:=trimL [48] (trimL [43,45] e)
def expB (e:List UInt8):Option Int :=
 if 6<(expT e).length then none else some (if hd 45 e then -(valB 0 (expT e):Int) else valB 0 (expT e))
def encExp:Option Int->AV
 | none=>.tup [.int .i64 0,.bool false]
 | some n=>.tup [.int .i64 n,.bool true]
theorem sta_exp (o:Option Int):Sta (encExp o):=by cases o<;>exact⟨trivial,trivial,trivial⟩
abbrev Parts3:=Bool×List UInt8×Int
def encP (p:Parts3):AV:=.agg [.bool p.1,.str p.2.1,.int .i64 p.2.2]
def zeroP:Parts3:=(false,[],0)
def splitB (s:List UInt8):Parts3×Int :=
 match cutB s with
 | none=>(zeroP,12)
 | some (neg,w,p,e) =>
  if 1000<s.length then (zeroP,2)
  else match expB e with
  | none=>(zeroP,5)
  | some x =>
   if trimR [48] (trimL [48] (w++p))=[] then (zeroP,0)
   else ((neg,trimR [48] (trimL [48] (w++p)),x-p.length+((trimL [48] (w++p)).length-(trimR [48] (trimL [48] (w++p))).length)),0)
def encSplit (p:Parts3×Int):AV:=.tup [encP p.1,.int .i64 p.2]
theorem sta_split (p:Parts3×Int):Sta (encSplit p):=⟨⟨trivial,trivial,trivial,trivial⟩,trivial,trivial⟩
theorem expB_lt {e:List UInt8}{x:Int}(hd':(expT e).all dig=true)(h:expB e=some x):-999999<=x/\x<=999999:=by
 unfold expB at h;split at h
 ·cases h
 ·rename_i hl;have:=valB_lt (expT e) 0 hd';have h6:10 ^ (expT e).length<=10 ^ 6:=Nat.pow_le_pow_right (by decide) (by omega);have h10:(10:Nat) ^ 6=1000000:=by decide
  simp only[oI]at h;split at h<;>omega
theorem runB_all:∀{s:List UInt8},¬runB s<s.length->s.all dig=true
 | [],_=>rfl
 | b::r,h=>by
  simp only[runB]at h;have:=runB_le r;split at h
  ·rename_i hb;simp only[lC]at h;simp only[List.all_cons,hb,Bool.true_and];exact runB_all (by omega)
  ·simp only[lC]at h;omega
theorem all_dropWhile {p q:UInt8->Bool}:∀{s:List UInt8},s.all q=true->(s.dropWhile p).all q=true
 | [],_=>rfl
 | b::r,h=>by
  simp only[List.all_cons,bA]at h;simp only[List.dropWhile_cons];split
  ·exact all_dropWhile h.2
  ·simp only[List.all_cons,h.1,h.2,Bool.and_self]
theorem expT_dig {e:List UInt8}(h:(expD e).all dig=true):(expT e).all dig=true:=by
 unfold expT trimL;apply all_dropWhile
 unfold expD at h;cases e with
 | nil=>rfl
 | cons b r =>
  by_cases h1:hd 45 (b::r)=true
  ·rw[if_pos h1]at h;have:b=45:=by simpa[hd] using h1
   subst this;exact all_dropWhile (p:=λx=>([43,45]:List UInt8).contains x) (s:=r) h
  ·rw[if_neg h1]at h;by_cases h2:hd 43 (b::r)=true
   ·rw[if_pos h2]at h;have:b=43:=by simpa[hd] using h2
    subst this;exact all_dropWhile (p:=λx=>([43,45]:List UInt8).contains x) (s:=r) h
   ·rw[if_neg h2]at h;exact all_dropWhile h
theorem cutE_ok {neg n:Bool}{w p s w' p' e:List UInt8}(h:cutE neg w p s=some (n,w',p',e)):w'=w/\p'=p/\(expT e).all dig=true:=by
 unfold cutE at h;split at h
 ·simp only[oI,Prod.mk.injEq]at h;obtain⟨_,rfl,rfl,rfl⟩:=h;exact⟨rfl,rfl,rfl⟩
 ·split at h
  ·cases h
  ·split at h
   ·cases h
   ·rename_i hh;simp only[oI,Prod.mk.injEq]at h;obtain⟨_,rfl,rfl,rfl⟩:=h;exact⟨rfl,rfl,expT_dig (runB_all λh=>hh (.inr h))⟩
theorem cutP_ok {neg n:Bool}{s w p e:List UInt8}(h:cutP neg s=some (n,w,p,e)):w.length+p.length<=s.length/\(expT e).all dig=true:=by
 unfold cutP at h;have h0:=runB_le s;split at h
 ·cases h
 ·split at h
  ·split at h
   ·cases h
   ·obtain⟨rfl,rfl,h3⟩:=cutE_ok h;refine⟨?_,h3⟩;have:=runB_le ((s.drop (runB s)).drop 1);simp only[lT,lD]at this ⊢;omega
  ·obtain⟨rfl,rfl,h3⟩:=cutE_ok h;exact⟨by simp only[lT,lN];omega,h3⟩
theorem cutB_ok {n:Bool}{s w p e:List UInt8}(h:cutB s=some (n,w,p,e)):w.length+p.length<=s.length/\(expT e).all dig=true:=by
 unfold cutB at h;split at h
 ·have:=cutP_ok h;rw[lD]at this;exact⟨by omega,this.2⟩
 ·exact cutP_ok h
theorem st_addS {gt:GT}{d:Option Nat}{x y:DOpd}{env:Env}{S:St}{a b:List UInt8}(hx:opd env x=some (.str a))(hy:opd env y=some (.str b))(hl:a.length+b.length<=9223372036854775807) :
  stepO gt d env S (.bin .add none x y)=.done (putV d (.str (a++b)) env) S:=by
 simp only[stepO,hx,hy,binV,binS,ble_true hl,cond_true]
 try rfl
section
variable {gt:GT}{C:CallT}
theorem exponent_wp (hm:MonoC C)(hpre:∀s c,PF C 185 [.str s,.str [c]] (.bool (hd c s)))(hs:∀s,PF C 162 [.str s,.str [43,45]] (.str (trimL [43,45] s)))(h0:∀s,PF C 162 [.str s,.str [48]] (.str (trimL [48] s)))
  (hat:∀s:List UInt8,s.all dig=true->1<=s.length->s.length<=18->PF C 187 [.str s] (.tup [.int .i64 (valB 0 s),.nilif])) {e:List UInt8} (he:(expT e).all dig=true) :
  wpF gt C F161 [.str e] St.init (Ret (encExp (expB e))):=by
 have hat:=λh=>hat (48::expT e) (by simp only[List.all_cons,he,Bool.and_true];decide) (by simp) h;have hv:valB 0 (48::expT e)=valB 0 (expT e):=rfl;rw[hv]at hat;have hlt:=λx=>expB_lt (x:=x) he;refine⟨rfl,?_⟩;refine goW ?_;refine call_pf hm (by rfl) (hpre e 45) (goW ?_);refine call_pf hm (by rfl) (hs e) (goW ?_);refine call_pf hm (by rfl) (h0 _) (goW ?_);rw[show trimL [48] (trimL [43,45] e)=expT e from rfl];unfold expB;unfold expB at hlt;generalize expT e=t at hat hlt ⊢;by_cases h6:(t.length:Int) > 6
 ·rw[dT h6];refine goW ?_;refine⟨_,rfl,?_⟩;rw[if_pos (by omega)];exact Ret.sta (sta_exp none)
 rw[dF h6];rw[if_neg (by omega)]at hlt ⊢;refine goW ?_;refine step_ruleO (st_addS rfl rfl (by simp only[lC,lN];omega)) (goW ?_);refine call_pf hm (by rfl) (hat (by simp only[lC];omega)) (goW ?_);cases hn:hd 45 e with
 | true =>
  have:=hlt _ rfl;rw[hn,if_pos rfl]at this;refine goW ?_;rw[wr64 (by omega) (by omega)];refine⟨_,rfl,?_⟩;rw[if_pos rfl,Int.zero_sub];exact Ret.sta (sta_exp (some _))
 | false =>
  refine goW ?_;refine⟨_,rfl,?_⟩;rw[if_neg (by simp)];exact Ret.sta (sta_exp (some _))
theorem split_wp (hm:MonoC C)(hcut:∀s:List UInt8,s.length<9223372036854775807->PF C 160 [.str s] (encCut (cutB s)))(hexp:∀e:List UInt8,(expT e).all dig=true->PF C 161 [.str e] (encExp (expB e)))
  (h0:∀s,PF C 162 [.str s,.str [48]] (.str (trimL [48] s))) (h1:∀s:List UInt8,s.length<9223372036854775807->PF C 163 [.str s,.str [48]] (.str (trimR [48] s)))
  {s:List UInt8} (hl:s.length<9223372036854775807):wpF gt C F132 [.str s] St.init (Ret (encSplit (splitB s))):=by
 have hcut:=hcut s hl;have hok:=λn w p e=>cutB_ok (n:=n) (s:=s) (w:=w) (p:=p) (e:=e);have ret:∀{o:Parts3×Int} {S:St},splitB s=o->Ret (encSplit (splitB s)) (.ret (encSplit o)) S:=λh=>by rw[h];exact Ret.sta (sta_split _)
 have hf:splitB s=match cutB s with
  | none=>(zeroP,12)
  | some (neg,w,p,e) =>
   if 1000<s.length then (zeroP,2)
   else match expB e with
   | none=>(zeroP,5)
   | some x =>
    if trimR [48] (trimL [48] (w++p))=[] then (zeroP,0)
    else ((neg,trimR [48] (trimL [48] (w++p)),x-p.length+((trimL [48] (w++p)).length-(trimR [48] (trimL [48] (w++p))).length)),0):=rfl
 generalize splitB s=res at ret hf ⊢;generalize cutB s=cu at hcut hok hf;refine⟨rfl,?_⟩;refine goW ?_;refine call_pf hm (by rfl) hcut ?_;cases cu with
 | none =>
  refine goW ?_;exact⟨_,rfl,ret (o:=(zeroP,12)) hf⟩
 | some q =>
  obtain⟨neg,w,p,e⟩:=q;obtain⟨hwp,he⟩:=hok neg w p e rfl;simp only at hf;have hexp:=hexp e he;have hb:=λx=>expB_lt (x:=x) he;refine goW ?_;by_cases z1:(s.length:Int) > 1000
  ·rw[dT z1];refine goW ?_;exact⟨_,rfl,ret (o:=(zeroP,2)) (by rw[hf,if_pos (by omega)])⟩
  rw[dF z1];rw[if_neg (by omega)]at hf;refine goW ?_;generalize expB e=ex at hexp hb hf;refine call_pf hm (by rfl) hexp ?_;cases ex with
  | none =>
   refine goW ?_;exact⟨_,rfl,ret (o:=(zeroP,5)) hf⟩
  | some x =>
   simp only at hf;have hb:=hb x rfl;refine goW ?_;refine step_ruleO (st_addS rfl rfl (by omega)) (goW ?_);have t1:=trimL_le [48] (w++p);rw[lA]at t1;have t2:=trimR_le [48] (trimL [48] (w++p));refine call_pf hm (by rfl) (h0 (w++p)) (goW ?_);generalize trimL [48] (w++p)=ds at t1 t2 hf ⊢;refine call_pf hm (by rfl) (h1 ds (by omega)) (goW ?_);generalize trimR [48] ds=sh at t2 hf ⊢;by_cases z2:sh=[]
   ·rw[beqB_true z2];refine goW ?_;exact⟨_,rfl,ret (o:=(zeroP,0)) (by rw[hf,if_pos z2])⟩
   rw[beqB_false z2];refine goW ?_;rw[wr64 (n:=x-(p.length:Int)) (by omega) (by omega),wr64 (n:=(ds.length:Int)-(sh.length:Int)) (by omega) (by omega),wr64 (by omega) (by omega)];exact⟨_,rfl,ret (o:=((neg,sh,_),0)) (by rw[hf,if_neg z2])⟩
end

def decB (n:Nat):List UInt8:=if h:n<10 then [UInt8.ofNat (48+n)] else decB (n / 10)++[UInt8.ofNat (48+n % 10)]
termination_by n
def itoaB (e:Int):List UInt8:=if e<0 then 45::decB e.natAbs else decB e.toNat
theorem decB_len (n:Nat):(decB n).length<=n+1:=by
 induction n using Nat.strongRecOn with
 | _ n ih =>
  unfold decB;split
  ·simp
  ·have:=ih (n / 10) (by omega);simp only[lA,lC,lN];omega
theorem itoaB_len {e:Int}(h:-999999<=e)(h2:e<=999999):(itoaB e).length<=1000001:=by
 unfold itoaB;split
 ·have:=decB_len e.natAbs;simp only[lC];omega
 ·have:=decB_len e.toNat;omega
def tl (c:UInt8)(s:List UInt8):Bool:=hd c s.reverse
theorem tl_last {c:UInt8}{s:List UInt8}{b:UInt8}(h:s[s.length-1]? = some b)(h0:0<s.length):tl c s=(b == c):=by
 unfold tl;refine hd_head ?_;rw[List.getElem?_reverse h0];exact h
def joinB (p:Parts3):List UInt8×Int :=
 if runB p.2.1<p.2.1.length\/(hd 48 p.2.1=true\/tl 48 p.2.1=true)\/(p.2.1=[]/\(p.2.2≠0\/p.1=true)) then ([],1)
 else if p.2.2 < -999999\/999999<p.2.2 then ([],5)
 else if p.2.1=[] then ([48],0)
 else if 1000<((if p.1=true then [45]++p.2.1 else p.2.1)++(if p.2.2=0 then [] else [101]++itoaB p.2.2)).length then ([],2)
 else ((if p.1=true then [45]++p.2.1 else p.2.1)++(if p.2.2=0 then [] else [101]++itoaB p.2.2),0)
def encJoin (p:List UInt8×Int):AV:=.tup [.str p.1,.int .i64 p.2]
theorem sta_join (p:List UInt8×Int):Sta (encJoin p):=⟨trivial,trivial,trivial⟩
def normB (s:List UInt8):List UInt8×Int:=if (splitB s).2=0 then joinB (splitB s).1 else ([],(splitB s).2)
theorem splitB_len {s:List UInt8}(h:(splitB s).2=0):(splitB s).1.2.1.length<=1000:=by
 unfold splitB at h ⊢;cases hc:cutB s with
 | none=>rw[hc]at h;cases h
 | some q =>
  obtain⟨neg,w,p,e⟩:=q;rw[hc]at h;simp only at h ⊢;obtain⟨h1,_⟩:=cutB_ok hc;split
  ·exact Nat.zero_le _
  ·cases expB e with
   | none=>exact Nat.zero_le _
   | some x =>
    simp only;split
    ·exact Nat.zero_le _
    ·have t1:=trimL_le [48] (w++p);have t2:=trimR_le [48] (trimL [48] (w++p));rw[lA]at t1;show (trimR [48] (trimL [48] (w++p))).length<=1000;omega
section
variable {gt:GT}{C:CallT}
theorem join_wp (hm:MonoC C)(hrun:∀s:List UInt8,s.length<9223372036854775807->PF C 164 [.str s] (.int .i64 (runB s)))
  (hit:∀e:Int,-999999<=e->e<=999999->PF C 165 [.int .i64 e] (.str (itoaB e))) {p:Parts3} (hl:p.2.1.length<=1000):wpF gt C F133 [encP p] St.init (Ret (encJoin (joinB p))):=by
 obtain⟨neg,d,e⟩:=p;simp only at hl;have ret:∀{o:List UInt8×Int} {S:St},joinB (neg,d,e)=o->Ret (encJoin (joinB (neg,d,e))) (.ret (encJoin o)) S:=λh=>by rw[h];exact Ret.sta (sta_join _)
 have hf:joinB (neg,d,e)=if runB d<d.length\/(hd 48 d=true\/tl 48 d=true)\/(d=[]/\(e≠0\/neg=true)) then ([],1)
  else if e < -999999\/999999<e then ([],5)
  else if d=[] then ([48],0)
  else if 1000<((if neg=true then [45]++d else d)++(if e=0 then [] else [101]++itoaB e)).length then ([],2)
  else ((if neg=true then [45]++d else d)++(if e=0 then [] else [101]++itoaB e),0):=rfl
 generalize joinB (neg,d,e)=res at ret hf ⊢;refine⟨rfl,?_⟩;refine goW ?_;refine call_pf hm (by rfl) (hrun d (by omega)) (goW ?_);by_cases z1:(runB d:Int)<(d.length:Nat)
 ·rw[dT z1];refine goW ?_;exact⟨_,rfl,ret (o:=([],1)) (by rw[hf,if_pos (.inl (by omega))])⟩
 rw[dF z1];have z1':¬runB d<d.length:=by omega
 clear z1
 refine goW ?_;cases d with
 | nil =>
  have hn:¬((([]:List UInt8).length:Nat):Int) > 0:=by simp
  rw[dF hn];refine goW ?_;by_cases y1:e=0
  ·rw[neI_false y1];refine goW ?_;cases neg with
   | true =>
    refine goW ?_;exact⟨_,rfl,ret (o:=([],1)) (by rw[hf,if_pos (.inr (.inr ⟨rfl,.inr rfl⟩))])⟩
   | false =>
    refine goW ?_;rw[if_neg (by rintro (h | (h | h) | ⟨_,h | h⟩);exact z1' h;cases h;cases h;exact h y1;cases h)]at hf;subst y1;refine goW ?_;exact⟨_,rfl,ret (o:=([48],0)) (by rw[hf,if_neg (by omega),if_pos rfl])⟩
  ·rw[neI_true y1];refine goW ?_;exact⟨_,rfl,ret (o:=([],1)) (by rw[hf,if_pos (.inr (.inr ⟨rfl,.inl y1⟩))])⟩
 | cons b r =>
  have hlen:(b::r).length=r.length+1:=rfl;generalize hd0:b::r=d at ret hf hl z1' hlen ⊢;have hb0:d[0]? = some b:=by rw[<-hd0];rfl
  have hne:d≠[]:=by rw[<-hd0];simp
  obtain⟨lb,hlb⟩:∃lb,d[d.length-1]? = some lb:=⟨_,gE (by omega)⟩
  rw[dT (show ((d.length:Nat):Int) > 0 by omega)];refine goW ?_;refine st_any (by exact rfl) (sx_ixS (k:=0) rfl rfl hb0) (goW ?_);rw[show ((48:Int))=((48:UInt8).toNat:Int) from rfl,u8_eqI,<-hd_head (c:=48) hb0];cases y1:hd 48 d with
  | true =>
   refine goW ?_;exact⟨_,rfl,ret (o:=([],1)) (by rw[hf,if_pos (.inr (.inl (.inl y1)))])⟩
  | false =>
   refine goW ?_;rw[show wr .i64 ((d.length:Int)-1)=((d.length-1:Nat):Int) by rw[wr64 (by omega) (by omega)];omega];refine st_any (by exact rfl) (sx_ixS (k:=d.length-1) rfl rfl hlb) (goW ?_);rw[u8_eqI,<-tl_last (c:=48) hlb (by omega)];cases y2:tl 48 d with
   | true =>
    refine goW ?_;exact⟨_,rfl,ret (o:=([],1)) (by rw[hf,if_pos (.inr (.inl (.inr y2)))])⟩
   | false =>
    rw[if_neg (by rintro (h | (h | h) | ⟨h,_⟩);exact z1' h;rw[y1]at h;cases h;rw[y2]at h;cases h;exact hne h)]at hf;refine goW ?_;rw[eqI_false (show ¬((d.length:Nat):Int)=0 by omega)];refine goW ?_;by_cases x1:e < -999999
    ·rw[dT x1];refine goW ?_;exact⟨_,rfl,ret (o:=([],5)) (by rw[hf,if_pos (.inl x1)])⟩
    rw[dF x1];refine goW ?_;by_cases x2:e > 999999
    ·rw[dT x2];refine goW ?_;exact⟨_,rfl,ret (o:=([],5)) (by rw[hf,if_pos (.inr x2)])⟩
    rw[dF x2];rw[if_neg (by omega),if_neg hne]at hf;have hil:=itoaB_len (e:=e) (by omega) (by omega);refine goW ?_;rw[eqI_false (show ¬((d.length:Nat):Int)=0 by omega)];refine goW ?_;cases neg with
    | true =>
     rw[if_pos rfl]at hf;refine goW ?_;refine step_ruleO (st_addS rfl rfl (by simp only[lC,lN];omega)) (goW ?_);by_cases z5:e=0
     ·rw[neI_false z5];rw[if_pos z5]at hf;refine goW ?_;by_cases z6:(([45]++d).length:Int) > 1000
      ·rw[dT z6];refine goW ?_;exact⟨_,rfl,ret (o:=([],2)) (by rw[hf,if_pos (by (try simp only[lA,lC,lN]at z6);(try simp only[lA,lC,lN]);omega)])⟩
      rw[dF z6];refine goW ?_;exact⟨_,rfl,ret (o:=([45]++d,0)) (by rw[hf,if_neg (by (try simp only[lA,lC,lN]at z6);(try simp only[lA,lC,lN]);omega)];try simp only[List.append_nil,aA];try rfl)⟩
     rw[neI_true z5];rw[if_neg z5]at hf;refine goW ?_;refine call_pf hm (by rfl) (hit e (by omega) (by omega)) (goW ?_);refine step_ruleO (st_addS rfl rfl (by simp only[lC,lN];omega)) (goW ?_);refine step_ruleO (st_addS rfl rfl (by simp only[lA,lC,lN];omega)) (goW ?_);by_cases z6:(([45]++d++([101]++itoaB e)).length:Int) > 1000
     ·rw[dT z6];refine goW ?_;exact⟨_,rfl,ret (o:=([],2)) (by rw[hf,if_pos (by (try simp only[lA,lC,lN]at z6);(try simp only[lA,lC,lN]);omega)])⟩
     rw[dF z6];refine goW ?_;exact⟨_,rfl,ret (o:=([45]++d++([101]++itoaB e),0)) (by rw[hf,if_neg (by (try simp only[lA,lC,lN]at z6);(try simp only[lA,lC,lN]);omega)];try simp only[List.append_nil,aA];try rfl)⟩
    | false =>
     simp only[Bool.false_eq_true,if_false]at hf;refine goW ?_;by_cases z5:e=0
     ·rw[neI_false z5];rw[if_pos z5]at hf;refine goW ?_;by_cases z6:((d).length:Int) > 1000
      ·rw[dT z6];refine goW ?_;exact⟨_,rfl,ret (o:=([],2)) (by rw[hf,if_pos (by (try simp only[lA,lC,lN]at z6);(try simp only[lA,lC,lN]);omega)])⟩
      rw[dF z6];refine goW ?_;exact⟨_,rfl,ret (o:=(d,0)) (by rw[hf,if_neg (by (try simp only[lA,lC,lN]at z6);(try simp only[lA,lC,lN]);omega)];try simp only[List.append_nil,aA];try rfl)⟩
     rw[neI_true z5];rw[if_neg z5]at hf;refine goW ?_;refine call_pf hm (by rfl) (hit e (by omega) (by omega)) (goW ?_);refine step_ruleO (st_addS rfl rfl (by simp only[lC,lN];omega)) (goW ?_);refine step_ruleO (st_addS rfl rfl (by simp only[lA,lC,lN];omega)) (goW ?_);by_cases z6:((d++([101]++itoaB e)).length:Int) > 1000
     ·rw[dT z6];refine goW ?_;exact⟨_,rfl,ret (o:=([],2)) (by rw[hf,if_pos (by (try simp only[lA,lC,lN]at z6);(try simp only[lA,lC,lN]);omega)])⟩
     rw[dF z6];refine goW ?_;exact⟨_,rfl,ret (o:=(d++([101]++itoaB e),0)) (by rw[hf,if_neg (by (try simp only[lA,lC,lN]at z6);(try simp only[lA,lC,lN]);omega)];try simp only[List.append_nil,aA];try rfl)⟩
theorem normal_wp (hm:MonoC C)(hsplit:∀s:List UInt8,s.length<9223372036854775807->PF C 132 [.str s] (encSplit (splitB s)))(hjoin:∀p:Parts3,p.2.1.length<=1000->PF C 133 [encP p] (encJoin (joinB p)))
  {s:List UInt8} (hl:s.length<9223372036854775807):wpF gt C F81 [.str s] St.init (Ret (encJoin (normB s))):=by
 have hsplit:=hsplit s hl;have hlen:=splitB_len (s:=s);unfold normB;generalize splitB s=q at hsplit hlen ⊢;obtain⟨⟨neg,d,e⟩,er⟩:=q;simp only at hlen ⊢;refine⟨rfl,?_⟩;refine goW ?_;refine call_pf hm (by rfl) hsplit (goW ?_);by_cases z:er=0
 ·rw[neI_false z,if_pos z];refine goW ?_;have hj:=hjoin (neg,d,e) (hlen z);refine call_pf hm (by rfl) hj ?_;generalize joinB (neg,d,e)=jr;refine goW ?_;exact⟨_,rfl,Ret.sta (sta_join _)⟩
 ·rw[neI_true z,if_neg z];refine goW ?_;exact⟨_,rfl,Ret.sta (sta_join ([],er))⟩
end

def twoB:List UInt8->Int
 | [a,b]=>if dig a=true/\dig b=true then ((a.toNat:Int)-48)*10+((b.toNat:Int)-48) else -1
 | _=>-1
def withinB (s:List UInt8)(lo hi:Int):Bool:=decide (twoB s ≥ lo) && decide (twoB s<=hi)
def daysB (y m:Int):Int :=
 if m=4\/m=6\/m=9\/m=11 then 30
 else if m=2 then (if Int.tmod y 4=0/\(Int.tmod y 100≠0\/Int.tmod y 400=0) then 29 else 28)
 else 31
theorem dig_iff {b:UInt8}:dig b=true↔48<=b.toNat/\b.toNat<=57:=by
 simp only[dig,bA,decide_eq_true_eq]
section
variable {gt:GT}{C:CallT}
theorem twoB_len {s:List UInt8}(h:s.length≠2):twoB s=-1:=by
 match s,h with
 | [],_=>rfl
 | [_],_=>rfl
 | [_,_],h=>exact absurd rfl h
 | _::_::_::_,_=>rfl
theorem wr8 {n:Int}(h:0<=n)(h2:n<256):wr .u8 n=n:=by
 rw[wr_eq];refine inR_wrap ?_;obtain⟨m,rfl⟩:∃m:Nat,n=m:=⟨n.toNat,by omega⟩
 simp only[inR];exact Nat.ble_eq_true_of_le (by omega)
theorem two_wp {s:List UInt8}:wpF gt C F166 [.str s] St.init (Ret (.int .i64 (twoB s))):=by
 have ret:∀{z:Int} {S:St},twoB s=z->Ret (.int .i64 (twoB s)) (.ret (.int .i64 z)) S:=λh=>by rw[h];exact Ret.sta trivial
 refine⟨rfl,?_⟩;refine goW ?_;by_cases z:s.length=2
 case neg =>
  rw[neI_true (show ¬((s.length:Nat):Int)=2 by omega)];refine goW ?_;exact⟨_,rfl,ret (twoB_len z)⟩
 obtain⟨a,b,rfl⟩:∃a b,s=[a,b]:=by
  match s,z with
  | [a,b],_=>exact⟨a,b,rfl⟩
 have ha:=u8_lt a;have hb:=u8_lt b;rw[neI_false (show (([a,b]:List UInt8).length:Int)=2 from rfl)];have hno:¬(dig a=true/\dig b=true)->twoB [a,b]=-1:=λh=>if_neg h;refine goW ?_;by_cases z1:(a.toNat:Int)<48
 ·rw[dT z1];refine goW ?_;exact⟨_,rfl,ret (hno (by rw[dig_iff,dig_iff];omega))⟩
 rw[dF z1];refine goW ?_;by_cases z2:(a.toNat:Int) > 57
 ·rw[dT z2];refine goW ?_;exact⟨_,rfl,ret (hno (by rw[dig_iff,dig_iff];omega))⟩
 rw[dF z2];refine goW ?_;by_cases z3:(b.toNat:Int)<48
 ·rw[dT z3];refine goW ?_;exact⟨_,rfl,ret (hno (by rw[dig_iff,dig_iff];omega))⟩
 rw[dF z3];refine goW ?_;by_cases z4:(b.toNat:Int) > 57
 ·rw[dT z4];refine goW ?_;exact⟨_,rfl,ret (hno (by rw[dig_iff,dig_iff];omega))⟩
 rw[dF z4];refine goW ?_;refine⟨_,rfl,ret ?_⟩;rw[wr8 (n:=(a.toNat:Int)-48) (by omega) (by omega),wr8 (n:=(b.toNat:Int)-48) (by omega) (by omega),wr64 (n:=(a.toNat:Int)-48) (by omega) (by omega),wr64 (n:=(b.toNat:Int)-48) (by omega) (by omega),wr64 (n:=((a.toNat:Int)-48)*10) (by omega) (by omega),wr64 (by omega) (by omega)];exact if_pos (by rw[dig_iff,dig_iff];omega)
theorem within_wp (hm:MonoC C)(h:∀s,PF C 166 [.str s] (.int .i64 (twoB s))){s:List UInt8}{lo hi:Int}:wpF gt C F167 [.str s,.int .i64 lo,.int .i64 hi] St.init (Ret (.bool (withinB s lo hi))):=by
 refine⟨rfl,?_⟩;refine goW ?_;refine call_pf hm (by rfl) (h s) (goW ?_);unfold withinB;by_cases z1:twoB s ≥ lo
 ·rw[dT z1];refine goW ?_;refine call_pf hm (by rfl) (h s) (goW ?_);exact⟨_,rfl,Ret.sta trivial⟩
 ·rw[dF z1];refine goW ?_;exact⟨_,rfl,Ret.sta trivial⟩
theorem days_wp {y m:Int}:wpF gt C F168 [.int .i64 y,.int .i64 m] St.init (Ret (.int .i64 (daysB y m))):=by
 have ret:∀{z:Int} {S:St},daysB y m=z->Ret (.int .i64 (daysB y m)) (.ret (.int .i64 z)) S:=λh=>by rw[h];exact Ret.sta trivial
 refine⟨rfl,?_⟩;refine goW ?_;by_cases z1:m=4
 ·rw[eqI_true z1];refine goW ?_;exact⟨_,rfl,ret (if_pos (.inl z1))⟩
 rw[eqI_false z1];refine goW ?_;by_cases z2:m=6
 ·rw[eqI_true z2];refine goW ?_;exact⟨_,rfl,ret (if_pos (.inr (.inl z2)))⟩
 rw[eqI_false z2];refine goW ?_;by_cases z3:m=9
 ·rw[eqI_true z3];refine goW ?_;exact⟨_,rfl,ret (if_pos (.inr (.inr (.inl z3))))⟩
 rw[eqI_false z3];refine goW ?_;by_cases z4:m=11
 ·rw[eqI_true z4];refine goW ?_;exact⟨_,rfl,ret (if_pos (.inr (.inr (.inr z4))))⟩
 rw[eqI_false z4];have hf:daysB y m=if m=2 then (if Int.tmod y 4=0/\(Int.tmod y 100≠0\/Int.tmod y 400=0) then 29 else 28) else 31:=if_neg (by rintro (h | h | h | h)<;>contradiction)
 refine goW ?_;by_cases z5:m=2
 case neg =>
  rw[eqI_false z5];refine goW ?_;exact⟨_,rfl,ret (by rw[hf,if_neg z5])⟩
 rw[eqI_true z5];rw[if_pos z5]at hf;refine goW ?_;by_cases z6:Int.tmod y 4=0
 case neg =>
  rw[eqI_false z6];refine goW ?_;exact⟨_,rfl,ret (by rw[hf,if_neg (by rintro⟨h,_⟩;exact z6 h)])⟩
 rw[eqI_true z6];refine goW ?_;by_cases z7:Int.tmod y 100=0
 case neg =>
  rw[neI_true z7];refine goW ?_;exact⟨_,rfl,ret (by rw[hf,if_pos ⟨z6,.inl z7⟩])⟩
 rw[neI_false z7];refine goW ?_;by_cases z8:Int.tmod y 400=0
 ·rw[eqI_true z8];refine goW ?_;exact⟨_,rfl,ret (by rw[hf,if_pos ⟨z6,.inr z8⟩])⟩
 ·rw[eqI_false z8];refine goW ?_;exact⟨_,rfl,ret (by rw[hf,if_neg (by rintro⟨_,h | h⟩;exact h z7;exact z8 h)])⟩
end

def atB (s:List UInt8)(k:Nat)(c:UInt8):Bool:=hd c (s.drop k)
theorem atB_get {s:List UInt8}{k:Nat}{b c:UInt8}(h:s[k]? = some b):atB s k c=(b == c) :=
 hd_head (by rw[List.getElem?_drop];exact h)
def sub (s:List UInt8)(i j:Nat):List UInt8:=(s.drop i).take (j-i)
def dateB (s:List UInt8):Bool :=
 decide (s.length=10) && (atB s 4 45 && (atB s 7 45 && (decide (0<=twoB (s.take 2)) && (decide (0<=twoB (sub s 2 4)) && (withinB (sub s 5 7) 1 12 &&
  withinB (s.drop 8) 1 (daysB (twoB (s.take 2)*100+twoB (sub s 2 4)) (twoB (sub s 5 7))))))))
theorem twoB_le (s:List UInt8):-1<=twoB s/\twoB s<=99:=by
 match s with
 | []=>exact⟨by decide,by decide⟩
 | [_]=>exact⟨Int.le_refl _,by simp only[twoB];omega⟩
 | [a,b] =>
  simp only[twoB];split
  ·rename_i h;rw[dig_iff,dig_iff]at h;omega
  ·omega
 | _::_::_::_=>exact⟨Int.le_refl _,by simp only[twoB];omega⟩
section
variable {gt:GT}{C:CallT}
theorem date_wp (hm:MonoC C)(h2:∀s,PF C 166 [.str s] (.int .i64 (twoB s)))(hw:∀s lo hi,PF C 167 [.str s,.int .i64 lo,.int .i64 hi] (.bool (withinB s lo hi)))
  (hdy:∀y m,PF C 168 [.int .i64 y,.int .i64 m] (.int .i64 (daysB y m))) {s:List UInt8}:wpF gt C F134 [.str s] St.init (Ret (.bool (dateB s))):=by
 have ret:∀{z:Bool} {S:St},dateB s=z->Ret (.bool (dateB s)) (.ret (.bool z)) S:=λh=>by rw[h];exact Ret.sta trivial
 have hf:dateB s=(decide (s.length=10) && (atB s 4 45 && (atB s 7 45 && (decide (0<=twoB (s.take 2)) && (decide (0<=twoB (sub s 2 4)) && (withinB (sub s 5 7) 1 12 &&
  withinB (s.drop 8) 1 (daysB (twoB (s.take 2)*100+twoB (sub s 2 4)) (twoB (sub s 5 7))))))))):=rfl
 generalize dateB s=res at ret hf ⊢;refine⟨rfl,?_⟩;refine goW ?_;by_cases z:s.length=10
 case neg =>
  rw[neI_true (show ¬((s.length:Nat):Int)=10 by omega)];refine goW ?_;exact⟨_,rfl,ret (by rw[hf,dF z];rfl)⟩
 rw[neI_false (show ((s.length:Nat):Int)=10 by omega)];rw[dT z,Bool.true_and]at hf;obtain⟨b4,hb4⟩:∃b,s[4]? = some b:=⟨_,gE (by omega)⟩
 obtain⟨b7,hb7⟩:∃b,s[7]? = some b:=⟨_,gE (by omega)⟩
 refine goW ?_;refine st_any (by exact rfl) (sx_ixS (k:=4) rfl rfl hb4) (goW ?_);rw[show ((45:Int))=((45:UInt8).toNat:Int) from rfl,u8_neI,<-atB_get (c:=45) hb4];cases y1:atB s 4 45 with
 | false =>
  refine goW ?_;exact⟨_,rfl,ret (by rw[hf,y1];rfl)⟩
 | true =>
 rw[y1,Bool.true_and]at hf;refine goW ?_;refine st_any (by exact rfl) (sx_ixS (k:=7) rfl rfl hb7) (goW ?_);rw[u8_neI,<-atB_get (c:=45) hb7];cases y2:atB s 7 45 with
 | false =>
  refine goW ?_;exact⟨_,rfl,ret (by rw[hf,y2];rfl)⟩
 | true =>
 rw[y2,Bool.true_and]at hf;refine goW ?_;refine st_any (by exact rfl) (sx_slHiS (h:=2) rfl rfl (by omega)) (goW ?_);refine call_pf hm (by rfl) (h2 (s.take 2)) (goW ?_);have g1:=twoB_le (s.take 2);by_cases y3:twoB (s.take 2)<0
 ·rw[dT y3];refine goW ?_;exact⟨_,rfl,ret (by rw[hf,dF (show ¬0<=twoB (s.take 2) by omega)];rfl)⟩
 rw[dF y3];rw[dT (show 0<=twoB (s.take 2) by omega),Bool.true_and]at hf;refine goW ?_;refine st_any (by exact rfl) (sx_slLH (l:=2) (h:=4) rfl rfl rfl (by omega) (by omega)) (goW ?_);rw[show (s.drop 2).take (4-2)=sub s 2 4 from rfl];refine call_pf hm (by rfl) (h2 (sub s 2 4)) (goW ?_);have g2:=twoB_le (sub s 2 4);by_cases y4:twoB (sub s 2 4)<0
 ·rw[dT y4];refine goW ?_;exact⟨_,rfl,ret (by rw[hf,dF (show ¬0<=twoB (sub s 2 4) by omega)];rfl)⟩
 rw[dF y4];rw[dT (show 0<=twoB (sub s 2 4) by omega),Bool.true_and]at hf;refine goW ?_;refine st_any (by exact rfl) (sx_slLH (l:=5) (h:=7) rfl rfl rfl (by omega) (by omega)) (goW ?_);rw[show (s.drop 5).take (7-5)=sub s 5 7 from rfl];refine call_pf hm (by rfl) (hw (sub s 5 7) 1 12) (goW ?_);cases y5:withinB (sub s 5 7) 1 12 with
 | false =>
  refine goW ?_;exact⟨_,rfl,ret (by rw[hf,y5];rfl)⟩
 | true =>
 rw[y5,Bool.true_and]at hf;refine goW ?_;refine step_ruleDO rfl rfl (sx_slLo (l:=8) rfl rfl (by omega)) (goW ?_);refine step_ruleDO rfl rfl (sx_slHiS (h:=2) rfl rfl (by omega)) (goW ?_);refine step_ruleDO rfl rfl (sx_slLH (l:=2) (h:=4) rfl rfl rfl (by omega) (by omega)) (goW ?_);refine step_ruleDO rfl rfl (sx_slLH (l:=5) (h:=7) rfl rfl rfl (by omega) (by omega)) (goW ?_);rw[show (s.drop 5).take (7-5)=sub s 5 7 from rfl,show (s.drop 2).take (4-2)=sub s 2 4 from rfl];refine call_pfD hm (by rfl) (h2 (s.take 2)) (goW ?_);refine call_pfD hm (by rfl) (h2 (sub s 2 4)) (goW ?_);refine call_pfD hm (by rfl) (h2 (sub s 5 7)) (goW ?_);rw[wr64 (n:=twoB (s.take 2)*100) (by omega) (by omega),wr64 (by omega) (by omega)];refine call_pfD hm (by rfl) (hdy _ _) (goW ?_);refine call_pfD hm (by rfl) (hw _ _ _) (goW ?_);exact⟨_,rfl,ret hf⟩
end

abbrev tenD:List UInt8:=[48,49,50,51,52,53,54,55,56,57]
def trimA (cs s:List UInt8):List UInt8:=trimL cs (trimR cs s)
def clockB (s:List UInt8):Bool :=
 decide (8<=s.length) && (atB s 2 58 && (atB s 5 58 && (withinB (s.take 2) 0 23 && (withinB (sub s 3 5) 0 59 && (withinB (sub s 6 8) 0 59 &&
  (decide (s.length=8) || (atB s 8 46 && (decide (1<=(s.drop 9).length) && (decide ((s.drop 9).length<=9) && beqB (trimA tenD (s.drop 9)) [])))))))))
section
variable {gt:GT}{C:CallT}
theorem clock_wp (hm:MonoC C)(hw:∀s lo hi,PF C 167 [.str s,.int .i64 lo,.int .i64 hi] (.bool (withinB s lo hi)))
  (htr:∀s:List UInt8,s.length<9223372036854775807->PF C 169 [.str s,.str tenD] (.str (trimA tenD s))) {s:List UInt8} (hl:s.length<9223372036854775807):wpF gt C F135 [.str s] St.init (Ret (.bool (clockB s))):=by
 have ret:∀{z:Bool} {S:St},clockB s=z->Ret (.bool (clockB s)) (.ret (.bool z)) S:=λh=>by rw[h];exact Ret.sta trivial
 have hf:clockB s=(decide (8<=s.length) && (atB s 2 58 && (atB s 5 58 && (withinB (s.take 2) 0 23 && (withinB (sub s 3 5) 0 59 && (withinB (sub s 6 8) 0 59 &&
  (decide (s.length=8) || (atB s 8 46 && (decide (1<=(s.drop 9).length) && (decide ((s.drop 9).length<=9) && beqB (trimA tenD (s.drop 9)) [])))))))))):=rfl
 generalize clockB s=res at ret hf ⊢;refine⟨rfl,?_⟩;refine goW ?_;by_cases z:8<=s.length
 case neg =>
  rw[dT (show ((s.length:Nat):Int)<8 by omega)];refine goW ?_;exact⟨_,rfl,ret (by rw[hf,dF z];rfl)⟩
 rw[dF (show ¬((s.length:Nat):Int)<8 by omega)];rw[dT z,Bool.true_and]at hf;obtain⟨b2,hb2⟩:∃b,s[2]? = some b:=⟨_,gE (by omega)⟩
 obtain⟨b5,hb5⟩:∃b,s[5]? = some b:=⟨_,gE (by omega)⟩
 refine goW ?_;refine st_any (by exact rfl) (sx_ixS (k:=2) rfl rfl hb2) (goW ?_);rw[show ((58:Int))=((58:UInt8).toNat:Int) from rfl,u8_neI,<-atB_get (c:=58) hb2];cases y1:atB s 2 58 with
 | false =>
  refine goW ?_;exact⟨_,rfl,ret (by rw[hf,y1];rfl)⟩
 | true =>
 rw[y1,Bool.true_and]at hf;refine goW ?_;refine st_any (by exact rfl) (sx_ixS (k:=5) rfl rfl hb5) (goW ?_);rw[u8_neI,<-atB_get (c:=58) hb5];cases y2:atB s 5 58 with
 | false =>
  refine goW ?_;exact⟨_,rfl,ret (by rw[hf,y2];rfl)⟩
 | true =>
 rw[y2,Bool.true_and]at hf;refine goW ?_;refine st_any (by exact rfl) (sx_slHiS (h:=2) rfl rfl (by omega)) (goW ?_);refine call_pf hm (by rfl) (hw (s.take 2) 0 23) (goW ?_);cases y3:withinB (s.take 2) 0 23 with
 | false =>
  refine goW ?_;exact⟨_,rfl,ret (by rw[hf,y3];rfl)⟩
 | true =>
 rw[y3,Bool.true_and]at hf;refine goW ?_;refine st_any (by exact rfl) (sx_slLH (l:=3) (h:=5) rfl rfl rfl (by omega) (by omega)) (goW ?_);rw[show (s.drop 3).take (5-3)=sub s 3 5 from rfl];refine call_pf hm (by rfl) (hw (sub s 3 5) 0 59) (goW ?_);cases y4:withinB (sub s 3 5) 0 59 with
 | false =>
  refine goW ?_;exact⟨_,rfl,ret (by rw[hf,y4];rfl)⟩
 | true =>
 rw[y4,Bool.true_and]at hf;refine goW ?_;refine st_any (by exact rfl) (sx_slLH (l:=6) (h:=8) rfl rfl rfl (by omega) (by omega)) (goW ?_);rw[show (s.drop 6).take (8-6)=sub s 6 8 from rfl];refine call_pf hm (by rfl) (hw (sub s 6 8) 0 59) (goW ?_);cases y5:withinB (sub s 6 8) 0 59 with
 | false =>
  refine goW ?_;exact⟨_,rfl,ret (by rw[hf,y5];rfl)⟩
 | true =>
 rw[y5,Bool.true_and]at hf;refine goW ?_;by_cases z8:s.length=8
 ·rw[eqI_true (show ((s.length:Nat):Int)=8 by omega)];refine goW ?_;exact⟨_,rfl,ret (by rw[hf,dT z8];rfl)⟩
 rw[eqI_false (show ¬((s.length:Nat):Int)=8 by omega)];rw[dF z8,Bool.false_or]at hf;obtain⟨b8,hb8⟩:∃b,s[8]? = some b:=⟨_,gE (by omega)⟩
 refine goW ?_;refine step_ruleO (sx_slLo (l:=9) rfl rfl (by omega)) (goW ?_);refine step_ruleO (sx_ixS (k:=8) rfl rfl hb8) (goW ?_);rw[show ((46:Int))=((46:UInt8).toNat:Int) from rfl,u8_eqI,<-atB_get (c:=46) hb8];cases y6:atB s 8 46 with
 | false =>
  refine goW ?_;exact⟨_,rfl,ret (by rw[hf,y6];rfl)⟩
 | true =>
 rw[y6,Bool.true_and]at hf;have hd9:(s.drop 9).length<=s.length:=by rw[lD];omega
 generalize s.drop 9=p at hf hd9 ⊢;refine goW ?_;by_cases z1:1<=p.length
 case neg =>
  rw[dF (show ¬((p.length:Nat):Int) ≥ 1 by omega)];refine goW ?_;exact⟨_,rfl,ret (by rw[hf,dF z1];rfl)⟩
 rw[dT (show ((p.length:Nat):Int) ≥ 1 by omega)];rw[dT z1,Bool.true_and]at hf;refine goW ?_;by_cases z9:p.length<=9
 case neg =>
  rw[dF (show ¬((p.length:Nat):Int)<=9 by omega)];refine goW ?_;exact⟨_,rfl,ret (by rw[hf,dF z9];rfl)⟩
 rw[dT (show ((p.length:Nat):Int)<=9 by omega)];rw[dT z9,Bool.true_and]at hf;refine goW ?_;refine call_pf hm (by rfl) (htr p (by omega)) (goW ?_);exact⟨_,rfl,ret hf⟩
end

def zoneB (s:List UInt8):List UInt8×List UInt8 :=
 if tl 90 s=true then (s.take (s.length-1),[90])
 else if s.length<6\/(atB s (s.length-6) 43=false/\atB s (s.length-6) 45=false) then (s,[])
 else if atB (s.drop (s.length-6)) 3 58=false\/withinB (sub (s.drop (s.length-6)) 1 3) 0 23=false\/withinB ((s.drop (s.length-6)).drop 4) 0 59=false then (s,[])
 else (s.take (s.length-6),s.drop (s.length-6))
def encZ (p:List UInt8×List UInt8):AV:=.tup [.str p.1,.str p.2]
theorem sta_Z (p:List UInt8×List UInt8):Sta (encZ p):=⟨trivial,trivial,trivial⟩
def cutC (c:UInt8):List UInt8->List UInt8×List UInt8×Bool
 | []=>([],[],false)
 | b::r=>if b == c then ([],r,true) else (b::(cutC c r).1,(cutC c r).2.1,(cutC c r).2.2)
def timeB (s:List UInt8):Bool :=
 dateB s || (clockB s || ((cutC 84 (zoneB s).1).2.2 && (dateB (cutC 84 (zoneB s).1).1 && clockB (cutC 84 (zoneB s).1).2.1)))
theorem cutC_le (c:UInt8):∀s:List UInt8,(cutC c s).1.length<=s.length/\(cutC c s).2.1.length<=s.length
 | []=>⟨nR _,nR _⟩
 | b::r=>by
  have:=cutC_le c r;simp only[cutC];split
  ·exact⟨Nat.zero_le _,by simp⟩
  ·simp only[lC];omega
theorem zoneB_le (s:List UInt8):(zoneB s).1.length<=s.length:=by
 unfold zoneB;split
 ·simp only[lT];omega
 ·split
  ·exact nR _
  ·split
   ·exact nR _
   ·simp only[lT];omega
theorem tl_len {c:UInt8}{s:List UInt8}(h:tl c s=true):1<=s.length:=by
 have:=hd_len h;rwa [List.length_reverse]at this
section
variable {gt:GT}{C:CallT}
theorem zone_wp (hm:MonoC C)(hsuf:∀(s:List UInt8) c,s.length<9223372036854775807->PF C 170 [.str s,.str [c]] (.bool (tl c s)))(hw:∀s lo hi,PF C 167 [.str s,.int .i64 lo,.int .i64 hi] (.bool (withinB s lo hi)))
  {s:List UInt8} (hl:s.length<9223372036854775807):wpF gt C F136 [.str s] St.init (Ret (encZ (zoneB s))):=by
 have ret:∀{z:List UInt8×List UInt8} {S:St},zoneB s=z->Ret (encZ (zoneB s)) (.ret (encZ z)) S:=λh=>by rw[h];exact Ret.sta (sta_Z _)
 have hf:zoneB s=if tl 90 s=true then (s.take (s.length-1),[90])
  else if s.length<6\/(atB s (s.length-6) 43=false/\atB s (s.length-6) 45=false) then (s,[])
  else if atB (s.drop (s.length-6)) 3 58=false\/withinB (sub (s.drop (s.length-6)) 1 3) 0 23=false\/withinB ((s.drop (s.length-6)).drop 4) 0 59=false then (s,[])
  else (s.take (s.length-6),s.drop (s.length-6)):=rfl
 generalize zoneB s=res at ret hf ⊢;refine⟨rfl,?_⟩;refine goW ?_;refine call_pf hm (by rfl) (hsuf s 90 hl) (goW ?_);cases y1:tl 90 s with
 | true =>
  have h1:=tl_len y1;refine goW ?_;rw[show wr .i64 ((s.length:Int)-1)=((s.length-1:Nat):Int) by rw[wr64 (by omega) (by omega)];omega];refine step_ruleO (sx_slHiS (h:=s.length-1) rfl rfl (by omega)) (goW ?_);exact⟨_,rfl,ret (z:=(s.take (s.length-1),[90])) (by rw[hf,if_pos y1])⟩
 | false =>
 rw[if_neg (by rw[y1];simp)]at hf;refine goW ?_;by_cases z6:s.length<6
 ·rw[dT (show ((s.length:Nat):Int)<6 by omega)];refine goW ?_;exact⟨_,rfl,ret (z:=(s,[])) (by rw[hf,if_pos (.inl z6)])⟩
 rw[dF (show ¬((s.length:Nat):Int)<6 by omega)];obtain⟨b6,hb6⟩:∃b,s[s.length-6]? = some b:=⟨_,gE (by omega)⟩
 have hwr:wr .i64 ((s.length:Int)-6)=((s.length-6:Nat):Int):=by rw[wr64 (by omega) (by omega)];omega
 refine goW ?_;rw[hwr];refine st_any (by exact rfl) (sx_ixS (k:=s.length-6) rfl rfl hb6) (goW ?_);rw[show ((43:Int))=((43:UInt8).toNat:Int) from rfl,u8_neI,<-atB_get (c:=43) hb6];have tail:¬(s.length<6\/(atB s (s.length-6) 43=false/\atB s (s.length-6) 45=false))->True:=λ_=>trivial
 clear tail
 have fin:¬(s.length<6\/(atB s (s.length-6) 43=false/\atB s (s.length-6) 45=false))->∀x:Env,wpD gt C F136.body.rt.rt.rt ((0,.val (.str s))::x) St.init (bodyQ gt F136.res (Ret (encZ res))):=λhno x=>by
  rw[if_neg hno]at hf
  conv=>whnf
  refine goW ?_;rw[hwr];refine step_ruleO (sx_slLo (l:=s.length-6) rfl rfl (by omega)) (goW ?_);have hz:(s.drop (s.length-6)).length=6:=by rw[lD];omega
  generalize hzz:s.drop (s.length-6)=z at hf hz ⊢;obtain⟨b3,hb3⟩:∃b,z[3]? = some b:=⟨_,gE (by omega)⟩
  refine step_ruleO (sx_ixS (k:=3) rfl rfl hb3) (goW ?_);rw[show ((58:Int))=((58:UInt8).toNat:Int) from rfl,u8_neI,<-atB_get (c:=58) hb3];cases w1:atB z 3 58 with
  | false =>
   refine goW ?_;exact⟨_,rfl,ret (z:=(s,[])) (by rw[hf,if_pos (.inl w1)])⟩
  | true =>
  refine goW ?_;refine st_any (by exact rfl) (sx_slLH (l:=1) (h:=3) rfl rfl rfl (by omega) (by omega)) (goW ?_);rw[show (z.drop 1).take (3-1)=sub z 1 3 from rfl];refine call_pf hm (by rfl) (hw (sub z 1 3) 0 23) (goW ?_);cases w2:withinB (sub z 1 3) 0 23 with
  | false =>
   refine goW ?_;exact⟨_,rfl,ret (z:=(s,[])) (by rw[hf,if_pos (.inr (.inl w2))])⟩
  | true =>
  refine goW ?_;refine st_any (by exact rfl) (sx_slLo (l:=4) rfl rfl (by omega)) (goW ?_);refine call_pf hm (by rfl) (hw (z.drop 4) 0 59) (goW ?_);cases w3:withinB (z.drop 4) 0 59 with
  | false =>
   refine goW ?_;exact⟨_,rfl,ret (z:=(s,[])) (by rw[hf,if_pos (.inr (.inr w3))])⟩
  | true =>
  refine goW ?_;rw[hwr];refine step_ruleO (sx_slHiS (h:=s.length-6) rfl rfl (by omega)) (goW ?_);exact⟨_,rfl,ret (z:=(s.take (s.length-6),z)) (by rw[hf,if_neg (by rintro (h | h | h);rw[w1]at h;cases h;rw[w2]at h;cases h;rw[w3]at h;cases h)])⟩
 cases y2:atB s (s.length-6) 43 with
 | true =>
  refine goK ?_
  with_unfolding_all exact fin (by rintro (h | ⟨h,_⟩);exact z6 h;rw[y2]at h;cases h) _
 | false =>
 refine goW ?_;rw[hwr];refine st_any (by exact rfl) (sx_ixS (k:=s.length-6) rfl rfl hb6) (goW ?_);rw[show ((45:Int))=((45:UInt8).toNat:Int) from rfl,u8_neI,<-atB_get (c:=45) hb6];cases y3:atB s (s.length-6) 45 with
 | true =>
  refine goK ?_
  with_unfolding_all exact fin (by rintro (h | ⟨_,h⟩);exact z6 h;rw[y3]at h;cases h) _
 | false =>
  refine goW ?_;exact⟨_,rfl,ret (z:=(s,[])) (by rw[hf,if_pos (.inr ⟨y2,y3⟩)])⟩
theorem time_wp (hm:MonoC C)(hd':∀s,PF C 134 [.str s] (.bool (dateB s)))(hc:∀s:List UInt8,s.length<9223372036854775807->PF C 135 [.str s] (.bool (clockB s)))
  (hz:∀s:List UInt8,s.length<9223372036854775807->PF C 136 [.str s] (encZ (zoneB s))) (hcut:∀s:List UInt8,s.length<4294967281->PF C 137 [.str s,.str [84]] (.tup [.str (cutC 84 s).1,.str (cutC 84 s).2.1,.bool (cutC 84 s).2.2]))
  {s:List UInt8} (hl:s.length<4294967281):wpF gt C F83 [.str s] St.init (Ret (.bool (timeB s))):=by
 have hzl:=zoneB_le s;have hcut:=hcut (zoneB s).1 (by omega);have hcl:=cutC_le 84 (zoneB s).1;unfold timeB;refine⟨rfl,?_⟩;refine goW ?_;refine call_pf hm (by rfl) (hd' s) (goW ?_);cases y1:dateB s with
 | true =>
  refine goW ?_;exact⟨_,rfl,Ret.sta trivial⟩
 | false =>
 refine goW ?_;refine call_pf hm (by rfl) (hc s (by omega)) (goW ?_);cases y2:clockB s with
 | true =>
  refine goW ?_;exact⟨_,rfl,Ret.sta trivial⟩
 | false =>
 refine goW ?_;refine call_pf hm (by rfl) (hz s (by omega)) (goW ?_);refine call_pf hm (by rfl) hcut ?_;generalize cutC 84 (zoneB s).1=q at hcl ⊢;obtain⟨d,c,k⟩:=q;refine goW ?_;cases k with
 | false =>
  refine goW ?_;exact⟨_,rfl,Ret.sta trivial⟩
 | true =>
 refine goW ?_;refine call_pf hm (by rfl) (hd' d) (goW ?_);cases y3:dateB d with
 | false =>
  refine goW ?_;exact⟨_,rfl,by simp only[y3];exact Ret.sta trivial⟩
 | true =>
 refine goW ?_;refine call_pf hm (by rfl) (hc c (by simp only at hcl;omega)) (goW ?_);exact⟨_,rfl,by simp only[y3];exact Ret.sta trivial⟩
end

section
variable {gt:GT}{C:CallT}
theorem hasSuf0_wp {s:List UInt8}{c:UInt8}(hl:s.length<9223372036854775807):wpF gt C F197 [.str s,.str [c]] St.init (Ret (.bool (tl c s))):=by
 refine⟨rfl,?_⟩;refine goW ?_;by_cases z:1<=s.length
 case neg =>
  have:s=[]:=List.length_eq_zero_iff.1 (by omega);subst this;rw[dF (show ¬((([]:List UInt8).length:Nat):Int) ≥ (([c]:List UInt8).length:Nat) by simp)];refine goW ?_;exact⟨_,rfl,Ret.sta trivial⟩
 rw[dT (show ((s.length:Nat):Int) ≥ (([c]:List UInt8).length:Nat) by simp only[lC,lN];omega)];refine goW ?_;rw[show wr .i64 ((s.length:Int)-(([c]:List UInt8).length:Nat))=((s.length-1:Nat):Int) by simp only[lC,lN];rw[wr64 (by omega) (by omega)];omega];refine st_any (by exact rfl) (sx_slLo (l:=s.length-1) rfl rfl (by omega)) (goW ?_);obtain⟨lb,hlb⟩:∃lb,s[s.length-1]? = some lb:=⟨_,gE (by omega)⟩
 have hd1:s.drop (s.length-1)=[lb]:=by
  rw[dC (show s.length-1<s.length by omega),List.drop_eq_nil_of_le (by omega)];rw[gE (show s.length-1<s.length by omega)]at hlb;simp only[oI]at hlb;rw[hlb]
 refine⟨_,rfl,?_⟩;rw[hd1,beqB_one,tl_last hlb (by omega)];exact Ret.sta trivial
theorem hasSuf_wp (hm:MonoC C)(h:∀(s:List UInt8) c,s.length<9223372036854775807->PF C 197 [.str s,.str [c]] (.bool (tl c s))){s:List UInt8}{c:UInt8}(hl:s.length<9223372036854775807):wpF gt C F170 [.str s,.str [c]] St.init (Ret (.bool (tl c s))):=by
 refine⟨rfl,?_⟩;refine goW ?_;refine call_pf hm (by rfl) (h s c hl) (goW ?_);exact⟨_,rfl,Ret.sta trivial⟩
end

def mpE (l:List (List UInt8×Int)):List (AV×AV):=l.map λp=>(.str p.1,.int .i64 p.2)
def posS (k:List UInt8):List (List UInt8×Int)->Nat->Option (Nat×Int)
 | [],_=>none
 | (k',v)::r,i=>if k=k' then some (i,v) else posS k r (i+1)
theorem fk (k:List UInt8):∀(l:List (List UInt8×Int)) (i:Nat),findK .str (.str k) (mpE l) i=some ((posS k l i).map λp=>(p.1,AV.int .i64 p.2))
 | [],_=>rfl
 | (k',v)::r,i=>by
  have ih:=fk k r (i+1);simp only[mpE,List.map_cons,findK,eqv,eqStr,posS]at ih ⊢;by_cases h:k=k'
  ·rw[beqB_true h,if_pos h];rfl
  ·rw[beqB_false h,if_neg h];exact ih
theorem posS_lt {k:List UInt8}:∀{l:List (List UInt8×Int)} {i j:Nat} {v:Int},posS k l i=some (j,v)->i<=j/\j<i+l.length/\l[j-i]? = some (k,v)
 | (k',v')::r,i,j,v,h=>by
  simp only[posS]at h;split at h
  ·rename_i e;simp only[oI,Prod.mk.injEq]at h;obtain⟨rfl,rfl⟩:=h;subst e;exact⟨nR _,by simp,by simp⟩
  ·obtain⟨h1,h2,h3⟩:=posS_lt h;refine⟨by omega,by simp only[lC];omega,?_⟩;rw[show j-i=(j-(i+1))+1 by omega,List.getElem?_cons_succ];exact h3
theorem posS_none {k:List UInt8}:∀{l:List (List UInt8×Int)} {i:Nat},posS k l i=none↔k ∉ l.map Prod.fst
 | [],i=>by simp[posS]
 | (k',v')::r,i=>by
  simp only[posS,List.map_cons,List.mem_cons,not_or];split
  ·rename_i e;simp[e]
  ·rename_i e;rw[posS_none];simp[e]
theorem posS_app {k:List UInt8}{v:Int}:∀{l:List (List UInt8×Int)} {i:Nat},posS k l i=none->posS k (l++[(k,v)]) i=some (i+l.length,v)
 | [],i,_=>by simp[posS]
 | (k',v')::r,i,h=>by
  simp only[posS,List.cons_append,lC]at h ⊢;split at h
  ·cases h
  ·rename_i e;rw[if_neg e,posS_app h];congr 2;omega
theorem posS_set {k:List UInt8}{v w:Int}:∀{l:List (List UInt8×Int)} {i j:Nat},posS k l i=some (j,v)->posS k (l.set (j-i) (k,w)) i=some (j,w)
 | (k',v')::r,i,j,h=>by
  have hlt:=posS_lt h;simp only[posS]at h;split at h
  ·rename_i e;simp only[oI,Prod.mk.injEq]at h;obtain⟨rfl,rfl⟩:=h;simp[posS]
  ·rename_i e;have h3:=posS_lt h;rw[show j-i=(j-(i+1))+1 by omega,List.set_cons_succ];simp only[posS];rw[if_neg e];exact posS_set h

theorem wrap8 {n:Nat}(h:n<256):IntKind.wrap .u8 (n:Int)=n:=by
 refine inR_wrap ?_;simp only[inR];exact Nat.ble_eq_true_of_le (by omega)
theorem wrap64 {n:Nat}(h:n<9223372036854775808):IntKind.wrap .i64 (n:Int)=n:=by
 refine inR_wrap ?_;simp only[inR];exact Nat.ble_eq_true_of_le (by omega)
theorem step63 {acc:Nat}(x:UInt8)(h1:128<=x.toNat)(h2:x.toNat<192)(ha:acc<1125899906842624) :
  IntKind.wrap .i64 ((BitVec.ofInt (IntKind.bits .i64) (wr .i64 ((acc:Int)*2 ^ (min (Int.toNat 6) (IntKind.bits .i64)))) ||| BitVec.ofInt (IntKind.bits .i64) (wr .i64 (IntKind.wrap .u8 ((BitVec.ofInt (IntKind.bits .u8) (x.toNat:Int) &&& BitVec.ofInt (IntKind.bits .u8) 63).toNat:Int)))).toNat:Int)=((acc*64+(x.toNat-128):Nat):Int):=by
 have e1:wr .i64 ((acc:Int)*2 ^ (min (Int.toNat 6) (IntKind.bits .i64)))=((acc*64:Nat):Int):=by
  rw[show min (Int.toNat 6) (IntKind.bits .i64)=6 by decide,show ((2:Int) ^ 6)=64 by decide,wr64 (by omega) (by omega)];omega
 have e2:wr .i64 (IntKind.wrap .u8 ((BitVec.ofInt (IntKind.bits .u8) (x.toNat:Int) &&& BitVec.ofInt (IntKind.bits .u8) 63).toNat:Int))=((x.toNat-128:Nat):Int):=by
  have:=and63 x h1 h2;rw[show IntKind.bits .u8=8 from rfl,this,wrap8 (by omega),wr64 (by omega) (by omega)]
 rw[e1,e2,show IntKind.bits .i64=64 from rfl,or_add (by omega) (by omega),wrap64 (by omega)]
section
variable {gt:GT}{C:CallT}
abbrev E_first (s:List UInt8)(acc n least i:Int):Env:=[(0,.val (.str s)),(2,.val (.int .i64 acc)),(3,.val (.int .i64 n)),(4,.val (.int .i64 least)),(5,.val (.int .i64 i))]
theorem first_wp (hm:MonoC C)(hrow:∀b:UInt8,PF C 172 [.int .u8 b.toNat] (encLead (leadB b.toNat)))(hch:∀c:Int,PF C 173 [.int .i64 c] (.bool (charB c)))
  {s:List UInt8} (hl:s.length<4611686018427387904):wpF gt C F138 [.str s] St.init (Ret (encFirst (firstC s))):=by
 have zero:∀{S:St},firstC s=(0,0)->Ret (encFirst (firstC s)) (.ret (.tup [.int .i64 0,.int .i64 0])) S:=λh=>by rw[h];exact Ret.sta ⟨trivial,trivial,trivial⟩
 cases s with
 | nil =>
  refine⟨rfl,?_⟩;refine goW ?_;exact⟨_,rfl,zero rfl⟩
 | cons b r =>
 have hrow:=hrow b;have hlb:=leadB_le b.toNat (u8_lt b);have hf:firstC (b::r)=if (leadB b.toNat).1=0\/r.length+1<(leadB b.toNat).1 then (0,0) else match contV ((leadB b.toNat).1-1) r (leadB b.toNat).2.1 with
   | none=>(0,0)
   | some c=>if c<(leadB b.toNat).2.2\/charB c=false then (0,0) else (c,(leadB b.toNat).1):=rfl
 generalize leadB b.toNat=p at hrow hlb hf;obtain⟨n,bits,least⟩:=p;simp only at hlb hf;simp only[lC]at hl;refine⟨rfl,?_⟩;refine goW ?_;refine call_pf hm (by rfl) hrow (goW ?_);by_cases z:(n:Int)=0
 ·rw[eqI_true z];refine goW ?_;exact⟨_,rfl,zero (by rw[hf,if_pos (.inl (by omega))])⟩
 rw[eqI_false z];refine goW ?_;by_cases z2:(n:Int) > ((b::r).length:Int)
 ·rw[dT z2];refine goW ?_;exact⟨_,rfl,zero (by rw[hf,if_pos (.inr (by simp only[lC]at z2;omega))])⟩
 rw[dF z2];refine goW ?_;simp only[lC]at z2;rw[if_neg (by omega)]at hf;refine loop_rule hm (α:=Nat×Nat) (λa env S'=>1<=a.1/\a.1<=n/\a.2<128*64 ^ (a.1-1)/\env=E_first (b::r) a.2 n least a.1/\S'=St.init/\contV (n-1) r bits=contV (n-a.1) (r.drop (a.1-1)) a.2) (λa=>n-a.1) ?_ (a:=(1,bits)) ⟨nR _,by simp only;omega,by simpa using hlb.2,rfl,rfl,rfl⟩;rintro⟨i,acc⟩ env S' ⟨h1,hi,hacc,rfl,rfl,hp⟩;simp only at h1 hi hacc hp;refine goW ?_;have hpow:64 ^ (i-1)<=64 ^ 3:=Nat.pow_le_pow_right (by decide) (by omega);have hsmall:acc<33554432:=by
  have:128*64 ^ (i-1)<=128*64 ^ 3:=Nat.mul_le_mul_left _ hpow;have e:128*64 ^ 3=33554432:=by decide
  omega
 by_cases hc:(i:Int)<n
 ·rw[dT hc];refine goW ?_;have hik:i-1<r.length:=by omega
  have hgb:(b::r)[i]? = some r[i-1]:=by
   obtain⟨j,rfl⟩:∃j,i=j+1:=⟨i-1,by omega⟩
   rw[List.getElem?_cons_succ];exact gE hik
  rw[show n-i=(n-(i+1))+1 by omega,contV_step hik]at hp;refine step_ruleO (sx_ixS rfl rfl hgb) (goW ?_);have hs6:=shr6 r[i-1];rw[show min (Int.toNat 6) (IntKind.bits .u8)=6 by decide,hs6];by_cases hx:128<=r[i-1].toNat/\r[i-1].toNat<192
  ·rw[dT hx];refine goW ?_;refine step_ruleO (sx_ixS rfl rfl hgb) (goW ?_);rw[step63 r[i-1] hx.1 hx.2 (by omega)];rw[if_pos hx]at hp;refine⟨(i+1,acc*64+(r[i-1].toNat-128)),⟨by simp only;omega,by simp only;omega,?_,?_,rfl,?_⟩,by simp only;omega⟩
   ·simp only;rw[show i+1-1=(i-1)+1 by omega,Nat.pow_succ];omega
   ·rw[wrNat (by omega)]
   ·simp only;rw[hp,show i+1-1=i-1+1 by omega]
  ·rw[dF hx];refine goW ?_;rw[if_neg hx]at hp;exact⟨_,rfl,zero (by rw[hf,hp])⟩
 rw[dF hc];obtain rfl:i=n:=by omega
 rw[Nat.sub_self,show contV 0 (r.drop (i-1)) acc=some acc from rfl]at hp;simp only[hp]at hf;refine goW ?_;by_cases hle:(acc:Int)<least
 ·rw[dT hle];refine goW ?_;exact⟨_,rfl,zero (by rw[hf,if_pos (.inl (by omega))])⟩
 rw[dF hle];refine goW ?_;refine call_pf hm (by rfl) (hch acc) (goW ?_);cases hcb:charB acc with
 | false =>
  refine goW ?_;exact⟨_,rfl,zero (by rw[hf,if_pos (.inr hcb)])⟩
 | true =>
  refine goW ?_;refine⟨_,rfl,?_⟩;rw[hf,if_neg (by rw[hcb];simp;omega)];exact Ret.sta ⟨trivial,trivial,trivial⟩
theorem firstC_le:∀s:List UInt8,(firstC s).2<=s.length
 | []=>nR _
 | b::r=>by
  simp only[firstC];split
  ·exact Nat.zero_le _
  ·split
   ·exact Nat.zero_le _
   ·split
    ·exact Nat.zero_le _
    ·simp only[lC];omega
def badI (s:List UInt8)(at_:Nat):Int :=
 if h:s=[] then -1 else if h0:(firstC s).2=0 then at_ else badI (s.drop (firstC s).2) (at_+(firstC s).2)
termination_by s.length
decreasing_by
 have:0<s.length:=List.length_pos_iff.2 h;simp only[lD];omega
theorem badI_nil (a:Nat):badI [] a=-1:=by rw[badI];simp
theorem badI_bad {s:List UInt8}{a:Nat}(h:s≠[])(h0:(firstC s).2=0):badI s a=a:=by rw[badI,dif_neg h,dif_pos h0]
theorem badI_go {s:List UInt8}{a:Nat}(h:s≠[])(h0:(firstC s).2≠0):badI s a=badI (s.drop (firstC s).2) (a+(firstC s).2):=by rw[badI,dif_neg h,dif_neg h0]
def validB (s:List UInt8):Bool:=decide (badI s 0<0)
abbrev E_bad (s:List UInt8)(i:Int):Env:=[(0,.val (.str s)),(3,.val (.int .i64 i))]
theorem bad_wp (hm:MonoC C)(hfst:∀s:List UInt8,s.length<4611686018427387904->PF C 138 [.str s] (encFirst (firstC s))){s:List UInt8}(hl:s.length<4611686018427387904) :
  wpF gt C F86 [.str s] St.init (Ret (.int .i64 (badI s 0))):=by
 refine⟨rfl,?_⟩;refine goW ?_;refine loop_rule hm (α:=Nat) (λi env S'=>i<=s.length/\env=E_bad s i/\S'=St.init/\badI s 0=badI (s.drop i) i) (λi=>s.length-i) ?_ (a:=0) ⟨Nat.zero_le _,rfl,rfl,rfl⟩;rintro i env S' ⟨hi,rfl,rfl,hp⟩;refine goW ?_;by_cases hc:(i:Int)<s.length
 ·rw[dT hc];refine goW ?_;have hik:i<s.length:=by omega
  have hne:s.drop i≠[]:=λh=>by have:=congrArg List.length h;simp at this;omega
  have hle:=firstC_le (s.drop i);rw[lD]at hle;have hcall:=hfst (s.drop i) (by rw[lD];omega);unfold encFirst at hcall;refine step_ruleO (sx_slLo (l:=i) rfl rfl hi) (goW ?_);refine call_pf hm (by rfl) hcall (goW ?_);by_cases z:((firstC (s.drop i)).2:Int)=0
  ·rw[eqI_true z];refine goW ?_;refine⟨_,rfl,?_⟩;rw[hp,badI_bad hne (by omega)];exact Ret.sta trivial
  ·rw[eqI_false z];refine goW ?_;refine⟨i+(firstC (s.drop i)).2,⟨by omega,?_,rfl,?_⟩,by omega⟩
   ·rw[wr64 (by omega) (by omega)];rfl
   ·rw[hp,badI_go hne (by omega),List.drop_drop]
 ·rw[dF hc];refine goW ?_;refine⟨_,rfl,?_⟩;rw[hp,List.drop_eq_nil_of_le (by omega),badI_nil];exact Ret.sta trivial
theorem validP_wp (hm:MonoC C)(hbad:∀s:List UInt8,s.length<4611686018427387904->PF C 86 [.str s] (.int .i64 (badI s 0))){s:List UInt8}(hl:s.length<4611686018427387904) :
  wpF gt C F82 [.str s] St.init (Ret (.bool (validB s))):=by
 refine⟨rfl,?_⟩;refine goW ?_;refine call_pf hm (by rfl) (hbad s hl) (goW ?_);exact⟨_,rfl,Ret.sta trivial⟩
end

theorem sx_lkpS {gt:GT}{d:Option Nat}{env:Env}{S:St}{R:List Rs}{m k:DOpd}{z:AV}{id:Nat}{l:List (List UInt8×Int)}{s:List UInt8}(hR:Hs S R)(i:Nat)(hi:R[i]? = some (.mp id (mpE l)))(hm:opd env m=some (.map id))(hk:opd env k=some (.str s)) :
  stepO gt d env S (.lkp .str z m k false)=.done (putV d (match posS s l 0 with | some p=>.int .i64 p.2 | none=>z) env) S:=by
 have hl:=(hR.ok i _ hi).2;simp only[stepO,hm,hk,keyV,cond_true,hl,fk];cases posS s l 0<;>rfl
def putS (s:List UInt8)(v:Int)(l:List (List UInt8×Int)):List (List UInt8×Int) :=
 match posS s l 0 with
 | some p=>l.set p.1 (s,v)
 | none=>l++[(s,v)]
theorem r_mupS {gt:GT}{d:Option Nat}{env:Env}{S:St}{R:List Rs}{m k x:DOpd}{id:Nat}{l:List (List UInt8×Int)}{s:List UInt8}{v:Int}(hR:Hs S R)(i:Nat)(hi:R[i]? = some (.mp id (mpE l)))(hm:opd env m=some (.map id))(hk:opd env k=some (.str s))(hx:opd env x=some (.int .i64 v)) :
  ∃S',stepO gt d env S (.mup .str m k x)=.done (putV d .undef env) S'/\Hs S' (R.set i (.mp id (mpE (putS s v l)))):=by
 have hl:=(hR.ok i _ hi).2;refine⟨_,?_,hR.mapTo hi (mpE (putS s v l))⟩;simp only[stepO,hm,hk,hx,keyV,cond_true,hl,fk,putS];cases hp:posS s l 0 with
 | none=>simp only[Option.map_none];simp[mpE]
 | some p =>
  obtain⟨j,w⟩:=p;obtain⟨_,h2,h3⟩:=posS_lt hp;rw[Nat.sub_zero]at h3;have:keyAt .str (mpE l) j=true:=by simp[keyAt,mpE,h3,keyV]
  simp only[Option.map_some,this,cond_true];simp[mpE,List.map_set]
def unlikeB:List (List UInt8)->List (List UInt8)->Bool
 | _,[]=>true
 | seen,s::r=>if s∈seen then false else validB s && unlikeB (seen++[s]) r
theorem hs_mkm0:Hs { St.init with nm:=St.init.nm+1,maps:=(St.init.nm,[])::St.init.maps } [.mp St.init.nm []]:=by
 obtain⟨id,S',e,h⟩:=hs_mkm (gt:=[]) (d:=none) (env:=[]) Hs.init;simp only[stepO,SR.done.injEq]at e;obtain⟨_,rfl⟩:=e;have h2:=(h.ok 0 _ rfl).2;have h1:=(h.ok 0 _ rfl).1;have:id=0:=by simp[St.init]at h1;omega
 subst this;exact h
def ones (l:List (List UInt8)):List (List UInt8×Int):=l.map λs=>(s,1)
theorem posS_ones {s:List UInt8}{l:List (List UInt8)}(h:s∈l):∃j,posS s (ones l) 0=some (j,1):=by
 cases hp:posS s (ones l) 0 with
 | none =>
  have:=posS_none.1 hp;simp[ones]at this;exact absurd h this
 | some p =>
  obtain⟨j,v⟩:=p;obtain⟨_,_,h3⟩:=posS_lt hp;simp only[ones,List.getElem?_map,Option.map_eq_some_iff,Prod.mk.injEq]at h3;obtain⟨_,_,_,rfl⟩:=h3;exact⟨j,rfl⟩
theorem posS_no {s:List UInt8}{l:List (List UInt8)}(h:s ∉ l):posS s (ones l) 0=none:=posS_none.2 (by simp[ones];exact h)
section
variable {gt:GT}{C:CallT}
abbrev E_unl (id:Nat)(keys:List (List UInt8))(i:Int):Env:=[(3,.val (.map id)),(7,.val (.sl 1 stat (strs keys))),(8,.val (.int .i64 (strs keys).length)),(9,.val (.int .i64 i))]
theorem unlike_wp (hm:MonoC C)(hv:∀s:List UInt8,s.length<4611686018427387904->PF C 82 [.str s] (.bool (validB s))){keys:List (List UInt8)}(hk:∀s∈keys,s.length<4611686018427387904)(hl:keys.length<9223372036854775807) :
  wpF gt C F84 [.sl 1 stat (strs keys)] St.init (Ret (.bool (unlikeB [] keys))):=by
 have hlen:=strs_length keys;refine⟨rfl,?_⟩;refine goW ?_;have hR:=hs_mkm0;refine loop_rule hm (α:=Nat) (λi env S'=>i<=keys.length/\Hs S' [.mp 0 (mpE (ones (keys.take i)))]/\env=E_unl 0 keys i/\unlikeB [] keys=unlikeB (keys.take i) (keys.drop i)) (λi=>keys.length-i) ?_ (a:=0) ⟨Nat.zero_le _,hR,rfl,rfl⟩;rintro i env S' ⟨hi,hR,rfl,hp⟩;refine goW ?_;by_cases hc:(i:Int)<(strs keys).length
 ·rw[dT hc];refine goW ?_;have hik:i<keys.length:=by omega
  refine step_ruleO (sx_ia (k:=i) rfl rfl (by omega)) (goW ?_);have hge:(strs keys)[i]? = some (.str keys[i]):=by simp[strs,hik]
  refine step_ruleO (sx_ldEl (agg:=false) rfl rfl hge rfl) (goW ?_);have hkl:=hk keys[i] (List.getElem_mem hik);have htk:keys.take (i+1)=keys.take i++[keys[i]]:=tS hik;rw[dC hik]at hp;simp only[unlikeB]at hp;generalize keys[i]=s at hp hkl htk ⊢;refine step_ruleO (sx_lkpS hR 0 rfl rfl rfl) ?_;by_cases hs:s∈keys.take i
  ·obtain⟨j,hj⟩:=posS_ones hs;rw[if_pos hs]at hp;rw[hj];refine goW ?_;rw[show wr .i64 ((1:Int)+1)=2 from rfl];refine st_runP (r_mupS hR 0 rfl rfl rfl rfl) trivial ?_;intro S2 hR;refine goW ?_;refine step_ruleO (sx_lkpS hR 0 rfl rfl rfl) ?_;rw[show posS s (putS s 2 (ones (keys.take i))) 0=some (j,2) by unfold putS;rw[hj];exact posS_set hj];refine goW ?_;exact⟨_,rfl,by rw[hp];exact Ret.sta trivial⟩
  ·have hj:=posS_no hs;rw[if_neg hs]at hp;rw[hj];refine goW ?_;rw[show wr .i64 ((0:Int)+1)=1 from rfl];refine st_runP (r_mupS hR 0 rfl rfl rfl rfl) trivial ?_;intro S2 hR;refine goW ?_;refine step_ruleO (sx_lkpS hR 0 rfl rfl rfl) ?_;have hput:putS s 1 (ones (keys.take i))=ones (keys.take (i+1)):=by unfold putS;rw[hj,htk];simp[ones]
   rw[show posS s (putS s 1 (ones (keys.take i))) 0=some (0+(ones (keys.take i)).length,1) by unfold putS;rw[hj];exact posS_app hj];rw[hput]at hR;refine goW ?_;refine call_pf hm (by rfl) (hv s hkl) (goW ?_);cases hvb:validB s with
   | false =>
    refine goW ?_;exact⟨_,rfl,by rw[hp,hvb];exact Ret.sta trivial⟩
   | true =>
    refine goW ?_;rw[hvb,Bool.true_and]at hp;refine⟨i+1,⟨by omega,hR,?_,by rw[hp,htk]⟩,by omega⟩;rw[wrNat (by omega)]
 ·rw[dF hc];refine goW ?_;refine⟨_,rfl,?_⟩;rw[hp,List.drop_eq_nil_of_le (by omega)];exact Ret.sta trivial
end

def shapeB (k:Int)(s:List UInt8)(keys:List (List UInt8))(n:Nat):Bool :=
 if k=1 then (decide (keys.length=0) && decide (n=0)) && beqB s []
 else if k=2 then (decide (keys.length=0) && decide (n=0)) && (beqB s [116,114,117,101] || beqB s [102,97,108,115,101])
 else if k=3 then (decide (keys.length=0) && decide (n=0)) && (decide ((normB s).2=0) && beqB (normB s).1 s)
 else if k=4 then (decide (keys.length=0) && decide (n=0)) && validB s
 else if k=5 then (decide (keys.length=0) && decide (n=0)) && timeB s
 else if k=6 then beqB s [] && decide (keys.length=0)
 else if k=7 then beqB s [] && (decide (keys.length=n) && unlikeB [] keys)
 else false
mutual
def formedB:PT->Bool
 |.mk k s keys kids=>formedBs kids && shapeB k s keys kids.length
def formedBs:List PT->Bool
 | []=>true
 | t::r=>formedB t && formedBs r
end
mutual
def PT.sok:PT->Prop
 |.mk _ s keys kids=>s.length<4294967281/\(∀q∈keys,q.length<4294967281)/\keys.length<4611686018427387904/\kids.length<4611686018427387904/\PT.soks kids
def PT.soks:List PT->Prop
 | []=>True
 | t::r=>PT.sok t/\PT.soks r
end

theorem PT.soks_get:∀{l:List PT} {i:Nat} (h:i<l.length),PT.soks l->(l[i]).sok
 | a::r,0,_,h=>by simp only[PT.soks]at h;exact h.1
 | a::r,i+1,hi,h=>by simp only[PT.soks]at h;exact PT.soks_get (l:=r) (i:=i) (by simpa using hi) h.2
section
variable {gt:GT}{C:CallT}
abbrev E_formed (t:PT)(kids:List PT)(i:Int):Env:=[(1,.box (encT t).cells),(9,.val (.sl 4 stat (encTs kids))),(10,.val (.int .i64 (encTs kids).length)),(11,.val (.int .i64 i))]
theorem formed_wp (hm:MonoC C)(hn:∀s:List UInt8,s.length<4294967281->PF C 81 [.str s] (encJoin (normB s)))(hv:∀s:List UInt8,s.length<4294967281->PF C 82 [.str s] (.bool (validB s)))
  (ht:∀s:List UInt8,s.length<4294967281->PF C 83 [.str s] (.bool (timeB s))) (hu:∀keys:List (List UInt8),(∀s∈keys,s.length<4294967281)->keys.length<9223372036854775807->PF C 84 [.sl 1 stat (strs keys)] (.bool (unlikeB [] keys)))
  {t:PT} (ih:∀u,u.n<t.n->u.sok->PF C 50 [encT u] (.bool (formedB u))) (hk:t.sok):wpF gt C F50 [encT t] St.init (Ret (.bool (formedB t))):=by
 obtain⟨k,s,keys,kids⟩:=t;simp only[PT.sok]at hk;obtain⟨q1,q2,q3,q5,q4⟩:=hk;have ret:∀{z:Bool} {S:St},formedB (.mk k s keys kids)=z->Ret (.bool (formedB (.mk k s keys kids))) (.ret (.bool z)) S:=λh=>by rw[h];exact Ret.sta trivial
 have hf:formedB (.mk k s keys kids)=(formedBs kids && shapeB k s keys kids.length):=rfl;generalize formedB (.mk k s keys kids)=res at ret hf ⊢;have l1:=encTs_len kids;have l2:=strs_length keys;refine⟨rfl,?_⟩;refine goW ?_;refine loop_rule hm (α:=Nat) (λi env S'=>i<=kids.length/\env=E_formed (.mk k s keys kids) kids i/\S'=St.init/\formedBs kids=formedBs (kids.drop i)) (λi=>kids.length-i) ?_ (a:=0) ⟨Nat.zero_le _,rfl,rfl,rfl⟩;rintro i env S' ⟨hi,rfl,rfl,hp⟩;refine goW ?_;by_cases hc:(i:Int)<(encTs kids).length
 ·rw[dT hc];refine goW ?_;have hik:i<kids.length:=by omega
  refine step_ruleO (sx_ia (k:=i) rfl rfl (by omega)) (goW ?_);refine step_ruleO (sx_ldEl (agg:=true) rfl rfl (encTs_get hik) (rdT _)) ?_;have ihk:=ih _ (kid_lt hik) (PT.soks_get hik q4);obtain⟨ka,sa,xa,ya,he⟩:=encT_agg kids[i];rw[he]at ihk ⊢;rw[dC hik]at hp;simp only[formedBs]at hp;generalize formedB kids[i]=fk at ihk hp;refine goW ?_;refine call_pf hm (by rfl) ihk (goW ?_);cases fk with
  | false =>
   refine goW ?_;exact⟨_,rfl,ret (by rw[hf,hp];rfl)⟩
  | true =>
   refine goW ?_;refine⟨i+1,⟨by omega,?_,rfl,by rw[hp,Bool.true_and]⟩,by omega⟩;rw[wrNat (by omega)]
 rw[dF hc];rw[hp,List.drop_eq_nil_of_le (by omega)]at hf;simp only[formedBs,Bool.true_and]at hf
 clear hp
 refine goW ?_;have fin:∀bare:Bool,bare=(decide (keys.length=0) && decide (kids.length=0))->∀x:Env,wpD gt C F50.body.rt.rt.rt ((1,.box (encT (.mk k s keys kids)).cells)::(5,.val (.bool bare))::x) St.init (bodyQ gt F50.res (Ret (.bool res))):=λbare hb x=>by
  unfold shapeB at hf;rw[<-hb]at hf
  conv=>whnf
  refine goW ?_;by_cases k1:k=1
  ·rw[eqI_true k1];rw[if_pos k1]at hf;refine goW ?_;cases bare with
   | false =>
    refine goW ?_;exact⟨_,rfl,ret hf⟩
   | true =>
    refine goW ?_;exact⟨_,rfl,ret hf⟩
  rw[eqI_false k1];rw[if_neg k1]at hf;refine goW ?_;by_cases k2:k=2
  ·rw[eqI_true k2];rw[if_pos k2]at hf;refine goW ?_;cases bare with
   | false =>
    refine goW ?_;exact⟨_,rfl,ret hf⟩
   | true =>
    refine goW ?_;cases hb1:beqB s [116,114,117,101] with
    | true =>
     rw[hb1]at hf;refine goW ?_;exact⟨_,rfl,ret hf⟩
    | false =>
     rw[hb1]at hf;refine goW ?_;exact⟨_,rfl,ret hf⟩
  rw[eqI_false k2];rw[if_neg k2]at hf;refine goW ?_;by_cases k3:k=3
  ·rw[eqI_true k3];rw[if_pos k3]at hf;refine goW ?_;have hns:=hn s q1;generalize normB s=nb at hns hf;obtain⟨ns,ne⟩:=nb;simp only at hf;refine call_pf hm (by rfl) hns (goW ?_);cases bare with
   | false =>
    refine goW ?_;exact⟨_,rfl,ret hf⟩
   | true =>
    refine goW ?_;by_cases he:ne=0
    ·rw[eqI_true he];rw[dT he]at hf;refine goW ?_;exact⟨_,rfl,ret hf⟩
    ·rw[eqI_false he];rw[dF he]at hf;refine goW ?_;exact⟨_,rfl,ret hf⟩
  rw[eqI_false k3];rw[if_neg k3]at hf;refine goW ?_;by_cases k4:k=4
  ·rw[eqI_true k4];rw[if_pos k4]at hf;refine goW ?_;cases bare with
   | false =>
    refine goW ?_;exact⟨_,rfl,ret hf⟩
   | true =>
    refine goW ?_;refine call_pf hm (by rfl) (hv s q1) (goW ?_);exact⟨_,rfl,ret hf⟩
  rw[eqI_false k4];rw[if_neg k4]at hf;refine goW ?_;by_cases k5:k=5
  ·rw[eqI_true k5];rw[if_pos k5]at hf;refine goW ?_;cases bare with
   | false =>
    refine goW ?_;exact⟨_,rfl,ret hf⟩
   | true =>
    refine goW ?_;refine call_pf hm (by rfl) (ht s q1) (goW ?_);exact⟨_,rfl,ret hf⟩
  rw[eqI_false k5];rw[if_neg k5]at hf;refine goW ?_;by_cases k6:k=6
  ·rw[eqI_true k6];rw[if_pos k6]at hf;refine goW ?_;cases hs:beqB s [] with
   | false =>
    rw[hs]at hf;refine goW ?_;exact⟨_,rfl,ret hf⟩
   | true =>
    rw[hs]at hf;refine goW ?_;refine⟨_,rfl,ret ?_⟩;rw[hf,Bool.true_and,l2,Bool.eq_iff_iff];simp
  rw[eqI_false k6];rw[if_neg k6]at hf;refine goW ?_;by_cases k7:k=7
  ·rw[eqI_true k7];rw[if_pos k7]at hf;refine goW ?_;cases hs:beqB s [] with
   | false =>
    rw[hs]at hf;refine goW ?_;exact⟨_,rfl,ret hf⟩
   | true =>
    rw[hs]at hf;refine goW ?_;by_cases hkk:keys.length=kids.length
    ·rw[eqI_true (show (((strs keys).length:Nat):Int)=(encTs kids).length by omega)];rw[dT hkk]at hf;refine goW ?_;refine call_pf hm (by rfl) (hu keys q2 (by omega)) (goW ?_);exact⟨_,rfl,ret hf⟩
    ·rw[eqI_false (show ¬(((strs keys).length:Nat):Int)=(encTs kids).length by omega)];rw[dF hkk]at hf;refine goW ?_;exact⟨_,rfl,ret hf⟩
  rw[eqI_false k7];rw[if_neg k7]at hf;refine goW ?_;exact⟨_,rfl,ret hf⟩
 by_cases b1:keys.length=0
 ·rw[eqI_true (show (((strs keys).length:Nat):Int)=0 by omega)];refine goK ?_
  with_unfolding_all exact fin (((encTs kids).length:Int) == 0) (by rw[dT b1,Bool.true_and,l1,Bool.eq_iff_iff];simp) _
 ·rw[eqI_false (show ¬(((strs keys).length:Nat):Int)=0 by omega)];refine goK ?_
  with_unfolding_all exact fin false (by rw[dF b1];rfl) _
end

mutual
def PT.dp:PT->Nat
 |.mk _ _ _ kids=>PT.dps kids+1
def PT.dps:List PT->Nat
 | []=>0
 | t::r=>max (PT.dp t) (PT.dps r)
end
mutual
theorem PT.dp_le:∀t:PT,t.dp<=t.n
 |.mk _ _ _ kids=>by have:=PT.dps_le kids;simp only[PT.dp,PT.n];omega
theorem PT.dps_le:∀l:List PT,PT.dps l<=PT.ns l
 | []=>nR _
 | t::r=>by have:=PT.dp_le t;have:=PT.dps_le r;simp only[PT.dps,PT.ns];omega
end
theorem PT.dps_app:∀a b:List PT,PT.dps (a++b)=max (PT.dps a) (PT.dps b)
 | [],b=>by simp[PT.dps]
 | t::r,b=>by simp only[List.cons_append,PT.dps,PT.dps_app r b];omega
theorem PT.ns_app:∀a b:List PT,PT.ns (a++b)=PT.ns a+PT.ns b
 | [],b=>by simp[PT.ns]
 | t::r,b=>by simp only[List.cons_append,PT.ns,PT.ns_app r b];omega
theorem PT.len_ns:∀l:List PT,l.length<=PT.ns l
 | []=>nR _
 | t::r=>by
  have:=PT.len_ns r;have:1<=t.n:=by cases t;simp only[PT.n];omega
  simp only[PT.ns,lC];omega
section
variable {gt:GT}{C:CallT}
abbrev E_dp (n:Int)(kids:List PT)(i:Int):Env:=[(3,.val (.int .i64 n)),(7,.val (.sl 4 stat (encTs kids))),(8,.val (.int .i64 (encTs kids).length)),(9,.val (.int .i64 i))]
theorem size_wp (hm:MonoC C){t:PT}(ih:∀u,u.n<t.n->PF C 17 [encT u] (.int .i64 u.n))(hl:t.n<4611686018427387904):wpF gt C F17 [encT t] St.init (Ret (.int .i64 t.n)):=by
 obtain⟨k,s,keys,kids⟩:=t;have l1:=encTs_len kids;have l3:=PT.len_ns kids;have hn:(PT.mk k s keys kids).n=PT.ns kids+1:=rfl;refine⟨rfl,?_⟩;refine goW ?_;refine loop_rule hm (α:=Nat) (λi env S'=>i<=kids.length/\env=E_dp ((PT.ns (kids.take i)+1:Nat):Int) kids i/\S'=St.init) (λi=>kids.length-i) ?_ (a:=0) ⟨Nat.zero_le _,rfl,rfl⟩;rintro i env S' ⟨hi,rfl,rfl⟩;refine goW ?_;by_cases hc:(i:Int)<(encTs kids).length
 ·rw[dT hc];refine goW ?_;have hik:i<kids.length:=by omega
  refine step_ruleO (sx_ia (k:=i) rfl rfl (by omega)) (goW ?_);refine step_ruleO (sx_ldEl (agg:=true) rfl rfl (encTs_get hik) (rdT _)) ?_;have ihk:=ih _ (kid_lt hik);have hkn:=kid_lt (k:=k) (s:=s) (keys:=keys) hik;have hts:PT.ns (kids.take (i+1))=PT.ns (kids.take i)+kids[i].n:=by rw[tS hik,PT.ns_app];simp[PT.ns]
  have hle:PT.ns (kids.take (i+1))<=PT.ns kids:=by
   conv=>rhs;rw[<-tkD (i+1) kids,PT.ns_app]
   omega
  obtain⟨ka,sa,xa,ya,he⟩:=encT_agg kids[i];rw[he]at ihk ⊢;refine goW ?_;refine call_pf hm (by rfl) ihk (goW ?_);refine⟨i+1,⟨by omega,?_,rfl⟩,by omega⟩;rw[wrNat (by omega),wr64 (by omega) (by omega),hts,show ((PT.ns (kids.take i)+1:Nat):Int)+(kids[i].n:Int)=((PT.ns (kids.take i)+kids[i].n+1:Nat):Int) by omega]
  try rfl
 ·rw[dF hc];refine goW ?_;refine⟨_,rfl,?_⟩;rw[List.take_of_length_le (by omega),hn];exact Ret.sta trivial
end

def rightB (t:PT):Int:=if 64<t.dp then 4 else if 4096<t.n then 3 else if formedB t=true then 0 else 1
theorem bmax (a b:Nat):(bif decide ((b:Int) > (a:Int)) then (b:Int) else (a:Int))=((max a b:Nat):Int):=by
 by_cases h:(b:Int) > a
 ·rw[dT h,cond_true];omega
 ·rw[dF h,cond_false];omega
section
variable {gt:GT}{C:CallT}
theorem depth_wp (hm:MonoC C){t:PT}(ih:∀u,u.n<t.n->PF C 18 [encT u] (.int .i64 u.dp))(hl:t.n<4611686018427387904):wpF gt C F18 [encT t] St.init (Ret (.int .i64 t.dp)):=by
 have hdl:=PT.dp_le t;obtain⟨k,s,keys,kids⟩:=t;have l1:=encTs_len kids;have l3:=PT.len_ns kids;have hn:(PT.mk k s keys kids).n=PT.ns kids+1:=rfl;have hd:(PT.mk k s keys kids).dp=PT.dps kids+1:=rfl;refine⟨rfl,?_⟩;refine goW ?_;refine loop_rule hm (α:=Nat) (λi env S'=>i<=kids.length/\env=E_dp ((PT.dps (kids.take i):Nat):Int) kids i/\S'=St.init) (λi=>kids.length-i) ?_ (a:=0) ⟨Nat.zero_le _,rfl,rfl⟩;rintro i env S' ⟨hi,rfl,rfl⟩;refine goW ?_;by_cases hc:(i:Int)<(encTs kids).length
 ·rw[dT hc];refine goW ?_;have hik:i<kids.length:=by omega
  refine step_ruleO (sx_ia (k:=i) rfl rfl (by omega)) (goW ?_);refine step_ruleO (sx_ldEl (agg:=true) rfl rfl (encTs_get hik) (rdT _)) ?_;have ihk:=ih _ (kid_lt hik);have hts:PT.dps (kids.take (i+1))=max (PT.dps (kids.take i)) kids[i].dp:=by rw[tS hik,PT.dps_app];simp[PT.dps]
  obtain⟨ka,sa,xa,ya,he⟩:=encT_agg kids[i];rw[he]at ihk ⊢;refine goW ?_;refine call_pf hm (by rfl) ihk (goW ?_);refine⟨i+1,⟨by omega,?_,rfl⟩,by omega⟩;rw[wrNat (by omega),bmax,hts]
  try rfl
 ·rw[dF hc];refine goW ?_;refine⟨_,rfl,?_⟩;rw[List.take_of_length_le (by omega),hd,wrNat (by omega)];exact Ret.sta trivial
theorem right_wp (hm:MonoC C)(hd:∀t:PT,t.n<4611686018427387904->PF C 18 [encT t] (.int .i64 t.dp))(hs:∀t:PT,t.n<4611686018427387904->PF C 17 [encT t] (.int .i64 t.n))
  (hf:∀t:PT,t.sok->PF C 50 [encT t] (.bool (formedB t))) {t:PT} (hl:t.n<4611686018427387904) (hk:t.sok):wpF gt C F16 [encT t] St.init (Ret (.int .i64 (rightB t))):=by
 have hd:=hd t hl;have hs:=hs t hl;have hf:=hf t hk;have hr:rightB t=if 64<t.dp then 4 else if 4096<t.n then 3 else if formedB t=true then 0 else 1:=rfl
 generalize rightB t=res at hr ⊢;generalize t.dp=dp at hd hr;generalize hh:t.n=n at hs hr;generalize formedB t=fb at hf hr;obtain⟨k,s,keys,kids⟩:=t;refine⟨rfl,?_⟩;refine goW ?_;refine call_pf hm (by rfl) hd (goW ?_);by_cases z1:(dp:Int) > 64
 ·rw[dT z1];refine goW ?_;rw[hr,if_pos (by omega)];exact⟨_,rfl,Ret.sta trivial⟩
 rw[dF z1];rw[if_neg (by omega)]at hr;refine goW ?_;refine call_pf hm (by rfl) hs (goW ?_);by_cases z2:(n:Int) > 4096
 ·rw[dT z2];refine goW ?_;rw[hr,if_pos (by omega)];exact⟨_,rfl,Ret.sta trivial⟩
 rw[dF z2];rw[if_neg (by omega)]at hr;refine goW ?_;refine call_pf hm (by rfl) hf ?_;cases fb with
 | false =>
  refine goW ?_;rw[hr];exact⟨_,rfl,Ret.sta trivial⟩
 | true =>
  refine goW ?_;rw[hr];exact⟨_,rfl,Ret.sta trivial⟩
end

theorem u8_beqN (b c:UInt8):Nat.beq b.toNat c.toNat=(b == c):=by
 rw[Bool.eq_iff_iff,Nat.beq_eq,beq_iff_eq,UInt8.toNat_inj]
theorem cutC_idx (c:UInt8):∀(s:List UInt8) (i:Nat),(idxB c s i=-1/\cutC c s=(s,[],false))\/∃j:Nat,j<s.length/\idxB c s i=((i+j:Nat):Int)/\cutC c s=(s.take j,s.drop (j+1),true)
 | [],i=>.inl ⟨rfl,rfl⟩
 | b::r,i=>by
  by_cases h:(b == c)=true
  ·right
   refine⟨0,by simp,?_,?_⟩
   ·simp only[idxB,u8_beqN,h,cond_true,Nat.add_zero]
   ·simp only[cutC,h,if_true,List.take_zero,Nat.zero_add,List.drop_succ_cons,List.drop_zero]
  ·have h':(b == c)=false:=by simpa using h
   rcases cutC_idx c r (i+1) with⟨h1,h2⟩ | ⟨j,hj,h1,h2⟩
   ·left
    refine⟨by simp only[idxB,u8_beqN,h',cond_false];exact h1,?_⟩;simp only[cutC,h',h2,Bool.false_eq_true,if_false]
   ·right
    refine⟨j+1,by simp only[lC];omega,?_,?_⟩
    ·simp only[idxB,u8_beqN,h',cond_false,h1];omega
    ·simp only[cutC,h',h2,Bool.false_eq_true,if_false,List.take_succ_cons,List.drop_succ_cons]
section
variable {gt:GT}{C:CallT}
theorem idxByte_wp {s:List UInt8}{c:UInt8}:wpF gt C F213 [.str s,.int .u8 c.toNat] St.init (Ret (.int .i64 (idxB c s 0))):=by
 refine⟨rfl,?_⟩;refine goW ?_;refine⟨_,rfl,?_⟩;rw[Int.toNat_natCast,UInt8.ofNat_toNat];exact Ret.sta trivial
theorem idx1_wp (hm:MonoC C)(hb:∀(s:List UInt8) (c:UInt8),PF C 213 [.str s,.int .u8 c.toNat] (.int .i64 (idxB c s 0))){s:List UInt8}:wpF gt C F198 [.str s,.str [84]] St.init (Ret (.int .i64 (idxB 84 s 0))):=by
 refine⟨rfl,?_⟩;refine goW ?_;by_cases h:([84]:List UInt8)=s
 ·rw[beqB_true h];subst h;refine goW ?_;exact⟨_,rfl,Ret.sta (u:=.int .i64 0) trivial⟩
 ·rw[beqB_false h];refine goW ?_;refine call_pf hm (by rfl) (hb s 84) (goW ?_);exact⟨_,rfl,Ret.sta trivial⟩
theorem cutL_wp (hm:MonoC C)(hi:∀s:List UInt8,PF C 198 [.str s,.str [84]] (.int .i64 (idxB 84 s 0))){s:List UInt8}(hl:s.length<4611686018427387904) :
  wpF gt C F171 [.str s,.str [84]] St.init (Ret (.tup [.str (cutC 84 s).1,.str (cutC 84 s).2.1,.bool (cutC 84 s).2.2])):=by
 have hi:=hi s;have hc:=cutC_idx 84 s 0;refine⟨rfl,?_⟩;refine goW ?_;refine call_pf hm (by rfl) hi ?_;rcases hc with⟨h1,h2⟩ | ⟨j,hj,h1,h2⟩
 ·rw[h1,h2];refine goW ?_;exact⟨_,rfl,Ret.sta ⟨trivial,trivial,trivial,trivial⟩⟩
 ·rw[h1,h2,Nat.zero_add];refine goW ?_;rw[dT (show (j:Int) ≥ 0 by omega)];refine goW ?_;refine step_ruleDO rfl rfl (sx_slHiS (h:=j) rfl rfl (by omega)) (goW ?_);rw[show wr .i64 ((j:Int)+(([84]:List UInt8).length:Int))=((j+1:Nat):Int) from wrNat (by omega)];refine step_ruleDO rfl rfl (sx_slLo (l:=j+1) rfl rfl (by omega)) (goW ?_);exact⟨_,rfl,Ret.sta ⟨trivial,trivial,trivial,trivial⟩⟩
theorem cutS_wp (hm:MonoC C){s:List UInt8}(h:PF C 171 [.str s,.str [84]] (.tup [.str (cutC 84 s).1,.str (cutC 84 s).2.1,.bool (cutC 84 s).2.2])) :
  wpF gt C F137 [.str s,.str [84]] St.init (Ret (.tup [.str (cutC 84 s).1,.str (cutC 84 s).2.1,.bool (cutC 84 s).2.2])):=by
 generalize cutC 84 s=q at h ⊢;obtain⟨a,b,c⟩:=q;refine⟨rfl,?_⟩;refine goW ?_;refine call_pf hm (by rfl) h (goW ?_);exact⟨_,rfl,Ret.sta ⟨trivial,trivial,trivial,trivial⟩⟩
end
end Go.Dn

namespace Go.Proofs.YthgidapmofcloaaGreatDoor
open Go.Shelf
def Tryz.lays161_ren:Go.Shelf.Ren:=⟨λ| 161=>162 | 231=>188 | 227=>189 | 233=>190 | 235=>191 | 228=>208 | 197=>209 | 151=>210 | 260=>225 | 152=>226 | 137=>238 | 119=>239 | 224=>215 | 225=>214 | 217=>213 | 266=>232 | n=>n,λ| 9=>9 | 4=>4 | 3=>3 | 5=>5 | 117=>219 | 116=>218 | 0=>0 | 124=>222 | 105=>225 | 21=>21 | 119=>250 | 46=>165 | 139=>253 | 138=>252 | n=>n,λ| 3=>4 | 4=>5 | n=>n⟩
theorem Tryz.lays161:Go.Proofs.Lays.n161 Tryz.prog Tryz.lays161_ren where
 mixed:=by kernel_rfl
 f119:=Tryz.func239.trans (congrArg some (by kernel_rfl))
 f137:=Tryz.func238.trans (congrArg some (by kernel_rfl))
 f151:=Tryz.func210.trans (congrArg some (by kernel_rfl))
 f152:=Tryz.func226.trans (congrArg some (by kernel_rfl))
 f161:=Tryz.func162.trans (congrArg some (by kernel_rfl))
 f197:=Tryz.func209.trans (congrArg some (by kernel_rfl))
 f217:=Tryz.func213.trans (congrArg some (by kernel_rfl))
 f224:=Tryz.func215.trans (congrArg some (by kernel_rfl))
 f225:=Tryz.func214.trans (congrArg some (by kernel_rfl))
 f227:=Tryz.func189.trans (congrArg some (by kernel_rfl))
 f228:=Tryz.func208.trans (congrArg some (by kernel_rfl))
 f231:=Tryz.func188.trans (congrArg some (by kernel_rfl))
 f233:=Tryz.func190.trans (congrArg some (by kernel_rfl))
 f235:=Tryz.func191.trans (congrArg some (by kernel_rfl))
 f260:=Tryz.func225.trans (congrArg some (by kernel_rfl))
 f266:=Tryz.func232.trans (congrArg some (by kernel_rfl))
 t0:=Tryz.underlying0
 a0:=Tryz.isAgg0
 z0:=Tryz.sizeOf0
 v0:=Tryz.zeroValue0
 t3:=Tryz.underlying3
 a3:=Tryz.isAgg3
 z3:=Tryz.sizeOf3
 v3:=Tryz.zeroValue3
 t4:=Tryz.underlying4
 a4:=Tryz.isAgg4
 z4:=Tryz.sizeOf4
 v4:=Tryz.zeroValue4
 t5:=Tryz.underlying5
 a5:=Tryz.isAgg5
 z5:=Tryz.sizeOf5
 v5:=Tryz.zeroValue5
 t9:=Tryz.underlying9
 a9:=Tryz.isAgg9
 z9:=Tryz.sizeOf9
 v9:=Tryz.zeroValue9
 t21:=Tryz.underlying21
 a21:=Tryz.isAgg21
 z21:=Tryz.sizeOf21
 v21:=Tryz.zeroValue21
 t46:=Tryz.underlying165
 a46:=Tryz.isAgg165
 z46:=Tryz.sizeOf165
 v46:=Tryz.zeroValue165
 t105:=Tryz.underlying225
 a105:=Tryz.isAgg225
 z105:=Tryz.sizeOf225
 v105:=Tryz.zeroValue225
 t116:=Tryz.underlying218
 a116:=Tryz.isAgg218
 z116:=Tryz.sizeOf218
 t117:=Tryz.underlying219
 a117:=Tryz.isAgg219
 z117:=Tryz.sizeOf219
 v117:=Tryz.zeroValue219
 t119:=Tryz.underlying250
 a119:=Tryz.isAgg250
 z119:=Tryz.sizeOf250
 t124:=Tryz.underlying222
 a124:=Tryz.isAgg222
 z124:=Tryz.sizeOf222
 v124:=Tryz.zeroValue222
 t138:=Tryz.underlying252
 a138:=Tryz.isAgg252
 z138:=Tryz.sizeOf252
 v138:=Tryz.zeroValue252
 t139:=Tryz.underlying253
 a139:=Tryz.isAgg253
 z139:=Tryz.sizeOf253
 v139:=Tryz.zeroValue253
 g3:=by kernel_rfl
 g4:=by kernel_rfl
def Tryz.lays162_ren:Go.Shelf.Ren:=⟨λ| 162=>163 | 232=>192 | 227=>189 | 234=>193 | 236=>194 | 228=>208 | 271=>211 | 151=>210 | 120=>227 | 197=>209 | 152=>226 | 260=>225 | 137=>238 | 119=>239 | 224=>215 | 225=>214 | 217=>213 | 266=>232 | n=>n,λ| 9=>9 | 4=>4 | 3=>3 | 5=>5 | 117=>219 | 116=>218 | 0=>0 | 124=>222 | 21=>21 | 105=>225 | 46=>165 | 119=>250 | 139=>253 | 138=>252 | n=>n,λ| 3=>4 | 4=>5 | n=>n⟩
theorem Tryz.lays162:Go.Proofs.Lays.n162 Tryz.prog Tryz.lays162_ren where
 mixed:=by kernel_rfl
 f119:=Tryz.func239.trans (congrArg some (by kernel_rfl))
 f120:=Tryz.func227.trans (congrArg some (by kernel_rfl))
 f137:=Tryz.func238.trans (congrArg some (by kernel_rfl))
 f151:=Tryz.func210.trans (congrArg some (by kernel_rfl))
 f152:=Tryz.func226.trans (congrArg some (by kernel_rfl))
 f162:=Tryz.func163.trans (congrArg some (by kernel_rfl))
 f197:=Tryz.func209.trans (congrArg some (by kernel_rfl))
 f217:=Tryz.func213.trans (congrArg some (by kernel_rfl))
 f224:=Tryz.func215.trans (congrArg some (by kernel_rfl))
 f225:=Tryz.func214.trans (congrArg some (by kernel_rfl))
 f227:=Tryz.func189.trans (congrArg some (by kernel_rfl))
 f228:=Tryz.func208.trans (congrArg some (by kernel_rfl))
 f232:=Tryz.func192.trans (congrArg some (by kernel_rfl))
 f234:=Tryz.func193.trans (congrArg some (by kernel_rfl))
 f236:=Tryz.func194.trans (congrArg some (by kernel_rfl))
 f260:=Tryz.func225.trans (congrArg some (by kernel_rfl))
 f266:=Tryz.func232.trans (congrArg some (by kernel_rfl))
 f271:=Tryz.func211.trans (congrArg some (by kernel_rfl))
 t0:=Tryz.underlying0
 a0:=Tryz.isAgg0
 z0:=Tryz.sizeOf0
 v0:=Tryz.zeroValue0
 t3:=Tryz.underlying3
 a3:=Tryz.isAgg3
 z3:=Tryz.sizeOf3
 v3:=Tryz.zeroValue3
 t4:=Tryz.underlying4
 a4:=Tryz.isAgg4
 z4:=Tryz.sizeOf4
 v4:=Tryz.zeroValue4
 t5:=Tryz.underlying5
 a5:=Tryz.isAgg5
 z5:=Tryz.sizeOf5
 v5:=Tryz.zeroValue5
 t9:=Tryz.underlying9
 a9:=Tryz.isAgg9
 z9:=Tryz.sizeOf9
 v9:=Tryz.zeroValue9
 t21:=Tryz.underlying21
 a21:=Tryz.isAgg21
 z21:=Tryz.sizeOf21
 v21:=Tryz.zeroValue21
 t46:=Tryz.underlying165
 a46:=Tryz.isAgg165
 z46:=Tryz.sizeOf165
 v46:=Tryz.zeroValue165
 t105:=Tryz.underlying225
 a105:=Tryz.isAgg225
 z105:=Tryz.sizeOf225
 v105:=Tryz.zeroValue225
 t116:=Tryz.underlying218
 a116:=Tryz.isAgg218
 z116:=Tryz.sizeOf218
 t117:=Tryz.underlying219
 a117:=Tryz.isAgg219
 z117:=Tryz.sizeOf219
 v117:=Tryz.zeroValue219
 t119:=Tryz.underlying250
 a119:=Tryz.isAgg250
 z119:=Tryz.sizeOf250
 t124:=Tryz.underlying222
 a124:=Tryz.isAgg222
 z124:=Tryz.sizeOf222
 v124:=Tryz.zeroValue222
 t138:=Tryz.underlying252
 a138:=Tryz.isAgg252
 z138:=Tryz.sizeOf252
 v138:=Tryz.zeroValue252
 t139:=Tryz.underlying253
 a139:=Tryz.isAgg253
 z139:=Tryz.sizeOf253
 v139:=Tryz.zeroValue253
 g3:=by kernel_rfl
 g4:=by kernel_rfl
def Tryz.lays160_ren:Go.Shelf.Ren:=⟨λ| 160=>169 | 232=>192 | 231=>188 | 227=>189 | 234=>193 | 233=>190 | 236=>194 | 235=>191 | 228=>208 | 271=>211 | 151=>210 | 197=>209 | 120=>227 | 152=>226 | 260=>225 | 137=>238 | 119=>239 | 224=>215 | 225=>214 | 217=>213 | 266=>232 | n=>n,λ| 9=>9 | 4=>4 | 3=>3 | 5=>5 | 117=>219 | 116=>218 | 0=>0 | 124=>222 | 21=>21 | 105=>225 | 46=>165 | 119=>250 | 139=>253 | 138=>252 | n=>n,λ| 3=>4 | 4=>5 | n=>n⟩
theorem Tryz.lays160:Go.Proofs.Lays.n160 Tryz.prog Tryz.lays160_ren where
 mixed:=by kernel_rfl
 f119:=Tryz.func239.trans (congrArg some (by kernel_rfl))
 f120:=Tryz.func227.trans (congrArg some (by kernel_rfl))
 f137:=Tryz.func238.trans (congrArg some (by kernel_rfl))
 f151:=Tryz.func210.trans (congrArg some (by kernel_rfl))
 f152:=Tryz.func226.trans (congrArg some (by kernel_rfl))
 f160:=Tryz.func169.trans (congrArg some (by kernel_rfl))
 f197:=Tryz.func209.trans (congrArg some (by kernel_rfl))
 f217:=Tryz.func213.trans (congrArg some (by kernel_rfl))
 f224:=Tryz.func215.trans (congrArg some (by kernel_rfl))
 f225:=Tryz.func214.trans (congrArg some (by kernel_rfl))
 f227:=Tryz.func189.trans (congrArg some (by kernel_rfl))
 f228:=Tryz.func208.trans (congrArg some (by kernel_rfl))
 f231:=Tryz.func188.trans (congrArg some (by kernel_rfl))
 f232:=Tryz.func192.trans (congrArg some (by kernel_rfl))
 f233:=Tryz.func190.trans (congrArg some (by kernel_rfl))
 f234:=Tryz.func193.trans (congrArg some (by kernel_rfl))
 f235:=Tryz.func191.trans (congrArg some (by kernel_rfl))
 f236:=Tryz.func194.trans (congrArg some (by kernel_rfl))
 f260:=Tryz.func225.trans (congrArg some (by kernel_rfl))
 f266:=Tryz.func232.trans (congrArg some (by kernel_rfl))
 f271:=Tryz.func211.trans (congrArg some (by kernel_rfl))
 t0:=Tryz.underlying0
 a0:=Tryz.isAgg0
 z0:=Tryz.sizeOf0
 v0:=Tryz.zeroValue0
 t3:=Tryz.underlying3
 a3:=Tryz.isAgg3
 z3:=Tryz.sizeOf3
 v3:=Tryz.zeroValue3
 t4:=Tryz.underlying4
 a4:=Tryz.isAgg4
 z4:=Tryz.sizeOf4
 v4:=Tryz.zeroValue4
 t5:=Tryz.underlying5
 a5:=Tryz.isAgg5
 z5:=Tryz.sizeOf5
 v5:=Tryz.zeroValue5
 t9:=Tryz.underlying9
 a9:=Tryz.isAgg9
 z9:=Tryz.sizeOf9
 v9:=Tryz.zeroValue9
 t21:=Tryz.underlying21
 a21:=Tryz.isAgg21
 z21:=Tryz.sizeOf21
 v21:=Tryz.zeroValue21
 t46:=Tryz.underlying165
 a46:=Tryz.isAgg165
 z46:=Tryz.sizeOf165
 v46:=Tryz.zeroValue165
 t105:=Tryz.underlying225
 a105:=Tryz.isAgg225
 z105:=Tryz.sizeOf225
 v105:=Tryz.zeroValue225
 t116:=Tryz.underlying218
 a116:=Tryz.isAgg218
 z116:=Tryz.sizeOf218
 t117:=Tryz.underlying219
 a117:=Tryz.isAgg219
 z117:=Tryz.sizeOf219
 v117:=Tryz.zeroValue219
 t119:=Tryz.underlying250
 a119:=Tryz.isAgg250
 z119:=Tryz.sizeOf250
 t124:=Tryz.underlying222
 a124:=Tryz.isAgg222
 z124:=Tryz.sizeOf222
 v124:=Tryz.zeroValue222
 t138:=Tryz.underlying252
 a138:=Tryz.isAgg252
 z138:=Tryz.sizeOf252
 v138:=Tryz.zeroValue252
 t139:=Tryz.underlying253
 a139:=Tryz.isAgg253
 z139:=Tryz.sizeOf253
 v139:=Tryz.zeroValue253
 g3:=by kernel_rfl
 g4:=by kernel_rfl
def Tryz.lays172_ren:Go.Shelf.Ren:=⟨λ| 172=>187 | 244=>206 | 245=>207 | 247=>220 | 279=>221 | 280=>222 | 281=>223 | 282=>224 | 287=>235 | 316=>236 | 171=>165 | 205=>237 | 321=>245 | 322=>246 | 243=>196 | 246=>212 | 283=>228 | 284=>229 | 285=>230 | 286=>231 | 129=>241 | 317=>240 | 318=>242 | 319=>243 | 320=>244 | 337=>247 | 338=>248 | n=>n,λ| 9=>9 | 3=>3 | 75=>32 | 76=>160 | 4=>4 | 5=>5 | 167=>230 | 37=>71 | 0=>0 | 85=>231 | 2=>2 | 168=>233 | 53=>212 | 175=>245 | 46=>165 | 210=>248 | 127=>116 | 145=>261 | 143=>259 | 21=>21 | 171=>237 | 173=>240 | 212=>256 | 51=>242 | 20=>20 | 213=>257 | 232=>263 | 233=>264 | 80=>81 | n=>n,λ| 15=>2 | 16=>3 | 17=>6 | 18=>7 | 19=>8 | n=>n⟩
theorem Tryz.lays172:Go.Proofs.Lays.n172 Tryz.prog Tryz.lays172_ren where
 mixed:=by kernel_rfl
 f129:=Tryz.func241.trans (congrArg some (by kernel_rfl))
 f171:=Tryz.func165.trans (congrArg some (by kernel_rfl))
 f172:=Tryz.func187.trans (congrArg some (by kernel_rfl))
 f205:=Tryz.func237.trans (congrArg some (by kernel_rfl))
 f243:=Tryz.func196.trans (congrArg some (by kernel_rfl))
 f244:=Tryz.func206.trans (congrArg some (by kernel_rfl))
 f245:=Tryz.func207.trans (congrArg some (by kernel_rfl))
 f246:=Tryz.func212.trans (congrArg some (by kernel_rfl))
 f247:=Tryz.func220.trans (congrArg some (by kernel_rfl))
 f279:=Tryz.func221.trans (congrArg some (by kernel_rfl))
 f280:=Tryz.func222.trans (congrArg some (by kernel_rfl))
 f281:=Tryz.func223.trans (congrArg some (by kernel_rfl))
 f282:=Tryz.func224.trans (congrArg some (by kernel_rfl))
 f283:=Tryz.func228.trans (congrArg some (by kernel_rfl))
 f284:=Tryz.func229.trans (congrArg some (by kernel_rfl))
 f285:=Tryz.func230.trans (congrArg some (by kernel_rfl))
 f286:=Tryz.func231.trans (congrArg some (by kernel_rfl))
 f287:=Tryz.func235.trans (congrArg some (by kernel_rfl))
 f316:=Tryz.func236.trans (congrArg some (by kernel_rfl))
 f317:=Tryz.func240.trans (congrArg some (by kernel_rfl))
 f318:=Tryz.func242.trans (congrArg some (by kernel_rfl))
 f319:=Tryz.func243.trans (congrArg some (by kernel_rfl))
 f320:=Tryz.func244.trans (congrArg some (by kernel_rfl))
 f321:=Tryz.func245.trans (congrArg some (by kernel_rfl))
 f322:=Tryz.func246.trans (congrArg some (by kernel_rfl))
 f337:=Tryz.func247.trans (congrArg some (by kernel_rfl))
 f338:=Tryz.func248.trans (congrArg some (by kernel_rfl))
 t0:=Tryz.underlying0
 a0:=Tryz.isAgg0
 z0:=Tryz.sizeOf0
 v0:=Tryz.zeroValue0
 t2:=Tryz.underlying2
 a2:=Tryz.isAgg2
 z2:=Tryz.sizeOf2
 v2:=Tryz.zeroValue2
 t3:=Tryz.underlying3
 a3:=Tryz.isAgg3
 z3:=Tryz.sizeOf3
 v3:=Tryz.zeroValue3
 t4:=Tryz.underlying4
 a4:=Tryz.isAgg4
 z4:=Tryz.sizeOf4
 v4:=Tryz.zeroValue4
 t5:=Tryz.underlying5
 a5:=Tryz.isAgg5
 z5:=Tryz.sizeOf5
 v5:=Tryz.zeroValue5
 t9:=Tryz.underlying9
 a9:=Tryz.isAgg9
 z9:=Tryz.sizeOf9
 v9:=Tryz.zeroValue9
 t20:=Tryz.underlying20
 a20:=Tryz.isAgg20
 z20:=Tryz.sizeOf20
 v20:=Tryz.zeroValue20
 t21:=Tryz.underlying21
 a21:=Tryz.isAgg21
 z21:=Tryz.sizeOf21
 v21:=Tryz.zeroValue21
 t37:=Tryz.underlying71
 a37:=Tryz.isAgg71
 z37:=Tryz.sizeOf71
 v37:=Tryz.zeroValue71
 t46:=Tryz.underlying165
 a46:=Tryz.isAgg165
 z46:=Tryz.sizeOf165
 v46:=Tryz.zeroValue165
 t51:=Tryz.underlying242
 a51:=Tryz.isAgg242
 z51:=Tryz.sizeOf242
 v51:=Tryz.zeroValue242
 t53:=Tryz.underlying212
 a53:=Tryz.isAgg212
 z53:=Tryz.sizeOf212
 v53:=Tryz.zeroValue212
 t75:=Tryz.underlying32
 a75:=Tryz.isAgg32
 z75:=Tryz.sizeOf32
 v75:=Tryz.zeroValue32
 t76:=Tryz.underlying160
 a76:=Tryz.isAgg160
 z76:=Tryz.sizeOf160
 v76:=Tryz.zeroValue160
 t85:=Tryz.underlying231
 a85:=Tryz.isAgg231
 z85:=Tryz.sizeOf231
 v85:=Tryz.zeroValue231
 t127:=Tryz.underlying116
 a127:=Tryz.isAgg116
 z127:=Tryz.sizeOf116
 v127:=Tryz.zeroValue116
 t143:=Tryz.underlying259
 a143:=Tryz.isAgg259
 z143:=Tryz.sizeOf259
 v143:=Tryz.zeroValue259
 t145:=Tryz.underlying261
 a145:=Tryz.isAgg261
 z145:=Tryz.sizeOf261
 v145:=Tryz.zeroValue261
 t167:=Tryz.underlying230
 a167:=Tryz.isAgg230
 z167:=Tryz.sizeOf230
 v167:=Tryz.zeroValue230
 t168:=Tryz.underlying233
 a168:=Tryz.isAgg233
 z168:=Tryz.sizeOf233
 v168:=Tryz.zeroValue233
 t171:=Tryz.underlying237
 a171:=Tryz.isAgg237
 z171:=Tryz.sizeOf237
 v171:=Tryz.zeroValue237
 t173:=Tryz.underlying240
 a173:=Tryz.isAgg240
 z173:=Tryz.sizeOf240
 v173:=Tryz.zeroValue240
 t175:=Tryz.underlying245
 a175:=Tryz.isAgg245
 z175:=Tryz.sizeOf245
 v175:=Tryz.zeroValue245
 t210:=Tryz.underlying248
 a210:=Tryz.isAgg248
 z210:=Tryz.sizeOf248
 v210:=Tryz.zeroValue248
 t212:=Tryz.underlying256
 a212:=Tryz.isAgg256
 z212:=Tryz.sizeOf256
 v212:=Tryz.zeroValue256
 t213:=Tryz.underlying257
 a213:=Tryz.isAgg257
 z213:=Tryz.sizeOf257
 t232:=Tryz.underlying263
 a232:=Tryz.isAgg263
 z232:=Tryz.sizeOf263
 v232:=Tryz.zeroValue263
 t233:=Tryz.underlying264
 a233:=Tryz.isAgg264
 z233:=Tryz.sizeOf264
 v233:=Tryz.zeroValue264
 g15:=by kernel_rfl
 g16:=by kernel_rfl
 g17:=by kernel_rfl
 g18:=by kernel_rfl
 g19:=by kernel_rfl
def Tryz.lays171M_ren:Go.Shelf.Ren:=⟨λ| 171=>165 | 243=>196 | 246=>212 | 283=>228 | 284=>229 | 285=>230 | 286=>231 | 129=>241 | 317=>240 | 318=>242 | 319=>243 | 320=>244 | 337=>247 | 338=>248 | n=>n,λ| 3=>3 | 9=>9 | 2=>2 | 4=>4 | 171=>237 | 0=>0 | 53=>212 | 37=>71 | 5=>5 | 173=>240 | 212=>256 | 51=>242 | 20=>20 | 213=>257 | 46=>165 | 232=>263 | 233=>264 | n=>n,λ| 17=>6 | 18=>7 | 19=>8 | n=>n⟩
theorem Tryz.lays171M:Go.Proofs.LaysM.n171 Tryz.prog Tryz.lays171M_ren where
 mixed:=by kernel_rfl
 f129:=Tryz.func241.trans (congrArg some (by kernel_rfl))
 f171:=Tryz.func165.trans (congrArg some (by kernel_rfl))
 f243:=Tryz.func196.trans (congrArg some (by kernel_rfl))
 f246:=Tryz.func212.trans (congrArg some (by kernel_rfl))
 f283:=Tryz.func228.trans (congrArg some (by kernel_rfl))
 f284:=Tryz.func229.trans (congrArg some (by kernel_rfl))
 f285:=Tryz.func230.trans (congrArg some (by kernel_rfl))
 f286:=Tryz.func231.trans (congrArg some (by kernel_rfl))
 f317:=Tryz.func240.trans (congrArg some (by kernel_rfl))
 f318:=Tryz.func242.trans (congrArg some (by kernel_rfl))
 f319:=Tryz.func243.trans (congrArg some (by kernel_rfl))
 f320:=Tryz.func244.trans (congrArg some (by kernel_rfl))
 f337:=Tryz.func247.trans (congrArg some (by kernel_rfl))
 f338:=Tryz.func248.trans (congrArg some (by kernel_rfl))
 t0:=Tryz.underlying0
 a0:=Tryz.isAgg0
 z0:=Tryz.sizeOf0
 v0:=Tryz.zeroValue0
 t2:=Tryz.underlying2
 a2:=Tryz.isAgg2
 z2:=Tryz.sizeOf2
 v2:=Tryz.zeroValue2
 t3:=Tryz.underlying3
 a3:=Tryz.isAgg3
 z3:=Tryz.sizeOf3
 v3:=Tryz.zeroValue3
 t4:=Tryz.underlying4
 a4:=Tryz.isAgg4
 z4:=Tryz.sizeOf4
 v4:=Tryz.zeroValue4
 t5:=Tryz.underlying5
 a5:=Tryz.isAgg5
 z5:=Tryz.sizeOf5
 v5:=Tryz.zeroValue5
 t9:=Tryz.underlying9
 a9:=Tryz.isAgg9
 z9:=Tryz.sizeOf9
 v9:=Tryz.zeroValue9
 t20:=Tryz.underlying20
 a20:=Tryz.isAgg20
 z20:=Tryz.sizeOf20
 v20:=Tryz.zeroValue20
 t37:=Tryz.underlying71
 a37:=Tryz.isAgg71
 z37:=Tryz.sizeOf71
 v37:=Tryz.zeroValue71
 t46:=Tryz.underlying165
 a46:=Tryz.isAgg165
 z46:=Tryz.sizeOf165
 v46:=Tryz.zeroValue165
 t51:=Tryz.underlying242
 a51:=Tryz.isAgg242
 z51:=Tryz.sizeOf242
 v51:=Tryz.zeroValue242
 t53:=Tryz.underlying212
 a53:=Tryz.isAgg212
 z53:=Tryz.sizeOf212
 v53:=Tryz.zeroValue212
 t171:=Tryz.underlying237
 a171:=Tryz.isAgg237
 z171:=Tryz.sizeOf237
 v171:=Tryz.zeroValue237
 t173:=Tryz.underlying240
 a173:=Tryz.isAgg240
 z173:=Tryz.sizeOf240
 v173:=Tryz.zeroValue240
 t212:=Tryz.underlying256
 a212:=Tryz.isAgg256
 z212:=Tryz.sizeOf256
 v212:=Tryz.zeroValue256
 t213:=Tryz.underlying257
 a213:=Tryz.isAgg257
 z213:=Tryz.sizeOf257
 t232:=Tryz.underlying263
 a232:=Tryz.isAgg263
 z232:=Tryz.sizeOf263
 v232:=Tryz.zeroValue263
 t233:=Tryz.underlying264
 a233:=Tryz.isAgg264
 z233:=Tryz.sizeOf264
 v233:=Tryz.zeroValue264
 g17:=by kernel_rfl
 g18:=by kernel_rfl
 g19:=by kernel_rfl
 i0:=by kernel_rfl
 i2:=by kernel_rfl
 i3:=by kernel_rfl
 i4:=by kernel_rfl
 i5:=by kernel_rfl
 i9:=by kernel_rfl
 i20:=by kernel_rfl
 i37:=by kernel_rfl
 i46:=by kernel_rfl
 i51:=by kernel_rfl
 i53:=by kernel_rfl
 i171:=by kernel_rfl
 i173:=by kernel_rfl
 i212:=by kernel_rfl
 i232:=by kernel_rfl
 i233:=by kernel_rfl
 m17:=by kernel_rfl
 m18:=by kernel_rfl
 m19:=by kernel_rfl
end Go.Proofs.YthgidapmofcloaaGreatDoor

namespace Go.Dn
open Go Go.RowKit
theorem PF.of_calls {P:Program}{gt:GT}{f:FuncId}{us:List AV}{u:AV}{args:List Value}{v:Value}(hb:HasBody P f)
  (ha:∀S G w vs,Rl S G w us vs->vs=args) (hv:∀S G w,Rv S G w u v)
  (h:∀w,Calls P f ⟨args⟩ w λe w'=>e=.returned v/\Below w.heap.size w w'):PF (AC P gt) f us u:=λS =>
 ⟨hb,λG w vs hI hx=>by
  rw[ha S G w vs hx];refine(h w).mono λe w' hp=>?_;obtain⟨rfl,bel⟩:=hp;exact⟨u,S,G,⟨rfl,rfl⟩,Tr.gr hI ⟨bel.os,bel.tape,bel.output,bel.size,bel.block⟩,hv S G w'⟩⟩
theorem PF.of_callsI {P:Program}{gt:GT}{f:FuncId}{us:List AV}{u:AV}{args:List Value}{v:Value}(hb:HasBody P f)
  (ha:∀S G w vs,Rl S G w us vs->vs=args) (hv:∀S G w,Rv S G w u v)
  (h:∀S G w,Inv P gt S G w->Calls P f ⟨args⟩ w λe w'=>e=.returned v/\Below w.heap.size w w'):PF (AC P gt) f us u:=λS =>
 ⟨hb,λG w vs hI hx=>by
  rw[ha S G w vs hx];refine(h S G w hI).mono λe w' hp=>?_;obtain⟨rfl,bel⟩:=hp;exact⟨u,S,G,⟨rfl,rfl⟩,Tr.gr hI ⟨bel.os,bel.tape,bel.output,bel.size,bel.block⟩,hv S G w'⟩⟩
theorem rl_str1 {S:St}{G:Gh}{w:World}{a:List UInt8}{vs:List Value}(h:Rl S G w [.str a] vs):vs=[.string ⟨a.toArray⟩]:=by
 simp only[Rl,Rv]at h;obtain⟨v,r,rfl,hv,rfl⟩:=h
 first | (obtain⟨b,rfl,e⟩:=hv;subst e;rfl) | (subst hv;rfl)
theorem rl_str2 {S:St}{G:Gh}{w:World}{a b:List UInt8}{vs:List Value}(h:Rl S G w [.str a,.str b] vs):vs=[.string ⟨a.toArray⟩,.string ⟨b.toArray⟩]:=by
 simp only[Rl,Rv]at h;obtain⟨v,r,rfl,hv,v2,r2,rfl,hv2,rfl⟩:=h
 first | (subst hv;subst hv2;rfl) | skip
end Go.Dn

namespace Go.Proofs.C1
open Go Go.Dn
set_option maxRecDepth 100000
noncomputable section
abbrev pF (n:Note) (f:Func):DF:=(prepF Tryz.prog n f).getD ⟨0,.ret,[]⟩
abbrev N3:Note:=⟨[1,4,6,8,10,12],[(0,[]),(1,[1]),(2,[1,2,3]),(3,[46]),(4,[0]),(5,[4,5]),(6,[79]),(7,[0]),(8,[105]),(9,[0]),(10,[6,7]),(11,[6,7,9]),(12,[6,7,9,11]),(13,[3,6,7,9,11,12]),(14,[0])],[(14,[none,none,none,none,none,none,none,none,none,none,none,none,none,none,none,none,none,none,none,none,none,none,(some 6),(some 6),none,none,none,none,none,none,none,none,none,none,none,none,none,none,none,none,none,none,(some 12),none,none,none,none])]⟩
def F3:DF:=pF N3 Tryz.f3
theorem F3_ok:prepF Tryz.prog N3 Tryz.f3=some F3:=by kernel_rfl
theorem F3_fn:FnOK2 Tryz.prog 3 (.pl F3):=.pl Tryz.func3 (by kernel_rfl) F3_ok
theorem F10_ok : prepF Tryz.prog ⟨[2,7,9,11],[(0,[1,2]),(1,[1,2,15]),(2,[4]),(3,[1,2,19]),(4,[1,2]),(5,[1,2,5,6]),(6,[1,2,5,28]),(7,[1,2,7,8]),(8,[1,48]),(9,[4]),(10,[9,10]),(11,[9,55]),(12,[5,6,9]),(13,[6,9,11,12]),(14,[90]),(15,[4]),(16,[4])],[(8,[none,none,none,(some 2),(some 7),none,none,none,none,(some 7),(some 2),none,none,none,none])]⟩ Tryz.f10 = some F10 := by kernel_rfl
theorem F10_fn:FnOK2 Tryz.prog 10 (.pl F10):=.pl Tryz.func10 (by kernel_rfl) F10_ok
theorem F15_ok : prepF Tryz.prog ⟨[1],[(0,[1]),(1,[1,4]),(2,[1,4,9]),(3,[2,3]),(4,[1,5]),(5,[5]),(6,[5,20]),(7,[2,3]),(8,[2,3])],[]⟩ Tryz.f15 = some F15 := by kernel_rfl
theorem F15_fn:FnOK2 Tryz.prog 15 (.pl F15):=.pl Tryz.func15 (by kernel_rfl) F15_ok
theorem F16_ok : prepF Tryz.prog ⟨[1],[(0,[1]),(1,[1,3]),(2,[2]),(3,[1,7]),(4,[2]),(5,[11]),(6,[2]),(7,[2])],[]⟩ Tryz.f16 = some F16 := by kernel_rfl
theorem F16_fn:FnOK2 Tryz.prog 16 (.pl F16):=.pl Tryz.func16 (by kernel_rfl) F16_ok
theorem F17_ok : prepF Tryz.prog ⟨[1,5],[(0,[1]),(1,[1,3]),(2,[3,7,8,9]),(3,[3,7,8,9,10]),(4,[3,5,7,8,9]),(5,[3,7,8,9]),(6,[3,7,8,9]),(7,[2]),(1000000,[3,7,8,9])],[]⟩ Tryz.f17 = some F17 := by kernel_rfl
theorem F17_fn:FnOK2 Tryz.prog 17 (.pl F17):=.pl Tryz.func17 (by kernel_rfl) F17_ok
theorem F18_ok : prepF Tryz.prog ⟨[1,5],[(0,[1]),(1,[1,3]),(2,[3,7,8,9]),(3,[3,7,8,9,10]),(4,[3,5,7,8,9]),(5,[3,7,8,9]),(6,[3,7,8,9]),(7,[2]),(1000000,[3,7,8,9])],[]⟩ Tryz.f18 = some F18 := by kernel_rfl
theorem F18_fn:FnOK2 Tryz.prog 18 (.pl F18):=.pl Tryz.func18 (by kernel_rfl) F18_ok
theorem F19_ok : prepF Tryz.prog ⟨[2],[(0,[1,2]),(1,[1,2,4]),(2,[2,4,5]),(3,[2,4,5,10]),(4,[2,3]),(5,[2,3])],[]⟩ Tryz.f19 = some F19 := by kernel_rfl
theorem F19_fn:FnOK2 Tryz.prog 19 (.pl F19):=.pl Tryz.func19 (by kernel_rfl) F19_ok
abbrev N20:Note:=⟨[7],[(0,[0,1,2]),(1,[1,2,7,8]),(2,[6])],[]⟩
def F20:DF:=pF N20 Tryz.f20
theorem F20_ok:prepF Tryz.prog N20 Tryz.f20=some F20:=by kernel_rfl
theorem F20_fn:FnOK2 Tryz.prog 20 (.pl F20):=.pl Tryz.func20 (by kernel_rfl) F20_ok
theorem F21_ok : prepF Tryz.prog ⟨[2,4,7],[(0,[1,2,4]),(1,[2,4,9,10,11]),(2,[2,4,9,10,11,12]),(3,[2,4,7,9,10,11]),(4,[2,4,8,9,10,11]),(5,[2,4,8,9,10,11,19]),(6,[4,5]),(7,[2,4,9,10,11]),(8,[2,4,9,10,11]),(9,[4,5]),(1000000,[2,4,9,10,11])],[]⟩ Tryz.f21 = some F21 := by kernel_rfl
theorem F21_fn:FnOK2 Tryz.prog 21 (.pl F21):=.pl Tryz.func21 (by kernel_rfl) F21_ok
abbrev N22:Note:=⟨[2,3],[(0,[0,2]),(1,[2,3]),(2,[2])],[]⟩
def F22:DF:=pF N22 Tryz.f22
theorem F22_ok:prepF Tryz.prog N22 Tryz.f22=some F22:=by kernel_rfl
theorem F22_fn:FnOK2 Tryz.prog 22 (.pl F22):=.pl Tryz.func22 (by kernel_rfl) F22_ok
theorem F23_ok : prepF Tryz.prog ⟨[3,4,6,8],[(0,[2,3,4,6]),(1,[6,8,9]),(2,[6,8,18]),(3,[6,7]),(4,[6,7])],[]⟩ Tryz.f23 = some F23 := by kernel_rfl
theorem F23_fn:FnOK2 Tryz.prog 23 (.pl F23):=.pl Tryz.func23 (by kernel_rfl) F23_ok
theorem F24_ok : prepF Tryz.prog ⟨[2,3],[(0,[2,3]),(1,[2,3,12]),(2,[4]),(3,[4])],[(3,[(some 2),none,(some 3),none,none,none])]⟩ Tryz.f24 = some F24 := by kernel_rfl
theorem F24_fn:FnOK2 Tryz.prog 24 (.pl F24):=.pl Tryz.func24 (by kernel_rfl) F24_ok
theorem F25_ok : prepF Tryz.prog ⟨[2,3],[(0,[2,3]),(1,[2,3,9]),(2,[14]),(3,[4]),(4,[4]),(5,[4])],[(5,[(some 2),none,(some 3),none,none,none])]⟩ Tryz.f25 = some F25 := by kernel_rfl
theorem F25_fn:FnOK2 Tryz.prog 25 (.pl F25):=.pl Tryz.func25 (by kernel_rfl) F25_ok
theorem F26_ok : prepF Tryz.prog ⟨[1],[(0,[1]),(1,[2])],[]⟩ Tryz.f26 = some F26 := by kernel_rfl
theorem F26_fn:FnOK2 Tryz.prog 26 (.pl F26):=.pl Tryz.func26 (by kernel_rfl) F26_ok
theorem F28_ok : prepF Tryz.prog ⟨[2],[(0,[1,2]),(1,[1,2,5]),(2,[1,2,5,6]),(3,[1,2,5,6,16]),(4,[1,2,5,6]),(5,[1,2,5,6]),(6,[4]),(1000000,[1,2,5,6])],[]⟩ Tryz.f28 = some F28 := by kernel_rfl
theorem F28_fn:FnOK2 Tryz.prog 28 (.pl F28):=.pl Tryz.func28 (by kernel_rfl) F28_ok
theorem F31_ok : prepF Tryz.prog ⟨[1,2,3,5],[(0,[1,2]),(1,[1,2,3]),(2,[1,2,3]),(3,[2,3,18,19,20]),(4,[2,3,18,19,20,21]),(5,[2,3,5,18,19,20]),(6,[2,3,18,19,20]),(7,[2,3,18,19,20]),(8,[2]),(1000000,[2,3,18,19,20])],[(6,[(some 3),(some 3),(some 5),none,none,none,(some 3),(some 3)])]⟩ Tryz.f31 = some F31 := by kernel_rfl
theorem F31_fn:FnOK2 Tryz.prog 31 (.pl F31):=.pl Tryz.func31 (by kernel_rfl) F31_ok
theorem F32_ok : prepF Tryz.prog ⟨[2,3],[(0,[2,3]),(1,[2,3,36]),(2,[4]),(3,[2,3,5]),(4,[2,3,5,41]),(5,[2,3,5]),(6,[2,3,5,54]),(7,[4]),(8,[2,3,6]),(9,[2,3,6,59]),(10,[2,3,6]),(11,[2,3,6,73]),(12,[4]),(13,[4]),(1000000,[2,3,5]),(1000002,[2,3,6])],[(11,[(some 2),(some 2),none,none,none,(some 3),(some 3),none,none,none,none,none]),(6,[(some 2),(some 2),none,none,none,(some 3),(some 3),none,none,none,none])]⟩ Tryz.f32 = some F32 := by kernel_rfl
theorem F32_fn:FnOK2 Tryz.prog 32 (.pl F32):=.pl Tryz.func32 (by kernel_rfl) F32_ok
theorem F34_ok : prepF Tryz.prog ⟨[1,2,3,5],[(0,[1,2]),(1,[1,2,3]),(2,[1,2,3,24]),(3,[1,2,3]),(4,[2,3,32,33,34]),(5,[2,3,32,33,34,35]),(6,[2,3,5,32,33,34]),(7,[2,3,32,33,34]),(8,[2,3,32,33,34]),(9,[2]),(10,[1,2,3,49,50,51]),(11,[1,2,3,49,50,51,52]),(12,[1,2,3,7,49,50,51]),(13,[1,2,3,7,49,50,51]),(14,[1,2,3,49,50,51]),(15,[1,2,3,49,50,51]),(16,[2]),(1000000,[2,3,32,33,34]),(1000002,[1,2,3,49,50,51])],[(14,[(some 3),(some 3),(some 1),(some 1),none,none,none,none,none,none,(some 3),(some 3)]),(13,[(some 3),(some 3),(some 1),(some 1),none,none,none,none,none,(some 3),(some 3)]),(7,[(some 3),(some 3),(some 5),none,none,none,(some 3),(some 3)])]⟩ Tryz.f34 = some F34 := by kernel_rfl
theorem F34_fn:FnOK2 Tryz.prog 34 (.pl F34):=.pl Tryz.func34 (by kernel_rfl) F34_ok
theorem F41_ok : prepF Tryz.prog ⟨[3],[(0,[0,3]),(1,[0,3,8]),(2,[4]),(3,[0,3,5]),(4,[4])],[(4,[none,none,none,none,none,none,none,none,none,none,none,none,none,none,none,none,none,(some 3),(some 3),none,none,none,none,none,none,none,(some 3),(some 3),none,none,none,none,none,none,none,none,none,none,none,none])]⟩ Tryz.f41 = some F41 := by kernel_rfl
theorem F41_fn:FnOK2 Tryz.prog 41 (.pl F41):=.pl Tryz.func41 (by kernel_rfl) F41_ok
theorem F47_ok : prepF Tryz.prog ⟨[3,7],[(0,[0,3]),(1,[0,3,13]),(2,[0,3,13,14]),(3,[]),(4,[0,3,13,18]),(5,[0,3,13,18]),(6,[]),(7,[0,3,13,25]),(8,[0,4]),(9,[]),(10,[0,3,13,36]),(11,[]),(12,[0,3,13,43]),(13,[0,3]),(14,[0,48,49,50]),(15,[0,48,49,50,51]),(16,[0,6,7,48,49,50]),(17,[0,7,48,49,50,56]),(18,[0,7,48,49,50]),(19,[0,48,49,50]),(20,[0,48,49,50]),(21,[]),(22,[0,3,65]),(23,[0,3]),(24,[0,3,71,72,73]),(25,[0,3,71,72,73,74]),(26,[0,3,8,9,71,72,73]),(27,[0,3,9,71,72,73,79]),(28,[0,3,9,71,72,73]),(29,[0,3,9,10,71,72,73]),(30,[0,3,9,71,72,73]),(31,[0,3,71,72,73]),(32,[0,3,71,72,73]),(33,[]),(1000001,[0,48,49,50]),(1000003,[0,3,71,72,73])],[]⟩ Tryz.f47 = some F47 := by kernel_rfl
theorem F47_fn:FnOK2 Tryz.prog 47 (.pl F47):=.pl Tryz.func47 (by kernel_rfl) F47_ok
theorem F48_ok : prepF Tryz.prog ⟨[],[(0,[0]),(1,[2])],[]⟩ Tryz.f48 = some F48 := by kernel_rfl
theorem F48_fn:FnOK2 Tryz.prog 48 (.pl F48):=.pl Tryz.func48 (by kernel_rfl) F48_ok
theorem F49_ok : prepF Tryz.prog ⟨[],[(0,[0]),(1,[2])],[]⟩ Tryz.f49 = some F49 := by kernel_rfl
theorem F49_fn:FnOK2 Tryz.prog 49 (.pl F49):=.pl Tryz.func49 (by kernel_rfl) F49_ok
theorem F50_ok : prepF Tryz.prog ⟨[1,4],[(0,[1]),(1,[1,9,10,11]),(2,[1,9,10,11,12]),(3,[1,4,9,10,11]),(4,[1,9,10,11,17]),(5,[2]),(6,[1,9,10,11]),(7,[1,5]),(8,[1,5,30]),(9,[1,5,30,31]),(10,[2]),(11,[1,5,30,39]),(12,[2]),(13,[1,5,30,52]),(14,[1,5,6,7]),(15,[2]),(16,[1,5,30,71]),(17,[2]),(18,[1,5,30,79]),(19,[2]),(20,[1,30,87]),(21,[2]),(22,[1,98]),(23,[2]),(24,[2]),(1000000,[1,9,10,11])],[]⟩ Tryz.f50 = some F50 := by kernel_rfl
theorem F50_fn:FnOK2 Tryz.prog 50 (.pl F50):=.pl Tryz.func50 (by kernel_rfl) F50_ok
theorem F51_ok : prepD Tryz.prog ⟨[],[(0,[0,1,4]),(1,[0,1,4,8]),(2,[4]),(3,[0,1,4,5]),(4,[0,1,4,5,14]),(5,[4]),(6,[0,1,4]),(7,[4]),(8,[4])],[]⟩ Tryz.f51 = some F51 := by kernel_rfl
theorem F51_fn : FnOK2 Tryz.prog 51 (.df F51) := .df Tryz.func51 (by kernel_rfl) F51_ok
theorem F52_ok : prepF Tryz.prog ⟨[4],[(0,[1,2,4]),(1,[1,2,4]),(2,[2,4]),(3,[2,4]),(4,[4,20]),(5,[])],[(4,[(some 4),(some 4),none,none,none,none,none,none])]⟩ Tryz.f52 = some F52 := by kernel_rfl
theorem F52_fn:FnOK2 Tryz.prog 52 (.pl F52):=.pl Tryz.func52 (by kernel_rfl) F52_ok
theorem F53_ok : prepF Tryz.prog ⟨[1],[(0,[1]),(1,[])],[]⟩ Tryz.f53 = some F53 := by kernel_rfl
theorem F53_fn:FnOK2 Tryz.prog 53 (.pl F53):=.pl Tryz.func53 (by kernel_rfl) F53_ok
theorem F54_ok : prepF Tryz.prog ⟨[2,4,7],[(0,[1,2,4]),(1,[1,2,4,5]),(2,[1,2,4,5,13]),(3,[2,4]),(4,[4]),(5,[1,2,4,5,26]),(6,[1,2,4]),(7,[4]),(8,[1,2,4,5,38]),(9,[1,2,4]),(10,[4]),(11,[1,2,4,5,50]),(12,[1,2,4,5]),(13,[1,2,4,5,6]),(14,[1,2,4,5,6,67]),(15,[1,2,4,5,6]),(16,[4,6]),(17,[4]),(18,[1,2,4,5,7]),(19,[4,7]),(20,[4])],[]⟩ Tryz.f54 = some F54 := by kernel_rfl
theorem F54_fn:FnOK2 Tryz.prog 54 (.pl F54):=.pl Tryz.func54 (by kernel_rfl) F54_ok
theorem F55_ok : prepF Tryz.prog ⟨[],[(0,[0,11]),(1,[0]),(2,[])],[]⟩ Tryz.f55 = some F55 := by kernel_rfl
theorem F55_fn:FnOK2 Tryz.prog 55 (.pl F55):=.pl Tryz.func55 (by kernel_rfl) F55_ok
theorem F56_ok : prepF Tryz.prog ⟨[2,3],[(0,[2,3]),(1,[2,3,7]),(2,[2,3,7,8]),(3,[3,25]),(4,[4]),(5,[2,3,28]),(6,[2,3,5]),(7,[5,46]),(8,[4]),(9,[4])],[]⟩ Tryz.f56 = some F56 := by kernel_rfl
theorem F56_fn:FnOK2 Tryz.prog 56 (.pl F56):=.pl Tryz.func56 (by kernel_rfl) F56_ok
theorem F57_ok : prepF Tryz.prog ⟨[3,4,6,9,11,13],[(0,[2,3,4,6]),(1,[2,3,4,6,16]),(2,[6,7]),(3,[2,3,4,6,8]),(4,[2,3,4,6,8,25]),(5,[6,7]),(6,[3,6,8,9,10]),(7,[3,6,8,9,40]),(8,[6,7]),(9,[3,6,8,9,11]),(10,[3,6,8,9,11]),(11,[6,8,9,11,54,55,56]),(12,[6,8,9,11,54,55,56,57]),(13,[6,8,9,11,12,13,54,55,56]),(14,[6,8,9,11,13,54,55,56,63]),(15,[6,8,9,11,54,55,56]),(16,[6,8,9,11,54,55,56]),(17,[6,8,9,11,54,55,56]),(18,[6,7]),(1000000,[6,8,9,11,54,55,56])],[(16,[(some 11),(some 11),(some 13),none,none,none,(some 11),(some 11)]),(6,[(some 3),(some 3),none,none,none,(some 4),none,none,none,none,none,none,none,(some 9),none]),(3,[(some 3),none,none,none,none,none])]⟩ Tryz.f57 = some F57 := by kernel_rfl
theorem F57_fn:FnOK2 Tryz.prog 57 (.pl F57):=.pl Tryz.func57 (by kernel_rfl) F57_ok
theorem F58_ok : prepF Tryz.prog ⟨[2,3],[(0,[2,3]),(1,[4])],[]⟩ Tryz.f58 = some F58 := by kernel_rfl
theorem F58_fn:FnOK2 Tryz.prog 58 (.pl F58):=.pl Tryz.func58 (by kernel_rfl) F58_ok
theorem F59_ok : prepF Tryz.prog ⟨[2,3],[(0,[2,3]),(1,[2,3,15]),(2,[4]),(3,[2,3,24]),(4,[2,3,5,6]),(5,[2,3,5,34]),(6,[4]),(7,[2,3,7]),(8,[2,3,7,42]),(9,[4]),(10,[2,3,50,51]),(11,[2,3,50,51,52]),(12,[2,3,8,50,51]),(13,[2,3,8,50,51,65]),(14,[2,3,8,9,50,51]),(15,[2,3,8,9,50,51,78]),(16,[4]),(17,[2,3,10,50,51]),(18,[2,3,10,50,51,92]),(19,[4]),(20,[2,3,50,51]),(21,[4]),(1000000,[2,3,50,51])],[(17,[(some 2),(some 2),none,none,none,(some 3),(some 3),none,none,none,none,none]),(14,[(some 2),(some 2),none,none,none,(some 3),(some 3),none,none,none,none,none])]⟩ Tryz.f59 = some F59 := by kernel_rfl
theorem F59_fn:FnOK2 Tryz.prog 59 (.pl F59):=.pl Tryz.func59 (by kernel_rfl) F59_ok
theorem F64_ok : prepF Tryz.prog ⟨[],[(0,[1]),(1,[1,3]),(2,[1,3,9,10]),(3,[1,3,9,10,11]),(4,[1,3,4,9,10]),(5,[1,3,9,10]),(6,[1,3,9,10]),(7,[3]),(8,[2]),(1000000,[1,3,9,10])],[]⟩ Tryz.f64 = some F64 := by kernel_rfl
theorem F64_fn:FnOK2 Tryz.prog 64 (.pl F64):=.pl Tryz.func64 (by kernel_rfl) F64_ok
theorem F75_ok : prepF Tryz.prog ⟨[1],[(0,[1]),(1,[2])],[]⟩ Tryz.f75 = some F75 := by kernel_rfl
theorem F75_fn:FnOK2 Tryz.prog 75 (.pl F75):=.pl Tryz.func75 (by kernel_rfl) F75_ok
theorem F79_ok : prepF Tryz.prog ⟨[],[(0,[0,1,8]),(1,[])],[]⟩ Tryz.f79 = some F79 := by kernel_rfl
theorem F79_fn:FnOK2 Tryz.prog 79 (.pl F79):=.pl Tryz.func79 (by kernel_rfl) F79_ok
theorem F80_ok : prepF Tryz.prog ⟨[],[(0,[0]),(1,[0,10]),(2,[2,3]),(3,[0,4]),(4,[0,4]),(5,[0,4,13,14]),(6,[0,4,13,14,15]),(7,[0,4,5,13,14]),(8,[0,4,6,13,14]),(9,[0,4,6,7,13,14]),(10,[0,4,13,14]),(11,[0,4,6,7,13,14,24]),(12,[0,4,7,13,14]),(13,[0,4,13,14]),(14,[0,4,6,13,14,30]),(15,[0,4,6,13,14]),(16,[0,4,6,13,14]),(17,[0,4,13,14]),(18,[0,4,13,14]),(19,[4]),(20,[2,3]),(1000000,[0,4,13,14])],[]⟩ Tryz.f80 = some F80 := by kernel_rfl
theorem F80_fn:FnOK2 Tryz.prog 80 (.pl F80):=.pl Tryz.func80 (by kernel_rfl) F80_ok
theorem F81_ok : prepF Tryz.prog ⟨[4],[(0,[0]),(1,[4,5]),(2,[4,5,12]),(3,[2,3]),(4,[2,3])],[]⟩ Tryz.f81 = some F81 := by kernel_rfl
theorem F81_fn:FnOK2 Tryz.prog 81 (.pl F81):=.pl Tryz.func81 (by kernel_rfl) F81_ok
theorem F82_ok : prepF Tryz.prog ⟨[],[(0,[0]),(1,[2])],[]⟩ Tryz.f82 = some F82 := by kernel_rfl
theorem F82_fn:FnOK2 Tryz.prog 82 (.pl F82):=.pl Tryz.func82 (by kernel_rfl) F82_ok
theorem F83_ok : prepF Tryz.prog ⟨[],[(0,[0]),(1,[0,11]),(2,[2]),(3,[0]),(4,[3,4,5]),(5,[2])],[]⟩ Tryz.f83 = some F83 := by kernel_rfl
theorem F83_fn:FnOK2 Tryz.prog 83 (.pl F83):=.pl Tryz.func83 (by kernel_rfl) F83_ok
theorem F84_ok : prepF Tryz.prog ⟨[],[(0,[0]),(1,[0,3]),(2,[3,7,8,9]),(3,[3,7,8,9,10]),(4,[3,5,7,8,9]),(5,[3,5,7,8,9]),(6,[3,7,8,9,25]),(7,[2]),(8,[3,7,8,9]),(9,[2]),(1000000,[3,7,8,9])],[]⟩ Tryz.f84 = some F84 := by kernel_rfl
theorem F84_fn:FnOK2 Tryz.prog 84 (.pl F84):=.pl Tryz.func84 (by kernel_rfl) F84_ok
theorem F85_ok : prepF Tryz.prog ⟨[],[(0,[0,1]),(1,[4])],[]⟩ Tryz.f85 = some F85 := by kernel_rfl
theorem F85_fn:FnOK2 Tryz.prog 85 (.pl F85):=.pl Tryz.func85 (by kernel_rfl) F85_ok
theorem F86_ok : prepF Tryz.prog ⟨[],[(0,[0]),(1,[0,3]),(2,[0,3,9]),(3,[0,3,5]),(4,[0,3,5,18]),(5,[2]),(6,[0,3]),(7,[2]),(1000000,[0,3])],[]⟩ Tryz.f86 = some F86 := by kernel_rfl
theorem F86_fn:FnOK2 Tryz.prog 86 (.pl F86):=.pl Tryz.func86 (by kernel_rfl) F86_ok
theorem F87_ok : prepG Tryz.prog ⟨[],[(0,[0,1]),(1,[0,1,6]),(2,[0,1,2,3]),(3,[0,1,2,13]),(4,[0,2]),(5,[])],[]⟩ Tryz.f87 = some F87 := by kernel_rfl
theorem F87_fn : FnOK2 Tryz.prog 87 (.rc F87) := .rc Tryz.func87 (by kernel_rfl) F87_ok
theorem F88_ok : prepF Tryz.prog ⟨[],[(0,[0,1]),(1,[0,1,5]),(2,[0,1,5,32]),(3,[0,1,5]),(4,[4]),(1000000,[0,1,5])],[]⟩ Tryz.f88 = some F88 := by kernel_rfl
theorem F88_fn:FnOK2 Tryz.prog 88 (.pl F88):=.pl Tryz.func88 (by kernel_rfl) F88_ok
theorem F89_ok : prepF Tryz.prog ⟨[],[(0,[0]),(1,[2])],[]⟩ Tryz.f89 = some F89 := by kernel_rfl
theorem F89_fn:FnOK2 Tryz.prog 89 (.pl F89):=.pl Tryz.func89 (by kernel_rfl) F89_ok
theorem F90_ok : prepF Tryz.prog ⟨[],[(0,[0,1]),(1,[4])],[]⟩ Tryz.f90 = some F90 := by kernel_rfl
theorem F90_fn:FnOK2 Tryz.prog 90 (.pl F90):=.pl Tryz.func90 (by kernel_rfl) F90_ok
theorem F91_ok : prepF Tryz.prog ⟨[],[(0,[0,1,3,9]),(1,[0,1,3]),(2,[0,1]),(3,[1,24]),(4,[])],[]⟩ Tryz.f91 = some F91 := by kernel_rfl
theorem F91_fn:FnOK2 Tryz.prog 91 (.pl F91):=.pl Tryz.func91 (by kernel_rfl) F91_ok
theorem F92_ok : prepF Tryz.prog ⟨[],[(0,[0]),(1,[0,3,4,5]),(2,[0,3,4,5,21]),(3,[0,3,4]),(4,[3]),(5,[2])],[]⟩ Tryz.f92 = some F92 := by kernel_rfl
theorem F92_fn:FnOK2 Tryz.prog 92 (.pl F92):=.pl Tryz.func92 (by kernel_rfl) F92_ok
theorem F93_ok : prepF Tryz.prog ⟨[2,4,5],[(0,[1,2,4]),(1,[1,2,4,5]),(2,[1,2,4,5]),(3,[1,2,4,5]),(4,[1,2,4,5,14]),(5,[4,5]),(6,[4]),(7,[1,2,4,5]),(8,[1,2,4,5]),(9,[1,2,4,5]),(10,[1,2,4,5,40]),(11,[4,5]),(12,[4]),(13,[1,2,4,5]),(1000000,[1,2,4,5])],[(8,[(some 5),(some 5),(some 2),none,none,none,none,none,(some 5),(some 5)])]⟩ Tryz.f93 = some F93 := by kernel_rfl
theorem F93_fn:FnOK2 Tryz.prog 93 (.pl F93):=.pl Tryz.func93 (by kernel_rfl) F93_ok
theorem F94_ok : prepF Tryz.prog ⟨[2,4,5],[(0,[1,2,4]),(1,[1,2,4,5]),(2,[1,2,4,5,6]),(3,[1,2,4,5,6]),(4,[1,2,4,5,6]),(5,[1,2,4,5,6,18]),(6,[4,5]),(7,[4]),(8,[1,2,4,5,6]),(9,[1,2,4,5,6,7]),(10,[1,2,4,5,6,7,38]),(11,[1,2,4,5,6,7]),(12,[1,2,4,5,6,7,8]),(13,[1,2,4,5,6,7,8]),(14,[1,2,4,5,6,7,8,52]),(15,[1,2,4,5,6,8]),(16,[1,2,4,5,6,8]),(17,[1,2,4,5,6,8]),(18,[1,2,4,5,6,8]),(19,[1,2,4,5,6]),(20,[1,2,4,5,6]),(21,[1,2,4,5,6]),(22,[1,2,4,5,6,82]),(23,[4,5]),(24,[4]),(25,[1,2,4,5,6]),(1000000,[1,2,4,5,6])],[(20,[(some 5),(some 5),(some 2),none,none,none,none,none,(some 5),(some 5)])]⟩ Tryz.f94 = some F94 := by kernel_rfl
theorem F94_fn:FnOK2 Tryz.prog 94 (.pl F94):=.pl Tryz.func94 (by kernel_rfl) F94_ok
theorem F95_ok : prepF Tryz.prog ⟨[],[(0,[0]),(1,[2])],[]⟩ Tryz.f95 = some F95 := by kernel_rfl
theorem F95_fn:FnOK2 Tryz.prog 95 (.pl F95):=.pl Tryz.func95 (by kernel_rfl) F95_ok
theorem F96_ok : prepF Tryz.prog ⟨[],[(0,[0]),(1,[2])],[]⟩ Tryz.f96 = some F96 := by kernel_rfl
theorem F96_fn:FnOK2 Tryz.prog 96 (.pl F96):=.pl Tryz.func96 (by kernel_rfl) F96_ok
theorem F97_ok : prepF Tryz.prog ⟨[],[(0,[])],[]⟩ Tryz.f97 = some F97 := by kernel_rfl
theorem F97_fn:FnOK2 Tryz.prog 97 (.pl F97):=.pl Tryz.func97 (by kernel_rfl) F97_ok
theorem F98_ok : prepF Tryz.prog ⟨[2],[(0,[0,2]),(1,[0,2,3]),(2,[0,2,3,11]),(3,[2,3,4,5]),(4,[2,3,4,5,53]),(5,[2,4]),(6,[2]),(7,[0,2,3,59]),(8,[0,2,3,6]),(9,[0,2,3,6,84]),(10,[0,2,3,6,84,85]),(11,[2]),(12,[0,2,3,6,84,88]),(13,[0,2,3,6,88]),(14,[2]),(15,[0,2]),(16,[2]),(17,[2])],[]⟩ Tryz.f98 = some F98 := by kernel_rfl
theorem F98_fn:FnOK2 Tryz.prog 98 (.pl F98):=.pl Tryz.func98 (by kernel_rfl) F98_ok
theorem F99_ok : prepF Tryz.prog ⟨[],[(0,[0,1]),(1,[0,1,7,8]),(2,[0,1,7,8,9]),(3,[0,1,5,7,8]),(4,[0,1,5,7,8,16]),(5,[4]),(6,[0,1,7,8]),(7,[4]),(1000000,[0,1,7,8])],[]⟩ Tryz.f99 = some F99 := by kernel_rfl
theorem F99_fn:FnOK2 Tryz.prog 99 (.pl F99):=.pl Tryz.func99 (by kernel_rfl) F99_ok
theorem F100_ok : prepF Tryz.prog ⟨[],[(0,[0,1]),(1,[0,1,10]),(2,[4]),(3,[0,1,12,13]),(4,[0,1,12,13,14]),(5,[0,1,5,12,13]),(6,[0,1,12,13,24]),(7,[4]),(8,[0,1,12,13]),(9,[4]),(1000000,[0,1,12,13])],[]⟩ Tryz.f100 = some F100 := by kernel_rfl
theorem F100_fn:FnOK2 Tryz.prog 100 (.pl F100):=.pl Tryz.func100 (by kernel_rfl) F100_ok
theorem F101_ok : prepF Tryz.prog ⟨[8,9],[(0,[0,1,2]),(1,[0,1,2,14]),(2,[6]),(3,[1,2,15,16,17]),(4,[1,2,15,16,17,18]),(5,[1,2,7,8,15,16,17]),(6,[1,2,8,9,15,16,17]),(7,[1,2,15,16,17,30]),(8,[6]),(9,[1,2,15,16,17]),(10,[6]),(1000000,[1,2,15,16,17])],[]⟩ Tryz.f101 = some F101 := by kernel_rfl
theorem F101_fn:FnOK2 Tryz.prog 101 (.pl F101):=.pl Tryz.func101 (by kernel_rfl) F101_ok
theorem F102_ok : prepF Tryz.prog ⟨[],[(0,[0]),(1,[2])],[]⟩ Tryz.f102 = some F102 := by kernel_rfl
theorem F102_fn:FnOK2 Tryz.prog 102 (.pl F102):=.pl Tryz.func102 (by kernel_rfl) F102_ok
theorem F103_ok : prepF Tryz.prog ⟨[6,8],[(0,[0,1]),(1,[1,6,7]),(2,[1,6,7,15]),(3,[4,5]),(4,[6,7,8]),(5,[6,7,8,23]),(6,[4,5]),(7,[6,8,25]),(8,[4,5]),(9,[6,8,35]),(10,[4,5]),(11,[6,8,38]),(12,[4,5]),(13,[4,5])],[]⟩ Tryz.f103 = some F103 := by kernel_rfl
theorem F103_fn:FnOK2 Tryz.prog 103 (.pl F103):=.pl Tryz.func103 (by kernel_rfl) F103_ok
theorem F104_ok : prepF Tryz.prog ⟨[],[(0,[0,1]),(1,[4])],[]⟩ Tryz.f104 = some F104 := by kernel_rfl
theorem F104_fn:FnOK2 Tryz.prog 104 (.pl F104):=.pl Tryz.func104 (by kernel_rfl) F104_ok
theorem F112_ok : prepF Tryz.prog ⟨[],[(0,[])],[]⟩ Tryz.f112 = some F112 := by kernel_rfl
theorem F112_fn:FnOK2 Tryz.prog 112 (.pl F112):=.pl Tryz.func112 (by kernel_rfl) F112_ok
theorem F113_ok : prepF Tryz.prog ⟨[],[(0,[0,1,2]),(1,[5])],[]⟩ Tryz.f113 = some F113 := by kernel_rfl
theorem F113_fn:FnOK2 Tryz.prog 113 (.pl F113):=.pl Tryz.func113 (by kernel_rfl) F113_ok
theorem F128_ok : prepF Tryz.prog ⟨[],[(0,[0,1]),(1,[0,1]),(2,[1]),(3,[4,5])],[]⟩ Tryz.f128 = some F128 := by kernel_rfl
theorem F128_fn:FnOK2 Tryz.prog 128 (.pl F128):=.pl Tryz.func128 (by kernel_rfl) F128_ok
theorem F129_ok : prepF Tryz.prog ⟨[],[(0,[0,1]),(1,[0,1]),(2,[]),(3,[4])],[]⟩ Tryz.f129 = some F129 := by kernel_rfl
theorem F129_fn:FnOK2 Tryz.prog 129 (.pl F129):=.pl Tryz.func129 (by kernel_rfl) F129_ok
theorem F130_ok : prepF Tryz.prog ⟨[],[(0,[0]),(1,[0,3]),(2,[0,3,4]),(3,[0,3,4]),(4,[2]),(5,[3,8]),(6,[2]),(7,[3,10]),(8,[2]),(9,[3,12]),(10,[2]),(11,[3,14]),(12,[2]),(13,[16]),(14,[2]),(15,[2])],[]⟩ Tryz.f130 = some F130 := by kernel_rfl
theorem F130_fn:FnOK2 Tryz.prog 130 (.pl F130):=.pl Tryz.func130 (by kernel_rfl) F130_ok
theorem F131_ok : prepF Tryz.prog ⟨[],[(0,[0]),(1,[2])],[]⟩ Tryz.f131 = some F131 := by kernel_rfl
theorem F131_fn:FnOK2 Tryz.prog 131 (.pl F131):=.pl Tryz.func131 (by kernel_rfl) F131_ok
theorem F132_ok : prepF Tryz.prog ⟨[2],[(0,[0,2]),(1,[0,2,4,5,6,7,8]),(2,[0,2,4,5,6,7,21]),(3,[2,3]),(4,[2,4,5,6,7,25]),(5,[2,3]),(6,[2,4,5,6,8,9]),(7,[2,4,5,6,9,33]),(8,[2,3]),(9,[2,4,6,9,10]),(10,[2,4,9,10]),(11,[2,4,9,10,11]),(12,[2,4,9,11]),(13,[2,4,9,11,53]),(14,[2,3]),(15,[2,3])],[]⟩ Tryz.f132 = some F132 := by kernel_rfl
theorem F132_fn:FnOK2 Tryz.prog 132 (.pl F132):=.pl Tryz.func132 (by kernel_rfl) F132_ok
theorem F133_ok : prepF Tryz.prog ⟨[1],[(0,[1]),(1,[1,4]),(2,[1,4,9]),(3,[1,4,9]),(4,[1,4,9]),(5,[2,3]),(6,[1,4,42]),(7,[2,3]),(8,[1,51]),(9,[2,3]),(10,[1,5]),(11,[1,5,57]),(12,[1,5]),(13,[1,5,62]),(14,[5]),(15,[5,71]),(16,[2,3]),(17,[2,3])],[]⟩ Tryz.f133 = some F133 := by kernel_rfl
theorem F133_fn:FnOK2 Tryz.prog 133 (.pl F133):=.pl Tryz.func133 (by kernel_rfl) F133_ok
theorem F134_ok : prepF Tryz.prog ⟨[],[(0,[0]),(1,[0,33]),(2,[2]),(3,[2])],[]⟩ Tryz.f134 = some F134 := by kernel_rfl
theorem F134_fn:FnOK2 Tryz.prog 134 (.pl F134):=.pl Tryz.func134 (by kernel_rfl) F134_ok
theorem F135_ok : prepF Tryz.prog ⟨[],[(0,[0]),(1,[0,34]),(2,[2]),(3,[0,37]),(4,[2]),(5,[0,3]),(6,[2])],[]⟩ Tryz.f135 = some F135 := by kernel_rfl
theorem F135_fn:FnOK2 Tryz.prog 135 (.pl F135):=.pl Tryz.func135 (by kernel_rfl) F135_ok
theorem F136_ok : prepF Tryz.prog ⟨[],[(0,[0]),(1,[0,6]),(2,[2,3]),(3,[0,30]),(4,[2,3]),(5,[0,4]),(6,[0,4,51]),(7,[2,3]),(8,[2,3])],[]⟩ Tryz.f136 = some F136 := by kernel_rfl
theorem F136_fn:FnOK2 Tryz.prog 136 (.pl F136):=.pl Tryz.func136 (by kernel_rfl) F136_ok
theorem F137_ok : prepF Tryz.prog ⟨[],[(0,[0,1]),(1,[4,5,6])],[]⟩ Tryz.f137 = some F137 := by kernel_rfl
theorem F137_fn:FnOK2 Tryz.prog 137 (.pl F137):=.pl Tryz.func137 (by kernel_rfl) F137_ok
theorem F138_ok : prepF Tryz.prog ⟨[],[(0,[0]),(1,[0,7]),(2,[2,3]),(3,[0,2,3,4]),(4,[0,2,3,4,22]),(5,[2,3]),(6,[0,2,3,4,5]),(7,[0,2,3,4,5,25]),(8,[0,2,3,4,5]),(9,[0,2,3,4,5,32]),(10,[2,3]),(11,[0,2,3,4,5]),(12,[2,3,48]),(13,[2,3]),(14,[2,3]),(1000000,[0,2,3,4,5])],[]⟩ Tryz.f138 = some F138 := by kernel_rfl
theorem F138_fn:FnOK2 Tryz.prog 138 (.pl F138):=.pl Tryz.func138 (by kernel_rfl) F138_ok
theorem F139_ok : prepF Tryz.prog ⟨[],[(0,[0]),(1,[0,11]),(2,[2,3,4]),(3,[0,15]),(4,[2,3,4]),(5,[0,5]),(6,[0,5,6]),(7,[0,5,6,20]),(8,[0,5,6,7]),(9,[0,5,6]),(10,[0,5,6]),(11,[0,5,6,7,30]),(12,[2,3,4]),(13,[0,5,6,7,37]),(14,[2,3,4]),(15,[0,5,6,7,42]),(16,[0,5,6,8,9]),(17,[0,5,6,8,9,54]),(18,[2,3,4]),(19,[0,5,6,9]),(20,[0,5,6]),(21,[2,3,4]),(1000000,[0,5,6])],[]⟩ Tryz.f139 = some F139 := by kernel_rfl
theorem F139_fn:FnOK2 Tryz.prog 139 (.pl F139):=.pl Tryz.func139 (by kernel_rfl) F139_ok
theorem F140_ok : prepF Tryz.prog ⟨[],[(0,[0,7]),(1,[0]),(2,[])],[]⟩ Tryz.f140 = some F140 := by kernel_rfl
theorem F140_fn:FnOK2 Tryz.prog 140 (.pl F140):=.pl Tryz.func140 (by kernel_rfl) F140_ok
theorem F141_ok : prepF Tryz.prog ⟨[],[(0,[0]),(1,[2])],[]⟩ Tryz.f141 = some F141 := by kernel_rfl
theorem F141_fn:FnOK2 Tryz.prog 141 (.pl F141):=.pl Tryz.func141 (by kernel_rfl) F141_ok
theorem F142_ok : prepF Tryz.prog ⟨[],[(0,[0]),(1,[2])],[]⟩ Tryz.f142 = some F142 := by kernel_rfl
theorem F142_fn:FnOK2 Tryz.prog 142 (.pl F142):=.pl Tryz.func142 (by kernel_rfl) F142_ok
theorem F143_ok : prepF Tryz.prog ⟨[2],[(0,[0,2]),(1,[0,2,5]),(2,[0,2,5,12]),(3,[2,3]),(4,[2,3])],[]⟩ Tryz.f143 = some F143 := by kernel_rfl
theorem F143_fn:FnOK2 Tryz.prog 143 (.pl F143):=.pl Tryz.func143 (by kernel_rfl) F143_ok
theorem F144_ok : prepF Tryz.prog ⟨[2,3],[(0,[2,3]),(1,[2,3,5,6]),(2,[2,3,5,6,13]),(3,[4]),(4,[2,3,5,6,25]),(5,[4]),(6,[4])],[(1,[(some 2),(some 2),none,(some 3),(some 3),none,none,none])]⟩ Tryz.f144 = some F144 := by kernel_rfl
theorem F144_fn:FnOK2 Tryz.prog 144 (.pl F144):=.pl Tryz.func144 (by kernel_rfl) F144_ok
theorem F145_ok : prepF Tryz.prog ⟨[],[(0,[0,1]),(1,[4])],[]⟩ Tryz.f145 = some F145 := by kernel_rfl
theorem F145_fn:FnOK2 Tryz.prog 145 (.pl F145):=.pl Tryz.func145 (by kernel_rfl) F145_ok
theorem F150_ok : prepF Tryz.prog ⟨[],[(0,[0,1,2,6]),(1,[0,1,2,6,7,8]),(2,[0,1,2,6,7,8,13]),(3,[0,1,2,6,8]),(4,[0,1,2,6,7,8]),(5,[0,1,2,6,7,8]),(6,[0,1,2,6]),(7,[0,1,2,6,30]),(8,[0,1,2,6,7,8]),(9,[0,1,2,6,7,8,35]),(10,[0,1,2,6,8]),(11,[0,1,2,6,7,8]),(12,[0,1,2,6,7,8]),(13,[0,1,2,6,7,9]),(14,[0,1,2,6,7,9,54]),(15,[0,1,2,6]),(16,[0,1,2,6]),(1000000,[0,1,2,6,7,8]),(1000002,[0,1,2,6]),(1000004,[0,1,2,6,7,8])],[]⟩ Tryz.f150 = some F150 := by kernel_rfl
theorem F150_fn:FnOK2 Tryz.prog 150 (.pl F150):=.pl Tryz.func150 (by kernel_rfl) F150_ok
theorem F159_ok : prepF Tryz.prog ⟨[],[(0,[0,6]),(1,[]),(2,[19])],[]⟩ Tryz.f159 = some F159 := by kernel_rfl
theorem F159_fn:FnOK2 Tryz.prog 159 (.pl F159):=.pl Tryz.func159 (by kernel_rfl) F159_ok
theorem F160_ok : prepF Tryz.prog ⟨[],[(0,[0,4]),(1,[4,7]),(2,[2,4,7]),(3,[2,4,7,13]),(4,[2,4,7]),(5,[2,4,7,8]),(6,[2,4,7,8,28]),(7,[2,3,4,5,6]),(8,[2,3,4,7]),(9,[2,3,4,7,36]),(10,[2,3,7,8]),(11,[2,3,7,8,41]),(12,[2,3,4,5,6]),(13,[2,3,4,7]),(14,[2,3,4,7,51]),(15,[2,3,4,5,6]),(16,[2,3,4,7,62]),(17,[2,3,4,5,6]),(18,[2,3,4,5]),(19,[2,3,4,5,9]),(20,[2,3,4,5,9,69]),(21,[2,3,4,5,9]),(22,[2,3,4,5,80]),(23,[2,3,4,5,6]),(24,[2,3,4,5,6])],[]⟩ Tryz.f160 = some F160 := by kernel_rfl
theorem F160_fn:FnOK2 Tryz.prog 160 (.pl F160):=.pl Tryz.func160 (by kernel_rfl) F160_ok
theorem F161_ok : prepF Tryz.prog ⟨[],[(0,[0]),(1,[0,4]),(2,[0,4]),(3,[0,4,14]),(4,[2,3]),(5,[4,5]),(6,[5,21]),(7,[2,3]),(8,[2,3])],[]⟩ Tryz.f161 = some F161 := by kernel_rfl
theorem F161_fn:FnOK2 Tryz.prog 161 (.pl F161):=.pl Tryz.func161 (by kernel_rfl) F161_ok
abbrev N162:Note:=⟨[],[(0,[0,1]),(1,[0,1,12]),(2,[4]),(3,[0,1,21]),(4,[4]),(5,[0,1,5,6]),(6,[0,1,5,31]),(7,[4]),(8,[4])],[]⟩
def F162:DF:=pF N162 Tryz.f162
theorem F162_ok:prepF Tryz.prog N162 Tryz.f162=some F162:=by kernel_rfl
theorem F162_fn:FnOK2 Tryz.prog 162 (.pl F162):=.pl Tryz.func162 (by kernel_rfl) F162_ok
abbrev N163:Note:=⟨[],[(0,[0,1]),(1,[0,1,12]),(2,[4]),(3,[0,1,21]),(4,[4]),(5,[0,1,5,6]),(6,[0,1,5,31]),(7,[4]),(8,[4])],[]⟩
def F163:DF:=pF N163 Tryz.f163
theorem F163_ok:prepF Tryz.prog N163 Tryz.f163=some F163:=by kernel_rfl
theorem F163_fn:FnOK2 Tryz.prog 163 (.pl F163):=.pl Tryz.func163 (by kernel_rfl) F163_ok
theorem F164_ok : prepF Tryz.prog ⟨[],[(0,[0]),(1,[0,3]),(2,[0,3,13]),(3,[0,3]),(4,[2]),(1000000,[0,3])],[]⟩ Tryz.f164 = some F164 := by kernel_rfl
theorem F164_fn:FnOK2 Tryz.prog 164 (.pl F164):=.pl Tryz.func164 (by kernel_rfl) F164_ok
abbrev N165:Note:=⟨[],[(0,[0]),(1,[2])],[]⟩
def F165:DF:=pF N165 Tryz.f165
theorem F165_ok:prepF Tryz.prog N165 Tryz.f165=some F165:=by kernel_rfl
theorem F165_fn:FnOK2 Tryz.prog 165 (.pl F165):=.pl Tryz.func165 (by kernel_rfl) F165_ok
theorem F166_ok : prepF Tryz.prog ⟨[],[(0,[0]),(1,[0,25]),(2,[2]),(3,[2])],[]⟩ Tryz.f166 = some F166 := by kernel_rfl
theorem F166_fn:FnOK2 Tryz.prog 166 (.pl F166):=.pl Tryz.func166 (by kernel_rfl) F166_ok
theorem F167_ok : prepF Tryz.prog ⟨[],[(0,[0,1,2]),(1,[6])],[]⟩ Tryz.f167 = some F167 := by kernel_rfl
theorem F167_fn:FnOK2 Tryz.prog 167 (.pl F167):=.pl Tryz.func167 (by kernel_rfl) F167_ok
theorem F168_ok : prepF Tryz.prog ⟨[],[(0,[0,1]),(1,[0,5]),(2,[0,5,6]),(3,[0,5,6]),(4,[0,5,6]),(5,[0,5,6]),(6,[4]),(7,[0,11]),(8,[25]),(9,[4]),(10,[4]),(11,[4])],[]⟩ Tryz.f168 = some F168 := by kernel_rfl
theorem F168_fn:FnOK2 Tryz.prog 168 (.pl F168):=.pl Tryz.func168 (by kernel_rfl) F168_ok
abbrev N169:Note:=⟨[],[(0,[0,1]),(1,[0,1,12]),(2,[4]),(3,[0,1,21]),(4,[4]),(5,[0,1,5,6]),(6,[0,1,5,34]),(7,[4]),(8,[4])],[]⟩
def F169:DF:=pF N169 Tryz.f169
theorem F169_ok:prepF Tryz.prog N169 Tryz.f169=some F169:=by kernel_rfl
theorem F169_fn:FnOK2 Tryz.prog 169 (.pl F169):=.pl Tryz.func169 (by kernel_rfl) F169_ok
theorem F170_ok : prepF Tryz.prog ⟨[],[(0,[0,1]),(1,[4])],[]⟩ Tryz.f170 = some F170 := by kernel_rfl
theorem F170_fn:FnOK2 Tryz.prog 170 (.pl F170):=.pl Tryz.func170 (by kernel_rfl) F170_ok
theorem F171_ok : prepF Tryz.prog ⟨[],[(0,[0,1]),(1,[0,1,7]),(2,[0,1,7,12]),(3,[4,5,6]),(4,[4,5,6])],[]⟩ Tryz.f171 = some F171 := by kernel_rfl
theorem F171_fn:FnOK2 Tryz.prog 171 (.pl F171):=.pl Tryz.func171 (by kernel_rfl) F171_ok
theorem F172_ok : prepF Tryz.prog ⟨[],[(0,[0]),(1,[0,5]),(2,[2,3,4]),(3,[0,11]),(4,[2,3,4]),(5,[0,18]),(6,[2,3,4]),(7,[0,25]),(8,[2,3,4]),(9,[2,3,4])],[]⟩ Tryz.f172 = some F172 := by kernel_rfl
theorem F172_fn:FnOK2 Tryz.prog 172 (.pl F172):=.pl Tryz.func172 (by kernel_rfl) F172_ok
theorem F173_ok : prepF Tryz.prog ⟨[],[(0,[0]),(1,[2])],[]⟩ Tryz.f173 = some F173 := by kernel_rfl
theorem F173_fn:FnOK2 Tryz.prog 173 (.pl F173):=.pl Tryz.func173 (by kernel_rfl) F173_ok
theorem F174_ok : prepF Tryz.prog ⟨[],[(0,[0]),(1,[0,5]),(2,[2,3]),(3,[0,7]),(4,[0,7,8]),(5,[0,7,8]),(6,[0,7,8]),(7,[2,3]),(8,[0,7,15]),(9,[2,3]),(10,[0,7,17]),(11,[2,3]),(12,[0,7,19]),(13,[2,3]),(14,[0,7,21]),(15,[2,3]),(16,[0,7,23]),(17,[2,3]),(18,[0,25]),(19,[2,3]),(20,[2,3])],[]⟩ Tryz.f174 = some F174 := by kernel_rfl
theorem F174_fn:FnOK2 Tryz.prog 174 (.pl F174):=.pl Tryz.func174 (by kernel_rfl) F174_ok
theorem F175_ok : prepF Tryz.prog ⟨[],[(0,[0,3]),(1,[0,3,5]),(2,[0,3,5,7]),(3,[4]),(4,[0,3,5,15]),(5,[4]),(6,[0,3,5,27]),(7,[4]),(8,[4])],[]⟩ Tryz.f175 = some F175 := by kernel_rfl
theorem F175_fn:FnOK2 Tryz.prog 175 (.pl F175):=.pl Tryz.func175 (by kernel_rfl) F175_ok
theorem F176_ok : prepF Tryz.prog ⟨[],[(0,[0]),(1,[2])],[]⟩ Tryz.f176 = some F176 := by kernel_rfl
theorem F176_fn:FnOK2 Tryz.prog 176 (.pl F176):=.pl Tryz.func176 (by kernel_rfl) F176_ok
theorem F180_ok : prepF Tryz.prog ⟨[],[(0,[0,1,2,3,8]),(1,[0,1,2,3,8,14]),(2,[0,1,2,3,8]),(3,[0,1,2,3,8,9]),(4,[0,1,2,3,8,9,34]),(5,[0,1,2,3,8,9]),(6,[0,1,2,3,8,9]),(1000000,[0,1,2,3,8]),(1000002,[0,1,2,3,8,9])],[]⟩ Tryz.f180 = some F180 := by kernel_rfl
theorem F180_fn:FnOK2 Tryz.prog 180 (.pl F180):=.pl Tryz.func180 (by kernel_rfl) F180_ok
theorem F181_ok : prepF Tryz.prog ⟨[],[(0,[0,1,2,3,4,28]),(1,[0,1,3,4,10]),(2,[0,1,4,10,11]),(3,[0,1,4,10,11,33]),(4,[0,1,4,10,11,12]),(5,[0,1,4,10,11,12,50]),(6,[0,1,4,10,11]),(7,[0,1,4,10,11]),(8,[0,10,13]),(9,[0,10,13,58]),(10,[0,10,13]),(11,[0,10,13]),(12,[0,1,2,3,4,80]),(13,[0,2,4,14]),(14,[0,2,4,14,15]),(15,[0,2,4,14,15,85]),(16,[0,2,4,14,15,16]),(17,[0,2,4,14,15,16,103]),(18,[0,2,4,14,15]),(19,[0,2,4,14,15]),(20,[0,14,17]),(21,[0,14,17,110]),(22,[0,14,17]),(23,[0,14,17]),(24,[0,1,2,3,4,18]),(25,[0,1,2,3,4,18,19]),(26,[0,1,2,3,4,18,19]),(27,[0,1,2,3,4,18,19,140]),(28,[0,1,2,3,4,18,19,20]),(29,[0,1,2,3,4,18,19,20,21]),(30,[0,1,2,3,4,18,19,20]),(31,[0,1,2,3,4,18,19,20,21]),(32,[0,1,2,3,4,18,19,20,21,22]),(33,[0,1,2,3,4,18,19,20,21,22,151]),(34,[0,1,2,3,4,18,19,20,21,22,23]),(35,[0,1,2,3,4,18,19,20,21,22,23,171]),(36,[0,1,2,3,4,18,19,20,21,22]),(37,[0,1,2,3,4,18,19,20,21,22]),(38,[0,1,2,3,4,18,20,24]),(39,[0,1,2,3,4,18,20,24,185]),(40,[0,1,3,4,18,20,24]),(41,[0,1,3,4,18,20,24,199]),(42,[0,3,4,18,24]),(43,[0,3,4,18,24,213]),(44,[]),(1000000,[0,1,4,10,11]),(1000002,[0,10,13]),(1000004,[0,2,4,14,15]),(1000006,[0,14,17]),(1000008,[0,1,2,3,4,18,19,20,21,22])],[]⟩ Tryz.f181 = some F181 := by kernel_rfl
theorem F181_fn:FnOK2 Tryz.prog 181 (.pl F181):=.pl Tryz.func181 (by kernel_rfl) F181_ok
theorem F185_ok : prepF Tryz.prog ⟨[],[(0,[0,1]),(1,[4])],[]⟩ Tryz.f185 = some F185 := by kernel_rfl
theorem F185_fn:FnOK2 Tryz.prog 185 (.pl F185):=.pl Tryz.func185 (by kernel_rfl) F185_ok
theorem F186_ok : prepF Tryz.prog ⟨[],[(0,[0,1]),(1,[4])],[]⟩ Tryz.f186 = some F186 := by kernel_rfl
theorem F186_fn:FnOK2 Tryz.prog 186 (.pl F186):=.pl Tryz.func186 (by kernel_rfl) F186_ok
abbrev N187:Note:=⟨[],[(0,[0]),(1,[0,4,5]),(2,[0,4,5,12]),(3,[2,3]),(4,[2,3])],[]⟩
def F187:DF:=pF N187 Tryz.f187
theorem F187_ok:prepF Tryz.prog N187 Tryz.f187=some F187:=by kernel_rfl
theorem F187_fn:FnOK2 Tryz.prog 187 (.pl F187):=.pl Tryz.func187 (by kernel_rfl) F187_ok
abbrev N188:Note:=⟨[],[(0,[0,1]),(1,[0,1,13]),(2,[0,1]),(3,[4]),(1000000,[0,1])],[]⟩
def F188:DF:=pF N188 Tryz.f188
theorem F188_ok:prepF Tryz.prog N188 Tryz.f188=some F188:=by kernel_rfl
theorem F188_fn:FnOK2 Tryz.prog 188 (.pl F188):=.pl Tryz.func188 (by kernel_rfl) F188_ok
abbrev N189:Note:=⟨[2],[(0,[0,2]),(1,[0,2,4]),(2,[0,2,4,9]),(3,[0,2,4]),(4,[0,2,4,5]),(5,[0,2,4,5,16]),(6,[2,3]),(7,[0,2,4]),(8,[2,3]),(1000000,[0,2,4])],[]⟩
def F189:DF:=pF N189 Tryz.f189
theorem F189_ok:prepF Tryz.prog N189 Tryz.f189=some F189:=by kernel_rfl
theorem F189_fn:FnOK2 Tryz.prog 189 (.pl F189):=.pl Tryz.func189 (by kernel_rfl) F189_ok
abbrev N190:Note:=⟨[],[(0,[0,1]),(1,[0,1,7]),(2,[0,1,12]),(3,[0,1]),(4,[4]),(1000000,[0,1])],[]⟩
def F190:DF:=pF N190 Tryz.f190
theorem F190_ok:prepF Tryz.prog N190 Tryz.f190=some F190:=by kernel_rfl
theorem F190_fn:FnOK2 Tryz.prog 190 (.pl F190):=.pl Tryz.func190 (by kernel_rfl) F190_ok
abbrev N191:Note:=⟨[],[(0,[0,1]),(1,[0,1,9]),(2,[0,1,5,6]),(3,[0,1,6,18]),(4,[0,1]),(5,[4]),(1000000,[0,1])],[]⟩
def F191:DF:=pF N191 Tryz.f191
theorem F191_ok:prepF Tryz.prog N191 Tryz.f191=some F191:=by kernel_rfl
theorem F191_fn:FnOK2 Tryz.prog 191 (.pl F191):=.pl Tryz.func191 (by kernel_rfl) F191_ok
abbrev N192:Note:=⟨[],[(0,[0,1]),(1,[0,1,16]),(2,[0,1]),(3,[4]),(1000000,[0,1])],[]⟩
def F192:DF:=pF N192 Tryz.f192
theorem F192_ok:prepF Tryz.prog N192 Tryz.f192=some F192:=by kernel_rfl
theorem F192_fn:FnOK2 Tryz.prog 192 (.pl F192):=.pl Tryz.func192 (by kernel_rfl) F192_ok
abbrev N193:Note:=⟨[],[(0,[0,1]),(1,[0,1,7]),(2,[0,1,15]),(3,[0,1]),(4,[4]),(1000000,[0,1])],[]⟩
def F193:DF:=pF N193 Tryz.f193
theorem F193_ok:prepF Tryz.prog N193 Tryz.f193=some F193:=by kernel_rfl
theorem F193_fn:FnOK2 Tryz.prog 193 (.pl F193):=.pl Tryz.func193 (by kernel_rfl) F193_ok
abbrev N194:Note:=⟨[],[(0,[0,1]),(1,[0,1,9]),(2,[0,1,5,6]),(3,[0,1,5,6,17]),(4,[0,1,5,6]),(5,[0,1,6,26]),(6,[0,1]),(7,[4]),(1000000,[0,1])],[]⟩
def F194:DF:=pF N194 Tryz.f194
theorem F194_ok:prepF Tryz.prog N194 Tryz.f194=some F194:=by kernel_rfl
theorem F194_fn:FnOK2 Tryz.prog 194 (.pl F194):=.pl Tryz.func194 (by kernel_rfl) F194_ok
theorem F195_ok : prepF Tryz.prog ⟨[],[(0,[0]),(1,[2])],[]⟩ Tryz.f195 = some F195 := by kernel_rfl
theorem F195_fn:FnOK2 Tryz.prog 195 (.pl F195):=.pl Tryz.func195 (by kernel_rfl) F195_ok
abbrev N196:Note:=⟨[],[(0,[0]),(1,[2])],[]⟩
def F196:DF:=pF N196 Tryz.f196
theorem F196_ok:prepF Tryz.prog N196 Tryz.f196=some F196:=by kernel_rfl
theorem F196_fn:FnOK2 Tryz.prog 196 (.pl F196):=.pl Tryz.func196 (by kernel_rfl) F196_ok
theorem F197_ok : prepF Tryz.prog ⟨[],[(0,[0,1]),(1,[4])],[]⟩ Tryz.f197 = some F197 := by kernel_rfl
theorem F197_fn:FnOK2 Tryz.prog 197 (.pl F197):=.pl Tryz.func197 (by kernel_rfl) F197_ok
theorem F198_ok : prepF Tryz.prog ⟨[],[(0,[0,1]),(1,[0,1,5]),(2,[0,1,5,16]),(3,[4]),(4,[0,1,5,24]),(5,[4]),(6,[0,1,5,31]),(7,[4]),(8,[0,1,5,36]),(9,[4]),(10,[0,1,5,6]),(11,[0,1,5,6,7]),(12,[0,1,5,6,7,8]),(13,[0,1,5,6,7,8,9]),(14,[0,1,5,6,7,8,9,10]),(15,[0,1,5,6,7,8,9,10,59]),(16,[0,1,5,6,7,8,9,10,64]),(17,[0,1,5,6,7,8,9,10,11]),(18,[0,1,5,6,7,8,9,10,11,73]),(19,[4]),(20,[0,1,5,6,7,8,9,10]),(21,[0,1,5,6,7,8,9,10,93]),(22,[4]),(23,[0,1,5,6,7,8,9,10]),(24,[0,1,5,6,7,8,9,10]),(25,[0,1,5,6,7,8,9,10,107]),(26,[8,12]),(27,[8,12,114]),(28,[4]),(29,[4]),(30,[0,1,5,6,7,8,9,10,132]),(31,[8,13]),(32,[8,13,139]),(33,[4]),(34,[4]),(35,[4]),(1000001,[0,1,5,6,7,8,9,10])],[]⟩ Tryz.f198 = some F198 := by kernel_rfl
theorem F198_fn:FnOK2 Tryz.prog 198 (.pl F198):=.pl Tryz.func198 (by kernel_rfl) F198_ok
theorem F199_ok : prepF Tryz.prog ⟨[],[(0,[0]),(1,[0,4]),(2,[0,4,14]),(3,[4,16]),(4,[2,3]),(5,[2,3]),(6,[0,4,25]),(7,[2,3]),(8,[4,5]),(9,[4,5,34]),(10,[2,3]),(11,[2,3])],[]⟩ Tryz.f199 = some F199 := by kernel_rfl
theorem F199_fn:FnOK2 Tryz.prog 199 (.pl F199):=.pl Tryz.func199 (by kernel_rfl) F199_ok
theorem F200_ok : prepF Tryz.prog ⟨[],[(0,[0,1]),(1,[3])],[]⟩ Tryz.f200 = some F200 := by kernel_rfl
theorem F200_fn:FnOK2 Tryz.prog 200 (.pl F200):=.pl Tryz.func200 (by kernel_rfl) F200_ok
theorem F201_ok : prepF Tryz.prog ⟨[],[(0,[0,2,3,4,10]),(1,[0,2,4,10,11]),(2,[0,2,4,10,11,20]),(3,[0,2,4,10,11,23]),(4,[0,2,4,10,11]),(5,[0,2,4,10,11]),(6,[0,2,4,10,11]),(7,[0,2,4,10,11]),(8,[]),(1000000,[0,2,4,10,11])],[]⟩ Tryz.f201 = some F201 := by kernel_rfl
theorem F201_fn:FnOK2 Tryz.prog 201 (.pl F201):=.pl Tryz.func201 (by kernel_rfl) F201_ok
theorem F204_ok : prepF Tryz.prog ⟨[],[(0,[0,1]),(1,[4])],[]⟩ Tryz.f204 = some F204 := by kernel_rfl
theorem F204_fn:FnOK2 Tryz.prog 204 (.pl F204):=.pl Tryz.func204 (by kernel_rfl) F204_ok
theorem F205_ok : prepF Tryz.prog ⟨[],[(0,[0,1]),(1,[0,1,7]),(2,[4]),(3,[4])],[]⟩ Tryz.f205 = some F205 := by kernel_rfl
theorem F205_fn:FnOK2 Tryz.prog 205 (.pl F205):=.pl Tryz.func205 (by kernel_rfl) F205_ok
abbrev N206:Note:=⟨[],[(0,[0]),(1,[0,4]),(2,[0,30]),(3,[0,5]),(4,[0,5,39]),(5,[0,5]),(6,[0,5,44]),(7,[2,3]),(8,[0,5,6]),(9,[5,6,47,48,49]),(10,[5,6,47,48,49,50]),(11,[5,6,8,47,48,49]),(12,[5,6,8,47,48,49]),(13,[5,6,8,47,48,49,56]),(14,[2,3]),(15,[5,6,47,48,49]),(16,[5,6,47,48,49]),(17,[6,66]),(18,[6]),(19,[2,3]),(20,[9,10]),(21,[2,3]),(1000000,[5,6,47,48,49])],[]⟩
def F206:DF:=pF N206 Tryz.f206
theorem F206_ok:prepF Tryz.prog N206 Tryz.f206=some F206:=by kernel_rfl
theorem F206_fn:FnOK2 Tryz.prog 206 (.pl F206):=.pl Tryz.func206 (by kernel_rfl) F206_ok
abbrev N207:Note:=⟨[],[(0,[0,1,2,3,4]),(1,[0,1,2,3,4,11]),(2,[0,1,2,3,4,11,12]),(3,[10]),(4,[0,1,2,3,4,11,19]),(5,[10]),(6,[0,1,2,3,4,11,26]),(7,[10]),(8,[0,1,3,4,34]),(9,[10]),(10,[10])],[]⟩
def F207:DF:=pF N207 Tryz.f207
theorem F207_ok:prepF Tryz.prog N207 Tryz.f207=some F207:=by kernel_rfl
theorem F207_fn:FnOK2 Tryz.prog 207 (.pl F207):=.pl Tryz.func207 (by kernel_rfl) F207_ok
abbrev N208:Note:=⟨[],[(0,[0,1]),(1,[4])],[]⟩
def F208:DF:=pF N208 Tryz.f208
theorem F208_ok:prepF Tryz.prog N208 Tryz.f208=some F208:=by kernel_rfl
theorem F208_fn:FnOK2 Tryz.prog 208 (.pl F208):=.pl Tryz.func208 (by kernel_rfl) F208_ok
abbrev N209:Note:=⟨[],[(0,[0]),(1,[0,10]),(2,[2,3]),(3,[2,3])],[]⟩
def F209:DF:=pF N209 Tryz.f209
theorem F209_ok:prepF Tryz.prog N209 Tryz.f209=some F209:=by kernel_rfl
theorem F209_fn:FnOK2 Tryz.prog 209 (.pl F209):=.pl Tryz.func209 (by kernel_rfl) F209_ok
abbrev N210:Note:=⟨[],[(0,[0,1]),(1,[4])],[]⟩
def F210:DF:=pF N210 Tryz.f210
theorem F210_ok:prepF Tryz.prog N210 Tryz.f210=some F210:=by kernel_rfl
theorem F210_fn:FnOK2 Tryz.prog 210 (.pl F210):=.pl Tryz.func210 (by kernel_rfl) F210_ok
abbrev N211:Note:=⟨[],[(0,[0]),(1,[0,4]),(2,[0,4,10]),(3,[2,3]),(4,[0,4,5]),(5,[0,2,4,5]),(6,[0,2,4,5,18]),(7,[2,3]),(8,[0,4,5,6]),(9,[0,4,5,6]),(10,[0,4,5,6,27]),(11,[0,4,5,6]),(12,[0,4,5,6,33]),(13,[0,4,5,35]),(14,[0,4,5]),(15,[2,3,4,5]),(16,[2,3,48]),(17,[2,3]),(18,[2,3]),(1000000,[0,4,5,6])],[]⟩
def F211:DF:=pF N211 Tryz.f211
theorem F211_ok:prepF Tryz.prog N211 Tryz.f211=some F211:=by kernel_rfl
theorem F211_fn:FnOK2 Tryz.prog 211 (.pl F211):=.pl Tryz.func211 (by kernel_rfl) F211_ok
abbrev N212:Note:=⟨[],[(0,[0,1]),(1,[0,1,11]),(2,[0,17]),(3,[4]),(4,[0,5]),(5,[0,5,6]),(6,[0,5,6,23]),(7,[0,5,6]),(8,[0,5,6,7]),(9,[0,5,7]),(10,[5,7,34]),(11,[5,7]),(12,[4]),(13,[4]),(14,[9]),(15,[4])],[]⟩
def F212:DF:=pF N212 Tryz.f212
theorem F212_ok:prepF Tryz.prog N212 Tryz.f212=some F212:=by kernel_rfl
theorem F212_fn:FnOK2 Tryz.prog 212 (.pl F212):=.pl Tryz.func212 (by kernel_rfl) F212_ok
theorem F213_ok : prepF Tryz.prog ⟨[],[(0,[0,1]),(1,[4])],[]⟩ Tryz.f213 = some F213 := by kernel_rfl
theorem F213_fn:FnOK2 Tryz.prog 213 (.pl F213):=.pl Tryz.func213 (by kernel_rfl) F213_ok
abbrev N215:Note:=⟨[],[(0,[0]),(1,[2])],[]⟩
def F215:DF:=pF N215 Tryz.f215
theorem F215_ok:prepF Tryz.prog N215 Tryz.f215=some F215:=by kernel_rfl
theorem F215_fn:FnOK2 Tryz.prog 215 (.pl F215):=.pl Tryz.func215 (by kernel_rfl) F215_ok
abbrev N216:Note:=⟨[],[(0,[0,1]),(1,[0,1,5,6]),(2,[0,1,5,6,7]),(3,[0,1,5,6,7,8]),(4,[0,1,5,6,7,8,9]),(5,[0,1,5,6,7,8,9,20]),(6,[0,1,5,6,7,8,9]),(7,[0,1,5,6,7,8,9]),(8,[0,1,5,6,7,8,39]),(9,[4]),(10,[0,1,5,6,7,8,10]),(11,[0,1,5,6,7,8,10,44]),(12,[0,1,5,6,7,8,10]),(13,[0,1,5,6,7,8,10]),(14,[0,1,5,6,7,8,10]),(15,[0,1,5,6,7,8,10]),(16,[0,1,5,6,7,8,10,77]),(17,[4]),(18,[4]),(1000000,[0,1,5,6,7,8,9]),(1000002,[0,1,5,6,7,8,10])],[]⟩
def F216:DF:=pF N216 Tryz.f216
theorem F216_ok:prepF Tryz.prog N216 Tryz.f216=some F216:=by kernel_rfl
theorem F216_fn:FnOK2 Tryz.prog 216 (.pl F216):=.pl Tryz.func216 (by kernel_rfl) F216_ok
theorem F217_ok : prepF Tryz.prog ⟨[],[(0,[0,1]),(1,[0,1,11]),(2,[4]),(3,[0,1,5]),(4,[0,5,12,13]),(5,[0,5,12,13,14]),(6,[0,5,6,12,13]),(7,[0,5,7,12,13]),(8,[0,5,7,12,13,21]),(9,[4]),(10,[0,5,12,13]),(11,[0,5,12,13]),(12,[4]),(1000000,[0,5,12,13])],[]⟩ Tryz.f217 = some F217 := by kernel_rfl
theorem F217_fn:FnOK2 Tryz.prog 217 (.pl F217):=.pl Tryz.func217 (by kernel_rfl) F217_ok
theorem F218_ok : prepF Tryz.prog ⟨[],[(0,[0,1,2,3,10]),(1,[0,1,2,3,10,13]),(2,[0,1,2,3,10]),(3,[0,1,2,3,10]),(1000000,[0,1,2,3,10])],[]⟩ Tryz.f218 = some F218 := by kernel_rfl
theorem F218_fn:FnOK2 Tryz.prog 218 (.pl F218):=.pl Tryz.func218 (by kernel_rfl) F218_ok
abbrev N220:Note:=⟨[],[(0,[0,1,2]),(1,[0,1,2,13]),(2,[6,7]),(3,[0,1,2,8]),(4,[0,1,2,8,16]),(5,[0,1,2,8,16,17]),(6,[0,1,2,8]),(7,[0,1,2,8,21]),(8,[0,1,2]),(9,[0,1,2,8]),(10,[0,1,2,8]),(11,[2,7,8,9]),(12,[2,7,8,9,38]),(13,[6,7]),(14,[2,8,9,41]),(15,[2,8,9]),(16,[8,9,10]),(17,[8,9,10,52]),(18,[6,7]),(19,[8,9,10,62]),(20,[6,7]),(21,[8,11]),(22,[11,69]),(23,[11]),(24,[6,7])],[]⟩
def F220:DF:=pF N220 Tryz.f220
theorem F220_ok:prepF Tryz.prog N220 Tryz.f220=some F220:=by kernel_rfl
theorem F220_fn:FnOK2 Tryz.prog 220 (.pl F220):=.pl Tryz.func220 (by kernel_rfl) F220_ok
abbrev N221:Note:=⟨[],[(0,[0,1]),(1,[4])],[]⟩
def F221:DF:=pF N221 Tryz.f221
theorem F221_ok:prepF Tryz.prog N221 Tryz.f221=some F221:=by kernel_rfl
theorem F221_fn:FnOK2 Tryz.prog 221 (.pl F221):=.pl Tryz.func221 (by kernel_rfl) F221_ok
abbrev N222:Note:=⟨[],[(0,[0,1]),(1,[4])],[]⟩
def F222:DF:=pF N222 Tryz.f222
theorem F222_ok:prepF Tryz.prog N222 Tryz.f222=some F222:=by kernel_rfl
theorem F222_fn:FnOK2 Tryz.prog 222 (.pl F222):=.pl Tryz.func222 (by kernel_rfl) F222_ok
abbrev N223:Note:=⟨[],[(0,[0,1,2]),(1,[6])],[]⟩
def F223:DF:=pF N223 Tryz.f223
theorem F223_ok:prepF Tryz.prog N223 Tryz.f223=some F223:=by kernel_rfl
theorem F223_fn:FnOK2 Tryz.prog 223 (.pl F223):=.pl Tryz.func223 (by kernel_rfl) F223_ok
abbrev N224:Note:=⟨[],[(0,[0,1,2]),(1,[6])],[]⟩
def F224:DF:=pF N224 Tryz.f224
theorem F224_ok:prepF Tryz.prog N224 Tryz.f224=some F224:=by kernel_rfl
theorem F224_fn:FnOK2 Tryz.prog 224 (.pl F224):=.pl Tryz.func224 (by kernel_rfl) F224_ok
abbrev N225:Note:=⟨[9],[(0,[0]),(1,[0,4]),(2,[0,4,16]),(3,[2,3]),(4,[0,4,5]),(5,[0,4,5,6]),(6,[0,4,5,6,23]),(7,[0,7]),(8,[2,3]),(9,[0,4,5,6,8]),(10,[0,4,5,8,9]),(11,[0,5,8,9,45]),(12,[2,3]),(13,[0,5,8,9,10]),(14,[0,5,8,10,57]),(15,[2,3]),(16,[0,5,8,10,59]),(17,[2,3]),(18,[0,5,8,10,11]),(19,[0,5,8,10,11,75]),(20,[2,3]),(21,[0,5,10,11,77]),(22,[2,3]),(23,[5,10,11,12]),(24,[5,10,11,12,98]),(25,[2,3]),(26,[2,3])],[]⟩
def F225:DF:=pF N225 Tryz.f225
theorem F225_ok:prepF Tryz.prog N225 Tryz.f225=some F225:=by kernel_rfl
theorem F225_fn:FnOK2 Tryz.prog 225 (.pl F225):=.pl Tryz.func225 (by kernel_rfl) F225_ok
abbrev N226:Note:=⟨[],[(0,[0,1]),(1,[0,7]),(2,[0,7,8]),(3,[0,7,8,9]),(4,[0,7,8,9]),(5,[0,7,8,9,26]),(6,[0,7,8,9,33]),(7,[0,7,8,9,11]),(8,[0,7,8,9,11,43]),(9,[4]),(10,[0,7,8,9]),(11,[0,7,8,9,12]),(12,[0,7,8,9,12,51]),(13,[0,7,8,9,12]),(14,[0,7,8,9,12,64]),(15,[4]),(16,[0,7,8,9,10]),(17,[0,7,8,9,10]),(18,[0,7,8,9,98]),(19,[4]),(20,[8,9,13]),(21,[8,9,13,108]),(22,[4]),(23,[0,7,8,9,14]),(24,[0,7,8,9,14,15]),(25,[0,7,8,9,14,15,124]),(26,[0,7,8,9,14,15]),(27,[0,7,8,9,14,15,139]),(28,[0,7,8,9,14,15,16]),(29,[0,7,8,9,14,15,16,143]),(30,[0,7,8,9,14,15,16]),(31,[0,7,8,9,14,15,16,156]),(32,[4]),(33,[4]),(34,[0,1,160]),(35,[4]),(36,[0,1,171]),(37,[175]),(38,[175,176,177]),(39,[5,6,175]),(40,[5,175,181]),(41,[4]),(42,[4]),(43,[0,1,183]),(44,[4]),(1000001,[0,7,8,9]),(1000003,[0,7,8,9,12]),(1000005,[0,7,8,9,14,15]),(1000007,[0,7,8,9,14,15,16]),(1000009,[175])],[]⟩
def F226:DF:=pF N226 Tryz.f226
theorem F226_ok:prepF Tryz.prog N226 Tryz.f226=some F226:=by kernel_rfl
theorem F226_fn:FnOK2 Tryz.prog 226 (.pl F226):=.pl Tryz.func226 (by kernel_rfl) F226_ok
abbrev N227:Note:=⟨[],[(0,[0]),(1,[2])],[]⟩
def F227:DF:=pF N227 Tryz.f227
theorem F227_ok:prepF Tryz.prog N227 Tryz.f227=some F227:=by kernel_rfl
theorem F227_fn:FnOK2 Tryz.prog 227 (.pl F227):=.pl Tryz.func227 (by kernel_rfl) F227_ok
abbrev N228:Note:=⟨[],[(0,[0]),(1,[0,4]),(2,[2]),(3,[2])],[]⟩
def F228:DF:=pF N228 Tryz.f228
theorem F228_ok:prepF Tryz.prog N228 Tryz.f228=some F228:=by kernel_rfl
theorem F228_fn:FnOK2 Tryz.prog 228 (.pl F228):=.pl Tryz.func228 (by kernel_rfl) F228_ok
abbrev N229:Note:=⟨[],[(0,[0]),(1,[0,3]),(2,[2])],[]⟩
def F229:DF:=pF N229 Tryz.f229
theorem F229_ok:prepF Tryz.prog N229 Tryz.f229=some F229:=by kernel_rfl
theorem F229_fn:FnOK2 Tryz.prog 229 (.pl F229):=.pl Tryz.func229 (by kernel_rfl) F229_ok
abbrev N230:Note:=⟨[],[(0,[0,1,4]),(1,[0,1,4,20]),(2,[0,1,4,5]),(3,[0,1,4,5]),(4,[0,1,4,6,7]),(5,[0,1,4,6,8,9]),(6,[0,1,4,8,9,10,11]),(7,[0,1,4,8,10,11]),(8,[0,1,4,10,11]),(9,[0,1,4,10]),(10,[0,1,4]),(11,[0,1,4]),(12,[0,4,12]),(13,[0,4,12,99]),(14,[0,4,12,13]),(15,[0,4,12,13]),(16,[0,4,12,14,15]),(17,[0,4,12,14]),(18,[0,4,12]),(19,[0,4,12]),(20,[0,4,12,139]),(21,[0,4,12,16]),(22,[0,4,12,16]),(23,[0,4,12]),(24,[0,4,12]),(25,[0,12,161]),(26,[]),(1000000,[0,1,4])],[]⟩
def F230:DF:=pF N230 Tryz.f230
theorem F230_ok:prepF Tryz.prog N230 Tryz.f230=some F230:=by kernel_rfl
theorem F230_fn:FnOK2 Tryz.prog 230 (.pl F230):=.pl Tryz.func230 (by kernel_rfl) F230_ok
abbrev N231:Note:=⟨[],[(0,[0,1,2,3,4,10,11]),(1,[0,1,2,3,4,10,11,28]),(2,[0,1,2,3,4,10,11]),(3,[0,1,2,3,4,10,11,12]),(4,[0,1,2,3,4,10,11,12,13]),(5,[0,1,2,3,4,10,11,12,13,30]),(6,[0,1,2,3,4,10,11,12,13]),(7,[0,1,2,3,4,10,11,12,13,34]),(8,[0,1,2,3,4,10,11,12,13,14]),(9,[0,1,2,3,4,10,11,12,13,14,15]),(10,[0,1,3,4,10,11,12,13,14,15,16]),(11,[0,1,3,4,10,11,12,13,14,15,16,46]),(12,[0,1,3,4,10,11,12,13,14,15,16]),(13,[0,1,3,4,10,11,12,13,14,15,16]),(14,[0,1,3,4,10,11,12,13,14,15,16]),(15,[0,1,3,4,10,11,12,13]),(16,[0,3,4,10,11,12,13]),(17,[0,1,3,4,10,11,12,13,17]),(18,[0,1,3,4,10,11,12,13,17,68]),(19,[0,1,3,4,10,11,12,13,17]),(20,[0,1,3,4,10,11,12,13,17,18]),(21,[0,3,4,10,11,12,13,17,18]),(22,[0,1,3,4,10,11,12,13,17]),(23,[0,1,3,4,10,11,12,13]),(24,[0,3,4,10,11,12,13]),(25,[0,4,10,11,12,13,89]),(26,[0,4,10,11,12,13]),(27,[0,4,10,11,12,13]),(28,[0,10,11,12,13,94]),(29,[10,11]),(30,[10,11]),(1000000,[0,1,3,4,10,11,12,13,14,15,16]),(1000002,[0,1,3,4,10,11,12,13,17])],[]⟩
def F231:DF:=pF N231 Tryz.f231
theorem F231_ok:prepF Tryz.prog N231 Tryz.f231=some F231:=by kernel_rfl
theorem F231_fn:FnOK2 Tryz.prog 231 (.pl F231):=.pl Tryz.func231 (by kernel_rfl) F231_ok
abbrev N233:Note:=⟨[],[(0,[0]),(1,[0,4]),(2,[0,4,5]),(3,[0,4,5,12]),(4,[0,4,5]),(5,[0,4,5]),(6,[0,4,6,7]),(7,[4,6,7,8]),(8,[4,6,7,8,25]),(9,[4,6,7,8]),(10,[4,6,7,8,30]),(11,[4,6,7,8]),(12,[4,6,7,8]),(13,[2,3]),(1000000,[0,4,5]),(1000002,[4,6,7,8])],[]⟩
def F233:DF:=pF N233 Tryz.f233
theorem F233_ok:prepF Tryz.prog N233 Tryz.f233=some F233:=by kernel_rfl
theorem F233_fn:FnOK2 Tryz.prog 233 (.pl F233):=.pl Tryz.func233 (by kernel_rfl) F233_ok
theorem F234_ok : prepF Tryz.prog ⟨[],[(0,[0]),(1,[0,3]),(2,[2]),(3,[0,13]),(4,[2]),(5,[0,24]),(6,[2]),(7,[2])],[]⟩ Tryz.f234 = some F234 := by kernel_rfl
theorem F234_fn:FnOK2 Tryz.prog 234 (.pl F234):=.pl Tryz.func234 (by kernel_rfl) F234_ok
abbrev N235:Note:=⟨[],[(0,[0,1,2]),(1,[0,1,2,19]),(2,[6,7]),(3,[0,1,2,8]),(4,[0,1,2,8,9]),(5,[6,7]),(6,[0,1,2,8,9,25]),(7,[0,2,8,9,32]),(8,[0,1,2,8,9]),(9,[0,1,2,8,9,37]),(10,[0,1,2,8,9]),(11,[0,1,2,8,9]),(12,[0,2,8,9,40]),(13,[0,1,2,8,9]),(14,[0,1,2,8,9]),(15,[0,2,8,9,52]),(16,[0,1,2,8,9]),(17,[0,1,2,8,9]),(18,[0,2,8,9,64]),(19,[0,1,2,8,9]),(20,[0,1,2,8,9]),(21,[0,1,2,8,9,77]),(22,[0,1,2,8,9]),(23,[0,1,2,8,9,83]),(24,[6,7]),(25,[0,1,2,8,9]),(26,[0,1,2,8,9,85]),(27,[0,1,2,8,9,10]),(28,[0,1,2,8,9,85,90]),(29,[0,1,2,8,9,10]),(30,[0,1,2,8,9,92]),(31,[0,1,2,8,9,10]),(32,[0,1,8,9,10,11]),(33,[0,1,8,9,10,11,12]),(34,[0,1,8,9,10,11,12,13]),(35,[1,8,9,10,11,12,13,99,100,101]),(36,[1,8,9,10,11,12,13,99,100,101,102]),(37,[1,8,9,10,11,12,13,15,99,100,101]),(38,[1,8,9,10,11,12,13,15,99,100,101]),(39,[6,7]),(40,[1,8,9,10,11,12,13,15,99,100,101,106]),(41,[1,8,9,10,11,12,13,99,100,101]),(42,[1,8,9,10,11,12,13,15,99,100,101,112]),(43,[1,8,9,10,11,12,13,16,99,100,101]),(44,[1,8,9,10,11,12,13,15,99,100,101,121]),(45,[1,8,9,10,11,12,13,16,99,100,101]),(46,[1,8,9,10,11,12,13,16,99,100,101,137]),(47,[6,7]),(48,[1,8,9,10,11,12,13,16,99,100,101,141]),(49,[6,7]),(50,[1,8,9,10,11,12,13,16,99,100,101]),(51,[1,8,9,10,11,12,13,17,99,100,101]),(52,[1,8,9,10,11,12,17,99,100,101,159]),(53,[6,7]),(54,[1,8,9,10,11,12,13,99,100,101]),(55,[1,8,9,10,11,12,13,99,100,101]),(56,[13,169]),(57,[6,7]),(58,[6,7]),(1000003,[1,8,9,10,11,12,13,99,100,101])],[]⟩
def F235:DF:=pF N235 Tryz.f235
theorem F235_ok:prepF Tryz.prog N235 Tryz.f235=some F235:=by kernel_rfl
theorem F235_fn:FnOK2 Tryz.prog 235 (.pl F235):=.pl Tryz.func235 (by kernel_rfl) F235_ok
abbrev N236:Note:=⟨[],[(0,[0]),(1,[0,6]),(2,[2]),(3,[0,3]),(4,[3]),(5,[2])],[]⟩
def F236:DF:=pF N236 Tryz.f236
theorem F236_ok:prepF Tryz.prog N236 Tryz.f236=some F236:=by kernel_rfl
theorem F236_fn:FnOK2 Tryz.prog 236 (.pl F236):=.pl Tryz.func236 (by kernel_rfl) F236_ok
abbrev N237:Note:=⟨[],[(0,[0]),(1,[2])],[]⟩
def F237:DF:=pF N237 Tryz.f237
theorem F237_ok:prepF Tryz.prog N237 Tryz.f237=some F237:=by kernel_rfl
theorem F237_fn:FnOK2 Tryz.prog 237 (.pl F237):=.pl Tryz.func237 (by kernel_rfl) F237_ok
abbrev N238:Note:=⟨[],[(0,[0,1]),(1,[4])],[]⟩
def F238:DF:=pF N238 Tryz.f238
theorem F238_ok:prepF Tryz.prog N238 Tryz.f238=some F238:=by kernel_rfl
theorem F238_fn:FnOK2 Tryz.prog 238 (.pl F238):=.pl Tryz.func238 (by kernel_rfl) F238_ok
abbrev N239:Note:=⟨[],[(0,[0]),(1,[0,3]),(2,[2]),(3,[10]),(4,[2]),(5,[2])],[]⟩
def F239:DF:=pF N239 Tryz.f239
theorem F239_ok:prepF Tryz.prog N239 Tryz.f239=some F239:=by kernel_rfl
theorem F239_fn:FnOK2 Tryz.prog 239 (.pl F239):=.pl Tryz.func239 (by kernel_rfl) F239_ok
abbrev N240:Note:=⟨[],[(0,[0]),(1,[2])],[]⟩
def F240:DF:=pF N240 Tryz.f240
theorem F240_ok:prepF Tryz.prog N240 Tryz.f240=some F240:=by kernel_rfl
theorem F240_fn:FnOK2 Tryz.prog 240 (.pl F240):=.pl Tryz.func240 (by kernel_rfl) F240_ok
abbrev N241:Note:=⟨[],[(0,[0,2]),(1,[0,2,4]),(2,[0]),(3,[0,2]),(4,[0,2,8]),(5,[0,2]),(6,[0,2]),(7,[0,2,14]),(8,[0,2]),(9,[0,2]),(10,[2])],[]⟩
def F241:DF:=pF N241 Tryz.f241
theorem F241_ok:prepF Tryz.prog N241 Tryz.f241=some F241:=by kernel_rfl
theorem F241_fn:FnOK2 Tryz.prog 241 (.pl F241):=.pl Tryz.func241 (by kernel_rfl) F241_ok
abbrev N242:Note:=⟨[],[(0,[0]),(1,[3]),(2,[2]),(3,[2])],[]⟩
def F242:DF:=pF N242 Tryz.f242
theorem F242_ok:prepF Tryz.prog N242 Tryz.f242=some F242:=by kernel_rfl
theorem F242_fn:FnOK2 Tryz.prog 242 (.pl F242):=.pl Tryz.func242 (by kernel_rfl) F242_ok
abbrev N243:Note:=⟨[],[(0,[0]),(1,[2])],[]⟩
def F243:DF:=pF N243 Tryz.f243
theorem F243_ok:prepF Tryz.prog N243 Tryz.f243=some F243:=by kernel_rfl
theorem F243_fn:FnOK2 Tryz.prog 243 (.pl F243):=.pl Tryz.func243 (by kernel_rfl) F243_ok
abbrev N244:Note:=⟨[],[(0,[0]),(1,[2]),(2,[2])],[]⟩
def F244:DF:=pF N244 Tryz.f244
theorem F244_ok:prepF Tryz.prog N244 Tryz.f244=some F244:=by kernel_rfl
theorem F244_fn:FnOK2 Tryz.prog 244 (.pl F244):=.pl Tryz.func244 (by kernel_rfl) F244_ok
abbrev N245:Note:=⟨[],[(0,[0]),(1,[2])],[]⟩
def F245:DF:=pF N245 Tryz.f245
theorem F245_ok:prepF Tryz.prog N245 Tryz.f245=some F245:=by kernel_rfl
theorem F245_fn:FnOK2 Tryz.prog 245 (.pl F245):=.pl Tryz.func245 (by kernel_rfl) F245_ok
abbrev N246:Note:=⟨[],[(0,[0]),(1,[0,3]),(2,[0,3,4]),(3,[0,3,4,18]),(4,[0,3,4]),(5,[0,3,4,5]),(6,[0,3,4,5,46]),(7,[0,4]),(8,[0,3,4]),(9,[0,3,4,5]),(10,[0,3,4,5,54]),(11,[0,3,4,5]),(12,[0,3,4,5,83]),(13,[0,3,4,5]),(14,[0,3,4,5,87]),(15,[0,4,5,89]),(16,[2]),(17,[0,3,4,5]),(18,[0,4,5,91]),(19,[2]),(20,[0,3,4,5]),(21,[2]),(1000000,[0,3,4,5])],[]⟩
def F246:DF:=pF N246 Tryz.f246
theorem F246_ok:prepF Tryz.prog N246 Tryz.f246=some F246:=by kernel_rfl
theorem F246_fn:FnOK2 Tryz.prog 246 (.pl F246):=.pl Tryz.func246 (by kernel_rfl) F246_ok
abbrev N247:Note:=⟨[],[(0,[0]),(1,[0,4]),(2,[2]),(3,[2])],[]⟩
def F247:DF:=pF N247 Tryz.f247
theorem F247_ok:prepF Tryz.prog N247 Tryz.f247=some F247:=by kernel_rfl
theorem F247_fn:FnOK2 Tryz.prog 247 (.pl F247):=.pl Tryz.func247 (by kernel_rfl) F247_ok
abbrev N248:Note:=⟨[],[(0,[0]),(1,[0,4]),(2,[2]),(3,[2])],[]⟩
def F248:DF:=pF N248 Tryz.f248
theorem F248_ok:prepF Tryz.prog N248 Tryz.f248=some F248:=by kernel_rfl
theorem F248_fn:FnOK2 Tryz.prog 248 (.pl F248):=.pl Tryz.func248 (by kernel_rfl) F248_ok
noncomputable def tab : List (Nat × DX) := [(3,.pl F3),(10,.pl F10),(15,.pl F15),(16,.pl F16),(17,.pl F17),(18,.pl F18),(19,.pl F19),(20,.pl F20),(21,.pl F21),(22,.pl F22),(23,.pl F23),(24,.pl F24),(25,.pl F25),(26,.pl F26),(28,.pl F28),(31,.pl F31),(32,.pl F32),(34,.pl F34),(41,.pl F41),(47,.pl F47),(48,.pl F48),(49,.pl F49),(50,.pl F50),(51,.df F51),(52,.pl F52),(53,.pl F53),(54,.pl F54),(55,.pl F55),(56,.pl F56),(57,.pl F57),(58,.pl F58),(59,.pl F59),(64,.pl F64),(75,.pl F75),(79,.pl F79),(80,.pl F80),(81,.pl F81),(82,.pl F82),(83,.pl F83),(84,.pl F84),(85,.pl F85),(86,.pl F86),(87,.rc F87),(88,.pl F88),(89,.pl F89),(90,.pl F90),(91,.pl F91),(92,.pl F92),(93,.pl F93),(94,.pl F94),(95,.pl F95),(96,.pl F96),(97,.pl F97),(98,.pl F98),(99,.pl F99),(100,.pl F100),(101,.pl F101),(102,.pl F102),(103,.pl F103),(104,.pl F104),(112,.pl F112),(113,.pl F113),(128,.pl F128),(129,.pl F129),(130,.pl F130),(131,.pl F131),(132,.pl F132),(133,.pl F133),(134,.pl F134),(135,.pl F135),(136,.pl F136),(137,.pl F137),(138,.pl F138),(139,.pl F139),(140,.pl F140),(141,.pl F141),(142,.pl F142),(143,.pl F143),(144,.pl F144),(145,.pl F145),(150,.pl F150),(159,.pl F159),(160,.pl F160),(161,.pl F161),(162,.pl F162),(163,.pl F163),(164,.pl F164),(165,.pl F165),(166,.pl F166),(167,.pl F167),(168,.pl F168),(169,.pl F169),(170,.pl F170),(171,.pl F171),(172,.pl F172),(173,.pl F173),(174,.pl F174),(175,.pl F175),(176,.pl F176),(180,.pl F180),(181,.pl F181),(185,.pl F185),(186,.pl F186),(187,.pl F187),(188,.pl F188),(189,.pl F189),(190,.pl F190),(191,.pl F191),(192,.pl F192),(193,.pl F193),(194,.pl F194),(195,.pl F195),(196,.pl F196),(197,.pl F197),(198,.pl F198),(199,.pl F199),(200,.pl F200),(201,.pl F201),(204,.pl F204),(205,.pl F205),(206,.pl F206),(207,.pl F207),(208,.pl F208),(209,.pl F209),(210,.pl F210),(211,.pl F211),(212,.pl F212),(213,.pl F213),(215,.pl F215),(216,.pl F216),(217,.pl F217),(218,.pl F218),(220,.pl F220),(221,.pl F221),(222,.pl F222),(223,.pl F223),(224,.pl F224),(225,.pl F225),(226,.pl F226),(227,.pl F227),(228,.pl F228),(229,.pl F229),(230,.pl F230),(231,.pl F231),(233,.pl F233),(234,.pl F234),(235,.pl F235),(236,.pl F236),(237,.pl F237),(238,.pl F238),(239,.pl F239),(240,.pl F240),(241,.pl F241),(242,.pl F242),(243,.pl F243),(244,.pl F244),(245,.pl F245),(246,.pl F246),(247,.pl F247),(248,.pl F248)]
theorem tabOK : TabOK2 Tryz.prog tab :=
 .cons F3_fn <|
 .cons F10_fn <|
 .cons F15_fn <|
 .cons F16_fn <|
 .cons F17_fn <|
 .cons F18_fn <|
 .cons F19_fn <|
 .cons F20_fn <|
 .cons F21_fn <|
 .cons F22_fn <|
 .cons F23_fn <|
 .cons F24_fn <|
 .cons F25_fn <|
 .cons F26_fn <|
 .cons F28_fn <|
 .cons F31_fn <|
 .cons F32_fn <|
 .cons F34_fn <|
 .cons F41_fn <|
 .cons F47_fn <|
 .cons F48_fn <|
 .cons F49_fn <|
 .cons F50_fn <|
 .cons F51_fn <|
 .cons F52_fn <|
 .cons F53_fn <|
 .cons F54_fn <|
 .cons F55_fn <|
 .cons F56_fn <|
 .cons F57_fn <|
 .cons F58_fn <|
 .cons F59_fn <|
 .cons F64_fn <|
 .cons F75_fn <|
 .cons F79_fn <|
 .cons F80_fn <|
 .cons F81_fn <|
 .cons F82_fn <|
 .cons F83_fn <|
 .cons F84_fn <|
 .cons F85_fn <|
 .cons F86_fn <|
 .cons F87_fn <|
 .cons F88_fn <|
 .cons F89_fn <|
 .cons F90_fn <|
 .cons F91_fn <|
 .cons F92_fn <|
 .cons F93_fn <|
 .cons F94_fn <|
 .cons F95_fn <|
 .cons F96_fn <|
 .cons F97_fn <|
 .cons F98_fn <|
 .cons F99_fn <|
 .cons F100_fn <|
 .cons F101_fn <|
 .cons F102_fn <|
 .cons F103_fn <|
 .cons F104_fn <|
 .cons F112_fn <|
 .cons F113_fn <|
 .cons F128_fn <|
 .cons F129_fn <|
 .cons F130_fn <|
 .cons F131_fn <|
 .cons F132_fn <|
 .cons F133_fn <|
 .cons F134_fn <|
 .cons F135_fn <|
 .cons F136_fn <|
 .cons F137_fn <|
 .cons F138_fn <|
 .cons F139_fn <|
 .cons F140_fn <|
 .cons F141_fn <|
 .cons F142_fn <|
 .cons F143_fn <|
 .cons F144_fn <|
 .cons F145_fn <|
 .cons F150_fn <|
 .cons F159_fn <|
 .cons F160_fn <|
 .cons F161_fn <|
 .cons F162_fn <|
 .cons F163_fn <|
 .cons F164_fn <|
 .cons F165_fn <|
 .cons F166_fn <|
 .cons F167_fn <|
 .cons F168_fn <|
 .cons F169_fn <|
 .cons F170_fn <|
 .cons F171_fn <|
 .cons F172_fn <|
 .cons F173_fn <|
 .cons F174_fn <|
 .cons F175_fn <|
 .cons F176_fn <|
 .cons F180_fn <|
 .cons F181_fn <|
 .cons F185_fn <|
 .cons F186_fn <|
 .cons F187_fn <|
 .cons F188_fn <|
 .cons F189_fn <|
 .cons F190_fn <|
 .cons F191_fn <|
 .cons F192_fn <|
 .cons F193_fn <|
 .cons F194_fn <|
 .cons F195_fn <|
 .cons F196_fn <|
 .cons F197_fn <|
 .cons F198_fn <|
 .cons F199_fn <|
 .cons F200_fn <|
 .cons F201_fn <|
 .cons F204_fn <|
 .cons F205_fn <|
 .cons F206_fn <|
 .cons F207_fn <|
 .cons F208_fn <|
 .cons F209_fn <|
 .cons F210_fn <|
 .cons F211_fn <|
 .cons F212_fn <|
 .cons F213_fn <|
 .cons F215_fn <|
 .cons F216_fn <|
 .cons F217_fn <|
 .cons F218_fn <|
 .cons F220_fn <|
 .cons F221_fn <|
 .cons F222_fn <|
 .cons F223_fn <|
 .cons F224_fn <|
 .cons F225_fn <|
 .cons F226_fn <|
 .cons F227_fn <|
 .cons F228_fn <|
 .cons F229_fn <|
 .cons F230_fn <|
 .cons F231_fn <|
 .cons F233_fn <|
 .cons F234_fn <|
 .cons F235_fn <|
 .cons F236_fn <|
 .cons F237_fn <|
 .cons F238_fn <|
 .cons F239_fn <|
 .cons F240_fn <|
 .cons F241_fn <|
 .cons F242_fn <|
 .cons F243_fn <|
 .cons F244_fn <|
 .cons F245_fn <|
 .cons F246_fn <|
 .cons F247_fn <|
 .cons F248_fn <|
  .nil
end
end Go.Proofs.C1

namespace Go.Proofs.YthgidapmofcloaaGreatDoor
open Go.RowKit Go.Extern.Stop Go.Stop Go.Extern
set_option maxRecDepth 100000 in
theorem as_nil (t:Value)(w:World):Calls Tryz.prog 74 #[.nilIface,t] w λe w'=>e=.returned (.bool false)/\w'=w:=by
 go_enter Tryz.func74,Tryz.ntmps74
 go_wp2
 go_ret
 exact⟨rfl,rfl⟩
namespace Pr
theorem valueOf107 (t:Addr)(w:World):(ReflectliteValue.unpack (.iface 107 (.pointer (some t)))).run Tryz.prog w
  = .ok (.agg #[.pointer (some ⟨9,107,none⟩),.pointer (some ⟨w.heap.size,0,none⟩),.int .u64 150]) (w.alloc (.cells #[.pointer (some t)] 107)):=by kernel_rfl
theorem type107 (a : Addr) (w : World) : (ReflectliteValue.methodAny (ReflectliteValue.valueError "reflectlite.Value.Type" 0) (fun t _ _ _ => ReflectliteType.toType t) #[.agg #[.pointer (some ⟨9, 107, none⟩), .pointer (some a), .int .u64 150]]).run Tryz.prog w
  = .ok (.iface 187 (.agg #[.pointer (some ⟨9,107,none⟩)])) w:=by kernel_rfl
theorem methodKind (h : Value) (w : World) : (Go.method 391 187 (.agg #[h]) "Kind").run Tryz.prog w = .ok (263, h) w := by kernel_rfl
theorem kind107 (w:World):((ReflectliteType.abiMethod λt=>(λa:Nat=>Value.int IntKind.u8 (a:Int)) <$> Rtype.kind t) #[.pointer (some ⟨9,107,none⟩)]).run Tryz.prog w=.ok (.int .u8 22) w:=by kernel_rfl
theorem kind105 (w:World):((ReflectliteType.abiMethod λt=>(λa:Nat=>Value.int IntKind.u8 (a:Int)) <$> Rtype.kind t) #[.pointer (some ⟨9,105,none⟩)]).run Tryz.prog w=.ok (.int .u8 22) w:=by kernel_rfl
theorem rlm (z:Sem Value)(f:TypeId->Addr->Nat->Nat->Sem Value)(v:Value) :
  ReflectliteValue.method z f #[v]=(do match <-ReflectliteValue.parts v with | none=>z | some (t,a,fl)=>f t a fl (fl % 32)):=rfl
theorem parts107 (a:Addr)(w:World):(ReflectliteValue.parts (.agg #[.pointer (some ⟨9,107,none⟩),.pointer (some a),.int .u64 150])).run Tryz.prog w=.ok (some (107,a,150)) w:=by kernel_rfl
theorem isNil107 (a p:Addr)(W:World)(ha:W.cell? a=some (.pointer (some p))) :
  (ReflectliteValue.method (ReflectliteValue.valueError "reflectlite.Value.IsNil" 0) ReflectliteValue.isNil #[.agg #[.pointer (some ⟨9, 107, none⟩), .pointer (some a), .int .u64 150]]).run Tryz.prog W = .ok (.bool false) W := by
 rw[rlm];simp only[Sem.run_bind,parts107,Result.andThen];simp[ReflectliteValue.isNil,loadVar,isAgg,underlying,Tryz.underlying107,ha,Result.andThen]
theorem methodElem (h : Value) (w : World) : (Go.method 391 187 (.agg #[h]) "Elem").run Tryz.prog w = .ok (276, .agg #[h]) w := by kernel_rfl
theorem methodImplements (h : Value) (w : World) : (Go.method 391 187 (.agg #[h]) "Implements").run Tryz.prog w = .ok (277, .agg #[h]) w := by kernel_rfl
theorem methodAssignableTo (h : Value) (w : World) : (Go.method 391 187 (.agg #[h]) "AssignableTo").run Tryz.prog w = .ok (274, .agg #[h]) w := by kernel_rfl
theorem elem107 (w:World):(ReflectliteType.method ReflectliteType.elem #[.agg #[.pointer (some ⟨9,107,none⟩)]]).run Tryz.prog w=.ok (.iface 187 (.agg #[.pointer (some ⟨9,105,none⟩)])) w:=by kernel_rfl
theorem implements105 (w : World) : (ReflectliteType.relation "Implements" ReflectliteType.implements_ #[.agg #[.pointer (some ⟨9, 105, none⟩)], .iface 187 (.agg #[.pointer (some ⟨9, 32, none⟩)])]).run Tryz.prog w = .ok (.bool true) w := by kernel_rfl
theorem typeOf105 (v:Value)(w:World):(ReflectliteType.typeOf #[.iface 105 v]).run Tryz.prog w=.ok (.iface 187 (.agg #[.pointer (some ⟨9,105,none⟩)])) w:=by kernel_rfl
theorem assignable105 (w : World) : (ReflectliteType.relation "AssignableTo" ReflectliteType.assignableTo #[.agg #[.pointer (some ⟨9, 105, none⟩)], .iface 187 (.agg #[.pointer (some ⟨9, 105, none⟩)])]).run Tryz.prog w = .ok (.bool true) w := by kernel_rfl
theorem valueOf105 (e:Addr)(w:World):(ReflectliteValue.unpack (.iface 105 (.pointer (some e)))).run Tryz.prog w
  = .ok (.agg #[.pointer (some ⟨9,105,none⟩),.pointer (some ⟨w.heap.size,0,none⟩),.int .u64 150]) (w.alloc (.cells #[.pointer (some e)] 105)):=by kernel_rfl
theorem elemOf107 (w:World):(Rtype.elem? 107).run Tryz.prog w=.ok (some 105) w:=by kernel_rfl
theorem mk105 (p:Addr)(w:World):(ReflectliteValue.mk 105 p ReflectliteValue.flagAddr).run Tryz.prog w=.ok (.agg #[.pointer (some ⟨9,105,none⟩),.pointer (some p),.int .u64 406]) w:=by kernel_rfl
theorem elemV107 (a p:Addr)(W:World)(ha:W.cell? a=some (.pointer (some p))) :
  (ReflectliteValue.method (ReflectliteValue.valueError "reflectlite.Value.Elem" 0) ReflectliteValue.elem #[.agg #[.pointer (some ⟨9, 107, none⟩), .pointer (some a), .int .u64 150]]).run Tryz.prog W
   = .ok (.agg #[.pointer (some ⟨9,105,none⟩),.pointer (some p),.int .u64 406]) W:=by
 rw[rlm];simp only[Sem.run_bind,parts107,Result.andThen];simp[ReflectliteValue.elem,loadVar,isAgg,underlying,Tryz.underlying107,ha,Result.andThen,elemOf107,mk105]
theorem rls (v x:Value):ReflectliteValue.set #[v,x]=(do
  let (some (dst,a,fl),some (src,b,_)):=(<-ReflectliteValue.parts v,<-ReflectliteValue.parts x)
   | unsupported (.noEntry "extern/(internal/reflectlite.Value).Set.zeroValue")
  if fl / ReflectliteValue.flagAddr % 2 == 0 then unsupported (.noEntry "extern/(internal/reflectlite.Value).Set.unaddressable")
  let val <-loadVar src b
  if <-Rtype.directlyAssignable dst src then storeVar dst a val
  else if <-Rtype.implements dst src then
   if (<-Rtype.kind src) == 20 then
    match val with
    | .nilIface => unsupported (.noEntry "extern/reflectlite: a nil value of one interface type handed on as a value of another")
    | _=>storeVar dst a val
   else storeVar dst a (.iface src val)
  else panicString ("reflectlite.Set: value of type " ++ (← Rtype.spelt src) ++ " is not assignable to type " ++ (← Rtype.spelt dst))
  pure (.tuple #[])):=rfl
theorem parts105a (a:Addr)(w:World):(ReflectliteValue.parts (.agg #[.pointer (some ⟨9,105,none⟩),.pointer (some a),.int .u64 406])).run Tryz.prog w=.ok (some (105,a,406)) w:=by kernel_rfl
theorem parts105 (a:Addr)(w:World):(ReflectliteValue.parts (.agg #[.pointer (some ⟨9,105,none⟩),.pointer (some a),.int .u64 150])).run Tryz.prog w=.ok (some (105,a,150)) w:=by kernel_rfl
theorem direct105 (w:World):(Rtype.directlyAssignable 105 105).run Tryz.prog w=.ok true w:=by kernel_rfl
theorem set105 (ta b e:Addr)(old:Value)(W:World)(hb:W.cell? b=some (.pointer (some e)))(ht:W.cell? ta=some old)(hf:W.frozen? ta=false) :
  (ReflectliteValue.set #[.agg #[.pointer (some ⟨9,105,none⟩),.pointer (some ta),.int .u64 406],.agg #[.pointer (some ⟨9,105,none⟩),.pointer (some b),.int .u64 150]]).run Tryz.prog W
   = .ok (.tuple #[]) (W.setCell ta (.pointer (some e))):=by
 rw[rls];simp only[Sem.run_bind,parts105a,parts105,Result.andThen];simp[ReflectliteValue.flagAddr,loadVar,isAgg,underlying,Tryz.underlying105,hb,Result.andThen,direct105,storeVar,Value.cells,storeCells,Addr.add];rw[run_store Tryz.prog W ta _ _ (by rfl)];simp[ht,hf]
end Pr
set_option maxHeartbeats 4000000 in
set_option maxRecDepth 100000 in
theorem as_hit (e t:Addr)(old:Value)(w:World)(hg:w.cell? ⟨0,0,none⟩=some (.iface 187 (.agg #[.pointer (some ⟨9,32,none⟩)])))(ht0:w.cell? t=some old)(hf0:w.frozen? t=false) :
  Calls Tryz.prog 74 #[.iface 105 (.pointer (some e)),.iface 107 (.pointer (some t))] w λev w'=>ev=.returned (.bool true)/\w'=((((w.alloc (.cells #[.pointer (some t)] 107)).alloc (.cells #[.pointer (some ⟨9,107,none⟩),.pointer (some ⟨w.heap.size,0,none⟩),.int .u64 150] 149)).alloc (.cells #[.pointer (some ⟨9,107,none⟩),.pointer (some ⟨w.heap.size,0,none⟩),.int .u64 150] 149)).alloc (.cells #[.pointer (some e)] 105)).setCell t (.pointer (some e)):=by
 have h6:=@run_callFunc_extern Tryz.prog 122 _ (fun args=>ReflectliteValue.unpack (args.getD 0 (.tuple #[]))) Tryz.func122 (by kernel_rfl) (by kernel_rfl) (by kernel_rfl) (by kernel_rfl);have h7 := @run_callFunc_extern Tryz.prog 123 _ (ReflectliteValue.methodAny (ReflectliteValue.valueError "reflectlite.Value.Type" 0) (fun t _ _ _ => ReflectliteType.toType t)) Tryz.func123 (by kernel_rfl) (by kernel_rfl) (by kernel_rfl) (by kernel_rfl)
 have h8 := @run_callFunc_extern Tryz.prog 124 _ (ReflectliteValue.method (ReflectliteValue.valueError "reflectlite.Value.IsNil" 0) ReflectliteValue.isNil) Tryz.func124 (by kernel_rfl) (by kernel_rfl) (by kernel_rfl) (by kernel_rfl)
 have h27:=@run_callFunc_extern Tryz.prog 263 _ (ReflectliteType.abiMethod fun t=>do pure (.int .u8 (←Rtype.kind t))) Tryz.func263 (by kernel_rfl) (by kernel_rfl) (by kernel_rfl) (by kernel_rfl);have h37:=@run_callFunc_extern Tryz.prog 276 _ (ReflectliteType.method ReflectliteType.elem) Tryz.func276 (by kernel_rfl) (by kernel_rfl) (by kernel_rfl) (by kernel_rfl);have h38 := @run_callFunc_extern Tryz.prog 277 _ (ReflectliteType.relation "Implements" ReflectliteType.implements_) Tryz.func277 (by kernel_rfl) (by kernel_rfl) (by kernel_rfl) (by kernel_rfl)
 have h10:=@run_callFunc_extern Tryz.prog 126 _ ReflectliteType.typeOf Tryz.func126 (by kernel_rfl) (by kernel_rfl) (by kernel_rfl) (by kernel_rfl);have h35 := @run_callFunc_extern Tryz.prog 274 _ (ReflectliteType.relation "AssignableTo" ReflectliteType.assignableTo) Tryz.func274 (by kernel_rfl) (by kernel_rfl) (by kernel_rfl) (by kernel_rfl)
 have h11 := @run_callFunc_extern Tryz.prog 157 _ (ReflectliteValue.method (ReflectliteValue.valueError "reflectlite.Value.Elem" 0) ReflectliteValue.elem) Tryz.func157 (by kernel_rfl) (by kernel_rfl) (by kernel_rfl) (by kernel_rfl)
 have h12:=@run_callFunc_extern Tryz.prog 158 _ ReflectliteValue.set Tryz.func158 (by kernel_rfl) (by kernel_rfl) (by kernel_rfl) (by kernel_rfl);have tO:=Pr.typeOf105;have mA:=Pr.methodAssignableTo;have a25:=Pr.assignable105;have v25:=Pr.valueOf105;have f6:=Pr.valueOf107;have f7:=Pr.type107;have mK:=Pr.methodKind;have mE:=Pr.methodElem;have mI:=Pr.methodImplements;have k27:=Pr.kind107;have k25:=Pr.kind105;have e27:=Pr.elem107;have i25:=Pr.implements105;have n8:=Pr.isNil107 ⟨w.heap.size,0,none⟩ t ((w.alloc (.cells #[.pointer (some t)] 107)).alloc (.cells #[.pointer (some ⟨9,107,none⟩),.pointer (some ⟨w.heap.size,0,none⟩),.int .u64 150] 149)) (by simp);have hlt:0<w.heap.size:=by
  rcases Nat.eq_zero_or_pos w.heap.size with h0 | h
  ·simp[World.cell?,h0]at hg
  ·exact h
 have hg2:((w.alloc (.cells #[.pointer (some t)] 107)).alloc (.cells #[.pointer (some ⟨9,107,none⟩),.pointer (some ⟨w.heap.size,0,none⟩),.int .u64 150] 149)).cell? ⟨0,0,none⟩=some (.iface 187 (.agg #[.pointer (some ⟨9,32,none⟩)])):=by
  rw[World.cell?_alloc_lt _ _ ⟨0,0,none⟩ (by simp),World.cell?_alloc_lt _ _ ⟨0,0,none⟩ hlt];exact hg
 have htl:t.block<w.heap.size:=by
  rcases Nat.lt_or_ge t.block w.heap.size with h | h
  ·exact h
  ·simp[World.cell?,Array.getElem?_eq_none h]at ht0
 have el:=Pr.elemV107 ⟨w.heap.size,0,none⟩ t (((w.alloc (.cells #[.pointer (some t)] 107)).alloc (.cells #[.pointer (some ⟨9,107,none⟩),.pointer (some ⟨w.heap.size,0,none⟩),.int .u64 150] 149)).alloc (.cells #[.pointer (some ⟨9,107,none⟩),.pointer (some ⟨w.heap.size,0,none⟩),.int .u64 150] 149)) (by rw[World.cell?_alloc_lt _ _ ⟨w.heap.size,0,none⟩ (by simp;omega)];simp);have st:=Pr.set105 t ⟨w.heap.size+1+1+1,0,none⟩ e old ((((w.alloc (.cells #[.pointer (some t)] 107)).alloc (.cells #[.pointer (some ⟨9,107,none⟩),.pointer (some ⟨w.heap.size,0,none⟩),.int .u64 150] 149)).alloc (.cells #[.pointer (some ⟨9,107,none⟩),.pointer (some ⟨w.heap.size,0,none⟩),.int .u64 150] 149)).alloc (.cells #[.pointer (some e)] 105))
  (by rw[World.cell?_alloc_at _ _ _ _ (by simp)];rfl)
  (by rw[World.cell?_alloc_lt _ _ t (by simp;omega),World.cell?_alloc_lt _ _ t (by simp;omega),World.cell?_alloc_lt _ _ t (by simp;omega),World.cell?_alloc_lt _ _ t htl];exact ht0)
  (by rw[World.frozen?_alloc_old _ _ t (by simp;omega),World.frozen?_alloc_old _ _ t (by simp;omega),World.frozen?_alloc_old _ _ t (by simp;omega),World.frozen?_alloc_old _ _ t (Nat.ne_of_lt htl)];exact hf0)
 go_enter Tryz.func74,Tryz.ntmps74
 go_wp2
 refine wp_loop_rounds 1 ?_;rw[rounds_succ]
 go_wp2
 go_ret
 exact⟨rfl,rfl⟩
namespace Pr
theorem typeOf26 (v:Value)(w:World):(ReflectliteType.typeOf #[.iface 26 v]).run Tryz.prog w=.ok (.iface 187 (.agg #[.pointer (some ⟨9,26,none⟩)])) w:=by kernel_rfl
theorem comparable26 (w : World) : ((ReflectliteType.method fun t => do Rtype.noPackHeld "Comparable" t; (fun a => Value.bool a.comparable) <$> typeInfo t) #[.agg #[.pointer (some ⟨9, 26, none⟩)]]).run Tryz.prog w = .ok (.bool true) w := by kernel_rfl
theorem methodComparable (v : Value) (w : World) : (Go.method 391 187 v "Comparable").run Tryz.prog w = .ok (275, v) w := by kernel_rfl
theorem noIs (v:Value)(xT:TypeId)(w:World):(Instr.typeAssert (.iface 105 v) xT 199 true).run Tryz.prog w=.ok (.tuple #[.nilIface,.bool false]) w:=run_typeAssert_lacksB Tryz.underlying199 (by kernel_rfl) (by kernel_rfl) v xT w
theorem hasUnwrap (v:Value)(xT:TypeId)(w:World):(Instr.typeAssert (.iface 105 v) xT 194 true).run Tryz.prog w=.ok (.tuple #[.iface 105 v,.bool true]) w:=run_typeAssert_hasB Tryz.underlying194 (by kernel_rfl) v xT w
theorem methodUnwrap (v : Value) (w : World) : (Go.method 391 105 v "Unwrap").run Tryz.prog w = .ok (269, v) w := by kernel_rfl
end Pr
end Go.Proofs.YthgidapmofcloaaGreatDoor
