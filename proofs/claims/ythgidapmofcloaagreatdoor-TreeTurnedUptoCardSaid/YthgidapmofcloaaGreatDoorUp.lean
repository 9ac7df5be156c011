/- A tree's text: the program's answer. A text between quotes: the reference's answer. A tree's text: the reference's answer. The law 'TreeTexts', walked. Texts of trees, as contracts. What is read is right where little is read. How long a tree's text may be. Two lists of one's own that are written in place, again and again. Trees with the keys of their records in another order: what stays. Trees with the keys of their records in another order: emendlaw3.Turned, walked. The entry of laws about trees and numbers. The law 'TreeTurned', walked. 'emendlaw3.TreeTurned' as a contract. The row of 'emendlaw3.TreeTurned': what is read, and that the call returns true. -/
import Derived.Test.YthgidapmofcloaaGreatDoorTie
import Derived.Test.YthgidapmofcloaaGreatDoorCards
import Derived.ProofKit
import Derived.LaidMore
import Derived.OpenShut
import Derived.Carry
import Derived.Stop.Joined
import Derived.Lay
import Derived.SevenTiedAt
import Derived.Deep.DeepHandedRow
import Derived.Deep.DeepWitnessRowRef
import Derived.Test.YthgidapmofcloaaGreatDoorUo
set_option linter.unusedSimpArgs false
set_option linter.unusedVariables false
namespace Go.Dn
open Go Go.Proofs.C1
set_option maxRecDepth 100000
attribute [local irreducible] afterS keepE
theorem norm_ne {s:List UInt8} (h:(normB s).2=0):(normB s).1≠[]:=by
 obtain⟨_,e⟩:=norm_split h
 rw [e] at h ⊢
 generalize (splitB s).1=p at h
 intro e
 unfold joinB at h e
 by_cases z1:runB p.2.1<p.2.1.length∨(hd 48 p.2.1=true∨tl 48 p.2.1=true)∨(p.2.1=[]∧(p.2.2≠0∨p.1=true))
 ·rw [if_pos z1] at h;cases h
 rw [if_neg z1] at h e
 by_cases z2:p.2.2 < -999999∨999999<p.2.2
 ·rw [if_pos z2] at h;cases h
 rw [if_neg z2] at h e
 by_cases z3:p.2.1=[]
 ·rw [if_pos z3] at e;cases e
 rw [if_neg z3] at h e
 have key:((if p.1=true then [45]++p.2.1 else p.2.1)++(if p.2.2=0 then [] else [101]++itoaB p.2.2))≠[]:=by
  intro q
  have q:=(List.append_eq_nil_iff.1 q).1
  split at q
  ·cases q
  ·exact z3 q
 generalize ((if p.1=true then [45]++p.2.1 else p.2.1)++(if p.2.2=0 then [] else [101]++itoaB p.2.2))=w at h e key
 by_cases z4:1000<w.length
 ·rw [if_pos z4] at h;cases h
 ·rw [if_neg z4] at e;exact key e
theorem textB_ne {t:PT} (h:formedB t=true):textB t≠[]:=by
 obtain⟨k,s,keys,kids⟩:=t
 have kd:=formed_kind h
 have kc:k=1∨k=2∨k=3∨k=4∨k=5∨k=6∨k=7:=by omega
 rw [textB]
 rcases kc with rfl | rfl | rfl | rfl | rfl | rfl | rfl
 ·simp
 ·simp only [formedB,bA] at h
  have h2:=h.2
  unfold shapeB at h2
  rw [if_neg (by omega),if_pos rfl,bA,Bool.or_eq_true] at h2
  rw [if_neg (by omega),if_pos (.inl rfl)]
  rcases h2.2 with e | e<;>rw [beqB_iff.1 e]<;>simp
 ·obtain⟨a,b⟩:=formed_num h
  rw [if_neg (by omega),if_pos (.inr rfl),←b]
  exact norm_ne a
 ·rw [if_neg (by omega),if_neg (by omega),if_pos rfl];simp [quoteB]
 ·rw [if_neg (by omega),if_neg (by omega),if_neg (by omega),if_pos rfl];simp
 ·rw [if_neg (by omega),if_neg (by omega),if_neg (by omega),if_neg (by omega),if_pos rfl];simp
 ·rw [if_neg (by omega),if_neg (by omega),if_neg (by omega),if_neg (by omega),if_neg (by omega)];simp
def textR (t:PT):List UInt8×Int:=if rightB t=0 then (if 65536<(textB t).length then ([],2) else (textB t,0)) else ([],rightB t)
theorem WrB.end {f b:List UInt8} (h:WrB [] f b):(65536<b.length↔65536<f.length)∧(¬65536<f.length→b=f):=by
 unfold WrB at h
 rw [List.nil_append] at h
 rcases h with rfl | ⟨a,c⟩
 ·exact⟨Iff.rfl,fun _=>rfl⟩
 ·exact⟨⟨fun _=>c,fun _=>a⟩,fun h=>absurd c h⟩
section
variable {gt:GT} {C:CallT}
set_option maxHeartbeats 4000000 in
theorem tText_wp (hm:MonoC C) {t:PT} (hr:PF C 16 [encT t] (.int .i64 (rightB t))) (hw:formedB t=true→TWC C t)
  (hln:∀(S:St) (id:Nat) (ty:TypeId) (acc:List UInt8),BS S id ty acc→C 48 [.ptr id 0] S fun r S'=>r=.ret (.int .i64 acc.length)∧S'=S)
  (hst:∀(S:St) (id:Nat) (ty:TypeId) (acc:List UInt8),BS S id ty acc→acc≠[]→acc.length≤17592186044416→C 49 [.ptr id 0] S fun r S'=>r=.ret (.str acc)) :
  wpF gt C F15 [encT t] St.init (Ret (.tup [.str (textR t).1,.int .i64 (textR t).2])):=by
 have ret:∀{o:List UInt8×Int} {S:St},textR t=o→Ret (.tup [.str (textR t).1,.int .i64 (textR t).2]) (.ret (.tup [.str o.1,.int .i64 o.2])) S:=fun h=>by rw [h];exact Ret.sta ⟨trivial,trivial,trivial⟩
 have hf:textR t=if rightB t=0 then (if 65536<(textB t).length then ([],2) else (textB t,0)) else ([],rightB t):=rfl
 have fm:=right_formed (t:=t)
 have ne:=textB_ne (t:=t)
 generalize textR t=res at ret hf ⊢
 generalize rightB t=e at hr hf fm
 unfold TWC at hw
 generalize textB t=tx at hf hw ne
 obtain⟨ka,sa,xa,ya,ga⟩:=encT_agg t
 rw [ga] at hr hw ⊢
 refine⟨rfl,?_⟩
 refine goW ?_
 refine call_pf hm (by rfl) hr (goW ?_)
 by_cases z:e=0
 case neg =>
  rw [neI_true z]
  rw [if_neg z] at hf
  refine goW ?_
  exact⟨_,rfl,ret hf⟩
 rw [neI_false z]
 rw [if_pos z] at hf
 have hb:=hs_newB 78 (.inr rfl)
 have w:=hw (fm z) _ 0 [] hb (by simp)
 refine goW ?_
 refine call_rule (by rfl) (hm _ _ _ _ _ w ?_)
 rintro r S2 ⟨rfl,acc,hb,hl,hr⟩
 obtain⟨e1,e2⟩:=hr.end
 have w:=hln _ _ _ _ hb
 refine goW ?_
 refine call_rule (by rfl) (hm _ _ _ _ _ w ?_)
 rintro r S3 ⟨rfl,rfl⟩
 refine goW ?_
 by_cases c:(acc.length:Int) > 65536
 ·rw [dT c]
  rw [if_pos (e1.1 (by omega))] at hf
  refine goW ?_
  exact⟨_,rfl,ret hf⟩
 rw [dF c]
 have c2:¬65536<tx.length:=fun h=>c (by have:=e1.2 h;omega)
 rw [if_neg c2] at hf
 obtain rfl:=e2 c2
 have w:=hst _ _ _ _ hb (ne (fm z)) (by omega)
 refine goW ?_
 refine call_rule (by rfl) (hm _ _ _ _ _ w ?_)
 rintro r S4 rfl
 refine goW ?_
 exact⟨_,rfl,ret hf⟩
end

section
variable {gt:GT} {C:CallT}
end

section
variable {gt:GT} {C:CallT}
end
section
variable {gt:GT} {C:CallT}
end

section
variable {gt:GT} {C:CallT}
end
end Go.Dn

namespace Go.Proofs.YthgidapmofcloaaGreatDoor.Fn
open Go.ChangeShapes Go.WideShapes Go.ChangeAt Go.RowKit Go.Dn
theorem bCheck (S:St) (id:Nat) (ty:TypeId) (acc:List UInt8) (h:BS S id ty acc):A 159 [.ptr id 0] S fun r S'=>r=.ret (.tup [])∧∃o,Hs S' (R_b id ty (.ptr id 0) o acc) :=
 AC_intro Tryz.checked.mixed Tryz.func159 (by kernel_rfl) C1.F159_ok (copyCheck_wp hm h)
theorem bStr (S:St) (id:Nat) (ty:TypeId) (acc s:List UInt8) (h:BS S id ty acc) (hl:acc.length+s.length<1099511627776):A 128 [.ptr id 0,.str s] S fun r S'=>r=.ret (.tup [.int .i64 s.length,.nilif])∧BS S' id ty (acc++s) :=
 AC_intro Tryz.checked.mixed Tryz.func128 (by kernel_rfl) C1.F128_ok (writeString_wp hm bCheck h hl)
theorem bByte (S:St) (id:Nat) (ty:TypeId) (acc:List UInt8) (c:UInt8) (h:BS S id ty acc) (hl:acc.length<1099511627776):A 129 [.ptr id 0,.int .u8 c.toNat] S fun r S'=>r=.ret .nilif∧BS S' id ty (acc++[c]) :=
 AC_intro Tryz.checked.mixed Tryz.func129 (by kernel_rfl) C1.F129_ok (writeByte_wp hm bCheck h hl)
theorem bLen (S:St) (id:Nat) (ty:TypeId) (acc:List UInt8) (h:BS S id ty acc):A 48 [.ptr id 0] S fun r S'=>r=.ret (.int .i64 acc.length)∧S'=S :=
 AC_intro Tryz.checked.mixed Tryz.func48 (by kernel_rfl) C1.F48_ok (bLen_wp h)
theorem bString (S:St) (id:Nat) (ty:TypeId) (acc:List UInt8) (h:BS S id ty acc) (h0:acc≠[]) (hl:acc.length≤17592186044416):A 49 [.ptr id 0] S fun r S'=>r=.ret (.str acc) :=
 AC_intro Tryz.checked.mixed Tryz.func49 (by kernel_rfl) C1.F49_ok (bString_wp h h0 hl)
theorem short (b:UInt8):PF A 130 [.int .u8 b.toNat] (.int .u8 (shortB b).toNat) :=
 pf Tryz.func130 (by kernel_rfl) C1.F130_ok (s1 trivial) short_wp
theorem tdigit (n:Nat) (h:n<256):PF A 131 [.int .i64 n] (.int .u8 (hexB (n % 16)).toNat) :=
 pf Tryz.func131 (by kernel_rfl) C1.F131_ok (s1 trivial) (tdigit_wp h)
theorem quote (s:List UInt8) (h:s.length<4294967281):PF A 80 [.str s] (.tup [.str (if validB s=true then quoteB s else []),.int .i64 (if validB s=true then 0 else 10)]) :=
 pf Tryz.func80 (by kernel_rfl) C1.F80_ok (s1 trivial) (quote_wp hm validU bByte bStr bString short tdigit h)
theorem putT:PutC A:=fun S id acc s h hl =>
 AC_intro Tryz.checked.mixed Tryz.func79 (by kernel_rfl) C1.F79_ok (put_wp hm bLen bStr h hl)
theorem wtree:∀t:PT,formedB t=true→t.ok→t.sok→t.n<1099511627776→TWC A t :=
 indT fun t ih ft hk hs hn S id acc hb hl=>AC_intro Tryz.checked.mixed Tryz.func47 (by kernel_rfl) C1.F47_ok (wtree_wp hm putT quote order (fun u h a b c=>ih u h a b c (by omega)) ft hk hs hn hb hl)
theorem tText (t:PT) (hk:t.ok) (hs:t.sok) (hn:t.n<1099511627776):PF A 15 [encT t] (.tup [.str (textR t).1,.int .i64 (textR t).2]) :=
 pf Tryz.func15 (by kernel_rfl) C1.F15_ok (s1 (sta_T t)) (tText_wp hm (right t (by omega) hs) (fun h=>wtree t h hk hs hn) bLen bString)
end Go.Proofs.YthgidapmofcloaaGreatDoor.Fn

namespace Go.Proofs.YthgidapmofcloaaGreatDoor
open Go.Dn
theorem bulk_keys:∀l:List (List UInt8),bulkAs (strs l)≤1048576→(∀s∈l,s.length≤1048576)∧l.length≤1048576
 | [],_=>⟨fun s h=>by simp at h,by simp⟩
 | a::r,h=>by
  have e:strs (a::r)=.str a::strs r:=rfl
  rw [e] at h
  simp only [bulkAs,bulkA] at h
  have ih:=bulk_keys r (by omega)
  have h0:=bulk_strs0 r
  refine⟨fun s hs=>?_,by simp only [lC];omega⟩
  rcases List.mem_cons.1 hs with rfl | hs
  ·omega
  ·exact ih.1 s hs
mutual
theorem bulk_sok:∀t:PT,bulkA (encT t)≤1048576→t.sok∧t.n≤bulkA (encT t)
 |.mk k s keys kids,h=>by
  simp only [encT,bulkA,bulkAs] at h ⊢
  have h1:=bulk_keys keys (by omega)
  have h2:=bulk_soks kids (by omega)
  have h3:=bulk_Ts kids (by omega)
  simp only [PT.sok,PT.n]
  exact⟨⟨by omega,fun s hs=>by have:=h1.1 s hs;omega,by omega,by omega,h2.1⟩,by omega⟩
theorem bulk_soks:∀l:List PT,bulkAs (encTs l)≤1048576→PT.soks l∧PT.ns l≤bulkAs (encTs l)
 | [],_=>⟨trivial,Nat.zero_le _⟩
 | t::r,h=>by
  simp only [encTs,bulkAs] at h
  have h1:=bulk_sok t (by omega)
  have h2:=bulk_soks r (by omega)
  simp only [PT.soks,encTs,bulkAs,PT.ns]
  exact⟨⟨h1.1,h2.1⟩,by omega⟩
end
end Go.Proofs.YthgidapmofcloaaGreatDoor

namespace Go.Dn
open Go Go.Proofs.C1
end Go.Dn

namespace Go.Dn
open Go Go.Proofs.C1
set_option maxRecDepth 100000
attribute [local irreducible] afterS keepE
def PartL (ty:TypeId) (P:List Rs) (o:SI) (xs ys:List AV):Prop :=
 (P=[.gr ty o xs]∧ys=xs)∨∃t l b,o=⟨some (t,l),0,none,false⟩∧P=[.bx b ty (ys.flatMap AV.cells++[]),.mk t l b]
theorem Hs.comm {S:St} {A B:List Rs} (h:Hs S (A++B)):Hs S (B++A) :=
 h.less (fun i=>if i<B.length then A.length+i else i-B.length) (fun i j hi hj e=>by
  rw [lA] at hi hj
  split at e<;>split at e<;>omega) fun i hi=>by
  rw [lA] at hi
  split
  ·rw [List.getElem?_append_left (l₁:=B) (by omega),List.getElem?_append_right (by omega)];congr 1;omega
  ·rw [List.getElem?_append_right (l₁:=B) (by omega),List.getElem?_append_left (by omega)]
theorem PartL.els {S:St} {R P:List Rs} {ty:TypeId} {o:SI} {xs ys:List AV} {g:Bool} {es:Nat} (h:Hs S (R++P)) (hp:PartL ty P o xs ys) (hl:xs.length=ys.length) (hel:∀y∈ys,El g es y):elems S g es o xs=some ys:=by
 rcases hp with⟨rfl,rfl⟩ | ⟨t,l,b,rfl,rfl⟩
 ·have hg:=h.ok R.length _ (by rw [List.getElem?_append_right (Nat.le_refl _),Nat.sub_self];rfl)
  exact hg.els _ _
 ·have i1:(R++[Rs.bx b ty (ys.flatMap AV.cells++[]),.mk t l b])[R.length]? = some (.bx b ty (ys.flatMap AV.cells++[])):=by simp
  have i2:(R++[Rs.bx b ty (ys.flatMap AV.cells++[]),.mk t l b])[R.length+1]? = some (.mk t l b):=by simp
  have:=arr_els h i1 i2 hel (off:=0) (cap:=none) (nl:=false) (xs:=xs) (by omega)
  rw [List.drop_zero,List.take_of_length_le (by omega)] at this
  exact this
theorem splice_full {m new:List AV} (h:new.length=m.length):splice m 0 new=new:=by
 simp only [splice,List.take_zero,List.nil_append,Nat.zero_add]
 rw [h,List.drop_length,List.append_nil]
theorem PartL.st {S:St} {R P:List Rs} {ty:TypeId} {o:SI} {xs ys:List AV} {es:Nat} (h:Hs S (R++P)) (hp:PartL ty P o xs ys) (hl:xs.length=ys.length) (hsz:∀y∈ys,y.cells.length=es) {gt:GT} {d:Option Nat} {env:Env} {a x:DOpd} {k sz:Nat} {v:AV}
  (ha:loc env a=some (.el es o xs k 0)) (hx:opd env x=some v) (hv:(Nat.beq v.cells.length sz && v.cells.all ok1)=true) (hk:k<ys.length) (hve:v.cells.length=es) :
  ∃S',stepO gt d env S (.st sz a x)=.done (putV d .undef env) S'∧∃P',PartL ty P' o xs (ys.set k v)∧Hs S' (R++P'):=by
 rcases hp with⟨rfl,rfl⟩ | ⟨t,l,b,rfl,rfl⟩
 ·obtain⟨S',h1,t,l,b,h2,h3⟩:=gr_st (gt:=gt) (d:=d) h hsz ha hx hv hk (by omega) (v':=v) (by rw [splice_full];rw [hsz _ (List.getElem_mem _),hve])
  exact⟨S',h1,_,.inr ⟨t,l,b,h2,rfl⟩,by simpa using h3⟩
 ·have i1:(R++[Rs.bx b ty (ys.flatMap AV.cells++[]),.mk t l b])[R.length]? = some (.bx b ty (ys.flatMap AV.cells++[])):=by simp
  have i2:(R++[Rs.bx b ty (ys.flatMap AV.cells++[]),.mk t l b])[R.length+1]? = some (.mk t l b):=by simp
  obtain⟨S',h1,h2⟩:=arr_st (gt:=gt) (d:=d) h R.length i1 i2 hsz (so:=0) (k:=k) (off:=0) (v':=v) ha hx hv (by omega) (by omega) (by omega) (by rw [splice_full];rw [hsz _ (List.getElem_mem _),hve])
  refine⟨S',h1,_,.inr ⟨t,l,b,rfl,rfl⟩,?_⟩
  rw [Nat.zero_add] at h2
  simpa using h2
def OwT (S:St) (o1 o2:SI) (x1 x2:List AV) (keys:List (List UInt8)) (kids:List PT):Prop :=
 x1.length=keys.length∧x2.length=kids.length∧∃P1 P2,PartL 9 P1 o1 x1 (strs keys)∧PartL 25 P2 o2 x2 (encTs kids)∧Hs S (P1++P2)
section
variable {S:St} {o1 o2:SI} {x1 x2:List AV} {keys:List (List UInt8)} {kids:List PT}
theorem strs_el (l:List (List UInt8)):∀y∈strs l,El false 1 y:=fun y hy=>by
 obtain⟨s,_,rfl⟩:=List.mem_map.1 hy
 exact⟨rfl,rfl⟩
theorem OwT.els1 (h:OwT S o1 o2 x1 x2 keys kids):elems S false 1 o1 x1=some (strs keys):=by
 obtain⟨l1,l2,P1,P2,h1,h2,h⟩:=h
 exact h1.els h.comm (by rw [strs_length];exact l1) (strs_el _)
theorem OwT.els2 (h:OwT S o1 o2 x1 x2 keys kids):elems S true 4 o2 x2=some (encTs kids):=by
 obtain⟨l1,l2,P1,P2,h1,h2,h⟩:=h
 exact h2.els h (by rw [encTs_len];exact l2) (encTs_el _)
theorem strs_set (l:List (List UInt8)) (i:Nat) (s:List UInt8):(strs l).set i (.str s)=strs (l.set i s):=by simp [strs,List.map_set]
theorem encTs_map:∀l:List PT,encTs l=l.map encT
 | []=>rfl
 | t::r=>by simp only [encTs,List.map_cons,encTs_map r]
theorem encTs_set2 (l:List PT) (i:Nat) (u:PT):(encTs l).set i (encT u)=encTs (l.set i u):=by simp [encTs_map,List.map_set]
theorem OwT.st1 (h:OwT S o1 o2 x1 x2 keys kids) {gt:GT} {d:Option Nat} {env:Env} {a x:DOpd} {k:Nat} {v:List UInt8} (ha:loc env a=some (.el 1 o1 x1 k 0)) (hx:opd env x=some (.str v)) (hk:k<keys.length) :
  ∃S',stepO gt d env S (.st 1 a x)=.done (putV d .undef env) S'∧OwT S' o1 o2 x1 x2 (keys.set k v) kids:=by
 obtain⟨l1,l2,P1,P2,h1,h2,h⟩:=h
 obtain⟨S',a1,P',a2,a3⟩:=h1.st (gt:=gt) (d:=d) h.comm (by rw [strs_length];exact l1) (fun y hy=>(strs_el _ y hy).1) ha hx (sz:=1) rfl (by rw [strs_length];exact hk) rfl
 rw [strs_set] at a2
 exact⟨S',a1,by rw [List.length_set];exact l1,l2,P',P2,a2,h2,a3.comm⟩
theorem OwT.st2 (h:OwT S o1 o2 x1 x2 keys kids) {gt:GT} {d:Option Nat} {env:Env} {a x:DOpd} {k:Nat} {u:PT} (ha:loc env a=some (.el 4 o2 x2 k 0)) (hx:opd env x=some (encT u)) (hk:k<kids.length) :
  ∃S',stepO gt d env S (.st 4 a x)=.done (putV d .undef env) S'∧OwT S' o1 o2 x1 x2 keys (kids.set k u):=by
 obtain⟨l1,l2,P1,P2,h1,h2,h⟩:=h
 obtain⟨S',a1,P',a2,a3⟩:=h2.st (gt:=gt) (d:=d) h (by rw [encTs_len];exact l2) (fun y hy=>(encTs_el _ y hy).1) ha hx (sz:=4) (by cases u;rfl) (by rw [encTs_len];exact hk) (by cases u;rfl)
 rw [encTs_set2] at a2
 exact⟨S',a1,l1,by rw [List.length_set];exact l2,P1,P',h1,a2,a3⟩
theorem OwT.rdo (h:OwT S o1 o2 x1 x2 keys kids) (k:Int) (s:List UInt8):Rdo S (encT (.mk k s keys kids)) (.agg [.int .i64 k,.str s,.sl 1 o1 x1,.sl 4 o2 x2]):=by
 have e1:=h.els1
 have e2:=h.els2
 simp only [encT]
 rw [Rdo]
 refine⟨_,rfl,?_⟩
 simp only [Rdos]
 refine⟨_,_,rfl,by simp only [Rdo],_,_,rfl,by simp only [Rdo],_,_,rfl,?_,_,_,rfl,?_,rfl⟩
 ·simp only [Rdo];exact⟨trivial,_,_,false,_,rfl,e1,rdos_strs _⟩
 ·simp only [Rdo];exact⟨trivial,_,_,true,_,rfl,e2,rdos_Ts _⟩
end
end Go.Dn

namespace Go.Dn
open Go Go.Proofs.C1
def TurnP (t u:PT):Prop:=formedB u=true∧u.ok∧u.sok∧u.n=t.n∧u.dp=t.dp∧sortT u=sortT t∧textB u=textB t
def TurnL (l l':List PT):Prop:=l'.length=l.length∧∀i (h:i<l.length) (h':i<l'.length),TurnP l[i] l'[i]
theorem ns_map:∀l:List PT,PT.ns l=(l.map PT.n).sum
 | []=>rfl
 | t::r=>by simp only [PT.ns,List.map_cons,List.sum_cons,ns_map r]
theorem dps_map:∀l:List PT,PT.dps l=(l.map PT.dp).foldr max 0
 | []=>rfl
 | t::r=>by simp only [PT.dps,List.map_cons,List.foldr_cons,dps_map r]
theorem dps_perm {a b:List PT} (p:a.Perm b):PT.dps a=PT.dps b:=by
 induction p with
 | nil=>rfl
 | cons x _ ih=>simp only [PT.dps,ih]
 | swap x y l=>simp only [PT.dps];omega
 | trans _ _ h1 h2=>rw [h1,h2]
theorem TurnL.map {α:Type} {l l':List PT} (h:TurnL l l') (f:PT→α) (hf:∀{t u},TurnP t u→f u=f t):l'.map f=l.map f:=by
 refine List.ext_getElem (by simp [h.1]) fun i h1 h2=>?_
 rw [List.length_map] at h1 h2
 rw [List.getElem_map,List.getElem_map,hf (h.2 i h2 h1)]
theorem TurnL.mem {l l':List PT} (h:TurnL l l') {u:PT} (hu:u∈l'):∃t∈l,TurnP t u:=by
 obtain⟨i,hi,rfl⟩:=List.getElem_of_mem hu
 exact⟨_,List.getElem_mem _,h.2 i (by rw [←h.1];exact hi) hi⟩
theorem turn_list {k:Int} {s:List UInt8} {keys:List (List UInt8)} {kids kids':List PT} (h7:k≠7) (f:formedB (.mk k s keys kids)=true) (hk:(PT.mk k s keys kids).ok) (hs:(PT.mk k s keys kids).sok) (hl:TurnL kids kids'):TurnP (.mk k s keys kids) (.mk k s keys kids'):=by
 obtain⟨p1,_,p6,_⟩:=formed_parts f
 obtain rfl:=p6 h7
 simp only [formedB,bA] at f
 simp only [PT.ok] at hk
 simp only [PT.sok] at hs
 refine⟨?_,?_,?_,?_,?_,?_,?_⟩
 ·simp only [formedB,bA]
  exact⟨formedBs_iff.2 fun u hu=>by obtain⟨_,_,h⟩:=hl.mem hu;exact h.1,by rw [hl.1];exact f.2⟩
 ·simp only [PT.ok]
  exact⟨hk.1,by rw [hl.1];exact hk.2.1,oks_iff.2 fun u hu=>by obtain⟨_,_,h⟩:=hl.mem hu;exact h.2.1⟩
 ·simp only [PT.sok]
  exact⟨hs.1,hs.2.1,hs.2.2.1,by rw [hl.1];exact hs.2.2.2.1,soks_iff.2 fun u hu=>by obtain⟨_,_,h⟩:=hl.mem hu;exact h.2.2.1⟩
 ·simp only [PT.n];rw [ns_map,ns_map,hl.map PT.n fun h=>h.2.2.2.1]
 ·simp only [PT.dp];rw [dps_map,dps_map,hl.map PT.dp fun h=>h.2.2.2.2.1]
 ·rw [sort_list h7 h7];exact⟨rfl,rfl,hl.map sortT fun h=>h.2.2.2.2.2.1⟩
 ·have e:textsB kids'=textsB kids:=by rw [textsB_map,textsB_map,hl.map textB fun h=>h.2.2.2.2.2.2]
  rw [textB,textB,e]
def recZ:Nat→List (List UInt8)→List (List UInt8)→List UInt8
 | n,k::ks,t::ts=>(sepB n++((quoteB k++[58,32])++t))++recZ (n+1) ks ts
 | _,_,_=>[]
theorem recB_recZ (keys texts:List (List UInt8)):∀(L:List Nat) (n:Nat),recB keys texts n L=recZ n (L.map fun i=>keys.getD i []) (L.map fun i=>texts.getD i [])
 | [],_=>rfl
 | i::r,n=>by simp only [recB,List.map_cons,recZ,recB_recZ keys texts r (n+1)]
theorem turn_rec {s:List UInt8} {keys:List (List UInt8)} {kids kids':List PT} {L:List Nat} (f:formedB (.mk 7 s keys kids)=true) (hk:(PT.mk 7 s keys kids).ok) (hs:(PT.mk 7 s keys kids).sok) (hl:TurnL kids kids') (hL:L.Perm (List.range keys.length)) :
  TurnP (.mk 7 s keys kids) (.mk 7 s (L.map fun i=>keys.getD i []) (L.map fun i=>kids'.getD i zPT)):=by
 obtain⟨p1,p7,_⟩:=formed_parts f
 obtain⟨_,hlen,hd⟩:=p7 rfl
 have pk:(L.map fun i=>keys.getD i []).Perm keys:=by have:=hL.map fun i=>keys.getD i [];rwa [map_range_getD] at this
 have pv:(L.map fun i=>kids'.getD i zPT).Perm kids':=by
  have:=hL.map fun i=>kids'.getD i zPT
  rw [hlen,←hl.1,map_range_getD] at this
  exact this
 have ll:L.length=keys.length:=by have:=hL.length_eq;rwa [List.length_range] at this
 have hm:∀{u},u∈(L.map fun i=>kids'.getD i zPT)→∃t∈kids,TurnP t u:=fun hu=>hl.mem (pv.mem_iff.1 hu)
 simp only [formedB,bA] at f
 simp only [PT.ok] at hk
 simp only [PT.sok] at hs
 refine⟨?_,?_,?_,?_,?_,?_,?_⟩
 ·have sh:=f.2
  simp only [formedB,bA]
  refine⟨formedBs_iff.2 fun u hu=>by obtain⟨_,_,h⟩:=hm hu;exact h.1,?_⟩
  unfold shapeB at sh ⊢
  rw [if_neg (by omega),if_neg (by omega),if_neg (by omega),if_neg (by omega),if_neg (by omega),if_neg (by omega),if_pos rfl,bA,bA] at sh ⊢
  exact⟨sh.1,by simp,unlike_perm pk sh.2.2⟩
 ·simp only [PT.ok,List.length_map,ll]
  exact⟨hk.1,by rw [hlen];exact hk.2.1,oks_iff.2 fun u hu=>by obtain⟨_,_,h⟩:=hm hu;exact h.2.1⟩
 ·simp only [PT.sok,List.length_map,ll]
  exact⟨hs.1,fun x hx=>hs.2.1 x (pk.mem_iff.1 hx),hs.2.2.1,by rw [hlen];exact hs.2.2.2.1,soks_iff.2 fun u hu=>by obtain⟨_,_,h⟩:=hm hu;exact h.2.2.1⟩
 ·simp only [PT.n];rw [ns_perm pv,ns_map,ns_map,hl.map PT.n fun h=>h.2.2.2.1]
 ·simp only [PT.dp];rw [dps_perm pv,dps_map,dps_map,hl.map PT.dp fun h=>h.2.2.2.2.1]
 ·rw [sort_rec (pk.nodup_iff.2 hd) hd (by simp) hlen]
  refine⟨rfl,by simp [ll,hlen],fun i hi=>?_⟩
  rw [List.length_map] at hi
  have hj:L[i]<keys.length:=List.mem_range.1 (hL.mem_iff.1 (List.getElem_mem hi))
  refine⟨L[i],by omega,?_,?_⟩
  ·rw [getD_at (by rw [List.length_map];exact hi),List.getElem_map]
  ·have h1:=hl.1
   rw [List.getElem_map,getD_at (by omega)]
   exact (hl.2 _ (by omega) (by omega)).2.2.2.2.2.1
 ·rw [textB,textB,if_neg (by omega),if_neg (by omega),if_neg (by omega),if_neg (by omega),if_neg (by omega),if_neg (by omega),if_neg (by omega),if_neg (by omega),if_neg (by omega),if_neg (by omega),recB_recZ,recB_recZ]
  have e:=(rec_eq (z:=([]:List UInt8)) (keys:=L.map fun i=>keys.getD i []) (keys':=keys) (vals:=textsB (L.map fun i=>kids'.getD i zPT)) (vals':=textsB kids) (pk.nodup_iff.2 hd) hd).2 ⟨by simp [ll],fun i hi=>by
   rw [List.length_map] at hi
   have hj:L[i]<keys.length:=List.mem_range.1 (hL.mem_iff.1 (List.getElem_mem hi))
   have h1:=hl.1
   refine⟨L[i],hj,?_,?_⟩
   ·rw [getD_at (by rw [List.length_map];exact hi),List.getElem_map]
   ·rw [getD_at (by rw [textsB_map,List.length_map,List.length_map];exact hi),getD_at (by rw [textsB_map,List.length_map];omega)]
    simp only [textsB_map,List.getElem_map]
    rw [getD_at (by omega)]
    exact (hl.2 _ (by omega) (by omega)).2.2.2.2.2.2⟩
  rw [e.1,e.2]
theorem TurnP.right {t u:PT} (h:TurnP t u) (ht:rightB t=0):rightB u=0:=by
 unfold rightB at ht ⊢
 rw [h.2.2.2.2.1,h.2.2.2.1,h.1]
 split at ht
 ·cases ht
 ·rename_i c1
  rw [if_neg c1]
  split at ht
  ·cases ht
  ·rename_i c2
   rw [if_neg c2,if_pos rfl]
end Go.Dn

namespace Go.Dn
open Go Go.Proofs.C1
set_option maxRecDepth 100000
attribute [local irreducible] afterS keepE
def intsZ (l:List Int):List AV:=l.map fun n=>.int .i64 n
theorem intsZ_len (l:List Int):(intsZ l).length=l.length:=by simp [intsZ]
theorem intsZ_get {l:List Int} {i:Nat} (h:i<l.length):(intsZ l)[i]? = some (.int .i64 l[i]):=by simp [intsZ,h]
theorem swap_perm {n:Nat} {L:List Nat} (h:L.Perm (List.range n)) {a b:Nat} (ha:a<L.length) (hb:b<L.length):((L.set a L[b]).set b L[a]).Perm (List.range n):=by
 have nd:L.Nodup:=h.nodup_iff.2 List.nodup_range
 refine ((perm_of_sub nd (fun x hx=>?_) (by simp)).symm).trans h
 obtain⟨j,hj,rfl⟩:=List.getElem_of_mem hx
 have hb':b<((L.set a L[b]).set b L[a]).length:=by simpa using hb
 have ha':a<((L.set a L[b]).set b L[a]).length:=by simpa using ha
 have hj':j<((L.set a L[b]).set b L[a]).length:=by simpa using hj
 by_cases e1:j=a
 ·subst e1
  have e:((L.set j L[b]).set b L[j])[b]=L[j]:=List.getElem_set_self ..
  have hm:=List.getElem_mem hb'
  rw [e] at hm;exact hm
 ·by_cases e2:j=b
  ·subst e2
   have:((L.set a L[j]).set j L[a])[a]=L[j]:=by
    rw [List.getElem_set_ne (fun e=>e1 e)]
    exact List.getElem_set_self ..
   have hm:=List.getElem_mem ha'
   rw [this] at hm;exact hm
  ·have:((L.set a L[b]).set b L[a])[j]=L[j]:=by
    rw [List.getElem_set_ne (fun e=>e2 e.symm),List.getElem_set_ne (fun e=>e1 e.symm)]
   rw [←this];exact List.getElem_mem _
theorem sx_rem {gt:GT} {d:Option Nat} {env:Env} {S:St} {x y:DOpd} {a b:Int} (hx:opd env x=some (.int .i64 a)) (hy:opd env y=some (.int .i64 b)) (h:¬b=0):stepO gt d env S (.bin .rem none x y)=.done (putV d (.int .i64 (a.tmod b)) env) S:=by
 simp only [stepO,hx,hy,binV,binI,eqI_false h,if_true,cond_false,SR.val]
section
variable {gt:GT} {C:CallT}
set_option maxHeartbeats 2000000 in
theorem wthin_wp {a:Int} {n:Nat} (h:0<n) (hn:n<4611686018427387904):wpF gt C F39 [.int .i64 a,.int .i64 0,.int .i64 (((n:Nat):Int)-1)] St.init (Ret (.int .i64 (a % n))):=by
 have t1:=Int.tmod_lt_of_pos a (show (0:Int)<n by omega)
 have t2:-(n:Int)<a.tmod n:=by have:=Int.lt_tmod_of_pos a (show (0:Int)<n by omega);omega
 refine⟨rfl,?_⟩
 refine goW ?_
 rw [wr64 (n:=((n:Nat):Int)-1-0) (by omega) (by omega),wr64 (n:=((n:Nat):Int)-1-0+1) (by omega) (by omega),show ((n:Nat):Int)-1-0+1=n by omega]
 refine step_ruleO (sx_rem rfl rfl (by omega)) (goW ?_)
 have em:=Int.emod_nonneg a (show (n:Int)≠0 by omega)
 have em2:=Int.emod_lt_of_pos a (show (0:Int)<n by omega)
 have key:a % n=if a.tmod n<0 then a.tmod n+n else a.tmod n:=by
  rw [Int.tmod_eq_emod]
  have e:((n:Int).natAbs:Int)=n:=by omega
  split<;>split<;>omega
 by_cases c:a.tmod n<0
 ·rw [dT c]
  rw [if_pos c] at key
  refine goW ?_
  rw [wr64 (n:=a.tmod n+(((n:Nat):Int)-1)) (by omega) (by omega),wr64 (n:=a.tmod n+(((n:Nat):Int)-1)-0) (by omega) (by omega),wr64 (n:=a.tmod n+(((n:Nat):Int)-1)-0+1) (by omega) (by omega),wr64 (n:=0+(a.tmod n+(((n:Nat):Int)-1)-0+1)) (by omega) (by omega)]
  refine⟨_,rfl,?_⟩
  rw [show 0+(a.tmod n+(((n:Nat):Int)-1)-0+1)=a % n by omega]
  exact Ret.sta trivial
 ·rw [dF c]
  rw [if_neg c] at key
  refine goW ?_
  rw [wr64 (n:=0+a.tmod n) (by omega) (by omega)]
  refine⟨_,rfl,?_⟩
  rw [show 0+a.tmod n=a % n by omega]
  exact Ret.sta trivial
def TurnC (C:CallT) (at':List Int) (t:PT):Prop:=∀S,C 46 [encT t,.sl 1 stat (intsZ at')] S fun r S'=>∃u,r=.ret u∧(∃w,TurnP t w∧u=encT w)∧S'=S
abbrev xT (k:Int) (s:List UInt8) (keys:List (List UInt8)) (kids:List PT) (o1 o2:SI):List AV:=[.int .i64 k,.str s,.sl 1 o1 (strs keys),.sl 4 o2 (encTs kids)]
abbrev E_t1 (at':List Int) (k:Int) (s:List UInt8) (keys:List (List UInt8)) (kids:List PT) (o1 o2:SI) (i:Int):Env:=[(1,.val (.sl 1 stat (intsZ at'))),(2,.box (encT (.mk k s keys kids)).cells),(4,.box zT),(5,.box (xT k s keys kids o1 o2)),(6,.val (.int .i64 i))]
abbrev E_t2 (at':List Int) (k:Int) (s:List UInt8) (keys:List (List UInt8)) (kids:List PT) (o1 o2:SI) (i:Int):Env:=[(1,.val (.sl 1 stat (intsZ at'))),(4,.box zT),(5,.box (xT k s keys kids o1 o2)),(7,.val (.int .i64 (strs keys).length)),(8,.val (.int .i64 i))]
theorem strs_gt {l:List (List UInt8)} {i:Nat} (h:i<l.length):(strs l)[i]? = some (.str l[i]):=by simp [strs,h]
theorem encTs_gt {l:List PT} {i:Nat} (h:i<l.length):(encTs l)[i]? = some (encT l[i]):=by simp [encTs_map,h]
set_option maxHeartbeats 16000000 in
theorem turned_wp (hm:MonoC C) {at':List Int} (hat:at'.length<4611686018427387904) (hw:∀(a:Int) (n:Nat),0<n→n<4611686018427387904→PF C 39 [.int .i64 a,.int .i64 0,.int .i64 (((n:Nat):Int)-1)] (.int .i64 (a % n)))
  {t:PT} (hown:C 37 [encT t] St.init (OwnT t)) (ih:∀u,u.n<t.n→formedB u=true→u.ok→u.sok→TurnC C at' u) (ft:formedB t=true) (hk:t.ok) (hs:t.sok) :
  wpF gt C F46 [encT t,.sl 1 stat (intsZ at')] St.init fun r S1=>∃x u,r=.ret x∧Rdo S1 u x∧∃w,TurnP t w∧u=encT w:=by
 have turn1:∀{ks:List PT},t.k≠7→TurnL t.kids ks→TurnP t (.mk t.k t.s t.keys ks):=fun h hl=>by
  obtain⟨k,s,keys,kids⟩:=t
  exact turn_list h ft hk hs hl
 have turn2:∀{ks:List PT} {L:List Nat},t.k=7→TurnL t.kids ks→L.Perm (List.range t.keys.length)→TurnP t (.mk t.k t.s (L.map fun i=>t.keys.getD i []) (L.map fun i=>ks.getD i zPT)):=fun h hl hL=>by
  obtain⟨k,s,keys,kids⟩:=t
  simp only [PT.k] at h
  subst h
  exact turn_rec ft hk hs hl hL
 obtain⟨k,s,keys,kids⟩:=t
 obtain⟨fk,f7,f6,_⟩:=formed_parts ft
 simp only [PT.ok] at hk
 obtain⟨hk1,hk2,hk3⟩:=hk
 simp only [PT.sok] at hs
 obtain⟨hs1,hs2,hs3,hs4,hs5⟩:=hs
 have l1:=encTs_len kids
 have l3:=strs_length keys
 have l5:=intsZ_len at'
 refine⟨rfl,?_⟩
 refine goW ?_
 refine call_rule (by rfl) (hm _ _ _ _ _ hown ?_)
 rintro r S1 ⟨o1,o2,rfl,hR⟩
 simp only [PT.keys,PT.kids] at hR turn1 turn2
 have hO:OwT S1 o1 o2 (strs keys) (encTs kids) keys kids:=⟨l3,l1,_,_,.inl ⟨rfl,rfl⟩,.inl ⟨rfl,rfl⟩,hR⟩
 simp only [PT.k,PT.s] at turn1 turn2 ⊢
 clear hR hown
 refine goW ?_
 refine loop_rule hm (α:=Nat) (fun i env S'=>i≤kids.length∧env=E_t1 at' k s keys kids o1 o2 i∧∃ks,OwT S' o1 o2 (strs keys) (encTs kids) keys ks∧ks.length=kids.length∧∀j (h:j<kids.length) (h':j<ks.length),j<i→TurnP kids[j] ks[j]) (fun i=>kids.length-i) ?_ (a:=0) ⟨Nat.zero_le _,rfl,kids,hO,rfl,fun j _ _ h=>absurd h (Nat.not_lt_zero _)⟩
 clear hO
 rintro i env S' ⟨hi,rfl,ks,hO,hkl,hks⟩
 refine goW ?_
 by_cases hc:(i:Int)<(encTs kids).length
 ·rw [dT hc]
  have hik:i<kids.length:=by omega
  have ihk:=ih _ (kid_lt hik) (formedBs_get hik fk) (PT.oks_get hk3 (gE hik)) (PT.soks_get hik hs5) S'
  have e1:=encTs_get hik
  have r1:=rdT kids[i]
  have nxt:∀{S2:St} {u:PT},TurnP kids[i] u→OwT S2 o1 o2 (strs keys) (encTs kids) keys (ks.set i u)→∃a:Nat,(a≤kids.length∧E_t1 at' k s keys kids o1 o2 ((i+1:Nat):Int)=E_t1 at' k s keys kids o1 o2 a∧∃ks,OwT S2 o1 o2 (strs keys) (encTs kids) keys ks∧ks.length=kids.length∧∀j (h:j<kids.length) (h':j<ks.length),j<a→TurnP kids[j] ks[j])∧kids.length-a<kids.length-i:=fun {S2 u} hu h=>by
   refine⟨i+1,⟨by omega,rfl,ks.set i u,h,by rw [List.length_set];exact hkl,fun j hj hj' hlt=>?_⟩,by omega⟩
   by_cases e:i=j
   ·subst e;rw [List.getElem_set_self];exact hu
   ·rw [List.getElem_set_ne e];exact hks j hj (by omega) (by omega)
  obtain⟨ka,sa,xa,ya,ga⟩:=encT_agg kids[i]
  rw [ga] at ihk e1 r1
  refine goW ?_
  refine step_ruleDO rfl rfl (sx_ia (k:=i) rfl rfl (by omega)) (goW ?_)
  refine step_ruleDO rfl rfl (sx_ldEl (agg:=true) rfl rfl e1 r1) (goW ?_)
  refine call_ruleD (by rfl) (hm _ _ _ _ _ ihk ?_)
  rintro r S2 ⟨_,rfl,⟨u,hu,rfl⟩,rfl⟩
  refine goW ?_
  refine step_ruleDO rfl rfl (sx_ia (k:=i) rfl rfl (by omega)) (goW ?_)
  refine st_runPD (hO.st2 (u:=u) rfl rfl (by omega)) (by trivial) rfl rfl ?_
  intro S3 hO
  refine goW ?_
  rw [wrNat (by omega)]
  exact nxt hu hO
 rw [dF hc]
 have hl:TurnL kids ks:=⟨hkl,fun j h h'=>hks j h h' (by omega)⟩
 have turn1:=fun h=>turn1 (ks:=ks) h hl
 have turn2:=fun {L} h hL=>turn2 (ks:=ks) (L:=L) h hl hL
 clear hks
 refine goW ?_
 by_cases k7:k=7
 case neg =>
  obtain rfl:=f6 k7
  refine loop_rule hm (α:=Nat) (fun i env S'=>i=0∧env=E_t2 at' k s [] kids o1 o2 i∧OwT S' o1 o2 (strs []) (encTs kids) [] ks) (fun i=>0) ?_ (a:=0) ⟨rfl,rfl,hO⟩
  clear hO
  rintro i env S' ⟨rfl,rfl,hO⟩
  refine goW ?_
  by_cases c1:((0:Nat):Int)<(intsZ at').length
  ·rw [dT c1]
   refine goW ?_
   exact⟨_,rfl,_,_,rfl,hO.rdo k s,_,turn1 k7,rfl⟩
  ·rw [dF c1]
   refine goW ?_
   exact⟨_,rfl,_,_,rfl,hO.rdo k s,_,turn1 k7,rfl⟩
 have hlen:=(f7 k7).2.1
 have hO:OwT S' o1 o2 (strs keys) (encTs kids) ((List.range keys.length).map fun i=>keys.getD i []) ((List.range keys.length).map fun i=>ks.getD i zPT):=by
  have e:((List.range keys.length).map fun i=>ks.getD i zPT)=ks:=by rw [hlen,←hkl,map_range_getD]
  rw [map_range_getD,e];exact hO
 refine loop_rule hm (α:=Nat) (fun i env S'=>i≤at'.length∧env=E_t2 at' k s keys kids o1 o2 i∧∃L:List Nat,L.Perm (List.range keys.length)∧OwT S' o1 o2 (strs keys) (encTs kids) (L.map fun i=>keys.getD i []) (L.map fun i=>ks.getD i zPT)) (fun i=>at'.length-i) ?_ (a:=0) ⟨Nat.zero_le _,rfl,_,List.Perm.refl _,hO⟩
 clear hO
 rintro i env S2 ⟨hi,rfl,L,hL,hO⟩
 have hLl:L.length=keys.length:=by have:=hL.length_eq;rwa [List.length_range] at this
 have fin:∀{S3:St},OwT S3 o1 o2 (strs keys) (encTs kids) (L.map fun i=>keys.getD i []) (L.map fun i=>ks.getD i zPT)→∃x u,Res.ret (.agg (xT k s keys kids o1 o2))=.ret x∧Rdo S3 u x∧∃w,TurnP (.mk k s keys kids) w∧u=encT w:=fun h=>⟨_,_,rfl,h.rdo k s,_,turn2 k7 hL,rfl⟩
 have nl:(strs keys).length=keys.length:=l3
 refine goW ?_
 by_cases c1:(i:Int)<(intsZ at').length
 case neg =>
  rw [dF c1]
  refine goW ?_
  exact⟨_,rfl,fin hO⟩
 rw [dT c1]
 refine goW ?_
 by_cases c2:(i:Int)<20
 case neg =>
  rw [dF c2]
  refine goW ?_
  exact⟨_,rfl,fin hO⟩
 rw [dT c2]
 refine goW ?_
 by_cases c3:((strs keys).length:Int) > 0
 case neg =>
  rw [dF c3]
  refine goW ?_
  exact⟨_,rfl,fin hO⟩
 rw [dT c3]
 refine goW ?_
 rw [eqI_true (show ((strs keys).length:Int)=(encTs kids).length by omega)]
 have hia:i<at'.length:=by omega
 have n0:0<(strs keys).length:=by omega
 have hw:=hw at'[i] (strs keys).length n0 (by omega)
 have ea:=intsZ_get hia
 have em:=Int.emod_nonneg at'[i] (show ((strs keys).length:Int)≠0 by omega)
 have em2:=Int.emod_lt_of_pos at'[i] (show (0:Int)<(strs keys).length by omega)
 obtain⟨a,ha⟩:∃a:Nat,at'[i] % ((strs keys).length:Int)=a:=⟨(at'[i] % ((strs keys).length:Int)).toNat,by omega⟩
 rw [ha] at hw em2
 generalize at'[i]=av at ea hw
 have eb:(i:Int).tmod ((strs keys).length:Int)=((i % (strs keys).length:Nat):Int):=by rw [Int.tmod_eq_emod_of_nonneg (by omega)];rfl
 have hb:i % (strs keys).length<(strs keys).length:=Nat.mod_lt _ n0
 generalize i % (strs keys).length=b at eb hb
 have hal:a<L.length:=by omega
 have hbl:b<L.length:=by omega
 have hbk:b<(encTs kids).length:=by omega
 have hak:a<(encTs kids).length:=by omega
 have ha':a<(strs keys).length:=by omega
 have pL:=swap_perm hL hal hbl
 have s1:((L.map fun i=>keys.getD i []).set a (keys.getD L[b] [])).set b (keys.getD L[a] [])=((L.set a L[b]).set b L[a]).map fun i=>keys.getD i []:=by rw [List.map_set,List.map_set]
 have s2:((L.map fun i=>ks.getD i zPT).set a (ks.getD L[b] zPT)).set b (ks.getD L[a] zPT)=((L.set a L[b]).set b L[a]).map fun i=>ks.getD i zPT:=by rw [List.map_set,List.map_set]
 have k1:(strs (L.map fun i=>keys.getD i []))[b]? = some (.str (keys.getD L[b] [])):=by rw [strs_gt (by rw [List.length_map];exact hbl),List.getElem_map]
 have k2:(strs (L.map fun i=>keys.getD i []))[a]? = some (.str (keys.getD L[a] [])):=by rw [strs_gt (by rw [List.length_map];exact hal),List.getElem_map]
 have q1:(encTs (L.map fun i=>ks.getD i zPT))[b]? = some (encT (ks.getD L[b] zPT)):=by rw [encTs_gt (by rw [List.length_map];exact hbl),List.getElem_map]
 have q2:(encTs (L.map fun i=>ks.getD i zPT))[a]? = some (encT (ks.getD L[a] zPT)):=by rw [encTs_gt (by rw [List.length_map];exact hal),List.getElem_map]
 have lm1:(L.map fun i=>keys.getD i []).length=L.length:=List.length_map _
 have lm2:(L.map fun i=>ks.getD i zPT).length=L.length:=List.length_map _
 have nxt:∀{S3:St},OwT S3 o1 o2 (strs keys) (encTs kids) (((L.set a L[b]).set b L[a]).map fun i=>keys.getD i []) (((L.set a L[b]).set b L[a]).map fun i=>ks.getD i zPT)→∃x:Nat,(x≤at'.length∧E_t2 at' k s keys kids o1 o2 ((i+1:Nat):Int)=E_t2 at' k s keys kids o1 o2 x∧∃L:List Nat,L.Perm (List.range keys.length)∧OwT S3 o1 o2 (strs keys) (encTs kids) (L.map fun i=>keys.getD i []) (L.map fun i=>ks.getD i zPT))∧at'.length-x<at'.length-i:=fun h=>⟨i+1,⟨by omega,rfl,_,pL,h⟩,by omega⟩
 rw [←s1,←s2] at nxt
 clear s1 s2 pL fin turn1 turn2
 generalize (L.map fun i=>keys.getD i [])=lk at hO k1 k2 lm1 nxt
 generalize (L.map fun i=>ks.getD i zPT)=lt at hO q1 q2 lm2 nxt
 generalize keys.getD L[b] []=kb at k1 nxt
 generalize keys.getD L[a] []=ka at k2 nxt
 generalize ks.getD L[b] zPT=tb at q1 nxt
 generalize ks.getD L[a] zPT=ta at q2 nxt
 have rb:=rdT tb
 have ra:=rdT ta
 refine goW ?_
 refine step_ruleO (sx_ia (k:=i) rfl rfl (by omega)) (goW ?_)
 refine step_ruleO (sx_ldEl (agg:=false) rfl rfl ea rfl) (goW ?_)
 rw [wr64 (n:=((strs keys).length:Int)-1) (by omega) (by omega)]
 refine call_pf hm (by rfl) hw (goW ?_)
 refine step_ruleO (sx_rem rfl rfl (by omega)) ?_
 rw [eb]
 refine goW ?_
 refine step_ruleDO rfl rfl (sx_ia (k:=b) rfl rfl hb) (goW ?_)
 refine step_ruleDO rfl rfl (sx_ldEl (agg:=false) rfl hO.els1 k1 rfl) (goW ?_)
 refine step_ruleDO rfl rfl (sx_ia (k:=a) rfl rfl ha') (goW ?_)
 refine step_ruleDO rfl rfl (sx_ldEl (agg:=false) rfl hO.els1 k2 rfl) (goW ?_)
 refine step_ruleDO rfl rfl (sx_ia (k:=a) rfl rfl ha') (goW ?_)
 refine st_runPD (hO.st1 rfl rfl (by omega)) (by trivial) rfl rfl ?_
 intro S3 hO
 refine goW ?_
 refine step_ruleDO rfl rfl (sx_ia (k:=b) rfl rfl hb) (goW ?_)
 refine st_runPD (hO.st1 rfl rfl (by rw [List.length_set];omega)) (by trivial) rfl rfl ?_
 intro S4 hO
 refine goW ?_
 refine step_ruleDO rfl rfl (sx_ia (k:=b) rfl rfl hbk) (goW ?_)
 refine step_ruleDO rfl rfl (sx_ldEl (agg:=true) rfl hO.els2 q1 rb) (goW ?_)
 refine step_ruleDO rfl rfl (sx_ia (k:=a) rfl rfl hak) (goW ?_)
 refine step_ruleDO rfl rfl (sx_ldEl (agg:=true) rfl hO.els2 q2 ra) (goW ?_)
 refine step_ruleDO rfl rfl (sx_ia (k:=a) rfl rfl hak) (goW ?_)
 refine st_runPD (hO.st2 (u:=tb) rfl rfl (by omega)) (by trivial) rfl rfl ?_
 intro S5 hO
 refine goW ?_
 refine step_ruleDO rfl rfl (sx_ia (k:=b) rfl rfl hbk) (goW ?_)
 refine st_runPD (hO.st2 (u:=ta) rfl rfl (by rw [List.length_set];omega)) (by trivial) rfl rfl ?_
 intro S6 hO
 refine goW ?_
 rw [wrNat (by omega)]
 exact nxt hO
end
end Go.Dn

namespace Go.Proofs.YthgidapmofcloaaGreatDoor
open Go.Dn
theorem a_int:isAggP Tryz.prog 3=some false:=by kernel_rfl
theorem u_ints:Tryz.prog.underlying 68=some (.slice 3):=by kernel_rfl
theorem av_ints {d:Nat} {xs:List AV} (h:AVB Tryz.prog d 68 xs):∃l,xs=[.sl 1 stat (intsZ l)]:=by
 cases d with
 | zero=>exact h.elim
 | succ d =>
  unfold AVB at h
  rw [u_ints] at h
  obtain⟨ys,rfl,h2⟩:=h
  rw [c_int]
  have:∃l,ys=intsZ l:=by
   induction ys with
   | nil=>exact⟨[],rfl⟩
   | cons y r ih =>
    obtain⟨l,hl⟩:=ih fun z hz=>h2 z (by simp [hz])
    obtain⟨k1,_,k3⟩:=h2 y (by simp)
    rw [k3 a_int] at k1
    obtain⟨n,rfl⟩:=av_int k1
    exact⟨n::l,by rw [hl];rfl⟩
  obtain⟨l,rfl⟩:=this
  exact⟨l,rfl⟩
theorem bulk_Is (l:List Int):l.length≤bulkAs (intsZ l):=by
 induction l with
 | nil=>exact Nat.zero_le _
 | cons s r ih =>
  have:intsZ (s::r)=.int .i64 s::intsZ r:=rfl
  rw [this]
  simp only [bulkAs,bulkA,lC]
  omega
end Go.Proofs.YthgidapmofcloaaGreatDoor

namespace Go.Dn
open Go Go.Proofs.C1
set_option maxRecDepth 100000
attribute [local irreducible] afterS keepE
def TurnH (C:CallT) (t w:PT) (tx:List UInt8) (e:Int) (q:PT):Prop :=
 PF C 15 [encT t] (.tup [.str tx,.int .i64 e])∧PF C 15 [encT w] (.tup [.str tx,.int .i64 e])∧PF C 24 [encT t,encT w] (.bool true)∧PF C 25 [encT t,encT w] (.int .i64 0) ∧
 PF C 34 [encT t] (encT q)∧PF C 34 [encT w] (encT q)∧PF C 32 [encT q,encT q] (.bool true)∧PF C 17 [encT t] (.int .i64 t.n)∧PF C 17 [encT w] (.int .i64 t.n)
section
variable {gt:GT} {C:CallT}
set_option maxHeartbeats 8000000 in
theorem treeTurned_wp (hm:MonoC C) (hruns:PF C 3 [] (.bool true)) {t:PT} {at':List Int} (hsmall:PF C 26 [encT t] (.bool (smallB t))) (hr:PF C 16 [encT t] (.int .i64 (rightB t)))
  (ht:rightB t=0→TurnC C at' t) {tx:List UInt8} {e:Int} {q:PT} (hh:rightB t=0→∀w,TurnP t w→TurnH C t w tx e q) :
  wpF gt C F13 [encT t,.sl 1 stat (intsZ at')] St.init (Ret (.bool true)):=by
 unfold TurnC at ht
 unfold TurnH at hh
 generalize smallB t=b at hsmall
 generalize rightB t=r at hr ht hh
 have hh:=fun h=>hh h
 generalize hn:t.n=n at hh
 generalize hP:(fun w=>TurnP t w)=P at *
 have hP':∀w,TurnP t w=P w:=fun w=>congrFun hP w
 simp only [hP'] at ht hh
 clear hP hP' hn
 obtain⟨ka,sa,xa,ya,ga⟩:=encT_agg t
 rw [ga] at hsmall hr ht hh ⊢
 refine⟨rfl,?_⟩
 refine goW ?_
 refine call_pf hm (by rfl) hsmall ?_
 cases b with
 | false =>
  refine goW ?_
  refine call_pf hm (by rfl) hruns (goW ?_)
  exact⟨_,rfl,Ret.sta trivial⟩
 | true =>
 refine goW ?_
 refine call_pf hm (by rfl) hr (goW ?_)
 by_cases z:r=0
 case neg =>
  rw [neI_true z]
  refine goW ?_
  refine call_pf hm (by rfl) hruns (goW ?_)
  exact⟨_,rfl,Ret.sta trivial⟩
 rw [neI_false z]
 refine goW ?_
 refine call_rule (by rfl) (hm _ _ _ _ _ (ht z _) ?_)
 rintro r S2 ⟨_,rfl,⟨w,hw,rfl⟩,rfl⟩
 obtain⟨h1,h2,h3,h4,h5,h6,h7,h8,h9⟩:=hh z w hw
 obtain⟨kw,sw,xw,yw,gw⟩:=encT_agg w
 obtain⟨kq,sq,xq,yq,gq⟩:=encT_agg q
 rw [gw] at h2 h3 h4 h6 h9 ⊢
 rw [gq] at h5 h6 h7
 refine goW ?_
 refine call_pf hm (by rfl) h1 (goW ?_)
 refine call_pf hm (by rfl) h2 (goW ?_)
 refine call_pfD hm (by rfl) h3 (goW ?_)
 refine call_pfD hm (by rfl) h4 (goW ?_)
 rw [beqB_true (rfl:tx=tx)]
 refine goW ?_
 rw [eqI_true (rfl:e=e)]
 refine goW ?_
 refine call_pfD hm (by rfl) h5 (goW ?_)
 refine call_pfD hm (by rfl) h6 (goW ?_)
 refine call_pfD hm (by rfl) h7 (goW ?_)
 refine call_pfD hm (by rfl) h8 (goW ?_)
 refine call_pfD hm (by rfl) h9 (goW ?_)
 rw [eqI_true (rfl:(n:Int)=n)]
 refine goW ?_
 refine call_pfD hm (by rfl) hruns (goW ?_)
 exact⟨_,rfl,Ret.sta trivial⟩
end
end Go.Dn

namespace Go.Proofs.YthgidapmofcloaaGreatDoor.Fn
open Go.ChangeShapes Go.WideShapes Go.ChangeAt Go.RowKit Go.Dn
theorem sta_Is (l:List Int):Sta (.sl 1 stat (intsZ l)):=sta_sl (by
 induction l with
 | nil=>trivial
 | cons a r ih=>exact⟨trivial,ih⟩)
theorem wthin (a:Int) (n:Nat) (h:0<n) (hn:n<4611686018427387904):PF A 39 [.int .i64 a,.int .i64 0,.int .i64 (((n:Nat):Int)-1)] (.int .i64 (a % n)) :=
 pf Tryz.func39 (by kernel_rfl) C1.F39_ok (s3 trivial trivial trivial) (wthin_wp h hn)
theorem turned {l:List Int} (hl:l.length<4611686018427387904):∀t:PT,formedB t=true→t.ok→t.sok→TurnC A l t :=
 indT fun t ih ft hk hs S=>AC_pure (Φ:=fun u=>∃w,TurnP t w∧u=encT w) gtSta (s2 (sta_T t) (sta_Is l))
  (AC_intro Tryz.checked.mixed Tryz.func46 (by kernel_rfl) C1.F46_ok (turned_wp hm hl wthin (own3 t hk) ih ft hk hs)) S
end Go.Proofs.YthgidapmofcloaaGreatDoor.Fn
namespace Go.Proofs.YthgidapmofcloaaGreatDoor
open Go.Dn Go.Proofs.YthgidapmofcloaaGreatDoor.Fn
theorem TreeTurned.law {t:PT} {l:List Int} (hk:t.ok) (hs:t.sok) (hn:t.n<1099511627776) (hl:l.length<4611686018427387904):A 13 [encT t,.sl 1 stat (intsZ l)] St.init (Ret (.bool true)) :=
 AC_intro Tryz.checked.mixed Tryz.func13 (by kernel_rfl) Go.Proofs.C1.F13_ok
  (treeTurned_wp Fn.hm Fn.runs (Fn.small t) (Fn.right t (by omega) hs) (fun h=>Fn.turned hl t (right_formed h) hk hs) (tx:=(textR t).1) (e:=(textR t).2) (q:=sortT t) fun h w hw=>by
   have hr:=hw.right h
   obtain⟨w1,w2,w3,w4,w5,w6,w7⟩:=hw
   have e1:textR w=textR t:=by unfold textR;rw [hr,h,w7]
   have ft:=right_formed h
   have hnw:w.n<1099511627776:=by omega
   refine⟨Fn.tText t hk hs hn,?_,?_,?_,Fn.sorted t hk (formed_nd ft hn),?_,?_,Fn.sizeP t (by omega),?_⟩
   ·rw [←e1];exact Fn.tText w w2 w3 hnw
   ·have:=Fn.same t w hs hk hn w3 w2 hnw
    have e:sameB t w=true:=by unfold sameB;rw [ft,w1,if_pos (show (true && true)=true from rfl),w6];exact eqT_true rfl
    rwa [e] at this
   ·have:=Fn.tCompare t w ft hk hs hn w1 w2 w3 hnw
    rwa [w6,cmpT_self] at this
   ·rw [←w6];exact Fn.sorted w w2 (formed_nd w1 hnw)
   ·have:=Fn.plain (sortT t) (sortT t) (sort_ok hk);rwa [eqT_true rfl] at this
   ·rw [←w4];exact Fn.sizeP w (by omega))
end Go.Proofs.YthgidapmofcloaaGreatDoor

namespace Go.Proofs.YthgidapmofcloaaGreatDoor.TreeTurned
open Go.ChangeShapes Go.WideShapes Go.ChangeAt Go.RowKit Go.Dn Go.Proofs.YthgidapmofcloaaGreatDoor.Fn
theorem laidOut:laidOutB Tryz.prog=true:=by kernel_rfl
theorem walk {W:World} (hI:Inv Tryz.prog gtT St.init (G0 W) W) {args:Array Value} {xs:List AV} {f:FuncId} (hac:A f xs St.init (Ret (.bool true))) (hx:Rl St.init (G0 W) W xs args.toList):Calls Tryz.prog f args W fun e W'=>e=.returned (.bool true)∧Below W.heap.size W W':=by
 refine Calls.mono (hac.2 (G0 W) W args.toList hI hx) fun e W' hp=>?_
 cases e with
 | returned v =>
  obtain⟨x,S',G',⟨y,hy,hr⟩,t,rv⟩:=hp
  cases hy
  simp only [Rdo] at hr
  subst hr
  refine⟨?_,below_of_ext t.ext⟩
  simp only [Rv] at rv
  rw [rv]
 | panicked chain =>
  obtain⟨x,S',G',u,hc,⟨y,hy,hr⟩,_⟩:=hp
  cases hy
 | outgrown=>exact hp.elim
theorem types:okTypes Tryz.prog [25,23,22,9,3,60,40,68]=true:=by kernel_rfl
theorem wantsT:Tryz.pinned.checked.prog.wantsStandIn 25=false:=by kernel_rfl
theorem isUb {H:Type}:IsUb (Rows.uptoBulk (H:=H)) Rows.uptoBulkAll where
 lit l:=by cases l<;>simp [Rows.uptoBulk]
 str s:=by simp [Rows.uptoBulk]
 nil:=by simp [Rows.uptoBulk]
 slice a b:=by simp [Rows.uptoBulk]
 agg a:=by simp [Rows.uptoBulk]
 none:=by simp [Rows.uptoBulkAll]
 cons d r:=by simp [Rows.uptoBulkAll]
set_option maxRecDepth 1000000 in
theorem entryT {H:Type} {enc:TypeId×Value→H} {W:World} {v:Value} {d:DataW H} {p:List MemPlace} {base:Nat} (hv:Value.okWide Tryz.prog W .any base 25 v) (h:DataW.Trod enc Tryz.prog W 0 (fun _=>true) true 25 v d p) :
  ∃n:PT,Rv St.init (G0 W) W (encT n) v∧bulkA (encT n)≤Rows.uptoBulk d:=by
 obtain⟨fuel,hf⟩:=h
 obtain⟨zs,hr,ht,hb⟩:=trod_avb isUb types fuel 25 _ _ (by decide) hf
 obtain⟨n,hn⟩:=av_tree ht
 refine⟨n,?_,?_⟩
 ·rw [←hn]
  obtain⟨vs,rfl,_⟩:=okWide_struct Tryz.underlying25 hv
  simp only [Rv]
  exact⟨_,rfl,hr⟩
 ·rw [←hn]
  have:sb Tryz.prog 25=1:=by unfold sb;rw [Tryz.underlying25]
  rw [this] at hb
  simpa only [bulkA] using hb
theorem wantsI:Tryz.pinned.checked.prog.wantsStandIn 68=false:=by kernel_rfl
set_option maxRecDepth 1000000 in
theorem entryI {H:Type} {enc:TypeId×Value→H} {W:World} {v:Value} {d:DataW H} {p:List MemPlace} {base:Nat} (hv:Value.okWide Tryz.prog W .any base 68 v) (h:DataW.Trod enc Tryz.prog W 0 (fun _=>true) true 68 v d p) :
  ∃l:List Int,Rv St.init (G0 W) W (.sl 1 stat (intsZ l)) v∧l.length≤Rows.uptoBulk d:=by
 obtain⟨a,len,cap,rfl⟩:=okWide_slice u_ints hv
 obtain⟨fuel,hf⟩:=h
 obtain⟨zs,hr,ht,hb⟩:=trod_avb isUb types fuel 68 _ _ (by decide) hf
 obtain⟨l,rfl⟩:=av_ints ht
 have hu:(Value.slice a len cap).cells.toList=[.slice a len cap]:=rfl
 rw [hu] at hr
 simp only [Rl] at hr
 obtain⟨u,r,e1,e2,rfl⟩:=hr
 cases e1
 refine⟨l,e2,?_⟩
 have:=bulk_Is l
 simp only [bulkAs,bulkA] at hb
 omega
abbrev zeroTree:Value:=.agg #[.int .i64 0,.string .empty,.slice none 0 0,.slice none 0 0]
abbrev zeroData (H:Type):DataW H:=.agg [.lit (.int .i64 0),.lit (.string []),.nil,.nil]
abbrev zeros:Array Value:=#[zeroTree,.slice none 0 0]
theorem reads (os:Os) {H:Type} (enc:TypeId×Value→H):∃places,DataW.whole enc Tryz.prog ((laidW os).forCall (fun _ _=>0) ⟨#[],zeros,[]⟩).memory Tryz.f13.params.toList Rows.treeTurnedSpec.vars false zeros.toList 8=some ([zeroData H,.nil],[],places) :=
 ⟨[],by kernel_rfl⟩
set_option maxRecDepth 100000 in
theorem lifted (os:Os) (started:os.Started) (H:Type) (enc:TypeId×Value→H) (F:Stop.Interp) :
  ReturnsInHanded {} Tryz.checked os 13 .any ((Rows.OpenSpec.upto Rows.treeTurnedSpec).preRow enc Tryz.prog Tryz.f13 Rows.treeTurnedUptoRow.domain false Rows.treeTurnedUptoRow.laid)
   (((Rows.OpenSpec.upto Rows.treeTurnedSpec).at F).post enc Tryz.prog Tryz.f13 false true false false):=by
 obtain⟨places,hx⟩:=reads os enc
 refine returnsInHanded_of_row (C:=Tryz.checked) (s:=Rows.OpenSpec.upto Rows.treeTurnedSpec) own started (by kernel_rfl) Tryz.func13
  (witness_row_atRef (enc:=enc) (C:=Tryz.checked) false (laidW os) zeros (laidW_os _) (by kernel_rfl) (by kernel_rfl) (by kernel_rfl)
   (OpenSpec.preRow_of_cond 8 hx (by kernel_rfl) (fun k hk=>by cases hk;kernel_rfl) (by kernel_rfl) (laidW_met os _))) ?_
 intro W base args ds gs before hval0 hW _ hcond _ hL _ _
 have hval:∀(j:Nat) t v,Tryz.f13.params[j]? = some t→args[j]? = some v→Value.okWide Tryz.prog W .any base t v:=hval0
 have hW':=hW
 obtain⟨p,q,hA0,hV,rfl,hfz,hnd⟩:=hW
 have hA:DataW.TrodAll enc Tryz.prog W 0 (fun _=>true) true Tryz.f13.params.toList args.toList ds p:=hA0
 rw [Tryz.params13] at hA hval
 obtain⟨v0,v1,d0,d1,p0,p1,rfl,rfl,rfl,h0,h1⟩:=trodAll_two hA
 obtain⟨rfl,rfl⟩:=trodVars_none hV
 clear hA0 hval0
 simp only [List.append_nil] at hW'
 have hb:Rows.uptoBulkAll [d0,d1]≤1048576:=by
  have:=hcond _ rfl
  rw [List.append_nil] at this
  exact of_decide_eq_true this
 simp only [Rows.uptoBulkAll] at hb
 obtain⟨x0,hv0,hb0⟩:=entryT (hval 0 25 v0 rfl rfl) h0
 obtain⟨x1,hv1,hb1⟩:=entryI (hval 1 68 v1 rfl rfl) h1
 refine (walk (inv_of_laid hL) (law (bulk_T x0 (by omega)) (bulk_sok x0 (by omega)).1 (by have:=(bulk_sok x0 (by omega)).2;omega) (by omega)) (Rl.cons hv0 (Rl.cons hv1 Rl.nil))).mono fun e W' ⟨he,bel⟩=>?_
 subst he
 have hlt:∀x∈p0++p1,x.block<W.heap.size:=fun x hx=>hW'.lt x (by simpa only [aA] using hx)
 exact⟨_,rfl,_,_,_,[],_,[],hW',trodAll_mk1 (shut_bool Tryz.underlying4 _),
  trodAll_mk2 (Below.trod laidOut (by kernel_rfl) (of_decide_eq_true (by kernel_rfl)) h0 bel (fun x hx=>hlt x (by simp [hx]))) (Below.trod laidOut (by kernel_rfl) (of_decide_eq_true (by kernel_rfl)) h1 bel (fun x hx=>hlt x (by simp [hx]))),rfl,bel.frame _,fun h=>by cases h⟩
end Go.Proofs.YthgidapmofcloaaGreatDoor.TreeTurned
