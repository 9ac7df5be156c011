/- Trees compared: the reference's answer. A tree's text: the program's writer. The laws 'TreeCompares' and 'TreeOrder', walked. A tree's text: the program's answer. A text between quotes: the reference's answer. A tree's text: the reference's answer. The law 'TreeTexts', walked. Texts of trees, as contracts. What is read is right where little is read. How long a tree's text may be. 'emendlaw3.TreeTexts' as a contract. The row of 'emendlaw3.TreeTexts': what is read, and that the call returns true. -/
import Derived.Test.YthgidapmofcloaaGreatDoorTie
import Derived.Test.YthgidapmofcloaaGreatDoorCards
import Derived.ProofKit
import Derived.LaidMore
import Derived.OpenShut
import Derived.Carry
import Derived.Stop.Joined
import Derived.Lay
import Derived.SevenTiedAt
import Derived.Deep.DeepHandedRow
import Derived.Deep.DeepWitnessRowRef
import Derived.Test.YthgidapmofcloaaGreatDoorXo
set_option linter.unusedSimpArgs false
set_option linter.unusedVariables false
namespace Go.Dn
open Go Go.Proofs.C1
set_option maxRecDepth 100000
attribute [local irreducible] afterS keepE
section
variable {gt:GT} {C:CallT}
end

def sepB (n:Nat):List UInt8:=if n=0 then [] else [44,32]
def recB (keys texts:List (List UInt8)):Nat→List Nat→List UInt8
 | _,[]=>[]
 | n,i::r=>(sepB n++((quoteB (keys.getD i [])++[58,32])++texts.getD i []))++recB keys texts (n+1) r
def listB:Nat→List (List UInt8)→List UInt8
 | _,[]=>[]
 | n,t::r=>(sepB n++t)++listB (n+1) r
mutual
def textB:PT→List UInt8
 |.mk k s keys kids =>
  if k=1 then [110,117,108,108]
  else if k=2∨k=3 then s
  else if k=4 then quoteB s
  else if k=5 then 64::s
  else if k=6 then ([91]++listB 0 (textsB kids))++[93]
  else ([123]++recB keys (textsB kids) 0 (ordK keys))++[125]
def textsB:List PT→List (List UInt8)
 | []=>[]
 | t::r=>textB t::textsB r
end
theorem textsB_map:∀l:List PT,textsB l=l.map textB
 | []=>rfl
 | t::r=>by simp only [textsB,List.map_cons,textsB_map r]
theorem listB_snoc (t:List UInt8):∀(l:List (List UInt8)) (n:Nat),listB n (l++[t])=listB n l++(sepB (n+l.length)++t)
 | [],n=>by simp [listB]
 | a::r,n=>by simp only [List.cons_append,listB,listB_snoc t r (n+1),lC,aA];rw [show n+1+r.length=n+(r.length+1) by omega]
theorem recB_snoc {keys texts:List (List UInt8)} (i:Nat):∀(l:List Nat) (n:Nat),recB keys texts n (l++[i])=recB keys texts n l++(sepB (n+l.length)++((quoteB (keys.getD i [])++[58,32])++texts.getD i []))
 | [],n=>by simp [recB]
 | a::r,n=>by simp only [List.cons_append,recB,recB_snoc i r (n+1),lC,aA];rw [show n+1+r.length=n+(r.length+1) by omega]
def putB (acc s:List UInt8):List UInt8:=if acc.length≤65536 then acc++s else acc
def WrB (a f b:List UInt8):Prop:=b=a++f∨(65536<b.length∧65536<(a++f).length)
theorem WrB.nil (a:List UInt8):WrB a [] a:=.inl (by simp)
theorem WrB.put (a s:List UInt8):WrB a s (putB a s):=by
 unfold WrB putB
 split
 ·exact .inl rfl
 ·exact .inr ⟨by omega,by rw [lA];omega⟩
theorem WrB.trans {a f b g c:List UInt8} (h:WrB a f b) (k:WrB b g c):WrB a (f++g) c:=by
 unfold WrB at *
 rw [←aA]
 rcases h with rfl | ⟨h1,h2⟩
 ·exact k
 ·refine .inr ⟨?_,by rw [lA];omega⟩
  rcases k with rfl | ⟨k1,k2⟩
  ·rw [lA];omega
  ·exact k1
theorem putB_len {a s:List UInt8} (h:a.length≤68719476736) (k:s.length≤34359738368):(putB a s).length≤68719476736:=by
 unfold putB
 split
 ·rw [lA];omega
 ·exact h
theorem formed_text {s:List UInt8} {keys:List (List UInt8)} {kids:List PT} (h:formedB (.mk 4 s keys kids)=true):validB s=true:=by
 simp only [formedB,bA] at h
 have h2:=h.2
 unfold shapeB at h2
 rw [if_neg (by omega),if_neg (by omega),if_neg (by omega),if_pos rfl,bA] at h2
 exact h2.2
theorem formed_keys {s:List UInt8} {keys:List (List UInt8)} {kids:List PT} (h:formedB (.mk 7 s keys kids)=true):∀x∈keys,validB x=true:=by
 simp only [formedB,bA] at h
 have h2:=h.2
 unfold shapeB at h2
 rw [if_neg (by omega),if_neg (by omega),if_neg (by omega),if_neg (by omega),if_neg (by omega),if_neg (by omega),if_pos rfl,bA] at h2
 have h3:=h2.2
 rw [bA] at h3
 exact (unlike_iff.1 h3.2).1
section
variable {gt:GT} {C:CallT}
set_option maxHeartbeats 2000000 in
theorem put_wp (hm:MonoC C) (hln:∀(S:St) (id:Nat) (ty:TypeId) (acc:List UInt8),BS S id ty acc→C 48 [.ptr id 0] S fun r S'=>r=.ret (.int .i64 acc.length)∧S'=S)
  (hws:∀(S:St) (id:Nat) (ty:TypeId) (acc s:List UInt8),BS S id ty acc→acc.length+s.length<1099511627776→C 128 [.ptr id 0,.str s] S fun r S'=>r=.ret (.tup [.int .i64 s.length,.nilif])∧BS S' id ty (acc++s))
  {S:St} {id:Nat} {acc s:List UInt8} (h:BS S id 78 acc) (hl:acc.length+s.length<1099511627776) :
  wpF gt C F79 [.ptr id 0,.str s] S fun r S'=>r=.ret (.tup [])∧BS S' id 78 (putB acc s):=by
 have w1:=hln _ _ _ _ h
 have w2:=hws _ _ _ _ s h hl
 refine⟨rfl,?_⟩
 refine goW ?_
 refine call_rule (by rfl) (hm _ _ _ _ _ w1 ?_)
 rintro r S2 ⟨rfl,rfl⟩
 refine goW ?_
 unfold putB
 by_cases c:(acc.length:Int)≤65536
 ·rw [dT c,if_pos (by omega)]
  refine goW ?_
  refine call_rule (by rfl) (hm _ _ _ _ _ w2 ?_)
  rintro r S3 ⟨rfl,h⟩
  refine goW ?_
  exact⟨_,rfl,rfl,h⟩
 ·rw [dF c,if_neg (by omega)]
  refine goW ?_
  exact⟨_,rfl,rfl,h⟩
def TWC (C:CallT) (t:PT):Prop:=∀(S:St) (id:Nat) (acc:List UInt8),BS S id 78 acc→acc.length≤68719476736→C 47 [.ptr id 0,encT t] S fun r S'=>r=.ret (.tup [])∧∃acc',BS S' id 78 acc'∧acc'.length≤68719476736∧WrB acc (textB t) acc'
def PutC (C:CallT):Prop:=∀(S:St) (id:Nat) (acc s:List UInt8),BS S id 78 acc→acc.length+s.length<1099511627776→C 79 [.ptr id 0,.str s] S fun r S'=>r=.ret (.tup [])∧BS S' id 78 (putB acc s)
abbrev E_wl (id:Nat) (kids:List PT) (i:Int):Env:=[(0,.val (.ptr id 0)),(48,.val (.sl 4 stat (encTs kids))),(49,.val (.int .i64 (encTs kids).length)),(50,.val (.int .i64 i))]
abbrev E_wr (id:Nat) (t:PT) (L:List Nat) (i:Int):Env:=[(0,.val (.ptr id 0)),(3,.box (encT t).cells),(71,.val (.sl 1 stat (ints L))),(72,.val (.int .i64 (ints L).length)),(73,.val (.int .i64 i))]
set_option maxHeartbeats 16000000 in
theorem wtree_wp (hm:MonoC C) (hp:PutC C) (hq:∀s:List UInt8,s.length<4294967281→PF C 80 [.str s] (.tup [.str (if validB s=true then quoteB s else []),.int .i64 (if validB s=true then 0 else 10)]))
  (ho:∀keys:List (List UInt8),keys.Nodup→keys.length<1099511627776→PF C 64 [.sl 1 stat (strs keys)] (.sl 1 stat (ints (ordK keys))))
  {t:PT} (ih:∀u,u.n<t.n→formedB u=true→u.ok→u.sok→TWC C u) (ft:formedB t=true) (hk:t.ok) (hs:t.sok) (hn:t.n<1099511627776) {S:St} {id:Nat} {acc:List UInt8} (hb:BS S id 78 acc) (hl:acc.length≤68719476736) :
  wpF gt C F47 [.ptr id 0,encT t] S fun r S'=>r=.ret (.tup [])∧∃acc',BS S' id 78 acc'∧acc'.length≤68719476736∧WrB acc (textB t) acc':=by
 obtain⟨k,s,keys,kids⟩:=t
 have kd:=formed_kind ft
 have hvs:=fun h:k=4=>formed_text (s:=s) (keys:=keys) (kids:=kids) (by rw [←h];exact ft)
 have hvk:=fun h:k=7=>formed_keys (s:=s) (keys:=keys) (kids:=kids) (by rw [←h];exact ft)
 obtain⟨fk,f7,f6,_⟩:=formed_parts ft
 simp only [PT.ok] at hk
 obtain⟨hk1,hk2,hk3⟩:=hk
 simp only [PT.sok] at hs
 obtain⟨hs1,hs2,hs3,hs4,hs5⟩:=hs
 have l1:=encTs_len kids
 have l3:=strs_length keys
 have hf:textB (.mk k s keys kids)=if k=1 then [110,117,108,108] else if k=2∨k=3 then s else if k=4 then quoteB s else if k=5 then 64::s else if k=6 then ([91]++listB 0 (textsB kids))++[93] else ([123]++recB keys (textsB kids) 0 (ordK keys))++[125]:=by rw [textB]
 generalize hT:textB (.mk k s keys kids)=T at hf ⊢
 have out:∀{S':St} {acc':List UInt8},BS S' id 78 acc'→acc'.length≤68719476736→WrB acc T acc'→(Res.ret (.tup [])=.ret (.tup [])∧∃acc',BS S' id 78 acc'∧acc'.length≤68719476736∧WrB acc T acc'):=fun a b c=>⟨rfl,_,a,b,c⟩
 have one:∀{q:List UInt8},T=q→q.length≤34359738368→C 79 [.ptr id 0,.str q] S fun r S'=>r=.ret (.tup [])∧∃acc',BS S' id 78 acc'∧acc'.length≤68719476736∧WrB acc T acc':=fun {q} e h=>hm _ _ _ _ _ (hp S id acc q hb (by omega)) fun r S' ⟨a,b⟩=>⟨a,_,b,putB_len hl h,e ▸ WrB.put acc q⟩
 have done:∀{r:Res} {S':St},(r=.ret (.tup [])∧∃acc',BS S' id 78 acc'∧acc'.length≤68719476736∧WrB acc T acc')→r=.ret (.tup []):=fun h=>h.1
 refine⟨rfl,?_⟩
 have kc:k=1∨k=2∨k=3∨k=4∨k=5∨k=6∨k=7:=by omega
 rcases kc with rfl | rfl | rfl | rfl | rfl | rfl | rfl
 ·have w:=one (q:=[110,117,108,108]) hf (by simp)
  refine goW ?_
  refine call_rule (by rfl) (hm _ _ _ _ _ w ?_)
  rintro r S2 ⟨rfl,h⟩
  refine goW ?_
  exact⟨_,rfl,rfl,h⟩
 ·have w:=one (q:=s) hf (by omega)
  refine goW ?_
  refine call_rule (by rfl) (hm _ _ _ _ _ w ?_)
  rintro r S2 ⟨rfl,h⟩
  refine goW ?_
  exact⟨_,rfl,rfl,h⟩
 ·have w:=one (q:=s) hf (by omega)
  refine goW ?_
  refine call_rule (by rfl) (hm _ _ _ _ _ w ?_)
  rintro r S2 ⟨rfl,h⟩
  refine goW ?_
  exact⟨_,rfl,rfl,h⟩
 ·have hq:=hq s hs1
  rw [hvs rfl] at hq
  have w:=one (q:=quoteB s) hf (by have:=quoteB_len s;omega)
  refine goW ?_
  refine call_pf hm (by rfl) hq (goW ?_)
  refine call_rule (by rfl) (hm _ _ _ _ _ w ?_)
  rintro r S2 ⟨rfl,h⟩
  refine goW ?_
  exact⟨_,rfl,rfl,h⟩
 ·have w:=one (q:=64::s) hf (by simp only [lC];omega)
  refine goW ?_
  refine step_ruleO (st_addS rfl rfl (by simp only [lC,List.length_nil];omega)) (goW ?_)
  refine call_rule (by rfl) (hm _ _ _ _ _ w ?_)
  rintro r S2 ⟨rfl,h⟩
  refine goW ?_
  exact⟨_,rfl,rfl,h⟩
 ·clear one out done
  have w:=hp S id acc [91] hb (by simp;omega)
  refine goW ?_
  refine call_rule (by rfl) (hm _ _ _ _ _ w ?_)
  rintro r S2 ⟨rfl,hb2⟩
  have hb2l:=putB_len (s:=[91]) hl (by simp)
  refine goW ?_
  refine loop_rule hm (α:=Nat) (fun i env S'=>i≤kids.length∧env=E_wl id kids i∧∃acc',BS S' id 78 acc'∧acc'.length≤68719476736∧WrB acc ([91]++listB 0 ((textsB kids).take i)) acc') (fun i=>kids.length-i) ?_ (a:=0) ⟨Nat.zero_le _,rfl,_,hb2,hb2l,by simpa [listB] using WrB.put acc [91]⟩
  clear hb hb2 hb2l w
  rintro i env S' ⟨hi,rfl,acc',hb,hbl,hw⟩
  refine goW ?_
  by_cases hc:(i:Int)<(encTs kids).length
  case neg =>
   rw [dF hc]
   rw [List.take_of_length_le (by rw [textsB_map,List.length_map];omega)] at hw
   have w:=hp S' id acc' [93] hb (by simp;omega)
   refine goW ?_
   refine call_rule (by rfl) (hm _ _ _ _ _ w ?_)
   rintro r S3 ⟨rfl,hb3⟩
   refine goW ?_
   refine⟨_,rfl,rfl,_,hb3,putB_len hbl (by simp),?_⟩
   rw [hf]
   exact hw.trans (WrB.put acc' [93])
  rw [dT hc]
  have hik:i<kids.length:=by omega
  have htk:listB 0 ((textsB kids).take (i+1))=listB 0 ((textsB kids).take i)++(sepB i++textB kids[i]):=by
   rw [textsB_map,tS (by rw [List.length_map];exact hik),listB_snoc,List.getElem_map,lT,Nat.min_eq_left (by rw [List.length_map];omega),Nat.zero_add]
  have e1:=encTs_get hik
  have r1:=rdT kids[i]
  have ihk:=ih _ (kid_lt hik) (formedBs_get hik fk) (PT.oks_get hk3 (gE hik)) (PT.soks_get hik hs5)
  unfold TWC at ihk
  obtain⟨ka,sa,xa,ya,ga⟩:=encT_agg kids[i]
  rw [ga] at ihk e1 r1
  generalize textB kids[i]=tx at ihk htk
  have fin:∀{S4:St} {acc2 acc3:List UInt8},WrB acc' (sepB i) acc2→BS S4 id 78 acc3→acc3.length≤68719476736→WrB acc2 tx acc3→∃a:Nat,(a≤kids.length∧E_wl id kids ((i+1:Nat):Int)=E_wl id kids a∧∃acc',BS S4 id 78 acc'∧acc'.length≤68719476736∧WrB acc ([91]++listB 0 ((textsB kids).take a)) acc')∧kids.length-a<kids.length-i :=
   fun a b c d=>⟨i+1,⟨by omega,rfl,_,b,c,by rw [htk,←aA];exact hw.trans (a.trans d)⟩,by omega⟩
  refine goW ?_
  refine step_ruleO (sx_ia (k:=i) rfl rfl (by omega)) (goW ?_)
  refine step_ruleO (sx_ldEl (agg:=true) rfl rfl e1 r1) (goW ?_)
  by_cases z:(i:Int) > 0
  ·rw [dT z]
   have w:=hp S' id acc' [44,32] hb (by simp;omega)
   refine goW ?_
   refine call_rule (by rfl) (hm _ _ _ _ _ w ?_)
   rintro r S3 ⟨rfl,hb3⟩
   have w:=ihk S3 id _ hb3 (putB_len hbl (by simp))
   refine goW ?_
   refine call_rule (by rfl) (hm _ _ _ _ _ w ?_)
   rintro r S4 ⟨rfl,acc3,b,c,d⟩
   refine goW ?_
   rw [wrNat (by omega)]
   exact fin (by unfold sepB;rw [if_neg (by omega)];exact WrB.put _ _) b c d
  ·rw [dF z]
   have w:=ihk S' id _ hb hbl
   refine goW ?_
   refine call_rule (by rfl) (hm _ _ _ _ _ w ?_)
   rintro r S4 ⟨rfl,acc3,b,c,d⟩
   refine goW ?_
   rw [wrNat (by omega)]
   exact fin (by unfold sepB;rw [if_pos (by omega)];exact WrB.nil _) b c d
 ·clear one out done
  have hd:=(f7 rfl).2.2
  have hlk:=(f7 rfl).2.1
  have w:=hp S id acc [123] hb (by simp;omega)
  have hnl:=PT.len_nsq kids
  simp only [PT.n] at hn
  have ho:=ho keys hd (by omega)
  have hL:=@ordK_lt keys
  have hLl:=ordK_len keys
  generalize ordK keys=L at ho hL hLl hf
  have hil:=ints_len L
  refine goW ?_
  refine call_rule (by rfl) (hm _ _ _ _ _ w ?_)
  rintro r S2 ⟨rfl,hb2⟩
  have hb2l:=putB_len (s:=[123]) hl (by simp)
  refine goW ?_
  refine call_pf hm (by rfl) ho (goW ?_)
  refine loop_rule hm (α:=Nat) (fun i env S'=>i≤L.length∧env=E_wr id (.mk 7 s keys kids) L i∧∃acc',BS S' id 78 acc'∧acc'.length≤68719476736∧WrB acc ([123]++recB keys (textsB kids) 0 (L.take i)) acc') (fun i=>L.length-i) ?_ (a:=0) ⟨Nat.zero_le _,rfl,_,hb2,hb2l,by simpa [recB] using WrB.put acc [123]⟩
  clear hb hb2 hb2l w
  rintro i env S' ⟨hi,rfl,acc',hb,hbl,hw⟩
  refine goW ?_
  by_cases hc:(i:Int)<(ints L).length
  case neg =>
   rw [dF hc]
   rw [List.take_of_length_le (by omega)] at hw
   have w:=hp S' id acc' [125] hb (by simp;omega)
   refine goW ?_
   refine call_rule (by rfl) (hm _ _ _ _ _ w ?_)
   rintro r S3 ⟨rfl,hb3⟩
   refine goW ?_
   refine⟨_,rfl,rfl,_,hb3,putB_len hbl (by simp),?_⟩
   rw [hf]
   exact hw.trans (WrB.put acc' [125])
  rw [dT hc]
  have hik:i<L.length:=by omega
  have hj:=hL (List.getElem_mem hik)
  have hgi:(ints L)[i]? = some (.int .i64 (L[i]:Nat)):=ints_get (gE hik)
  have htk:recB keys (textsB kids) 0 (L.take (i+1))=recB keys (textsB kids) 0 (L.take i)++(sepB i++((quoteB (keys.getD L[i] [])++[58,32])++(textsB kids).getD L[i] [])):=by
   rw [tS hik,recB_snoc,lT,Nat.min_eq_left (by omega),Nat.zero_add]
  generalize L[i]=j at hj hgi htk
  have hjk:j<kids.length:=by omega
  have g1:keys.getD j []=keys[j]:=getD_at hj
  have g2:(textsB kids).getD j []=textB kids[j]:=by rw [getD_at (by rw [textsB_map,List.length_map];exact hjk)];simp only [textsB_map,List.getElem_map]
  rw [g1,g2] at htk
  have hkl:=hs2 keys[j] (List.getElem_mem hj)
  have hqk:=hq keys[j] hkl
  rw [hvk rfl _ (List.getElem_mem hj),if_pos rfl,if_pos rfl] at hqk
  have hql:=quoteB_len keys[j]
  have sj:=strs_at hj
  generalize keys[j]=kj at hkl hqk sj htk hql
  have e1:=encTs_get hjk
  have r1:=rdT kids[j]
  have ihk:=ih _ (kid_lt hjk) (formedBs_get hjk fk) (PT.oks_get hk3 (gE hjk)) (PT.soks_get hjk hs5)
  unfold TWC at ihk
  obtain⟨ka,sa,xa,ya,ga⟩:=encT_agg kids[j]
  rw [ga] at ihk e1 r1
  generalize textB kids[j]=tx at ihk htk
  have fin:∀{S4:St} {acc2 acc3:List UInt8},WrB acc' (sepB i) acc2→BS S4 id 78 acc3→acc3.length≤68719476736→WrB (putB acc2 (quoteB kj++[58,32])) tx acc3→∃a:Nat,(a≤L.length∧E_wr id (.mk 7 s keys kids) L ((i+1:Nat):Int)=E_wr id (.mk 7 s keys kids) L a∧∃acc',BS S4 id 78 acc'∧acc'.length≤68719476736∧WrB acc ([123]++recB keys (textsB kids) 0 (L.take a)) acc')∧L.length-a<L.length-i :=
   fun a b c d=>⟨i+1,⟨by omega,rfl,_,b,c,by rw [htk,←aA];exact hw.trans (a.trans ((WrB.put _ _).trans d))⟩,by omega⟩
  refine goW ?_
  refine step_ruleO (sx_ia (k:=i) rfl rfl (by omega)) (goW ?_)
  refine step_ruleO (sx_ldEl (agg:=false) rfl rfl hgi rfl) (goW ?_)
  by_cases z:(i:Int) > 0
  case' pos =>
   rw [dT z]
   have w:=hp S' id acc' [44,32] hb (by simp;omega)
   refine goW ?_
   refine call_rule (by rfl) (hm _ _ _ _ _ w ?_)
   rintro r S3 ⟨rfl,hb3⟩
   have hbl3:=putB_len (s:=[44,32]) hbl (by simp)
   have sp:WrB acc' (sepB i) (putB acc' [44,32]):=by unfold sepB;rw [if_neg (by omega)];exact WrB.put _ _
   generalize putB acc' [44,32]=acc2 at hb3 hbl3 sp
  case' neg =>
   rw [dF z]
   have hb3:=hb
   have hbl3:=hbl
   have sp:WrB acc' (sepB i) acc':=by unfold sepB;rw [if_pos (by omega)];exact WrB.nil _
  all_goals
   refine goW ?_
   refine step_ruleO (sx_ia (k:=j) rfl rfl (by omega)) (goW ?_)
   refine step_ruleO (sx_ldEl (agg:=false) rfl rfl sj rfl) (goW ?_)
   refine call_pf hm (by rfl) hqk (goW ?_)
   refine step_ruleO (st_addS rfl rfl (by simp only [lC,List.length_nil];omega)) ?_
   have w:=hp _ id _ (quoteB kj++[58,32]) hb3 (by simp only [lA,lC,List.length_nil];omega)
   refine goW ?_
   refine call_rule (by rfl) (hm _ _ _ _ _ w ?_)
   rintro r S5 ⟨rfl,hb5⟩
   have w:=ihk S5 id _ hb5 (putB_len hbl3 (by simp only [lA,lC,List.length_nil];omega))
   refine goW ?_
   refine step_ruleO (sx_ia (k:=j) rfl rfl (by omega)) (goW ?_)
   refine step_ruleO (sx_ldEl (agg:=true) rfl rfl e1 r1) (goW ?_)
   refine call_rule (by rfl) (hm _ _ _ _ _ w ?_)
   rintro r S4 ⟨rfl,acc3,b,c,d⟩
   refine goW ?_
   rw [wrNat (by omega)]
   exact fin sp b c d
end

section
variable {gt:GT} {C:CallT}
theorem right_formed {t:PT} (h:rightB t=0):formedB t=true:=by
 unfold rightB at h
 split at h
 ·cases h
 ·split at h
  ·cases h
  ·split at h
   ·assumption
   ·cases h
end

theorem norm_ne {s:List UInt8} (h:(normB s).2=0):(normB s).1≠[]:=by
 obtain⟨_,e⟩:=norm_split h
 rw [e] at h ⊢
 generalize (splitB s).1=p at h
 intro e
 unfold joinB at h e
 by_cases z1:runB p.2.1<p.2.1.length∨(hd 48 p.2.1=true∨tl 48 p.2.1=true)∨(p.2.1=[]∧(p.2.2≠0∨p.1=true))
 ·rw [if_pos z1] at h;cases h
 rw [if_neg z1] at h e
 by_cases z2:p.2.2 < -999999∨999999<p.2.2
 ·rw [if_pos z2] at h;cases h
 rw [if_neg z2] at h e
 by_cases z3:p.2.1=[]
 ·rw [if_pos z3] at e;cases e
 rw [if_neg z3] at h e
 have key:((if p.1=true then [45]++p.2.1 else p.2.1)++(if p.2.2=0 then [] else [101]++itoaB p.2.2))≠[]:=by
  intro q
  have q:=(List.append_eq_nil_iff.1 q).1
  split at q
  ·cases q
  ·exact z3 q
 generalize ((if p.1=true then [45]++p.2.1 else p.2.1)++(if p.2.2=0 then [] else [101]++itoaB p.2.2))=w at h e key
 by_cases z4:1000<w.length
 ·rw [if_pos z4] at h;cases h
 ·rw [if_neg z4] at e;exact key e
theorem textB_ne {t:PT} (h:formedB t=true):textB t≠[]:=by
 obtain⟨k,s,keys,kids⟩:=t
 have kd:=formed_kind h
 have kc:k=1∨k=2∨k=3∨k=4∨k=5∨k=6∨k=7:=by omega
 rw [textB]
 rcases kc with rfl | rfl | rfl | rfl | rfl | rfl | rfl
 ·simp
 ·simp only [formedB,bA] at h
  have h2:=h.2
  unfold shapeB at h2
  rw [if_neg (by omega),if_pos rfl,bA,Bool.or_eq_true] at h2
  rw [if_neg (by omega),if_pos (.inl rfl)]
  rcases h2.2 with e | e<;>rw [beqB_iff.1 e]<;>simp
 ·obtain⟨a,b⟩:=formed_num h
  rw [if_neg (by omega),if_pos (.inr rfl),←b]
  exact norm_ne a
 ·rw [if_neg (by omega),if_neg (by omega),if_pos rfl];simp [quoteB]
 ·rw [if_neg (by omega),if_neg (by omega),if_neg (by omega),if_pos rfl];simp
 ·rw [if_neg (by omega),if_neg (by omega),if_neg (by omega),if_neg (by omega),if_pos rfl];simp
 ·rw [if_neg (by omega),if_neg (by omega),if_neg (by omega),if_neg (by omega),if_neg (by omega)];simp
def textR (t:PT):List UInt8×Int:=if rightB t=0 then (if 65536<(textB t).length then ([],2) else (textB t,0)) else ([],rightB t)
theorem WrB.end {f b:List UInt8} (h:WrB [] f b):(65536<b.length↔65536<f.length)∧(¬65536<f.length→b=f):=by
 unfold WrB at h
 rw [List.nil_append] at h
 rcases h with rfl | ⟨a,c⟩
 ·exact⟨Iff.rfl,fun _=>rfl⟩
 ·exact⟨⟨fun _=>c,fun _=>a⟩,fun h=>absurd c h⟩
section
variable {gt:GT} {C:CallT}
set_option maxHeartbeats 4000000 in
theorem tText_wp (hm:MonoC C) {t:PT} (hr:PF C 16 [encT t] (.int .i64 (rightB t))) (hw:formedB t=true→TWC C t)
  (hln:∀(S:St) (id:Nat) (ty:TypeId) (acc:List UInt8),BS S id ty acc→C 48 [.ptr id 0] S fun r S'=>r=.ret (.int .i64 acc.length)∧S'=S)
  (hst:∀(S:St) (id:Nat) (ty:TypeId) (acc:List UInt8),BS S id ty acc→acc≠[]→acc.length≤17592186044416→C 49 [.ptr id 0] S fun r S'=>r=.ret (.str acc)) :
  wpF gt C F15 [encT t] St.init (Ret (.tup [.str (textR t).1,.int .i64 (textR t).2])):=by
 have ret:∀{o:List UInt8×Int} {S:St},textR t=o→Ret (.tup [.str (textR t).1,.int .i64 (textR t).2]) (.ret (.tup [.str o.1,.int .i64 o.2])) S:=fun h=>by rw [h];exact Ret.sta ⟨trivial,trivial,trivial⟩
 have hf:textR t=if rightB t=0 then (if 65536<(textB t).length then ([],2) else (textB t,0)) else ([],rightB t):=rfl
 have fm:=right_formed (t:=t)
 have ne:=textB_ne (t:=t)
 generalize textR t=res at ret hf ⊢
 generalize rightB t=e at hr hf fm
 unfold TWC at hw
 generalize textB t=tx at hf hw ne
 obtain⟨ka,sa,xa,ya,ga⟩:=encT_agg t
 rw [ga] at hr hw ⊢
 refine⟨rfl,?_⟩
 refine goW ?_
 refine call_pf hm (by rfl) hr (goW ?_)
 by_cases z:e=0
 case neg =>
  rw [neI_true z]
  rw [if_neg z] at hf
  refine goW ?_
  exact⟨_,rfl,ret hf⟩
 rw [neI_false z]
 rw [if_pos z] at hf
 have hb:=hs_newB 78 (.inr rfl)
 have w:=hw (fm z) _ 0 [] hb (by simp)
 refine goW ?_
 refine call_rule (by rfl) (hm _ _ _ _ _ w ?_)
 rintro r S2 ⟨rfl,acc,hb,hl,hr⟩
 obtain⟨e1,e2⟩:=hr.end
 have w:=hln _ _ _ _ hb
 refine goW ?_
 refine call_rule (by rfl) (hm _ _ _ _ _ w ?_)
 rintro r S3 ⟨rfl,rfl⟩
 refine goW ?_
 by_cases c:(acc.length:Int) > 65536
 ·rw [dT c]
  rw [if_pos (e1.1 (by omega))] at hf
  refine goW ?_
  exact⟨_,rfl,ret hf⟩
 rw [dF c]
 have c2:¬65536<tx.length:=fun h=>c (by have:=e1.2 h;omega)
 rw [if_neg c2] at hf
 obtain rfl:=e2 c2
 have w:=hst _ _ _ _ hb (ne (fm z)) (by omega)
 refine goW ?_
 refine call_rule (by rfl) (hm _ _ _ _ _ w ?_)
 rintro r S4 rfl
 refine goW ?_
 exact⟨_,rfl,ret hf⟩
end

def OwB (S:St) (o:SI) (acc:List UInt8):Prop:=Hs S [.gr 5 o (ofBytes acc)]∨(Hs S []∧o.cap=some acc.length∧rd S o=.here)
theorem OwB.bldT {S:St} {o:SI} {acc:List UInt8} (h:OwB S o acc) (n:Nat):OwB { S with nt:=S.nt+1,tip:=(S.nt,some (n,5,false))::S.tip } o acc ∧
  ∀(agg:Bool) (es:Nat) (xs:List AV),srcE { S with nt:=S.nt+1,tip:=(S.nt,some (n,5,false))::S.tip } agg es (.sl es ⟨some (S.nt,S.nt),0,some n,false⟩ xs)=some xs:=by
 rcases h with h | ⟨h,h1,h2⟩
 ·exact⟨.inl (h.bldT 5 n).1,(h.bldT 5 n).2⟩
 ·exact⟨.inr ⟨(h.bldT 5 n).1,h1,h2⟩,(h.bldT 5 n).2⟩
theorem ow_app {gt:GT} {d:Option Nat} {env:Env} {S:St} {x y:DOpd} {o:SI} {acc ys:List UInt8} {yv:AV} (h:OwB S o acc) (hx:opd env x=some (.sl 1 o (ofBytes acc))) (hy:opd env y=some yv) (hys:srcE S false 1 yv=some (ofBytes ys)) (h0:ys≠[]) (hl:acc.length+ys.length≤140737488355328) :
  ∃o' S',stepO gt d env S (.app false 5 1 1 x y)=.done (putV d (.sl 1 o' (ofBytes (acc++ys))) env) S'∧Hs S' [.gr 5 o' (ofBytes (acc++ys))]:=by
 have l1:=ofBytes_len acc
 have l2:=ofBytes_len ys
 rcases h with h | ⟨h,h1,h2⟩
 ·obtain⟨o',S',a,b⟩:=hs_app (gt:=gt) (d:=d) (bytes:=1) h 0 rfl hx hy hys (by omega) (by omega) (by decide) (by decide) (ofBytes_ok ys)
  rw [←ofBytes_app] at a b
  exact⟨o',S',a,b⟩
 ·obtain⟨c,r,rfl⟩:=List.exists_cons_of_ne_nil h0
  have hel:elems S false 1 o (ofBytes acc)=some (ofBytes acc):=by simp only [elems,h2]
  have hc:ofBytes (c::r)=.int .u8 c.toNat::ofBytes r:=rfl
  rw [hc] at hys l2
  have hguard:(Nat.beq 1 1 && (Nat.ble (((ofBytes acc).length+(AV.int .u8 c.toNat::ofBytes r).length)*1) 140737488355328 && (Nat.ble ((ofBytes acc).length+(AV.int .u8 c.toNat::ofBytes r).length) 140737488355328 && (Nat.ble 1 1048576 && Nat.blt 0 1))))=true:=by
   rw [Nat.mul_one,Nat.ble_eq_true_of_le (show (ofBytes acc).length+(AV.int .u8 c.toNat::ofBytes r).length≤140737488355328 by omega)];rfl
  have hz:Nat.ble ((ofBytes acc).length+(AV.int .u8 c.toNat::ofBytes r).length) acc.length=false:=by
   cases hq:Nat.ble ((ofBytes acc).length+(AV.int .u8 c.toNat::ofBytes r).length) acc.length with
   | false=>rfl
   | true=>have:=Nat.le_of_ble_eq_true hq;simp only [lC] at this;omega
  have hw:=h.wf S.nt (Nat.le_refl _)
  refine⟨⟨some (S.nt,S.nt),0,none,false⟩,{ S with nt:=S.nt+1,tip:=(S.nt,some ((ofBytes acc).length+(AV.int .u8 c.toNat::ofBytes r).length,5,false))::S.tip },?_,?_⟩
  ·simp only [stepO,hx,hy,appV,hys,hel,hguard,cond_true,h1,hz,cond_false]
   rw [ofBytes_app,hc]
  ·have:=h.more (S':={ S with nt:=S.nt+1,tip:=(S.nt,some ((ofBytes acc).length+(AV.int .u8 c.toNat::ofBytes r).length,5,false))::S.tip }) (r':=.gr 5 ⟨some (S.nt,S.nt),0,none,false⟩ (ofBytes (acc++c::r))) (fun t ht=>h.wf t (by simp only at ht;omega)) ⟨Nat.le_succ _,Nat.le_refl _,Nat.le_refl _,fun t ht _=>⟨lk_ne _ _ (by omega),rfl⟩,fun _ _ _=>rfl,fun _ _ _ h=>h,fun _ _ _=>rfl,fun _ _ _=>rfl⟩
    (.inr ⟨S.nt,S.nt,rfl,Nat.lt_succ_self _,Nat.lt_succ_self _,by rw [lk_same,ofBytes_app,lA];rfl,hw.1,hw.2⟩) fun j s hs=>by simp at hs
   exact this
section
variable {gt:GT} {C:CallT}
theorem r_appB {d:Option Nat} {env:Env} {S:St} {x y:DOpd} {o:SI} {acc ys:List UInt8} {yv:AV} {gd:Option (Nat×Bool)} {K:Env→St→Prop} {Q:Ex→Env→St→Prop} (h:OwB S o acc) (hg:Gd env gd) (hx:opd env x=some (.sl 1 o (ofBytes acc))) (hy:opd env y=some yv) (hys:srcE S false 1 yv=some (ofBytes ys)) (h0:ys≠[]) (hl:acc.length+ys.length≤140737488355328)
  (k:∀o' S',Hs S' [.gr 5 o' (ofBytes (acc++ys))]→K (putV d (.sl 1 o' (ofBytes (acc++ys))) env) S'):afterS C d env S K Q (stepI gt ⟨d,.app false 5 1 1 x y,gd⟩ env S):=by
 obtain⟨o',S',e,h'⟩:=ow_app (gt:=gt) (d:=d) h hx hy hys h0 hl
 exact st_any hg e (k o' S' h')
abbrev E_qr (s:List UInt8) (o:SI) (acc:List UInt8) (i:Int):Env:=[(0,.val (.str s)),(3,.val (.sl 1 o (ofBytes acc))),(4,.val (.int .i64 i))]
set_option maxHeartbeats 16000000 in
theorem quoteR_wp (hm:MonoC C) (hh:∀n:Nat,n<16→PF C 151 [.int .i64 n] (.int .u8 (hexB n).toNat)) {s:List UInt8} (hl:s.length<4294967281):wpF gt C F115 [.str s] St.init (Ret (.str (quoteB s))):=by
 refine⟨rfl,?_⟩
 refine goW ?_
 have hb0:OwB { St.init with nt:=St.init.nt+1,tip:=(St.init.nt,some (1,5,false))::St.init.tip } ⟨some (St.init.nt,St.init.nt),0,some 1,false⟩ (34::escs (s.take 0)):=.inr ⟨(Hs.init.bldT 5 1).1,rfl,rfl⟩
 refine loop_rule hm (α:=Nat) (fun i env S'=>i≤s.length∧∃o,OwB S' o (34::escs (s.take i))∧env=E_qr s o (34::escs (s.take i)) i) (fun i=>s.length-i) ?_ (a:=0) ⟨Nat.zero_le _,_,hb0,rfl⟩
 clear hb0
 rintro i env S' ⟨hi,o,hb,rfl⟩
 have hal:=escs_len (s.take i)
 rw [lT] at hal
 refine goW ?_
 by_cases hc:(i:Int)<(s.length:Nat)
 case neg =>
  rw [dF hc]
  obtain rfl:i=s.length:=by omega
  rw [List.take_length] at hb hal ⊢
  refine goW ?_
  obtain⟨hb,hsrc⟩:=hb.bldT 1
  refine r_appB hb (by trivial) rfl rfl (ys:=[34]) (hsrc _ _ _) (by simp) (by simp only [lC,List.length_nil];omega) ?_
  intro o3 S3 h3
  refine goW ?_
  refine step_ruleO (sx_cvBS rfl ((h3.ok 0 _ rfl).els _ _) (bytes_of _)) (goW ?_)
  exact⟨_,rfl,Ret.sta trivial⟩
 rw [dT hc]
 have hik:i<s.length:=by omega
 have hbt:=u8_lt s[i]
 have hnx:34::escs (s.take (i+1))=(34::escs (s.take i))++escB s[i]:=by rw [tS hik,escs_app];simp [escs]
 have hgt:=gE hik
 have hsf:shortB s[i]=if s[i]=34∨s[i]=92 then s[i] else if s[i]=8 then 98 else if s[i]=9 then 116 else if s[i]=10 then 110 else if s[i]=12 then 102 else if s[i]=13 then 114 else 0:=rfl
 have hle:escB s[i]=if shortB s[i]≠0 then [92,shortB s[i]] else if s[i].toNat<32∨s[i]=127 then [92,117,48,48,hexB (s[i].toNat / 16),hexB (s[i].toNat % 16)] else [s[i]]:=rfl
 have hacc:(34::escs (s.take i)).length<549755813888:=by simp only [lC];omega
 have fin:∀{o3:SI} {S3:St} {es:List UInt8},escB s[i]=es→Hs S3 [.gr 5 o3 (ofBytes ((34::escs (s.take i))++es))]→∃a:Nat,(a≤s.length∧∃o,OwB S3 o (34::escs (s.take a))∧E_qr s o3 ((34::escs (s.take i))++es) ((i+1:Nat):Int)=E_qr s o (34::escs (s.take a)) a)∧s.length-a<s.length-i:=fun e h=>by
  subst e
  rw [←hnx] at h ⊢
  exact⟨i+1,⟨by omega,_,.inl h,rfl⟩,by omega⟩
 clear hnx
 generalize 34::escs (s.take i)=acc at hb hacc fin
 generalize s[i]=b at hgt hsf hle hbt fin
 generalize escB b=eb at hle fin
 generalize shortB b=sb at hsf hle
 have d1:=hh (b.toNat / 16) (by omega)
 have d2:=hh (b.toNat % 16) (by omega)
 have q1:wr .i64 ((wr .i64 (b.toNat:Int)).tdiv 16)=((b.toNat / 16:Nat):Int):=by
  rw [wr64 (n:=(b.toNat:Int)) (by omega) (by omega),Int.tdiv_eq_ediv_of_nonneg (by omega),wr64 (by omega) (by omega)];omega
 have q2:(wr .i64 (b.toNat:Int)).tmod 16=((b.toNat % 16:Nat):Int):=by
  rw [wr64 (n:=(b.toNat:Int)) (by omega) (by omega),Int.tmod_eq_emod_of_nonneg (by omega)];omega
 refine goW ?_
 refine step_ruleO (sx_ixS (k:=i) rfl rfl hgt) (goW ?_)
 by_cases h1:b=34
 ·rw [eqI_true (show (b.toNat:Int)=34 by rw [h1];rfl)]
  have e2:sb=b:=by rw [hsf,if_pos (.inl h1)]
  have e:eb=[92,b]:=by rw [hle,e2,if_pos (by rw [h1];decide)]
  refine goW ?_
  obtain⟨hb,hsrc⟩:=hb.bldT 2
  refine r_appB hb (by trivial) rfl rfl (ys:=[92,b]) (hsrc _ _ _) (by simp) (by simp only [lC,List.length_nil];omega) ?_
  intro o3 S3 h3
  refine goW ?_
  rw [wrNat (by omega)]
  exact fin e h3
 rw [eqI_false (b_ne (n:=34) h1 rfl)]
 refine goW ?_
 by_cases h2:b=92
 ·rw [eqI_true (show (b.toNat:Int)=92 by rw [h2];rfl)]
  have e2:sb=b:=by rw [hsf,if_pos (.inr h2)]
  have e:eb=[92,b]:=by rw [hle,e2,if_pos (by rw [h2];decide)]
  refine goW ?_
  obtain⟨hb,hsrc⟩:=hb.bldT 2
  refine r_appB hb (by trivial) rfl rfl (ys:=[92,b]) (hsrc _ _ _) (by simp) (by simp only [lC,List.length_nil];omega) ?_
  intro o3 S3 h3
  refine goW ?_
  rw [wrNat (by omega)]
  exact fin e h3
 rw [eqI_false (b_ne (n:=92) h2 rfl)]
 rw [if_neg (by rintro (h | h);exact h1 h;exact h2 h)] at hsf
 refine goW ?_
 by_cases h3:b=8
 ·rw [eqI_true (show (b.toNat:Int)=8 by rw [h3];rfl)]
  have e2:sb=98:=by rw [hsf,if_pos h3]
  have e:eb=[92,98]:=by rw [hle,e2,if_pos (by decide)]
  refine goW ?_
  obtain⟨hb,hsrc⟩:=hb.bldT 2
  refine r_appB hb (by trivial) rfl rfl (ys:=[92,98]) (hsrc _ _ _) (by simp) (by simp only [lC,List.length_nil];omega) ?_
  intro o3 S3 h3
  refine goW ?_
  rw [wrNat (by omega)]
  exact fin e h3
 rw [eqI_false (b_ne (n:=8) h3 rfl)]
 rw [if_neg h3] at hsf
 refine goW ?_
 by_cases h4:b=9
 ·rw [eqI_true (show (b.toNat:Int)=9 by rw [h4];rfl)]
  have e2:sb=116:=by rw [hsf,if_pos h4]
  have e:eb=[92,116]:=by rw [hle,e2,if_pos (by decide)]
  refine goW ?_
  obtain⟨hb,hsrc⟩:=hb.bldT 2
  refine r_appB hb (by trivial) rfl rfl (ys:=[92,116]) (hsrc _ _ _) (by simp) (by simp only [lC,List.length_nil];omega) ?_
  intro o3 S3 h3
  refine goW ?_
  rw [wrNat (by omega)]
  exact fin e h3
 rw [eqI_false (b_ne (n:=9) h4 rfl)]
 rw [if_neg h4] at hsf
 refine goW ?_
 by_cases h5:b=10
 ·rw [eqI_true (show (b.toNat:Int)=10 by rw [h5];rfl)]
  have e2:sb=110:=by rw [hsf,if_pos h5]
  have e:eb=[92,110]:=by rw [hle,e2,if_pos (by decide)]
  refine goW ?_
  obtain⟨hb,hsrc⟩:=hb.bldT 2
  refine r_appB hb (by trivial) rfl rfl (ys:=[92,110]) (hsrc _ _ _) (by simp) (by simp only [lC,List.length_nil];omega) ?_
  intro o3 S3 h3
  refine goW ?_
  rw [wrNat (by omega)]
  exact fin e h3
 rw [eqI_false (b_ne (n:=10) h5 rfl)]
 rw [if_neg h5] at hsf
 refine goW ?_
 by_cases h6:b=12
 ·rw [eqI_true (show (b.toNat:Int)=12 by rw [h6];rfl)]
  have e2:sb=102:=by rw [hsf,if_pos h6]
  have e:eb=[92,102]:=by rw [hle,e2,if_pos (by decide)]
  refine goW ?_
  obtain⟨hb,hsrc⟩:=hb.bldT 2
  refine r_appB hb (by trivial) rfl rfl (ys:=[92,102]) (hsrc _ _ _) (by simp) (by simp only [lC,List.length_nil];omega) ?_
  intro o3 S3 h3
  refine goW ?_
  rw [wrNat (by omega)]
  exact fin e h3
 rw [eqI_false (b_ne (n:=12) h6 rfl)]
 rw [if_neg h6] at hsf
 refine goW ?_
 by_cases h7:b=13
 ·rw [eqI_true (show (b.toNat:Int)=13 by rw [h7];rfl)]
  have e2:sb=114:=by rw [hsf,if_pos h7]
  have e:eb=[92,114]:=by rw [hle,e2,if_pos (by decide)]
  refine goW ?_
  obtain⟨hb,hsrc⟩:=hb.bldT 2
  refine r_appB hb (by trivial) rfl rfl (ys:=[92,114]) (hsrc _ _ _) (by simp) (by simp only [lC,List.length_nil];omega) ?_
  intro o3 S3 h3
  refine goW ?_
  rw [wrNat (by omega)]
  exact fin e h3
 rw [eqI_false (b_ne (n:=13) h7 rfl)]
 rw [if_neg h7] at hsf
 refine goW ?_
 rw [hsf,if_neg (by simp)] at hle
 by_cases z2:b.toNat<32∨b=127
 ·rw [if_pos z2] at hle
  by_cases c1:(b.toNat:Int)<32
  case' pos=>rw [dT c1]
  case' neg =>
   rw [dF c1]
   refine goW ?_
   rw [eqI_true (show (b.toNat:Int)=127 by rcases z2 with h | h;omega;rw [h];rfl)]
  all_goals
   refine goW ?_
   rw [q1]
   refine call_pf hm (by rfl) d1 (goW ?_)
   rw [q2]
   refine call_pf hm (by rfl) d2 (goW ?_)
   obtain⟨hb,hsrc⟩:=hb.bldT 6
   refine r_appB hb (by trivial) rfl rfl (ys:=[92,117,48,48,hexB (b.toNat / 16),hexB (b.toNat % 16)]) (hsrc _ _ _) (by simp) (by simp only [lC,List.length_nil];omega) ?_
   intro o3 S3 h3
   refine goW ?_
   rw [wrNat (by omega)]
   exact fin hle h3
 rw [if_neg z2] at hle
 rw [dF (show ¬(b.toNat:Int)<32 by omega)]
 refine goW ?_
 rw [eqI_false (b_ne (n:=127) (fun h=>z2 (.inr h)) rfl)]
 refine goW ?_
 obtain⟨hb,hsrc⟩:=hb.bldT 1
 refine r_appB hb (by trivial) rfl rfl (ys:=[b]) (hsrc _ _ _) (by simp) (by simp only [lC,List.length_nil];omega) ?_
 intro o3 S3 h3
 refine goW ?_
 rw [wrNat (by omega)]
 exact fin hle h3
end

theorem gw_app {gt:GT} {d:Option Nat} {env:Env} {S:St} {x y:DOpd} {o:SI} {acc ys:List UInt8} {yv:AV} (h:Hs S [.gr 5 o (ofBytes acc)]) (hx:opd env x=some (.sl 1 o (ofBytes acc))) (hy:opd env y=some yv) (hys:srcE S false 1 yv=some (ofBytes ys)) (hl:acc.length+ys.length≤140737488355328) :
  ∃o' S',stepO gt d env S (.app false 5 1 1 x y)=.done (putV d (.sl 1 o' (ofBytes (acc++ys))) env) S'∧Hs S' [.gr 5 o' (ofBytes (acc++ys))]:=by
 have l1:=ofBytes_len acc
 have l2:=ofBytes_len ys
 obtain⟨o',S',a,b⟩:=hs_app (gt:=gt) (d:=d) (bytes:=1) h 0 rfl hx hy hys (by omega) (by omega) (by decide) (by decide) (ofBytes_ok ys)
 rw [←ofBytes_app] at a b
 exact⟨o',S',a,b⟩
section
variable {gt:GT} {C:CallT}
theorem r_appG {d:Option Nat} {env:Env} {S:St} {x y:DOpd} {o:SI} {acc ys:List UInt8} {yv:AV} {gd:Option (Nat×Bool)} {K:Env→St→Prop} {Q:Ex→Env→St→Prop} (h:Hs S [.gr 5 o (ofBytes acc)]) (hg:Gd env gd) (hx:opd env x=some (.sl 1 o (ofBytes acc))) (hy:opd env y=some yv) (hys:srcE S false 1 yv=some (ofBytes ys)) (hl:acc.length+ys.length≤140737488355328)
  (k:∀o' S',Hs S' [.gr 5 o' (ofBytes (acc++ys))]→K (putV d (.sl 1 o' (ofBytes (acc++ys))) env) S'):afterS C d env S K Q (stepI gt ⟨d,.app false 5 1 1 x y,gd⟩ env S):=by
 obtain⟨o',S',e,h'⟩:=gw_app (gt:=gt) (d:=d) h hx hy hys hl
 exact st_any hg e (k o' S' h')
theorem r_appGD {l:Option Nat} {d:Option Nat} {env:Env} {S:St} {x y:DOpd} {o:SI} {acc ys:List UInt8} {yv:AV} {gd:Option (Nat×Bool)} {K:Env→St→Prop} {Q:Ex→Env→St→Prop} (h:Hs S [.gr 5 o (ofBytes acc)]) (hg:Gd env gd) (hx:opd env x=some (.sl 1 o (ofBytes acc))) (hy:opd env y=some yv) (hys:srcE S false 1 yv=some (ofBytes ys)) (hl:acc.length+ys.length≤140737488355328)
  (k:∀o' S',Hs S' [.gr 5 o' (ofBytes (acc++ys))]→K (putV d (.sl 1 o' (ofBytes (acc++ys))) env) S'):afterS C d env S K Q (stepD gt (⟨d,.app false 5 1 1 x y,gd⟩,l) env S):=by
 obtain⟨o',S',e,h'⟩:=gw_app (gt:=gt) (d:=d) h hx hy hys hl
 exact st_anyD hg rfl rfl e (k o' S' h')
end
def WrC (a f b:List UInt8):Prop:=WrB a f b∧b.length≤a.length+f.length
theorem WrC.nil (a:List UInt8):WrC a [] a:=⟨WrB.nil a,by simp⟩
theorem WrC.app (a f:List UInt8):WrC a f (a++f):=⟨.inl rfl,by simp⟩
theorem WrC.trans {a f b g c:List UInt8} (h:WrC a f b) (k:WrC b g c):WrC a (f++g) c:=⟨h.1.trans k.1,by have:=h.2;have:=k.2;rw [lA];omega⟩
theorem listB_app:∀(a b:List (List UInt8)) (n:Nat),listB n (a++b)=listB n a++listB (n+a.length) b
 | [],b,n=>by simp [listB]
 | x::r,b,n=>by simp only [List.cons_append,listB,listB_app r b (n+1),lC,aA];rw [show n+1+r.length=n+(r.length+1) by omega]
theorem recB_app {keys texts:List (List UInt8)}:∀(a b:List Nat) (n:Nat),recB keys texts n (a++b)=recB keys texts n a++recB keys texts (n+a.length) b
 | [],b,n=>by simp [recB]
 | x::r,b,n=>by simp only [List.cons_append,recB,recB_app r b (n+1),lC,aA];rw [show n+1+r.length=n+(r.length+1) by omega]
theorem listB_le (l:List (List UInt8)) (i n:Nat):(listB n (l.take i)).length≤(listB n l).length:=by
 have:=listB_app (l.take i) (l.drop i) n
 rw [tkD] at this
 rw [this,lA];omega
theorem recB_le {keys texts:List (List UInt8)} (l:List Nat) (i n:Nat):(recB keys texts n (l.take i)).length≤(recB keys texts n l).length:=by
 have:=recB_app (keys:=keys) (texts:=texts) (l.take i) (l.drop i) n
 rw [tkD] at this
 rw [this,lA];omega
def TRC (C:CallT) (t:PT):Prop:=∀(S:St) (o:SI) (acc:List UInt8),Hs S [.gr 5 o (ofBytes acc)]→acc.length+(textB t).length≤140737488355328→C 68 [.sl 1 o (ofBytes acc),encT t] S fun r S'=>∃o' acc',r=.ret (.sl 1 o' (ofBytes acc'))∧Hs S' [.gr 5 o' (ofBytes acc')]∧WrC acc (textB t) acc'
section
variable {gt:GT} {C:CallT}
abbrev E_xl (t:PT) (o:SI) (acc:List UInt8) (i:Int):Env:=[(0,.val (.sl 1 o (ofBytes acc))),(3,.box (encT t).cells),(5,.val (.int .i64 i))]
abbrev E_xr (t:PT) (o:SI) (acc:List UInt8) (L:List Nat) (i:Int):Env:=[(0,.val (.sl 1 o (ofBytes acc))),(3,.box (encT t).cells),(6,.val (.sl 1 stat (ints L))),(7,.val (.int .i64 i))]
set_option maxHeartbeats 16000000 in
theorem xtext_wp (hm:MonoC C) (hq:∀s:List UInt8,s.length<4294967281→PF C 115 [.str s] (.str (quoteB s)))
  (ho:∀keys:List (List UInt8),keys.Nodup→keys.length<1099511627776→PF C 65 [.sl 1 stat (strs keys)] (.sl 1 stat (ints (ordK keys))))
  {t:PT} (ih:∀u,u.n<t.n→formedB u=true→u.ok→u.sok→TRC C u) (ft:formedB t=true) (hk:t.ok) (hs:t.sok) (hn:t.n<1099511627776) {S:St} {o:SI} {acc:List UInt8} (hb:Hs S [.gr 5 o (ofBytes acc)]) (hl:acc.length+(textB t).length≤140737488355328) :
  wpF gt C F68 [.sl 1 o (ofBytes acc),encT t] S fun r S'=>∃o' acc',r=.ret (.sl 1 o' (ofBytes acc'))∧Hs S' [.gr 5 o' (ofBytes acc')]∧WrC acc (textB t) acc':=by
 obtain⟨k,s,keys,kids⟩:=t
 have kd:=formed_kind ft
 obtain⟨fk,f7,f6,_⟩:=formed_parts ft
 simp only [PT.ok] at hk
 obtain⟨hk1,hk2,hk3⟩:=hk
 simp only [PT.sok] at hs
 obtain⟨hs1,hs2,hs3,hs4,hs5⟩:=hs
 have l1:=encTs_len kids
 have l3:=strs_length keys
 have l0:=ofBytes_len acc
 have hf:textB (.mk k s keys kids)=if k=1 then [110,117,108,108] else if k=2∨k=3 then s else if k=4 then quoteB s else if k=5 then 64::s else if k=6 then ([91]++listB 0 (textsB kids))++[93] else ([123]++recB keys (textsB kids) 0 (ordK keys))++[125]:=by rw [textB]
 generalize textB (.mk k s keys kids)=T at hf hl ⊢
 refine⟨rfl,?_⟩
 refine goW ?_
 by_cases big:((ofBytes acc).length:Int) > 65536
 ·rw [dT big]
  refine goW ?_
  exact⟨_,rfl,o,acc,rfl,hb,.inr ⟨by omega,by rw [lA];omega⟩,by omega⟩
 rw [dF big]
 have one:∀{S':St} {o':SI} {q:List UInt8},T=q→Hs S' [.gr 5 o' (ofBytes (acc++q))]→(∃o2 acc2,Res.ret (.sl 1 o' (ofBytes (acc++q)))=.ret (.sl 1 o2 (ofBytes acc2))∧Hs S' [.gr 5 o2 (ofBytes acc2)]∧WrC acc T acc2):=fun e h=>⟨_,_,rfl,h,e ▸ WrC.app _ _⟩
 have kc:k=1∨k=2∨k=3∨k=4∨k=5∨k=6∨k=7:=by omega
 rcases kc with rfl | rfl | rfl | rfl | rfl | rfl | rfl
 ·have hf:T=[110,117,108,108]:=hf
  rw [hf] at hl
  refine goW ?_
  refine r_appG hb (by trivial) rfl rfl (ys:=[110,117,108,108]) rfl hl ?_
  intro o2 S2 hb
  refine goW ?_
  exact⟨_,rfl,one hf hb⟩
 ·have hf:T=s:=hf
  rw [hf] at hl
  refine goW ?_
  refine r_appG hb (by trivial) rfl rfl (ys:=s) rfl hl ?_
  intro o2 S2 hb
  refine goW ?_
  exact⟨_,rfl,one hf hb⟩
 ·have hf:T=s:=hf
  rw [hf] at hl
  refine goW ?_
  refine r_appG hb (by trivial) rfl rfl (ys:=s) rfl hl ?_
  intro o2 S2 hb
  refine goW ?_
  exact⟨_,rfl,one hf hb⟩
 ·have hf:T=quoteB s:=hf
  rw [hf] at hl
  refine goW ?_
  refine call_pf hm (by rfl) (hq s hs1) (goW ?_)
  refine r_appG hb (by trivial) rfl rfl (ys:=quoteB s) rfl hl ?_
  intro o2 S2 hb
  refine goW ?_
  exact⟨_,rfl,one hf hb⟩
 ·have hf:T=[64]++s:=hf
  rw [hf] at hl
  simp only [lA,lC,List.length_nil] at hl
  refine goW ?_
  refine r_appGD hb (by trivial) rfl rfl (ys:=[64]) rfl (by simp only [lC,List.length_nil];omega) ?_
  intro o2 S2 hb
  refine goW ?_
  refine r_appGD hb (by trivial) rfl rfl (ys:=s) rfl (by simp only [lA,lC,List.length_nil];omega) ?_
  intro o3 S3 hb
  refine goW ?_
  refine⟨_,rfl,?_⟩
  rw [aA] at hb ⊢
  exact one hf hb
 ·have hf:T=([91]++listB 0 (textsB kids))++[93]:=hf
  clear one
  rw [hf] at hl
  simp only [lA,lC,List.length_nil] at hl
  refine goW ?_
  obtain⟨hb,hsrc⟩:=hb.bldT 5 1
  refine r_appG hb (by trivial) rfl rfl (ys:=[91]) (hsrc _ _ _) (by simp only [lC,List.length_nil];omega) ?_
  intro o2 S2 hb2
  clear hsrc
  refine goW ?_
  refine loop_rule hm (α:=Nat) (fun i env S'=>i≤kids.length∧∃o' acc',Hs S' [.gr 5 o' (ofBytes acc')]∧WrC acc ([91]++listB 0 ((textsB kids).take i)) acc'∧env=E_xl (.mk 6 s keys kids) o' acc' i) (fun i=>kids.length-i) ?_ (a:=0) ⟨Nat.zero_le _,_,_,hb2,by simpa [listB] using WrC.app acc [91],rfl⟩
  clear hb hb2
  rintro i env S' ⟨hi,o',acc',hb,hw,rfl⟩
  have hwl:=hw.2
  simp only [lA,lC,List.length_nil] at hwl
  refine goW ?_
  by_cases hc:(i:Int)<(encTs kids).length
  case neg =>
   rw [dF hc]
   rw [List.take_of_length_le (by rw [textsB_map,List.length_map];omega)] at hw hwl
   refine goW ?_
   obtain⟨hb,hsrc⟩:=hb.bldT 5 1
   refine r_appG hb (by trivial) rfl rfl (ys:=[93]) (hsrc _ _ _) (by simp only [lC,List.length_nil];omega) ?_
   intro o3 S3 hb3
   refine goW ?_
   exact⟨_,rfl,_,_,rfl,hb3,by rw [hf];exact hw.trans (WrC.app _ _)⟩
  rw [dT hc]
  have hik:i<kids.length:=by omega
  have htk:listB 0 ((textsB kids).take (i+1))=listB 0 ((textsB kids).take i)++(sepB i++textB kids[i]):=by
   rw [textsB_map,tS (by rw [List.length_map];exact hik),listB_snoc,List.getElem_map,lT,Nat.min_eq_left (by rw [List.length_map];omega),Nat.zero_add]
  have hlen:=listB_le (textsB kids) (i+1) 0
  rw [htk] at hlen
  simp only [lA] at hlen
  have e1:=encTs_get hik
  have r1:=rdT kids[i]
  have ihk:=ih _ (kid_lt hik) (formedBs_get hik fk) (PT.oks_get hk3 (gE hik)) (PT.soks_get hik hs5)
  unfold TRC at ihk
  obtain⟨ka,sa,xa,ya,ga⟩:=encT_agg kids[i]
  rw [ga] at ihk e1 r1
  generalize textB kids[i]=tx at ihk htk hlen
  have fin:∀{S4:St} {o4:SI} {acc2 acc3:List UInt8},WrC acc' (sepB i) acc2→Hs S4 [.gr 5 o4 (ofBytes acc3)]→WrC acc2 tx acc3→∃a:Nat,(a≤kids.length∧∃o' acc',Hs S4 [.gr 5 o' (ofBytes acc')]∧WrC acc ([91]++listB 0 ((textsB kids).take a)) acc'∧E_xl (.mk 6 s keys kids) o4 acc3 ((i+1:Nat):Int)=E_xl (.mk 6 s keys kids) o' acc' a)∧kids.length-a<kids.length-i :=
   fun a b d=>⟨i+1,⟨by omega,_,_,b,by rw [htk,←aA];exact hw.trans (a.trans d),rfl⟩,by omega⟩
  refine goW ?_
  by_cases z:(i:Int) > 0
  case' pos =>
   rw [dT z]
   have esp:sepB i=[44,32]:=by unfold sepB;rw [if_neg (by omega)]
   rw [esp] at hlen
   simp only [lC,List.length_nil] at hlen
   refine goW ?_
   refine r_appG hb (by trivial) rfl rfl (ys:=[44,32]) rfl (by simp only [lC,List.length_nil];omega) ?_
   intro o3 S3 hb3
   have sp:WrC acc' (sepB i) (acc'++[44,32]):=by rw [esp];exact WrC.app _ _
   have hl3:(acc'++[44,32]).length+tx.length≤140737488355328:=by simp only [lA,lC,List.length_nil];omega
   generalize acc'++[44,32]=acc2 at hb3 sp hl3
  case' neg =>
   rw [dF z]
   have hb3:=hb
   have esp:sepB i=[]:=by unfold sepB;rw [if_pos (by omega)]
   rw [esp] at hlen
   simp only [List.length_nil] at hlen
   have sp:WrC acc' (sepB i) acc':=by rw [esp];exact WrC.nil _
   have hl3:acc'.length+tx.length≤140737488355328:=by omega
  all_goals
   refine goW ?_
   refine step_ruleO (sx_ia (k:=i) rfl rfl (by omega)) (goW ?_)
   refine step_ruleO (sx_ldEl (agg:=true) rfl rfl e1 r1) ?_
   have w:=ihk _ _ _ hb3 hl3
   refine goW ?_
   refine call_rule (by rfl) (hm _ _ _ _ _ w ?_)
   rintro r S4 ⟨o4,acc3,rfl,b,d⟩
   refine goW ?_
   rw [wrNat (by omega)]
   exact fin sp b d
 ·have hf:T=([123]++recB keys (textsB kids) 0 (ordK keys))++[125]:=hf
  clear one
  rw [hf] at hl
  simp only [lA,lC,List.length_nil] at hl
  have hd:=(f7 rfl).2.2
  have hlk:=(f7 rfl).2.1
  have hnl:=PT.len_nsq kids
  simp only [PT.n] at hn
  have ho:=ho keys hd (by omega)
  have hL:=@ordK_lt keys
  have hLl:=ordK_len keys
  generalize ordK keys=L at ho hL hLl hf hl
  have hil:=ints_len L
  refine goW ?_
  obtain⟨hb,hsrc⟩:=hb.bldT 5 1
  refine r_appG hb (by trivial) rfl rfl (ys:=[123]) (hsrc _ _ _) (by simp only [lC,List.length_nil];omega) ?_
  intro o2 S2 hb2
  clear hsrc
  refine goW ?_
  refine call_pf hm (by rfl) ho (goW ?_)
  refine loop_rule hm (α:=Nat) (fun i env S'=>i≤L.length∧∃o' acc',Hs S' [.gr 5 o' (ofBytes acc')]∧WrC acc ([123]++recB keys (textsB kids) 0 (L.take i)) acc'∧env=E_xr (.mk 7 s keys kids) o' acc' L i) (fun i=>L.length-i) ?_ (a:=0) ⟨Nat.zero_le _,_,_,hb2,by simpa [recB] using WrC.app acc [123],rfl⟩
  clear hb hb2
  rintro i env S' ⟨hi,o',acc',hb,hw,rfl⟩
  have hwl:=hw.2
  simp only [lA,lC,List.length_nil] at hwl
  refine goW ?_
  by_cases hc:(i:Int)<(ints L).length
  case neg =>
   rw [dF hc]
   rw [List.take_of_length_le (by omega)] at hw hwl
   refine goW ?_
   obtain⟨hb,hsrc⟩:=hb.bldT 5 1
   refine r_appG hb (by trivial) rfl rfl (ys:=[125]) (hsrc _ _ _) (by simp only [lC,List.length_nil];omega) ?_
   intro o3 S3 hb3
   refine goW ?_
   exact⟨_,rfl,_,_,rfl,hb3,by rw [hf];exact hw.trans (WrC.app _ _)⟩
  rw [dT hc]
  have hik:i<L.length:=by omega
  have hj:=hL (List.getElem_mem hik)
  have hgi:(ints L)[i]? = some (.int .i64 (L[i]:Nat)):=ints_get (gE hik)
  have htk:recB keys (textsB kids) 0 (L.take (i+1))=recB keys (textsB kids) 0 (L.take i)++(sepB i++((quoteB (keys.getD L[i] [])++[58,32])++(textsB kids).getD L[i] [])):=by
   rw [tS hik,recB_snoc,lT,Nat.min_eq_left (by omega),Nat.zero_add]
  have hlen:=recB_le (keys:=keys) (texts:=textsB kids) L (i+1) 0
  rw [htk] at hlen
  generalize L[i]=j at hj hgi htk hlen
  have hjk:j<kids.length:=by omega
  have g1:keys.getD j []=keys[j]:=getD_at hj
  have g2:(textsB kids).getD j []=textB kids[j]:=by rw [getD_at (by rw [textsB_map,List.length_map];exact hjk)];simp only [textsB_map,List.getElem_map]
  rw [g1,g2] at htk hlen
  simp only [lA,lC,List.length_nil] at hlen
  have hkl:=hs2 keys[j] (List.getElem_mem hj)
  have hqk:=hq keys[j] hkl
  have sj:=strs_at hj
  generalize keys[j]=kj at hkl hqk sj htk hlen
  have e1:=encTs_get hjk
  have r1:=rdT kids[j]
  have ihk:=ih _ (kid_lt hjk) (formedBs_get hjk fk) (PT.oks_get hk3 (gE hjk)) (PT.soks_get hjk hs5)
  unfold TRC at ihk
  obtain⟨ka,sa,xa,ya,ga⟩:=encT_agg kids[j]
  rw [ga] at ihk e1 r1
  generalize textB kids[j]=tx at ihk htk hlen
  have fin:∀{S4:St} {o4:SI} {acc2 acc3:List UInt8},WrC acc' (sepB i) acc2→Hs S4 [.gr 5 o4 (ofBytes acc3)]→WrC (acc2++quoteB kj++[58,32]) tx acc3→∃a:Nat,(a≤L.length∧∃o' acc',Hs S4 [.gr 5 o' (ofBytes acc')]∧WrC acc ([123]++recB keys (textsB kids) 0 (L.take a)) acc'∧E_xr (.mk 7 s keys kids) o4 acc3 L ((i+1:Nat):Int)=E_xr (.mk 7 s keys kids) o' acc' L a)∧L.length-a<L.length-i :=
   fun a b d=>⟨i+1,⟨by omega,_,_,b,by rw [htk,←aA];exact hw.trans (a.trans ((by rw [aA] at d;exact (WrC.app _ _).trans d))),rfl⟩,by omega⟩
  refine goW ?_
  by_cases z:(i:Int) > 0
  case' pos =>
   rw [dT z]
   have esp:sepB i=[44,32]:=by unfold sepB;rw [if_neg (by omega)]
   rw [esp] at hlen
   simp only [lC,List.length_nil] at hlen
   refine goW ?_
   refine r_appG hb (by trivial) rfl rfl (ys:=[44,32]) rfl (by simp only [lC,List.length_nil];omega) ?_
   intro o3 S3 hb3
   have sp:WrC acc' (sepB i) (acc'++[44,32]):=by rw [esp];exact WrC.app _ _
   have hl3:(acc'++[44,32]).length+(quoteB kj).length+2+tx.length≤140737488355328:=by simp only [lA,lC,List.length_nil];omega
   generalize acc'++[44,32]=acc2 at hb3 sp hl3
  case' neg =>
   rw [dF z]
   have hb3:=hb
   have esp:sepB i=[]:=by unfold sepB;rw [if_pos (by omega)]
   rw [esp] at hlen
   simp only [List.length_nil] at hlen
   have sp:WrC acc' (sepB i) acc':=by rw [esp];exact WrC.nil _
   have hl3:acc'.length+(quoteB kj).length+2+tx.length≤140737488355328:=by omega
  all_goals
   refine goW ?_
   refine step_ruleDO rfl rfl (sx_ia (k:=i) rfl rfl (by omega)) (goW ?_)
   refine step_ruleDO rfl rfl (sx_ldEl (agg:=false) rfl rfl hgi rfl) (goW ?_)
   refine step_ruleDO rfl rfl (sx_ia (k:=j) rfl rfl (by omega)) (goW ?_)
   refine step_ruleDO rfl rfl (sx_ldEl (agg:=false) rfl rfl sj rfl) (goW ?_)
   refine call_pfD hm (by rfl) hqk (goW ?_)
   refine r_appGD hb3 (by trivial) rfl rfl (ys:=quoteB kj) rfl (by omega) ?_
   intro o5 S5 hb5
   refine goW ?_
   refine r_appGD hb5 (by trivial) rfl rfl (ys:=[58,32]) rfl (by simp only [lA,lC,List.length_nil];omega) ?_
   intro o6 S6 hb6
   have w:=ihk _ _ _ hb6 (by simp only [lA,lC,List.length_nil];omega)
   refine goW ?_
   refine step_ruleDO rfl rfl (sx_ia (k:=i) rfl rfl (by omega)) (goW ?_)
   refine step_ruleDO rfl rfl (sx_ldEl (agg:=false) rfl rfl hgi rfl) (goW ?_)
   refine step_ruleDO rfl rfl (sx_ia (k:=j) rfl rfl (by omega)) (goW ?_)
   refine step_ruleDO rfl rfl (sx_ldEl (agg:=true) rfl rfl e1 r1) (goW ?_)
   refine call_ruleD (by rfl) (hm _ _ _ _ _ w ?_)
   rintro r S4 ⟨o4,acc3,rfl,b,d⟩
   refine goW ?_
   rw [wrNat (by omega)]
   exact fin sp b d
end

section
variable {gt:GT} {C:CallT}
set_option maxHeartbeats 4000000 in
theorem rText_wp (hm:MonoC C) {t:PT} (hr:PF C 27 [encT t] (.int .i64 (rightB t))) (hw:formedB t=true→TRC C t) (hl:formedB t=true→(textB t).length≤140737488355328) :
  wpF gt C F38 [encT t] St.init (Ret (.tup [.str (textR t).1,.int .i64 (textR t).2])):=by
 have ret:∀{o:List UInt8×Int} {S:St},textR t=o→Ret (.tup [.str (textR t).1,.int .i64 (textR t).2]) (.ret (.tup [.str o.1,.int .i64 o.2])) S:=fun h=>by rw [h];exact Ret.sta ⟨trivial,trivial,trivial⟩
 have hf:textR t=if rightB t=0 then (if 65536<(textB t).length then ([],2) else (textB t,0)) else ([],rightB t):=rfl
 have fm:=right_formed (t:=t)
 generalize textR t=res at ret hf ⊢
 generalize rightB t=e at hr hf fm
 unfold TRC at hw
 generalize textB t=tx at hf hw hl
 obtain⟨ka,sa,xa,ya,ga⟩:=encT_agg t
 rw [ga] at hr hw ⊢
 refine⟨rfl,?_⟩
 refine goW ?_
 refine call_pf hm (by rfl) hr (goW ?_)
 by_cases z:e=0
 case neg =>
  rw [neI_true z]
  rw [if_neg z] at hf
  refine goW ?_
  exact⟨_,rfl,ret hf⟩
 rw [neI_false z]
 rw [if_pos z] at hf
 have hb:Hs St.init [.gr 5 ⟨none,0,some 0,false⟩ (ofBytes [])]:=Hs.init.addNil 5 false
 have w:=hw (fm z) _ _ [] hb (by simpa using hl (fm z))
 refine goW ?_
 refine call_ruleD (by rfl) (hm _ _ _ _ _ w ?_)
 rintro r S2 ⟨o2,acc,rfl,hb,hr⟩
 obtain⟨e1,e2⟩:=hr.1.end
 have l1:=ofBytes_len acc
 refine goW ?_
 by_cases c:((ofBytes acc).length:Int) > 65536
 ·rw [dT c]
  rw [if_pos (e1.1 (by omega))] at hf
  refine goW ?_
  exact⟨_,rfl,ret hf⟩
 rw [dF c]
 have c2:¬65536<tx.length:=fun h=>c (by have:=e1.2 h;omega)
 rw [if_neg c2] at hf
 obtain rfl:=e2 c2
 refine goW ?_
 refine step_ruleO (sx_cvBS rfl ((hb.ok 0 _ rfl).els _ _) (bytes_of _)) (goW ?_)
 exact⟨_,rfl,ret hf⟩
set_option maxHeartbeats 4000000 in
theorem treeTexts_wp (hm:MonoC C) (hruns:PF C 3 [] (.bool true)) {t:PT} (hsmall:PF C 26 [encT t] (.bool (smallB t))) (hcp:PF C 37 [encT t] (encT t))
  (h1:PF C 15 [encT t] (.tup [.str (textR t).1,.int .i64 (textR t).2])) (h2:PF C 38 [encT t] (.tup [.str (textR t).1,.int .i64 (textR t).2])) (hpl:PF C 32 [encT t,encT t] (.bool true)) :
  wpF gt C F8 [encT t] St.init (Ret (.bool true)):=by
 generalize smallB t=b at hsmall
 generalize (textR t).1=tx at h1 h2
 generalize (textR t).2=e at h1 h2
 obtain⟨ka,sa,xa,ya,ga⟩:=encT_agg t
 rw [ga] at hsmall hcp h1 h2 hpl ⊢
 refine⟨rfl,?_⟩
 refine goW ?_
 refine call_pf hm (by rfl) hsmall ?_
 cases b with
 | false =>
  refine goW ?_
  refine call_pf hm (by rfl) hruns (goW ?_)
  exact⟨_,rfl,Ret.sta trivial⟩
 | true =>
 refine goW ?_
 refine call_pf hm (by rfl) hcp (goW ?_)
 refine call_pf hm (by rfl) h1 (goW ?_)
 refine call_pf hm (by rfl) h2 (goW ?_)
 rw [beqB_true (rfl:tx=tx)]
 refine goW ?_
 rw [eqI_true (rfl:e=e)]
 refine goW ?_
 refine call_pf hm (by rfl) hpl (goW ?_)
 refine call_pf hm (by rfl) hruns (goW ?_)
 exact⟨_,rfl,Ret.sta trivial⟩
end
end Go.Dn

namespace Go.Proofs.YthgidapmofcloaaGreatDoor.Fn
open Go.ChangeShapes Go.WideShapes Go.ChangeAt Go.RowKit Go.Dn
theorem bCheck (S:St) (id:Nat) (ty:TypeId) (acc:List UInt8) (h:BS S id ty acc):A 159 [.ptr id 0] S fun r S'=>r=.ret (.tup [])∧∃o,Hs S' (R_b id ty (.ptr id 0) o acc) :=
 AC_intro Tryz.checked.mixed Tryz.func159 (by kernel_rfl) C1.F159_ok (copyCheck_wp hm h)
theorem bStr (S:St) (id:Nat) (ty:TypeId) (acc s:List UInt8) (h:BS S id ty acc) (hl:acc.length+s.length<1099511627776):A 128 [.ptr id 0,.str s] S fun r S'=>r=.ret (.tup [.int .i64 s.length,.nilif])∧BS S' id ty (acc++s) :=
 AC_intro Tryz.checked.mixed Tryz.func128 (by kernel_rfl) C1.F128_ok (writeString_wp hm bCheck h hl)
theorem bByte (S:St) (id:Nat) (ty:TypeId) (acc:List UInt8) (c:UInt8) (h:BS S id ty acc) (hl:acc.length<1099511627776):A 129 [.ptr id 0,.int .u8 c.toNat] S fun r S'=>r=.ret .nilif∧BS S' id ty (acc++[c]) :=
 AC_intro Tryz.checked.mixed Tryz.func129 (by kernel_rfl) C1.F129_ok (writeByte_wp hm bCheck h hl)
theorem bLen (S:St) (id:Nat) (ty:TypeId) (acc:List UInt8) (h:BS S id ty acc):A 48 [.ptr id 0] S fun r S'=>r=.ret (.int .i64 acc.length)∧S'=S :=
 AC_intro Tryz.checked.mixed Tryz.func48 (by kernel_rfl) C1.F48_ok (bLen_wp h)
theorem bString (S:St) (id:Nat) (ty:TypeId) (acc:List UInt8) (h:BS S id ty acc) (h0:acc≠[]) (hl:acc.length≤17592186044416):A 49 [.ptr id 0] S fun r S'=>r=.ret (.str acc) :=
 AC_intro Tryz.checked.mixed Tryz.func49 (by kernel_rfl) C1.F49_ok (bString_wp h h0 hl)
theorem short (b:UInt8):PF A 130 [.int .u8 b.toNat] (.int .u8 (shortB b).toNat) :=
 pf Tryz.func130 (by kernel_rfl) C1.F130_ok (s1 trivial) short_wp
theorem tdigit (n:Nat) (h:n<256):PF A 131 [.int .i64 n] (.int .u8 (hexB (n % 16)).toNat) :=
 pf Tryz.func131 (by kernel_rfl) C1.F131_ok (s1 trivial) (tdigit_wp h)
theorem quote (s:List UInt8) (h:s.length<4294967281):PF A 80 [.str s] (.tup [.str (if validB s=true then quoteB s else []),.int .i64 (if validB s=true then 0 else 10)]) :=
 pf Tryz.func80 (by kernel_rfl) C1.F80_ok (s1 trivial) (quote_wp hm validU bByte bStr bString short tdigit h)
theorem putT:PutC A:=fun S id acc s h hl =>
 AC_intro Tryz.checked.mixed Tryz.func79 (by kernel_rfl) C1.F79_ok (put_wp hm bLen bStr h hl)
theorem wtree:∀t:PT,formedB t=true→t.ok→t.sok→t.n<1099511627776→TWC A t :=
 indT fun t ih ft hk hs hn S id acc hb hl=>AC_intro Tryz.checked.mixed Tryz.func47 (by kernel_rfl) C1.F47_ok (wtree_wp hm putT quote order (fun u h a b c=>ih u h a b c (by omega)) ft hk hs hn hb hl)
theorem tText (t:PT) (hk:t.ok) (hs:t.sok) (hn:t.n<1099511627776):PF A 15 [encT t] (.tup [.str (textR t).1,.int .i64 (textR t).2]) :=
 pf Tryz.func15 (by kernel_rfl) C1.F15_ok (s1 (sta_T t)) (tText_wp hm (right t (by omega) hs) (fun h=>wtree t h hk hs hn) bLen bString)
theorem hexR (n:Nat) (h:n<16):PF A 151 [.int .i64 n] (.int .u8 (hexB n).toNat) :=
 pf Tryz.func151 (by kernel_rfl) C1.F151_ok (s1 trivial) (hexR_wp h)
theorem quoteR (s:List UInt8) (h:s.length<4294967281):PF A 115 [.str s] (.str (quoteB s)) :=
 pf Tryz.func115 (by kernel_rfl) C1.F115_ok (s1 trivial) (quoteR_wp hm hexR h)
theorem xtext:∀t:PT,formedB t=true→t.ok→t.sok→t.n<1099511627776→TRC A t :=
 indT fun t ih ft hk hs hn S o acc hb hl=>AC_intro Tryz.checked.mixed Tryz.func68 (by kernel_rfl) C1.F68_ok (xtext_wp hm quoteR order3 (fun u h a b c=>ih u h a b c (by omega)) ft hk hs hn hb hl)
theorem rText (t:PT) (hk:t.ok) (hs:t.sok) (hn:t.n<1099511627776) (hl:formedB t=true→(textB t).length≤140737488355328):PF A 38 [encT t] (.tup [.str (textR t).1,.int .i64 (textR t).2]) :=
 pf Tryz.func38 (by kernel_rfl) C1.F38_ok (s1 (sta_T t)) (rText_wp hm (right3 t (by omega) hs) (fun h=>xtext t h hk hs hn) hl)
end Go.Proofs.YthgidapmofcloaaGreatDoor.Fn

namespace Go.Proofs.YthgidapmofcloaaGreatDoor
open Go.Dn
theorem bulk_keys:∀l:List (List UInt8),bulkAs (strs l)≤1048576→(∀s∈l,s.length≤1048576)∧l.length≤1048576
 | [],_=>⟨fun s h=>by simp at h,by simp⟩
 | a::r,h=>by
  have e:strs (a::r)=.str a::strs r:=rfl
  rw [e] at h
  simp only [bulkAs,bulkA] at h
  have ih:=bulk_keys r (by omega)
  have h0:=bulk_strs0 r
  refine⟨fun s hs=>?_,by simp only [lC];omega⟩
  rcases List.mem_cons.1 hs with rfl | hs
  ·omega
  ·exact ih.1 s hs
mutual
theorem bulk_sok:∀t:PT,bulkA (encT t)≤1048576→t.sok∧t.n≤bulkA (encT t)
 |.mk k s keys kids,h=>by
  simp only [encT,bulkA,bulkAs] at h ⊢
  have h1:=bulk_keys keys (by omega)
  have h2:=bulk_soks kids (by omega)
  have h3:=bulk_Ts kids (by omega)
  simp only [PT.sok,PT.n]
  exact⟨⟨by omega,fun s hs=>by have:=h1.1 s hs;omega,by omega,by omega,h2.1⟩,by omega⟩
theorem bulk_soks:∀l:List PT,bulkAs (encTs l)≤1048576→PT.soks l∧PT.ns l≤bulkAs (encTs l)
 | [],_=>⟨trivial,Nat.zero_le _⟩
 | t::r,h=>by
  simp only [encTs,bulkAs] at h
  have h1:=bulk_sok t (by omega)
  have h2:=bulk_soks r (by omega)
  simp only [PT.soks,encTs,bulkAs,PT.ns]
  exact⟨⟨h1.1,h2.1⟩,by omega⟩
end
end Go.Proofs.YthgidapmofcloaaGreatDoor

namespace Go.Dn
open Go Go.Proofs.C1
theorem sum_perm {a b:List Nat} (p:a.Perm b):a.sum=b.sum:=by
 induction p with
 | nil=>rfl
 | cons x _ ih=>simp only [List.sum_cons,ih]
 | swap x y l=>simp only [List.sum_cons];omega
 | trans _ _ h1 h2=>rw [h1,h2]
theorem recB_len (keys texts:List (List UInt8)):∀(L:List Nat) (n:Nat),(recB keys texts n L).length≤(L.map fun i=>6*(keys.getD i []).length+6).sum+(L.map fun i=>(texts.getD i []).length).sum
 | [],_=>Nat.zero_le _
 | i::r,n=>by
  have h1:=recB_len keys texts r (n+1)
  have h2:=quoteB_len (keys.getD i [])
  have h3:(sepB n).length≤2:=by unfold sepB;split<;>simp
  simp only [recB,lA,List.map_cons,List.sum_cons,lC,List.length_nil]
  omega
theorem range_sum (g:List UInt8→Nat) (l:List (List UInt8)):((List.range l.length).map fun i=>g (l.getD i [])).sum=(l.map g).sum:=by
 have:=congrArg (List.map g) (map_range_getD (z:=([]:List UInt8)) l)
 rw [List.map_map] at this
 rw [←this];rfl
theorem listB_len:∀(l:List (List UInt8)) (n:Nat),(listB n l).length≤(l.map fun t=>t.length+2).sum
 | [],_=>Nat.zero_le _
 | t::r,n=>by
  have h1:=listB_len r (n+1)
  have h3:(sepB n).length≤2:=by unfold sepB;split<;>simp
  simp only [listB,lA,List.map_cons,List.sum_cons]
  omega
theorem keys_sum:∀l:List (List UInt8),(l.map fun k=>6*k.length+6).sum≤8*bulkAs (strs l)
 | []=>Nat.zero_le _
 | k::r=>by
  have h:=keys_sum r
  have e:strs (k::r)=.str k::strs r:=rfl
  rw [e]
  simp only [List.map_cons,List.sum_cons,bulkAs,bulkA]
  omega
theorem len_sum2:∀l:List (List UInt8),(l.map List.length).sum≤(l.map fun t=>t.length+2).sum
 | []=>Nat.zero_le _
 | k::r=>by have:=len_sum2 r;simp only [List.map_cons,List.sum_cons];omega
mutual
theorem textB_len:∀t:PT,formedB t=true→(textB t).length+2≤8*bulkA (encT t)
 |.mk k s keys kids,h=>by
  have kd:=formed_kind h
  obtain⟨h1,h7,_,_⟩:=formed_parts h
  have ih:=textsB_len kids h1
  have e:bulkA (encT (.mk k s keys kids))=1+((s.length+1)+((bulkAs (strs keys)+1)+((bulkAs (encTs kids)+1)+0)))+1:=by simp only [encT,bulkA,bulkAs]
  rw [e,textB]
  have q:=quoteB_len s
  have kc:k=1∨k=2∨k=3∨k=4∨k=5∨k=6∨k=7:=by omega
  rcases kc with rfl | rfl | rfl | rfl | rfl | rfl | rfl
  ·simp;omega
  ·rw [if_neg (by omega),if_pos (.inl rfl)];omega
  ·rw [if_neg (by omega),if_pos (.inr rfl)];omega
  ·rw [if_neg (by omega),if_neg (by omega),if_pos rfl];omega
  ·rw [if_neg (by omega),if_neg (by omega),if_neg (by omega),if_pos rfl,lC];omega
  ·rw [if_neg (by omega),if_neg (by omega),if_neg (by omega),if_neg (by omega),if_pos rfl]
   have:=listB_len (textsB kids) 0
   simp only [lA,lC,List.length_nil]
   omega
  ·rw [if_neg (by omega),if_neg (by omega),if_neg (by omega),if_neg (by omega),if_neg (by omega)]
   have hl:=(h7 rfl).2.1
   have a:=recB_len keys (textsB kids) (ordK keys) 0
   rw [sum_perm ((ordK_perm keys).map _),sum_perm ((ordK_perm keys).map fun i=>((textsB kids).getD i []).length),range_sum (fun k=>6*k.length+6) keys] at a
   have hl2:keys.length=(textsB kids).length:=by rw [textsB_map,List.length_map,hl]
   rw [hl2,range_sum List.length (textsB kids)] at a
   have b:=keys_sum keys
   have c:=len_sum2 (textsB kids)
   simp only [lA,lC,List.length_nil]
   omega
theorem textsB_len:∀l:List PT,formedBs l=true→((textsB l).map fun t=>t.length+2).sum≤8*bulkAs (encTs l)
 | [],_=>Nat.zero_le _
 | t::r,h=>by
  simp only [formedBs,bA] at h
  have h1:=textB_len t h.1
  have h2:=textsB_len r h.2
  simp only [textsB,encTs,List.map_cons,List.sum_cons,bulkAs]
  omega
end
end Go.Dn

namespace Go.Proofs.YthgidapmofcloaaGreatDoor
open Go.Dn Go.Proofs.YthgidapmofcloaaGreatDoor.Fn
theorem TreeTexts.law {t:PT} (hk:t.ok) (hs:t.sok) (hn:t.n<1099511627776) (hl:bulkA (encT t)≤1048576):A 8 [encT t] St.init (Ret (.bool true)) :=
 AC_intro Tryz.checked.mixed Tryz.func8 (by kernel_rfl) Go.Proofs.C1.F8_ok
  (treeTexts_wp Fn.hm Fn.runs (Fn.small t) (Fn.copy3 t hk) (Fn.tText t hk hs hn) (Fn.rText t hk hs hn (fun h=>by have:=textB_len t h;omega)) (by have:=Fn.plain t t hk;rwa [eqT_true rfl] at this))
end Go.Proofs.YthgidapmofcloaaGreatDoor

namespace Go.Proofs.YthgidapmofcloaaGreatDoor.TreeTexts
open Go.ChangeShapes Go.WideShapes Go.ChangeAt Go.RowKit Go.Dn Go.Proofs.YthgidapmofcloaaGreatDoor.Fn
theorem laidOut:laidOutB Tryz.prog=true:=by kernel_rfl
theorem walk {W:World} (hI:Inv Tryz.prog gtT St.init (G0 W) W) {args:Array Value} {xs:List AV} {f:FuncId} (hac:A f xs St.init (Ret (.bool true))) (hx:Rl St.init (G0 W) W xs args.toList):Calls Tryz.prog f args W fun e W'=>e=.returned (.bool true)∧Below W.heap.size W W':=by
 refine Calls.mono (hac.2 (G0 W) W args.toList hI hx) fun e W' hp=>?_
 cases e with
 | returned v =>
  obtain⟨x,S',G',⟨y,hy,hr⟩,t,rv⟩:=hp
  cases hy
  simp only [Rdo] at hr
  subst hr
  refine⟨?_,below_of_ext t.ext⟩
  simp only [Rv] at rv
  rw [rv]
 | panicked chain =>
  obtain⟨x,S',G',u,hc,⟨y,hy,hr⟩,_⟩:=hp
  cases hy
 | outgrown=>exact hp.elim
theorem types:okTypes Tryz.prog [25,23,22,9,3,60,40]=true:=by kernel_rfl
theorem wantsT:Tryz.pinned.checked.prog.wantsStandIn 25=false:=by kernel_rfl
theorem isUb {H:Type}:IsUb (Rows.uptoBulk (H:=H)) Rows.uptoBulkAll where
 lit l:=by cases l<;>simp [Rows.uptoBulk]
 str s:=by simp [Rows.uptoBulk]
 nil:=by simp [Rows.uptoBulk]
 slice a b:=by simp [Rows.uptoBulk]
 agg a:=by simp [Rows.uptoBulk]
 none:=by simp [Rows.uptoBulkAll]
 cons d r:=by simp [Rows.uptoBulkAll]
set_option maxRecDepth 1000000 in
theorem entryT {H:Type} {enc:TypeId×Value→H} {W:World} {v:Value} {d:DataW H} {p:List MemPlace} {base:Nat} (hv:Value.okWide Tryz.prog W .any base 25 v) (h:DataW.Trod enc Tryz.prog W 0 (fun _=>true) true 25 v d p) :
  ∃n:PT,Rv St.init (G0 W) W (encT n) v∧bulkA (encT n)≤Rows.uptoBulk d:=by
 obtain⟨fuel,hf⟩:=h
 obtain⟨zs,hr,ht,hb⟩:=trod_avb isUb types fuel 25 _ _ (by decide) hf
 obtain⟨n,hn⟩:=av_tree ht
 refine⟨n,?_,?_⟩
 ·rw [←hn]
  obtain⟨vs,rfl,_⟩:=okWide_struct Tryz.underlying25 hv
  simp only [Rv]
  exact⟨_,rfl,hr⟩
 ·rw [←hn]
  have:sb Tryz.prog 25=1:=by unfold sb;rw [Tryz.underlying25]
  rw [this] at hb
  simpa only [bulkA] using hb
abbrev zeroTree:Value:=.agg #[.int .i64 0,.string .empty,.slice none 0 0,.slice none 0 0]
abbrev zeroData (H:Type):DataW H:=.agg [.lit (.int .i64 0),.lit (.string []),.nil,.nil]
abbrev zeros:Array Value:=#[zeroTree]
theorem reads (os:Os) {H:Type} (enc:TypeId×Value→H):∃places,DataW.whole enc Tryz.prog ((laidW os).forCall (fun _ _=>0) ⟨#[],zeros,[]⟩).memory Tryz.f8.params.toList Rows.treeTextsSpec.vars false zeros.toList 8=some ([zeroData H],[],places) :=
 ⟨[],by kernel_rfl⟩
set_option maxRecDepth 100000 in
theorem lifted (os:Os) (started:os.Started) (H:Type) (enc:TypeId×Value→H) (F:Stop.Interp) :
  ReturnsInHanded {} Tryz.checked os 8 .any ((Rows.OpenSpec.upto Rows.treeTextsSpec).preRow enc Tryz.prog Tryz.f8 Rows.treeTextsUptoRow.domain false Rows.treeTextsUptoRow.laid)
   (((Rows.OpenSpec.upto Rows.treeTextsSpec).at F).post enc Tryz.prog Tryz.f8 false true false false):=by
 obtain⟨places,hx⟩:=reads os enc
 refine returnsInHanded_of_row (C:=Tryz.checked) (s:=Rows.OpenSpec.upto Rows.treeTextsSpec) own started (by kernel_rfl) Tryz.func8
  (witness_row_atRef (enc:=enc) (C:=Tryz.checked) false (laidW os) zeros (laidW_os _) (by kernel_rfl) (by kernel_rfl) (by kernel_rfl)
   (OpenSpec.preRow_of_cond 8 hx (by kernel_rfl) (fun k hk=>by cases hk;kernel_rfl) (by kernel_rfl) (laidW_met os _))) ?_
 intro W base args ds gs before hval0 hW _ hcond _ hL _ _
 have hval:∀(j:Nat) t v,Tryz.f8.params[j]? = some t→args[j]? = some v→Value.okWide Tryz.prog W .any base t v:=hval0
 have hW':=hW
 obtain⟨p,q,hA0,hV,rfl,hfz,hnd⟩:=hW
 have hA:DataW.TrodAll enc Tryz.prog W 0 (fun _=>true) true Tryz.f8.params.toList args.toList ds p:=hA0
 rw [Tryz.params8] at hA hval
 obtain⟨v0,d0,rfl,rfl,h0⟩:=trodAll_one hA
 obtain⟨rfl,rfl⟩:=trodVars_none hV
 clear hA0 hval0
 simp only [List.append_nil] at hW'
 have hb:Rows.uptoBulkAll [d0]≤1048576:=by
  have:=hcond _ rfl
  rw [List.append_nil] at this
  exact of_decide_eq_true this
 simp only [Rows.uptoBulkAll] at hb
 obtain⟨x0,hv0,hb0⟩:=entryT (hval 0 25 v0 rfl rfl) h0
 refine (walk (inv_of_laid hL) (law (bulk_T x0 (by omega)) (bulk_sok x0 (by omega)).1 (by have:=(bulk_sok x0 (by omega)).2;omega) (by omega)) (Rl.cons hv0 Rl.nil)).mono fun e W' ⟨he,bel⟩=>?_
 subst he
 have hlt:∀x∈p,x.block<W.heap.size:=fun x hx=>hW'.lt x (by first | exact hx | simpa using hx)
 exact⟨_,rfl,_,_,_,[],_,[],hW',trodAll_mk1 (shut_bool Tryz.underlying4 _),
  trodAll_mk1 (Below.trod laidOut (by kernel_rfl) (of_decide_eq_true (by kernel_rfl)) h0 bel (fun x hx=>hlt x (by exact hx))),rfl,bel.frame _,fun h=>by cases h⟩
end Go.Proofs.YthgidapmofcloaaGreatDoor.TreeTexts
