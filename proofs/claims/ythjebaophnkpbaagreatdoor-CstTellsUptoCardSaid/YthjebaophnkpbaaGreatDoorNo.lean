/- Times: the reference's Time, walked. Times: the reference's Time is the program's. The reference's functions that laws about trees reach, as contracts, each by its code. Sorting: what a stable sort by blocks and merges in place does, as plain lists. An array of numbers that is one's own, read and written in place. Sorting in place: ranges swapped, blocks turned round. Sorting in place: by insertion. Sorting in place: two rows merged, where one is of one. Sorting in place: two rows merged, where the other is of one. Sorting in place: two rows merged: turned round, and each half merged. Sorting in place: two rows merged: where they are cut, and the turn. The walk to the next region's end, as a lemma that a tactic of its own serves. Sorting in place: two rows merged; all of it. Sorting in place: all of it. Texts compared byte by byte: an order; the places of a list of keys, by them. The places of a record's keys, by the keys: tree.order. Trees with the keys of all records in order: tree.Sorted. Trees whose keys are in order: when they are the same. Trees that are the same: tree.identical, tree.Same. Sorting, and what hangs on it, as contracts. Nodes: how many, how deep: the program's and the reference's answers. Nodes that are right: the program's answer. Nodes that are right: the program's answer, of a record. Nodes that are right: the program's answer, of a list. Nodes that are right: the reference's answer. Nodes that are right: the reference's answer, of a record. Nodes that are right: the reference's answer, of a list. Nodes: whether they are right, and their trees: the program's and the reference's answers. strings.Builder, walked. Nodes: their trees by the reference; their bytes by the program. The law 'CstTells', walked. The functions of nodes, as contracts, each by its code. What is read is right where little is read: trees, nodes; and the trees of nodes. 'emendlaw4.CstTells' as a contract. The row of 'emendlaw4.CstTells': what is read, and that the call returns true. -/
import Derived.Test.YthjebaophnkpbaaGreatDoorTie
import Derived.Test.YthjebaophnkpbaaGreatDoorCards
import Derived.ProofKit
import Derived.LaidMore
import Derived.OpenShut
import Derived.Carry
import Derived.Stop.Joined
import Derived.Lay
import Derived.SevenTiedAt
import Derived.Deep.DeepHandedRow
import Derived.Deep.DeepWitnessRowRef
import Derived.Test.YthjebaophnkpbaaGreatDoorNn
set_option linter.unusedSimpArgs false
set_option linter.unusedVariables false
namespace Go.Dn
open Go Go.Proofs.C1
set_option maxRecDepth 100000
attribute [local irreducible] afterS keepE
def tailR (t:List UInt8):Bool :=
 clockB t || (if atB t (t.length-1) 90=true then clockB (t.take (t.length-1))
 else decide (14≤t.length) && ((atB t (t.length-6) 43 || atB t (t.length-6) 45) && (atB t (t.length-3) 58 &&
  (decide (digI t (t.length-5) 2 ≥ 0) && (decide (digI t (t.length-5) 2≤23) && (decide (digI t (t.length-2) 2 ≥ 0) && (decide (digI t (t.length-2) 2≤59) && clockB (t.take (t.length-6)))))))))
def timeR (s:List UInt8):Bool :=
 dateB s || (clockB s || (decide (19≤s.length) && (atB s 10 84 && (dateB (s.take 10) && tailR (s.drop 11)))))
section
variable {gt:GT} {C:CallT}
set_option maxHeartbeats 8000000 in
theorem timeTail_wp (hm:MonoC C) (hdg:∀(s:List UInt8) (a n:Nat),a<4611686018427387904→n≤9→s.length<4611686018427387904→PF C 117 [.str s,.int .i64 a,.int .i64 n] (.int .i64 (digI s a n)))
  (hck:∀s:List UInt8,s.length<4611686018427387904→PF C 116 [.str s] (.bool (clockB s)))
  {t:List UInt8} {z:Env} (hl:t.length<4611686018427387904) (h8:8≤t.length) :
  wpD gt C F94.body.rt.rt.rt.rt ((3,.val (.str t))::z) St.init (bodyQ gt F94.res (Ret (.bool (tailR t)))):=by
 have hf:tailR t=(clockB t || (if atB t (t.length-1) 90=true then clockB (t.take (t.length-1))
 else decide (14≤t.length) && ((atB t (t.length-6) 43 || atB t (t.length-6) 45) && (atB t (t.length-3) 58 &&
  (decide (digI t (t.length-5) 2 ≥ 0) && (decide (digI t (t.length-5) 2≤23) && (decide (digI t (t.length-2) 2 ≥ 0) && (decide (digI t (t.length-2) 2≤59) && clockB (t.take (t.length-6)))))))))):=rfl
 have d1:=hdg t (t.length-5) 2 (by omega) (by omega) hl
 have d2:=hdg t (t.length-2) 2 (by omega) (by omega) hl
 have c1:=hck t hl
 have c2:=hck (t.take (t.length-1)) (by rw [lT];omega)
 have c3:=hck (t.take (t.length-6)) (by rw [lT];omega)
 generalize tailR t=res at hf ⊢
 have ret:∀{o:Bool} {S:St},res=o→Ret (.bool res) (.ret (.bool o)) S:=fun h=>by rw [h];exact Ret.sta trivial
 generalize digI t (t.length-5) 2=h at hf d1
 generalize digI t (t.length-2) 2=m at hf d2
 generalize clockB t=k1 at hf c1
 generalize clockB (t.take (t.length-1))=k2 at hf c2
 generalize clockB (t.take (t.length-6))=k3 at hf c3
 obtain⟨bz,hbz⟩:∃b,t[t.length-1]? = some b:=⟨_,gE (by omega)⟩
 obtain⟨b6,hb6⟩:∃b,t[t.length-6]? = some b:=⟨_,gE (by omega)⟩
 obtain⟨b3,hb3⟩:∃b,t[t.length-3]? = some b:=⟨_,gE (by omega)⟩
 rw [atB_get hbz,atB_get hb6,atB_get hb6,atB_get hb3] at hf
 have w1:wr .i64 ((t.length:Int)-1)=((t.length-1:Nat):Int):=by rw [wr64 (by omega) (by omega)];omega
 have w6:wr .i64 ((t.length:Int)-6)=((t.length-6:Nat):Int):=by rw [wr64 (by omega) (by omega)];omega
 have w3:wr .i64 ((t.length:Int)-3)=((t.length-3:Nat):Int):=by rw [wr64 (by omega) (by omega)];omega
 have w5:wr .i64 ((t.length:Int)-5)=((t.length-5:Nat):Int):=by rw [wr64 (by omega) (by omega)];omega
 have w2:wr .i64 ((t.length:Int)-2)=((t.length-2:Nat):Int):=by rw [wr64 (by omega) (by omega)];omega
 conv=>whnf
 refine goW ?_
 refine call_pf hm (by rfl) c1 ?_
 cases k1 with
 | true =>
  refine goW ?_
  exact⟨_,rfl,ret (by rw [hf];rfl)⟩
 | false =>
 rw [Bool.false_or] at hf
 refine goW ?_
 rw [w1]
 refine step_ruleO (sx_ixS (k:=t.length-1) rfl rfl hbz) (goW ?_)
 rw [show ((bz.toNat:Int) == 90)=(bz == 90) from u8_eqI bz 90]
 cases hz:(bz == 90) with
 | true =>
  rw [hz,if_pos rfl] at hf
  refine goW ?_
  rw [w1]
  refine step_ruleO (sx_slHiS (h:=t.length-1) rfl rfl (by omega)) (goW ?_)
  refine call_pf hm (by rfl) c2 (goW ?_)
  exact⟨_,rfl,ret hf⟩
 | false =>
 rw [hz,if_neg (by simp)] at hf
 refine goW ?_
 by_cases h14:(t.length:Int)<14
 ·rw [dT h14]
  refine goW ?_
  exact⟨_,rfl,ret (by rw [hf,dF (by omega)];rfl)⟩
 rw [dF h14]
 rw [dT (show 14≤t.length by omega),Bool.true_and] at hf
 refine goW ?_
 rw [w6]
 refine st_any (by exact rfl) (sx_ixS (k:=t.length-6) rfl rfl hb6) (goW ?_)
 rw [show ((b6.toNat:Int) != 43) = !(b6 == 43) from u8_neI b6 43]
 have fin:res=(decide (h ≥ 0) && (decide (h≤23) && (decide (m ≥ 0) && (decide (m≤59) && k3))))→∀z,wpD gt C F94.body.rt.rt.rt.rt.rt.rt.rt.rt ((3,.val (.str t))::(4,.val (.int .i64 t.length))::z) St.init (bodyQ gt F94.res (Ret (.bool res))):=fun hf z=>by
  conv=>whnf
  refine goW ?_
  rw [w5]
  refine call_pf hm (by rfl) d1 (goW ?_)
  rw [w2]
  refine call_pf hm (by rfl) d2 (goW ?_)
  by_cases q1:h ≥ 0
  case neg =>
   rw [dF q1]
   refine goW ?_
   exact⟨_,rfl,ret (by rw [hf,dF q1];rfl)⟩
  rw [dT q1]
  rw [dT q1,Bool.true_and] at hf
  refine goW ?_
  by_cases q2:h≤23
  case neg =>
   rw [dF q2]
   refine goW ?_
   exact⟨_,rfl,ret (by rw [hf,dF q2];rfl)⟩
  rw [dT q2]
  rw [dT q2,Bool.true_and] at hf
  refine goW ?_
  by_cases q3:m ≥ 0
  case neg =>
   rw [dF q3]
   refine goW ?_
   exact⟨_,rfl,ret (by rw [hf,dF q3];rfl)⟩
  rw [dT q3]
  rw [dT q3,Bool.true_and] at hf
  refine goW ?_
  by_cases q4:m≤59
  case neg =>
   rw [dF q4]
   refine goW ?_
   exact⟨_,rfl,ret (by rw [hf,dF q4];rfl)⟩
  rw [dT q4]
  rw [dT q4,Bool.true_and] at hf
  refine goW ?_
  rw [w6]
  refine st_any (by exact rfl) (sx_slHiS (h:=t.length-6) rfl rfl (by omega)) (goW ?_)
  refine call_pf hm (by rfl) c3 (goW ?_)
  exact⟨_,rfl,ret hf⟩
 cases h43:(b6 == 43) with
 | true =>
  rw [h43,Bool.true_or,Bool.true_and] at hf
  refine goW ?_
  rw [w3]
  refine st_any (by exact rfl) (sx_ixS (k:=t.length-3) rfl rfl hb3) (goW ?_)
  rw [show ((b3.toNat:Int) != 58) = !(b3 == 58) from u8_neI b3 58]
  cases h58:(b3 == 58) with
  | false =>
   refine goW ?_
   exact⟨_,rfl,ret (by rw [hf,h58];rfl)⟩
  | true =>
   rw [h58,Bool.true_and] at hf
   have fin:=fin hf
   refine goK ?_
   with_unfolding_all exact fin []
 | false =>
  rw [h43,Bool.false_or] at hf
  refine goW ?_
  rw [w6]
  refine st_any (by exact rfl) (sx_ixS (k:=t.length-6) rfl rfl hb6) (goW ?_)
  rw [show ((b6.toNat:Int) != 45) = !(b6 == 45) from u8_neI b6 45]
  cases h45:(b6 == 45) with
  | false =>
   refine goW ?_
   exact⟨_,rfl,ret (by rw [hf,h45];rfl)⟩
  | true =>
   rw [h45,Bool.true_and] at hf
   refine goW ?_
   rw [w3]
   refine st_any (by exact rfl) (sx_ixS (k:=t.length-3) rfl rfl hb3) (goW ?_)
   rw [show ((b3.toNat:Int) != 58) = !(b3 == 58) from u8_neI b3 58]
   cases h58:(b3 == 58) with
   | false =>
    refine goW ?_
    exact⟨_,rfl,ret (by rw [hf,h58];rfl)⟩
   | true =>
    rw [h58,Bool.true_and] at hf
    have fin:=fin hf
    refine goK ?_
    with_unfolding_all exact fin []
set_option maxHeartbeats 8000000 in
theorem time3_wp (hm:MonoC C) (hdg:∀(s:List UInt8) (a n:Nat),a<4611686018427387904→n≤9→s.length<4611686018427387904→PF C 117 [.str s,.int .i64 a,.int .i64 n] (.int .i64 (digI s a n)))
  (hck:∀s:List UInt8,s.length<4611686018427387904→PF C 116 [.str s] (.bool (clockB s))) (hdt:∀s:List UInt8,PF C 115 [.str s] (.bool (dateB s)))
  {s:List UInt8} (hl:s.length<4611686018427387904):wpF gt C F94 [.str s] St.init (Ret (.bool (timeR s))):=by
 have hf:timeR s=(dateB s || (clockB s || (decide (19≤s.length) && (atB s 10 84 && (dateB (s.take 10) && tailR (s.drop 11)))))):=rfl
 have c1:=hck s hl
 have e1:=hdt s
 have e2:=hdt (s.take 10)
 generalize timeR s=res at hf ⊢
 have ret:∀{o:Bool} {S:St},res=o→Ret (.bool res) (.ret (.bool o)) S:=fun h=>by rw [h];exact Ret.sta trivial
 generalize dateB s=k1 at hf e1
 generalize clockB s=k2 at hf c1
 generalize dateB (s.take 10)=k3 at hf e2
 refine⟨rfl,?_⟩
 refine goW ?_
 refine call_pf hm (by rfl) e1 ?_
 cases k1 with
 | true =>
  refine goW ?_
  exact⟨_,rfl,ret (by rw [hf];rfl)⟩
 | false =>
 rw [Bool.false_or] at hf
 refine goW ?_
 refine call_pf hm (by rfl) c1 ?_
 cases k2 with
 | true =>
  refine goW ?_
  exact⟨_,rfl,ret (by rw [hf];rfl)⟩
 | false =>
 rw [Bool.false_or] at hf
 refine goW ?_
 by_cases h19:(s.length:Int)<19
 ·rw [dT h19]
  refine goW ?_
  exact⟨_,rfl,ret (by rw [hf,dF (by omega)];rfl)⟩
 rw [dF h19]
 rw [dT (show 19≤s.length by omega),Bool.true_and] at hf
 obtain⟨bt,hbt⟩:∃b,s[10]? = some b:=⟨_,gE (by omega)⟩
 rw [atB_get hbt] at hf
 refine goW ?_
 refine st_any (by exact rfl) (sx_ixS (k:=10) rfl rfl hbt) (goW ?_)
 rw [show ((bt.toNat:Int) != 84) = !(bt == 84) from u8_neI bt 84]
 cases hT:(bt == 84) with
 | false =>
  refine goW ?_
  exact⟨_,rfl,ret (by rw [hf,hT];rfl)⟩
 | true =>
 rw [hT,Bool.true_and] at hf
 refine goW ?_
 refine st_any (by exact rfl) (sx_slHiS (h:=10) rfl rfl (by omega)) (goW ?_)
 refine call_pf hm (by rfl) e2 ?_
 cases k3 with
 | false =>
  refine goW ?_
  exact⟨_,rfl,ret (by rw [hf];rfl)⟩
 | true =>
 rw [Bool.true_and] at hf
 rw [hf]
 have fin:=fun z=>timeTail_wp (gt:=gt) (z:=z) hm hdg hck (t:=s.drop 11) (by rw [lD];omega) (by rw [lD];omega)
 refine goW ?_
 refine step_ruleO (sx_slLo (l:=11) rfl rfl (by omega)) ?_
 refine goK ?_
 with_unfolding_all exact fin []
end
end Go.Dn

namespace Go.Dn
open Go
theorem cutC_true {c:UInt8}:∀{s d e:List UInt8},cutC c s=(d,e,true)→s=d++c::e
 | [],d,e,h=>by simp [cutC] at h
 | b::r,d,e,h=>by
  simp only [cutC] at h
  split at h
  ·rename_i hb
   rw [beq_iff_eq] at hb
   simp only [Prod.mk.injEq] at h
   obtain⟨rfl,rfl,_⟩:=h
   rw [hb];rfl
  ·simp only [Prod.mk.injEq] at h
   obtain⟨rfl,rfl,h3⟩:=h
   rw [List.cons_append,←cutC_true (s:=r) (d:=(cutC c r).1) (e:=(cutC c r).2.1) (by rw [←h3])]
theorem cutC_app {c:UInt8} {e:List UInt8}:∀{d:List UInt8},c ∉ d→cutC c (d++c::e)=(d,e,true)
 | [],_=>by simp [cutC]
 | b::r,h=>by
  have hb:(b == c)=false:=by
   cases hh:(b == c) with
   | false=>rfl
   | true=>rw [beq_iff_eq] at hh;exact absurd (by rw [hh];simp) h
  have ih:=cutC_app (c:=c) (e:=e) (d:=r) fun h'=>h (by simp [h'])
  simp only [List.cons_append,cutC,hb,ih,Bool.false_eq_true,if_false]
theorem hd_mem {c:UInt8} {l:List UInt8} (h:hd c l=true):c∈l:=by
 cases l with
 | nil=>cases h
 | cons b r =>
  have:b=c:=by simpa [hd] using h
  rw [this];simp
theorem not_mem_hd {c:UInt8} {l:List UInt8} (h:c ∉ l):hd c l=false:=by
 cases hh:hd c l with
 | false=>rfl
 | true=>exact absurd (hd_mem hh) h
theorem within_dig {a b:UInt8} {lo hi:Int} (h0:0≤lo) (h:withinB [a,b] lo hi=true):dig a=true∧dig b=true:=by
 unfold withinB at h
 rw [bA,decide_eq_true_eq,decide_eq_true_eq] at h
 exact (twoB_ok a b).1.1 (by omega)
theorem dig84:dig 84=false:=by decide
theorem date_ok {d:List UInt8} (h:dateB d=true):d.length=10∧(84:UInt8) ∉ d:=by
 have h10:d.length=10:=by
  unfold dateB at h
  rw [bA,decide_eq_true_eq] at h
  exact h.1
 refine⟨h10,?_⟩
 obtain⟨b0,b1,b2,b3,b4,b5,b6,b7,b8,b9,rfl⟩:=ten h10
 have e:dateB [b0,b1,b2,b3,b4,b5,b6,b7,b8,b9]=((b4 == 45) && ((b7 == 45) && (decide (0≤twoB [b0,b1]) && (decide (0≤twoB [b2,b3]) && (withinB [b5,b6] 1 12 && withinB [b8,b9] 1 (daysB (twoB [b0,b1]*100+twoB [b2,b3]) (twoB [b5,b6]))))))):=rfl
 rw [e] at h
 simp only [bA,beq_iff_eq,decide_eq_true_eq] at h
 obtain⟨rfl,rfl,h1,h2,h3,h4⟩:=h
 have g1:=(twoB_ok b0 b1).1.1 h1
 have g2:=(twoB_ok b2 b3).1.1 h2
 have g3:=within_dig (by decide) h3
 have g4:=within_dig (by decide) h4
 have n84:∀{b:UInt8},dig b=true→(84:UInt8)≠b:=fun hb e=>by rw [←e,dig84] at hb;cases hb
 simp only [List.mem_cons,List.not_mem_nil,or_false,not_or]
 exact⟨n84 g1.1,n84 g1.2,n84 g2.1,n84 g2.2,by decide,n84 g3.1,n84 g3.2,by decide,n84 g4.1,n84 g4.2⟩
theorem clock_ok {t:List UInt8} (h:clockB t=true):8≤t.length∧∀b∈t,b=58∨b=46∨dig b=true:=by
 have h8:8≤t.length:=by
  unfold clockB at h
  rw [bA,decide_eq_true_eq] at h
  exact h.1
 refine⟨h8,?_⟩
 match t,h8,h with
 | b0::b1::b2::b3::b4::b5::b6::b7::r,_,h =>
  have e:clockB (b0::b1::b2::b3::b4::b5::b6::b7::r)=(decide (8≤(b0::b1::b2::b3::b4::b5::b6::b7::r).length) && ((b2 == 58) && ((b5 == 58) && (withinB [b0,b1] 0 23 && (withinB [b3,b4] 0 59 && (withinB [b6,b7] 0 59 &&
   (decide ((b0::b1::b2::b3::b4::b5::b6::b7::r).length=8) || (hd 46 r && (decide (1≤(r.drop 1).length) && (decide ((r.drop 1).length≤9) && beqB (trimA tenD (r.drop 1)) [])))))))))):=rfl
  rw [e] at h
  simp only [bA,beq_iff_eq] at h
  obtain⟨_,rfl,rfl,h1,h2,h3,h4⟩:=h
  have g1:=within_dig (by decide) h1
  have g2:=within_dig (by decide) h2
  have g3:=within_dig (by decide) h3
  have hr:∀b∈r,b=58∨b=46∨dig b=true:=by
   intro b hb
   rw [Bool.or_eq_true,decide_eq_true_eq] at h4
   rcases h4 with h4 | h4
   ·have:r=[]:=nL (by simpa using h4)
    rw [this] at hb;simp at hb
   ·simp only [bA] at h4
    obtain⟨q1,_,_,q2⟩:=h4
    rw [beqB_iff,trimA_nil] at q2
    cases r with
    | nil=>simp at hb
    | cons c q =>
     have:c=46:=by simpa [hd] using q1
     rcases List.mem_cons.1 hb with rfl | hb
     ·exact .inr (.inl this)
     ·exact .inr (.inr (by rw [←tenD_dig];exact q2 b hb))
  intro b hb
  simp only [List.mem_cons] at hb
  rcases hb with rfl | rfl | rfl | rfl | rfl | rfl | rfl | rfl | hb
  ·exact .inr (.inr g1.1)
  ·exact .inr (.inr g1.2)
  ·exact .inl rfl
  ·exact .inr (.inr g2.1)
  ·exact .inr (.inr g2.2)
  ·exact .inl rfl
  ·exact .inr (.inr g3.1)
  ·exact .inr (.inr g3.2)
  ·exact hr b hb
theorem clock_no {t:List UInt8} (h:clockB t=true) {c:UInt8} (hc:¬(c=58∨c=46∨dig c=true)):c ∉ t:=fun hm=>hc ((clock_ok h).2 c hm)
theorem clock_zone {t:List UInt8} (h:clockB t=true):(zoneB t).1=t:=by
 have n90:(90:UInt8) ∉ t:=clock_no h (by decide)
 have n43:(43:UInt8) ∉ t:=clock_no h (by decide)
 have n45:(45:UInt8) ∉ t:=clock_no h (by decide)
 unfold zoneB
 rw [if_neg,if_pos]
 ·right
  exact⟨not_mem_hd fun hm=>n43 (List.mem_of_mem_drop hm),not_mem_hd fun hm=>n45 (List.mem_of_mem_drop hm)⟩
 ·rw [Bool.not_eq_true]
  exact not_mem_hd fun hm=>n90 (List.mem_reverse.1 hm)
theorem tl_at {c:UInt8} {t:List UInt8} (h:1≤t.length):tl c t=atB t (t.length-1) c:=by
 obtain⟨b,hb⟩:∃b,t[t.length-1]? = some b:=⟨_,gE (by omega)⟩
 rw [tl_last hb (by omega),atB_get hb]
theorem atB_drop (t:List UInt8) (a k:Nat) (c:UInt8):atB (t.drop a) k c=atB t (a+k) c:=by
 unfold atB;rw [List.drop_drop]
theorem tail_zone {t:List UInt8} (h8:8≤t.length):tailR t=clockB (zoneB t).1:=by
 by_cases hc:clockB t=true
 ·rw [clock_zone hc,hc];unfold tailR;rw [hc];rfl
 have hc':clockB t=false:=by simpa using hc
 have e1:atB (t.drop (t.length-6)) 3 58=atB t (t.length-3) 58:=by rw [atB_drop];congr 1;omega
 have e2:withinB (sub (t.drop (t.length-6)) 1 3) 0 23=(decide (digI t (t.length-5) 2 ≥ 0) && decide (digI t (t.length-5) 2≤23)):=by
  rw [digI_two]
  unfold sub withinB
  rw [List.drop_drop,show t.length-6+1=t.length-5 by omega]
 have e3:withinB ((t.drop (t.length-6)).drop 4) 0 59=(decide (digI t (t.length-2) 2 ≥ 0) && decide (digI t (t.length-2) 2≤59)):=by
  rw [digI_two]
  unfold withinB
  rw [List.drop_drop,show t.length-6+4=t.length-2 by omega,List.take_of_length_le (by rw [lD];omega)]
 unfold tailR zoneB
 rw [hc',Bool.false_or,tl_at (by omega),e1,e2,e3]
 by_cases hz:atB t (t.length-1) 90=true
 ·rw [if_pos hz,if_pos hz]
 rw [if_neg hz,if_neg hz]
 have short:t.length<14→clockB (t.take (t.length-6))=false:=fun h=>by
  cases hk:clockB (t.take (t.length-6)) with
  | false=>rfl
  | true =>
   have:=(clock_ok hk).1
   rw [lT] at this
   omega
 cases h43:atB t (t.length-6) 43 with
 | false =>
  cases h45:atB t (t.length-6) 45 with
  | false =>
   rw [if_pos (.inr ⟨rfl,rfl⟩)]
   simp only [Bool.or_self,Bool.false_and,Bool.and_false,hc']
  | true =>
   rw [if_neg (by rintro (h | ⟨_,h⟩);omega;cases h)]
   cases h58:atB t (t.length-3) 58 with
   | false =>
    rw [if_pos (.inl rfl)]
    simp only [Bool.false_and,Bool.and_false,hc']
   | true =>
    generalize decide (digI t (t.length-5) 2 ≥ 0)=x1
    generalize decide (digI t (t.length-5) 2≤23)=x2
    generalize decide (digI t (t.length-2) 2 ≥ 0)=x3
    generalize decide (digI t (t.length-2) 2≤59)=x4
    by_cases h14:14≤t.length
    ·rw [dT h14]
     cases x1<;>cases x2<;>cases x3<;>cases x4<;>simp [hc']
    ·rw [dF h14]
     have:=short (by omega)
     cases x1<;>cases x2<;>cases x3<;>cases x4<;>simp [hc',this]
 | true =>
  rw [if_neg (by rintro (h | ⟨h,_⟩);omega;cases h)]
  cases h58:atB t (t.length-3) 58 with
  | false =>
   rw [if_pos (.inl rfl)]
   simp only [Bool.false_and,Bool.and_false,hc']
  | true =>
   generalize decide (digI t (t.length-5) 2 ≥ 0)=x1
   generalize decide (digI t (t.length-5) 2≤23)=x2
   generalize decide (digI t (t.length-2) 2 ≥ 0)=x3
   generalize decide (digI t (t.length-2) 2≤59)=x4
   by_cases h14:14≤t.length
   ·rw [dT h14]
    cases x1<;>cases x2<;>cases x3<;>cases x4<;>simp [hc']
   ·rw [dF h14]
    have:=short (by omega)
    cases x1<;>cases x2<;>cases x3<;>cases x4<;>simp [hc',this]
theorem zone_drop {s:List UInt8} (h19:19≤s.length):(zoneB s).1=s.take 11++(zoneB (s.drop 11)).1:=by
 have hl:(s.drop 11).length=s.length-11:=lD
 have d6:(s.drop 11).drop ((s.drop 11).length-6)=s.drop (s.length-6):=by rw [List.drop_drop,hl];congr 1;omega
 have tk:∀k,k≤6→s.take (s.length-k)=s.take 11++(s.drop 11).take ((s.drop 11).length-k):=fun k hk=>by
  rw [hl,show s.length-k=11+(s.length-11-k) by omega,List.take_add]
 have al:s=s.take 11++s.drop 11:=(tkD 11 s).symm
 have a1:∀c,atB (s.drop 11) ((s.drop 11).length-6) c=atB s (s.length-6) c:=fun c=>by rw [atB_drop,hl];congr 1;omega
 have a2:tl 90 (s.drop 11)=tl 90 s:=by rw [tl_at (by omega),tl_at (by omega),atB_drop,hl];congr 1;omega
 unfold zoneB
 rw [a2,a1,a1,d6]
 by_cases hz:tl 90 s=true
 ·rw [if_pos hz,if_pos hz]
  exact tk 1 (by omega)
 rw [if_neg hz,if_neg hz]
 by_cases h1:atB s (s.length-6) 43=false∧atB s (s.length-6) 45=false
 ·rw [if_pos (.inr h1),if_pos (.inr h1)]
  exact al
 have n1:¬(s.length<6∨(atB s (s.length-6) 43=false∧atB s (s.length-6) 45=false)):=by rintro (h | h);omega;exact h1 h
 have n2:¬((s.drop 11).length<6∨(atB s (s.length-6) 43=false∧atB s (s.length-6) 45=false)):=by rintro (h | h);omega;exact h1 h
 rw [if_neg n1,if_neg n2]
 by_cases h2:atB (s.drop (s.length-6)) 3 58=false∨withinB (sub (s.drop (s.length-6)) 1 3) 0 23=false∨withinB ((s.drop (s.length-6)).drop 4) 0 59=false
 ·rw [if_pos h2,if_pos h2]
  exact al
 ·rw [if_neg h2,if_neg h2]
  exact tk 6 (by omega)
theorem timeR_eq (s:List UInt8):timeR s=timeB s:=by
 unfold timeR timeB
 congr 2
 by_cases h19:19≤s.length
 ·rw [dT h19,Bool.true_and,tail_zone (by rw [lD];omega),zone_drop h19]
  generalize (zoneB (s.drop 11)).1=z
  obtain⟨b,hb⟩:∃b,s[10]? = some b:=⟨_,gE (by omega)⟩
  have hl10:(s.take 10).length=10:=by rw [lT];omega
  have h11:s.take 11=s.take 10++[b]:=by
   have:=List.take_add_one (l:=s) (i:=10)
   rw [hb] at this
   exact this
  rw [h11,aA,List.singleton_append,atB_get hb]
  generalize s.take 10=d at hl10 ⊢
  by_cases hok:(b == 84)=true∧dateB d=true
  ·have hb84:b=84:=by simpa using hok.1
   subst hb84
   rw [cutC_app (date_ok hok.2).2]
   rfl
  ·have hL:((b == 84) && (dateB d && clockB z))=false:=by
    cases h1:(b == 84) with
    | false=>rfl
    | true =>
     cases h2:dateB d with
     | false=>rfl
     | true=>exact absurd ⟨h1,h2⟩ hok
   rw [hL]
   symm
   cases hq:cutC 84 (d++b::z) with
   | mk d' q =>
    obtain⟨c',ok⟩:=q
    cases ok with
    | false=>rfl
    | true =>
     simp only [Bool.true_and]
     have he:=cutC_true hq
     cases hd':dateB d' with
     | false=>rfl
     | true =>
      exfalso
      have hl':=(date_ok hd').1
      have:=List.append_inj he (by omega)
      obtain⟨e1,e2⟩:=this
      simp only [List.cons.injEq] at e2
      exact hok ⟨by rw [e2.1];rfl,by rw [e1];exact hd'⟩
 ·rw [dF h19,Bool.false_and]
  symm
  cases hq:cutC 84 (zoneB s).1 with
  | mk d' q =>
   obtain⟨c',ok⟩:=q
   cases ok with
   | false=>rfl
   | true =>
    simp only [Bool.true_and]
    have he:=congrArg List.length (cutC_true hq)
    have hz:=zoneB_le s
    rw [lA,lC] at he
    cases hd':dateB d' with
    | false=>rfl
    | true =>
     cases hc':clockB c' with
     | false=>rfl
     | true =>
      have h1:=(date_ok hd').1
      have h2:=(clock_ok hc').1
      omega
end Go.Dn

namespace Go.Proofs.YthjebaophnkpbaaGreatDoor.Fn
open Go.ChangeShapes Go.WideShapes Go.ChangeAt Go.RowKit Go.Dn
theorem digitR (b:UInt8):PF A 135 [.int .u8 b.toNat] (.bool (dig b)) :=
 pf Tryz.func135 (by kernel_rfl) C1.F135_ok (s1 trivial) digitR_wp
theorem runR (s:List UInt8) (k:Nat) (hk:k≤s.length) (h:s.length<4611686018427387904):PF A 134 [.str s,.int .i64 k] (.int .i64 ((k+runB (s.drop k):Nat):Int)) :=
 pf Tryz.func134 (by kernel_rfl) C1.F134_ok (s2 trivial trivial) (runR_wp hm digitR hk h)
theorem digitsR (n:Nat) (h:n<9223372036854775808):PF A 151 [.int .i64 n] (.str (decB n)) :=
 pf Tryz.func151 (by kernel_rfl) C1.F151_ok (s1 trivial) (digits_wp hm h)
theorem decimalR (e:Int) (h1:-999999≤e) (h2:e≤999999):PF A 136 [.int .i64 e] (.str (itoaB e)) :=
 pf Tryz.func136 (by kernel_rfl) C1.F136_ok (s1 trivial) (decimal_wp hm digitsR h1 h2)
theorem splitR (s:List UInt8) (h:s.length<4611686018427387904):PF A 113 [.str s] (encSplit (splitB s)) :=
 pf Tryz.func113 (by kernel_rfl) C1.F113_ok (s1 trivial) (splitR_wp hm runR h)
theorem joinR (p:Parts3) (h:p.2.1.length≤1000):PF A 114 [encP p] (encJoin (joinB p)) :=
 pf Tryz.func114 (by kernel_rfl) C1.F114_ok (s1 ⟨trivial,trivial,trivial,trivial⟩) (joinR_wp hm digitR decimalR h)
theorem normalR (s:List UInt8) (h:s.length<4611686018427387904):PF A 93 [.str s] (encJoin (normB s)) :=
 pf Tryz.func93 (by kernel_rfl) C1.F93_ok (s1 trivial) (normalR_wp hm splitR joinR h)
theorem digs3 (s:List UInt8) (a n:Nat) (ha:a<4611686018427387904) (hn:n≤9) (h:s.length<4611686018427387904):PF A 117 [.str s,.int .i64 a,.int .i64 n] (.int .i64 (digI s a n)) :=
 pf Tryz.func117 (by kernel_rfl) C1.F117_ok (s3 trivial trivial trivial) (digs_wp hm ha hn h)
theorem date3 (s:List UInt8):PF A 115 [.str s] (.bool (dateB s)) :=
 pf Tryz.func115 (by kernel_rfl) C1.F115_ok (s1 trivial) (date3_wp hm digs3)
theorem clock3 (s:List UInt8) (h:s.length<4611686018427387904):PF A 116 [.str s] (.bool (clockB s)) :=
 pf Tryz.func116 (by kernel_rfl) C1.F116_ok (s1 trivial) (clock3_wp hm digs3 h)
theorem time3 (s:List UInt8) (h:s.length<4611686018427387904):PF A 94 [.str s] (.bool (timeB s)):=by
 rw [←timeR_eq]
 exact pf Tryz.func94 (by kernel_rfl) C1.F94_ok (s1 trivial) (time3_wp hm digs3 clock3 date3 h)
theorem charR (c:Int):PF A 118 [.int .i64 c] (.bool (charB c)) :=
 pf Tryz.func118 (by kernel_rfl) C1.F118_ok (s1 trivial) charR_wp
theorem oneR (s:List UInt8) (k:Nat) (hk:k<s.length) (h:s.length<4611686018427387904):PF A 95 [.str s,.int .i64 k] (encFirst (firstC (s.drop k))) :=
 pf Tryz.func95 (by kernel_rfl) C1.F95_ok (s2 trivial trivial) (one_wp hm charR hk h)
theorem runesR (s:List UInt8) (h:s.length<4294967281):A 83 [.str s] St.init fun r _=>RunesP s r :=
 AC_intro Tryz.checked.mixed Tryz.func83 (by kernel_rfl) C1.F83_ok (runes_wp hm oneR h)
theorem validR (s:List UInt8) (h:s.length<4294967281):PF A 65 [.str s] (.bool (validB s)) :=
 pf Tryz.func65 (by kernel_rfl) C1.F65_ok (s1 trivial) (validR_wp hm (runesR s h))
theorem shaped:∀t:PT,t.sok→PF A 82 [encT t] (.bool (formedB t)) :=
 indT fun t ih h=>pf Tryz.func82 (by kernel_rfl) C1.F82_ok (s1 (sta_T t)) (shaped_wp hm normalR validR time3 ih h)
theorem depth3:∀t:PT,t.n<4611686018427387904→PF A 81 [encT t] (.int .i64 t.dp) :=
 indT fun t ih h=>pf Tryz.func81 (by kernel_rfl) C1.F81_ok (s1 (sta_T t)) (depth3_wp hm (fun u hu=>ih u hu (by omega)) h)
theorem right3 (t:PT) (h:t.n<4611686018427387904) (hk:t.sok):PF A 64 [encT t] (.int .i64 (rightB t)) :=
 pf Tryz.func64 (by kernel_rfl) C1.F64_ok (s1 (sta_T t)) (right3_wp hm (depth3 t h) (size3 t 4097 (by omega)) (shaped t hk))
end Go.Proofs.YthjebaophnkpbaaGreatDoor.Fn

namespace Go.Dn
section
variable {α:Type} (le:α→α→Prop)
abbrev Srt (l:List α):Prop:=l.Pairwise le
variable {le}
theorem srt_app {x y:List α}:Srt le (x++y)↔Srt le x∧Srt le y∧∀u∈x,∀v∈y,le u v:=List.pairwise_append
theorem ends_le (tr:∀{a b c:α},le a b→le b c→le a c) {x y:List α} (hx:Srt le x) (hy:Srt le y) (h:∀u v,x[x.length-1]? = some u→y[0]? = some v→le u v) (rf:∀a,le a a):∀u∈x,∀v∈y,le u v:=by
 intro u hu v hv
 obtain⟨i,hi,rfl⟩:=List.mem_iff_getElem.1 hu
 obtain⟨j,hj,rfl⟩:=List.mem_iff_getElem.1 hv
 have h1:le x[i] (x[x.length-1]'(by omega)):=by
  rcases Nat.lt_or_ge i (x.length-1) with q | q
  ·exact List.pairwise_iff_getElem.1 hx i (x.length-1) hi (by omega) q
  ·have:i=x.length-1:=by omega
   simp only [this];exact rf _
 have h2:le (y[0]'(by omega)) y[j]:=by
  rcases Nat.eq_zero_or_pos j with q | q
  ·simp only [q];exact rf _
  ·exact List.pairwise_iff_getElem.1 hy 0 j (by omega) hj q
 exact tr (tr h1 (h _ _ (gE (by omega)) (gE (by omega)))) h2
theorem merge_ok {A B C D Z1 Z2:List α} (h1:Srt le Z1) (h2:Srt le Z2) (p1:Z1.Perm (A++C)) (p2:Z2.Perm (B++D)) (hAB:∀u∈A,∀v∈B,le u v) (hAD:∀u∈A,∀v∈D,le u v) (hCB:∀u∈C,∀v∈B,le u v) (hCD:∀u∈C,∀v∈D,le u v) :
  Srt le (Z1++Z2)∧(Z1++Z2).Perm ((A++B)++(C++D)):=by
 refine⟨srt_app.2 ⟨h1,h2,fun u hu v hv=>?_⟩,?_⟩
 ·have hu:=p1.mem_iff.1 hu
  have hv:=p2.mem_iff.1 hv
  rcases List.mem_append.1 hu with hu | hu<;>rcases List.mem_append.1 hv with hv | hv
  ·exact hAB u hu v hv
  ·exact hAD u hu v hv
  ·exact hCB u hu v hv
  ·exact hCD u hu v hv
 ·refine (p1.append p2).trans ?_
  rw [aA,aA]
  refine List.Perm.append_left A ?_
  rw [←aA,←aA]
  exact List.Perm.append_right D List.perm_append_comm
def Blk (le:α→α→Prop) (n:Nat) (d:List α):Prop:=∀(i j:Nat) (hi:i<d.length) (hj:j<d.length),i<j→i / n=j / n→le d[i] d[j]
theorem Blk.nil {n:Nat}:Blk le n []:=fun i j hi=>by simp at hi
theorem Blk.srt {n:Nat} {d:List α} (h:Blk le n d) (hn:d.length≤n):Srt le d :=
 List.pairwise_iff_getElem.2 fun i j hi hj hij=>h i j hi hj hij (by rw [Nat.div_eq_of_lt (by omega),Nat.div_eq_of_lt (by omega)])
theorem Blk.take {n:Nat} {x y:List α} (h:Blk le n (x++y)):Blk le n x:=fun i j hi hj hij e=>by
 have:=h i j (by rw [lA];omega) (by rw [lA];omega) hij e
 rwa [List.getElem_append_left hi,List.getElem_append_left hj] at this
theorem Blk.drop {n:Nat} {x y:List α} (h:Blk le n (x++y)) (hn:0<n) (hx:x.length % n=0):Blk le n y:=fun i j hi hj hij e=>by
 have:=h (x.length+i) (x.length+j) (by rw [lA];omega) (by rw [lA];omega) (by omega) (by
  obtain⟨k,hk⟩:=Nat.dvd_of_mod_eq_zero hx
  rw [hk,Nat.mul_add_div hn,Nat.mul_add_div hn,e])
 rw [List.getElem_append_right (by omega),List.getElem_append_right (by omega)] at this
 simpa only [Nat.add_sub_cancel_left] using this
theorem Blk.app {n:Nat} {x y:List α} (h:Blk le n x) (hn:0<n) (hx:x.length % n=0) (hy:Blk le n y):Blk le n (x++y):=fun i j hi hj hij e=>by
 obtain⟨k,hk⟩:=Nat.dvd_of_mod_eq_zero hx
 rcases Nat.lt_or_ge j x.length with q | q
 ·rw [List.getElem_append_left (by omega),List.getElem_append_left q]
  exact h i j (by omega) q hij e
 ·rcases Nat.lt_or_ge i x.length with q' | q'
  ·exfalso
   have h1:i / n<k:=by rw [Nat.div_lt_iff_lt_mul hn,Nat.mul_comm];omega
   have h2:k≤j / n:=by rw [Nat.le_div_iff_mul_le hn,Nat.mul_comm];omega
   omega
  ·rw [List.getElem_append_right q',List.getElem_append_right q]
   rw [lA] at hi hj
   refine hy _ _ (by omega) (by omega) (by omega) ?_
   have e1:i=n*k+(i-x.length):=by omega
   have e2:j=n*k+(j-x.length):=by omega
   rw [e1,e2,Nat.mul_add_div hn,Nat.mul_add_div hn] at e
   omega
theorem Blk.of {n:Nat} {d:List α} (h:Srt le d):Blk le n d:=fun i j hi hj hij _=>List.pairwise_iff_getElem.1 h i j hi hj hij
end
end Go.Dn

namespace Go.Dn
open Go Go.RowKit
def ints (l:List Nat):List AV:=l.map fun (n:Nat)=>AV.int .i64 (n:Int)
theorem ints_len (l:List Nat):(ints l).length=l.length:=by simp [ints]
theorem ints_get {l:List Nat} {i n:Nat} (h:l[i]? = some n):(ints l)[i]? = some (.int .i64 (n:Int)):=by simp [ints,h]
theorem ints_el (l:List Nat):∀y∈ints l,El false 1 y:=fun y hy=>by
 simp only [ints,List.mem_map] at hy
 obtain⟨n,_,rfl⟩:=hy
 exact⟨rfl,rfl⟩
theorem ints_set (l:List Nat) (i n:Nat):(ints l).set i (.int .i64 (n:Int))=ints (l.set i n):=by simp [ints,List.map_set]
def ArS (S:St) (R:List Rs) (ty:TypeId) (t b:Nat) (l:List Nat):Prop:=Hs S (R++[.bx b ty ((ints l).flatMap AV.cells++[]),.mk t t b])
abbrev slA (t n:Nat) (xs:List AV):AV:=.sl 1 ⟨some (t,t),0,some n,false⟩ xs
section
variable {S:St} {R:List Rs} {ty:TypeId} {t b:Nat} {l:List Nat}
theorem ArS.hi:(R++[Rs.bx b ty ((ints l).flatMap AV.cells++[]),Rs.mk t t b])[R.length]? = some (.bx b ty ((ints l).flatMap AV.cells++[])):=by simp
theorem ArS.hj:(R++[Rs.bx b ty ((ints l).flatMap AV.cells++[]),Rs.mk t t b])[R.length+1]? = some (.mk t t b):=by simp
theorem ArS.els (h:ArS S R ty t b l) {n:Nat} {xs:List AV} (hx:xs.length=l.length):elems S false 1 ⟨some (t,t),0,some n,false⟩ xs=some (ints l):=by
 have:=arr_els h ArS.hi ArS.hj (ints_el l) (off:=0) (cap:=some n) (nl:=false) (xs:=xs) (by rw [ints_len];omega)
 rw [List.drop_zero,hx,List.take_of_length_le (by rw [ints_len];omega)] at this
 exact this
theorem ArS.st (h:ArS S R ty t b l) {gt:GT} {d:Option Nat} {env:Env} {a x:DOpd} {n:Nat} {xs:List AV} {k v:Nat} (hx:xs.length=l.length) (ha:loc env a=some (.el 1 ⟨some (t,t),0,some n,false⟩ xs k 0)) (hv:opd env x=some (.int .i64 (v:Int))) (hk:k<l.length) :
  ∃S',stepO gt d env S (.st 1 a x)=.done (putV d .undef env) S'∧ArS S' R ty t b (l.set k v):=by
 obtain⟨S',h1,h2⟩:=arr_st h R.length ArS.hi ArS.hj (fun y hy=>(ints_el l y hy).1) (gt:=gt) (d:=d) (env:=env) (a:=a) (x:=x) (xs:=xs) (so:=0) (k:=k) (off:=0) (sz:=1) (cap:=some n) (nl:=false) (v:=.int .i64 (v:Int)) (v':=.int .i64 (v:Int)) ha hv rfl (by omega) (by rw [ints_len];omega) (Nat.le_refl 1) (by
  have hc:(ints l)[0+k]'(by rw [ints_len];omega)=.int .i64 ((l[k]:Nat):Int):=by simp [ints]
  rw [hc];rfl)
 refine⟨S',h1,?_⟩
 rw [Nat.zero_add,ints_set] at h2
 unfold ArS
 simpa using h2
end
theorem st_runPD {C:CallT} {gt:GT} {d:Option Nat} {op:DOp} {gd:Option (Nat×Bool)} {l:Option Nat} {env env':Env} {S:St} {P:St→Prop} {K:Env→St→Prop} {Q:Ex→Env→St→Prop} (h:∃S',stepO gt d env S op=.done env' S'∧P S') (hg:Gd env gd) (h0:isLoc op=false) (h1:conform l env op=true) (k:∀S',P S'→K env' S'):afterS C d env S K Q (stepD gt (⟨d,op,gd⟩,l) env S):=by
 obtain⟨S',h2,h3⟩:=h
 exact st_anyD hg h0 h1 h2 (k S' h3)
theorem set_mid {α:Type} {P Q:List α} {x y:α} {n:Nat} (h:n=P.length):(P++(x::Q)).set n y=P++(y::Q):=by
 subst h
 rw [List.set_append_right _ _ (Nat.le_refl _),Nat.sub_self];rfl
theorem get_mid {α:Type} {P Q:List α} {x:α} {n:Nat} (h:n=P.length):(P++(x::Q))[n]? = some x:=by
 subst h
 rw [List.getElem?_append_right (Nat.le_refl _),Nat.sub_self];rfl
end Go.Dn

namespace Go.Dn
open Go Go.Proofs.C1
set_option maxRecDepth 100000
attribute [local irreducible] afterS keepE
section
variable {gt:GT} {C:CallT} {R:List Rs} {ty:TypeId} {t b:Nat}
def SwapC (C:CallT) (R:List Rs) (ty:TypeId) (t b:Nat) (g:AV):Prop :=
 ∀(S:St) (xs:List AV) (P X M Y Q:List Nat) (a c n:Nat),a=P.length→c=P.length+X.length+M.length→n=X.length→xs.length=(P++(X++(M++(Y++Q)))).length→(P++(X++(M++(Y++Q)))).length<4611686018427387904→X.length=Y.length→ArS S R ty t b (P++(X++(M++(Y++Q)))) →
  C 150 [slA t xs.length xs,.int .i64 a,.int .i64 c,.int .i64 n,g] S fun r S'=>r=.ret (.tup [])∧ArS S' R ty t b (P++(Y++(M++(X++Q))))
def RotC (C:CallT) (R:List Rs) (ty:TypeId) (t b:Nat) (g:AV):Prop :=
 ∀(S:St) (xs:List AV) (P X Y Q:List Nat) (a m c:Nat),a=P.length→m=P.length+X.length→c=P.length+X.length+Y.length→X≠[]→Y≠[]→xs.length=(P++(X++(Y++Q))).length→(P++(X++(Y++Q))).length<2305843009213693952→ArS S R ty t b (P++(X++(Y++Q))) →
  C 133 [slA t xs.length xs,.int .i64 a,.int .i64 m,.int .i64 c,g] S fun r S'=>r=.ret (.tup [])∧ArS S' R ty t b (P++(Y++(X++Q)))
abbrev E_sw (t:Nat) (xs:List AV) (a c n i:Nat):Env:=[(0,.val (slA t xs.length xs)),(1,.val (.int .i64 a)),(2,.val (.int .i64 c)),(3,.val (.int .i64 n)),(10,.val (.int .i64 i))]
set_option maxHeartbeats 4000000 in
theorem swap_wp (hm:MonoC C) {S:St} {xs:List AV} {P X M Y Q:List Nat} {g:AV} (hx:xs.length=(P++(X++(M++(Y++Q)))).length) (hl:(P++(X++(M++(Y++Q)))).length<4611686018427387904) (hxy:X.length=Y.length) (hA:ArS S R ty t b (P++(X++(M++(Y++Q))))) :
  wpF gt C F150 [slA t xs.length xs,.int .i64 P.length,.int .i64 ((P.length+X.length+M.length:Nat):Int),.int .i64 X.length,g] S fun r S'=>r=.ret (.tup [])∧ArS S' R ty t b (P++(Y++(M++(X++Q)))):=by
 have hlen:(P++(X++(M++(Y++Q)))).length=P.length+(X.length+(M.length+(Y.length+Q.length))):=by simp only [lA]
 rw [hlen] at hx hl
 refine⟨rfl,?_⟩
 refine goW ?_
 refine loop_rule hm (α:=Nat×List Nat×List Nat×List Nat×List Nat) (fun a env S'=>env=E_sw t xs P.length (P.length+X.length+M.length) X.length a.1∧a.1+a.2.2.1.length=X.length∧a.2.1.length=P.length+a.1∧a.2.2.1.length=a.2.2.2.2.length∧a.2.1.length+a.2.2.1.length+a.2.2.2.1.length=P.length+X.length+M.length+a.1 ∧
   ArS S' R ty t b (a.2.1++(a.2.2.1++(a.2.2.2.1++(a.2.2.2.2++Q))))∧P++(Y++(M++(X++Q)))=a.2.1++(a.2.2.2.2++(a.2.2.2.1++(a.2.2.1++Q)))) (fun a=>X.length-a.1) ?_ (a:=(0,P,X,M,Y)) ⟨rfl,by simp,by simp,hxy,by simp,hA,rfl⟩
 rintro⟨i,Pi,Xi,Mi,Yi⟩ env S' ⟨rfl,h1,h2,h3,h4,hA,hT⟩
 simp only at h1 h2 h3 h4 hA hT
 refine goW ?_
 by_cases hc:(i:Int)<(X.length:Nat)
 ·rw [dT hc]
  match Xi,Yi,h1,h3,h4,hA,hT with
  | [],_,h1,_,_,_,_=>simp at h1;omega
  | _::_,[],_,h3,_,_,_=>simp at h3
  | x::Xr,y::Yr,h1,h3,h4,hA,hT =>
  simp only [lC] at h1 h3 h4
  have hla:(Pi++((x::Xr)++(Mi++((y::Yr)++Q)))).length=xs.length:=by simp only [lA,lC];omega
  have g1:(Pi++((x::Xr)++(Mi++((y::Yr)++Q))))[P.length+i]? = some x:=get_mid (by omega)
  have g2:(Pi++((x::Xr)++(Mi++((y::Yr)++Q))))[P.length+X.length+M.length+i]? = some y:=by
   rw [show Pi++((x::Xr)++(Mi++((y::Yr)++Q)))=(Pi++((x::Xr)++Mi))++(y::(Yr++Q)) by simp only [aA,List.cons_append]]
   exact get_mid (by simp only [lA,lC];omega)
  have s1:(Pi++((x::Xr)++(Mi++((y::Yr)++Q)))).set (P.length+i) y=Pi++(y::(Xr++(Mi++((y::Yr)++Q)))):=set_mid (by omega)
  have s2:(Pi++(y::(Xr++(Mi++((y::Yr)++Q))))).set (P.length+X.length+M.length+i) x=(Pi++[y])++(Xr++((Mi++[x])++(Yr++Q))):=by
   rw [show Pi++(y::(Xr++(Mi++((y::Yr)++Q))))=(Pi++(y::(Xr++Mi)))++(y::(Yr++Q)) by simp only [aA,List.cons_append],set_mid (by simp only [lA,lC];omega)]
   simp only [aA,List.cons_append,List.nil_append]
  generalize Pi++((x::Xr)++(Mi++((y::Yr)++Q)))=l at hA hla g1 g2 s1
  have k1:P.length+i<l.length:=by omega
  have k2:P.length+X.length+M.length+i<l.length:=by omega
  have w1:wr .i64 ((P.length:Int)+(i:Int))=((P.length+i:Nat):Int):=by rw [wr64 (by omega) (by omega)];omega
  have w2:wr .i64 (((P.length+X.length+M.length:Nat):Int)+(i:Int))=((P.length+X.length+M.length+i:Nat):Int):=by rw [wr64 (by omega) (by omega)];omega
  refine goW ?_
  rw [w1,w2]
  refine step_ruleDO rfl rfl (sx_ia (k:=P.length+X.length+M.length+i) rfl rfl (by omega)) (goW ?_)
  refine step_ruleDO rfl rfl (sx_ldEl (agg:=false) rfl (hA.els hla.symm) (ints_get g2) rfl) (goW ?_)
  rw [w1]
  refine step_ruleDO rfl rfl (sx_ia (k:=P.length+i) rfl rfl (by omega)) (goW ?_)
  refine step_ruleDO rfl rfl (sx_ldEl (agg:=false) rfl (hA.els hla.symm) (ints_get g1) rfl) (goW ?_)
  refine step_ruleDO rfl rfl (sx_ia (k:=P.length+i) rfl rfl (by omega)) (goW ?_)
  refine st_runPD (hA.st hla.symm rfl rfl k1) (by trivial) rfl rfl ?_
  intro S2 hA
  rw [s1] at hA
  refine goW ?_
  refine step_ruleDO rfl rfl (sx_ia (k:=P.length+X.length+M.length+i) rfl rfl (by omega)) (goW ?_)
  have hl2:(Pi++(y::(Xr++(Mi++((y::Yr)++Q))))).length=l.length:=by rw [←s1,List.length_set]
  refine st_runPD (hA.st (by omega) rfl rfl (by omega)) (by trivial) rfl rfl ?_
  intro S3 hA
  rw [s2] at hA
  refine goW ?_
  refine⟨(i+1,Pi++[y],Xr,Mi++[x],Yr),⟨?_,by simp only;omega,by simp only [lA,lC,List.length_nil];omega,by simp only;omega,by simp only [lA,lC,List.length_nil];omega,hA,?_⟩,by simp only;omega⟩
  ·rw [wrNat (by omega)]
  ·rw [hT];simp only [aA,List.cons_append,List.nil_append]
 ·rw [dF hc]
  have e1:Xi=[]:=nL (by omega)
  have e2:Yi=[]:=nL (by omega)
  subst e1;subst e2
  refine goW ?_
  refine⟨_,rfl,rfl,?_⟩
  rw [hT];exact hA
abbrev E_ro (t:Nat) (xs:List AV) (m:Nat) (g:AV) (i j:Nat):Env:=[(0,.val (slA t xs.length xs)),(2,.val (.int .i64 m)),(4,.val g),(10,.val (.int .i64 i)),(11,.val (.int .i64 j))]
set_option maxHeartbeats 4000000 in
theorem rot_wp (hm:MonoC C) {f:FuncId} {cs:List AV} (hsw:SwapC C R ty t b (.fn f [] cs)) {S:St} {xs:List AV} {P X Y Q:List Nat} (h1:X≠[]) (h2:Y≠[]) (hx:xs.length=(P++(X++(Y++Q))).length) (hl:(P++(X++(Y++Q))).length<2305843009213693952) (hA:ArS S R ty t b (P++(X++(Y++Q)))) :
  wpF gt C F133 [slA t xs.length xs,.int .i64 P.length,.int .i64 ((P.length+X.length:Nat):Int),.int .i64 ((P.length+X.length+Y.length:Nat):Int),.fn f [] cs] S fun r S'=>r=.ret (.tup [])∧ArS S' R ty t b (P++(Y++(X++Q))):=by
 have hlen:(P++(X++(Y++Q))).length=P.length+(X.length+(Y.length+Q.length)):=by simp only [lA]
 rw [hlen] at hx hl
 have p1:0<X.length:=List.length_pos_iff.2 h1
 have p2:0<Y.length:=List.length_pos_iff.2 h2
 refine⟨rfl,?_⟩
 refine goW ?_
 rw [show wr .i64 (((P.length+X.length:Nat):Int)-(P.length:Int))=(X.length:Int) by rw [wr64 (by omega) (by omega)];omega,show wr .i64 (((P.length+X.length+Y.length:Nat):Int)-((P.length+X.length:Nat):Int))=(Y.length:Int) by rw [wr64 (by omega) (by omega)];omega]
 refine loop_rule hm (α:=List Nat×List Nat×List Nat×List Nat) (fun a env S'=>env=E_ro t xs (P.length+X.length) (.fn f [] cs) a.2.1.length a.2.2.1.length∧0<a.2.1.length∧0<a.2.2.1.length∧a.1.length+a.2.1.length=P.length+X.length∧xs.length=(a.1++(a.2.1++(a.2.2.1++a.2.2.2))).length ∧
   ArS S' R ty t b (a.1++(a.2.1++(a.2.2.1++a.2.2.2)))∧P++(Y++(X++Q))=a.1++(a.2.2.1++(a.2.1++a.2.2.2))) (fun a=>a.2.1.length+a.2.2.1.length) ?_ (a:=(P,X,Y,Q)) ⟨rfl,p1,p2,rfl,by rw [hlen,hx],hA,rfl⟩
 rintro⟨P',L,U,Q'⟩ env S' ⟨rfl,l1,l2,l3,l4,hA,hT⟩
 simp only at l1 l2 l3 l4 hA hT
 have hlen':(P'++(L++(U++Q'))).length=P'.length+(L.length+(U.length+Q'.length)):=by simp only [lA]
 have w1:wr .i64 (((P.length+X.length:Nat):Int)-(L.length:Int))=((P'.length:Nat):Int):=by rw [wr64 (by omega) (by omega)];omega
 refine goW ?_
 by_cases hne:(L.length:Int)=U.length
 ·rw [neI_false hne]
  refine goW ?_
  rw [w1]
  refine call_rule (by rfl) (hm _ _ _ _ _ (hsw S' xs P' L [] U Q' P'.length (P.length+X.length) L.length rfl (by simp only [List.length_nil];omega) rfl l4 (by simp only [List.nil_append];omega) (by omega) hA) ?_)
  rintro r S2 ⟨rfl,hA⟩
  refine goW ?_
  refine⟨_,rfl,rfl,?_⟩
  rw [hT];exact hA
 rw [neI_true hne]
 refine goW ?_
 by_cases hgt:(L.length:Int) > U.length
 ·rw [dT hgt]
  obtain⟨L1,L2,hL,e1,hLl⟩:∃L1 L2,L=L1++L2∧L1.length=U.length∧L1.length+L2.length=L.length:=⟨L.take U.length,L.drop U.length,(tkD _ _).symm,by rw [lT];omega,by rw [lT,lD];omega⟩
  have l5:xs.length=(P'++(L1++(L2++(U++Q')))).length:=by simp only [lA];omega
  rw [hL,aA] at hA hT
  refine goW ?_
  rw [w1]
  refine call_rule (by rfl) (hm _ _ _ _ _ (hsw S' xs P' L1 L2 U Q' P'.length (P.length+X.length) U.length rfl (by omega) (by omega) l5 (by rw [←l5];omega) e1 hA) ?_)
  rintro r S2 ⟨rfl,hA⟩
  refine goW ?_
  refine⟨(P'++U,L2,L1,Q'),⟨?_,by simp only;omega,by simp only;omega,by simp only [lA];omega,?_,?_,?_⟩,by simp only;omega⟩
  ·simp only [E_ro]
   rw [wr64 (by omega) (by omega),show (L.length:Int)-(U.length:Int)=(L2.length:Int) by omega,e1]
   try rfl
  ·simp only [lA];omega
  ·rw [aA];exact hA
  ·rw [hT];simp only [aA]
 ·rw [dF hgt]
  obtain⟨U1,U2,hU,e1,hUl⟩:∃U1 U2,U=U1++U2∧U2.length=L.length∧U1.length+U2.length=U.length:=⟨U.take (U.length-L.length),U.drop (U.length-L.length),(tkD _ _).symm,by rw [lD];omega,by rw [lT,lD];omega⟩
  have l5:xs.length=(P'++(L++(U1++(U2++Q')))).length:=by simp only [lA];omega
  rw [hU,aA] at hA hT
  refine goW ?_
  rw [w1,wr64 (n:=((P.length+X.length:Nat):Int)+(U.length:Int)) (by omega) (by omega),show wr .i64 (((P.length+X.length:Nat):Int)+(U.length:Int)-(L.length:Int))=((P.length+X.length+U1.length:Nat):Int) by rw [wr64 (by omega) (by omega)];omega]
  refine call_rule (by rfl) (hm _ _ _ _ _ (hsw S' xs P' L U1 U2 Q' P'.length (P.length+X.length+U1.length) L.length rfl (by omega) rfl l5 (by rw [←l5];omega) e1.symm hA) ?_)
  rintro r S2 ⟨rfl,hA⟩
  refine goW ?_
  refine⟨(P',U2,U1,L++Q'),⟨?_,by simp only;omega,by simp only;omega,by simp only;omega,?_,hA,?_⟩,by simp only;omega⟩
  ·simp only [E_ro]
   rw [wr64 (by omega) (by omega),show (U.length:Int)-(L.length:Int)=(U1.length:Int) by omega,e1]
   try rfl
  ·simp only [lA];omega
  ·rw [hT]
end

structure Cz (cz:Nat→Nat→Int):Prop where
 rf:∀a,0≤cz a a
 tr:∀{a b c},0≤cz b a→0≤cz c b→0≤cz c a
 asy:∀{a b},cz a b<0→0≤cz b a
def leZ (cz:Nat→Nat→Int) (a b:Nat):Prop:=0≤cz b a
def CmpC (C:CallT) (f:FuncId) (cs:List AV) (R:List Rs) (ty:TypeId) (t b n:Nat) (cz:Nat→Nat→Int):Prop :=
 ∀(S:St) (l:List Nat) (i j:Nat),ArS S R ty t b l→i<n→j<n→C f (.int .i64 i::.int .i64 j::cs) S fun r S'=>r=.ret (.int .i64 (cz i j))∧S'=S
section
variable {gt:GT} {C:CallT} {R:List Rs} {ty:TypeId} {t b:Nat}
def InsC (C:CallT) (R:List Rs) (ty:TypeId) (t b n:Nat) (g:AV) (cz:Nat→Nat→Int):Prop :=
 ∀(S:St) (xs:List AV) (P X Q:List Nat) (a c:Nat),a=P.length→c=P.length+X.length→(∀x∈X,x<n)→xs.length=(P++(X++Q)).length→(P++(X++Q)).length<2305843009213693952→ArS S R ty t b (P++(X++Q)) →
  C 108 [slA t xs.length xs,.int .i64 a,.int .i64 c,g] S fun r S'=>r=.ret (.tup [])∧∃Z,Z.Perm X∧Srt (leZ cz) Z∧ArS S' R ty t b (P++(Z++Q))
abbrev E_in (t:Nat) (xs:List AV) (a c:Nat) (g:AV) (i:Nat):Env:=[(0,.val (slA t xs.length xs)),(1,.val (.int .i64 a)),(2,.val (.int .i64 c)),(3,.val g),(8,.val (.int .i64 i))]
abbrev E_in2 (t:Nat) (xs:List AV) (a c:Nat) (g:AV) (i j:Nat):Env:=[(0,.val (slA t xs.length xs)),(1,.val (.int .i64 a)),(2,.val (.int .i64 c)),(3,.val g),(8,.val (.int .i64 i)),(9,.val (.int .i64 j))]
theorem srt_ins {cz:Nat→Nat→Int} (hz:Cz cz) {L U:List Nat} {x:Nat} (h:Srt (leZ cz) (L++U)) (h1:∀u∈U,cz x u<0) (h2:∀v,L[L.length-1]? = some v→0≤cz x v):Srt (leZ cz) (L++(x::U)):=by
 obtain⟨a,c,d⟩:=srt_app.1 h
 have hL:∀u∈L,leZ cz u x:=fun u hu=>by
  have:=ends_le (le:=leZ cz) (fun h h'=>hz.tr h h') (x:=L) (y:=[x]) a (List.pairwise_singleton _ _) (fun u v e1 e2=>by
   simp only [List.getElem?_cons_zero,oI] at e2
   subst e2
   exact h2 u e1) (fun a=>hz.rf a)
  exact this u hu x (by simp)
 refine srt_app.2 ⟨a,List.pairwise_cons.2 ⟨fun u hu=>hz.asy (h1 u hu),c⟩,fun u hu v hv=>?_⟩
 rcases List.mem_cons.1 hv with rfl | hv
 ·exact hL u hu
 ·exact d u hu v hv
set_option maxHeartbeats 8000000 in
theorem ins_wp (hm:MonoC C) {f:FuncId} {cs:List AV} {n:Nat} {cz:Nat→Nat→Int} (hz:Cz cz) (hc:CmpC C f cs R ty t b n cz) {S:St} {xs:List AV} {P X Q:List Nat} (hX:∀x∈X,x<n) (hx:xs.length=(P++(X++Q)).length) (hl:(P++(X++Q)).length<2305843009213693952) (hA:ArS S R ty t b (P++(X++Q))) :
  wpF gt C F108 [slA t xs.length xs,.int .i64 P.length,.int .i64 ((P.length+X.length:Nat):Int),.fn f [] cs] S fun r S'=>r=.ret (.tup [])∧∃Z,Z.Perm X∧Srt (leZ cz) Z∧ArS S' R ty t b (P++(Z++Q)):=by
 have hlen:(P++(X++Q)).length=P.length+(X.length+Q.length):=by simp only [lA]
 rw [hlen] at hx hl
 refine⟨rfl,?_⟩
 refine goW ?_
 rw [wrNat (by omega)]
 refine loop_rule hm (α:=List Nat×List Nat×Nat) (fun a env S'=>env=E_in t xs P.length (P.length+X.length) (.fn f [] cs) a.2.2∧(a.2.2=P.length+a.1.length∨(a.2.1=[]∧P.length+X.length≤a.2.2∧a.2.2≤P.length+X.length+1))∧(a.1++a.2.1).Perm X∧Srt (leZ cz) a.1∧ArS S' R ty t b (P++(a.1++(a.2.1++Q)))) (fun a=>P.length+X.length+1-a.2.2) ?_
  (a:=(X.take 1,X.drop 1,P.length+1)) ⟨rfl,?_,by rw [tkD],?_,by rw [←aA (X.take 1),tkD];exact hA⟩
 case refine_2 =>
  cases X with
  | nil=>right;exact⟨rfl,by simp,by simp⟩
  | cons x r=>left;simp
 case refine_3 =>
  cases X with
  | nil=>exact List.Pairwise.nil
  | cons x r=>exact List.pairwise_singleton _ _
 rintro⟨Z,W,i⟩ env S' ⟨rfl,hi,hp,hs,hA⟩
 simp only at hi hp hs hA
 have hpl:=hp.length_eq
 rw [lA] at hpl
 have hmem:∀x∈Z++W,x<n:=fun x hx=>hX x (hp.mem_iff.1 hx)
 refine goW ?_
 by_cases hc1:(i:Int)<((P.length+X.length:Nat):Int)
 ·rw [dT hc1]
  have hi':i=P.length+Z.length:=by
   rcases hi with h | ⟨h1,h2,h3⟩
   ·exact h
   ·omega
  cases W with
  | nil=>simp only [List.length_nil] at hpl;omega
  | cons x W' =>
  simp only [lC] at hpl
  have hxn:x<n:=hmem x (by simp)
  refine goW ?_
  refine loop_rule hm (α:=List Nat×List Nat) (fun a env S'=>env=E_in2 t xs P.length (P.length+X.length) (.fn f [] cs) i (P.length+a.1.length)∧a.1++a.2=Z∧(∀u∈a.2,cz x u<0)∧ArS S' R ty t b (P++(a.1++(x::(a.2++(W'++Q)))))) (fun a=>a.1.length) ?_ (a:=(Z,[])) ⟨by rw [hi'],by simp,fun u hu=>by simp at hu,by simpa using hA⟩
  rintro⟨L,U⟩ env S2 ⟨rfl,hLU,hU,hA⟩
  simp only at hLU hU hA
  have hzl:=congrArg List.length hLU
  rw [lA] at hzl
  have hxl:xs.length=(P++(L++(x::(U++(W'++Q))))).length:=by simp only [lA,lC];omega
  have done:(∀v,L[L.length-1]? = some v→0≤cz x v)→∃a:List Nat×List Nat×Nat,(E_in t xs P.length (P.length+X.length) (.fn f [] cs) (i+1)=E_in t xs P.length (P.length+X.length) (.fn f [] cs) a.2.2∧(a.2.2=P.length+a.1.length∨(a.2.1=[]∧P.length+X.length≤a.2.2∧a.2.2≤P.length+X.length+1))∧(a.1++a.2.1).Perm X∧Srt (leZ cz) a.1∧ArS S2 R ty t b (P++(a.1++(a.2.1++Q))))∧P.length+X.length+1-a.2.2<P.length+X.length+1-i:=fun h=>by
   refine⟨(L++(x::U),W',i+1),⟨rfl,.inl (by simp only [lA,lC];omega),?_,?_,?_⟩,by simp only;omega⟩
   ·refine List.Perm.trans ?_ hp
    simp only
    rw [←hLU,aA,aA,List.cons_append]
    exact List.Perm.append_left L (List.perm_middle.symm)
   ·exact srt_ins hz (by rw [hLU];exact hs) hU h
   ·simpa only [aA,List.cons_append] using hA
  refine goW ?_
  rcases List.eq_nil_or_concat L with hL | ⟨L',v,hL⟩
  ·subst hL
   rw [dF (show ¬((P.length+([]:List Nat).length:Nat):Int) > (P.length:Int) by simp)]
   have done:=done (fun v h=>by simp at h)
   refine goW ?_
   rw [wrNat (by omega)]
   exact done
  rw [List.concat_eq_append] at hL
  subst hL
  have hvl:(L'++[v]).length=L'.length+1:=by simp
  rw [hvl] at hzl
  have hvn:v<n:=hmem v (by rw [←hLU];simp)
  have hA0:=hA
  have done:=fun (h:0≤cz x v)=>done (fun v' h'=>by
   rw [hvl,Nat.add_sub_cancel,get_mid rfl] at h'
   cases h';exact h)
  have e1:P++((L'++[v])++(x::(U++(W'++Q))))=(P++L')++(v::(x::(U++(W'++Q)))):=by simp only [aA,List.cons_append,List.nil_append]
  have e2:P++((L'++[v])++(x::(U++(W'++Q))))=(P++(L'++[v]))++(x::(U++(W'++Q))):=by simp only [aA,List.cons_append,List.nil_append]
  have g1:(P++((L'++[v])++(x::(U++(W'++Q)))))[P.length+L'.length]? = some v:=by rw [e1];exact get_mid (by rw [lA])
  have g2:(P++((L'++[v])++(x::(U++(W'++Q)))))[P.length+L'.length+1]? = some x:=by rw [e2];exact get_mid (by simp only [lA,lC,List.length_nil];omega)
  have s1:(P++((L'++[v])++(x::(U++(W'++Q))))).set (P.length+L'.length+1) v=(P++L')++(v::(v::(U++(W'++Q)))):=by
   rw [e2,set_mid (by simp only [lA,lC,List.length_nil];omega)]
   simp only [aA,List.cons_append,List.nil_append]
  have s2:((P++L')++(v::(v::(U++(W'++Q))))).set (P.length+L'.length) x=P++(L'++(x::((v::U)++(W'++Q)))):=by
   rw [set_mid (by rw [lA])]
   simp only [aA,List.cons_append]
  have hls:((P++L')++(v::(v::(U++(W'++Q))))).length=xs.length:=by rw [←s1,List.length_set,hxl]
  generalize hgl:P++((L'++[v])++(x::(U++(W'++Q))))=l at hA g1 g2 s1 hxl
  rw [hvl]
  have k1:P.length+L'.length<l.length:=by omega
  have k2:P.length+L'.length+1<l.length:=by omega
  have w1:wr .i64 (((P.length+(L'.length+1):Nat):Int)-1)=((P.length+L'.length:Nat):Int):=by rw [wr64 (by omega) (by omega)];omega
  rw [dT (show ((P.length+(L'.length+1):Nat):Int) > (P.length:Int) by omega)]
  refine goW ?_
  refine st_anyD (by exact rfl) rfl rfl (sx_ia (k:=P.length+L'.length+1) rfl rfl (by omega)) (goW ?_)
  refine st_anyD (by exact rfl) rfl rfl (sx_ldEl (agg:=false) rfl (hA.els hxl) (ints_get g2) rfl) (goW ?_)
  rw [w1]
  refine st_anyD (by exact rfl) rfl rfl (sx_ia (k:=P.length+L'.length) rfl rfl (by omega)) (goW ?_)
  refine st_anyD (by exact rfl) rfl rfl (sx_ldEl (agg:=false) rfl (hA.els hxl) (ints_get g1) rfl) (goW ?_)
  refine call_ruleD (by rfl) (hm _ _ _ _ _ (hc S2 l x v hA hxn hvn) ?_)
  rintro r S3 ⟨rfl,rfl⟩
  refine goW ?_
  by_cases hlt:cz x v<0
  case neg =>
   rw [dF hlt]
   have done:=done (by omega)
   refine goW ?_
   rw [wrNat (by omega)]
   exact done
  rw [dT hlt]
  refine goW ?_
  rw [w1]
  refine step_ruleDO rfl rfl (sx_ia (k:=P.length+L'.length) rfl rfl (by omega)) (goW ?_)
  refine step_ruleDO rfl rfl (sx_ldEl (agg:=false) rfl (hA.els hxl) (ints_get g1) rfl) (goW ?_)
  refine step_ruleDO rfl rfl (sx_ia (k:=P.length+L'.length+1) rfl rfl (by omega)) (goW ?_)
  refine step_ruleDO rfl rfl (sx_ldEl (agg:=false) rfl (hA.els hxl) (ints_get g2) rfl) (goW ?_)
  refine step_ruleDO rfl rfl (sx_ia (k:=P.length+L'.length+1) rfl rfl (by omega)) (goW ?_)
  refine st_runPD (hA.st hxl rfl rfl k2) (by trivial) rfl rfl ?_
  intro S4 hA
  rw [s1] at hA
  refine goW ?_
  refine step_ruleDO rfl rfl (sx_ia (k:=P.length+L'.length) rfl rfl (by omega)) (goW ?_)
  refine st_runPD (hA.st hls.symm rfl rfl (by omega)) (by trivial) rfl rfl ?_
  intro S5 hA
  rw [s2] at hA
  refine goW ?_
  refine⟨(L',v::U),⟨?_,by rw [←hLU];simp,fun u hu=>?_,hA⟩,by simp only [hvl];omega⟩
  ·rw [w1]
  ·rcases List.mem_cons.1 hu with rfl | hu
   ·exact hlt
   ·exact hU u hu
 ·rw [dF hc1]
  have hW:W=[]:=by
   rcases hi with h | ⟨h1,_⟩
   ·exact nL (by omega)
   ·exact h1
  subst hW
  rw [List.append_nil] at hp
  refine goW ?_
  exact⟨_,rfl,rfl,Z,hp,hs,by simpa using hA⟩
end

theorem ltZ_le {cz:Nat→Nat→Int} (hz:Cz cz) {u y x:Nat} (h:leZ cz u y) (h1:cz y x<0):cz u x<0:=by
 rcases Int.lt_or_le (cz u x) 0 with q | q
 ·exact q
 ·have:0≤cz y x:=hz.tr (a:=x) (b:=u) (c:=y) q h
  omega
theorem srt_take_le {cz:Nat→Nat→Int} (hz:Cz cz) {Y:List Nat} (h:Srt (leZ cz) Y) {k:Nat} (hk:k<Y.length):∀u∈Y.take (k+1),leZ cz u Y[k]:=by
 intro u hu
 obtain⟨i,hi,rfl⟩:=List.mem_iff_getElem.1 hu
 rw [lT] at hi
 rw [List.getElem_take]
 rcases Nat.lt_or_ge i k with q | q
 ·exact List.pairwise_iff_getElem.1 h i k (by omega) hk q
 ·have:i=k:=by omega
  subst this;exact hz.rf _
theorem srt_drop_ge {cz:Nat→Nat→Int} (hz:Cz cz) {Y:List Nat} (h:Srt (leZ cz) Y) {k:Nat} (hk:k<Y.length):∀u∈Y.drop k,leZ cz Y[k] u:=by
 intro u hu
 obtain⟨i,hi,rfl⟩:=List.mem_iff_getElem.1 hu
 rw [lD] at hi
 rw [List.getElem_drop]
 rcases Nat.eq_zero_or_pos i with q | q
 ·subst q;exact hz.rf _
 ·exact List.pairwise_iff_getElem.1 h k (k+i) hk (by omega) (by omega)
theorem srt_put {cz:Nat→Nat→Int} {Y:List Nat} {x p:Nat} (h:Srt (leZ cz) Y) (h1:∀u∈Y.take p,leZ cz u x) (h2:∀u∈Y.drop p,leZ cz x u):Srt (leZ cz) (Y.take p++(x::Y.drop p)):=by
 rw [←tkD p Y] at h
 obtain⟨a,c,d⟩:=srt_app.1 h
 refine srt_app.2 ⟨a,List.pairwise_cons.2 ⟨h2,c⟩,fun u hu v hv=>?_⟩
 rcases List.mem_cons.1 hv with rfl | hv
 ·exact h1 u hu
 ·exact d u hu v hv
theorem midW {i j:Nat} (h:i+j<9223372036854775808):wr .i64 ((wr .u64 (wr .i64 ((i:Int)+(j:Int)))).fdiv (2 ^ (min (Int.toNat 1) (IntKind.bits .u64))))=(((i+j) / 2:Nat):Int):=by
 rw [wr64 (n:=(i:Int)+(j:Int)) (by omega) (by omega),wr_eq .u64,show IntKind.u64.wrap ((i:Int)+(j:Int))=((i+j:Nat):Int) by
  have:∀n:Int,IntKind.u64.wrap n=n % 18446744073709551616:=fun n=>by simp [IntKind.wrap,IntKind.bits,IntKind.signed]
  rw [this];omega]
 rw [show min (Int.toNat 1) (IntKind.bits .u64)=1 by decide,show ((2:Int) ^ 1)=2 by decide,Int.fdiv_eq_ediv_of_nonneg _ (by decide),wr64 (by omega) (by omega)]
 omega
section
variable {gt:GT} {C:CallT} {R:List Rs} {ty:TypeId} {t b:Nat}
def MrgC (C:CallT) (R:List Rs) (ty:TypeId) (t b n:Nat) (g:AV) (cz:Nat→Nat→Int) (k:Nat):Prop :=
 ∀(S:St) (xs:List AV) (P X Y Q:List Nat) (a m c:Nat),X.length+Y.length≤k→a=P.length→m=P.length+X.length→c=P.length+X.length+Y.length→X≠[]→Y≠[]→(∀x∈X++Y,x<n)→Srt (leZ cz) X→Srt (leZ cz) Y→xs.length=(P++(X++(Y++Q))).length→(P++(X++(Y++Q))).length<1152921504606846976→ArS S R ty t b (P++(X++(Y++Q))) →
  C 109 [slA t xs.length xs,.int .i64 a,.int .i64 m,.int .i64 c,g] S fun r S'=>r=.ret (.tup [])∧∃Z,Z.Perm (X++Y)∧Srt (leZ cz) Z∧ArS S' R ty t b (P++(Z++Q))
abbrev E_m1 (t:Nat) (xs:List AV) (a:Nat) (g:AV) (i j:Nat):Env:=[(0,.val (slA t xs.length xs)),(1,.val (.int .i64 a)),(4,.val g),(10,.val (.int .i64 i)),(11,.val (.int .i64 j))]
abbrev E_m1b (t:Nat) (xs:List AV) (i k:Nat):Env:=[(0,.val (slA t xs.length xs)),(10,.val (.int .i64 i)),(13,.val (.int .i64 k))]
set_option maxHeartbeats 8000000 in
theorem mrg1_wp (hm:MonoC C) {f:FuncId} {cs:List AV} {n:Nat} {cz:Nat→Nat→Int} (hz:Cz cz) (hc:CmpC C f cs R ty t b n cz) {S:St} {xs:List AV} {P Y Q:List Nat} {x:Nat} (hY:∀y∈Y,y<n) (hxn:x<n) (hs:Srt (leZ cz) Y) (hx:xs.length=(P++(x::(Y++Q))).length) (hl:(P++(x::(Y++Q))).length<1152921504606846976) (hA:ArS S R ty t b (P++(x::(Y++Q)))) :
  wpF gt C F109 [slA t xs.length xs,.int .i64 P.length,.int .i64 ((P.length+1:Nat):Int),.int .i64 ((P.length+1+Y.length:Nat):Int),.fn f [] cs] S fun r S'=>r=.ret (.tup [])∧∃Z,Z.Perm (x::Y)∧Srt (leZ cz) Z∧ArS S' R ty t b (P++(Z++Q)):=by
 have hlen:(P++(x::(Y++Q))).length=P.length+(Y.length+Q.length+1):=by simp only [lA,lC]
 rw [hlen] at hl
 refine⟨rfl,?_⟩
 refine goW ?_
 rw [show wr .i64 (((P.length+1:Nat):Int)-(P.length:Int))=1 by rw [wr64 (by omega) (by omega)];omega]
 refine goW ?_
 refine loop_rule hm (α:=Nat×Nat) (fun a env S'=>env=E_m1 t xs P.length (.fn f [] cs) (P.length+1+a.1) (P.length+1+a.2)∧a.1≤a.2∧a.2≤Y.length∧S'=S∧(∀u∈Y.take a.1,cz u x<0)∧(∀u∈Y.drop a.2,0≤cz u x)) (fun a=>a.2-a.1) ?_ (a:=(0,Y.length)) ⟨rfl,Nat.zero_le _,Nat.le_refl _,rfl,by simp,by simp⟩
 rintro⟨i,j⟩ env S' ⟨rfl,h1,h2,rfl,h3,h4⟩
 simp only at h1 h2 h3 h4
 refine goW ?_
 by_cases hij:((P.length+1+i:Nat):Int)<((P.length+1+j:Nat):Int)
 ·rw [dT hij]
  obtain⟨r,hr⟩:∃r,r=(i+j) / 2:=⟨_,rfl⟩
  have hri:i≤r:=by omega
  have hrj:r<j:=by omega
  have hrY:r<Y.length:=by omega
  have g0:(P++(x::(Y++Q)))[P.length]? = some x:=get_mid rfl
  have g1:(P++(x::(Y++Q)))[P.length+1+r]? = some Y[r]:=by
   rw [List.getElem?_append_right (by omega),show P.length+1+r-P.length=r+1 by omega,List.getElem?_cons_succ,List.getElem?_append_left hrY]
   exact gE hrY
  have hcall:=hc S' _ Y[r] x hA (hY _ (List.getElem_mem hrY)) hxn
  have t1:=srt_take_le hz hs hrY
  have t2:=srt_drop_ge hz hs hrY
  generalize Y[r]=y at g1 hcall t1 t2
  refine goW ?_
  rw [midW (by omega),show (P.length+1+i+(P.length+1+j)) / 2=P.length+1+r by omega]
  refine step_ruleDO rfl rfl (sx_ia (k:=P.length+1+r) rfl rfl (by omega)) (goW ?_)
  refine step_ruleDO rfl rfl (sx_ldEl (agg:=false) rfl (hA.els hx) (ints_get g1) rfl) (goW ?_)
  refine step_ruleDO rfl rfl (sx_ia (k:=P.length) rfl rfl (by omega)) (goW ?_)
  refine step_ruleDO rfl rfl (sx_ldEl (agg:=false) rfl (hA.els hx) (ints_get g0) rfl) (goW ?_)
  refine call_ruleD (by rfl) (hm _ _ _ _ _ hcall ?_)
  rintro r' S3 ⟨rfl,rfl⟩
  refine goW ?_
  by_cases hlt:cz y x<0
  ·rw [dT hlt]
   refine goW ?_
   refine⟨(r+1,j),⟨?_,by simp only;omega,h2,rfl,fun u hu=>ltZ_le hz (t1 u hu) hlt,h4⟩,by simp only;omega⟩
   rw [wrNat (by omega)]
   try rfl
  ·rw [dF hlt]
   refine goW ?_
   refine⟨(i,r),⟨rfl,hri,by simp only;omega,rfl,h3,fun u hu=>?_⟩,by simp only;omega⟩
   exact hz.tr (a:=x) (b:=y) (c:=u) (by omega) (t2 u hu)
 ·rw [dF hij]
  obtain rfl:i=j:=by omega
  clear h1 hij
  refine goW ?_
  refine loop_rule hm (α:=Nat) (fun r env S'=>env=E_m1b t xs (P.length+1+i) (P.length+r)∧r≤i∧ArS S' R ty t b (P++(Y.take r++(x::(Y.drop r++Q))))) (fun r=>i-r) ?_ (a:=0) ⟨rfl,Nat.zero_le _,by simpa using hA⟩
  rintro r env S2 ⟨rfl,hri,hA⟩
  have hxr:xs.length=(P++(Y.take r++(x::(Y.drop r++Q)))).length:=by rw [hx];simp only [lA,lC,lT,lD];omega
  refine goW ?_
  rw [show wr .i64 (((P.length+1+i:Nat):Int)-1)=((P.length+i:Nat):Int) by rw [wr64 (by omega) (by omega)];omega]
  by_cases hlt:((P.length+r:Nat):Int)<((P.length+i:Nat):Int)
  ·rw [dT hlt]
   have hrY:r<Y.length:=by omega
   have hd:Y.drop r=Y[r]::Y.drop (r+1):=dC hrY
   have htk:Y.take (r+1)=Y.take r++[Y[r]]:=tS hrY
   have hltk:(Y.take r).length=r:=by rw [lT];omega
   rw [hd] at hA hxr
   generalize Y[r]=y at hA hxr htk
   clear hd
   have g0:(P++(Y.take r++(x::((y::Y.drop (r+1))++Q))))[P.length+r]? = some x:=by rw [←aA];exact get_mid (by rw [lA];omega)
   have g1:(P++(Y.take r++(x::((y::Y.drop (r+1))++Q))))[P.length+r+1]? = some y:=by
    rw [show P++(Y.take r++(x::((y::Y.drop (r+1))++Q)))=(P++(Y.take r++[x]))++(y::(Y.drop (r+1)++Q)) by simp only [aA,List.cons_append,List.nil_append]]
    exact get_mid (by simp only [lA,lC,List.length_nil];omega)
   have s1:(P++(Y.take r++(x::((y::Y.drop (r+1))++Q)))).set (P.length+r) y=(P++Y.take r)++(y::((y::Y.drop (r+1))++Q)):=by rw [←aA];exact set_mid (by rw [lA];omega)
   have s2:((P++Y.take r)++(y::((y::Y.drop (r+1))++Q))).set (P.length+r+1) x=P++(Y.take (r+1)++(x::(Y.drop (r+1)++Q))):=by
    rw [show (P++Y.take r)++(y::((y::Y.drop (r+1))++Q))=(P++(Y.take r++[y]))++(y::(Y.drop (r+1)++Q)) by simp only [aA,List.cons_append,List.nil_append],set_mid (by simp only [lA,lC,List.length_nil];omega),htk]
    simp only [aA,List.cons_append,List.nil_append]
   have hl1:((P++Y.take r)++(y::((y::Y.drop (r+1))++Q))).length=xs.length:=by rw [←s1,List.length_set,hxr]
   generalize P++(Y.take r++(x::((y::Y.drop (r+1))++Q)))=l at hA g0 g1 s1 hxr
   refine goW ?_
   rw [wrNat (by omega)]
   refine step_ruleDO rfl rfl (sx_ia (k:=P.length+r+1) rfl rfl (by omega)) (goW ?_)
   refine step_ruleDO rfl rfl (sx_ldEl (agg:=false) rfl (hA.els hxr) (ints_get g1) rfl) (goW ?_)
   refine step_ruleDO rfl rfl (sx_ia (k:=P.length+r) rfl rfl (by omega)) (goW ?_)
   refine step_ruleDO rfl rfl (sx_ldEl (agg:=false) rfl (hA.els hxr) (ints_get g0) rfl) (goW ?_)
   refine step_ruleDO rfl rfl (sx_ia (k:=P.length+r) rfl rfl (by omega)) (goW ?_)
   refine st_runPD (hA.st hxr rfl rfl (by omega)) (by trivial) rfl rfl ?_
   intro S4 hA
   rw [s1] at hA
   refine goW ?_
   refine step_ruleDO rfl rfl (sx_ia (k:=P.length+r+1) rfl rfl (by omega)) (goW ?_)
   refine st_runPD (hA.st hl1.symm rfl rfl (by omega)) (by trivial) rfl rfl ?_
   intro S5 hA
   rw [s2] at hA
   refine goW ?_
   refine⟨r+1,⟨?_,by omega,hA⟩,by omega⟩
   rw [wrNat (by omega)]
   try rfl
  ·rw [dF hlt]
   obtain rfl:r=i:=by omega
   refine goW ?_
   refine⟨_,rfl,rfl,Y.take r++(x::Y.drop r),?_,srt_put hs (fun u hu=>hz.asy (h3 u hu)) (fun u hu=>h4 u hu),by simpa only [aA,List.cons_append] using hA⟩
   have:=List.perm_middle (a:=x) (l₁:=Y.take r) (l₂:=Y.drop r)
   rwa [tkD] at this
end

section
variable {gt:GT} {C:CallT} {R:List Rs} {ty:TypeId} {t b:Nat}
abbrev E_m2 (t:Nat) (xs:List AV) (m:Nat) (g:AV) (i j:Nat):Env:=[(0,.val (slA t xs.length xs)),(2,.val (.int .i64 m)),(4,.val g),(14,.val (.int .i64 i)),(15,.val (.int .i64 j))]
abbrev E_m2b (t:Nat) (xs:List AV) (i k:Nat):Env:=[(0,.val (slA t xs.length xs)),(14,.val (.int .i64 i)),(17,.val (.int .i64 k))]
set_option maxHeartbeats 8000000 in
theorem mrg2_wp (hm:MonoC C) {f:FuncId} {cs:List AV} {n:Nat} {cz:Nat→Nat→Int} (hz:Cz cz) (hc:CmpC C f cs R ty t b n cz) {S:St} {xs:List AV} {P Y Q:List Nat} {x:Nat} (hY:∀y∈Y,y<n) (hxn:x<n) (hs:Srt (leZ cz) Y) (h2:2≤Y.length) (hx:xs.length=(P++(Y++(x::Q))).length) (hl:(P++(Y++(x::Q))).length<1152921504606846976) (hA:ArS S R ty t b (P++(Y++(x::Q)))) :
  wpF gt C F109 [slA t xs.length xs,.int .i64 P.length,.int .i64 ((P.length+Y.length:Nat):Int),.int .i64 ((P.length+Y.length+1:Nat):Int),.fn f [] cs] S fun r S'=>r=.ret (.tup [])∧∃Z,Z.Perm (Y++[x])∧Srt (leZ cz) Z∧ArS S' R ty t b (P++(Z++Q)):=by
 have hlen:(P++(Y++(x::Q))).length=P.length+(Y.length+(Q.length+1)):=by simp only [lA,lC]
 rw [hlen] at hl
 refine⟨rfl,?_⟩
 refine goW ?_
 rw [show wr .i64 (((P.length+Y.length:Nat):Int)-(P.length:Int))=(Y.length:Int) by rw [wr64 (by omega) (by omega)];omega,eqI_false (show ¬(Y.length:Int)=1 by omega)]
 refine goW ?_
 rw [show wr .i64 (((P.length+Y.length+1:Nat):Int)-((P.length+Y.length:Nat):Int))=1 by rw [wr64 (by omega) (by omega)];omega]
 refine goW ?_
 refine loop_rule hm (α:=Nat×Nat) (fun a env S'=>env=E_m2 t xs (P.length+Y.length) (.fn f [] cs) (P.length+a.1) (P.length+a.2)∧a.1≤a.2∧a.2≤Y.length∧S'=S∧(∀u∈Y.take a.1,0≤cz x u)∧(∀u∈Y.drop a.2,cz x u<0)) (fun a=>a.2-a.1) ?_ (a:=(0,Y.length)) ⟨rfl,Nat.zero_le _,Nat.le_refl _,rfl,by simp,by simp⟩
 rintro⟨i,j⟩ env S' ⟨rfl,h1,h2',rfl,h3,h4⟩
 simp only at h1 h2' h3 h4
 refine goW ?_
 by_cases hij:((P.length+i:Nat):Int)<((P.length+j:Nat):Int)
 ·rw [dT hij]
  obtain⟨r,hr⟩:∃r,r=(i+j) / 2:=⟨_,rfl⟩
  have hri:i≤r:=by omega
  have hrj:r<j:=by omega
  have hrY:r<Y.length:=by omega
  have g0:(P++(Y++(x::Q)))[P.length+Y.length]? = some x:=by rw [←aA];exact get_mid (by rw [lA])
  have g1:(P++(Y++(x::Q)))[P.length+r]? = some Y[r]:=by
   rw [List.getElem?_append_right (by omega),show P.length+r-P.length=r by omega,List.getElem?_append_left hrY]
   exact gE hrY
  have hcall:=hc S' _ x Y[r] hA hxn (hY _ (List.getElem_mem hrY))
  have t1:=srt_take_le hz hs hrY
  have t2:=srt_drop_ge hz hs hrY
  generalize Y[r]=y at g1 hcall t1 t2
  refine goW ?_
  rw [midW (by omega),show (P.length+i+(P.length+j)) / 2=P.length+r by omega]
  refine step_ruleDO rfl rfl (sx_ia (k:=P.length+Y.length) rfl rfl (by omega)) (goW ?_)
  refine step_ruleDO rfl rfl (sx_ldEl (agg:=false) rfl (hA.els hx) (ints_get g0) rfl) (goW ?_)
  refine step_ruleDO rfl rfl (sx_ia (k:=P.length+r) rfl rfl (by omega)) (goW ?_)
  refine step_ruleDO rfl rfl (sx_ldEl (agg:=false) rfl (hA.els hx) (ints_get g1) rfl) (goW ?_)
  refine call_ruleD (by rfl) (hm _ _ _ _ _ hcall ?_)
  rintro r' S3 ⟨rfl,rfl⟩
  refine goW ?_
  by_cases hlt:cz x y<0
  ·rw [dT hlt]
   refine goW ?_
   refine⟨(i,r),⟨rfl,hri,by simp only;omega,rfl,h3,fun u hu=>?_⟩,by simp only;omega⟩
   rcases Int.lt_or_le (cz x u) 0 with q | q
   ·exact q
   ·have:0≤cz x y:=hz.tr (a:=y) (b:=u) (c:=x) (t2 u hu) q
    omega
  ·rw [dF hlt]
   refine goW ?_
   refine⟨(r+1,j),⟨?_,by simp only;omega,h2',rfl,fun u hu=>?_,h4⟩,by simp only;omega⟩
   ·rw [wrNat (by omega)]
    try rfl
   ·exact hz.tr (a:=u) (b:=y) (c:=x) (t1 u hu) (by omega)
 ·rw [dF hij]
  obtain rfl:i=j:=by omega
  clear h1 hij
  refine goW ?_
  refine loop_rule hm (α:=Nat) (fun r env S'=>env=E_m2b t xs (P.length+i) (P.length+r)∧i≤r∧r≤Y.length∧ArS S' R ty t b (P++(Y.take r++(x::(Y.drop r++Q))))) (fun r=>r) ?_ (a:=Y.length) ⟨rfl,h2',Nat.le_refl _,by simpa using hA⟩
  rintro r env S2 ⟨rfl,hri,hrY,hA⟩
  have hxr:xs.length=(P++(Y.take r++(x::(Y.drop r++Q)))).length:=by rw [hx];simp only [lA,lC,lT,lD];omega
  refine goW ?_
  by_cases hlt:((P.length+r:Nat):Int) > ((P.length+i:Nat):Int)
  ·rw [dT hlt]
   obtain⟨q,rfl⟩:∃q,r=q+1:=⟨r-1,by omega⟩
   have hqY:q<Y.length:=by omega
   have hd:Y.drop q=Y[q]::Y.drop (q+1):=dC hqY
   have htk:Y.take (q+1)=Y.take q++[Y[q]]:=tS hqY
   have hltk:(Y.take q).length=q:=by rw [lT];omega
   rw [htk] at hA hxr
   generalize Y[q]=y at hA hxr hd
   clear htk
   have g0:(P++((Y.take q++[y])++(x::(Y.drop (q+1)++Q))))[P.length+q+1]? = some x:=by
    rw [←aA];exact get_mid (by simp only [lA,lC,List.length_nil];omega)
   have g1:(P++((Y.take q++[y])++(x::(Y.drop (q+1)++Q))))[P.length+q]? = some y:=by
    rw [show P++((Y.take q++[y])++(x::(Y.drop (q+1)++Q)))=(P++Y.take q)++(y::(x::(Y.drop (q+1)++Q))) by simp only [aA,List.cons_append,List.nil_append]]
    exact get_mid (by rw [lA];omega)
   have s1:(P++((Y.take q++[y])++(x::(Y.drop (q+1)++Q)))).set (P.length+q+1) y=(P++Y.take q)++(y::(y::(Y.drop (q+1)++Q))):=by
    rw [←aA,set_mid (by simp only [lA,lC,List.length_nil];omega)]
    simp only [aA,List.cons_append,List.nil_append]
   have s2:((P++Y.take q)++(y::(y::(Y.drop (q+1)++Q)))).set (P.length+q) x=P++(Y.take q++(x::(Y.drop q++Q))):=by
    rw [set_mid (by rw [lA];omega),hd]
    simp only [aA,List.cons_append]
   have hl1:((P++Y.take q)++(y::(y::(Y.drop (q+1)++Q)))).length=xs.length:=by rw [←s1,List.length_set,hxr]
   generalize P++((Y.take q++[y])++(x::(Y.drop (q+1)++Q)))=l at hA g0 g1 s1 hxr
   have w1:wr .i64 (((P.length+(q+1):Nat):Int)-1)=((P.length+q:Nat):Int):=by rw [wr64 (by omega) (by omega)];omega
   refine goW ?_
   rw [w1]
   refine step_ruleDO rfl rfl (sx_ia (k:=P.length+q) rfl rfl (by omega)) (goW ?_)
   refine step_ruleDO rfl rfl (sx_ldEl (agg:=false) rfl (hA.els hxr) (ints_get g1) rfl) (goW ?_)
   refine step_ruleDO rfl rfl (sx_ia (k:=P.length+q+1) rfl rfl (by omega)) (goW ?_)
   refine step_ruleDO rfl rfl (sx_ldEl (agg:=false) rfl (hA.els hxr) (ints_get g0) rfl) (goW ?_)
   refine step_ruleDO rfl rfl (sx_ia (k:=P.length+q+1) rfl rfl (by omega)) (goW ?_)
   refine st_runPD (hA.st hxr rfl rfl (by omega)) (by trivial) rfl rfl ?_
   intro S4 hA
   rw [s1] at hA
   refine goW ?_
   refine step_ruleDO rfl rfl (sx_ia (k:=P.length+q) rfl rfl (by omega)) (goW ?_)
   refine st_runPD (hA.st hl1.symm rfl rfl (by omega)) (by trivial) rfl rfl ?_
   intro S5 hA
   rw [s2] at hA
   refine goW ?_
   refine⟨q,⟨?_,by omega,by omega,hA⟩,by omega⟩
   rw [w1]
  ·rw [dF hlt]
   obtain rfl:r=i:=by omega
   refine goW ?_
   refine⟨_,rfl,rfl,Y.take r++(x::Y.drop r),?_,srt_put hs (fun u hu=>h3 u hu) (fun u hu=>hz.asy (h4 u hu)),by simpa only [aA,List.cons_append] using hA⟩
   have:=List.perm_middle (a:=x) (l₁:=Y.take r) (l₂:=Y.drop r)
   rw [tkD] at this
   exact this.trans (List.perm_append_singleton x Y).symm
end

section
variable {gt:GT} {C:CallT} {R:List Rs} {ty:TypeId} {t b:Nat}
set_option maxHeartbeats 8000000 in
theorem mrgLast_wp (hm:MonoC C) {f:FuncId} {cs:List AV} {n k:Nat} {cz:Nat→Nat→Int} (ih:MrgC C R ty t b n (.fn f [] cs) cz k) {S:St} {xs:List AV} {P B D Q:List Nat} {mid e c:Nat} {z:Env} {G:St→Prop}
  (h1:mid=P.length) (h2:e=P.length+B.length) (h3:c=P.length+B.length+D.length) (hk:B≠[]→D≠[]→B.length+D.length≤k) (hn:∀x∈B++D,x<n) (hB:Srt (leZ cz) B) (hD:Srt (leZ cz) D)
  (hx:xs.length=(P++(B++(D++Q))).length) (hl:(P++(B++(D++Q))).length<1152921504606846976) (hA:ArS S R ty t b (P++(B++(D++Q))))
  (fin:∀S' Z,Z.Perm (B++D)→Srt (leZ cz) Z→ArS S' R ty t b (P++(Z++Q))→G S') :
  wpD gt C F109.body.rt.rt.rt.rt.rt.rt.rt.rt.rt.rt.rt ((0,.val (slA t xs.length xs))::(3,.val (.int .i64 c))::(4,.val (.fn f [] cs))::(18,.val (.int .i64 mid))::(24,.val (.int .i64 e))::z) S (bodyQ gt F109.res fun r S'=>r=.ret (.tup [])∧G S'):=by
 have triv:(B=[]∨D=[])→G S:=fun h=>fin S (B++D) (List.Perm.refl _) (by rcases h with rfl | rfl;exact hD;rw [List.append_nil];exact hB) (by rw [aA];exact hA)
 conv=>whnf
 refine goW ?_
 by_cases c1:(mid:Int)<(e:Int)
 ·rw [dT c1]
  refine goW ?_
  by_cases c2:(e:Int)<(c:Int)
  ·rw [dT c2]
   have b1:B≠[]:=fun h=>by rw [h] at h2;simp at h2;omega
   have b2:D≠[]:=fun h=>by rw [h] at h3;simp at h3;omega
   refine goW ?_
   refine call_rule (by rfl) (hm _ _ _ _ _ (ih S xs P B D Q mid e c (hk b1 b2) h1 h2 h3 b1 b2 hn hB hD hx hl hA) ?_)
   rintro r S2 ⟨rfl,Z,z1,z2,z3⟩
   refine goW ?_
   exact⟨_,rfl,rfl,fin S2 Z z1 z2 z3⟩
  ·rw [dF c2]
   have:D=[]:=nL (by omega)
   refine goW ?_
   exact⟨_,rfl,rfl,triv (.inr this)⟩
 ·rw [dF c1]
  have:B=[]:=nL (by omega)
  refine goW ?_
  exact⟨_,rfl,rfl,triv (.inl this)⟩
set_option maxHeartbeats 8000000 in
theorem mrgLast2_wp (hm:MonoC C) {f:FuncId} {cs:List AV} {n k:Nat} {cz:Nat→Nat→Int} (ih:MrgC C R ty t b n (.fn f [] cs) cz k) {S:St} {xs:List AV} {P B D Q:List Nat} {mid e c:Nat} {o1 o2:Ent} {z:Env} {G:St→Prop}
  (h1:mid=P.length) (h2:e=P.length+B.length) (h3:c=P.length+B.length+D.length) (hk:B≠[]→D≠[]→B.length+D.length≤k) (hn:∀x∈B++D,x<n) (hB:Srt (leZ cz) B) (hD:Srt (leZ cz) D)
  (hx:xs.length=(P++(B++(D++Q))).length) (hl:(P++(B++(D++Q))).length<1152921504606846976) (hA:ArS S R ty t b (P++(B++(D++Q))))
  (fin:∀S' Z,Z.Perm (B++D)→Srt (leZ cz) Z→ArS S' R ty t b (P++(Z++Q))→G S') :
  wpD gt C F109.body.rt.rt.rt.rt.rt.rt.rt.rt.rt.rt.rt ((0,.val (slA t xs.length xs))::(1,o1)::(3,.val (.int .i64 c))::(4,.val (.fn f [] cs))::(18,.val (.int .i64 mid))::(20,o2)::(24,.val (.int .i64 e))::z) S (bodyQ gt F109.res fun r S'=>r=.ret (.tup [])∧G S'):=by
 have triv:(B=[]∨D=[])→G S:=fun h=>fin S (B++D) (List.Perm.refl _) (by rcases h with rfl | rfl;exact hD;rw [List.append_nil];exact hB) (by rw [aA];exact hA)
 conv=>whnf
 refine goW ?_
 by_cases c1:(mid:Int)<(e:Int)
 ·rw [dT c1]
  refine goW ?_
  by_cases c2:(e:Int)<(c:Int)
  ·rw [dT c2]
   have b1:B≠[]:=fun h=>by rw [h] at h2;simp at h2;omega
   have b2:D≠[]:=fun h=>by rw [h] at h3;simp at h3;omega
   refine goW ?_
   refine call_rule (by rfl) (hm _ _ _ _ _ (ih S xs P B D Q mid e c (hk b1 b2) h1 h2 h3 b1 b2 hn hB hD hx hl hA) ?_)
   rintro r S2 ⟨rfl,Z,z1,z2,z3⟩
   refine goW ?_
   exact⟨_,rfl,rfl,fin S2 Z z1 z2 z3⟩
  ·rw [dF c2]
   have:D=[]:=nL (by omega)
   refine goW ?_
   exact⟨_,rfl,rfl,triv (.inr this)⟩
 ·rw [dF c1]
  have:B=[]:=nL (by omega)
  refine goW ?_
  exact⟨_,rfl,rfl,triv (.inl this)⟩
set_option maxHeartbeats 8000000 in
theorem mrgFirst_wp (hm:MonoC C) {f:FuncId} {cs:List AV} {n k:Nat} {cz:Nat→Nat→Int} (ih:MrgC C R ty t b n (.fn f [] cs) cz k) {S:St} {xs:List AV} {P A V B D Q:List Nat} {a mid s e c:Nat} {z:Env} {G:St→Prop}
  (h0:a=P.length) (h1:mid=P.length+A.length+V.length) (h2:s=P.length+A.length) (h3:e=mid+B.length) (h4:c=e+D.length) (hk1:A≠[]→V≠[]→A.length+V.length≤k) (hk2:B≠[]→D≠[]→B.length+D.length≤k)
  (hn:∀x∈(A++V)++(B++D),x<n) (sA:Srt (leZ cz) A) (sV:Srt (leZ cz) V) (sB:Srt (leZ cz) B) (sD:Srt (leZ cz) D)
  (hx:xs.length=(P++(A++(V++(B++(D++Q))))).length) (hl:(P++(A++(V++(B++(D++Q))))).length<1152921504606846976) (hA:ArS S R ty t b (P++(A++(V++(B++(D++Q))))))
  (fin:∀S' Z1 Z2,Z1.Perm (A++V)→Srt (leZ cz) Z1→Z2.Perm (B++D)→Srt (leZ cz) Z2→ArS S' R ty t b (P++((Z1++Z2)++Q))→G S') :
  wpD gt C F109.body.rt.rt.rt.rt.rt.rt.rt.rt.rt.rt ((0,.val (slA t xs.length xs))::(1,.val (.int .i64 a))::(3,.val (.int .i64 c))::(4,.val (.fn f [] cs))::(18,.val (.int .i64 mid))::(20,.val (.int .i64 s))::(24,.val (.int .i64 e))::z) S (bodyQ gt F109.res fun r S'=>r=.ret (.tup [])∧G S'):=by
 have hlen:(P++(A++(V++(B++(D++Q))))).length=P.length+(A.length+(V.length+(B.length+(D.length+Q.length)))):=by simp only [lA]
 have next:∀(S:St) (Z1:List Nat) (z:Env),Z1.Perm (A++V)→Srt (leZ cz) Z1→ArS S R ty t b (P++(Z1++(B++(D++Q))))→wpD gt C F109.body.rt.rt.rt.rt.rt.rt.rt.rt.rt.rt.rt ((0,.val (slA t xs.length xs))::(3,.val (.int .i64 c))::(4,.val (.fn f [] cs))::(18,.val (.int .i64 mid))::(24,.val (.int .i64 e))::z) S (bodyQ gt F109.res fun r S'=>r=.ret (.tup [])∧G S'):=fun S Z1 z p1 s1 hA=>by
  have zl:=p1.length_eq
  rw [lA] at zl
  refine mrgLast_wp (gt:=gt) hm ih (P:=P++Z1) (B:=B) (D:=D) (Q:=Q) (by rw [lA];omega) (by rw [lA];omega) (by rw [lA];omega) hk2 (fun x hx=>hn x (List.mem_append_right _ hx)) sB sD (by rw [hx];simp only [lA];omega) (by rw [hlen] at hl;simp only [lA];omega) (by rw [aA];exact hA) ?_
  intro S' Z2 p2 s2 hA2
  exact fin S' Z1 Z2 p1 s1 p2 s2 (by simpa only [aA] using hA2)
 have triv:(A=[]∨V=[])→∀(o1 o2:Ent) z,wpD gt C F109.body.rt.rt.rt.rt.rt.rt.rt.rt.rt.rt.rt ((0,.val (slA t xs.length xs))::(1,o1)::(3,.val (.int .i64 c))::(4,.val (.fn f [] cs))::(18,.val (.int .i64 mid))::(20,o2)::(24,.val (.int .i64 e))::z) S (bodyQ gt F109.res fun r S'=>r=.ret (.tup [])∧G S'):=fun h o1 o2 z =>
  mrgLast2_wp (gt:=gt) hm ih (P:=P++(A++V)) (B:=B) (D:=D) (Q:=Q) (by simp only [lA];omega) (by simp only [lA];omega) (by simp only [lA];omega) hk2 (fun x hx=>hn x (List.mem_append_right _ hx)) sB sD (by rw [hx];simp only [lA];omega) (by rw [hlen] at hl;simp only [lA];omega) (by simpa only [aA] using hA) fun S' Z2 p2 s2 hA2 =>
   fin S' (A++V) Z2 (List.Perm.refl _) (by rcases h with rfl | rfl;exact sV;rw [List.append_nil];exact sA) p2 s2 (by simpa only [aA] using hA2)
 conv=>whnf
 refine goW ?_
 by_cases c1:(a:Int)<(s:Int)
 ·rw [dT c1]
  refine goW ?_
  by_cases c2:(s:Int)<(mid:Int)
  ·rw [dT c2]
   have b1:A≠[]:=fun h=>by rw [h] at h2;simp at h2;omega
   have b2:V≠[]:=fun h=>by rw [h] at h1;simp at h1;omega
   refine goW ?_
   refine call_rule (by rfl) (hm _ _ _ _ _ (ih S xs P A V (B++(D++Q)) a s mid (hk1 b1 b2) h0 h2 h1 b1 b2 (fun x hx=>hn x (List.mem_append_left _ hx)) sA sV hx hl hA) ?_)
   rintro r S2 ⟨rfl,Z1,z1,z2,z3⟩
   have next:=next S2 Z1 [] z1 z2 z3
   refine goK ?_
   with_unfolding_all exact next
  ·rw [dF c2]
   have triv:=triv (.inr (nL (by omega)))
   refine goK ?_
   with_unfolding_all exact triv _ _ _
 ·rw [dF c1]
  have triv:=triv (.inl (nL (by omega)))
  refine goK ?_
  with_unfolding_all exact triv _ _ _
set_option maxHeartbeats 8000000 in
theorem mrgFirst2_wp (hm:MonoC C) {f:FuncId} {cs:List AV} {n k:Nat} {cz:Nat→Nat→Int} (ih:MrgC C R ty t b n (.fn f [] cs) cz k) {S:St} {xs:List AV} {P A V B D Q:List Nat} {a mid s e c:Nat} {o:Ent} {z:Env} {G:St→Prop}
  (h0:a=P.length) (h1:mid=P.length+A.length+V.length) (h2:s=P.length+A.length) (h3:e=mid+B.length) (h4:c=e+D.length) (hk1:A≠[]→V≠[]→A.length+V.length≤k) (hk2:B≠[]→D≠[]→B.length+D.length≤k)
  (hn:∀x∈(A++V)++(B++D),x<n) (sA:Srt (leZ cz) A) (sV:Srt (leZ cz) V) (sB:Srt (leZ cz) B) (sD:Srt (leZ cz) D)
  (hx:xs.length=(P++(A++(V++(B++(D++Q))))).length) (hl:(P++(A++(V++(B++(D++Q))))).length<1152921504606846976) (hA:ArS S R ty t b (P++(A++(V++(B++(D++Q))))))
  (fin:∀S' Z1 Z2,Z1.Perm (A++V)→Srt (leZ cz) Z1→Z2.Perm (B++D)→Srt (leZ cz) Z2→ArS S' R ty t b (P++((Z1++Z2)++Q))→G S') :
  wpD gt C F109.body.rt.rt.rt.rt.rt.rt.rt.rt.rt.rt ((0,.val (slA t xs.length xs))::(1,.val (.int .i64 a))::(2,o)::(3,.val (.int .i64 c))::(4,.val (.fn f [] cs))::(18,.val (.int .i64 mid))::(20,.val (.int .i64 s))::(24,.val (.int .i64 e))::z) S (bodyQ gt F109.res fun r S'=>r=.ret (.tup [])∧G S'):=by
 have hlen:(P++(A++(V++(B++(D++Q))))).length=P.length+(A.length+(V.length+(B.length+(D.length+Q.length)))):=by simp only [lA]
 have next:∀(S:St) (Z1:List Nat) (z:Env),Z1.Perm (A++V)→Srt (leZ cz) Z1→ArS S R ty t b (P++(Z1++(B++(D++Q))))→wpD gt C F109.body.rt.rt.rt.rt.rt.rt.rt.rt.rt.rt.rt ((0,.val (slA t xs.length xs))::(3,.val (.int .i64 c))::(4,.val (.fn f [] cs))::(18,.val (.int .i64 mid))::(24,.val (.int .i64 e))::z) S (bodyQ gt F109.res fun r S'=>r=.ret (.tup [])∧G S'):=fun S Z1 z p1 s1 hA=>by
  have zl:=p1.length_eq
  rw [lA] at zl
  refine mrgLast_wp (gt:=gt) hm ih (P:=P++Z1) (B:=B) (D:=D) (Q:=Q) (by rw [lA];omega) (by rw [lA];omega) (by rw [lA];omega) hk2 (fun x hx=>hn x (List.mem_append_right _ hx)) sB sD (by rw [hx];simp only [lA];omega) (by rw [hlen] at hl;simp only [lA];omega) (by rw [aA];exact hA) ?_
  intro S' Z2 p2 s2 hA2
  exact fin S' Z1 Z2 p1 s1 p2 s2 (by simpa only [aA] using hA2)
 have triv:(A=[]∨V=[])→∀(o1 o2:Ent) z,wpD gt C F109.body.rt.rt.rt.rt.rt.rt.rt.rt.rt.rt.rt ((0,.val (slA t xs.length xs))::(1,o1)::(3,.val (.int .i64 c))::(4,.val (.fn f [] cs))::(18,.val (.int .i64 mid))::(20,o2)::(24,.val (.int .i64 e))::z) S (bodyQ gt F109.res fun r S'=>r=.ret (.tup [])∧G S'):=fun h o1 o2 z =>
  mrgLast2_wp (gt:=gt) hm ih (P:=P++(A++V)) (B:=B) (D:=D) (Q:=Q) (by simp only [lA];omega) (by simp only [lA];omega) (by simp only [lA];omega) hk2 (fun x hx=>hn x (List.mem_append_right _ hx)) sB sD (by rw [hx];simp only [lA];omega) (by rw [hlen] at hl;simp only [lA];omega) (by simpa only [aA] using hA) fun S' Z2 p2 s2 hA2 =>
   fin S' (A++V) Z2 (List.Perm.refl _) (by rcases h with rfl | rfl;exact sV;rw [List.append_nil];exact sA) p2 s2 (by simpa only [aA] using hA2)
 conv=>whnf
 refine goW ?_
 by_cases c1:(a:Int)<(s:Int)
 ·rw [dT c1]
  refine goW ?_
  by_cases c2:(s:Int)<(mid:Int)
  ·rw [dT c2]
   have b1:A≠[]:=fun h=>by rw [h] at h2;simp at h2;omega
   have b2:V≠[]:=fun h=>by rw [h] at h1;simp at h1;omega
   refine goW ?_
   refine call_rule (by rfl) (hm _ _ _ _ _ (ih S xs P A V (B++(D++Q)) a s mid (hk1 b1 b2) h0 h2 h1 b1 b2 (fun x hx=>hn x (List.mem_append_left _ hx)) sA sV hx hl hA) ?_)
   rintro r S2 ⟨rfl,Z1,z1,z2,z3⟩
   have next:=next S2 Z1 [] z1 z2 z3
   refine goK ?_
   with_unfolding_all exact next
  ·rw [dF c2]
   have triv:=triv (.inr (nL (by omega)))
   refine goK ?_
   with_unfolding_all exact triv _ _ _
 ·rw [dF c1]
  have triv:=triv (.inl (nL (by omega)))
  refine goK ?_
  with_unfolding_all exact triv _ _ _
end

section
variable {gt:GT} {C:CallT} {R:List Rs} {ty:TypeId} {t b:Nat}
set_option maxHeartbeats 8000000 in
theorem mrgRot_wp (hm:MonoC C) {f:FuncId} {cs:List AV} {n k:Nat} {cz:Nat→Nat→Int} (ih:MrgC C R ty t b n (.fn f [] cs) cz k) (hr:RotC C R ty t b (.fn f [] cs)) {S:St} {xs:List AV} {P A V B D Q:List Nat} {a m mid s e c:Nat} {z:Env} {G:St→Prop}
  (h0:a=P.length) (hmm:m=P.length+A.length+B.length) (h1:mid=P.length+A.length+V.length) (h2:s=P.length+A.length) (h3:e=mid+B.length) (h4:c=e+D.length) (hk1:A≠[]→V≠[]→A.length+V.length≤k) (hk2:B≠[]→D≠[]→B.length+D.length≤k)
  (hn:∀x∈(A++V)++(B++D),x<n) (sA:Srt (leZ cz) A) (sV:Srt (leZ cz) V) (sB:Srt (leZ cz) B) (sD:Srt (leZ cz) D)
  (hx:xs.length=(P++(A++(B++(V++(D++Q))))).length) (hl:(P++(A++(B++(V++(D++Q))))).length<1152921504606846976) (hA:ArS S R ty t b (P++(A++(B++(V++(D++Q))))))
  (fin:∀S' Z1 Z2,Z1.Perm (A++V)→Srt (leZ cz) Z1→Z2.Perm (B++D)→Srt (leZ cz) Z2→ArS S' R ty t b (P++((Z1++Z2)++Q))→G S') :
  wpD gt C F109.body.rt.rt.rt.rt.rt.rt.rt.rt.rt ((0,.val (slA t xs.length xs))::(1,.val (.int .i64 a))::(2,.val (.int .i64 m))::(3,.val (.int .i64 c))::(4,.val (.fn f [] cs))::(18,.val (.int .i64 mid))::(20,.val (.int .i64 s))::(24,.val (.int .i64 e))::z) S (bodyQ gt F109.res fun r S'=>r=.ret (.tup [])∧G S'):=by
 have hlen:(P++(A++(B++(V++(D++Q))))).length=P.length+(A.length+(B.length+(V.length+(D.length+Q.length)))):=by simp only [lA]
 have hlen2:(P++(A++(V++(B++(D++Q))))).length=P.length+(A.length+(B.length+(V.length+(D.length+Q.length)))):=by simp only [lA];omega
 rw [hlen] at hx hl
 have triv:(B=[]∨V=[])→∀(o:Ent) z,wpD gt C F109.body.rt.rt.rt.rt.rt.rt.rt.rt.rt.rt ((0,.val (slA t xs.length xs))::(1,.val (.int .i64 a))::(2,o)::(3,.val (.int .i64 c))::(4,.val (.fn f [] cs))::(18,.val (.int .i64 mid))::(20,.val (.int .i64 s))::(24,.val (.int .i64 e))::z) S (bodyQ gt F109.res fun r S'=>r=.ret (.tup [])∧G S'):=fun h o z =>
  mrgFirst2_wp (gt:=gt) hm ih (P:=P) (A:=A) (V:=V) (B:=B) (D:=D) (Q:=Q) h0 h1 h2 h3 h4 hk1 hk2 hn sA sV sB sD (by rw [hlen2];exact hx) (by rw [hlen2];exact hl) (by rcases h with rfl | rfl<;>exact hA) fin
 have next:∀(S:St) z,ArS S R ty t b (P++(A++(V++(B++(D++Q)))))→wpD gt C F109.body.rt.rt.rt.rt.rt.rt.rt.rt.rt.rt ((0,.val (slA t xs.length xs))::(1,.val (.int .i64 a))::(3,.val (.int .i64 c))::(4,.val (.fn f [] cs))::(18,.val (.int .i64 mid))::(20,.val (.int .i64 s))::(24,.val (.int .i64 e))::z) S (bodyQ gt F109.res fun r S'=>r=.ret (.tup [])∧G S'):=fun S z hA =>
  mrgFirst_wp (gt:=gt) hm ih (P:=P) (A:=A) (V:=V) (B:=B) (D:=D) (Q:=Q) h0 h1 h2 h3 h4 hk1 hk2 hn sA sV sB sD (by rw [hlen2];exact hx) (by rw [hlen2];exact hl) hA fin
 conv=>whnf
 refine goW ?_
 by_cases c1:(s:Int)<(m:Int)
 ·rw [dT c1]
  refine goW ?_
  by_cases c2:(m:Int)<(e:Int)
  ·rw [dT c2]
   have b1:B≠[]:=fun h=>by rw [h] at hmm;simp at hmm;omega
   have b2:V≠[]:=fun h=>by rw [h] at h1;simp at h1;omega
   refine goW ?_
   refine call_rule (by rfl) (hm _ _ _ _ _ (hr S xs (P++A) B V (D++Q) s m e (by rw [lA];exact h2) (by rw [lA];exact hmm) (by rw [lA];omega) b1 b2 (by simp only [lA];omega) (by simp only [lA];omega) (by rw [aA];exact hA)) ?_)
   rintro r S2 ⟨rfl,hA2⟩
   rw [aA] at hA2
   have next:=next S2 [] hA2
   refine goK ?_
   with_unfolding_all exact next
  ·rw [dF c2]
   have triv:=triv (.inr (nL (by omega)))
   refine goK ?_
   with_unfolding_all exact triv _ _
 ·rw [dF c1]
  have triv:=triv (.inl (nL (by omega)))
  refine goK ?_
  with_unfolding_all exact triv _ _
abbrev E_sr (t:Nat) (xs:List AV) (a m c:Nat) (g:AV) (mid n s r p:Nat):Env:=[(0,.val (slA t xs.length xs)),(1,.val (.int .i64 a)),(2,.val (.int .i64 m)),(3,.val (.int .i64 c)),(4,.val g),(18,.val (.int .i64 mid)),(19,.val (.int .i64 n)),(20,.val (.int .i64 s)),(21,.val (.int .i64 r)),(22,.val (.int .i64 p))]
set_option maxHeartbeats 8000000 in
theorem mrgSeek_wp (hm:MonoC C) {f:FuncId} {cs:List AV} {n k:Nat} {cz:Nat→Nat→Int} (hz:Cz cz) (hc:CmpC C f cs R ty t b n cz) (ih:MrgC C R ty t b n (.fn f [] cs) cz k) (hr:RotC C R ty t b (.fn f [] cs)) {S:St} {xs:List AV} {P X Y Q:List Nat} {a m c mid nn lo hi hN l0 h0:Nat} {z:Env} {G:St→Prop}
  (ha:a=P.length) (hmm:m=P.length+X.length) (hcc:c=P.length+X.length+Y.length) (hmid:mid=P.length+hN) (hnn:nn=mid+m) (hlo:lo=P.length+l0) (hhi:hi=P.length+h0)
  (rng:(l0=0∧h0=X.length∧X.length≤hN∧hN≤Y.length)∨(l0+Y.length=hN∧h0=hN∧hN≤X.length)) (hk1:hN≤k) (hk2:X.length+Y.length≤k+hN)
  (hn:∀x∈X++Y,x<n) (sX:Srt (leZ cz) X) (sY:Srt (leZ cz) Y) (hN0:0<hN)
  (hx:xs.length=(P++(X++(Y++Q))).length) (hl:(P++(X++(Y++Q))).length<1152921504606846976) (hA:ArS S R ty t b (P++(X++(Y++Q))))
  (fin:∀S' Z,Z.Perm (X++Y)→Srt (leZ cz) Z→ArS S' R ty t b (P++(Z++Q))→G S') :
  wpD gt C F109.body.rt.rt.rt.rt.rt.rt ((0,.val (slA t xs.length xs))::(1,.val (.int .i64 a))::(2,.val (.int .i64 m))::(3,.val (.int .i64 c))::(4,.val (.fn f [] cs))::(18,.val (.int .i64 mid))::(19,.val (.int .i64 nn))::(20,.val (.int .i64 lo))::(21,.val (.int .i64 hi))::z) S (bodyQ gt F109.res fun r S'=>r=.ret (.tup [])∧G S'):=by
 have hlen:(P++(X++(Y++Q))).length=P.length+(X.length+(Y.length+Q.length)):=by simp only [lA]
 have hl':=hl
 rw [hlen] at hl'
 have wp:wr .i64 ((nn:Int)-1)=((nn-1:Nat):Int):=by rw [wr64 (by omega) (by omega)];omega
 conv=>whnf
 refine goW ?_
 rw [wp]
 refine loop_rule hm (α:=Nat×Nat) (fun q env S'=>env=E_sr t xs a m c (.fn f [] cs) mid nn (P.length+q.1) (P.length+q.2) (nn-1)∧l0≤q.1∧q.1≤q.2∧q.2≤h0∧S'=S∧(q.1=l0∨∃x y,X[q.1-1]? = some x∧Y[hN-q.1]? = some y∧leZ cz x y)∧(q.2=h0∨∃x y,X[q.2]? = some x∧Y[hN-1-q.2]? = some y∧leZ cz y x)) (fun q=>q.2-q.1) ?_
  (a:=(l0,h0)) ⟨by rw [hlo,hhi],Nat.le_refl _,by simp only;omega,Nat.le_refl _,rfl,.inl rfl,.inl rfl⟩
 rintro⟨i,j⟩ env S' ⟨rfl,i0,hij0,j0,rfl,q1,q2⟩
 simp only at i0 hij0 j0 q1 q2
 refine goW ?_
 by_cases hij:((P.length+i:Nat):Int)<((P.length+j:Nat):Int)
 ·rw [dT hij]
  obtain⟨r,hr⟩:∃r,r=(i+j) / 2:=⟨_,rfl⟩
  have hri:i≤r:=by omega
  have hrj:r<j:=by omega
  have hrX:r<X.length:=by omega
  have hrY:hN-1-r<Y.length:=by omega
  have g0:(P++(X++(Y++Q)))[P.length+r]? = some X[r]:=by
   rw [List.getElem?_append_right (by omega),show P.length+r-P.length=r by omega,List.getElem?_append_left hrX]
   exact gE hrX
  have g1:(P++(X++(Y++Q)))[P.length+X.length+(hN-1-r)]? = some Y[hN-1-r]:=by
   rw [←aA,List.getElem?_append_right (by rw [lA];omega),show P.length+X.length+(hN-1-r)-(P++X).length=hN-1-r by rw [lA];omega,List.getElem?_append_left hrY]
   exact gE hrY
  have hcall:=hc S' _ Y[hN-1-r] X[r] hA (hn _ (List.mem_append_right _ (List.getElem_mem hrY))) (hn _ (List.mem_append_left _ (List.getElem_mem hrX)))
  have e0:X[r]? = some X[r]:=gE hrX
  have e1:Y[hN-1-r]? = some Y[hN-1-r]:=gE hrY
  generalize Y[hN-1-r]=y at g1 hcall e1
  generalize X[r]=x at g0 hcall e0
  have w1:wr .i64 (((nn-1:Nat):Int)-((P.length+r:Nat):Int))=((P.length+X.length+(hN-1-r):Nat):Int):=by rw [wr64 (by omega) (by omega)];omega
  refine goW ?_
  rw [midW (by omega),show (P.length+i+(P.length+j)) / 2=P.length+r by omega]
  refine goW ?_
  rw [w1]
  refine step_ruleDO rfl rfl (sx_ia (k:=P.length+X.length+(hN-1-r)) rfl rfl (by omega)) (goW ?_)
  refine step_ruleDO rfl rfl (sx_ldEl (agg:=false) rfl (hA.els hx) (ints_get g1) rfl) (goW ?_)
  refine step_ruleDO rfl rfl (sx_ia (k:=P.length+r) rfl rfl (by omega)) (goW ?_)
  refine step_ruleDO rfl rfl (sx_ldEl (agg:=false) rfl (hA.els hx) (ints_get g0) rfl) (goW ?_)
  refine call_ruleD (by rfl) (hm _ _ _ _ _ hcall ?_)
  rintro r' S3 ⟨rfl,rfl⟩
  refine goW ?_
  by_cases hlt:cz y x<0
  ·rw [dT hlt]
   refine goW ?_
   refine⟨(i,r),⟨rfl,i0,hri,by simp only;omega,rfl,q1,.inr ⟨x,y,e0,e1,hz.asy hlt⟩⟩,by simp only;omega⟩
  ·rw [dF hlt]
   refine goW ?_
   refine⟨(r+1,j),⟨?_,by simp only;omega,by simp only;omega,j0,rfl,.inr ⟨x,y,e0,?_,by unfold leZ;omega⟩,q2⟩,by simp only;omega⟩
   ·rw [wrNat (by omega)]
    try rfl
   ·rw [show hN-(r+1)=hN-1-r by omega];exact e1
 ·rw [dF hij]
  obtain rfl:i=j:=by omega
  have iX:i≤X.length:=by omega
  have tY:hN-i≤Y.length:=by omega
  have tA:(X.take i).length=i:=by rw [lT];omega
  have tB:(X.drop i).length=X.length-i:=lD
  have tV:(Y.take (hN-i)).length=hN-i:=by rw [lT];omega
  have tD:(Y.drop (hN-i)).length=Y.length-(hN-i):=lD
  have hX:X.take i++X.drop i=X:=tkD _ _
  have hY:Y.take (hN-i)++Y.drop (hN-i)=Y:=tkD _ _
  have sX':=sX
  have sY':=sY
  rw [←hX] at sX'
  rw [←hY] at sY'
  obtain⟨sA,sB,sAB⟩:=srt_app.1 sX'
  obtain⟨sV,sD,sVD⟩:=srt_app.1 sY'
  have sAD:∀u∈X.take i,∀v∈Y.drop (hN-i),leZ cz u v:=ends_le (le:=leZ cz) (fun h h'=>hz.tr h h') sA sD (fun u v e1 e2=>by
   rw [tA] at e1
   rcases q1 with q1 | ⟨x,y,f1,f2,f3⟩
   ·exfalso
    rcases rng with rng | rng
    ·rw [show i=0 by omega] at e1;simp at e1
    ·rw [List.getElem?_eq_none (show (Y.drop (hN-i)).length≤0 by rw [tD];omega)] at e2;cases e2
   ·rw [List.getElem?_drop,Nat.add_zero,f2] at e2
    have:i≠0:=fun h=>by rw [h] at e1;simp at e1
    rw [List.getElem?_take_of_lt (by omega),f1] at e1
    cases e1;cases e2;exact f3) (fun a=>hz.rf a)
  have sVB:∀u∈Y.take (hN-i),∀v∈X.drop i,leZ cz u v:=ends_le (le:=leZ cz) (fun h h'=>hz.tr h h') sV sB (fun u v e1 e2=>by
   rw [tV] at e1
   rcases q2 with q2 | ⟨x,y,f1,f2,f3⟩
   ·exfalso
    rcases rng with rng | rng
    ·rw [List.getElem?_eq_none (show (X.drop i).length≤0 by rw [tB];omega)] at e2;cases e2
    ·rw [show hN-i=0 by omega] at e1;simp at e1
   ·rw [List.getElem?_drop,Nat.add_zero,f1] at e2
    have:hN-i≠0:=fun h=>by rw [h] at e1;simp at e1
    rw [List.getElem?_take_of_lt (by omega),show hN-i-1=hN-1-i by omega,f2] at e1
    cases e1;cases e2;exact f3) (fun a=>hz.rf a)
  have mo:∀S' Z1 Z2,Z1.Perm (X.take i++Y.take (hN-i))→Srt (leZ cz) Z1→Z2.Perm (X.drop i++Y.drop (hN-i))→Srt (leZ cz) Z2→ArS S' R ty t b (P++((Z1++Z2)++Q))→G S':=fun S' Z1 Z2 p1 z1 p2 z2 hA=>by
   obtain⟨m1,m2⟩:=merge_ok z1 z2 p1 p2 sAB sAD sVB sVD
   rw [hX,hY] at m2
   exact fin S' _ m2 m1 hA
  have hn':∀x∈(X.take i++Y.take (hN-i))++(X.drop i++Y.drop (hN-i)),x<n:=fun x hx=>hn x (by
   rw [aA,List.mem_append,List.mem_append,List.mem_append] at hx
   rw [List.mem_append]
   rcases hx with h | h | h | h
   ·exact .inl (List.mem_of_mem_take h)
   ·exact .inr (List.mem_of_mem_take h)
   ·exact .inl (List.mem_of_mem_drop h)
   ·exact .inr (List.mem_of_mem_drop h))
  have hl2:P++(X++(Y++Q))=P++(X.take i++(X.drop i++(Y.take (hN-i)++(Y.drop (hN-i)++Q)))):=by
   rw [←aA (X.take i),hX,←aA (Y.take (hN-i)),hY]
  rw [hl2] at hx hl hA
  have w1:wr .i64 ((nn:Int)-((P.length+i:Nat):Int))=((mid+(X.length-i):Nat):Int):=by rw [wr64 (by omega) (by omega)];omega
  have next:=mrgRot_wp (gt:=gt) (z:=[]) hm ih hr (a:=a) (m:=m) (mid:=mid) (s:=P.length+i) (e:=mid+(X.length-i)) (c:=c) ha (by rw [tA,tB];omega) (by rw [tA,tV];omega) (by rw [tA]) (by rw [tB]) (by rw [tD];omega) (fun _ _=>by rw [tA,tV];omega) (fun _ _=>by rw [tB,tD];omega) hn' sA sV sB sD hx hl hA mo
  clear mo hn' sAD sVB sAB sVD
  conv=>whnf
  refine sI (by rfl) ?_
  conv=>whnf
  refine sI (by rfl) ?_
  conv=>whnf
  refine sI (by rfl) ?_
  conv=>whnf
  refine sI (by rfl) ?_
  conv=>whnf
  rw [w1]
  refine goK ?_
  with_unfolding_all exact next
end
end Go.Dn

namespace Go.Dn
open Go
theorem goJ {G G':Prop} (k:G') (h:G'→G:=by
 intro hk;((try refine And.intro (by rfl) ?_);(conv=>whnf);(repeat (refine sI (by rfl) ?_;conv=>whnf));(generalize hE:keepE _ _=e0;revert hE;apply kI;(repeat (first | exact kN _ | (apply kC;with_unfolding_all rfl;rfl)));rintro rfl));exact hk):G:=h k
end Go.Dn

namespace Go.Dn
open Go Go.Proofs.C1
set_option maxRecDepth 100000
attribute [local irreducible] afterS keepE
section
variable {gt:GT} {C:CallT} {R:List Rs} {ty:TypeId} {t b:Nat}
set_option maxHeartbeats 8000000 in
theorem mrg3_wp (hm:MonoC C) {f:FuncId} {cs:List AV} {n k:Nat} {cz:Nat→Nat→Int} (hz:Cz cz) (hc:CmpC C f cs R ty t b n cz) (ih:MrgC C R ty t b n (.fn f [] cs) cz k) (hr:RotC C R ty t b (.fn f [] cs)) {S:St} {xs:List AV} {P X Y Q:List Nat} {a m c:Nat}
  (ha:a=P.length) (hmm:m=P.length+X.length) (hcc:c=P.length+X.length+Y.length) (hX:2≤X.length) (hY:2≤Y.length) (hk:X.length+Y.length≤k+1) (hn:∀x∈X++Y,x<n) (sX:Srt (leZ cz) X) (sY:Srt (leZ cz) Y)
  (hx:xs.length=(P++(X++(Y++Q))).length) (hl:(P++(X++(Y++Q))).length<1152921504606846976) (hA:ArS S R ty t b (P++(X++(Y++Q)))) :
  wpF gt C F109 [slA t xs.length xs,.int .i64 a,.int .i64 m,.int .i64 c,.fn f [] cs] S fun r S'=>r=.ret (.tup [])∧∃Z,Z.Perm (X++Y)∧Srt (leZ cz) Z∧ArS S' R ty t b (P++(Z++Q)):=by
 have hlen:(P++(X++(Y++Q))).length=P.length+(X.length+(Y.length+Q.length)):=by simp only [lA]
 have hl':=hl
 rw [hlen] at hl'
 obtain⟨hN,hNe⟩:∃h,h=(X.length+Y.length) / 2:=⟨_,rfl⟩
 have w1:wr .i64 ((m:Int)-(a:Int))=(X.length:Int):=by rw [wr64 (by omega) (by omega)];omega
 have w2:wr .i64 ((c:Int)-(m:Int))=(Y.length:Int):=by rw [wr64 (by omega) (by omega)];omega
 have w3:wr .i64 (((P.length+hN:Nat):Int)+(m:Int))=((P.length+hN+m:Nat):Int):=by rw [wr64 (by omega) (by omega)];omega
 have next:∀(l0 h0 lo hi:Nat) (z:Env),lo=P.length+l0→hi=P.length+h0→((l0=0∧h0=X.length∧X.length≤hN∧hN≤Y.length)∨(l0+Y.length=hN∧h0=hN∧hN≤X.length))→_:=fun l0 h0 lo hi z e1 e2 e3 =>
  mrgSeek_wp (gt:=gt) (z:=z) (G:=fun S'=>∃Z,Z.Perm (X++Y)∧Srt (leZ cz) Z∧ArS S' R ty t b (P++(Z++Q))) hm hz hc ih hr (a:=a) (m:=m) (c:=c) (mid:=P.length+hN) (nn:=P.length+hN+m) ha hmm hcc rfl rfl e1 e2 e3 (by omega) (by omega) hn sX sY (by omega) hx hl hA (fun S' Z p s h=>⟨Z,p,s,h⟩)
 refine⟨rfl,?_⟩
 refine goW ?_
 rw [w1,eqI_false (show ¬(X.length:Int)=1 by omega)]
 refine goW ?_
 rw [w2,eqI_false (show ¬(Y.length:Int)=1 by omega)]
 refine goW ?_
 rw [midW (by omega),show (a+c) / 2=P.length+hN by omega]
 refine goW ?_
 rw [w3]
 by_cases hc1:(m:Int) > ((P.length+hN:Nat):Int)
 ·rw [dT hc1]
  have next:=next (hN-Y.length) hN (P.length+hN+m-c) (P.length+hN) [] (by omega) rfl (.inr (by omega))
  have w4:wr .i64 (((P.length+hN+m:Nat):Int)-(c:Int))=((P.length+hN+m-c:Nat):Int):=by rw [wr64 (by omega) (by omega)];omega
  refine goJ ?_
  refine goJ ?_
  rw [w4]
  with_unfolding_all exact next
 ·rw [dF hc1]
  have next:=next 0 X.length a m [] (by omega) hmm (.inl (by omega))
  refine goJ ?_
  refine goJ ?_
  with_unfolding_all exact next
end

section
variable {gt:GT} {C:CallT} {R:List Rs} {ty:TypeId} {t b:Nat}
theorem mrgC (hm:MonoC C) (hI:∀us S Q,wpF gt C F109 us S Q→C 109 us S Q) {f:FuncId} {cs:List AV} {n:Nat} {cz:Nat→Nat→Int} (hz:Cz cz) (hc:CmpC C f cs R ty t b n cz) (hr:RotC C R ty t b (.fn f [] cs)):∀k,MrgC C R ty t b n (.fn f [] cs) cz k
 | 0=>fun S xs P X Y Q a m c hk _ _ _ hX hY=>by
  exfalso
  have:=List.length_pos_iff.2 hX
  omega
 | k+1=>fun S xs P X Y Q a m c hk ha hmm hcc hX hY hn sX sY hx hl hA=>hI _ _ _ (by
  have lX:=List.length_pos_iff.2 hX
  have lY:=List.length_pos_iff.2 hY
  by_cases c1:X.length=1
  ·obtain⟨x,rfl⟩:=List.length_eq_one_iff.1 c1
   have:=mrg1_wp (gt:=gt) hm hz hc (P:=P) (Y:=Y) (Q:=Q) (x:=x) (S:=S) (xs:=xs) (fun y hy=>hn y (List.mem_append_right _ hy)) (hn x (by simp)) sY hx hl hA
   rw [ha,hmm,hcc]
   exact this
  ·by_cases c2:Y.length=1
   ·obtain⟨y,rfl⟩:=List.length_eq_one_iff.1 c2
    have:=mrg2_wp (gt:=gt) hm hz hc (P:=P) (Y:=X) (Q:=Q) (x:=y) (S:=S) (xs:=xs) (fun x hx=>hn x (List.mem_append_left _ hx)) (hn y (by simp)) sX (by omega) hx hl hA
    rw [ha,hmm,hcc]
    exact this
   ·exact mrg3_wp hm hz hc (mrgC hm hI hz hc hr k) hr ha hmm hcc (by omega) (by omega) hk hn sX sY hx hl hA)
def StbC (C:CallT) (R:List Rs) (ty:TypeId) (t b n:Nat) (g:AV) (cz:Nat→Nat→Int) (h:FuncId) (ar:List AV→List AV):Prop :=
 ∀(S:St) (xs:List AV) (L:List Nat),(∀x∈L,x<n)→xs.length=L.length→L.length<1152921504606846976→ArS S R ty t b L →
  C h (ar xs) S fun r S'=>r=.ret (.tup [])∧∃Z,Z.Perm L∧Srt (leZ cz) Z∧ArS S' R ty t b Z
abbrev E_s1 (t:Nat) (xs:List AV) (g:AV) (bs a c:Nat):Env:=[(0,.val (slA t xs.length xs)),(1,.val (.int .i64 xs.length)),(2,.val g),(6,.val (.int .i64 bs)),(7,.val (.int .i64 a)),(8,.val (.int .i64 c))]
abbrev E_s2 (t:Nat) (xs:List AV) (g:AV) (bs:Nat):Env:=[(0,.val (slA t xs.length xs)),(1,.val (.int .i64 xs.length)),(2,.val g),(6,.val (.int .i64 bs))]
theorem take_drop2 (u:List Nat) (k:Nat):u.take k++((u.drop k).take k++u.drop (2*k))=u:=by
 rw [show u.drop (2*k)=(u.drop k).drop k by rw [List.drop_drop];congr 1;omega,tkD,tkD]
set_option maxHeartbeats 8000000 in
theorem stb_wp (hm:MonoC C) {f:FuncId} {cs:List AV} {n:Nat} {cz:Nat→Nat→Int} (hi:InsC C R ty t b n (.fn f [] cs) cz) (hg:∀k,MrgC C R ty t b n (.fn f [] cs) cz k) {S:St} {xs:List AV} {L:List Nat} (hn:∀x∈L,x<n) (hx:xs.length=L.length) (hl:L.length<1152921504606846976) (hA:ArS S R ty t b L) :
  wpF gt C F90 [slA t xs.length xs,.int .i64 xs.length,.fn f [] cs] S fun r S'=>r=.ret (.tup [])∧∃Z,Z.Perm L∧Srt (leZ cz) Z∧ArS S' R ty t b Z:=by
 refine⟨rfl,?_⟩
 refine goW ?_
 refine loop_rule hm (α:=List Nat×List Nat) (fun q env S'=>env=E_s1 t xs (.fn f [] cs) 20 q.1.length (q.1.length+20)∧(q.1++q.2).Perm L∧Blk (leZ cz) 20 q.1∧q.1.length % 20=0∧ArS S' R ty t b (q.1++q.2)) (fun q=>q.2.length) ?_ (a:=([],L)) ⟨rfl,List.Perm.refl _,Blk.nil,rfl,hA⟩
 rintro⟨d,u⟩ env S1 ⟨rfl,hp,hb,hd,hA⟩
 simp only at hp hb hd hA
 have pl:=hp.length_eq
 rw [lA] at pl
 have hun:∀x∈u,x<n:=fun x hx=>hn x (hp.mem_iff.1 (List.mem_append_right _ hx))
 refine goW ?_
 by_cases c1:((d.length+20:Nat):Int)≤(xs.length:Int)
 ·rw [dT c1]
  have ht:(u.take 20).length=20:=by rw [lT];omega
  have hA':ArS S1 R ty t b (d++(u.take 20++u.drop 20)):=by rw [tkD];exact hA
  refine goW ?_
  refine call_rule (by rfl) (hm _ _ _ _ _ (hi S1 xs d (u.take 20) (u.drop 20) d.length (d.length+20) rfl (by rw [ht]) (fun x hx=>hun x (List.mem_of_mem_take hx)) (by rw [tkD,lA];omega) (by rw [tkD,lA];omega) hA') ?_)
  rintro r S2 ⟨rfl,Z,z1,z2,z3⟩
  have zl:=z1.length_eq
  rw [ht] at zl
  refine goW ?_
  refine⟨(d++Z,u.drop 20),⟨?_,?_,hb.app (by omega) hd (Blk.of z2),by rw [lA,zl];omega,by rw [aA];exact z3⟩,by simp only [lD];omega⟩
  ·simp only [E_s1]
   rw [show wr .i64 (((d.length+20:Nat):Int)+((20:Nat):Int))=((d.length+20+20:Nat):Int) by rw [wr64 (by omega) (by omega)];omega,lA,zl]
  ·refine List.Perm.trans ?_ hp
   simp only
   rw [aA]
   refine List.Perm.append_left d ?_
   have:=List.Perm.append_right (u.drop 20) z1
   rw [tkD] at this
   exact this
 ·rw [dF c1]
  have hA':ArS S1 R ty t b (d++(u++[])):=by rw [List.append_nil];exact hA
  refine goW ?_
  refine call_rule (by rfl) (hm _ _ _ _ _ (hi S1 xs d u [] d.length xs.length rfl (by omega) hun (by rw [List.append_nil,lA];omega) (by rw [List.append_nil,lA];omega) hA') ?_)
  rintro r S2 ⟨rfl,Z,z1,z2,z3⟩
  have zl:=z1.length_eq
  refine goW ?_
  have hp2:(d++Z).Perm L:=(List.Perm.append_left d z1).trans hp
  have hb2:Blk (leZ cz) 20 (d++Z):=hb.app (by omega) hd (Blk.of z2)
  rw [List.append_nil] at z3
  generalize d++Z=D at hp2 hb2 z3
  clear hp hb hd hA hA' pl hun c1 z1 z2 zl
  refine loop_rule hm (α:=List Nat×Nat) (fun q env S'=>env=E_s2 t xs (.fn f [] cs) q.2∧q.1.Perm L∧0<q.2∧q.2<2305843009213693952∧Blk (leZ cz) q.2 q.1∧ArS S' R ty t b q.1) (fun q=>xs.length-q.2) ?_ (a:=(D,20)) ⟨rfl,hp2,by simp only;omega,by simp only;omega,hb2,z3⟩
  clear hp2 hb2 z3 D Z
  rintro⟨D,bs⟩ env S3 ⟨rfl,hp,b0,b1,hb,hA⟩
  simp only at hp b0 b1 hb hA
  refine goW ?_
  by_cases c2:(bs:Int)<(xs.length:Int)
  ·rw [dT c2]
   refine goW ?_
   have w2:wr .i64 (2*(bs:Int))=((2*bs:Nat):Int):=by rw [wr64 (by omega) (by omega)];omega
   rw [w2]
   refine loop_rule hm (α:=List Nat×List Nat) (fun q env S'=>env=E_s1 t xs (.fn f [] cs) bs q.1.length (q.1.length+2*bs)∧(q.1++q.2).Perm L∧Blk (leZ cz) (2*bs) q.1∧q.1.length % (2*bs)=0∧Blk (leZ cz) bs q.2∧ArS S' R ty t b (q.1++q.2)) (fun q=>q.2.length) ?_ (a:=([],D)) ⟨by simp [E_s1],hp,Blk.nil,by simp,hb,hA⟩
   clear hp hb hA
   rintro⟨d,u⟩ env S4 ⟨rfl,hp,hd,hdl,hb,hA⟩
   simp only at hp hd hdl hb hA
   have pl:=hp.length_eq
   rw [lA] at pl
   have hun:∀x∈u,x<n:=fun x hx=>hn x (hp.mem_iff.1 (List.mem_append_right _ hx))
   refine goW ?_
   by_cases c3:((d.length+2*bs:Nat):Int)≤(xs.length:Int)
   ·rw [dT c3]
    have ht:(u.take bs).length=bs:=by rw [lT];omega
    have ht2:((u.drop bs).take bs).length=bs:=by rw [lT,lD];omega
    have h3:=take_drop2 u bs
    have hA':ArS S4 R ty t b (d++(u.take bs++((u.drop bs).take bs++u.drop (2*bs)))):=by rw [h3];exact hA
    rw [←h3] at hb
    have b1':Blk (leZ cz) bs (u.take bs):=Blk.take hb
    have b2':=Blk.drop hb b0 (by rw [ht];exact Nat.mod_self _)
    have b3':=Blk.drop b2' b0 (by rw [ht2];exact Nat.mod_self _)
    have w3:wr .i64 ((d.length:Int)+(bs:Int))=((d.length+bs:Nat):Int):=by rw [wr64 (by omega) (by omega)];omega
    have w4:wr .i64 (((d.length+2*bs:Nat):Int)+((2*bs:Nat):Int))=((d.length+2*bs+2*bs:Nat):Int):=by rw [wr64 (by omega) (by omega)];omega
    have hcall:=hg (bs+bs) S4 xs d (u.take bs) ((u.drop bs).take bs) (u.drop (2*bs)) d.length (d.length+bs) (d.length+2*bs) (by rw [ht,ht2];omega) rfl (by rw [ht]) (by rw [ht,ht2];omega) (fun h=>by rw [h] at ht;simp at ht;omega) (fun h=>by rw [h] at ht2;simp at ht2;omega) (fun x hx=>hun x (by rw [←h3];simp only [List.mem_append] at hx ⊢;rcases hx with h | h;exact .inl h;exact .inr (.inl h))) (b1'.srt (by omega)) (b2'.take.srt (by omega)) (by rw [h3,lA];omega) (by rw [h3,lA];omega) hA'
    refine goW ?_
    rw [w3]
    refine call_rule (by rfl) (hm _ _ _ _ _ hcall ?_)
    rintro r S5 ⟨rfl,Z,z1,z2,z3⟩
    have zl:=z1.length_eq
    rw [lA,ht,ht2] at zl
    refine goW ?_
    rw [w2,w4]
    refine⟨(d++Z,u.drop (2*bs)),⟨?_,?_,hd.app (by omega) hdl (Blk.of z2),?_,b3',by rw [aA];exact z3⟩,by simp only [lD];omega⟩
    ·rw [lA,zl]
     simp only [E_s1]
     rw [show d.length+(bs+bs)=d.length+2*bs by omega]
    ·refine List.Perm.trans ?_ hp
     simp only
     rw [aA]
     refine List.Perm.append_left d ?_
     have:=List.Perm.append_right (u.drop (2*bs)) z1
     rw [aA,h3] at this
     exact this
    ·simp only
     rw [lA,zl,show bs+bs=2*bs by omega,Nat.add_mod_right];exact hdl
   ·rw [dF c3]
    have w3:wr .i64 ((d.length:Int)+(bs:Int))=((d.length+bs:Nat):Int):=by rw [wr64 (by omega) (by omega)];omega
    have w4:wr .i64 ((bs:Int)*2)=((bs*2:Nat):Int):=by rw [wr64 (by omega) (by omega)];omega
    refine goW ?_
    rw [w3]
    by_cases c4:((d.length+bs:Nat):Int)<(xs.length:Int)
    ·rw [dT c4]
     have ht:(u.take bs).length=bs:=by rw [lT];omega
     have ht2:(u.drop bs).length=u.length-bs:=lD
     have h3:u.take bs++(u.drop bs++[])=u:=by rw [List.append_nil,tkD]
     have hA':ArS S4 R ty t b (d++(u.take bs++(u.drop bs++[]))):=by rw [h3];exact hA
     rw [←tkD bs u] at hb
     have b1':Blk (leZ cz) bs (u.take bs):=Blk.take hb
     have b2':=Blk.drop hb b0 (by rw [ht];exact Nat.mod_self _)
     have hcall:=hg u.length S4 xs d (u.take bs) (u.drop bs) [] d.length (d.length+bs) xs.length (by rw [ht,ht2];omega) rfl (by rw [ht]) (by rw [ht,ht2];omega) (fun h=>by rw [h] at ht;simp at ht;omega) (fun h=>by rw [h] at ht2;simp at ht2;omega) (fun x hx=>hun x (by rw [tkD] at hx;exact hx)) (b1'.srt (by omega)) (b2'.srt (by omega)) (by rw [h3,lA];omega) (by rw [h3,lA];omega) hA'
     refine goW ?_
     refine call_rule (by rfl) (hm _ _ _ _ _ hcall ?_)
     rintro r S5 ⟨rfl,Z,z1,z2,z3⟩
     rw [tkD] at z1
     rw [List.append_nil] at z3
     refine goW ?_
     rw [w4]
     refine⟨(d++Z,2*bs),⟨by simp only [E_s2];rw [Nat.mul_comm],(List.Perm.append_left d z1).trans hp,by simp only;omega,by simp only;omega,hd.app (by omega) hdl (Blk.of z2),z3⟩,by simp only;omega⟩
    ·rw [dF c4]
     refine goW ?_
     rw [w4]
     refine⟨(d++u,2*bs),⟨by simp only [E_s2];rw [Nat.mul_comm],hp,by simp only;omega,by simp only;omega,hd.app (by omega) hdl (Blk.of (hb.srt (by omega))),hA⟩,by simp only;omega⟩
  ·rw [dF c2]
   refine goW ?_
   have pl:=hp.length_eq
   exact⟨_,rfl,rfl,D,hp,hb.srt (by omega),hA⟩
end
end Go.Dn

namespace Go.Dn
open Go Go.Proofs.C1
theorem cmpB_cons (a b:UInt8) (x y:List UInt8):cmpB (a::x) (b::y)=if a.toNat=b.toNat then cmpB x y else if a.toNat<b.toNat then -1 else 1:=by
 rw [cmpB]
 by_cases h:a.toNat=b.toNat
 ·rw [if_pos h,h,Nat.beq_refl];rfl
 ·have:Nat.beq a.toNat b.toNat=false:=by
   cases q:Nat.beq a.toNat b.toNat with
   | false=>rfl
   | true=>exact absurd (bE q) h
  rw [if_neg h,this]
  by_cases k:a.toNat<b.toNat
  ·rw [if_pos k,show Nat.blt a.toNat b.toNat=true from Nat.ble_eq_true_of_le k];rfl
  ·have:Nat.blt a.toNat b.toNat=false:=by
    cases q:Nat.blt a.toNat b.toNat with
    | false=>rfl
    | true=>exact absurd (Nat.le_of_ble_eq_true q) k
   rw [if_neg k,this];rfl
theorem cmpB_self:∀a:List UInt8,cmpB a a=0
 | []=>rfl
 | a::x=>by rw [cmpB_cons,if_pos rfl];exact cmpB_self x
theorem cmpB_anti:∀a b:List UInt8,cmpB b a=- cmpB a b
 | [],[]=>rfl
 | [],_::_=>rfl
 | _::_,[]=>rfl
 | a::x,b::y=>by
  rw [cmpB_cons,cmpB_cons]
  by_cases h:a.toNat=b.toNat
  ·rw [if_pos h,if_pos h.symm];exact cmpB_anti x y
  ·rw [if_neg h,if_neg (fun e=>h e.symm)]
   by_cases k:a.toNat<b.toNat
   ·rw [if_pos k,if_neg (by omega)];rfl
   ·rw [if_neg k,if_pos (by omega)]
theorem cmpB_zero:∀{a b:List UInt8},cmpB a b=0→a=b
 | [],[],_=>rfl
 | [],_::_,h=>by rw [show cmpB [] (_::_)=-1 from rfl] at h;exact absurd h (by decide)
 | _::_,[],h=>by rw [show cmpB (_::_) []=1 from rfl] at h;exact absurd h (by decide)
 | a::x,b::y,h=>by
  rw [cmpB_cons] at h
  by_cases e:a.toNat=b.toNat
  ·rw [if_pos e] at h
   rw [cmpB_zero h,UInt8.toNat_inj.1 e]
  ·rw [if_neg e] at h
   by_cases k:a.toNat<b.toNat
   ·rw [if_pos k] at h;cases h
   ·rw [if_neg k] at h;cases h
theorem cmpB_tr:∀{a b c:List UInt8},0≤cmpB b a→0≤cmpB c b→0≤cmpB c a
 | [],_,[],_,_=>by decide
 | [],_,_::_,_,_=>by rw [show cmpB (_::_) []=1 from rfl];decide
 | _::_,[],_,h,_=>absurd h (by rw [show cmpB [] (_::_)=-1 from rfl];decide)
 | _::_,_::_,[],_,h=>absurd h (by rw [show cmpB [] (_::_)=-1 from rfl];decide)
 | a::x,b::y,c::z,h,k=>by
  rw [cmpB_cons] at h k ⊢
  by_cases e:b.toNat=a.toNat
  ·rw [if_pos e] at h
   by_cases e2:c.toNat=b.toNat
   ·rw [if_pos e2] at k
    rw [if_pos (by omega)]
    exact cmpB_tr h k
   ·rw [if_neg e2] at k
    rw [if_neg (by omega)]
    by_cases l:c.toNat<b.toNat
    ·rw [if_pos l] at k;exact absurd k (by decide)
    ·rw [if_neg (by omega)];decide
  ·rw [if_neg e] at h
   by_cases l:b.toNat<a.toNat
   ·rw [if_pos l] at h;exact absurd h (by decide)
   ·by_cases e2:c.toNat=b.toNat
    ·rw [if_neg (by omega),if_neg (by omega)];decide
    ·rw [if_neg e2] at k
     by_cases l2:c.toNat<b.toNat
     ·rw [if_pos l2] at k;exact absurd k (by decide)
     ·rw [if_neg (by omega),if_neg (by omega)];decide
def czK (keys:List (List UInt8)) (i j:Nat):Int:=cmpB (keys.getD i []) (keys.getD j [])
theorem czK_cz (keys:List (List UInt8)):Cz (czK keys) where
 rf a:=by unfold czK;rw [cmpB_self];exact Int.le_refl 0
 tr h k:=cmpB_tr h k
 asy {a b} h:=by
  unfold czK at h ⊢
  rw [cmpB_anti];omega
def ordK (keys:List (List UInt8)):List Nat:=(List.range keys.length).mergeSort fun i j=>decide (0≤czK keys j i)
theorem ordK_perm (keys:List (List UInt8)):(ordK keys).Perm (List.range keys.length):=List.mergeSort_perm _ _
theorem ordK_srt (keys:List (List UInt8)):Srt (leZ (czK keys)) (ordK keys):=by
 have:=List.pairwise_mergeSort (le:=fun i j=>decide (0≤czK keys j i)) (fun a b c h k=>by
  simp only [decide_eq_true_eq] at h k ⊢
  exact (czK_cz keys).tr h k) (fun a b=>by
  simp only [Bool.or_eq_true,decide_eq_true_eq]
  rcases Int.lt_or_le (czK keys b a) 0 with q | q
  ·exact .inr ((czK_cz keys).asy q)
  ·exact .inl q) (List.range keys.length)
 exact this.imp fun h=>of_decide_eq_true h
theorem ordK_len (keys:List (List UInt8)):(ordK keys).length=keys.length:=by rw [(ordK_perm keys).length_eq,List.length_range]
theorem ordK_lt {keys:List (List UInt8)} {i:Nat} (h:i∈ordK keys):i<keys.length:=List.mem_range.1 ((ordK_perm keys).mem_iff.1 h)
theorem ordK_uniq {keys:List (List UInt8)} (hd:keys.Nodup) {Z:List Nat} (hp:Z.Perm (List.range keys.length)) (hs:Srt (leZ (czK keys)) Z):Z=ordK keys:=by
 refine List.Perm.eq_of_pairwise (fun a b ha hb h k=>?_) hs (ordK_srt keys) (hp.trans (ordK_perm keys).symm)
 have la:=List.mem_range.1 (hp.mem_iff.1 ha)
 have lb:=ordK_lt hb
 unfold leZ czK at h k
 rw [cmpB_anti] at h
 have:=cmpB_zero (a:=keys.getD a []) (b:=keys.getD b []) (by omega)
 rw [List.getD_eq_getElem?_getD,List.getD_eq_getElem?_getD,gE la,gE lb] at this
 exact (List.getElem_inj hd).1 this
end Go.Dn

namespace Go.Dn
open Go Go.Proofs.C1
set_option maxRecDepth 100000
attribute [local irreducible] afterS keepE
theorem sx_ldBx {gt:GT} {d:Option Nat} {env:Env} {S:St} {R:List Rs} (h:Hs S R) (i:Nat) {id:Nat} {ty:TypeId} {v:AV} (hi:R[i]? = some (.bx id ty [v])) (hn:notAgg v=true) {a:DOpd} (ha:loc env a=some (.hp id 0)) :
  stepO gt d env S (.ld false 1 a)=.done (putV d v env) S:=by
 have hb:=(h.ok i _ hi).2
 have:ldL gt env S false 1 (.hp id 0)=some v:=by
  simp only [ldL,ldC,hb,cut]
  show mkv false [v]=some v
  simp only [mkv,hn,cond_true,cond_false]
 simp only [stepO,ha,this,SR.val]
section
variable {gt:GT} {C:CallT}
theorem cmpS_wp {a c:List UInt8}:wpF gt C F91 [.str a,.str c] St.init (Ret (.int .i64 (cmpB a c))):=by
 refine⟨rfl,?_⟩
 refine goW ?_
 exact⟨_,rfl,Ret.sta trivial⟩
theorem compare_wp (hm:MonoC C) (h:∀a c,PF C 91 [.str a,.str c] (.int .i64 (cmpB a c))) {a c:List UInt8}:wpF gt C F78 [.str a,.str c] St.init (Ret (.int .i64 (cmpB a c))):=by
 refine⟨rfl,?_⟩
 refine goW ?_
 refine call_pf hm (by rfl) (h a c) (goW ?_)
 exact⟨_,rfl,Ret.sta trivial⟩
abbrev R_k (keys:List (List UInt8)):List Rs:=[.bx 0 22 [.sl 1 stat (strs keys)]]
set_option maxHeartbeats 2000000 in
theorem ord1_wp (hm:MonoC C) (h:∀a c,PF C 78 [.str a,.str c] (.int .i64 (cmpB a c))) {keys:List (List UInt8)} {S:St} {ty:TypeId} {t b:Nat} {l:List Nat} {i j:Nat} (hA:ArS S (R_k keys) ty t b l) (hi:i<keys.length) (hj:j<keys.length) :
  wpF gt C F77 [.int .i64 i,.int .i64 j,.ptr 0 0] S fun r S'=>r=.ret (.int .i64 (czK keys i j))∧S'=S:=by
 have ei:keys.getD i []=keys[i]:=by rw [List.getD_eq_getElem?_getD,gE hi];rfl
 have ej:keys.getD j []=keys[j]:=by rw [List.getD_eq_getElem?_getD,gE hj];rfl
 unfold czK
 rw [ei,ej]
 have si:=strs_at hi
 have sj:=strs_at hj
 generalize keys[i]=x at si
 generalize keys[j]=y at sj
 have li:i<(strs keys).length:=by rw [strs_length];exact hi
 have lj:j<(strs keys).length:=by rw [strs_length];exact hj
 refine⟨rfl,?_⟩
 refine goW ?_
 refine step_ruleDO rfl rfl (sx_ldBx hA 0 rfl rfl rfl) (goW ?_)
 refine step_ruleDO rfl rfl (sx_ia (k:=i) rfl rfl li) (goW ?_)
 refine step_ruleDO rfl rfl (sx_ldEl (agg:=false) rfl rfl si rfl) (goW ?_)
 refine step_ruleDO rfl rfl (sx_ldBx hA 0 rfl rfl rfl) (goW ?_)
 refine step_ruleDO rfl rfl (sx_ia (k:=j) rfl rfl lj) (goW ?_)
 refine step_ruleDO rfl rfl (sx_ldEl (agg:=false) rfl rfl sj rfl) (goW ?_)
 refine call_pfD hm (by rfl) (h x y) (goW ?_)
 exact⟨_,rfl,rfl,rfl⟩
def SstC (C:CallT) (R:List Rs) (ty:TypeId) (t b n:Nat) (g:AV) (cz:Nat→Nat→Int):Prop :=
 StbC C R ty t b n g cz 76 fun xs=>[slA t xs.length xs,g]
theorem sst_wp (hm:MonoC C) {R:List Rs} {ty:TypeId} {t b n:Nat} {f:FuncId} {cs:List AV} {cz:Nat→Nat→Int} (h:StbC C R ty t b n (.fn f [] cs) cz 90 fun xs=>[slA t xs.length xs,.int .i64 xs.length,.fn f [] cs]) {S:St} {xs:List AV} {L:List Nat} (hn:∀x∈L,x<n) (hx:xs.length=L.length) (hl:L.length<1152921504606846976) (hA:ArS S R ty t b L) :
  wpF gt C F76 [slA t xs.length xs,.fn f [] cs] S fun r S'=>r=.ret (.tup [])∧∃Z,Z.Perm L∧Srt (leZ cz) Z∧ArS S' R ty t b Z:=by
 refine⟨rfl,?_⟩
 refine goW ?_
 refine call_rule (by rfl) (hm _ _ _ _ _ (h S xs L hn hx hl hA) ?_)
 rintro r S2 ⟨rfl,Z,z1,z2,z3⟩
 refine goW ?_
 exact⟨_,rfl,rfl,Z,z1,z2,z3⟩
abbrev slN:AV:=.sl 1 ⟨none,0,some 0,false⟩ []
theorem ins0_wp {S:St} {g:AV}:wpF gt C F108 [slN,.int .i64 0,.int .i64 0,g] S fun r S'=>r=.ret (.tup [])∧S'=S:=by
 refine⟨rfl,?_⟩
 refine goW ?_
 refine⟨1,?_⟩
 refine goW ?_
 exact⟨_,rfl,rfl,rfl⟩
theorem stb0_wp (hm:MonoC C) {g:AV} (h:∀S,C 108 [slN,.int .i64 0,.int .i64 0,g] S fun r S'=>r=.ret (.tup [])∧S'=S) {S:St}:wpF gt C F90 [slN,.int .i64 0,g] S fun r S'=>r=.ret (.tup [])∧S'=S:=by
 refine⟨rfl,?_⟩
 refine goW ?_
 refine⟨1,?_⟩
 refine goW ?_
 refine call_rule (by rfl) (hm _ _ _ _ _ (h S) ?_)
 rintro r S2 ⟨rfl,rfl⟩
 refine goW ?_
 refine⟨1,?_⟩
 refine goW ?_
 exact⟨_,rfl,rfl,rfl⟩
theorem sst0_wp (hm:MonoC C) {g:AV} (h:∀S,C 90 [slN,.int .i64 0,g] S fun r S'=>r=.ret (.tup [])∧S'=S) {S:St}:wpF gt C F76 [slN,g] S fun r S'=>r=.ret (.tup [])∧S'=S:=by
 refine⟨rfl,?_⟩
 refine goW ?_
 refine call_rule (by rfl) (hm _ _ _ _ _ (h S) ?_)
 rintro r S2 ⟨rfl,rfl⟩
 refine goW ?_
 exact⟨_,rfl,rfl,rfl⟩
theorem order0_wp (hm:MonoC C) (h:∀S,C 76 [slN,.fn 77 [] [.ptr 0 0]] S fun r S'=>r=.ret (.tup [])∧S'=S):wpF gt C F61 [.sl 1 stat []] St.init (Ret (.sl 1 stat [])):=by
 refine⟨rfl,?_⟩
 refine goW ?_
 refine⟨1,?_⟩
 refine goW ?_
 refine call_rule (by rfl) (hm _ _ _ _ _ (h _) ?_)
 rintro r S2 ⟨rfl,rfl⟩
 refine goW ?_
 exact⟨_,rfl,_,rfl,by simp only [Rdo];exact⟨trivial,_,_,false,[],rfl,rfl,by simp only [Rdos]⟩⟩
abbrev E_or (t n i:Nat) (xs:List AV):Env:=[(1,.val (.ptr 0 0)),(3,.val (slA t n xs)),(9,.val (.int .i64 n)),(10,.val (.int .i64 i))]
theorem ints_zero (n:Nat):List.replicate n (.int .i64 0)=ints (List.replicate n 0):=by simp [ints]
set_option maxHeartbeats 4000000 in
theorem order_wp (hm:MonoC C) {keys:List (List UInt8)} (h:∀t b,SstC C (R_k keys) 3 t b keys.length (.fn 77 [] [.ptr 0 0]) (czK keys)) (hd:keys.Nodup) (h0:0<keys.length) (hl:keys.length<1099511627776) :
  wpF gt C F61 [.sl 1 stat (strs keys)] St.init (Ret (.sl 1 stat (ints (ordK keys)))):=by
 have sl:(strs keys).length=keys.length:=strs_length keys
 refine⟨rfl,?_⟩
 refine goW ?_
 have hb:=Hs.init.newBox 22 [.sl 1 stat (strs keys)]
 refine r_mks (n:=keys.length) (c:=keys.length) hb trivial (by rw [←sl];rfl) (by rw [←sl];rfl) (Nat.le_refl _) h0 (by omega) (by omega) rfl ?_
 intro t b S hS
 have hA:ArS S (R_k keys) 3 t b (List.replicate keys.length 0):=by
  unfold ArS
  rw [←ints_zero,List.append_nil]
  exact hS
 clear hS hb
 have hxl:(List.replicate keys.length (AV.int .i64 0)).length=keys.length:=List.length_replicate
 generalize List.replicate keys.length (AV.int .i64 0)=xs at hxl
 refine goW ?_
 rw [hxl]
 refine loop_rule hm (α:=Nat) (fun i env S'=>env=E_or t keys.length i xs∧i≤keys.length∧ArS S' (R_k keys) 3 t b (List.range i++List.replicate (keys.length-i) 0)) (fun i=>keys.length-i) ?_ (a:=0) ⟨rfl,Nat.zero_le _,by simpa using hA⟩
 clear hA
 rintro i env S' ⟨rfl,hi,hA⟩
 refine goW ?_
 by_cases c:(i:Int)<(keys.length:Int)
 ·rw [dT c]
  have hset:(List.range i++List.replicate (keys.length-i) 0).set i i=List.range (i+1)++List.replicate (keys.length-(i+1)) 0:=by
   obtain⟨m,hm⟩:∃m,keys.length-i=m+1:=⟨keys.length-i-1,by omega⟩
   rw [hm,List.replicate_succ,set_mid (by rw [List.length_range]),show keys.length-(i+1)=m by omega,List.range_succ,aA];rfl
  have hll:xs.length=(List.range i++List.replicate (keys.length-i) 0).length:=by rw [hxl,lA,List.length_range,List.length_replicate];omega
  refine goW ?_
  refine step_ruleO (sx_ia (k:=i) rfl rfl (by omega)) (goW ?_)
  refine st_runP (hA.st hll rfl rfl (by omega)) (by trivial) ?_
  intro S2 hA2
  rw [hset] at hA2
  refine goW ?_
  refine⟨i+1,⟨?_,by omega,hA2⟩,by omega⟩
  rw [wrNat (by omega)]
  try rfl
 ·rw [dF c]
  obtain rfl:i=keys.length:=by omega
  rw [Nat.sub_self,List.replicate_zero,List.append_nil] at hA
  have hcall:=h t b S' xs (List.range keys.length) (fun x hx=>List.mem_range.1 hx) (by rw [hxl,List.length_range]) (by rw [List.length_range];omega) hA
  simp only [hxl] at hcall
  refine goW ?_
  refine call_rule (by rfl) (hm _ _ _ _ _ hcall ?_)
  rintro r S2 ⟨rfl,Z,z1,z2,z3⟩
  rw [ordK_uniq hd z1 z2] at z3
  refine goW ?_
  exact⟨_,rfl,_,rfl,by simp only [Rdo];exact⟨trivial,_,_,false,_,rfl,z3.els (by rw [hxl,ordK_len]),Stas.rdos _ (by
   generalize ordK keys=l
   induction l with
   | nil=>trivial
   | cons a r ih=>exact⟨trivial,ih⟩)⟩⟩
end

def zPT:PT:=.mk 0 [] [] []
mutual
def sortT:PT→PT
 |.mk k s keys kids=>if k=7∧keys.length=kids.length then .mk k s ((ordK keys).map fun i=>keys.getD i []) ((ordK keys).map fun i=>(sortTs kids).getD i zPT) else .mk k s keys (sortTs kids)
def sortTs:List PT→List PT
 | []=>[]
 | t::r=>sortT t::sortTs r
end
theorem sortTs_map:∀l:List PT,sortTs l=l.map sortT
 | []=>rfl
 | t::r=>by simp only [sortTs,List.map_cons,sortTs_map r]
mutual
def PT.nd:PT→Prop
 |.mk k _ keys kids=>(k=7→keys.length=kids.length→keys.Nodup∧keys.length<1099511627776)∧PT.nds kids
def PT.nds:List PT→Prop
 | []=>True
 | t::r=>t.nd∧PT.nds r
end
theorem PT.nds_get:∀{l:List PT} {i:Nat} (h:i<l.length),PT.nds l→(l[i]).nd
 | a::r,0,_,h=>by simp only [PT.nds] at h;exact h.1
 | a::r,i+1,hi,h=>by simp only [PT.nds] at h;exact PT.nds_get (l:=r) (i:=i) (by simpa using hi) h.2
def DC.lft:DC→DC |.seq a _=>a | c=>c
section
variable {gt:GT} {C:CallT}
abbrev E_so1 (k:Int) (s:List UInt8) (keys:List (List UInt8)) (o1 o2:SI) (all kids:List PT) (i:Int):Env :=
 [(2,.box zT),(3,.box [.int .i64 k,.str s,.sl 1 o1 (strs keys),.sl 4 o2 (encTs kids)]),(32,.val (.sl 4 stat (encTs all))),(33,.val (.int .i64 (encTs all).length)),(34,.val (.int .i64 i))]
abbrev E_so2 (t:PT) (k:Int) (s:List UInt8) (keys:List (List UInt8)) (o1 o2:SI) (kids:List PT) (L:List Nat) (i:Int):Env :=
 [(1,.box (encT t).cells),(2,.box zT),(3,.box [.int .i64 k,.str s,.sl 1 o1 (strs keys),.sl 4 o2 (encTs kids)]),(49,.val (.sl 1 stat (ints L))),(50,.val (.int .i64 (ints L).length)),(51,.val (.int .i64 i))]
set_option maxHeartbeats 4000000 in
theorem sorted1_wp (hm:MonoC C) {k:Int} {s:List UInt8} {keys:List (List UInt8)} {kids:List PT} (ih:∀u,u.n<(PT.mk k s keys kids).n→u.ok→u.nd→PF C 57 [encT u] (encT (sortT u))) (hk:(PT.mk k s keys kids).ok) (hd:PT.nds kids) {S:St} (hR:Hs S [.gr 9 ⟨none,0,some 0,true⟩ [],.gr 25 ⟨none,0,some 0,true⟩ []]) {z:Env} :
  wpD gt C (.seq F57.body.rt.rt.lft.rt F57.body.rt.rt.rt) ((1,.box (encT (.mk k s keys kids)).cells)::(2,.box zT)::(3,.box [.int .i64 k,.str s,.sl 1 ⟨none,0,some 0,true⟩ [],.sl 4 ⟨none,0,some 0,true⟩ []])::(24,.val (.bool true))::z) S (bodyQ gt F57.res (Ret (encT (.mk k s keys (sortTs kids))))):=by
 simp only [PT.ok] at hk
 obtain⟨hk1,hk2,hk3⟩:=hk
 conv=>whnf
 refine goW ?_
 refine r_app hR 0 rfl trivial rfl rfl rfl (by rw [strs_length];simpa using hk1) (by rw [strs_length];simp;omega) (by decide) (by decide) (cells_strs keys) ?_
 intro o1 S1 hR
 refine goW ?_
 have hlen:=encTs_len kids
 refine loop_rule hm (α:=Nat) (fun i env S'=>i≤kids.length∧∃o2,Hs S' [.gr 9 o1 (strs keys),.gr 25 o2 (encTs ((sortTs kids).take i))]∧env=E_so1 k s keys o1 o2 kids ((sortTs kids).take i) i) (fun i=>kids.length-i) ?_ (a:=0) ⟨Nat.zero_le _,_,hR,rfl⟩
 rintro i env S' ⟨hi,o2,hR,rfl⟩
 have hsl:(sortTs kids).length=kids.length:=by rw [sortTs_map,List.length_map]
 refine goW ?_
 by_cases h:(i:Int)<(encTs kids).length
 ·rw [dT h]
  refine goW ?_
  have hik:i<kids.length:=by omega
  have his:i<(sortTs kids).length:=by omega
  have hge:(sortTs kids)[i]=sortT kids[i]:=by simp only [sortTs_map,List.getElem_map]
  refine step_ruleO (sx_ia (k:=i) rfl rfl (by omega)) (goW ?_)
  refine step_ruleO (sx_ldEl (agg:=true) rfl rfl (encTs_get hik) (rdT _)) ?_
  have ihk:=ih _ (kid_lt hik) (PT.oks_get hk3 (gE hik)) (PT.nds_get hik hd)
  have hok:=encT_ok (sortT kids[i])
  have hts:encTs ((sortTs kids).take (i+1))=encTs ((sortTs kids).take i)++[encT (sortT kids[i])]:=by rw [tS his,encTs_app,hge];rfl
  obtain⟨ka,sa,xa,ya,he⟩:=encT_agg kids[i]
  obtain⟨kb,sb,xb,yb,he2⟩:=encT_agg (sortT kids[i])
  rw [he2] at ihk hts hok
  rw [he] at ihk ⊢
  refine goW ?_
  refine call_pfD hm (by rfl) ihk (goW ?_)
  have hlt:(encTs ((sortTs kids).take i)).length=i:=by rw [encTs_len,lT];omega
  refine r_appD hR 1 rfl (by trivial) rfl rfl rfl (by rw [hlt];simp;omega) (by rw [hlt];simp;omega) (by decide) (by decide) hok ?_
  intro o3 S3 hR
  refine goW ?_
  refine⟨i+1,⟨by omega,o3,by rw [hts];exact hR,?_⟩,by omega⟩
  rw [wrNat (by omega)]
  simp only [E_so1,hts]
  try rfl
 ·rw [dF h]
  refine goW ?_
  have:(sortTs kids).take i=sortTs kids:=List.take_of_length_le (by omega)
  rw [this] at hR ⊢
  exact⟨_,rfl,_,rfl,rdo_T hR (i:=0) (j:=1) rfl rfl⟩
set_option maxHeartbeats 4000000 in
theorem sorted2_wp (hm:MonoC C) (ho:∀keys:List (List UInt8),keys.Nodup→keys.length<1099511627776→PF C 61 [.sl 1 stat (strs keys)] (.sl 1 stat (ints (ordK keys)))) {k:Int} {s:List UInt8} {keys:List (List UInt8)} {kids:List PT} (ih:∀u,u.n<(PT.mk k s keys kids).n→u.ok→u.nd→PF C 57 [encT u] (encT (sortT u))) (hk:(PT.mk k s keys kids).ok) (hd:PT.nds kids) (hdk:keys.Nodup) (hl:keys.length=kids.length) (hl2:keys.length<1099511627776) {S:St} (hR:Hs S [.gr 9 ⟨none,0,some 0,true⟩ [],.gr 25 ⟨none,0,some 0,true⟩ []]) {z:Env} :
  wpD gt C (.seq F57.body.rt.rt.lft.rt F57.body.rt.rt.rt) ((1,.box (encT (.mk k s keys kids)).cells)::(2,.box zT)::(3,.box [.int .i64 k,.str s,.sl 1 ⟨none,0,some 0,true⟩ [],.sl 4 ⟨none,0,some 0,true⟩ []])::(24,.val (.bool false))::z) S (bodyQ gt F57.res (Ret (encT (.mk k s ((ordK keys).map fun i=>keys.getD i []) ((ordK keys).map fun i=>(sortTs kids).getD i zPT))))):=by
 simp only [PT.ok] at hk
 obtain⟨hk1,hk2,hk3⟩:=hk
 have ho:=ho keys hdk hl2
 have hL:=@ordK_lt keys
 have hLl:=ordK_len keys
 generalize ordK keys=L at ho hL hLl
 have hil:=ints_len L
 have hsl:(sortTs kids).length=kids.length:=by rw [sortTs_map,List.length_map]
 have l1:=strs_length keys
 have l2:=encTs_len kids
 conv=>whnf
 refine goW ?_
 refine call_pf hm (by rfl) ho (goW ?_)
 refine loop_rule hm (α:=Nat) (fun i env S'=>i≤L.length∧∃o1 o2,Hs S' [.gr 9 o1 (strs ((L.take i).map fun i=>keys.getD i [])),.gr 25 o2 (encTs ((L.take i).map fun i=>(sortTs kids).getD i zPT))]∧env=E_so2 (.mk k s keys kids) k s ((L.take i).map fun i=>keys.getD i []) o1 o2 ((L.take i).map fun i=>(sortTs kids).getD i zPT) L i) (fun i=>L.length-i) ?_ (a:=0) ⟨Nat.zero_le _,_,_,hR,rfl⟩
 rintro i env S' ⟨hi,o1,o2,hR,rfl⟩
 refine goW ?_
 by_cases h:(i:Int)<(ints L).length
 ·rw [dT h]
  refine goW ?_
  have hik:i<L.length:=by omega
  have hj:=hL (List.getElem_mem hik)
  have hgi:(ints L)[i]? = some (.int .i64 (L[i]:Nat)):=ints_get (gE hik)
  have htk:L.take (i+1)=L.take i++[L[i]]:=tS hik
  generalize L[i]=j at hj hgi htk
  have hjk:j<kids.length:=by omega
  have g1:keys.getD j []=keys[j]:=by rw [List.getD_eq_getElem?_getD,gE hj];rfl
  have g2:(sortTs kids).getD j zPT=sortT kids[j]:=by rw [List.getD_eq_getElem?_getD,gE (by omega)];simp only [sortTs_map,List.getElem_map,Option.getD_some]
  have hks:strs ((L.take (i+1)).map fun i=>keys.getD i [])=strs ((L.take i).map fun i=>keys.getD i [])++[.str keys[j]]:=by rw [htk,List.map_append,List.map_cons,List.map_nil,g1];simp [strs]
  have hts:encTs ((L.take (i+1)).map fun i=>(sortTs kids).getD i zPT)=encTs ((L.take i).map fun i=>(sortTs kids).getD i zPT)++[encT (sortT kids[j])]:=by rw [htk,List.map_append,List.map_cons,List.map_nil,g2,encTs_app];rfl
  have sj:=strs_at hj
  generalize keys[j]=kj at hks sj
  have ihk:=ih _ (kid_lt hjk) (PT.oks_get hk3 (gE hjk)) (PT.nds_get hjk hd)
  have hok:=encT_ok (sortT kids[j])
  have hej:=encTs_get hjk
  obtain⟨ka,sa,xa,ya,he⟩:=encT_agg kids[j]
  obtain⟨kb,sb,xb,yb,he2⟩:=encT_agg (sortT kids[j])
  rw [he2] at ihk hts hok
  have hrd:=rdT kids[j]
  rw [he] at ihk hej hrd
  refine step_ruleO (sx_ia (k:=i) rfl rfl (by omega)) (goW ?_)
  refine step_ruleO (sx_ldEl (agg:=false) rfl rfl hgi rfl) (goW ?_)
  refine step_ruleDO rfl rfl (sx_ia (k:=j) rfl rfl (by omega)) (goW ?_)
  refine step_ruleDO rfl rfl (sx_ldEl (agg:=false) rfl rfl sj rfl) (goW ?_)
  have hlt1:(strs ((L.take i).map fun i=>keys.getD i [])).length=i:=by rw [strs_length,List.length_map,lT];omega
  refine r_appD hR 0 rfl (by trivial) rfl rfl rfl (by rw [hlt1];simp;omega) (by rw [hlt1];simp;omega) (by decide) (by decide) (by rfl) ?_
  intro o3 S3 hR
  refine goW ?_
  refine step_ruleDO rfl rfl (sx_ia (k:=j) rfl rfl (by omega)) (goW ?_)
  refine step_ruleDO rfl rfl (sx_ldEl (agg:=true) rfl rfl hej hrd) (goW ?_)
  refine call_pfD hm (by rfl) ihk (goW ?_)
  have hlt:(encTs ((L.take i).map fun i=>(sortTs kids).getD i zPT)).length=i:=by rw [encTs_len,List.length_map,lT];omega
  refine r_appD hR 1 rfl (by trivial) rfl rfl rfl (by rw [hlt];simp;omega) (by rw [hlt];simp;omega) (by decide) (by decide) hok ?_
  intro o4 S4 hR
  refine goW ?_
  refine⟨i+1,⟨by omega,o3,o4,by rw [hts,hks];exact hR,?_⟩,by omega⟩
  rw [wrNat (by omega)]
  simp only [E_so2,hts,hks]
  try rfl
 ·rw [dF h]
  refine goW ?_
  have:L.take i=L:=List.take_of_length_le (by omega)
  rw [this] at hR ⊢
  exact⟨_,rfl,_,rfl,rdo_T hR (i:=0) (j:=1) rfl rfl⟩
set_option maxHeartbeats 4000000 in
theorem sorted_wp (hm:MonoC C) (ho:∀keys:List (List UInt8),keys.Nodup→keys.length<1099511627776→PF C 61 [.sl 1 stat (strs keys)] (.sl 1 stat (ints (ordK keys)))) {t:PT} (ih:∀u,u.n<t.n→u.ok→u.nd→PF C 57 [encT u] (encT (sortT u))) (hk:t.ok) (hd:t.nd):wpF gt C F57 [encT t] St.init (Ret (encT (sortT t))):=by
 obtain⟨k,s,keys,kids⟩:=t
 simp only [PT.nd] at hd
 obtain⟨hd1,hd2⟩:=hd
 have hR:=(Hs.init.addNil 9 true).addNil 25 true
 have l1:=strs_length keys
 have l2:=encTs_len kids
 have r1:=sorted1_wp (gt:=gt) (z:=[]) hm ih hk hd2 hR
 have no:¬(k=7∧keys.length=kids.length)→sortT (.mk k s keys kids)=.mk k s keys (sortTs kids):=fun h=>by rw [sortT,if_neg h]
 refine⟨rfl,?_⟩
 refine goW ?_
 by_cases c1:k=7
 ·rw [neI_false c1]
  refine goW ?_
  by_cases c2:keys.length=kids.length
  ·rw [neI_false (show ((strs keys).length:Int)=((encTs kids).length:Int) by omega)]
   rw [show sortT (.mk k s keys kids)=_ by rw [sortT,if_pos ⟨c1,c2⟩]]
   have r2:=sorted2_wp (gt:=gt) (z:=[]) hm ho ih hk hd2 (hd1 c1 c2).1 c2 (hd1 c1 c2).2 hR
   clear r1 no
   with_unfolding_all exact r2
  ·rw [neI_true (show ¬((strs keys).length:Int)=((encTs kids).length:Int) by omega),no (fun h=>c2 h.2)]
   with_unfolding_all exact r1
 ·rw [neI_true c1,no (fun h=>c1 h.1)]
  refine goJ ?_
  with_unfolding_all exact r1
end
end Go.Dn

namespace Go.Dn
open Go Go.Proofs.C1
theorem unlike_nodup:∀{seen keys:List (List UInt8)},unlikeB seen keys=true→keys.Nodup∧∀x∈keys,x ∉ seen
 | _,[],_=>⟨List.nodup_nil,by simp⟩
 | seen,s::r,h=>by
  simp only [unlikeB] at h
  by_cases hs:s∈seen
  ·rw [if_pos hs] at h;cases h
  ·rw [if_neg hs,bA] at h
   obtain⟨a,b⟩:=unlike_nodup h.2
   refine⟨List.nodup_cons.2 ⟨fun hm=>b s hm (by simp),a⟩,fun x hx=>?_⟩
   rcases List.mem_cons.1 hx with rfl | hx
   ·exact hs
   ·exact fun hm=>b x hx (by simp [hm])
theorem formed_parts {k:Int} {s:List UInt8} {keys:List (List UInt8)} {kids:List PT} (h:formedB (.mk k s keys kids)=true) :
  formedBs kids=true∧(k=7→s=[]∧keys.length=kids.length∧keys.Nodup)∧(k≠7→keys=[])∧(k≠7→k≠6→kids=[])∧(k=6→s=[]):=by
 simp only [formedB,bA] at h
 obtain⟨h1,h2⟩:=h
 refine⟨h1,?_⟩
 unfold shapeB at h2
 by_cases k1:k=1
 ·rw [if_pos k1] at h2;simp only [bA,decide_eq_true_eq] at h2
  exact⟨fun e=>by omega,fun _=>nL h2.1.1,fun _ _=>nL h2.1.2,fun e=>by omega⟩
 rw [if_neg k1] at h2
 by_cases k2:k=2
 ·rw [if_pos k2] at h2;simp only [bA,decide_eq_true_eq] at h2
  exact⟨fun e=>by omega,fun _=>nL h2.1.1,fun _ _=>nL h2.1.2,fun e=>by omega⟩
 rw [if_neg k2] at h2
 by_cases k3:k=3
 ·rw [if_pos k3,bA,bA] at h2
  have a:=of_decide_eq_true h2.1.1
  have b:=of_decide_eq_true h2.1.2
  exact⟨fun e=>by omega,fun _=>nL a,fun _ _=>nL b,fun e=>by omega⟩
 rw [if_neg k3] at h2
 by_cases k4:k=4
 ·rw [if_pos k4,bA,bA] at h2
  have a:=of_decide_eq_true h2.1.1
  have b:=of_decide_eq_true h2.1.2
  exact⟨fun e=>by omega,fun _=>nL a,fun _ _=>nL b,fun e=>by omega⟩
 rw [if_neg k4] at h2
 by_cases k5:k=5
 ·rw [if_pos k5,bA,bA] at h2
  have a:=of_decide_eq_true h2.1.1
  have b:=of_decide_eq_true h2.1.2
  exact⟨fun e=>by omega,fun _=>nL a,fun _ _=>nL b,fun e=>by omega⟩
 rw [if_neg k5] at h2
 by_cases k6:k=6
 ·rw [if_pos k6,bA] at h2
  have b:=of_decide_eq_true h2.2
  exact⟨fun e=>by omega,fun _=>nL b,fun _ e=>absurd k6 e,fun _=>beqB_iff.1 h2.1⟩
 rw [if_neg k6] at h2
 by_cases k7:k=7
 ·rw [if_pos k7,bA,bA] at h2
  have a:=of_decide_eq_true h2.2.1
  exact⟨fun _=>⟨beqB_iff.1 h2.1,a,(unlike_nodup h2.2.2).1⟩,fun e=>absurd k7 e,fun e=>absurd k7 e,fun e=>absurd e k6⟩
 ·rw [if_neg k7] at h2;cases h2
theorem PT.len_nsq:∀l:List PT,l.length≤PT.ns l
 | []=>Nat.le_refl _
 | t::r=>by have:=PT.n_pos t;have:=PT.len_nsq r;simp only [PT.ns,lC];omega
mutual
theorem formed_nd:∀{t:PT},formedB t=true→t.n<1099511627776→t.nd
 |.mk k s keys kids,h,hn=>by
  obtain⟨h1,h2,_⟩:=formed_parts h
  simp only [PT.n] at hn
  simp only [PT.nd]
  have:=PT.len_nsq kids
  exact⟨fun hk hl=>⟨(h2 hk).2.2,by omega⟩,formed_nds h1 (by omega)⟩
theorem formed_nds:∀{l:List PT},formedBs l=true→PT.ns l<1099511627776→PT.nds l
 | [],_,_=>trivial
 | t::r,h,hn=>by
  simp only [formedBs,bA] at h
  simp only [PT.ns] at hn
  simp only [PT.nds]
  exact⟨formed_nd h.1 (by omega),formed_nds h.2 (by omega)⟩
end
theorem getD_at {α:Type} {l:List α} {i:Nat} {z:α} (h:i<l.length):l.getD i z=l[i]:=by
 rw [List.getD_eq_getElem?_getD,gE h];rfl
def sameB (a b:PT):Bool:=if formedB a && formedB b then eqT (sortT a) (sortT b) else eqT a b
end Go.Dn

namespace Go.Dn
open Go Go.Proofs.C1
set_option maxRecDepth 100000
attribute [local irreducible] afterS keepE
theorem oks_iff:∀{l:List PT},PT.oks l↔∀u∈l,u.ok
 | []=>⟨fun _ u h=>by simp at h,fun _=>trivial⟩
 | t::r=>by
  simp only [PT.oks,oks_iff (l:=r),List.mem_cons]
  exact⟨fun h u hu=>by rcases hu with rfl | hu;exact h.1;exact h.2 u hu,fun h=>⟨h t (.inl rfl),fun u hu=>h u (.inr hu)⟩⟩
mutual
theorem sort_ok:∀{t:PT},t.ok→(sortT t).ok
 |.mk k s keys kids,h=>by
  simp only [PT.ok] at h
  have hs:=sorts_ok h.2.2
  have hsl:(sortTs kids).length=kids.length:=by rw [sortTs_map,List.length_map]
  rw [sortT]
  split
  ·simp only [PT.ok,List.length_map,ordK_len]
   refine⟨h.1,by omega,oks_iff.2 fun u hu=>?_⟩
   obtain⟨i,hi,rfl⟩:=List.mem_map.1 hu
   have:=ordK_lt hi
   rw [getD_at (by omega)]
   exact oks_iff.1 hs _ (List.getElem_mem _)
  ·simp only [PT.ok]
   exact⟨h.1,by omega,hs⟩
theorem sorts_ok:∀{l:List PT},PT.oks l→PT.oks (sortTs l)
 | [],_=>trivial
 | t::r,h=>by
  simp only [PT.oks] at h
  simp only [sortTs,PT.oks]
  exact⟨sort_ok h.1,sorts_ok h.2⟩
end
section
variable {gt:GT} {C:CallT}
abbrev E_eql (a c:List (List UInt8)) (i:Nat):Env:=[(0,.val (.sl 1 stat (strs a))),(1,.val (.sl 1 stat (strs c))),(12,.val (.int .i64 (strs a).length)),(13,.val (.int .i64 i))]
set_option maxHeartbeats 2000000 in
theorem slEqual_wp (hm:MonoC C) {a c:List (List UInt8)} (hl:a.length<4611686018427387904):wpF gt C F70 [.sl 1 stat (strs a),.sl 1 stat (strs c)] St.init (Ret (.bool (decide (a=c)))):=by
 have no:∀{S:St},¬a=c→Ret (.bool (decide (a=c))) (.ret (.bool false)) S:=fun h=>by rw [dF h];exact Ret.sta trivial
 have l1:=strs_length a
 have l2:=strs_length c
 refine⟨rfl,?_⟩
 refine goW ?_
 by_cases z:((strs a).length:Int)=(strs c).length
 case neg =>
  rw [neI_true z]
  refine goW ?_
  exact⟨_,rfl,no fun h=>by rw [h] at z;exact z rfl⟩
 rw [neI_false z]
 refine goW ?_
 refine loop_rule hm (α:=Nat) (fun i env S'=>i≤a.length∧env=E_eql a c i∧S'=St.init∧a.take i=c.take i) (fun i=>a.length-i) ?_ (a:=0) ⟨Nat.zero_le _,rfl,rfl,rfl⟩
 rintro i env S' ⟨hi,rfl,rfl,hp⟩
 refine goW ?_
 by_cases h:(i:Int)<(strs a).length
 ·rw [dT h]
  refine goW ?_
  have hik:i<a.length:=by omega
  have hik':i<c.length:=by omega
  refine step_ruleDO rfl rfl (sx_ia (k:=i) rfl rfl (by omega)) (goW ?_)
  refine step_ruleDO rfl rfl (sx_ldEl (agg:=false) rfl rfl (strs_at hik) rfl) (goW ?_)
  refine step_ruleDO rfl rfl (sx_ia (k:=i) rfl rfl (by omega)) (goW ?_)
  refine step_ruleDO rfl rfl (sx_ldEl (agg:=false) rfl rfl (strs_at hik') rfl) (goW ?_)
  by_cases z:a[i]=c[i]
  ·rw [beqB_true z]
   refine goW ?_
   refine⟨i+1,⟨by omega,?_,rfl,?_⟩,by omega⟩
   ·rw [wrNat (by omega)];try rfl
   ·rw [tS hik,tS hik',hp,z]
  ·rw [beqB_false z]
   refine goW ?_
   exact⟨_,rfl,no fun h=>by subst h;exact z rfl⟩
 rw [dF h]
 refine goW ?_
 rw [List.take_of_length_le (by omega),List.take_of_length_le (by omega)] at hp
 refine⟨_,rfl,?_⟩
 rw [dT hp]
 exact Ret.sta trivial
abbrev E_eqf (f:FuncId) (a c:List PT) (i:Nat):Env:=[(1,.val (.sl 4 stat (encTs c))),(2,.val (.fn f [] [])),(15,.val (.sl 4 stat (encTs a))),(16,.val (.int .i64 (encTs a).length)),(17,.val (.int .i64 i))]
theorem eqTs_false {a c:List PT} (h:¬a=c):eqTs a c=false:=by
 cases hh:eqTs a c with
 | false=>rfl
 | true=>exact absurd (eqTs_iff.1 hh) h
set_option maxHeartbeats 2000000 in
theorem eqFunc_wp (hm:MonoC C) {a c:List PT} (ih:∀u,u.n≤PT.ns a→u.ok→∀v,PF C 56 [encT u,encT v] (.bool (eqT u v))) (hk:PT.oks a) (hl:a.length<4611686018427387904) :
  wpF gt C F71 [.sl 4 stat (encTs a),.sl 4 stat (encTs c),.fn 56 [] []] St.init (Ret (.bool (eqTs a c))):=by
 have no:∀{S:St},¬a=c→Ret (.bool (eqTs a c)) (.ret (.bool false)) S:=fun h=>by rw [eqTs_false h];exact Ret.sta trivial
 have l1:=encTs_len a
 have l2:=encTs_len c
 refine⟨rfl,?_⟩
 refine goW ?_
 by_cases z:((encTs a).length:Int)=(encTs c).length
 case neg =>
  rw [neI_true z]
  refine goW ?_
  exact⟨_,rfl,no fun h=>by rw [h] at z;exact z rfl⟩
 rw [neI_false z]
 refine goW ?_
 refine loop_rule hm (α:=Nat) (fun i env S'=>i≤a.length∧env=E_eqf 56 a c i∧S'=St.init∧a.take i=c.take i) (fun i=>a.length-i) ?_ (a:=0) ⟨Nat.zero_le _,rfl,rfl,rfl⟩
 rintro i env S' ⟨hi,rfl,rfl,hp⟩
 refine goW ?_
 by_cases h:(i:Int)<(encTs a).length
 ·rw [dT h]
  refine goW ?_
  have hik:i<a.length:=by omega
  have hik':i<c.length:=by omega
  have ihk:=ih _ (PT.ns_mem (List.getElem_mem hik)) (PT.oks_get hk (gE hik)) c[i]
  have e1:=encTs_get hik
  have e2:=encTs_get hik'
  have r1:=rdT a[i]
  have r2:=rdT c[i]
  obtain⟨k1,s1,x1,y1,g1⟩:=encT_agg a[i]
  obtain⟨k2,s2,x2,y2,g2⟩:=encT_agg c[i]
  rw [g1] at ihk e1 r1
  rw [g2] at ihk e2 r2
  refine step_ruleO (sx_ia (k:=i) rfl rfl (by omega)) (goW ?_)
  refine step_ruleO (sx_ldEl (agg:=true) rfl rfl e1 r1) (goW ?_)
  refine step_ruleO (sx_ia (k:=i) rfl rfl (by omega)) (goW ?_)
  refine step_ruleO (sx_ldEl (agg:=true) rfl rfl e2 r2) (goW ?_)
  refine call_pf hm (by rfl) ihk (goW ?_)
  by_cases z:a[i]=c[i]
  ·rw [eqT_true z]
   refine goW ?_
   refine⟨i+1,⟨by omega,?_,rfl,?_⟩,by omega⟩
   ·rw [wrNat (by omega)];try rfl
   ·rw [tS hik,tS hik',hp,z]
  ·rw [eqT_false z]
   refine goW ?_
   exact⟨_,rfl,no fun h=>by subst h;exact z rfl⟩
 rw [dF h]
 refine goW ?_
 rw [List.take_of_length_le (by omega),List.take_of_length_le (by omega)] at hp
 refine⟨_,rfl,?_⟩
 rw [eqTs_iff.2 hp]
 exact Ret.sta trivial
set_option maxHeartbeats 2000000 in
theorem identical_wp (hm:MonoC C) {t u:PT} (hk:t.ok) (he:∀a c:List (List UInt8),a.length<4611686018427387904→PF C 70 [.sl 1 stat (strs a),.sl 1 stat (strs c)] (.bool (decide (a=c)))) (hf:∀c:List PT,PF C 71 [.sl 4 stat (encTs t.kids),.sl 4 stat (encTs c),.fn 56 [] []] (.bool (eqTs t.kids c))) :
  wpF gt C F56 [encT t,encT u] St.init (Ret (.bool (eqT t u))):=by
 obtain⟨k,s,keys,kids⟩:=t
 obtain⟨k',s',keys',kids'⟩:=u
 simp only [PT.ok] at hk
 have he:=he keys keys' (by omega)
 have hf:=hf kids'
 simp only [PT.kids] at hf
 rw [eqT]
 refine⟨rfl,?_⟩
 refine goW ?_
 by_cases z0:k=k'
 case neg =>
  rw [eqI_false z0,dF z0]
  refine goW ?_
  exact⟨_,rfl,Ret.sta trivial⟩
 rw [eqI_true z0,dT z0]
 refine goW ?_
 by_cases z1:s=s'
 case neg =>
  rw [beqB_false z1,dF z1]
  refine goW ?_
  exact⟨_,rfl,Ret.sta trivial⟩
 rw [beqB_true z1,dT z1]
 refine goW ?_
 by_cases z2:keys=keys'
 case neg =>
  rw [dF z2] at he
  refine call_pf hm (by rfl) he ?_
  rw [dF z2]
  refine goW ?_
  exact⟨_,rfl,Ret.sta trivial⟩
 rw [dT z2] at he
 refine call_pf hm (by rfl) he ?_
 rw [dT z2]
 refine goW ?_
 refine call_pf hm (by rfl) hf (goW ?_)
 exact⟨_,rfl,Ret.sta trivial⟩
set_option maxHeartbeats 2000000 in
theorem same_wp (hm:MonoC C) (hi:∀t u:PT,t.ok→PF C 56 [encT t,encT u] (.bool (eqT t u))) (hs:∀t:PT,t.ok→t.nd→PF C 57 [encT t] (encT (sortT t)))
  {a c:PT} (ha:PF C 54 [encT a] (.bool (formedB a))) (hc:PF C 54 [encT c] (.bool (formedB c))) (a1:a.ok) (a2:formedB a=true→a.nd) (c1:c.ok) (c2:formedB c=true→c.nd) :
  wpF gt C F30 [encT a,encT c] St.init (Ret (.bool (sameB a c))):=by
 have h1:=hi a c a1
 have h2:=hi (sortT a) (sortT c) (sort_ok a1)
 have s1:=hs a a1
 have s2:=hs c c1
 have key:∀r,sameB a c=r→(formedB a=true→formedB c=true→eqT (sortT a) (sortT c)=r)∧(¬(formedB a=true∧formedB c=true)→eqT a c=r):=fun r e=>by
  unfold sameB at e
  refine⟨fun x y=>?_,fun n=>?_⟩
  ·rw [x,y] at e;exact e
  ·rw [if_neg (by rw [bA];exact n)] at e;exact e
 generalize hr:sameB a c=res
 obtain⟨k1,k2⟩:=key res hr
 clear key hr
 obtain⟨ka,sa,xa,ya,ga⟩:=encT_agg a
 obtain⟨kc,sc,xc,yc,gc⟩:=encT_agg c
 rw [ga] at ha h1 s1 ⊢
 rw [gc] at hc h1 s2 ⊢
 cases fa:formedB a with
 | false =>
  rw [fa] at ha
  rw [k2 (by simp [fa])] at h1
  refine⟨rfl,?_⟩
  refine goW ?_
  refine call_pf hm (by rfl) ha (goW ?_)
  refine call_pf hm (by rfl) h1 (goW ?_)
  exact⟨_,rfl,Ret.sta trivial⟩
 | true =>
  cases fc:formedB c with
  | false =>
   rw [fa] at ha
   rw [fc] at hc
   rw [k2 (by simp [fc])] at h1
   refine⟨rfl,?_⟩
   refine goW ?_
   refine call_pf hm (by rfl) ha (goW ?_)
   refine call_pf hm (by rfl) hc (goW ?_)
   refine call_pf hm (by rfl) h1 (goW ?_)
   exact⟨_,rfl,Ret.sta trivial⟩
  | true =>
   rw [fa] at ha
   rw [fc] at hc
   rw [k1 fa fc] at h2
   have s1:=s1 (a2 fa)
   have s2:=s2 (c2 fc)
   obtain⟨ka',sa',xa',ya',ga'⟩:=encT_agg (sortT a)
   obtain⟨kc',sc',xc',yc',gc'⟩:=encT_agg (sortT c)
   rw [ga'] at s1 h2
   rw [gc'] at s2 h2
   refine⟨rfl,?_⟩
   refine goW ?_
   refine call_pf hm (by rfl) ha (goW ?_)
   refine call_pf hm (by rfl) hc (goW ?_)
   refine call_pfD hm (by rfl) s1 (goW ?_)
   refine call_pfD hm (by rfl) s2 (goW ?_)
   refine call_pfD hm (by rfl) h2 (goW ?_)
   exact⟨_,rfl,Ret.sta trivial⟩
end
end Go.Dn

namespace Go.Proofs.YthjebaophnkpbaaGreatDoor.Fn
open Go.ChangeShapes Go.WideShapes Go.ChangeAt Go.RowKit Go.Dn
section
variable {R:List Rs} {ty:TypeId} {t b:Nat}
theorem swapC (g:AV):SwapC A R ty t b g:=fun S xs P X M Y Q a c n ha hc hn hx hl hxy hA=>by
 subst ha hc hn
 exact AC_intro Tryz.checked.mixed Tryz.func150 (by kernel_rfl) C1.F150_ok (swap_wp hm hx hl hxy hA)
theorem rotC (f:FuncId) (cs:List AV):RotC A R ty t b (.fn f [] cs):=fun S xs P X Y Q a m c ha hmm hc h1 h2 hx hl hA=>by
 subst ha hmm hc
 exact AC_intro Tryz.checked.mixed Tryz.func133 (by kernel_rfl) C1.F133_ok (rot_wp hm (swapC _) h1 h2 hx hl hA)
theorem insC {f:FuncId} {cs:List AV} {n:Nat} {cz:Nat→Nat→Int} (hz:Cz cz) (hc:CmpC A f cs R ty t b n cz):InsC A R ty t b n (.fn f [] cs) cz:=fun S xs P X Q a c ha hcc hX hx hl hA=>by
 subst ha hcc
 exact AC_intro Tryz.checked.mixed Tryz.func108 (by kernel_rfl) C1.F108_ok (ins_wp hm hz hc hX hx hl hA)
theorem mrgA {f:FuncId} {cs:List AV} {n:Nat} {cz:Nat→Nat→Int} (hz:Cz cz) (hc:CmpC A f cs R ty t b n cz):∀k,MrgC A R ty t b n (.fn f [] cs) cz k :=
 mrgC (gt:=gtT) hm (fun us S Q h=>AC_intro Tryz.checked.mixed Tryz.func109 (by kernel_rfl) C1.F109_ok h) hz hc (rotC f cs)
theorem stbC {f:FuncId} {cs:List AV} {n:Nat} {cz:Nat→Nat→Int} (hz:Cz cz) (hc:CmpC A f cs R ty t b n cz):StbC A R ty t b n (.fn f [] cs) cz 90 fun xs=>[slA t xs.length xs,.int .i64 xs.length,.fn f [] cs]:=fun S xs L hn hx hl hA =>
 AC_intro Tryz.checked.mixed Tryz.func90 (by kernel_rfl) C1.F90_ok (stb_wp hm (insC hz hc) (mrgA hz hc) hn hx hl hA)
theorem sstC {f:FuncId} {cs:List AV} {n:Nat} {cz:Nat→Nat→Int} (hz:Cz cz) (hc:CmpC A f cs R ty t b n cz):SstC A R ty t b n (.fn f [] cs) cz:=fun S xs L hn hx hl hA =>
 AC_intro Tryz.checked.mixed Tryz.func76 (by kernel_rfl) C1.F76_ok (sst_wp hm (stbC hz hc) hn hx hl hA)
end
theorem ins0 (g:AV) (S:St):A 108 [slN,.int .i64 0,.int .i64 0,g] S fun r S'=>r=.ret (.tup [])∧S'=S :=
 AC_intro Tryz.checked.mixed Tryz.func108 (by kernel_rfl) C1.F108_ok ins0_wp
theorem stb0 (g:AV) (S:St):A 90 [slN,.int .i64 0,g] S fun r S'=>r=.ret (.tup [])∧S'=S :=
 AC_intro Tryz.checked.mixed Tryz.func90 (by kernel_rfl) C1.F90_ok (stb0_wp hm (ins0 g))
theorem sst0 (g:AV) (S:St):A 76 [slN,g] S fun r S'=>r=.ret (.tup [])∧S'=S :=
 AC_intro Tryz.checked.mixed Tryz.func76 (by kernel_rfl) C1.F76_ok (sst0_wp hm (stb0 g))
theorem cmpS (a c:List UInt8):PF A 91 [.str a,.str c] (.int .i64 (cmpB a c)) :=
 pf Tryz.func91 (by kernel_rfl) C1.F91_ok (s2 trivial trivial) cmpS_wp
theorem compareS (a c:List UInt8):PF A 78 [.str a,.str c] (.int .i64 (cmpB a c)) :=
 pf Tryz.func78 (by kernel_rfl) C1.F78_ok (s2 trivial trivial) (compare_wp hm cmpS)
theorem ord1 (keys:List (List UInt8)) (ty:TypeId) (t b:Nat):CmpC A 77 [.ptr 0 0] (R_k keys) ty t b keys.length (czK keys):=fun S l i j hA hi hj =>
 AC_intro Tryz.checked.mixed Tryz.func77 (by kernel_rfl) C1.F77_ok (ord1_wp hm compareS hA hi hj)
theorem order (keys:List (List UInt8)) (hd:keys.Nodup) (hl:keys.length<1099511627776):PF A 61 [.sl 1 stat (strs keys)] (.sl 1 stat (ints (ordK keys))) :=
 pf Tryz.func61 (by kernel_rfl) C1.F61_ok (s1 (sK keys)) (by
  cases keys with
  | nil =>
   have e:ordK ([]:List (List UInt8))=[]:=nL (ordK_len [])
   rw [e]
   exact order0_wp hm (sst0 _)
  | cons k r=>exact order_wp hm (fun t b=>sstC (czK_cz _) (ord1 _ _ t b)) hd (by simp) hl)
theorem sorted:∀t:PT,t.ok→t.nd→PF A 57 [encT t] (encT (sortT t)) :=
 indT fun t ih hk hd=>pf Tryz.func57 (by kernel_rfl) C1.F57_ok (s1 (sta_T t)) (sorted_wp hm order ih hk hd)
theorem slEqual (a c:List (List UInt8)) (h:a.length<4611686018427387904):PF A 70 [.sl 1 stat (strs a),.sl 1 stat (strs c)] (.bool (decide (a=c))) :=
 pf Tryz.func70 (by kernel_rfl) C1.F70_ok (s2 (sK a) (sK c)) (slEqual_wp hm h)
theorem identical:∀t u:PT,t.ok→PF A 56 [encT t,encT u] (.bool (eqT t u)) :=
 indT fun t ih u h=>pf Tryz.func56 (by kernel_rfl) C1.F56_ok (s2 (sta_T t) (sta_T u)) (identical_wp hm h slEqual fun c =>
  pf Tryz.func71 (by kernel_rfl) C1.F71_ok (s3 (sta_sl (sta_Ts t.kids)) (sta_sl (sta_Ts c)) ⟨trivial,trivial⟩)
   (eqFunc_wp hm (fun v hv hk w=>ih v (by cases t;simp only [PT.kids,PT.n] at hv ⊢;omega) w hk) (by cases t;simp only [PT.ok] at h;exact h.2.2) (by cases t;simp only [PT.ok] at h;simp only [PT.kids];omega)))
theorem same (a c:PT) (a0:a.sok) (a1:a.ok) (a2:a.n<1099511627776) (c0:c.sok) (c1:c.ok) (c2:c.n<1099511627776):PF A 30 [encT a,encT c] (.bool (sameB a c)) :=
 pf Tryz.func30 (by kernel_rfl) C1.F30_ok (s2 (sta_T a) (sta_T c)) (same_wp hm identical sorted (formed a a0) (formed c c0) a1 (fun h=>formed_nd h a2) c1 (fun h=>formed_nd h c2))
end Go.Proofs.YthjebaophnkpbaaGreatDoor.Fn

namespace Go.Dn
open Go Go.Proofs.C1
set_option maxRecDepth 100000
attribute [local irreducible] afterS keepE
theorem PN.ns_app:∀a b:List PN,PN.ns (a++b)=PN.ns a+PN.ns b
 | [],b=>by simp [PN.ns]
 | t::r,b=>by simp only [List.cons_append,PN.ns,PN.ns_app r b];omega
theorem PN.n_pos (t:PN):1≤t.n:=by cases t;simp only [PN.n];omega
theorem PN.len_ns:∀l:List PN,l.length≤PN.ns l
 | []=>Nat.le_refl _
 | t::r=>by have:=PN.len_ns r;have:=t.n_pos;simp only [PN.ns,lC];omega
mutual
def PN.dp:PN→Nat
 |.mk _ _ _ _ _ _ kids _ _ _ _=>PN.dps kids+1
def PN.dps:List PN→Nat
 | []=>0
 | t::r=>max (PN.dp t) (PN.dps r)
end
mutual
theorem PN.dp_le:∀t:PN,t.dp≤t.n
 |.mk _ _ _ _ _ _ kids _ _ _ _=>by have:=PN.dps_le kids;simp only [PN.dp,PN.n];omega
theorem PN.dps_le:∀l:List PN,PN.dps l≤PN.ns l
 | []=>Nat.le_refl _
 | t::r=>by have:=PN.dp_le t;have:=PN.dps_le r;simp only [PN.dps,PN.ns];omega
end
theorem PN.dps_app:∀a b:List PN,PN.dps (a++b)=max (PN.dps a) (PN.dps b)
 | [],b=>by simp [PN.dps]
 | t::r,b=>by simp only [List.cons_append,PN.dps,PN.dps_app r b];omega
mutual
def cntN:PN→Int→Int
 |.mk _ _ _ _ _ _ kids _ _ _ _,m=>cntL kids m 1
def cntL:List PN→Int→Int→Int
 | [],_,n=>n
 | t::r,m,n=>if n<m then cntL r m (n+cntN t (m-n)) else n
end
mutual
theorem cntN_b:∀(t:PN) (m:Int),1≤cntN t m∧cntN t m≤max m 1∧cntN t m≤t.n∧min m (t.n:Int)≤cntN t m
 |.mk _ _ _ _ _ _ kids _ _ _ _,m=>by
  have:=cntL_b kids m 1 (by omega)
  simp only [cntN,PN.n]
  refine⟨by omega,?_,by omega,by omega⟩
  by_cases h:(1:Int)≤m
  ·have:=this.2.1 h;omega
  ·have:=this.2.2.2.2 (by omega);omega
theorem cntL_b:∀(l:List PN) (m n:Int),1≤n→n≤cntL l m n∧(n≤m→cntL l m n≤m)∧cntL l m n≤n+PN.ns l∧min m (n+PN.ns l)≤cntL l m n∧(m≤n→cntL l m n=n)
 | [],m,n,h=>by simp only [cntL,PN.ns];exact⟨by omega,fun h=>h,by omega,by omega,fun _=>by first | rfl | trivial⟩
 | t::r,m,n,h=>by
  have tp:=t.n_pos
  simp only [cntL,PN.ns]
  split
  ·have g:=cntN_b t (m-n)
   have k:=cntL_b r m (n+cntN t (m-n)) (by omega)
   refine⟨by omega,fun _=>k.2.1 (by omega),by omega,?_,fun _=>by omega⟩
   by_cases e:n+cntN t (m-n)<m
   ·have:cntN t (m-n)=t.n:=by omega
    rw [this] at k ⊢;omega
   ·have:=k.2.2.2.2 (by omega)
    rw [this];omega
  ·exact⟨by omega,fun _=>by omega,by omega,by omega,fun _=>by first | rfl | trivial⟩
end
theorem cntN_eq {t:PN} {m:Int} (h:(t.n:Int)≤m):cntN t m=t.n:=by have:=cntN_b t m;omega
section
variable {gt:GT} {C:CallT}
abbrev E_cn (n:Int) (kids:List PN) (i:Int):Env:=[(3,.val (.int .i64 n)),(7,.val (.sl 14 stat (encNs kids))),(8,.val (.int .i64 (encNs kids).length)),(9,.val (.int .i64 i))]
set_option maxHeartbeats 4000000 in
theorem countN_wp (hm:MonoC C) {t:PN} (ih:∀u,u.n<t.n→PF C 13 [encN u] (.int .i64 u.n)) (hl:t.n<4611686018427387904):wpF gt C F13 [encN t] St.init (Ret (.int .i64 t.n)):=by
 obtain⟨k,a,b,c,leaf,h,kids,seps,t,e,f⟩:=t
 have l1:=encNs_len kids
 have l3:=PN.len_ns kids
 have hn:(PN.mk k a b c leaf h kids seps t e f).n=PN.ns kids+1:=rfl
 refine⟨rfl,?_⟩
 refine goW ?_
 refine loop_rule hm (α:=Nat) (fun i env S'=>i≤kids.length∧env=E_cn ((PN.ns (kids.take i)+1:Nat):Int) kids i∧S'=St.init) (fun i=>kids.length-i) ?_ (a:=0) ⟨Nat.zero_le _,rfl,rfl⟩
 rintro i env S' ⟨hi,rfl,rfl⟩
 refine goW ?_
 by_cases hc:(i:Int)<(encNs kids).length
 ·rw [dT hc]
  refine goW ?_
  have hik:i<kids.length:=by omega
  have ihk:=ih _ (kidN_lt hik)
  have hkn:=kidN_lt (k:=k) (a:=a) (b:=b) (c:=c) (leaf:=leaf) (h:=h) (seps:=seps) (t:=t) (e:=e) (f:=f) hik
  have hts:PN.ns (kids.take (i+1))=PN.ns (kids.take i)+kids[i].n:=by rw [tS hik,PN.ns_app];simp [PN.ns]
  have hle:PN.ns (kids.take (i+1))≤PN.ns kids:=by
   conv=>rhs;rw [←tkD (i+1) kids,PN.ns_app]
   omega
  have hg:=encNs_get hik
  have hr:=rdN kids[i]
  obtain⟨_,_,_,_,_,_,_,_,_,_,_,_,_,_,he⟩:=encN_agg kids[i]
  rw [he] at ihk hg hr
  refine step_ruleO (sx_ia (k:=i) rfl rfl (by omega)) (goW ?_)
  refine step_ruleO (sx_ldEl (agg:=true) rfl rfl hg hr) (goW ?_)
  refine call_pf hm (by rfl) ihk (goW ?_)
  refine⟨i+1,⟨by omega,?_,rfl⟩,by omega⟩
  rw [wrNat (by omega),wr64 (by omega) (by omega),hts,show ((PN.ns (kids.take i)+1:Nat):Int)+(kids[i].n:Int)=((PN.ns (kids.take i)+kids[i].n+1:Nat):Int) by omega]
  try rfl
 ·rw [dF hc]
  refine goW ?_
  refine⟨_,rfl,?_⟩
  rw [List.take_of_length_le (by omega),hn]
  exact Ret.sta trivial
set_option maxHeartbeats 4000000 in
theorem depthN_wp (hm:MonoC C) {t:PN} (ih:∀u,u.n<t.n→PF C 40 [encN u] (.int .i64 u.dp)) (hl:t.n<4611686018427387904):wpF gt C F40 [encN t] St.init (Ret (.int .i64 t.dp)):=by
 have hdl:=PN.dp_le t
 obtain⟨k,a,b,c,leaf,h,kids,seps,t,e,f⟩:=t
 have l1:=encNs_len kids
 have l3:=PN.len_ns kids
 have hn:(PN.mk k a b c leaf h kids seps t e f).n=PN.ns kids+1:=rfl
 have hd:(PN.mk k a b c leaf h kids seps t e f).dp=PN.dps kids+1:=rfl
 refine⟨rfl,?_⟩
 refine goW ?_
 refine loop_rule hm (α:=Nat) (fun i env S'=>i≤kids.length∧env=E_cn ((PN.dps (kids.take i):Nat):Int) kids i∧S'=St.init) (fun i=>kids.length-i) ?_ (a:=0) ⟨Nat.zero_le _,rfl,rfl⟩
 rintro i env S' ⟨hi,rfl,rfl⟩
 refine goW ?_
 by_cases hc:(i:Int)<(encNs kids).length
 ·rw [dT hc]
  refine goW ?_
  have hik:i<kids.length:=by omega
  have ihk:=ih _ (kidN_lt hik)
  have hts:PN.dps (kids.take (i+1))=max (PN.dps (kids.take i)) kids[i].dp:=by rw [tS hik,PN.dps_app];simp [PN.dps]
  have hg:=encNs_get hik
  have hr:=rdN kids[i]
  obtain⟨_,_,_,_,_,_,_,_,_,_,_,_,_,_,he⟩:=encN_agg kids[i]
  rw [he] at ihk hg hr
  refine step_ruleO (sx_ia (k:=i) rfl rfl (by omega)) (goW ?_)
  refine step_ruleO (sx_ldEl (agg:=true) rfl rfl hg hr) (goW ?_)
  refine call_pf hm (by rfl) ihk (goW ?_)
  refine⟨i+1,⟨by omega,?_,rfl⟩,by omega⟩
  rw [wrNat (by omega),bmax,hts]
  try rfl
 ·rw [dF hc]
  refine goW ?_
  refine⟨_,rfl,?_⟩
  rw [List.take_of_length_le (by omega),hd,wrNat (by omega)]
  exact Ret.sta trivial
abbrev E_dp4 (t:PN) (n:Nat) (i:Int):Env:=[(1,.box (encN t).cells),(3,.val (.int .i64 n)),(4,.val (.int .i64 i))]
set_option maxHeartbeats 4000000 in
theorem depth4_wp (hm:MonoC C) {t:PN} (ih:∀u,u.n<t.n→PF C 45 [encN u] (.int .i64 u.dp)) (hl:t.n<4611686018427387904):wpF gt C F45 [encN t] St.init (Ret (.int .i64 t.dp)):=by
 have hdl:=PN.dp_le t
 obtain⟨k,a,b,c,leaf,h,kids,seps,t,e,f⟩:=t
 have l1:=encNs_len kids
 have l3:=PN.len_ns kids
 have hn:(PN.mk k a b c leaf h kids seps t e f).n=PN.ns kids+1:=rfl
 have hd:(PN.mk k a b c leaf h kids seps t e f).dp=PN.dps kids+1:=rfl
 refine⟨rfl,?_⟩
 refine goW ?_
 refine loop_rule hm (α:=Nat) (fun i env S'=>i≤kids.length∧env=E_dp4 (.mk k a b c leaf h kids seps t e f) (PN.dps (kids.take i)) i∧S'=St.init) (fun i=>kids.length-i) ?_ (a:=0) ⟨Nat.zero_le _,rfl,rfl⟩
 rintro i env S' ⟨hi,rfl,rfl⟩
 refine goW ?_
 by_cases hc:(i:Int)<(encNs kids).length
 ·rw [dT hc]
  have hik:i<kids.length:=by omega
  have ihk:=ih _ (kidN_lt hik)
  have hts:PN.dps (kids.take (i+1))=max (PN.dps (kids.take i)) kids[i].dp:=by rw [tS hik,PN.dps_app];simp [PN.dps]
  have hg:=encNs_get hik
  have hr:=rdN kids[i]
  obtain⟨_,_,_,_,_,_,_,_,_,_,_,_,_,_,he⟩:=encN_agg kids[i]
  rw [he] at ihk hg hr
  generalize kids[i].dp=d at ihk hts
  generalize PN.dps (kids.take i)=c' at hts ⊢
  refine goW ?_
  refine step_ruleO (sx_ia (k:=i) rfl rfl (by omega)) (goW ?_)
  refine step_ruleO (sx_ldEl (agg:=true) rfl rfl hg hr) (goW ?_)
  refine call_pf hm (by rfl) ihk (goW ?_)
  by_cases hg:(d:Int) > (c':Int)
  ·rw [dT hg]
   rw [show max c' d=d by omega] at hts
   refine goW ?_
   refine⟨i+1,⟨by omega,?_,rfl⟩,by omega⟩
   rw [wrNat (by omega),hts]
   try rfl
  ·rw [dF hg]
   rw [show max c' d=c' by omega] at hts
   refine goW ?_
   refine⟨i+1,⟨by omega,?_,rfl⟩,by omega⟩
   rw [wrNat (by omega),hts]
   try rfl
 ·rw [dF hc]
  refine goW ?_
  refine⟨_,rfl,?_⟩
  rw [List.take_of_length_le (by omega),hd,wrNat (by omega)]
  exact Ret.sta trivial
abbrev E_ct4 (m:Int) (t:PN) (n i:Int):Env:=[(1,.val (.int .i64 m)),(2,.box (encN t).cells),(5,.val (.int .i64 n)),(6,.val (.int .i64 i))]
set_option maxHeartbeats 4000000 in
theorem count4_wp (hm:MonoC C) {t:PN} (ih:∀u,u.n<t.n→∀m,m<4611686018427387904→PF C 20 [encN u,.int .i64 m] (.int .i64 (cntN u m))) {m:Int} (hb:m<4611686018427387904) (hl:t.n<4611686018427387904):wpF gt C F20 [encN t,.int .i64 m] St.init (Ret (.int .i64 (cntN t m))):=by
 obtain⟨k,a,b,c,leaf,h,kids,seps,t,e,f⟩:=t
 have l1:=encNs_len kids
 have l3:=PN.len_ns kids
 have hn:(PN.mk k a b c leaf h kids seps t e f).n=PN.ns kids+1:=rfl
 refine⟨rfl,?_⟩
 refine goW ?_
 refine loop_rule hm (α:=Nat×Int) (fun a' env S'=>a'.1≤kids.length∧1≤a'.2∧a'.2≤max m 1∧env=E_ct4 m (.mk k a b c leaf h kids seps t e f) a'.2 a'.1∧S'=St.init∧cntN (.mk k a b c leaf h kids seps t e f) m=cntL (kids.drop a'.1) m a'.2) (fun a=>kids.length-a.1) ?_ (a:=(0,1)) ⟨Nat.zero_le _,by simp only;omega,by simp only;omega,rfl,rfl,rfl⟩
 rintro⟨i,n⟩ env S' ⟨hi,hn1,hn2,rfl,rfl,hp⟩
 refine goW ?_
 simp only at hi hn1 hn2 hp
 by_cases hc:(i:Int)<(encNs kids).length
 ·rw [dT hc]
  refine goW ?_
  have hik:i<kids.length:=by omega
  rw [dC hik] at hp
  simp only [cntL] at hp
  by_cases hnm:n<m
  ·rw [dT hnm]
   rw [if_pos hnm] at hp
   have g3:=cntN_b kids[i] (m-n)
   have ihk:=ih _ (kidN_lt hik) (m-n) (by omega)
   have hg:=encNs_get hik
   have hr:=rdN kids[i]
   obtain⟨_,_,_,_,_,_,_,_,_,_,_,_,_,_,he⟩:=encN_agg kids[i]
   rw [he] at ihk hg hr
   refine goW ?_
   refine step_ruleO (sx_ia (k:=i) rfl rfl (by omega)) (goW ?_)
   refine step_ruleO (sx_ldEl (agg:=true) rfl rfl hg hr) (goW ?_)
   rw [wr64 (by omega) (by omega)]
   refine call_pf hm (by rfl) ihk (goW ?_)
   refine⟨(i+1,n+cntN kids[i] (m-n)),⟨by simp only;omega,by simp only;omega,by simp only;omega,?_,rfl,hp⟩,by simp only;omega⟩
   rw [wrNat (by omega),wr64 (by omega) (by omega)];try rfl
  ·rw [dF hnm]
   rw [if_neg hnm] at hp
   refine goW ?_
   refine⟨_,rfl,?_⟩
   rw [hp]
   exact Ret.sta trivial
 ·rw [dF hc]
  rw [List.drop_eq_nil_of_le (by omega)] at hp
  refine goW ?_
  refine⟨_,rfl,?_⟩
  rw [hp,cntL]
  exact Ret.sta trivial
end

theorem rv_nil {S:St} {G:Gh} {w:World} {es:Nat} {nl:Bool} {v:Value} (h:Rv S G w (.sl es ⟨none,0,some 0,nl⟩ []) v):Rv S G w (.sl es stat []) v:=by
 simp only [Rv] at h ⊢
 obtain⟨a,len,cap,hv,⟨h1,h2,h3,h4,h5,h6⟩,_⟩:=h
 have hc:cap=0:=h4 0 rfl
 exact⟨a,len,cap,hv,⟨h1,h2,⟨fun e=>(by cases e),fun e=>(by cases e)⟩,fun c e=>(by cases e),h5,fun p _ h=>by omega⟩,fun _ _ _=>by simp only [Rat]⟩
theorem rv_zT {S:St} {G:Gh} {w:World} {v:Value} (h:Rv S G w (.agg zT) v):Rv S G w (encT zPT) v:=by
 simp only [zPT,encT,Rv] at h ⊢
 obtain⟨vs,hv,hr⟩:=h
 refine⟨vs,hv,?_⟩
 simp only [Rl] at hr ⊢
 obtain⟨v0,r0,e0,a0,v1,r1,e1,a1,v2,r2,e2,a2,v3,r3,e3,a3,e4⟩:=hr
 exact⟨v0,r0,e0,a0,v1,r1,e1,a1,v2,r2,e2,rv_nil a2,v3,r3,e3,rv_nil a3,e4⟩
theorem PF.zero {P:Program} {gt:GT} {f:FuncId} {x u:AV} (h:PF (AC P gt) f [x,encT zPT] u):PF (AC P gt) f [x,.agg zT] u:=fun S =>
 ⟨(h S).1,fun G w args hI hx=>(h S).2 G w args hI (by
  simp only [Rl] at hx ⊢
  obtain⟨v,r,rfl,hv,v2,r2,e2,hv2,e3⟩:=hx
  exact⟨v,r,rfl,hv,v2,r2,e2,rv_zT hv2,e3⟩)⟩
mutual
def PN.sok:PN→Prop
 |.mk _ _ b _ leaf _ kids seps _ _ _=>leaf.sok∧leaf.ok∧leaf.n<1099511627776∧b.length<4294967281∧kids.length<2305843009213693952∧seps.length<2305843009213693952∧PN.soks kids
def PN.soks:List PN→Prop
 | []=>True
 | t::r=>PN.sok t∧PN.soks r
end
theorem PN.soks_get:∀{l:List PN} {i:Nat} (h:i<l.length),PN.soks l→(l[i]).sok
 | a::r,0,_,h=>by simp only [PN.soks] at h;exact h.1
 | a::r,i+1,hi,h=>by simp only [PN.soks] at h;exact PN.soks_get (l:=r) (i:=i) (by simpa using hi) h.2
theorem PN.sok_key {n:PN} (h:n.sok):n.key.length<4294967281:=by cases n;simp only [PN.sok] at h;exact h.2.2.2.1
def leafOK (k:Int) (leaf:PT) (h:List UInt8) (m n:Nat) (t:List UInt8):Bool :=
 decide (leaf.k=k) && (decide (rightB leaf=0) && (beqB h [] && (beqB t [] && (decide (m=0) && decide (n=0)))))
def headOK (k:Int) (c:List UInt8) (leaf:PT) (m n:Nat):Bool :=
 (decide (k=6) || decide (k=7)) && (beqB c [] && (eqT leaf zPT && decide (n=m-1)))
mutual
def formN:PN→Bool
 |.mk k _ _ c leaf h kids seps t _ _=>if leafK k=true then leafOK k leaf h kids.length seps.length t else headOK k c leaf kids.length seps.length && formK k [] kids
def formK:Int→List (List UInt8)→List PN→Bool
 | _,_,[]=>true
 | k,seen,n::r=>if k=7 then (if n.key∈seen then false else validB n.key && (formN n && formK k (seen++[n.key]) r)) else (beqB n.key [] && (formN n && formK k (seen++[n.key]) r))
end
section
variable {gt:GT} {C:CallT}
abbrev E_fo (n:PN) (kids:List PN) (i:Int):Env:=[(1,.box (encN n).cells),(3,.val (.map 0)),(75,.val (.sl 14 stat (encNs kids))),(76,.val (.int .i64 (encNs kids).length)),(77,.val (.int .i64 i))]
set_option maxHeartbeats 16000000 in
theorem formNx_wp (hm:MonoC C) (hlf:∀n:PN,PF C 58 [encN n] (.bool (leafK n.k))) (hr:∀t:PT,t.sok→t.n<1099511627776→PF C 28 [encT t] (.int .i64 (rightB t)))
  (hz:∀t:PT,t.sok→t.ok→t.n<1099511627776→PF C 30 [encT t,.agg zT] (.bool (eqT t zPT))) (hv:∀s:List UInt8,s.length<4611686018427387904→PF C 63 [.str s] (.bool (validB s)))
  {n:PN} (ih:∀u,u.n<n.n→u.sok→PF C 41 [encN u] (.bool (formN u))) (hs:n.sok) (h67:¬n.k=6∧¬n.k=7):wpF gt C F41 [encN n] St.init (Ret (.bool (formN n))):=by
 have hlf:=hlf n
 obtain⟨k,a,b,c,leaf,h,kids,seps,t,e,f⟩:=n
 simp only [PN.sok] at hs
 obtain⟨hs1,hs2,hs3,hs4,hs5,hs6,hs7⟩:=hs
 have hr:=hr leaf hs1 hs3
 have hz:=hz leaf hs1 hs2 hs3
 rw [encT_eq] at hr hz
 have l1:=encNs_len kids
 have l2:=strs_length seps
 simp only [PN.k] at hlf h67
 have ret:∀{z:Bool} {S:St},formN (.mk k a b c leaf h kids seps t e f)=z→Ret (.bool (formN (.mk k a b c leaf h kids seps t e f))) (.ret (.bool z)) S:=fun h=>by rw [h];exact Ret.sta trivial
 have hf:formN (.mk k a b c leaf h kids seps t e f)=if leafK k=true then leafOK k leaf h kids.length seps.length t else headOK k c leaf kids.length seps.length && formK k [] kids:=by rw [formN]
 generalize formN (.mk k a b c leaf h kids seps t e f)=res at ret hf ⊢
 refine⟨rfl,?_⟩
 refine goW ?_
 refine call_pf hm (by rfl) hlf ?_
 cases lk:leafK k with
 | true =>
  rw [lk,if_pos rfl] at hf
  unfold leafOK at hf
  refine goW ?_
  by_cases z1:leaf.k=k
  case neg =>
   rw [eqI_false z1]
   rw [dF z1,Bool.false_and] at hf
   refine goW ?_
   exact⟨_,rfl,ret hf⟩
  rw [eqI_true z1]
  rw [dT z1,Bool.true_and] at hf
  refine goW ?_
  refine call_pf hm (by rfl) hr (goW ?_)
  by_cases z2:rightB leaf=0
  case neg =>
   rw [eqI_false z2]
   rw [dF z2,Bool.false_and] at hf
   refine goW ?_
   exact⟨_,rfl,ret hf⟩
  rw [eqI_true z2]
  rw [dT z2,Bool.true_and] at hf
  refine goW ?_
  cases z3:beqB h [] with
  | false =>
   rw [z3,Bool.false_and] at hf
   refine goW ?_
   exact⟨_,rfl,ret hf⟩
  | true =>
  rw [z3,Bool.true_and] at hf
  refine goW ?_
  cases z4:beqB t [] with
  | false =>
   rw [z4,Bool.false_and] at hf
   refine goW ?_
   exact⟨_,rfl,ret hf⟩
  | true =>
  rw [z4,Bool.true_and] at hf
  refine goW ?_
  by_cases z5:kids.length=0
  case neg =>
   rw [eqI_false (show ¬((encNs kids).length:Int)=0 by omega)]
   rw [dF z5,Bool.false_and] at hf
   refine goW ?_
   exact⟨_,rfl,ret hf⟩
  rw [eqI_true (show ((encNs kids).length:Int)=0 by omega)]
  rw [dT z5,Bool.true_and] at hf
  refine goW ?_
  by_cases z6:seps.length=0
  ·rw [eqI_true (show ((strs seps).length:Int)=0 by omega)]
   rw [dT z6] at hf
   refine goW ?_
   exact⟨_,rfl,ret hf⟩
  ·rw [eqI_false (show ¬((strs seps).length:Int)=0 by omega)]
   rw [dF z6] at hf
   refine goW ?_
   exact⟨_,rfl,ret hf⟩
 | false =>
 rw [lk,if_neg (by simp)] at hf
 unfold headOK at hf
 refine goW ?_
 rw [neI_true h67.1]
 rw [dF h67.1,dF h67.2,Bool.or_self,Bool.false_and,Bool.false_and] at hf
 refine goW ?_
 rw [neI_true h67.2]
 refine goW ?_
 exact⟨_,rfl,ret hf⟩
end

section
variable {gt:GT} {C:CallT}
set_option maxHeartbeats 16000000 in
theorem formN7_wp (hm:MonoC C) (hlf:∀n:PN,PF C 58 [encN n] (.bool (leafK n.k)))
  (hz:∀t:PT,t.sok→t.ok→t.n<1099511627776→PF C 30 [encT t,.agg zT] (.bool (eqT t zPT))) (hv:∀s:List UInt8,s.length<4611686018427387904→PF C 63 [.str s] (.bool (validB s)))
  {a b c:List UInt8} {leaf:PT} {h:List UInt8} {kids:List PN} {seps:List (List UInt8)} {t e:List UInt8} {f:Int} (ih:∀u,u.n<(PN.mk 7 a b c leaf h kids seps t e f).n→u.sok→PF C 41 [encN u] (.bool (formN u))) (hs:(PN.mk 7 a b c leaf h kids seps t e f).sok) :
  wpF gt C F41 [encN (.mk 7 a b c leaf h kids seps t e f)] St.init (Ret (.bool (formN (.mk 7 a b c leaf h kids seps t e f)))):=by
 have hlf:=hlf (.mk 7 a b c leaf h kids seps t e f)
 simp only [PN.sok] at hs
 obtain⟨hs1,hs2,hs3,hs4,hs5,hs6,hs7⟩:=hs
 have hz:=hz leaf hs1 hs2 hs3
 rw [encT_eq] at hz
 have l1:=encNs_len kids
 have l2:=strs_length seps
 rw [show leafK (PN.mk 7 a b c leaf h kids seps t e f).k=false from rfl] at hlf
 have ret:∀{z:Bool} {S:St},formN (.mk 7 a b c leaf h kids seps t e f)=z→Ret (.bool (formN (.mk 7 a b c leaf h kids seps t e f))) (.ret (.bool z)) S:=fun h=>by rw [h];exact Ret.sta trivial
 have hf:formN (.mk 7 a b c leaf h kids seps t e f)=(beqB c [] && (eqT leaf zPT && decide (seps.length=kids.length-1)) && formK 7 [] kids):=by rw [formN];rfl
 generalize formN (.mk 7 a b c leaf h kids seps t e f)=res at ret hf ⊢
 refine⟨rfl,?_⟩
 refine goW ?_
 refine call_pf hm (by rfl) hlf (goW ?_)
 cases z1:beqB c [] with
 | false =>
  rw [z1,Bool.false_and,Bool.false_and] at hf
  refine goW ?_
  exact⟨_,rfl,ret hf⟩
 | true =>
 rw [z1,Bool.true_and] at hf
 refine goW ?_
 refine call_pf hm (by rfl) hz ?_
 cases z2:eqT leaf zPT with
 | false =>
  rw [z2,Bool.false_and,Bool.false_and] at hf
  refine goW ?_
  exact⟨_,rfl,ret hf⟩
 | true =>
 rw [z2,Bool.true_and] at hf
 refine goW ?_
 rw [wr64 (n:=((encNs kids).length:Int)-1) (by omega) (by omega)]
 have emax:(bif decide (((encNs kids).length:Int)-1 > 0) then ((encNs kids).length:Int)-1 else 0)=((kids.length-1:Nat):Int):=by
  by_cases q:((encNs kids).length:Int)-1 > 0
  ·rw [dT q,cond_true];omega
  ·rw [dF q,cond_false];omega
 rw [emax]
 by_cases z3:seps.length=kids.length-1
 case neg =>
  rw [neI_true (show ¬((strs seps).length:Int)=((kids.length-1:Nat):Int) by omega)]
  rw [dF z3,Bool.false_and] at hf
  refine goW ?_
  exact⟨_,rfl,ret hf⟩
 rw [neI_false (show ((strs seps).length:Int)=((kids.length-1:Nat):Int) by omega)]
 rw [dT z3,Bool.true_and] at hf
 clear emax z1 z2 z3 hz
 refine goW ?_
 refine loop_rule hm (α:=Nat) (fun i env S'=>i≤kids.length∧(Hs S' [.mp 0 (mpE (ones ((kids.take i).map PN.key)))])∧env=E_fo (.mk 7 a b c leaf h kids seps t e f) kids i∧res=formK 7 ((kids.take i).map PN.key) (kids.drop i)) (fun i=>kids.length-i) ?_ (a:=0) ⟨Nat.zero_le _,hs_mkm0,rfl,hf⟩
 clear hf
 rintro i env S' ⟨hi,hR,rfl,hf⟩
 refine goW ?_
 by_cases hc:(i:Int)<(encNs kids).length
 case neg =>
  rw [dF hc]
  rw [List.drop_eq_nil_of_le (by omega),formK] at hf
  refine goW ?_
  exact⟨_,rfl,ret hf⟩
 rw [dT hc]
 have hik:i<kids.length:=by omega
 have ihk:=ih _ (kidN_lt hik) (PN.soks_get hik hs7)
 have hkl:=PN.sok_key (PN.soks_get hik hs7)
 have htk:(kids.take (i+1)).map PN.key=(kids.take i).map PN.key++[kids[i].key]:=by rw [tS hik,List.map_append];rfl
 have hg:=encNs_get hik
 have hrd:=rdN kids[i]
 rw [dC hik,formK] at hf
 obtain⟨_,_,_,_,_,_,_,_,_,_,_,he⟩:=encN_parts kids[i]
 rw [he] at ihk hg hrd
 generalize kids[i].key=key at ihk hg hrd hf htk hkl
 generalize formN kids[i]=fk at ihk hf
 generalize kids[i].k=kk at ihk hg hrd
 generalize encNs kids[i].kids=kl at ihk hg hrd
 refine goW ?_
 refine step_ruleO (sx_ia (k:=i) rfl rfl (by omega)) (goW ?_)
 refine step_ruleO (sx_ldEl (agg:=true) rfl rfl hg hrd) (goW ?_)
 refine step_ruleO (sx_lkpS hR 0 rfl rfl rfl) ?_
 rw [if_pos rfl] at hf
 by_cases hs:key∈(kids.take i).map PN.key
 ·obtain⟨j,hj⟩:=posS_ones hs
  rw [if_pos hs] at hf
  rw [hj]
  refine goW ?_
  rw [show wr .i64 ((1:Int)+1)=2 from rfl]
  refine st_runP (r_mupS hR 0 rfl rfl rfl rfl) trivial ?_
  intro S2 hR
  refine goW ?_
  refine st_any (by exact rfl) (sx_lkpS hR 0 rfl rfl rfl) ?_
  rw [show posS key (putS key 2 (ones ((kids.take i).map PN.key))) 0=some (j,2) by unfold putS;rw [hj];exact posS_set hj]
  refine goW ?_
  exact⟨_,rfl,ret hf⟩
 have hj:=posS_no hs
 rw [if_neg hs] at hf
 rw [hj]
 refine goW ?_
 rw [show wr .i64 ((0:Int)+1)=1 from rfl]
 refine st_runP (r_mupS hR 0 rfl rfl rfl rfl) trivial ?_
 intro S2 hR
 refine goW ?_
 refine st_any (by exact rfl) (sx_lkpS hR 0 rfl rfl rfl) ?_
 have hput:putS key 1 (ones ((kids.take i).map PN.key))=ones ((kids.take (i+1)).map PN.key):=by unfold putS;rw [hj,htk];simp [ones]
 rw [show posS key (putS key 1 (ones ((kids.take i).map PN.key))) 0=some (0+(ones ((kids.take i).map PN.key)).length,1) by unfold putS;rw [hj];exact posS_app hj]
 rw [hput] at hR
 refine goW ?_
 refine call_pf hm (by rfl) (hv key (by omega)) ?_
 cases hvb:validB key with
 | false =>
  rw [hvb,Bool.false_and] at hf
  refine goW ?_
  exact⟨_,rfl,ret hf⟩
 | true =>
 rw [hvb,Bool.true_and] at hf
 refine goW ?_
 refine call_pf hm (by rfl) ihk ?_
 cases fk with
 | false =>
  rw [Bool.false_and] at hf
  refine goW ?_
  exact⟨_,rfl,ret hf⟩
 | true =>
  rw [Bool.true_and,←htk] at hf
  refine goW ?_
  refine⟨i+1,⟨by omega,hR,?_,hf⟩,by omega⟩
  rw [wrNat (by omega)]
end

section
variable {gt:GT} {C:CallT}
set_option maxHeartbeats 16000000 in
theorem formN6_wp (hm:MonoC C) (hlf:∀n:PN,PF C 58 [encN n] (.bool (leafK n.k)))
  (hz:∀t:PT,t.sok→t.ok→t.n<1099511627776→PF C 30 [encT t,.agg zT] (.bool (eqT t zPT))) (hv:∀s:List UInt8,s.length<4611686018427387904→PF C 63 [.str s] (.bool (validB s)))
  {a b c:List UInt8} {leaf:PT} {h:List UInt8} {kids:List PN} {seps:List (List UInt8)} {t e:List UInt8} {f:Int} (ih:∀u,u.n<(PN.mk 6 a b c leaf h kids seps t e f).n→u.sok→PF C 41 [encN u] (.bool (formN u))) (hs:(PN.mk 6 a b c leaf h kids seps t e f).sok) :
  wpF gt C F41 [encN (.mk 6 a b c leaf h kids seps t e f)] St.init (Ret (.bool (formN (.mk 6 a b c leaf h kids seps t e f)))):=by
 have hlf:=hlf (.mk 6 a b c leaf h kids seps t e f)
 simp only [PN.sok] at hs
 obtain⟨hs1,hs2,hs3,hs4,hs5,hs6,hs7⟩:=hs
 have hz:=hz leaf hs1 hs2 hs3
 rw [encT_eq] at hz
 have l1:=encNs_len kids
 have l2:=strs_length seps
 rw [show leafK (PN.mk 6 a b c leaf h kids seps t e f).k=false from rfl] at hlf
 have ret:∀{z:Bool} {S:St},formN (.mk 6 a b c leaf h kids seps t e f)=z→Ret (.bool (formN (.mk 6 a b c leaf h kids seps t e f))) (.ret (.bool z)) S:=fun h=>by rw [h];exact Ret.sta trivial
 have hf:formN (.mk 6 a b c leaf h kids seps t e f)=(beqB c [] && (eqT leaf zPT && decide (seps.length=kids.length-1)) && formK 6 [] kids):=by rw [formN];rfl
 generalize formN (.mk 6 a b c leaf h kids seps t e f)=res at ret hf ⊢
 refine⟨rfl,?_⟩
 refine goW ?_
 refine call_pf hm (by rfl) hlf (goW ?_)
 cases z1:beqB c [] with
 | false =>
  rw [z1,Bool.false_and,Bool.false_and] at hf
  refine goW ?_
  exact⟨_,rfl,ret hf⟩
 | true =>
 rw [z1,Bool.true_and] at hf
 refine goW ?_
 refine call_pf hm (by rfl) hz ?_
 cases z2:eqT leaf zPT with
 | false =>
  rw [z2,Bool.false_and,Bool.false_and] at hf
  refine goW ?_
  exact⟨_,rfl,ret hf⟩
 | true =>
 rw [z2,Bool.true_and] at hf
 refine goW ?_
 rw [wr64 (n:=((encNs kids).length:Int)-1) (by omega) (by omega)]
 have emax:(bif decide (((encNs kids).length:Int)-1 > 0) then ((encNs kids).length:Int)-1 else 0)=((kids.length-1:Nat):Int):=by
  by_cases q:((encNs kids).length:Int)-1 > 0
  ·rw [dT q,cond_true];omega
  ·rw [dF q,cond_false];omega
 rw [emax]
 by_cases z3:seps.length=kids.length-1
 case neg =>
  rw [neI_true (show ¬((strs seps).length:Int)=((kids.length-1:Nat):Int) by omega)]
  rw [dF z3,Bool.false_and] at hf
  refine goW ?_
  exact⟨_,rfl,ret hf⟩
 rw [neI_false (show ((strs seps).length:Int)=((kids.length-1:Nat):Int) by omega)]
 rw [dT z3,Bool.true_and] at hf
 clear emax z1 z2 z3 hz
 refine goW ?_
 refine loop_rule hm (α:=Nat) (fun i env S'=>i≤kids.length∧(∃es,Hs S' [.mp 0 (mpE es)])∧env=E_fo (.mk 6 a b c leaf h kids seps t e f) kids i∧res=formK 6 ((kids.take i).map PN.key) (kids.drop i)) (fun i=>kids.length-i) ?_ (a:=0) ⟨Nat.zero_le _,⟨[],hs_mkm0⟩,rfl,hf⟩
 clear hf
 rintro i env S' ⟨hi,⟨es,hR⟩,rfl,hf⟩
 refine goW ?_
 by_cases hc:(i:Int)<(encNs kids).length
 case neg =>
  rw [dF hc]
  rw [List.drop_eq_nil_of_le (by omega),formK] at hf
  refine goW ?_
  exact⟨_,rfl,ret hf⟩
 rw [dT hc]
 have hik:i<kids.length:=by omega
 have ihk:=ih _ (kidN_lt hik) (PN.soks_get hik hs7)
 have hkl:=PN.sok_key (PN.soks_get hik hs7)
 have htk:(kids.take (i+1)).map PN.key=(kids.take i).map PN.key++[kids[i].key]:=by rw [tS hik,List.map_append];rfl
 have hg:=encNs_get hik
 have hrd:=rdN kids[i]
 rw [dC hik,formK] at hf
 obtain⟨_,_,_,_,_,_,_,_,_,_,_,he⟩:=encN_parts kids[i]
 rw [he] at ihk hg hrd
 generalize kids[i].key=key at ihk hg hrd hf htk hkl
 generalize formN kids[i]=fk at ihk hf
 generalize kids[i].k=kk at ihk hg hrd
 generalize encNs kids[i].kids=kl at ihk hg hrd
 refine goW ?_
 refine step_ruleO (sx_ia (k:=i) rfl rfl (by omega)) (goW ?_)
 refine step_ruleO (sx_ldEl (agg:=true) rfl rfl hg hrd) (goW ?_)
 refine step_ruleO (sx_lkpS hR 0 rfl rfl rfl) ?_
 rw [if_neg (by omega)] at hf
 cases hps:posS key es 0
 all_goals
  refine goW ?_
  refine st_runP (r_mupS hR 0 rfl rfl rfl rfl) trivial ?_
  intro S2 hR
  refine goW ?_
  cases z4:beqB key [] with
  | false =>
   rw [z4,Bool.false_and] at hf
   refine goW ?_
   exact⟨_,rfl,ret hf⟩
  | true =>
  rw [z4,Bool.true_and] at hf
  refine goW ?_
  refine call_pf hm (by rfl) ihk ?_
  cases fk with
  | false =>
   rw [Bool.false_and] at hf
   refine goW ?_
   exact⟨_,rfl,ret hf⟩
  | true =>
   rw [Bool.true_and,←htk] at hf
   refine goW ?_
   refine⟨i+1,⟨by omega,⟨_,hR⟩,?_,hf⟩,by omega⟩
   rw [wrNat (by omega)]
end

section
variable {gt:GT} {C:CallT}
set_option maxHeartbeats 16000000 in
theorem shapNx_wp (hm:MonoC C) (hlf:∀k:Int,PF C 48 [.int .i64 k] (.bool (leafK k))) (hr:∀t:PT,t.sok→t.n<1099511627776→PF C 64 [encT t] (.int .i64 (rightB t)))
  {n:PN} (hs:n.sok) (h67:¬n.k=6∧¬n.k=7):wpF gt C F46 [encN n] St.init (Ret (.bool (formN n))):=by
 obtain⟨k,a,b,c,leaf,h,kids,seps,t,e,f⟩:=n
 have hlf:=hlf k
 simp only [PN.sok] at hs
 obtain⟨hs1,hs2,hs3,hs4,hs5,hs6,hs7⟩:=hs
 have hr:=hr leaf hs1 hs3
 rw [encT_eq] at hr
 have l1:=encNs_len kids
 have l2:=strs_length seps
 simp only [PN.k] at h67
 have ret:∀{z:Bool} {S:St},formN (.mk k a b c leaf h kids seps t e f)=z→Ret (.bool (formN (.mk k a b c leaf h kids seps t e f))) (.ret (.bool z)) S:=fun h=>by rw [h];exact Ret.sta trivial
 have hf:formN (.mk k a b c leaf h kids seps t e f)=if leafK k=true then leafOK k leaf h kids.length seps.length t else headOK k c leaf kids.length seps.length && formK k [] kids:=by rw [formN]
 generalize formN (.mk k a b c leaf h kids seps t e f)=res at ret hf ⊢
 refine⟨rfl,?_⟩
 refine goW ?_
 refine call_pf hm (by rfl) hlf ?_
 cases lk:leafK k with
 | true =>
  rw [lk,if_pos rfl] at hf
  unfold leafOK at hf
  refine goW ?_
  by_cases z1:leaf.k=k
  case neg =>
   rw [eqI_false z1]
   rw [dF z1,Bool.false_and] at hf
   refine goW ?_
   exact⟨_,rfl,ret hf⟩
  rw [eqI_true z1]
  rw [dT z1,Bool.true_and] at hf
  refine goW ?_
  refine call_pf hm (by rfl) hr (goW ?_)
  by_cases z2:rightB leaf=0
  case neg =>
   rw [eqI_false z2]
   rw [dF z2,Bool.false_and] at hf
   refine goW ?_
   exact⟨_,rfl,ret hf⟩
  rw [eqI_true z2]
  rw [dT z2,Bool.true_and] at hf
  refine goW ?_
  cases z3:beqB h [] with
  | false =>
   rw [z3,Bool.false_and] at hf
   refine goW ?_
   exact⟨_,rfl,ret hf⟩
  | true =>
  rw [z3,Bool.true_and] at hf
  refine goW ?_
  cases z4:beqB t [] with
  | false =>
   rw [z4,Bool.false_and] at hf
   refine goW ?_
   exact⟨_,rfl,ret hf⟩
  | true =>
  rw [z4,Bool.true_and] at hf
  refine goW ?_
  rw [wr64 (n:=((encNs kids).length:Int)+((strs seps).length:Int)) (by omega) (by omega)]
  have e5:(((encNs kids).length:Int)+((strs seps).length:Int) == 0)=(decide (kids.length=0) && decide (seps.length=0)):=by
   rw [Bool.eq_iff_iff,beq_iff_eq,bA,decide_eq_true_eq,decide_eq_true_eq];omega
  rw [e5]
  generalize (decide (kids.length=0) && decide (seps.length=0))=z5 at hf
  exact⟨_,rfl,ret hf⟩
 | false =>
 rw [lk,if_neg (by simp)] at hf
 unfold headOK at hf
 rw [dF h67.1,dF h67.2,Bool.or_self,Bool.false_and,Bool.false_and] at hf
 refine goW ?_
 rw [neI_true h67.1]
 refine goW ?_
 rw [neI_true h67.2]
 refine goW ?_
 exact⟨_,rfl,ret hf⟩
end

section
variable {gt:GT} {C:CallT}
abbrev E_sp7 (n:PN) (i:Int):Env:=[(1,.box (encN n).cells),(3,.val (.map 0)),(4,.val (.int .i64 i))]
set_option maxHeartbeats 16000000 in
theorem shapN7_wp (hm:MonoC C) (hlf:∀k:Int,PF C 48 [.int .i64 k] (.bool (leafK k)))
  (hz:∀t:PT,t.ok→PF C 21 [encT t,.agg zT] (.bool (eqT t zPT))) (hv:∀s:List UInt8,s.length<4294967281→PF C 65 [.str s] (.bool (validB s)))
  {a b c:List UInt8} {leaf:PT} {h:List UInt8} {kids:List PN} {seps:List (List UInt8)} {t e:List UInt8} {f:Int} (ih:∀u,u.n<(PN.mk 7 a b c leaf h kids seps t e f).n→u.sok→PF C 46 [encN u] (.bool (formN u))) (hs:(PN.mk 7 a b c leaf h kids seps t e f).sok) :
  wpF gt C F46 [encN (.mk 7 a b c leaf h kids seps t e f)] St.init (Ret (.bool (formN (.mk 7 a b c leaf h kids seps t e f)))):=by
 have hlf:=hlf 7
 simp only [PN.sok] at hs
 obtain⟨hs1,hs2,hs3,hs4,hs5,hs6,hs7⟩:=hs
 have hz:=hz leaf hs2
 rw [encT_eq] at hz
 have l1:=encNs_len kids
 have l2:=strs_length seps
 rw [show leafK 7=false from rfl] at hlf
 have ret:∀{z:Bool} {S:St},formN (.mk 7 a b c leaf h kids seps t e f)=z→Ret (.bool (formN (.mk 7 a b c leaf h kids seps t e f))) (.ret (.bool z)) S:=fun h=>by rw [h];exact Ret.sta trivial
 have hf:formN (.mk 7 a b c leaf h kids seps t e f)=(beqB c [] && (eqT leaf zPT && decide (seps.length=kids.length-1)) && formK 7 [] kids):=by rw [formN];rfl
 generalize formN (.mk 7 a b c leaf h kids seps t e f)=res at ret hf ⊢
 refine⟨rfl,?_⟩
 refine goW ?_
 refine call_pf hm (by rfl) hlf (goW ?_)
 cases z1:beqB c [] with
 | false =>
  rw [z1,Bool.false_and,Bool.false_and] at hf
  refine goW ?_
  exact⟨_,rfl,ret hf⟩
 | true =>
 rw [z1,Bool.true_and] at hf
 refine goW ?_
 refine call_pf hm (by rfl) hz ?_
 cases z2:eqT leaf zPT with
 | false =>
  rw [z2,Bool.false_and,Bool.false_and] at hf
  refine goW ?_
  exact⟨_,rfl,ret hf⟩
 | true =>
 rw [z2,Bool.true_and] at hf
 refine goW ?_
 have go:seps.length=kids.length-1→res=formK 7 [] kids:=fun z3=>by rw [hf,dT z3,Bool.true_and]
 have no:¬seps.length=kids.length-1→res=false:=fun z3=>by rw [hf,dF z3,Bool.false_and]
 clear hf z1 z2 hz
 have next:seps.length=kids.length-1→wpD gt C F46.body.rt.rt.rt.rt [(1,.box (encN (.mk 7 a b c leaf h kids seps t e f)).cells),(86,.val (.bool false))] St.init (bodyQ gt F46.res (Ret (.bool res))):=by
  intro z3
  have hf:=go z3
  clear go no z3
  conv=>whnf
  refine goW ?_
  refine loop_rule hm (α:=Nat) (fun i env S'=>i≤kids.length∧(Hs S' [.mp 0 (mpE (ones ((kids.take i).map PN.key)))])∧env=E_sp7 (.mk 7 a b c leaf h kids seps t e f) i∧res=formK 7 ((kids.take i).map PN.key) (kids.drop i)) (fun i=>kids.length-i) ?_ (a:=0) ⟨Nat.zero_le _,hs_mkm0,rfl,hf⟩
  clear hf
  rintro i env S' ⟨hi,hR,rfl,hf⟩
  refine goW ?_
  by_cases hc:(i:Int)<(encNs kids).length
  case neg =>
   rw [dF hc]
   rw [List.drop_eq_nil_of_le (by omega),formK] at hf
   refine goW ?_
   exact⟨_,rfl,ret hf⟩
  rw [dT hc]
  have hik:i<kids.length:=by omega
  have ihk:=ih _ (kidN_lt hik) (PN.soks_get hik hs7)
  have hkl:=PN.sok_key (PN.soks_get hik hs7)
  have htk:(kids.take (i+1)).map PN.key=(kids.take i).map PN.key++[kids[i].key]:=by rw [tS hik,List.map_append];rfl
  have hg:=encNs_get hik
  have hrd:=rdN kids[i]
  rw [dC hik,formK] at hf
  obtain⟨_,_,_,_,_,_,_,_,_,_,_,he⟩:=encN_parts kids[i]
  rw [he] at ihk hg hrd
  generalize kids[i].key=key at ihk hg hrd hf htk hkl
  generalize formN kids[i]=fk at ihk hf
  generalize kids[i].k=kk at ihk hg hrd
  generalize encNs kids[i].kids=kl at ihk hg hrd
  refine goW ?_
  refine step_ruleO (sx_ia (k:=i) rfl rfl (by omega)) (goW ?_)
  refine step_ruleO (sx_ldEl (agg:=true) rfl rfl hg rfl) (goW ?_)
  rw [if_pos rfl] at hf
  refine st_any (by exact rfl) (sx_lkpS hR 0 rfl rfl rfl) ?_
  by_cases hs:key∈(kids.take i).map PN.key
  ·obtain⟨j,hj⟩:=posS_ones hs
   rw [if_pos hs] at hf
   rw [hj]
   refine goW ?_
   exact⟨_,rfl,ret hf⟩
  have hj:=posS_no hs
  rw [if_neg hs] at hf
  rw [hj]
  refine goW ?_
  refine call_pf hm (by rfl) (hv key hkl) ?_
  cases hvb:validB key with
  | false =>
   rw [hvb,Bool.false_and] at hf
   refine goW ?_
   exact⟨_,rfl,ret hf⟩
  | true =>
  rw [hvb,Bool.true_and] at hf
  refine goW ?_
  refine st_any (by exact rfl) (sx_ia (k:=i) rfl rfl (by omega)) (goW ?_)
  refine st_any (by exact rfl) (sx_ldEl (agg:=true) rfl rfl hg hrd) (goW ?_)
  refine call_pf hm (by rfl) ihk ?_
  cases fk with
  | false =>
   rw [Bool.false_and] at hf
   refine goW ?_
   exact⟨_,rfl,ret hf⟩
  | true =>
  rw [Bool.true_and,←htk] at hf
  refine goW ?_
  refine st_runP (r_mupS hR 0 rfl rfl rfl rfl) trivial ?_
  intro S2 hR
  have hput:putS key 1 (ones ((kids.take i).map PN.key))=ones ((kids.take (i+1)).map PN.key):=by unfold putS;rw [hj,htk];simp [ones]
  rw [hput] at hR
  refine goW ?_
  refine⟨i+1,⟨by omega,hR,?_,hf⟩,by omega⟩
  rw [wrNat (by omega)]
 by_cases y1:kids.length=0
 ·rw [eqI_true (show ((encNs kids).length:Int)=0 by omega)]
  refine goW ?_
  by_cases y2:((strs seps).length:Int) > 0
  ·rw [dT y2]
   refine goW ?_
   exact⟨_,rfl,ret (no (by omega))⟩
  ·rw [dF y2]
   refine goW ?_
   rw [dF (show ¬((encNs kids).length:Int) > 0 by omega)]
   have next:=next (by omega)
   refine goJ ?_
   with_unfolding_all exact next
 ·rw [eqI_false (show ¬((encNs kids).length:Int)=0 by omega)]
  refine goW ?_
  rw [dT (show ((encNs kids).length:Int) > 0 by omega)]
  refine goW ?_
  rw [wr64 (n:=((encNs kids).length:Int)-1) (by omega) (by omega)]
  by_cases y2:seps.length=kids.length-1
  ·rw [neI_false (show ((strs seps).length:Int)=((encNs kids).length:Int)-1 by omega)]
   have next:=next y2
   refine goJ ?_
   with_unfolding_all exact next
  ·rw [neI_true (show ¬((strs seps).length:Int)=((encNs kids).length:Int)-1 by omega)]
   refine goW ?_
   exact⟨_,rfl,ret (no y2)⟩
end

section
variable {gt:GT} {C:CallT}
abbrev E_sp6 (n:PN) (i:Int):Env:=[(1,.box (encN n).cells),(3,.val (.map 0)),(4,.val (.int .i64 i))]
set_option maxHeartbeats 16000000 in
theorem shapN6_wp (hm:MonoC C) (hlf:∀k:Int,PF C 48 [.int .i64 k] (.bool (leafK k)))
  (hz:∀t:PT,t.ok→PF C 21 [encT t,.agg zT] (.bool (eqT t zPT))) (hv:∀s:List UInt8,s.length<4294967281→PF C 65 [.str s] (.bool (validB s)))
  {a b c:List UInt8} {leaf:PT} {h:List UInt8} {kids:List PN} {seps:List (List UInt8)} {t e:List UInt8} {f:Int} (ih:∀u,u.n<(PN.mk 6 a b c leaf h kids seps t e f).n→u.sok→PF C 46 [encN u] (.bool (formN u))) (hs:(PN.mk 6 a b c leaf h kids seps t e f).sok) :
  wpF gt C F46 [encN (.mk 6 a b c leaf h kids seps t e f)] St.init (Ret (.bool (formN (.mk 6 a b c leaf h kids seps t e f)))):=by
 have hlf:=hlf 6
 simp only [PN.sok] at hs
 obtain⟨hs1,hs2,hs3,hs4,hs5,hs6,hs7⟩:=hs
 have hz:=hz leaf hs2
 rw [encT_eq] at hz
 have l1:=encNs_len kids
 have l2:=strs_length seps
 rw [show leafK 6=false from rfl] at hlf
 have ret:∀{z:Bool} {S:St},formN (.mk 6 a b c leaf h kids seps t e f)=z→Ret (.bool (formN (.mk 6 a b c leaf h kids seps t e f))) (.ret (.bool z)) S:=fun h=>by rw [h];exact Ret.sta trivial
 have hf:formN (.mk 6 a b c leaf h kids seps t e f)=(beqB c [] && (eqT leaf zPT && decide (seps.length=kids.length-1)) && formK 6 [] kids):=by rw [formN];rfl
 generalize formN (.mk 6 a b c leaf h kids seps t e f)=res at ret hf ⊢
 refine⟨rfl,?_⟩
 refine goW ?_
 refine call_pf hm (by rfl) hlf (goW ?_)
 cases z1:beqB c [] with
 | false =>
  rw [z1,Bool.false_and,Bool.false_and] at hf
  refine goW ?_
  exact⟨_,rfl,ret hf⟩
 | true =>
 rw [z1,Bool.true_and] at hf
 refine goW ?_
 refine call_pf hm (by rfl) hz ?_
 cases z2:eqT leaf zPT with
 | false =>
  rw [z2,Bool.false_and,Bool.false_and] at hf
  refine goW ?_
  exact⟨_,rfl,ret hf⟩
 | true =>
 rw [z2,Bool.true_and] at hf
 refine goW ?_
 have go:seps.length=kids.length-1→res=formK 6 [] kids:=fun z3=>by rw [hf,dT z3,Bool.true_and]
 have no:¬seps.length=kids.length-1→res=false:=fun z3=>by rw [hf,dF z3,Bool.false_and]
 clear hf z1 z2 hz
 have next:seps.length=kids.length-1→wpD gt C F46.body.rt.rt.rt.rt [(1,.box (encN (.mk 6 a b c leaf h kids seps t e f)).cells),(86,.val (.bool false))] St.init (bodyQ gt F46.res (Ret (.bool res))):=by
  intro z3
  have hf:=go z3
  clear go no z3
  conv=>whnf
  refine goW ?_
  refine loop_rule hm (α:=Nat) (fun i env S'=>i≤kids.length∧(∃es,Hs S' [.mp 0 (mpE es)])∧env=E_sp6 (.mk 6 a b c leaf h kids seps t e f) i∧res=formK 6 ((kids.take i).map PN.key) (kids.drop i)) (fun i=>kids.length-i) ?_ (a:=0) ⟨Nat.zero_le _,⟨[],hs_mkm0⟩,rfl,hf⟩
  clear hf
  rintro i env S' ⟨hi,⟨es,hR⟩,rfl,hf⟩
  refine goW ?_
  by_cases hc:(i:Int)<(encNs kids).length
  case neg =>
   rw [dF hc]
   rw [List.drop_eq_nil_of_le (by omega),formK] at hf
   refine goW ?_
   exact⟨_,rfl,ret hf⟩
  rw [dT hc]
  have hik:i<kids.length:=by omega
  have ihk:=ih _ (kidN_lt hik) (PN.soks_get hik hs7)
  have hkl:=PN.sok_key (PN.soks_get hik hs7)
  have htk:(kids.take (i+1)).map PN.key=(kids.take i).map PN.key++[kids[i].key]:=by rw [tS hik,List.map_append];rfl
  have hg:=encNs_get hik
  have hrd:=rdN kids[i]
  rw [dC hik,formK] at hf
  obtain⟨_,_,_,_,_,_,_,_,_,_,_,he⟩:=encN_parts kids[i]
  rw [he] at ihk hg hrd
  generalize kids[i].key=key at ihk hg hrd hf htk hkl
  generalize formN kids[i]=fk at ihk hf
  generalize kids[i].k=kk at ihk hg hrd
  generalize encNs kids[i].kids=kl at ihk hg hrd
  refine goW ?_
  refine step_ruleO (sx_ia (k:=i) rfl rfl (by omega)) (goW ?_)
  refine step_ruleO (sx_ldEl (agg:=true) rfl rfl hg rfl) (goW ?_)
  rw [if_neg (by omega)] at hf
  cases z4:beqB key [] with
  | false =>
   rw [z4,Bool.false_and] at hf
   refine goW ?_
   exact⟨_,rfl,ret hf⟩
  | true =>
  rw [z4,Bool.true_and] at hf
  refine goW ?_
  refine st_any (by exact rfl) (sx_ia (k:=i) rfl rfl (by omega)) (goW ?_)
  refine st_any (by exact rfl) (sx_ldEl (agg:=true) rfl rfl hg hrd) (goW ?_)
  refine call_pf hm (by rfl) ihk ?_
  cases fk with
  | false =>
   rw [Bool.false_and] at hf
   refine goW ?_
   exact⟨_,rfl,ret hf⟩
  | true =>
  rw [Bool.true_and,←htk] at hf
  refine goW ?_
  refine st_runP (r_mupS hR 0 rfl rfl rfl rfl) trivial ?_
  intro S2 hR
  refine goW ?_
  refine⟨i+1,⟨by omega,⟨_,hR⟩,?_,hf⟩,by omega⟩
  rw [wrNat (by omega)]
 by_cases y1:kids.length=0
 ·rw [eqI_true (show ((encNs kids).length:Int)=0 by omega)]
  refine goW ?_
  by_cases y2:((strs seps).length:Int) > 0
  ·rw [dT y2]
   refine goW ?_
   exact⟨_,rfl,ret (no (by omega))⟩
  ·rw [dF y2]
   refine goW ?_
   rw [dF (show ¬((encNs kids).length:Int) > 0 by omega)]
   have next:=next (by omega)
   refine goJ ?_
   with_unfolding_all exact next
 ·rw [eqI_false (show ¬((encNs kids).length:Int)=0 by omega)]
  refine goW ?_
  rw [dT (show ((encNs kids).length:Int) > 0 by omega)]
  refine goW ?_
  rw [wr64 (n:=((encNs kids).length:Int)-1) (by omega) (by omega)]
  by_cases y2:seps.length=kids.length-1
  ·rw [neI_false (show ((strs seps).length:Int)=((encNs kids).length:Int)-1 by omega)]
   have next:=next y2
   refine goJ ?_
   with_unfolding_all exact next
  ·rw [neI_true (show ¬((strs seps).length:Int)=((encNs kids).length:Int)-1 by omega)]
   refine goW ?_
   exact⟨_,rfl,ret (no y2)⟩
end

def rightN (n:PN):Bool:=decide (n.dp≤64) && (decide (n.n≤4096) && formN n)
mutual
def treeN:PN→PT
 |.mk k _ _ _ leaf _ kids _ _ _ _=>if leafK k=true then leaf else .mk k [] (if k=7 then kids.map PN.key else []) (treesN kids)
def treesN:List PN→List PT
 | []=>[]
 | n::r=>treeN n::treesN r
end
theorem treesN_map:∀l:List PN,treesN l=l.map treeN
 | []=>rfl
 | t::r=>by simp only [treesN,List.map_cons,treesN_map r]
def keysN (k:Int) (l:List PN):List (List UInt8):=if k=7 then l.map PN.key else []
theorem keysN_len (k:Int) (l:List PN):(keysN k l).length≤l.length:=by unfold keysN;split<;>simp
section
variable {gt:GT} {C:CallT}
set_option maxHeartbeats 4000000 in
theorem rightN_wp (hm:MonoC C) {n:PN} (hd:PF C 40 [encN n] (.int .i64 n.dp)) (hc:PF C 13 [encN n] (.int .i64 n.n)) (hf:PF C 41 [encN n] (.bool (formN n))) :
  wpF gt C F14 [encN n] St.init (Ret (.bool (rightN n))):=by
 have ret:∀{z:Bool} {S:St},rightN n=z→Ret (.bool (rightN n)) (.ret (.bool z)) S:=fun h=>by rw [h];exact Ret.sta trivial
 have hr:rightN n=(decide (n.dp≤64) && (decide (n.n≤4096) && formN n)):=rfl
 generalize rightN n=res at ret hr ⊢
 generalize n.dp=d at hd hr
 generalize n.n=m at hc hr
 generalize formN n=fb at hf hr
 obtain⟨_,_,_,_,_,_,_,_,_,_,_,_,_,_,he⟩:=encN_agg n
 rw [he] at hd hc hf ⊢
 refine⟨rfl,?_⟩
 refine goW ?_
 refine call_pf hm (by rfl) hd (goW ?_)
 by_cases z1:(d:Int)≤64
 case neg =>
  rw [dF z1]
  rw [dF (by omega),Bool.false_and] at hr
  refine goW ?_
  exact⟨_,rfl,ret hr⟩
 rw [dT z1]
 rw [dT (by omega),Bool.true_and] at hr
 refine goW ?_
 refine call_pf hm (by rfl) hc (goW ?_)
 by_cases z2:(m:Int)≤4096
 case neg =>
  rw [dF z2]
  rw [dF (by omega),Bool.false_and] at hr
  refine goW ?_
  exact⟨_,rfl,ret hr⟩
 rw [dT z2]
 rw [dT (by omega),Bool.true_and] at hr
 refine goW ?_
 refine call_pf hm (by rfl) hf (goW ?_)
 exact⟨_,rfl,ret hr⟩
set_option maxHeartbeats 4000000 in
theorem right4_wp (hm:MonoC C) {n:PN} (hd:PF C 45 [encN n] (.int .i64 n.dp)) (hc:PF C 20 [encN n,.int .i64 4097] (.int .i64 (cntN n 4097))) (hf:PF C 46 [encN n] (.bool (formN n))) :
  wpF gt C F18 [encN n] St.init (Ret (.bool (rightN n))):=by
 have ret:∀{z:Bool} {S:St},rightN n=z→Ret (.bool (rightN n)) (.ret (.bool z)) S:=fun h=>by rw [h];exact Ret.sta trivial
 have hr:rightN n=(decide (n.dp≤64) && (decide (n.n≤4096) && formN n)):=rfl
 have cb:=cntN_b n 4097
 generalize cntN n 4097=m at hc cb
 generalize rightN n=res at ret hr ⊢
 generalize n.dp=d at hd hr
 generalize n.n=nn at cb hr
 generalize formN n=fb at hf hr
 obtain⟨_,_,_,_,_,_,_,_,_,_,_,_,_,_,he⟩:=encN_agg n
 rw [he] at hd hc hf ⊢
 refine⟨rfl,?_⟩
 refine goW ?_
 refine call_pf hm (by rfl) hd (goW ?_)
 by_cases z1:(d:Int)≤64
 case neg =>
  rw [dF z1]
  rw [dF (by omega),Bool.false_and] at hr
  refine goW ?_
  exact⟨_,rfl,ret hr⟩
 rw [dT z1]
 rw [dT (by omega),Bool.true_and] at hr
 refine goW ?_
 refine call_pf hm (by rfl) hc (goW ?_)
 by_cases z2:m≤4096
 case neg =>
  rw [dF z2]
  rw [dF (by omega),Bool.false_and] at hr
  refine goW ?_
  exact⟨_,rfl,ret hr⟩
 rw [dT z2]
 rw [dT (by omega),Bool.true_and] at hr
 refine goW ?_
 refine call_pf hm (by rfl) hf (goW ?_)
 exact⟨_,rfl,ret hr⟩
abbrev E_mk (n:PN) (k:Int) (keys:List (List UInt8)) (o1 o2:SI) (ts:List PT) (kids:List PN) (i:Int):Env :=
 [(1,.box (encN n).cells),(2,.box zT),(3,.box [.int .i64 k,.str [],.sl 1 o1 (strs keys),.sl 4 o2 (encTs ts)]),(15,.val (.sl 14 stat (encNs kids))),(16,.val (.int .i64 (encNs kids).length)),(17,.val (.int .i64 i))]
set_option maxHeartbeats 8000000 in
theorem made_wp (hm:MonoC C) (hlf:∀n:PN,PF C 58 [encN n] (.bool (leafK n.k))) (hcp:∀t:PT,t.ok→PF C 49 [encT t] (encT t))
  {n:PN} (ih:∀u,u.n<n.n→u.ok→PF C 32 [encN u] (encT (treeN u))) (hk:n.ok):wpF gt C F32 [encN n] St.init (Ret (encT (treeN n))):=by
 have hlf:=hlf n
 obtain⟨k,a,b,c,leaf,h,kids,seps,t,e,f⟩:=n
 simp only [PN.ok] at hk
 obtain⟨hk1,hk2,hk3,hk4⟩:=hk
 have hcp:=hcp leaf hk1
 have sl:=sta_T leaf
 rw [encT_eq] at hcp sl
 have l1:=encNs_len kids
 simp only [PN.k] at hlf
 rw [treeN]
 refine⟨rfl,?_⟩
 refine goW ?_
 refine call_pf hm (by rfl) hlf ?_
 cases lk:leafK k with
 | true =>
  rw [if_pos rfl,encT_eq]
  refine goW ?_
  refine call_pf hm (by rfl) hcp (goW ?_)
  exact⟨_,rfl,Ret.sta sl⟩
 | false =>
 rw [if_neg (by simp)]
 have hR:=(Hs.init.addNil 9 true).addNil 25 true
 refine goW ?_
 refine loop_rule hm (α:=Nat) (fun i env S'=>i≤kids.length∧∃o1 o2,Hs S' [.gr 9 o1 (strs (keysN k (kids.take i))),.gr 25 o2 (encTs ((treesN kids).take i))]∧env=E_mk (.mk k a b c leaf h kids seps t e f) k (keysN k (kids.take i)) o1 o2 ((treesN kids).take i) kids i) (fun i=>kids.length-i) ?_ (a:=0) ⟨Nat.zero_le _,_,_,(by
  have e0:keysN k (kids.take 0)=[]:=by unfold keysN;split<;>rfl
  rw [e0];exact hR),(by
  have e0:keysN k (kids.take 0)=[]:=by unfold keysN;split<;>rfl
  rw [e0];rfl)⟩
 clear hR
 rintro i env S' ⟨hi,o1,o2,hR,rfl⟩
 have hsl:(treesN kids).length=kids.length:=by rw [treesN_map,List.length_map]
 refine goW ?_
 by_cases hc:(i:Int)<(encNs kids).length
 case neg =>
  rw [dF hc]
  refine goW ?_
  rw [List.take_of_length_le (show kids.length≤i by omega),List.take_of_length_le (show (treesN kids).length≤i by omega)] at hR ⊢
  exact⟨_,rfl,_,rfl,rdo_T hR (i:=0) (j:=1) rfl rfl⟩
 rw [dT hc]
 have hik:i<kids.length:=by omega
 have his:i<(treesN kids).length:=by omega
 have hge:(treesN kids)[i]=treeN kids[i]:=by simp only [treesN_map,List.getElem_map]
 have ihk:=ih _ (kidN_lt hik) (PN.oks_get hik hk4)
 have hok:=encT_ok (treeN kids[i])
 have hts:encTs ((treesN kids).take (i+1))=encTs ((treesN kids).take i)++[encT (treeN kids[i])]:=by rw [tS his,encTs_app,hge];rfl
 have hlt:(encTs ((treesN kids).take i)).length=i:=by rw [encTs_len,lT];omega
 have hkn:=keysN_len k (kids.take i)
 rw [lT] at hkn
 have hky:keysN k (kids.take (i+1))=if k=7 then keysN k (kids.take i)++[kids[i].key] else keysN k (kids.take i):=by
  unfold keysN
  split
  ·rw [tS hik,List.map_append];rfl
  ·rfl
 have hg:=encNs_get hik
 have hrd:=rdN kids[i]
 obtain⟨_,_,_,_,_,_,_,_,_,_,_,he⟩:=encN_parts kids[i]
 obtain⟨kb,sb,xb,yb,he2⟩:=encT_agg (treeN kids[i])
 rw [he] at ihk hg hrd
 rw [he2] at ihk hts hok
 generalize kids[i].key=key at ihk hg hrd hky
 generalize kids[i].k=kk at ihk hg hrd
 generalize encNs kids[i].kids=kl at ihk hg hrd
 generalize keysN k (kids.take i)=ks at hR hky hkn
 have l3:=strs_length ks
 generalize (treesN kids).take i=ts at hR hts hlt
 have nxt:∀{S3:St} {o3 o4:SI} {ks':List (List UInt8)},keysN k (kids.take (i+1))=ks'→Hs S3 [.gr 9 o3 (strs ks'),.gr 25 o4 (encTs ts++[.agg [.int .i64 kb,.str sb,.sl 1 stat xb,.sl 4 stat yb]])]→∃a':Nat,(a'≤kids.length∧∃o1 o2,Hs S3 [.gr 9 o1 (strs (keysN k (kids.take a'))),.gr 25 o2 (encTs ((treesN kids).take a'))] ∧
   [(1,.box (encN (.mk k a b c leaf h kids seps t e f)).cells),(2,.box zT),(3,.box [.int .i64 k,.str [],.sl 1 o3 (strs ks'),.sl 4 o4 (encTs ts++[.agg [.int .i64 kb,.str sb,.sl 1 stat xb,.sl 4 stat yb]])]),(15,.val (.sl 14 stat (encNs kids))),(16,.val (.int .i64 (encNs kids).length)),(17,.val (.int .i64 ((i+1:Nat):Int)))]=E_mk (.mk k a b c leaf h kids seps t e f) k (keysN k (kids.take a')) o1 o2 ((treesN kids).take a') kids a')∧kids.length-a'<kids.length-i:=fun e1 h1=>by
  subst e1
  rw [←hts] at h1 ⊢
  exact⟨i+1,⟨by omega,_,_,h1,rfl⟩,by omega⟩
 refine goW ?_
 refine step_ruleO (sx_ia (k:=i) rfl rfl (by omega)) (goW ?_)
 refine step_ruleO (sx_ldEl (agg:=true) rfl rfl hg hrd) (goW ?_)
 by_cases k7:k=7
 ·rw [eqI_true k7]
  rw [if_pos k7] at hky
  refine goW ?_
  obtain⟨hR,hsrc⟩:=hR.bldT 9 1
  refine r_app hR 0 rfl trivial rfl rfl (hsrc _ _ _) (by rw [l3];simp;omega) (by rw [l3];simp;omega) (by decide) (by decide) rfl ?_
  intro o3 S3 hR
  rw [show strs ks++(List.replicate 1 (AV.str [])).set 0 (.str key)=strs (ks++[key]) by simp [strs]] at hR ⊢
  refine goW ?_
  refine call_pfD hm (by rfl) ihk (goW ?_)
  refine r_appD hR 1 rfl (by trivial) rfl rfl rfl (by rw [hlt];simp;omega) (by rw [hlt];simp;omega) (by decide) (by decide) hok ?_
  intro o4 S4 hR
  refine goW ?_
  rw [wrNat (by omega)]
  exact nxt hky hR
 ·rw [eqI_false k7]
  rw [if_neg k7] at hky
  refine goW ?_
  refine call_pfD hm (by rfl) ihk (goW ?_)
  refine r_appD hR 1 rfl (by trivial) rfl rfl rfl (by rw [hlt];simp;omega) (by rw [hlt];simp;omega) (by decide) (by decide) hok ?_
  intro o4 S4 hR
  refine goW ?_
  rw [wrNat (by omega)]
  exact nxt hky hR
set_option maxHeartbeats 4000000 in
theorem treeP_wp (hm:MonoC C) {n:PN} (hr:PF C 14 [encN n] (.bool (rightN n))) (hd:PF C 32 [encN n] (encT (treeN n))) :
  wpF gt C F9 [encN n] St.init (Ret (.tup [encT (if rightN n=true then treeN n else zPT),.int .i64 (if rightN n=true then 0 else 1)])):=by
 have st:=sta_T (treeN n)
 obtain⟨kb,sb,xb,yb,he2⟩:=encT_agg (treeN n)
 rw [he2] at hd st
 generalize hres:rightN n=rn at hr ⊢
 obtain⟨_,_,_,_,_,_,_,_,_,_,_,_,_,_,he⟩:=encN_agg n
 rw [he] at hr hd ⊢
 refine⟨rfl,?_⟩
 refine goW ?_
 refine call_pf hm (by rfl) hr ?_
 cases rn with
 | false =>
  refine goW ?_
  exact⟨_,rfl,ret_tup2 rdo_zT trivial⟩
 | true =>
  rw [if_pos rfl,if_pos rfl,he2]
  refine goW ?_
  refine call_pf hm (by rfl) hd (goW ?_)
  exact⟨_,rfl,Ret.sta ⟨st,trivial,trivial⟩⟩
end

section
variable {gt:GT} {d:Option Nat} {env:Env} {S:St} {R:List Rs}
theorem sx_ldB0 (h:Hs S R) (i:Nat) {id:Nat} {ty:TypeId} {v w:AV} (hi:R[i]? = some (.bx id ty [v,w])) (hn:notAgg v=true) {a:DOpd} (ha:loc env a=some (.hp id 0)) :
  stepO gt d env S (.ld false 1 a)=.done (putV d v env) S:=by
 have hb:=(h.ok i _ hi).2
 have:ldL gt env S false 1 (.hp id 0)=some v:=by
  simp only [ldL,ldC,hb,cut]
  show mkv false [v]=some v
  simp only [mkv,hn,cond_true,cond_false]
 simp only [stepO,ha,this,SR.val]
theorem sx_ldB1 (h:Hs S R) (i:Nat) {id:Nat} {ty:TypeId} {v w:AV} (hi:R[i]? = some (.bx id ty [v,w])) (hn:notAgg w=true) {a:DOpd} (ha:loc env a=some (.hp id 1)) :
  stepO gt d env S (.ld false 1 a)=.done (putV d w env) S:=by
 have hb:=(h.ok i _ hi).2
 have:ldL gt env S false 1 (.hp id 1)=some w:=by
  simp only [ldL,ldC,hb,cut]
  show mkv false [w]=some w
  simp only [mkv,hn,cond_true,cond_false]
 simp only [stepO,ha,this,SR.val]
theorem st_B0 (h:Hs S R) (i:Nat) {id:Nat} {ty:TypeId} {v w v':AV} (hi:R[i]? = some (.bx id ty [v,w])) {a x:DOpd} (ha:loc env a=some (.hp id 0)) (hx:opd env x=some v') (hc:v'.cells=[v']) (ho:ok1 v'=true) :
  ∃S',stepO gt d env S (.st 1 a x)=.done (putV d .undef env) S'∧Hs S' (R.set i (.bx id ty [v',w])):=by
 have hb:=(h.ok i _ hi).2
 refine⟨_,?_,h.boxTo hi [v',w]⟩
 simp only [stepO,ha,hx,hc,stL,hb,List.all_cons,List.all_nil,ho]
 rfl
theorem st_B1 (h:Hs S R) (i:Nat) {id:Nat} {ty:TypeId} {v w v':AV} (hi:R[i]? = some (.bx id ty [v,w])) {a x:DOpd} (ha:loc env a=some (.hp id 1)) (hx:opd env x=some v') (hc:v'.cells=[v']) (ho:ok1 v'=true) :
  ∃S',stepO gt d env S (.st 1 a x)=.done (putV d .undef env) S'∧Hs S' (R.set i (.bx id ty [v,v'])):=by
 have hb:=(h.ok i _ hi).2
 refine⟨_,?_,h.boxTo hi [v,v']⟩
 simp only [stepO,ha,hx,hc,stL,hb,List.all_cons,List.all_nil,ho]
 rfl
theorem sx_cvU (h:Hs S R) (i:Nat) {id:Nat} {ty:TypeId} {v w:AV} (hi:R[i]? = some (.bx id ty [v,w])) {x:DOpd} (hx:opd env x=some (.ptr id 0)):stepO gt d env S (.cvU x)=.done (putV d (.ptr id 0) env) S:=by
 have hb:=(h.ok i _ hi).2
 simp only [stepO,hx,hb]
 rfl
theorem sx_cvP (h:Hs S R) (i:Nat) {id:Nat} {ty:TypeId} {v w:AV} (hi:R[i]? = some (.bx id ty [v,w])) {x:DOpd} (hx:opd env x=some (.ptr id 0)) {ok:List (TypeId×Nat×Nat)} (ho:ok.any (fun p=>Nat.beq p.1 ty && (Nat.beq p.2.1 0 && Nat.ble p.2.2 2))=true) :
  stepO gt d env S (.cvP ok x)=.done (putV d (.ptr id 0) env) S:=by
 have hb:=(h.ok i _ hi).2
 simp only [stepO,hx,hb,lC,List.length_nil,Nat.zero_add,Nat.reduceAdd,ho,cond_true]
end
theorem sx_ustr {gt:GT} {d:Option Nat} {env:Env} {S:St} {x y:DOpd} {t l n m:Nat} {ty:TypeId} {xs:List AV} {s:List UInt8} (hx:opd env x=some (.eptr 1 ⟨some (t,l),0,none,false⟩ xs 0 0)) (hy:opd env y=some (.int .i64 (Int.ofNat n))) (hn:n=xs.length) (hb:bytes? xs=some s) (hl:n≤17592186044416)
  (hr:rd S ⟨some (t,l),0,none,false⟩=.here) (ht:lk S.tip t=some (some (m,ty,false))):stepO gt d env S (.ustr ty x y)=.done (putV d (.str s) env) { S with tip:=(t,none)::S.tip }:=by
 have h3:Nat.ble n 17592186044416=true:=Nat.ble_eq_true_of_le hl
 simp only [stepO,hx,hy,hr,ht,Nat.beq_refl,←hn,h3,hb,Bool.and_true,cond_true]
abbrev R_b (id:Nat) (ty:TypeId) (p:AV) (o:SI) (acc:List UInt8):List Rs:=[.bx id ty [p,.sl 1 o (ofBytes acc)],.gr 5 o (ofBytes acc)]
def BS (S:St) (id:Nat) (ty:TypeId) (acc:List UInt8):Prop:=(ty=63∨ty=65)∧∃p o,(p=.nilp∨p=.ptr id 0)∧Hs S (R_b id ty p o acc)
section
variable {gt:GT} {C:CallT}
set_option maxHeartbeats 2000000 in
theorem bString_wp {S:St} {id:Nat} {ty:TypeId} {acc:List UInt8} (h:BS S id ty acc) (h0:acc≠[]) (hl:acc.length≤17592186044416):wpF gt C F35 [.ptr id 0] S fun r S'=>r=.ret (.str acc):=by
 obtain⟨hty,p,o,hp,h⟩:=h
 have l1:=ofBytes_len acc
 obtain⟨a,r,rfl⟩:=List.exists_cons_of_ne_nil h0
 have hg:=h.ok 1 _ rfl
 have hbs:=bytes_of (a::r)
 rcases hg with⟨_,_,_,e⟩ | ⟨t,l,rfl,g1,g2,g3,g4,g5⟩
 ·cases e
 refine⟨rfl,?_⟩
 refine goW ?_
 refine step_ruleDO rfl rfl (sx_ldB1 h 0 rfl rfl rfl) (goW ?_)
 refine step_ruleDO rfl rfl (sx_ldB1 h 0 rfl rfl rfl) (goW ?_)
 refine step_ruleDO rfl rfl (sx_ustr rfl rfl rfl hbs (by rw [l1];exact hl) (RsOK.rd (.inr ⟨t,l,rfl,g1,g2,g3,g4,g5⟩)) g3) (goW ?_)
 exact⟨_,rfl,rfl⟩
end

section
variable {gt:GT} {C:CallT}
abbrev E_tr4 (n:PN) (k:Int) (keys:List (List UInt8)) (o1 o2:SI) (ts:List PT) (i:Int):Env :=
 [(1,.box (encN n).cells),(2,.box zT),(3,.box [.int .i64 k,.str [],.sl 1 o1 (strs keys),.sl 4 o2 (encTs ts)]),(4,.val (.int .i64 i))]
set_option maxHeartbeats 8000000 in
theorem tree4_wp (hm:MonoC C) (hlf:∀k:Int,PF C 48 [.int .i64 k] (.bool (leafK k))) (hcp:∀t:PT,t.ok→PF C 44 [encT t] (encT t))
  {n:PN} (ih:∀u,u.n<n.n→u.ok→PF C 22 [encN u] (encT (treeN u))) (hk:n.ok):wpF gt C F22 [encN n] St.init (Ret (encT (treeN n))):=by
 obtain⟨k,a,b,c,leaf,h,kids,seps,t,e,f⟩:=n
 have hlf:=hlf k
 simp only [PN.ok] at hk
 obtain⟨hk1,hk2,hk3,hk4⟩:=hk
 have hcp:=hcp leaf hk1
 have sl:=sta_T leaf
 rw [encT_eq] at hcp sl
 have l1:=encNs_len kids
 rw [treeN]
 refine⟨rfl,?_⟩
 refine goW ?_
 refine call_pf hm (by rfl) hlf ?_
 cases lk:leafK k with
 | true =>
  rw [if_pos rfl,encT_eq]
  refine goW ?_
  refine call_pf hm (by rfl) hcp (goW ?_)
  exact⟨_,rfl,Ret.sta sl⟩
 | false =>
 rw [if_neg (by simp)]
 have hR:=(Hs.init.addNil 9 true).addNil 25 true
 refine goW ?_
 refine loop_rule hm (α:=Nat) (fun i env S'=>i≤kids.length∧∃o1 o2,Hs S' [.gr 9 o1 (strs (keysN k (kids.take i))),.gr 25 o2 (encTs ((treesN kids).take i))]∧env=E_tr4 (.mk k a b c leaf h kids seps t e f) k (keysN k (kids.take i)) o1 o2 ((treesN kids).take i) i) (fun i=>kids.length-i) ?_ (a:=0) ⟨Nat.zero_le _,_,_,(by
  have e0:keysN k (kids.take 0)=[]:=by unfold keysN;split<;>rfl
  rw [e0];exact hR),(by
  have e0:keysN k (kids.take 0)=[]:=by unfold keysN;split<;>rfl
  rw [e0];rfl)⟩
 clear hR
 rintro i env S' ⟨hi,o1,o2,hR,rfl⟩
 have hsl:(treesN kids).length=kids.length:=by rw [treesN_map,List.length_map]
 refine goW ?_
 by_cases hc:(i:Int)<(encNs kids).length
 case neg =>
  rw [dF hc]
  refine goW ?_
  rw [List.take_of_length_le (show kids.length≤i by omega),List.take_of_length_le (show (treesN kids).length≤i by omega)] at hR ⊢
  exact⟨_,rfl,_,rfl,rdo_T hR (i:=0) (j:=1) rfl rfl⟩
 rw [dT hc]
 have hik:i<kids.length:=by omega
 have his:i<(treesN kids).length:=by omega
 have hge:(treesN kids)[i]=treeN kids[i]:=by simp only [treesN_map,List.getElem_map]
 have ihk:=ih _ (kidN_lt hik) (PN.oks_get hik hk4)
 have hok:=encT_ok (treeN kids[i])
 have hts:encTs ((treesN kids).take (i+1))=encTs ((treesN kids).take i)++[encT (treeN kids[i])]:=by rw [tS his,encTs_app,hge];rfl
 have hlt:(encTs ((treesN kids).take i)).length=i:=by rw [encTs_len,lT];omega
 have hkn:=keysN_len k (kids.take i)
 rw [lT] at hkn
 have hky:keysN k (kids.take (i+1))=if k=7 then keysN k (kids.take i)++[kids[i].key] else keysN k (kids.take i):=by
  unfold keysN
  split
  ·rw [tS hik,List.map_append];rfl
  ·rfl
 have hg:=encNs_get hik
 have hrd:=rdN kids[i]
 obtain⟨_,_,_,_,_,_,_,_,_,_,_,he⟩:=encN_parts kids[i]
 obtain⟨kb,sb,xb,yb,he2⟩:=encT_agg (treeN kids[i])
 rw [he] at ihk hg hrd
 rw [he2] at ihk hts hok
 generalize kids[i].key=key at ihk hg hrd hky
 generalize kids[i].k=kk at ihk hg hrd
 generalize encNs kids[i].kids=kl at ihk hg hrd
 generalize keysN k (kids.take i)=ks at hR hky hkn
 have l3:=strs_length ks
 generalize (treesN kids).take i=ts at hR hts hlt
 have nxt:∀{S3:St} {o3 o4:SI} {ks':List (List UInt8)},keysN k (kids.take (i+1))=ks'→Hs S3 [.gr 9 o3 (strs ks'),.gr 25 o4 (encTs ts++[.agg [.int .i64 kb,.str sb,.sl 1 stat xb,.sl 4 stat yb]])]→∃a':Nat,(a'≤kids.length∧∃o1 o2,Hs S3 [.gr 9 o1 (strs (keysN k (kids.take a'))),.gr 25 o2 (encTs ((treesN kids).take a'))] ∧
   [(1,.box (encN (.mk k a b c leaf h kids seps t e f)).cells),(2,.box zT),(3,.box [.int .i64 k,.str [],.sl 1 o3 (strs ks'),.sl 4 o4 (encTs ts++[.agg [.int .i64 kb,.str sb,.sl 1 stat xb,.sl 4 stat yb]])]),(4,.val (.int .i64 ((i+1:Nat):Int)))]=E_tr4 (.mk k a b c leaf h kids seps t e f) k (keysN k (kids.take a')) o1 o2 ((treesN kids).take a') a')∧kids.length-a'<kids.length-i:=fun e1 h1=>by
  subst e1
  rw [←hts] at h1 ⊢
  exact⟨i+1,⟨by omega,_,_,h1,rfl⟩,by omega⟩
 refine goW ?_
 by_cases k7:k=7
 ·rw [eqI_true k7]
  rw [if_pos k7] at hky
  refine goW ?_
  refine step_ruleDO rfl rfl (sx_ia (k:=i) rfl rfl (by omega)) (goW ?_)
  refine step_ruleDO rfl rfl (sx_ldEl (agg:=true) rfl rfl hg rfl) (goW ?_)
  refine r_appD hR 0 rfl (by trivial) rfl rfl rfl (by rw [l3];simp;omega) (by rw [l3];simp;omega) (by decide) (by decide) rfl ?_
  intro o3 S3 hR
  rw [show strs ks++(List.replicate 1 (AV.str [])).set 0 (.str key)=strs (ks++[key]) by simp [strs]] at hR ⊢
  refine goW ?_
  refine step_ruleDO rfl rfl (sx_ia (k:=i) rfl rfl (by omega)) (goW ?_)
  refine step_ruleDO rfl rfl (sx_ldEl (agg:=true) rfl rfl hg hrd) (goW ?_)
  refine call_pfD hm (by rfl) ihk (goW ?_)
  refine r_appD hR 1 rfl (by trivial) rfl rfl rfl (by rw [hlt];simp;omega) (by rw [hlt];simp;omega) (by decide) (by decide) hok ?_
  intro o4 S4 hR
  refine goW ?_
  rw [wrNat (by omega)]
  exact nxt hky hR
 ·rw [eqI_false k7]
  rw [if_neg k7] at hky
  refine goW ?_
  refine step_ruleDO rfl rfl (sx_ia (k:=i) rfl rfl (by omega)) (goW ?_)
  refine step_ruleDO rfl rfl (sx_ldEl (agg:=true) rfl rfl hg hrd) (goW ?_)
  refine call_pfD hm (by rfl) ihk (goW ?_)
  refine r_appD hR 1 rfl (by trivial) rfl rfl rfl (by rw [hlt];simp;omega) (by rw [hlt];simp;omega) (by decide) (by decide) hok ?_
  intro o4 S4 hR
  refine goW ?_
  rw [wrNat (by omega)]
  exact nxt hky hR
end
abbrev nilB:SI:=⟨none,0,some 0,true⟩
def BN (acc:List UInt8) (S:St):Prop:=BS S 0 63 acc∧(acc=[]→∃p,(p=.nilp∨p=.ptr 0 0)∧Hs S (R_b 0 63 p nilB []))
section
variable {gt:GT} {C:CallT}
set_option maxHeartbeats 2000000 in
theorem copyCheckO_wp (hm:MonoC C) {S:St} {p:AV} {o:SI} {acc:List UInt8} (hp:p=.nilp∨p=.ptr 0 0) (h:Hs S (R_b 0 63 p o acc)):wpF gt C F62 [.ptr 0 0] S fun r S'=>r=.ret (.tup [])∧Hs S' (R_b 0 63 (.ptr 0 0) o acc):=by
 refine⟨rfl,?_⟩
 rcases hp with rfl | rfl
 ·refine goW ?_
  refine step_ruleO (sx_ldB0 h 0 rfl rfl rfl) (goW ?_)
  refine step_ruleO (sx_cvU h 0 rfl rfl) (goW ?_)
  refine step_ruleO (sx_cvP h 0 rfl rfl (by rfl)) (goW ?_)
  refine st_runP (st_B0 h 0 rfl rfl rfl rfl rfl) (by trivial) ?_
  intro S2 h2
  refine goW ?_
  exact⟨_,rfl,rfl,h2⟩
 ·refine goW ?_
  refine step_ruleO (sx_ldB0 h 0 rfl rfl rfl) (goW ?_)
  refine step_ruleO (sx_ldB0 h 0 rfl rfl rfl) (goW ?_)
  exact⟨_,rfl,rfl,h⟩
set_option maxHeartbeats 2000000 in
theorem writeStringN_wp (hm:MonoC C) (hc:∀(S:St) (p:AV) (o:SI) (acc:List UInt8),(p=.nilp∨p=.ptr 0 0)→Hs S (R_b 0 63 p o acc)→C 62 [.ptr 0 0] S fun r S'=>r=.ret (.tup [])∧Hs S' (R_b 0 63 (.ptr 0 0) o acc))
  {S:St} {acc s:List UInt8} (h:BN acc S) (hl:acc.length+s.length<1099511627776) :
  wpF gt C F38 [.ptr 0 0,.str s] S fun r S'=>r=.ret (.tup [.int .i64 s.length,.nilif])∧BN (acc++s) S':=by
 have l1:=ofBytes_len acc
 have l2:=ofBytes_len s
 by_cases z:acc=[]∧s=[]
 ·obtain⟨rfl,rfl⟩:=z
  obtain⟨p,hp,h⟩:=h.2 rfl
  have hc:=hc S p nilB [] hp h
  refine⟨rfl,?_⟩
  refine goW ?_
  refine call_rule (by rfl) (hm _ _ _ _ _ hc ?_)
  rintro r S2 ⟨rfl,h⟩
  refine goW ?_
  refine step_ruleO (sx_ldB1 h 0 rfl rfl rfl) (goW ?_)
  refine st_runP (st_B1 h 0 rfl rfl rfl rfl rfl) (by trivial) ?_
  intro S4 h
  refine goW ?_
  exact⟨_,rfl,rfl,⟨.inl rfl,_,_,.inr rfl,h⟩,fun _=>⟨_,.inr rfl,h⟩⟩
 ·obtain⟨hty,p,o,hp,h⟩:=h.1
  have hc:=hc S p o acc hp h
  refine⟨rfl,?_⟩
  refine goW ?_
  refine call_rule (by rfl) (hm _ _ _ _ _ hc ?_)
  rintro r S2 ⟨rfl,h⟩
  refine goW ?_
  refine step_ruleO (sx_ldB1 h 0 rfl rfl rfl) (goW ?_)
  refine r_app h 1 rfl (by trivial) rfl rfl rfl (by rw [l1,l2];omega) (by rw [l1,l2];omega) (by decide) (by decide) (ofBytes_ok s) ?_
  intro o3 S3 h
  refine goW ?_
  refine st_runP (st_B1 h 0 rfl rfl rfl rfl rfl) (by trivial) ?_
  intro S4 h
  refine goW ?_
  refine⟨_,rfl,rfl,⟨hty,.ptr 0 0,o3,.inr rfl,?_⟩,fun e=>absurd (List.append_eq_nil_iff.1 e) z⟩
  rw [show R_b 0 63 (.ptr 0 0) o3 (acc++s)=[.bx 0 63 [.ptr 0 0,.sl 1 o3 (ofBytes acc++ofBytes s)],.gr 5 o3 (ofBytes acc++ofBytes s)] by unfold R_b;rw [ofBytes_app]]
  exact h
set_option maxHeartbeats 2000000 in
theorem bStringN_wp {S:St} {acc:List UInt8} (h:BN acc S) (hl:acc.length≤17592186044416) (hne:acc≠[]→wpF gt C F35 [.ptr 0 0] S fun r S'=>r=.ret (.str acc)):wpF gt C F35 [.ptr 0 0] S fun r S'=>r=.ret (.str acc):=by
 by_cases z:acc=[]
 ·subst z
  obtain⟨p,hp,h⟩:=h.2 rfl
  refine⟨rfl,?_⟩
  refine goW ?_
  refine step_ruleDO rfl rfl (sx_ldB1 h 0 rfl rfl rfl) (goW ?_)
  refine step_ruleDO rfl rfl (sx_ldB1 h 0 rfl rfl rfl) (goW ?_)
  exact⟨_,rfl,rfl⟩
 ·exact hne z
set_option maxHeartbeats 2000000 in
theorem flatTell_wp (hm:MonoC C) {S:St} {acc s:List UInt8} (hw:C 38 [.ptr 0 0,.str s] S fun r S'=>r=.ret (.tup [.int .i64 s.length,.nilif])∧BN (acc++s) S') :
  wpF gt C F37 [.str s,.ptr 0 0] S fun r S'=>r=.ret (.tup [])∧BN (acc++s) S':=by
 refine⟨rfl,?_⟩
 refine goW ?_
 refine call_rule (by rfl) (hm _ _ _ _ _ hw ?_)
 rintro r S2 ⟨rfl,h⟩
 refine goW ?_
 exact⟨_,rfl,rfl,h⟩
set_option maxHeartbeats 2000000 in
theorem flattenP_wp (hm:MonoC C) {n:PN} {L:Nat} (hL:(flatB n).length≤L) (hp:∀S,BN [] S→C 36 [encN n,.fn 37 [] [.ptr 0 0]] S fun r S'=>r=.ret (.tup [])∧BN (flatB n) S')
  (hs:∀S,BN (flatB n) S→C 35 [.ptr 0 0] S fun r S'=>r=.ret (.str (flatB n))):wpF gt C F11 [encN n] St.init (Ret (.str (flatB n))):=by
 have hb:Hs { St.init with nb:=St.init.nb+1,boxes:=(St.init.nb,some (63,[.nilp,.sl 1 ⟨none,0,some 0,true⟩ []]))::St.init.boxes } (R_b 0 63 .nilp nilB []):=(Hs.init.newBox 63 [.nilp,.sl 1 ⟨none,0,some 0,true⟩ []]).addNil 5 true
 have hp:=hp _ ⟨⟨.inl rfl,.nilp,nilB,.inl rfl,hb⟩,fun _=>⟨.nilp,.inl rfl,hb⟩⟩
 obtain⟨_,_,_,_,_,_,_,_,_,_,_,_,_,_,he⟩:=encN_agg n
 rw [he] at hp ⊢
 refine⟨rfl,?_⟩
 refine goW ?_
 refine call_rule (by rfl) (hm _ _ _ _ _ hp ?_)
 rintro r S2 ⟨rfl,h⟩
 refine goW ?_
 refine call_rule (by rfl) (hm _ _ _ _ _ (hs _ h) ?_)
 rintro r S3 rfl
 refine goW ?_
 exact⟨_,rfl,Ret.sta trivial⟩
end

mutual
theorem sizeN_ge:∀(t:PN) (m:Int),min m (t.n:Int)≤sizeN t m
 |.mk _ _ _ _ leaf _ kids seps _ _ _,m=>by
  have g1:=size3_pos leaf m
  have:=sizeNs_ge kids m (1+size3 leaf m+seps.length)
  simp only [sizeN,PN.n]
  omega
theorem sizeNs_ge:∀(l:List PN) (m n:Int),min m (n+PN.ns l)≤sizeNs l m n
 | [],m,n=>by simp only [sizeNs,PN.ns];omega
 | t::r,m,n=>by
  simp only [sizeNs,PN.ns]
  split
  ·have g:=sizeN_ge t (m-n)
   have k:=sizeNs_ge r m (n+sizeN t (m-n))
   omega
  ·omega
end
section
variable {gt:GT} {C:CallT}
set_option maxHeartbeats 8000000 in
theorem cstTells_wp (hm:MonoC C) (hruns:PF C 3 [] (.bool true)) {n:PN} (hsize:PF C 16 [encN n,.int .i64 6000] (.int .i64 (sizeN n 6000))) (hcp4:PF C 17 [encN n] (encN n))
  (hr4:PF C 18 [encN n] (.bool (rightN n))) (ht:PF C 9 [encN n] (.tup [encT (if rightN n=true then treeN n else zPT),.int .i64 (if rightN n=true then 0 else 1)]))
  (hfl:PF C 11 [encN n] (.str (flatB n))) (hfl4:PF C 19 [encN n] (.str (flatB n))) (hln:PF C 12 [encN n] (.int .i64 (flatB n).length))
  (hc:PF C 13 [encN n] (.int .i64 n.n)) (hc4:PF C 20 [encN n,.int .i64 9000] (.int .i64 (cntN n 9000))) (hr:PF C 14 [encN n] (.bool (rightN n)))
  (ht4:PF C 22 [encN n] (encT (treeN n))) (hpl:PF C 21 [encT (treeN n),encT (treeN n)] (.bool true)) (hcp:PF C 24 [encN n] (encN n)) (hsm:PF C 23 [encN n,encN n] (.bool true)) :
  wpF gt C F4 [encN n] St.init (Ret (.bool true)):=by
 have cn:¬sizeN n 6000 ≥ 6000→cntN n 9000=n.n:=fun h=>by
  have:=sizeN_ge n 6000
  exact cntN_eq (by omega)
 generalize sizeN n 6000=sz at hsize cn
 generalize cntN n 9000=ct at hc4 cn
 generalize n.n=nn at hc cn
 generalize flatB n=fb at hfl hfl4 hln
 obtain⟨kt,st,xt,yt,gt'⟩:=encT_agg (treeN n)
 have ht1:rightN n=true→PF C 9 [encN n] (.tup [encT (treeN n),.int .i64 0]):=fun h=>by rw [h] at ht;exact ht
 have ht2:rightN n=false→PF C 9 [encN n] (.tup [encT zPT,.int .i64 1]):=fun h=>by rw [h] at ht;exact ht
 clear ht
 rw [gt'] at ht1 ht4 hpl
 generalize rightN n=rn at hr4 hr ht1 ht2
 obtain⟨_,_,_,_,_,_,_,_,_,_,_,_,_,_,he⟩:=encN_agg n
 rw [he] at hsize hcp4 hr4 ht1 ht2 hfl hfl4 hln hc hc4 hr ht4 hcp hsm ⊢
 refine⟨rfl,?_⟩
 refine goW ?_
 refine call_pf hm (by rfl) hsize (goW ?_)
 by_cases z:sz ≥ 6000
 ·rw [dT z]
  refine goW ?_
  refine call_pf hm (by rfl) hruns (goW ?_)
  exact⟨_,rfl,Ret.sta trivial⟩
 rw [dF z]
 obtain rfl:=cn z
 refine goW ?_
 refine call_pf hm (by rfl) hcp4 (goW ?_)
 refine call_pf hm (by rfl) hr4 (goW ?_)
 cases rn with
 | false =>
  refine call_pf hm (by rfl) (ht2 rfl) (goW ?_)
  refine call_pfD hm (by rfl) hfl (goW ?_)
  refine call_pfD hm (by rfl) hfl4 (goW ?_)
  rw [beqB_true (rfl:fb=fb)]
  refine goW ?_
  refine call_pfD hm (by rfl) hln (goW ?_)
  refine call_pfD hm (by rfl) hfl4 (goW ?_)
  rw [neI_false (rfl:(fb.length:Int)=fb.length)]
  refine goW ?_
  refine call_pfD hm (by rfl) hc (goW ?_)
  refine call_pfD hm (by rfl) hc4 (goW ?_)
  rw [neI_false (rfl:(nn:Int)=nn)]
  refine goW ?_
  refine call_pfD hm (by rfl) hr (goW ?_)
  refine call_pfD hm (by rfl) hcp (goW ?_)
  refine call_pfD hm (by rfl) hsm (goW ?_)
  refine call_pfD hm (by rfl) hsm (goW ?_)
  refine call_pfD hm (by rfl) hruns (goW ?_)
  exact⟨_,rfl,Ret.sta trivial⟩
 | true =>
  refine call_pf hm (by rfl) (ht1 rfl) (goW ?_)
  refine call_pfD hm (by rfl) hfl (goW ?_)
  refine call_pfD hm (by rfl) hfl4 (goW ?_)
  rw [beqB_true (rfl:fb=fb)]
  refine goW ?_
  refine call_pfD hm (by rfl) hln (goW ?_)
  refine call_pfD hm (by rfl) hfl4 (goW ?_)
  rw [neI_false (rfl:(fb.length:Int)=fb.length)]
  refine goW ?_
  refine call_pfD hm (by rfl) hc (goW ?_)
  refine call_pfD hm (by rfl) hc4 (goW ?_)
  rw [neI_false (rfl:(nn:Int)=nn)]
  refine goW ?_
  refine call_pfD hm (by rfl) hr (goW ?_)
  refine call_pfD hm (by rfl) ht4 (goW ?_)
  refine call_pfD hm (by rfl) hpl (goW ?_)
  refine call_pfD hm (by rfl) hcp (goW ?_)
  refine call_pfD hm (by rfl) hsm (goW ?_)
  refine call_pfD hm (by rfl) hsm (goW ?_)
  refine call_pfD hm (by rfl) hruns (goW ?_)
  exact⟨_,rfl,Ret.sta trivial⟩
end
end Go.Dn

namespace Go.Proofs.YthjebaophnkpbaaGreatDoor.Fn
open Go.ChangeShapes Go.WideShapes Go.ChangeAt Go.RowKit Go.Dn
theorem indN {Q:PN→Prop} (h:∀t,(∀u,u.n<t.n→Q u)→Q t) (t:PN):Q t:=(measure PN.n).wf.induction t h
theorem sizeN:∀(t:PN) (m:Int),t.ok→m<2305843009213693952→PF A 16 [encN t,.int .i64 m] (.int .i64 (Dn.sizeN t m)) :=
 indN fun t ih m h k=>pf Tryz.func16 (by kernel_rfl) C1.F16_ok (s2 (sta_N t) trivial) (sizeN_wp hm size3 ih h k)
theorem copyN:∀t:PN,t.ok→PF A 24 [encN t] (encN t) :=
 indN fun t ih h=>pf Tryz.func24 (by kernel_rfl) C1.F24_ok (s1 (sta_N t)) (copyN_wp hm copyT ih h)
theorem copy4:∀t:PN,t.ok→PF A 17 [encN t] (encN t) :=
 indN fun t ih h=>pf Tryz.func17 (by kernel_rfl) C1.F17_ok (s1 (sta_N t)) (copyN3_wp hm copy3 ih h)
theorem same4:∀t u:PN,t.ok→PF A 23 [encN t,encN u] (.bool (eqN t u)) :=
 indN fun t ih u h=>pf Tryz.func23 (by kernel_rfl) C1.F23_ok (s2 (sta_N t) (sta_N u)) (sameN_wp hm plain ih h)
theorem scalar (k:Int):PF A 72 [.int .i64 k] (.bool (leafK k)) :=
 pf Tryz.func72 (by kernel_rfl) C1.F72_ok (s1 trivial) scalar_wp
theorem leafR (k:Int):PF A 48 [.int .i64 k] (.bool (leafK k)) :=
 pf Tryz.func48 (by kernel_rfl) C1.F48_ok (s1 trivial) leafR_wp
theorem leaf (n:PN):PF A 58 [encN n] (.bool (leafK n.k)) :=
 pf Tryz.func58 (by kernel_rfl) C1.F58_ok (s1 (sta_N n)) (leaf_wp hm scalar)
theorem tells:Tells A 39 [.ptr 0 0] 4611686018427387904 LenAt:=fun s acc S h k =>
 AC_intro Tryz.checked.mixed Tryz.func39 (by kernel_rfl) C1.F39_ok (lenTell_wp h k)
theorem pieces:∀n:PN,n.ok→∀acc S,acc.length+(flatB n).length≤4611686018427387904→LenAt acc S→A 36 [encN n,.fn 39 [] [.ptr 0 0]] S fun r S'=>r=.ret (.tup [])∧LenAt (acc++flatB n) S' :=
 indN fun n ih h acc S hL hΦ=>AC_intro Tryz.checked.mixed Tryz.func36 (by kernel_rfl) C1.F36_ok
  (pieces_wp hm tells leaf ih hL h hΦ)
theorem len (n:PN) (h:n.ok) (hL:(flatB n).length≤4611686018427387904):PF A 12 [encN n] (.int .i64 (flatB n).length) :=
 pf Tryz.func12 (by kernel_rfl) C1.F12_ok (s1 (sta_N n)) (len_wp hm (fun n h _=>pieces n h) h hL)
theorem flat:∀n:PN,n.ok→Flats A 47 n :=
 indN fun n ih h S R i o xs hR hi hL=>AC_intro Tryz.checked.mixed Tryz.func47 (by kernel_rfl) C1.F47_ok (flat_wp hm leafR ih h hR hi hL)
theorem flatten4 (n:PN) (h:n.ok) (hL:(flatB n).length≤140737488355328):PF A 19 [encN n] (.str (flatB n)) :=
 pf Tryz.func19 (by kernel_rfl) C1.F19_ok (s1 (sta_N n)) (flatten_wp hm (fun n h _=>flat n h) h hL)
theorem copyCheck (S:St) (p:AV) (o:SI) (acc:List UInt8) (hp:p=.nilp∨p=.ptr 0 0) (h:Hs S (R_b 0 63 p o acc)):A 62 [.ptr 0 0] S fun r S'=>r=.ret (.tup [])∧Hs S' (R_b 0 63 (.ptr 0 0) o acc) :=
 AC_intro Tryz.checked.mixed Tryz.func62 (by kernel_rfl) C1.F62_ok (copyCheckO_wp hm hp h)
theorem wrString {S:St} {acc s:List UInt8} (h:BN acc S) (hl:acc.length+s.length<1099511627776):A 38 [.ptr 0 0,.str s] S fun r S'=>r=.ret (.tup [.int .i64 s.length,.nilif])∧BN (acc++s) S' :=
 AC_intro Tryz.checked.mixed Tryz.func38 (by kernel_rfl) C1.F38_ok (writeStringN_wp hm copyCheck h hl)
theorem tellsF:Tells A 37 [.ptr 0 0] 1099511627775 BN:=fun s acc S h k =>
 AC_intro Tryz.checked.mixed Tryz.func37 (by kernel_rfl) C1.F37_ok (flatTell_wp hm (wrString k (by omega)))
theorem piecesF:∀n:PN,n.ok→∀acc S,acc.length+(flatB n).length≤1099511627775→BN acc S→A 36 [encN n,.fn 37 [] [.ptr 0 0]] S fun r S'=>r=.ret (.tup [])∧BN (acc++flatB n) S' :=
 indN fun n ih h acc S hL hΦ=>AC_intro Tryz.checked.mixed Tryz.func36 (by kernel_rfl) C1.F36_ok
  (pieces_wp hm tellsF leaf ih hL h hΦ)
theorem bString (S:St) (acc:List UInt8) (hl:acc.length≤17592186044416) (h:BN acc S):A 35 [.ptr 0 0] S fun r S'=>r=.ret (.str acc) :=
 AC_intro Tryz.checked.mixed Tryz.func35 (by kernel_rfl) C1.F35_ok (bStringN_wp h hl fun h0=>bString_wp h.1 h0 hl)
theorem flattenP (n:PN) (h:n.ok) (hL:(flatB n).length≤140737488355):PF A 11 [encN n] (.str (flatB n)) :=
 pf Tryz.func11 (by kernel_rfl) C1.F11_ok (s1 (sta_N n)) (flattenP_wp hm hL (fun S hb=>by have:=piecesF n h [] S (by simp only [List.length_nil];omega) hb;simpa only [List.nil_append] using this) (fun S hb=>bString S _ (by omega) hb))
theorem countN:∀t:PN,t.n<4611686018427387904→PF A 13 [encN t] (.int .i64 t.n) :=
 indN fun t ih h=>pf Tryz.func13 (by kernel_rfl) C1.F13_ok (s1 (sta_N t)) (countN_wp hm (fun u hu=>ih u hu (by omega)) h)
theorem depthN:∀t:PN,t.n<4611686018427387904→PF A 40 [encN t] (.int .i64 t.dp) :=
 indN fun t ih h=>pf Tryz.func40 (by kernel_rfl) C1.F40_ok (s1 (sta_N t)) (depthN_wp hm (fun u hu=>ih u hu (by omega)) h)
theorem depth4:∀t:PN,t.n<4611686018427387904→PF A 45 [encN t] (.int .i64 t.dp) :=
 indN fun t ih h=>pf Tryz.func45 (by kernel_rfl) C1.F45_ok (s1 (sta_N t)) (depth4_wp hm (fun u hu=>ih u hu (by omega)) h)
theorem count4:∀(t:PN),t.n<4611686018427387904→∀(m:Int),m<4611686018427387904→PF A 20 [encN t,.int .i64 m] (.int .i64 (cntN t m)) :=
 indN fun t ih h m k=>pf Tryz.func20 (by kernel_rfl) C1.F20_ok (s2 (sta_N t) trivial) (count4_wp hm (fun u hu m k=>ih u hu (by omega) m k) k h)
theorem zero_formed:formedB zPT=false:=by decide
theorem same_zero (t:PT):sameB t zPT=eqT t zPT:=by
 unfold sameB;rw [zero_formed,Bool.and_false];rfl
theorem sameZ (t:PT) (h1:t.sok) (h2:t.ok) (h3:t.n<1099511627776):PF A 30 [encT t,.agg zT] (.bool (eqT t zPT)) :=
 PF.zero (by rw [←same_zero];exact same t zPT h1 h2 h3 (by simp [zPT,PT.sok,PT.soks]) (by simp [zPT,PT.ok,PT.oks]) (by decide))
theorem plainZ (t:PT) (h2:t.ok):PF A 21 [encT t,.agg zT] (.bool (eqT t zPT)):=PF.zero (plain t zPT h2)
theorem formNode:∀t:PN,t.sok→PF A 41 [encN t] (.bool (formN t)) :=
 indN fun t ih h=>pf Tryz.func41 (by kernel_rfl) C1.F41_ok (s1 (sta_N t)) (by
  by_cases h7:t.k=7
  ·obtain⟨k,a,b,c,leaf',h',kids,seps,t,e,f⟩:=t
   simp only [PN.k] at h7
   subst h7
   exact formN7_wp hm leaf sameZ validU ih h
  by_cases h6:t.k=6
  ·obtain⟨k,a,b,c,leaf',h',kids,seps,t,e,f⟩:=t
   simp only [PN.k] at h6
   subst h6
   exact formN6_wp hm leaf sameZ validU ih h
  ·exact formNx_wp hm leaf (fun t h1 h2=>right t (by omega) h1) sameZ validU ih h ⟨h6,h7⟩)
theorem shapNode:∀t:PN,t.sok→PF A 46 [encN t] (.bool (formN t)) :=
 indN fun t ih h=>pf Tryz.func46 (by kernel_rfl) C1.F46_ok (s1 (sta_N t)) (by
  by_cases h7:t.k=7
  ·obtain⟨k,a,b,c,leaf',h',kids,seps,t,e,f⟩:=t
   simp only [PN.k] at h7
   subst h7
   exact shapN7_wp hm leafR plainZ validR ih h
  by_cases h6:t.k=6
  ·obtain⟨k,a,b,c,leaf',h',kids,seps,t,e,f⟩:=t
   simp only [PN.k] at h6
   subst h6
   exact shapN6_wp hm leafR plainZ validR ih h
  ·exact shapNx_wp hm leafR (fun t h1 h2=>right3 t (by omega) h1) h ⟨h6,h7⟩)
theorem rightNode (n:PN) (h:n.n<4611686018427387904) (hs:n.sok):PF A 14 [encN n] (.bool (rightN n)) :=
 pf Tryz.func14 (by kernel_rfl) C1.F14_ok (s1 (sta_N n)) (rightN_wp hm (depthN n h) (countN n h) (formNode n hs))
theorem right4 (n:PN) (h:n.n<4611686018427387904) (hs:n.sok):PF A 18 [encN n] (.bool (rightN n)) :=
 pf Tryz.func18 (by kernel_rfl) C1.F18_ok (s1 (sta_N n)) (right4_wp hm (depth4 n h) (count4 n h 4097 (by omega)) (shapNode n hs))
theorem made:∀t:PN,t.ok→PF A 32 [encN t] (encT (treeN t)) :=
 indN fun t ih h=>pf Tryz.func32 (by kernel_rfl) C1.F32_ok (s1 (sta_N t)) (made_wp hm leaf copyT ih h)
theorem treeP (n:PN) (h:n.n<4611686018427387904) (hs:n.sok) (hk:n.ok):PF A 9 [encN n] (.tup [encT (if rightN n=true then treeN n else zPT),.int .i64 (if rightN n=true then 0 else 1)]) :=
 pf Tryz.func9 (by kernel_rfl) C1.F9_ok (s1 (sta_N n)) (treeP_wp hm (rightNode n h hs) (made n hk))
theorem tree4:∀t:PN,t.ok→PF A 22 [encN t] (encT (treeN t)) :=
 indN fun t ih h=>pf Tryz.func22 (by kernel_rfl) C1.F22_ok (s1 (sta_N t)) (tree4_wp hm leafR copy3 ih h)
end Go.Proofs.YthjebaophnkpbaaGreatDoor.Fn

namespace Go.Proofs.YthjebaophnkpbaaGreatDoor
open Go.Dn
theorem bulk_keys:∀l:List (List UInt8),bulkAs (strs l)≤1048576→(∀s∈l,s.length≤1048576)∧l.length≤1048576
 | [],_=>⟨fun s h=>by simp at h,by simp⟩
 | a::r,h=>by
  have e:strs (a::r)=.str a::strs r:=rfl
  rw [e] at h
  simp only [bulkAs,bulkA] at h
  have ih:=bulk_keys r (by omega)
  have h0:=bulk_strs0 r
  refine⟨fun s hs=>?_,by simp only [lC];omega⟩
  rcases List.mem_cons.1 hs with rfl | hs
  ·omega
  ·exact ih.1 s hs
mutual
theorem bulk_sok:∀t:PT,bulkA (encT t)≤1048576→t.sok∧t.n≤bulkA (encT t)
 |.mk k s keys kids,h=>by
  simp only [encT,bulkA,bulkAs] at h ⊢
  have h1:=bulk_keys keys (by omega)
  have h2:=bulk_soks kids (by omega)
  have h3:=bulk_Ts kids (by omega)
  simp only [PT.sok,PT.n]
  exact⟨⟨by omega,fun s hs=>by have:=h1.1 s hs;omega,by omega,by omega,h2.1⟩,by omega⟩
theorem bulk_soks:∀l:List PT,bulkAs (encTs l)≤1048576→PT.soks l∧PT.ns l≤bulkAs (encTs l)
 | [],_=>⟨trivial,Nat.zero_le _⟩
 | t::r,h=>by
  simp only [encTs,bulkAs] at h
  have h1:=bulk_sok t (by omega)
  have h2:=bulk_soks r (by omega)
  simp only [PT.soks,encTs,bulkAs,PT.ns]
  exact⟨⟨h1.1,h2.1⟩,by omega⟩
end
mutual
theorem bulk_sokN:∀t:PN,bulkA (encN t)≤1048576→t.sok∧t.n≤bulkA (encN t)
 |.mk k a b c leaf h kids seps t e f,hb=>by
  have hl:bulkA (encT leaf)≤1048576:=by
   rw [encT_eq]
   simp only [encN,bulkA,bulkAs] at hb ⊢
   omega
  have h1:=bulk_sok leaf hl
  have h2:=bulk_T leaf hl
  simp only [encN,bulkA,bulkAs] at hb ⊢
  have h3:=bulk_strs seps
  have h4:=bulk_soksN kids (by omega)
  simp only [PN.sok,PN.n]
  exact⟨⟨h1.1,h2,by omega,by omega,by omega,by omega,h4.1⟩,by omega⟩
theorem bulk_soksN:∀l:List PN,bulkAs (encNs l)≤1048576→PN.soks l∧PN.ns l≤bulkAs (encNs l)∧l.length≤bulkAs (encNs l)
 | [],_=>⟨trivial,Nat.zero_le _,Nat.zero_le _⟩
 | t::r,h=>by
  simp only [encNs,bulkAs] at h
  have h1:=bulk_sokN t (by omega)
  have h2:=bulk_soksN r (by omega)
  have:1≤bulkA (encN t):=by cases t;simp only [encN,bulkA];omega
  simp only [PN.soks,encNs,bulkAs,PN.ns,lC]
  exact⟨⟨h1.1,h2.1⟩,by omega,by omega⟩
end
mutual
theorem treeN_ok:∀t:PN,t.ok→(treeN t).ok
 |.mk k a b c leaf h kids seps t e f,hk=>by
  simp only [PN.ok] at hk
  rw [treeN]
  split
  ·exact hk.1
  ·have h1:=treesN_ok kids hk.2.2.2
   have h2:(treesN kids).length=kids.length:=by rw [treesN_map,List.length_map]
   have h3:=keysN_len k kids
   unfold keysN at h3
   simp only [PT.ok]
   refine⟨?_,?_,h1⟩<;>omega
theorem treesN_ok:∀l:List PN,PN.oks l→PT.oks (treesN l)
 | [],_=>trivial
 | t::r,h=>by
  simp only [PN.oks] at h
  exact⟨treeN_ok t h.1,treesN_ok r h.2⟩
end
end Go.Proofs.YthjebaophnkpbaaGreatDoor

namespace Go.Proofs.YthjebaophnkpbaaGreatDoor
open Go.Dn Go.Proofs.YthjebaophnkpbaaGreatDoor.Fn
theorem CstTells.law {n:PN} (hb:bulkA (encN n)≤1048576):A 4 [encN n] St.init (Ret (.bool true)):=by
 obtain⟨hs,hn⟩:=bulk_sokN n hb
 obtain⟨hk,htb⟩:=bulk_N n hb
 have hf:=flatB_le n
 have hp:=Fn.plain (treeN n) (treeN n) (treeN_ok n hk)
 have hq:=Fn.same4 n n hk
 rw [eqT_true rfl] at hp
 rw [eqN_true rfl] at hq
 exact AC_intro Tryz.checked.mixed Tryz.func4 (by kernel_rfl) Go.Proofs.C1.F4_ok
  (cstTells_wp Fn.hm Fn.runs (Fn.sizeN n 6000 hk (by omega)) (Fn.copy4 n hk) (Fn.right4 n (by omega) hs) (Fn.treeP n (by omega) hs hk) (Fn.flattenP n hk (by omega)) (Fn.flatten4 n hk (by omega)) (Fn.len n hk (by omega))
   (Fn.countN n (by omega)) (Fn.count4 n (by omega) 9000 (by omega)) (Fn.rightNode n (by omega) hs) (Fn.tree4 n hk) hp (Fn.copyN n hk) hq)
end Go.Proofs.YthjebaophnkpbaaGreatDoor

namespace Go.Proofs.YthjebaophnkpbaaGreatDoor.CstTells
open Go.ChangeShapes Go.WideShapes Go.ChangeAt Go.RowKit Go.Dn Go.Proofs.YthjebaophnkpbaaGreatDoor.Fn
theorem laidOut:laidOutB Tryz.prog=true:=by kernel_rfl
theorem walk {W:World} (hI:Inv Tryz.prog gtT St.init (G0 W) W) {args:Array Value} {xs:List AV} {f:FuncId} (hac:A f xs St.init (Ret (.bool true))) (hx:Rl St.init (G0 W) W xs args.toList):Calls Tryz.prog f args W fun e W'=>e=.returned (.bool true)∧Below W.heap.size W W':=by
 refine Calls.mono (hac.2 (G0 W) W args.toList hI hx) fun e W' hp=>?_
 cases e with
 | returned v =>
  obtain⟨x,S',G',⟨y,hy,hr⟩,t,rv⟩:=hp
  cases hy
  simp only [Rdo] at hr
  subst hr
  refine⟨?_,below_of_ext t.ext⟩
  simp only [Rv] at rv
  rw [rv]
 | panicked chain =>
  obtain⟨x,S',G',u,hc,⟨y,hy,hr⟩,_⟩:=hp
  cases hy
 | outgrown=>exact hp.elim
theorem types:okTypes Tryz.prog [28,26,25,23,22,9,3,48,41]=true:=by kernel_rfl
theorem isUb {H:Type}:IsUb (Rows.uptoBulk (H:=H)) Rows.uptoBulkAll where
 lit l:=by cases l<;>simp [Rows.uptoBulk]
 str s:=by simp [Rows.uptoBulk]
 nil:=by simp [Rows.uptoBulk]
 slice a b:=by simp [Rows.uptoBulk]
 agg a:=by simp [Rows.uptoBulk]
 none:=by simp [Rows.uptoBulkAll]
 cons d r:=by simp [Rows.uptoBulkAll]
theorem wantsN:Tryz.pinned.checked.prog.wantsStandIn 28=false:=by kernel_rfl
set_option maxRecDepth 1000000 in
theorem entryN {H:Type} {enc:TypeId×Value→H} {W:World} {v:Value} {d:DataW H} {p:List MemPlace} {base:Nat} (hv:Value.okWide Tryz.prog W .any base 28 v) (h:DataW.Trod enc Tryz.prog W 0 (fun _=>true) true 28 v d p) :
  ∃n:PN,Rv St.init (G0 W) W (encN n) v∧bulkA (encN n)≤Rows.uptoBulk d:=by
 obtain⟨fuel,hf⟩:=h
 obtain⟨zs,hr,ht,hb⟩:=trod_avb isUb types fuel 28 _ _ (by decide) hf
 obtain⟨n,hn⟩:=av_node ht
 refine⟨n,?_,?_⟩
 ·rw [←hn]
  obtain⟨vs,rfl,_⟩:=okWide_struct Tryz.underlying28 hv
  simp only [Rv]
  exact⟨_,rfl,hr⟩
 ·rw [←hn]
  have:sb Tryz.prog 28=1:=by unfold sb;rw [Tryz.underlying28]
  rw [this] at hb
  simpa only [bulkA] using hb
abbrev zeroNode:Value:=.agg #[.int .i64 0,.string .empty,.string .empty,.string .empty,.int .i64 0,.string .empty,.slice none 0 0,.slice none 0 0,.string .empty,.slice none 0 0,.slice none 0 0,.string .empty,.string .empty,.int .i64 0]
abbrev zeroDataN (H:Type):DataW H:=.agg [.lit (.int .i64 0),.lit (.string []),.lit (.string []),.lit (.string []),.agg [.lit (.int .i64 0),.lit (.string []),.nil,.nil],.lit (.string []),.nil,.nil,.lit (.string []),.lit (.string []),.lit (.int .i64 0)]
abbrev zeros:Array Value:=#[zeroNode]
theorem reads (os:Os) {H:Type} (enc:TypeId×Value→H):∃places,DataW.whole enc Tryz.prog ((laidW os).forCall (fun _ _=>0) ⟨#[],zeros,[]⟩).memory Tryz.f4.params.toList Rows.cstTellsSpec.vars false zeros.toList 8=some ([zeroDataN H],[],places) :=
 ⟨[],by kernel_rfl⟩
set_option maxRecDepth 100000 in
theorem lifted (os:Os) (started:os.Started) (H:Type) (enc:TypeId×Value→H) (F:Stop.Interp) :
  ReturnsInHanded {} Tryz.checked os 4 .any ((Rows.OpenSpec.upto Rows.cstTellsSpec).preRow enc Tryz.prog Tryz.f4 Rows.cstTellsUptoRow.domain false Rows.cstTellsUptoRow.laid)
   (((Rows.OpenSpec.upto Rows.cstTellsSpec).at F).post enc Tryz.prog Tryz.f4 false true false false):=by
 obtain⟨places,hx⟩:=reads os enc
 refine returnsInHanded_of_row (C:=Tryz.checked) (s:=Rows.OpenSpec.upto Rows.cstTellsSpec) own started (by kernel_rfl) Tryz.func4
  (witness_row_atRef (enc:=enc) (C:=Tryz.checked) false (laidW os) zeros (laidW_os _) (by kernel_rfl) (by kernel_rfl) (by kernel_rfl)
   (OpenSpec.preRow_of_cond 8 hx (by kernel_rfl) (fun k hk=>by cases hk;kernel_rfl) (by kernel_rfl) (laidW_met os _))) ?_
 intro W base args ds gs before hval0 hW _ hcond _ hL _ _
 have hval:∀(j:Nat) t v,Tryz.f4.params[j]? = some t→args[j]? = some v→Value.okWide Tryz.prog W .any base t v:=hval0
 have hW':=hW
 obtain⟨p,q,hA0,hV,rfl,hfz,hnd⟩:=hW
 have hA:DataW.TrodAll enc Tryz.prog W 0 (fun _=>true) true Tryz.f4.params.toList args.toList ds p:=hA0
 rw [Tryz.params4] at hA hval
 obtain⟨v0,d0,rfl,rfl,h0⟩:=trodAll_one hA
 obtain⟨rfl,rfl⟩:=trodVars_none hV
 clear hA0 hval0
 simp only [List.append_nil] at hW'
 have hb:Rows.uptoBulkAll [d0]≤1048576:=by
  have:=hcond _ rfl
  rw [List.append_nil] at this
  exact of_decide_eq_true this
 simp only [Rows.uptoBulkAll] at hb
 obtain⟨x0,hv0,hb0⟩:=entryN (hval 0 28 v0 rfl rfl) h0
 refine (walk (inv_of_laid hL) (CstTells.law (by omega)) (Rl.cons hv0 Rl.nil)).mono fun e W' ⟨he,bel⟩=>?_
 subst he
 have hlt:∀x∈p,x.block<W.heap.size:=fun x hx=>hW'.lt x (by first | exact hx | simpa using hx)
 exact⟨_,rfl,_,_,_,[],_,[],hW',trodAll_mk1 (shut_bool Tryz.underlying4 _),
  trodAll_mk1 (Below.trod laidOut (by kernel_rfl) (of_decide_eq_true (by kernel_rfl)) h0 bel (fun x hx=>hlt x (by exact hx))),rfl,bel.frame _,fun h=>by cases h⟩
end Go.Proofs.YthjebaophnkpbaaGreatDoor.CstTells
