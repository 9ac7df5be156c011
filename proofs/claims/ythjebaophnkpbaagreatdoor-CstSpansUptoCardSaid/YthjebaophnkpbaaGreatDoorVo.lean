/- Sorting in place: two rows merged: turned round, and each half merged. Sorting in place: two rows merged: where they are cut, and the turn. The walk to the next region's end, as a lemma that a tactic of its own serves. Sorting in place: two rows merged; all of it. Sorting in place: all of it. Texts compared byte by byte: an order; the places of a list of keys, by them. The places of a record's keys, by the keys: tree.order. Trees with the keys of all records in order: tree.Sorted. Trees whose keys are in order: when they are the same. Trees that are the same: tree.identical, tree.Same. Sorting, and what hangs on it, as contracts. Nodes: how many, how deep: the program's and the reference's answers. Nodes that are right: the program's answer. Nodes that are right: the program's answer, of a record. Nodes that are right: the program's answer, of a list. Nodes that are right: the reference's answer. Nodes that are right: the reference's answer, of a record. Nodes that are right: the reference's answer, of a list. Nodes: whether they are right, and their trees: the program's and the reference's answers. strings.Builder, walked. Nodes: their trees by the reference; their bytes by the program. The law 'CstTells', walked. The functions of nodes, as contracts, each by its code. What is read is right where little is read: trees, nodes; and the trees of nodes. A node and a tree, found by a path that is the caller's own list. Where a path leads in a node that is right: its bytes, and its tree. Numbers handed in a list; emendbook.Within. The law 'CstSpans', walked. The entry of laws about trees and numbers. 'emendlaw4.CstSpans' as a contract. The row of 'emendlaw4.CstSpans': what is read, and that the call returns true. -/
import Derived.Test.YthjebaophnkpbaaGreatDoorTie
import Derived.Test.YthjebaophnkpbaaGreatDoorCards
import Derived.ProofKit
import Derived.LaidMore
import Derived.OpenShut
import Derived.Carry
import Derived.Stop.Joined
import Derived.Lay
import Derived.SevenTiedAt
import Derived.Deep.DeepHandedRow
import Derived.Deep.DeepWitnessRowRef
import Derived.Test.YthjebaophnkpbaaGreatDoorVn
set_option linter.unusedSimpArgs false
set_option linter.unusedVariables false
namespace Go.Dn
open Go Go.Proofs.C1
set_option maxRecDepth 100000
attribute [local irreducible] afterS keepE
section
variable {gt:GT} {C:CallT} {R:List Rs} {ty:TypeId} {t b:Nat}
set_option maxHeartbeats 8000000 in
theorem mrgLast_wp (hm:MonoC C) {f:FuncId} {cs:List AV} {n k:Nat} {cz:Nat→Nat→Int} (ih:MrgC C R ty t b n (.fn f [] cs) cz k) {S:St} {xs:List AV} {P B D Q:List Nat} {mid e c:Nat} {z:Env} {G:St→Prop}
  (h1:mid=P.length) (h2:e=P.length+B.length) (h3:c=P.length+B.length+D.length) (hk:B≠[]→D≠[]→B.length+D.length≤k) (hn:∀x∈B++D,x<n) (hB:Srt (leZ cz) B) (hD:Srt (leZ cz) D)
  (hx:xs.length=(P++(B++(D++Q))).length) (hl:(P++(B++(D++Q))).length<1152921504606846976) (hA:ArS S R ty t b (P++(B++(D++Q))))
  (fin:∀S' Z,Z.Perm (B++D)→Srt (leZ cz) Z→ArS S' R ty t b (P++(Z++Q))→G S') :
  wpD gt C F109.body.rt.rt.rt.rt.rt.rt.rt.rt.rt.rt.rt ((0,.val (slA t xs.length xs))::(3,.val (.int .i64 c))::(4,.val (.fn f [] cs))::(18,.val (.int .i64 mid))::(24,.val (.int .i64 e))::z) S (bodyQ gt F109.res fun r S'=>r=.ret (.tup [])∧G S'):=by
 have triv:(B=[]∨D=[])→G S:=fun h=>fin S (B++D) (List.Perm.refl _) (by rcases h with rfl | rfl;exact hD;rw [List.append_nil];exact hB) (by rw [aA];exact hA)
 conv=>whnf
 refine goW ?_
 by_cases c1:(mid:Int)<(e:Int)
 ·rw [dT c1]
  refine goW ?_
  by_cases c2:(e:Int)<(c:Int)
  ·rw [dT c2]
   have b1:B≠[]:=fun h=>by rw [h] at h2;simp at h2;omega
   have b2:D≠[]:=fun h=>by rw [h] at h3;simp at h3;omega
   refine goW ?_
   refine call_rule (by rfl) (hm _ _ _ _ _ (ih S xs P B D Q mid e c (hk b1 b2) h1 h2 h3 b1 b2 hn hB hD hx hl hA) ?_)
   rintro r S2 ⟨rfl,Z,z1,z2,z3⟩
   refine goW ?_
   exact⟨_,rfl,rfl,fin S2 Z z1 z2 z3⟩
  ·rw [dF c2]
   have:D=[]:=nL (by omega)
   refine goW ?_
   exact⟨_,rfl,rfl,triv (.inr this)⟩
 ·rw [dF c1]
  have:B=[]:=nL (by omega)
  refine goW ?_
  exact⟨_,rfl,rfl,triv (.inl this)⟩
set_option maxHeartbeats 8000000 in
theorem mrgLast2_wp (hm:MonoC C) {f:FuncId} {cs:List AV} {n k:Nat} {cz:Nat→Nat→Int} (ih:MrgC C R ty t b n (.fn f [] cs) cz k) {S:St} {xs:List AV} {P B D Q:List Nat} {mid e c:Nat} {o1 o2:Ent} {z:Env} {G:St→Prop}
  (h1:mid=P.length) (h2:e=P.length+B.length) (h3:c=P.length+B.length+D.length) (hk:B≠[]→D≠[]→B.length+D.length≤k) (hn:∀x∈B++D,x<n) (hB:Srt (leZ cz) B) (hD:Srt (leZ cz) D)
  (hx:xs.length=(P++(B++(D++Q))).length) (hl:(P++(B++(D++Q))).length<1152921504606846976) (hA:ArS S R ty t b (P++(B++(D++Q))))
  (fin:∀S' Z,Z.Perm (B++D)→Srt (leZ cz) Z→ArS S' R ty t b (P++(Z++Q))→G S') :
  wpD gt C F109.body.rt.rt.rt.rt.rt.rt.rt.rt.rt.rt.rt ((0,.val (slA t xs.length xs))::(1,o1)::(3,.val (.int .i64 c))::(4,.val (.fn f [] cs))::(18,.val (.int .i64 mid))::(20,o2)::(24,.val (.int .i64 e))::z) S (bodyQ gt F109.res fun r S'=>r=.ret (.tup [])∧G S'):=by
 have triv:(B=[]∨D=[])→G S:=fun h=>fin S (B++D) (List.Perm.refl _) (by rcases h with rfl | rfl;exact hD;rw [List.append_nil];exact hB) (by rw [aA];exact hA)
 conv=>whnf
 refine goW ?_
 by_cases c1:(mid:Int)<(e:Int)
 ·rw [dT c1]
  refine goW ?_
  by_cases c2:(e:Int)<(c:Int)
  ·rw [dT c2]
   have b1:B≠[]:=fun h=>by rw [h] at h2;simp at h2;omega
   have b2:D≠[]:=fun h=>by rw [h] at h3;simp at h3;omega
   refine goW ?_
   refine call_rule (by rfl) (hm _ _ _ _ _ (ih S xs P B D Q mid e c (hk b1 b2) h1 h2 h3 b1 b2 hn hB hD hx hl hA) ?_)
   rintro r S2 ⟨rfl,Z,z1,z2,z3⟩
   refine goW ?_
   exact⟨_,rfl,rfl,fin S2 Z z1 z2 z3⟩
  ·rw [dF c2]
   have:D=[]:=nL (by omega)
   refine goW ?_
   exact⟨_,rfl,rfl,triv (.inr this)⟩
 ·rw [dF c1]
  have:B=[]:=nL (by omega)
  refine goW ?_
  exact⟨_,rfl,rfl,triv (.inl this)⟩
set_option maxHeartbeats 8000000 in
theorem mrgFirst_wp (hm:MonoC C) {f:FuncId} {cs:List AV} {n k:Nat} {cz:Nat→Nat→Int} (ih:MrgC C R ty t b n (.fn f [] cs) cz k) {S:St} {xs:List AV} {P A V B D Q:List Nat} {a mid s e c:Nat} {z:Env} {G:St→Prop}
  (h0:a=P.length) (h1:mid=P.length+A.length+V.length) (h2:s=P.length+A.length) (h3:e=mid+B.length) (h4:c=e+D.length) (hk1:A≠[]→V≠[]→A.length+V.length≤k) (hk2:B≠[]→D≠[]→B.length+D.length≤k)
  (hn:∀x∈(A++V)++(B++D),x<n) (sA:Srt (leZ cz) A) (sV:Srt (leZ cz) V) (sB:Srt (leZ cz) B) (sD:Srt (leZ cz) D)
  (hx:xs.length=(P++(A++(V++(B++(D++Q))))).length) (hl:(P++(A++(V++(B++(D++Q))))).length<1152921504606846976) (hA:ArS S R ty t b (P++(A++(V++(B++(D++Q))))))
  (fin:∀S' Z1 Z2,Z1.Perm (A++V)→Srt (leZ cz) Z1→Z2.Perm (B++D)→Srt (leZ cz) Z2→ArS S' R ty t b (P++((Z1++Z2)++Q))→G S') :
  wpD gt C F109.body.rt.rt.rt.rt.rt.rt.rt.rt.rt.rt ((0,.val (slA t xs.length xs))::(1,.val (.int .i64 a))::(3,.val (.int .i64 c))::(4,.val (.fn f [] cs))::(18,.val (.int .i64 mid))::(20,.val (.int .i64 s))::(24,.val (.int .i64 e))::z) S (bodyQ gt F109.res fun r S'=>r=.ret (.tup [])∧G S'):=by
 have hlen:(P++(A++(V++(B++(D++Q))))).length=P.length+(A.length+(V.length+(B.length+(D.length+Q.length)))):=by simp only [lA]
 have next:∀(S:St) (Z1:List Nat) (z:Env),Z1.Perm (A++V)→Srt (leZ cz) Z1→ArS S R ty t b (P++(Z1++(B++(D++Q))))→wpD gt C F109.body.rt.rt.rt.rt.rt.rt.rt.rt.rt.rt.rt ((0,.val (slA t xs.length xs))::(3,.val (.int .i64 c))::(4,.val (.fn f [] cs))::(18,.val (.int .i64 mid))::(24,.val (.int .i64 e))::z) S (bodyQ gt F109.res fun r S'=>r=.ret (.tup [])∧G S'):=fun S Z1 z p1 s1 hA=>by
  have zl:=p1.length_eq
  rw [lA] at zl
  refine mrgLast_wp (gt:=gt) hm ih (P:=P++Z1) (B:=B) (D:=D) (Q:=Q) (by rw [lA];omega) (by rw [lA];omega) (by rw [lA];omega) hk2 (fun x hx=>hn x (List.mem_append_right _ hx)) sB sD (by rw [hx];simp only [lA];omega) (by rw [hlen] at hl;simp only [lA];omega) (by rw [aA];exact hA) ?_
  intro S' Z2 p2 s2 hA2
  exact fin S' Z1 Z2 p1 s1 p2 s2 (by simpa only [aA] using hA2)
 have triv:(A=[]∨V=[])→∀(o1 o2:Ent) z,wpD gt C F109.body.rt.rt.rt.rt.rt.rt.rt.rt.rt.rt.rt ((0,.val (slA t xs.length xs))::(1,o1)::(3,.val (.int .i64 c))::(4,.val (.fn f [] cs))::(18,.val (.int .i64 mid))::(20,o2)::(24,.val (.int .i64 e))::z) S (bodyQ gt F109.res fun r S'=>r=.ret (.tup [])∧G S'):=fun h o1 o2 z =>
  mrgLast2_wp (gt:=gt) hm ih (P:=P++(A++V)) (B:=B) (D:=D) (Q:=Q) (by simp only [lA];omega) (by simp only [lA];omega) (by simp only [lA];omega) hk2 (fun x hx=>hn x (List.mem_append_right _ hx)) sB sD (by rw [hx];simp only [lA];omega) (by rw [hlen] at hl;simp only [lA];omega) (by simpa only [aA] using hA) fun S' Z2 p2 s2 hA2 =>
   fin S' (A++V) Z2 (List.Perm.refl _) (by rcases h with rfl | rfl;exact sV;rw [List.append_nil];exact sA) p2 s2 (by simpa only [aA] using hA2)
 conv=>whnf
 refine goW ?_
 by_cases c1:(a:Int)<(s:Int)
 ·rw [dT c1]
  refine goW ?_
  by_cases c2:(s:Int)<(mid:Int)
  ·rw [dT c2]
   have b1:A≠[]:=fun h=>by rw [h] at h2;simp at h2;omega
   have b2:V≠[]:=fun h=>by rw [h] at h1;simp at h1;omega
   refine goW ?_
   refine call_rule (by rfl) (hm _ _ _ _ _ (ih S xs P A V (B++(D++Q)) a s mid (hk1 b1 b2) h0 h2 h1 b1 b2 (fun x hx=>hn x (List.mem_append_left _ hx)) sA sV hx hl hA) ?_)
   rintro r S2 ⟨rfl,Z1,z1,z2,z3⟩
   have next:=next S2 Z1 [] z1 z2 z3
   refine goK ?_
   with_unfolding_all exact next
  ·rw [dF c2]
   have triv:=triv (.inr (nL (by omega)))
   refine goK ?_
   with_unfolding_all exact triv _ _ _
 ·rw [dF c1]
  have triv:=triv (.inl (nL (by omega)))
  refine goK ?_
  with_unfolding_all exact triv _ _ _
set_option maxHeartbeats 8000000 in
theorem mrgFirst2_wp (hm:MonoC C) {f:FuncId} {cs:List AV} {n k:Nat} {cz:Nat→Nat→Int} (ih:MrgC C R ty t b n (.fn f [] cs) cz k) {S:St} {xs:List AV} {P A V B D Q:List Nat} {a mid s e c:Nat} {o:Ent} {z:Env} {G:St→Prop}
  (h0:a=P.length) (h1:mid=P.length+A.length+V.length) (h2:s=P.length+A.length) (h3:e=mid+B.length) (h4:c=e+D.length) (hk1:A≠[]→V≠[]→A.length+V.length≤k) (hk2:B≠[]→D≠[]→B.length+D.length≤k)
  (hn:∀x∈(A++V)++(B++D),x<n) (sA:Srt (leZ cz) A) (sV:Srt (leZ cz) V) (sB:Srt (leZ cz) B) (sD:Srt (leZ cz) D)
  (hx:xs.length=(P++(A++(V++(B++(D++Q))))).length) (hl:(P++(A++(V++(B++(D++Q))))).length<1152921504606846976) (hA:ArS S R ty t b (P++(A++(V++(B++(D++Q))))))
  (fin:∀S' Z1 Z2,Z1.Perm (A++V)→Srt (leZ cz) Z1→Z2.Perm (B++D)→Srt (leZ cz) Z2→ArS S' R ty t b (P++((Z1++Z2)++Q))→G S') :
  wpD gt C F109.body.rt.rt.rt.rt.rt.rt.rt.rt.rt.rt ((0,.val (slA t xs.length xs))::(1,.val (.int .i64 a))::(2,o)::(3,.val (.int .i64 c))::(4,.val (.fn f [] cs))::(18,.val (.int .i64 mid))::(20,.val (.int .i64 s))::(24,.val (.int .i64 e))::z) S (bodyQ gt F109.res fun r S'=>r=.ret (.tup [])∧G S'):=by
 have hlen:(P++(A++(V++(B++(D++Q))))).length=P.length+(A.length+(V.length+(B.length+(D.length+Q.length)))):=by simp only [lA]
 have next:∀(S:St) (Z1:List Nat) (z:Env),Z1.Perm (A++V)→Srt (leZ cz) Z1→ArS S R ty t b (P++(Z1++(B++(D++Q))))→wpD gt C F109.body.rt.rt.rt.rt.rt.rt.rt.rt.rt.rt.rt ((0,.val (slA t xs.length xs))::(3,.val (.int .i64 c))::(4,.val (.fn f [] cs))::(18,.val (.int .i64 mid))::(24,.val (.int .i64 e))::z) S (bodyQ gt F109.res fun r S'=>r=.ret (.tup [])∧G S'):=fun S Z1 z p1 s1 hA=>by
  have zl:=p1.length_eq
  rw [lA] at zl
  refine mrgLast_wp (gt:=gt) hm ih (P:=P++Z1) (B:=B) (D:=D) (Q:=Q) (by rw [lA];omega) (by rw [lA];omega) (by rw [lA];omega) hk2 (fun x hx=>hn x (List.mem_append_right _ hx)) sB sD (by rw [hx];simp only [lA];omega) (by rw [hlen] at hl;simp only [lA];omega) (by rw [aA];exact hA) ?_
  intro S' Z2 p2 s2 hA2
  exact fin S' Z1 Z2 p1 s1 p2 s2 (by simpa only [aA] using hA2)
 have triv:(A=[]∨V=[])→∀(o1 o2:Ent) z,wpD gt C F109.body.rt.rt.rt.rt.rt.rt.rt.rt.rt.rt.rt ((0,.val (slA t xs.length xs))::(1,o1)::(3,.val (.int .i64 c))::(4,.val (.fn f [] cs))::(18,.val (.int .i64 mid))::(20,o2)::(24,.val (.int .i64 e))::z) S (bodyQ gt F109.res fun r S'=>r=.ret (.tup [])∧G S'):=fun h o1 o2 z =>
  mrgLast2_wp (gt:=gt) hm ih (P:=P++(A++V)) (B:=B) (D:=D) (Q:=Q) (by simp only [lA];omega) (by simp only [lA];omega) (by simp only [lA];omega) hk2 (fun x hx=>hn x (List.mem_append_right _ hx)) sB sD (by rw [hx];simp only [lA];omega) (by rw [hlen] at hl;simp only [lA];omega) (by simpa only [aA] using hA) fun S' Z2 p2 s2 hA2 =>
   fin S' (A++V) Z2 (List.Perm.refl _) (by rcases h with rfl | rfl;exact sV;rw [List.append_nil];exact sA) p2 s2 (by simpa only [aA] using hA2)
 conv=>whnf
 refine goW ?_
 by_cases c1:(a:Int)<(s:Int)
 ·rw [dT c1]
  refine goW ?_
  by_cases c2:(s:Int)<(mid:Int)
  ·rw [dT c2]
   have b1:A≠[]:=fun h=>by rw [h] at h2;simp at h2;omega
   have b2:V≠[]:=fun h=>by rw [h] at h1;simp at h1;omega
   refine goW ?_
   refine call_rule (by rfl) (hm _ _ _ _ _ (ih S xs P A V (B++(D++Q)) a s mid (hk1 b1 b2) h0 h2 h1 b1 b2 (fun x hx=>hn x (List.mem_append_left _ hx)) sA sV hx hl hA) ?_)
   rintro r S2 ⟨rfl,Z1,z1,z2,z3⟩
   have next:=next S2 Z1 [] z1 z2 z3
   refine goK ?_
   with_unfolding_all exact next
  ·rw [dF c2]
   have triv:=triv (.inr (nL (by omega)))
   refine goK ?_
   with_unfolding_all exact triv _ _ _
 ·rw [dF c1]
  have triv:=triv (.inl (nL (by omega)))
  refine goK ?_
  with_unfolding_all exact triv _ _ _
end

section
variable {gt:GT} {C:CallT} {R:List Rs} {ty:TypeId} {t b:Nat}
set_option maxHeartbeats 8000000 in
theorem mrgRot_wp (hm:MonoC C) {f:FuncId} {cs:List AV} {n k:Nat} {cz:Nat→Nat→Int} (ih:MrgC C R ty t b n (.fn f [] cs) cz k) (hr:RotC C R ty t b (.fn f [] cs)) {S:St} {xs:List AV} {P A V B D Q:List Nat} {a m mid s e c:Nat} {z:Env} {G:St→Prop}
  (h0:a=P.length) (hmm:m=P.length+A.length+B.length) (h1:mid=P.length+A.length+V.length) (h2:s=P.length+A.length) (h3:e=mid+B.length) (h4:c=e+D.length) (hk1:A≠[]→V≠[]→A.length+V.length≤k) (hk2:B≠[]→D≠[]→B.length+D.length≤k)
  (hn:∀x∈(A++V)++(B++D),x<n) (sA:Srt (leZ cz) A) (sV:Srt (leZ cz) V) (sB:Srt (leZ cz) B) (sD:Srt (leZ cz) D)
  (hx:xs.length=(P++(A++(B++(V++(D++Q))))).length) (hl:(P++(A++(B++(V++(D++Q))))).length<1152921504606846976) (hA:ArS S R ty t b (P++(A++(B++(V++(D++Q))))))
  (fin:∀S' Z1 Z2,Z1.Perm (A++V)→Srt (leZ cz) Z1→Z2.Perm (B++D)→Srt (leZ cz) Z2→ArS S' R ty t b (P++((Z1++Z2)++Q))→G S') :
  wpD gt C F109.body.rt.rt.rt.rt.rt.rt.rt.rt.rt ((0,.val (slA t xs.length xs))::(1,.val (.int .i64 a))::(2,.val (.int .i64 m))::(3,.val (.int .i64 c))::(4,.val (.fn f [] cs))::(18,.val (.int .i64 mid))::(20,.val (.int .i64 s))::(24,.val (.int .i64 e))::z) S (bodyQ gt F109.res fun r S'=>r=.ret (.tup [])∧G S'):=by
 have hlen:(P++(A++(B++(V++(D++Q))))).length=P.length+(A.length+(B.length+(V.length+(D.length+Q.length)))):=by simp only [lA]
 have hlen2:(P++(A++(V++(B++(D++Q))))).length=P.length+(A.length+(B.length+(V.length+(D.length+Q.length)))):=by simp only [lA];omega
 rw [hlen] at hx hl
 have triv:(B=[]∨V=[])→∀(o:Ent) z,wpD gt C F109.body.rt.rt.rt.rt.rt.rt.rt.rt.rt.rt ((0,.val (slA t xs.length xs))::(1,.val (.int .i64 a))::(2,o)::(3,.val (.int .i64 c))::(4,.val (.fn f [] cs))::(18,.val (.int .i64 mid))::(20,.val (.int .i64 s))::(24,.val (.int .i64 e))::z) S (bodyQ gt F109.res fun r S'=>r=.ret (.tup [])∧G S'):=fun h o z =>
  mrgFirst2_wp (gt:=gt) hm ih (P:=P) (A:=A) (V:=V) (B:=B) (D:=D) (Q:=Q) h0 h1 h2 h3 h4 hk1 hk2 hn sA sV sB sD (by rw [hlen2];exact hx) (by rw [hlen2];exact hl) (by rcases h with rfl | rfl<;>exact hA) fin
 have next:∀(S:St) z,ArS S R ty t b (P++(A++(V++(B++(D++Q)))))→wpD gt C F109.body.rt.rt.rt.rt.rt.rt.rt.rt.rt.rt ((0,.val (slA t xs.length xs))::(1,.val (.int .i64 a))::(3,.val (.int .i64 c))::(4,.val (.fn f [] cs))::(18,.val (.int .i64 mid))::(20,.val (.int .i64 s))::(24,.val (.int .i64 e))::z) S (bodyQ gt F109.res fun r S'=>r=.ret (.tup [])∧G S'):=fun S z hA =>
  mrgFirst_wp (gt:=gt) hm ih (P:=P) (A:=A) (V:=V) (B:=B) (D:=D) (Q:=Q) h0 h1 h2 h3 h4 hk1 hk2 hn sA sV sB sD (by rw [hlen2];exact hx) (by rw [hlen2];exact hl) hA fin
 conv=>whnf
 refine goW ?_
 by_cases c1:(s:Int)<(m:Int)
 ·rw [dT c1]
  refine goW ?_
  by_cases c2:(m:Int)<(e:Int)
  ·rw [dT c2]
   have b1:B≠[]:=fun h=>by rw [h] at hmm;simp at hmm;omega
   have b2:V≠[]:=fun h=>by rw [h] at h1;simp at h1;omega
   refine goW ?_
   refine call_rule (by rfl) (hm _ _ _ _ _ (hr S xs (P++A) B V (D++Q) s m e (by rw [lA];exact h2) (by rw [lA];exact hmm) (by rw [lA];omega) b1 b2 (by simp only [lA];omega) (by simp only [lA];omega) (by rw [aA];exact hA)) ?_)
   rintro r S2 ⟨rfl,hA2⟩
   rw [aA] at hA2
   have next:=next S2 [] hA2
   refine goK ?_
   with_unfolding_all exact next
  ·rw [dF c2]
   have triv:=triv (.inr (nL (by omega)))
   refine goK ?_
   with_unfolding_all exact triv _ _
 ·rw [dF c1]
  have triv:=triv (.inl (nL (by omega)))
  refine goK ?_
  with_unfolding_all exact triv _ _
abbrev E_sr (t:Nat) (xs:List AV) (a m c:Nat) (g:AV) (mid n s r p:Nat):Env:=[(0,.val (slA t xs.length xs)),(1,.val (.int .i64 a)),(2,.val (.int .i64 m)),(3,.val (.int .i64 c)),(4,.val g),(18,.val (.int .i64 mid)),(19,.val (.int .i64 n)),(20,.val (.int .i64 s)),(21,.val (.int .i64 r)),(22,.val (.int .i64 p))]
set_option maxHeartbeats 8000000 in
theorem mrgSeek_wp (hm:MonoC C) {f:FuncId} {cs:List AV} {n k:Nat} {cz:Nat→Nat→Int} (hz:Cz cz) (hc:CmpC C f cs R ty t b n cz) (ih:MrgC C R ty t b n (.fn f [] cs) cz k) (hr:RotC C R ty t b (.fn f [] cs)) {S:St} {xs:List AV} {P X Y Q:List Nat} {a m c mid nn lo hi hN l0 h0:Nat} {z:Env} {G:St→Prop}
  (ha:a=P.length) (hmm:m=P.length+X.length) (hcc:c=P.length+X.length+Y.length) (hmid:mid=P.length+hN) (hnn:nn=mid+m) (hlo:lo=P.length+l0) (hhi:hi=P.length+h0)
  (rng:(l0=0∧h0=X.length∧X.length≤hN∧hN≤Y.length)∨(l0+Y.length=hN∧h0=hN∧hN≤X.length)) (hk1:hN≤k) (hk2:X.length+Y.length≤k+hN)
  (hn:∀x∈X++Y,x<n) (sX:Srt (leZ cz) X) (sY:Srt (leZ cz) Y) (hN0:0<hN)
  (hx:xs.length=(P++(X++(Y++Q))).length) (hl:(P++(X++(Y++Q))).length<1152921504606846976) (hA:ArS S R ty t b (P++(X++(Y++Q))))
  (fin:∀S' Z,Z.Perm (X++Y)→Srt (leZ cz) Z→ArS S' R ty t b (P++(Z++Q))→G S') :
  wpD gt C F109.body.rt.rt.rt.rt.rt.rt ((0,.val (slA t xs.length xs))::(1,.val (.int .i64 a))::(2,.val (.int .i64 m))::(3,.val (.int .i64 c))::(4,.val (.fn f [] cs))::(18,.val (.int .i64 mid))::(19,.val (.int .i64 nn))::(20,.val (.int .i64 lo))::(21,.val (.int .i64 hi))::z) S (bodyQ gt F109.res fun r S'=>r=.ret (.tup [])∧G S'):=by
 have hlen:(P++(X++(Y++Q))).length=P.length+(X.length+(Y.length+Q.length)):=by simp only [lA]
 have hl':=hl
 rw [hlen] at hl'
 have wp:wr .i64 ((nn:Int)-1)=((nn-1:Nat):Int):=by rw [wr64 (by omega) (by omega)];omega
 conv=>whnf
 refine goW ?_
 rw [wp]
 refine loop_rule hm (α:=Nat×Nat) (fun q env S'=>env=E_sr t xs a m c (.fn f [] cs) mid nn (P.length+q.1) (P.length+q.2) (nn-1)∧l0≤q.1∧q.1≤q.2∧q.2≤h0∧S'=S∧(q.1=l0∨∃x y,X[q.1-1]? = some x∧Y[hN-q.1]? = some y∧leZ cz x y)∧(q.2=h0∨∃x y,X[q.2]? = some x∧Y[hN-1-q.2]? = some y∧leZ cz y x)) (fun q=>q.2-q.1) ?_
  (a:=(l0,h0)) ⟨by rw [hlo,hhi],Nat.le_refl _,by simp only;omega,Nat.le_refl _,rfl,.inl rfl,.inl rfl⟩
 rintro⟨i,j⟩ env S' ⟨rfl,i0,hij0,j0,rfl,q1,q2⟩
 simp only at i0 hij0 j0 q1 q2
 refine goW ?_
 by_cases hij:((P.length+i:Nat):Int)<((P.length+j:Nat):Int)
 ·rw [dT hij]
  obtain⟨r,hr⟩:∃r,r=(i+j) / 2:=⟨_,rfl⟩
  have hri:i≤r:=by omega
  have hrj:r<j:=by omega
  have hrX:r<X.length:=by omega
  have hrY:hN-1-r<Y.length:=by omega
  have g0:(P++(X++(Y++Q)))[P.length+r]? = some X[r]:=by
   rw [List.getElem?_append_right (by omega),show P.length+r-P.length=r by omega,List.getElem?_append_left hrX]
   exact gE hrX
  have g1:(P++(X++(Y++Q)))[P.length+X.length+(hN-1-r)]? = some Y[hN-1-r]:=by
   rw [←aA,List.getElem?_append_right (by rw [lA];omega),show P.length+X.length+(hN-1-r)-(P++X).length=hN-1-r by rw [lA];omega,List.getElem?_append_left hrY]
   exact gE hrY
  have hcall:=hc S' _ Y[hN-1-r] X[r] hA (hn _ (List.mem_append_right _ (List.getElem_mem hrY))) (hn _ (List.mem_append_left _ (List.getElem_mem hrX)))
  have e0:X[r]? = some X[r]:=gE hrX
  have e1:Y[hN-1-r]? = some Y[hN-1-r]:=gE hrY
  generalize Y[hN-1-r]=y at g1 hcall e1
  generalize X[r]=x at g0 hcall e0
  have w1:wr .i64 (((nn-1:Nat):Int)-((P.length+r:Nat):Int))=((P.length+X.length+(hN-1-r):Nat):Int):=by rw [wr64 (by omega) (by omega)];omega
  refine goW ?_
  rw [midW (by omega),show (P.length+i+(P.length+j)) / 2=P.length+r by omega]
  refine goW ?_
  rw [w1]
  refine step_ruleDO rfl rfl (sx_ia (k:=P.length+X.length+(hN-1-r)) rfl rfl (by omega)) (goW ?_)
  refine step_ruleDO rfl rfl (sx_ldEl (agg:=false) rfl (hA.els hx) (ints_get g1) rfl) (goW ?_)
  refine step_ruleDO rfl rfl (sx_ia (k:=P.length+r) rfl rfl (by omega)) (goW ?_)
  refine step_ruleDO rfl rfl (sx_ldEl (agg:=false) rfl (hA.els hx) (ints_get g0) rfl) (goW ?_)
  refine call_ruleD (by rfl) (hm _ _ _ _ _ hcall ?_)
  rintro r' S3 ⟨rfl,rfl⟩
  refine goW ?_
  by_cases hlt:cz y x<0
  ·rw [dT hlt]
   refine goW ?_
   refine⟨(i,r),⟨rfl,i0,hri,by simp only;omega,rfl,q1,.inr ⟨x,y,e0,e1,hz.asy hlt⟩⟩,by simp only;omega⟩
  ·rw [dF hlt]
   refine goW ?_
   refine⟨(r+1,j),⟨?_,by simp only;omega,by simp only;omega,j0,rfl,.inr ⟨x,y,e0,?_,by unfold leZ;omega⟩,q2⟩,by simp only;omega⟩
   ·rw [wrNat (by omega)]
    try rfl
   ·rw [show hN-(r+1)=hN-1-r by omega];exact e1
 ·rw [dF hij]
  obtain rfl:i=j:=by omega
  have iX:i≤X.length:=by omega
  have tY:hN-i≤Y.length:=by omega
  have tA:(X.take i).length=i:=by rw [lT];omega
  have tB:(X.drop i).length=X.length-i:=lD
  have tV:(Y.take (hN-i)).length=hN-i:=by rw [lT];omega
  have tD:(Y.drop (hN-i)).length=Y.length-(hN-i):=lD
  have hX:X.take i++X.drop i=X:=tkD _ _
  have hY:Y.take (hN-i)++Y.drop (hN-i)=Y:=tkD _ _
  have sX':=sX
  have sY':=sY
  rw [←hX] at sX'
  rw [←hY] at sY'
  obtain⟨sA,sB,sAB⟩:=srt_app.1 sX'
  obtain⟨sV,sD,sVD⟩:=srt_app.1 sY'
  have sAD:∀u∈X.take i,∀v∈Y.drop (hN-i),leZ cz u v:=ends_le (le:=leZ cz) (fun h h'=>hz.tr h h') sA sD (fun u v e1 e2=>by
   rw [tA] at e1
   rcases q1 with q1 | ⟨x,y,f1,f2,f3⟩
   ·exfalso
    rcases rng with rng | rng
    ·rw [show i=0 by omega] at e1;simp at e1
    ·rw [List.getElem?_eq_none (show (Y.drop (hN-i)).length≤0 by rw [tD];omega)] at e2;cases e2
   ·rw [List.getElem?_drop,Nat.add_zero,f2] at e2
    have:i≠0:=fun h=>by rw [h] at e1;simp at e1
    rw [List.getElem?_take_of_lt (by omega),f1] at e1
    cases e1;cases e2;exact f3) (fun a=>hz.rf a)
  have sVB:∀u∈Y.take (hN-i),∀v∈X.drop i,leZ cz u v:=ends_le (le:=leZ cz) (fun h h'=>hz.tr h h') sV sB (fun u v e1 e2=>by
   rw [tV] at e1
   rcases q2 with q2 | ⟨x,y,f1,f2,f3⟩
   ·exfalso
    rcases rng with rng | rng
    ·rw [List.getElem?_eq_none (show (X.drop i).length≤0 by rw [tB];omega)] at e2;cases e2
    ·rw [show hN-i=0 by omega] at e1;simp at e1
   ·rw [List.getElem?_drop,Nat.add_zero,f1] at e2
    have:hN-i≠0:=fun h=>by rw [h] at e1;simp at e1
    rw [List.getElem?_take_of_lt (by omega),show hN-i-1=hN-1-i by omega,f2] at e1
    cases e1;cases e2;exact f3) (fun a=>hz.rf a)
  have mo:∀S' Z1 Z2,Z1.Perm (X.take i++Y.take (hN-i))→Srt (leZ cz) Z1→Z2.Perm (X.drop i++Y.drop (hN-i))→Srt (leZ cz) Z2→ArS S' R ty t b (P++((Z1++Z2)++Q))→G S':=fun S' Z1 Z2 p1 z1 p2 z2 hA=>by
   obtain⟨m1,m2⟩:=merge_ok z1 z2 p1 p2 sAB sAD sVB sVD
   rw [hX,hY] at m2
   exact fin S' _ m2 m1 hA
  have hn':∀x∈(X.take i++Y.take (hN-i))++(X.drop i++Y.drop (hN-i)),x<n:=fun x hx=>hn x (by
   rw [aA,List.mem_append,List.mem_append,List.mem_append] at hx
   rw [List.mem_append]
   rcases hx with h | h | h | h
   ·exact .inl (List.mem_of_mem_take h)
   ·exact .inr (List.mem_of_mem_take h)
   ·exact .inl (List.mem_of_mem_drop h)
   ·exact .inr (List.mem_of_mem_drop h))
  have hl2:P++(X++(Y++Q))=P++(X.take i++(X.drop i++(Y.take (hN-i)++(Y.drop (hN-i)++Q)))):=by
   rw [←aA (X.take i),hX,←aA (Y.take (hN-i)),hY]
  rw [hl2] at hx hl hA
  have w1:wr .i64 ((nn:Int)-((P.length+i:Nat):Int))=((mid+(X.length-i):Nat):Int):=by rw [wr64 (by omega) (by omega)];omega
  have next:=mrgRot_wp (gt:=gt) (z:=[]) hm ih hr (a:=a) (m:=m) (mid:=mid) (s:=P.length+i) (e:=mid+(X.length-i)) (c:=c) ha (by rw [tA,tB];omega) (by rw [tA,tV];omega) (by rw [tA]) (by rw [tB]) (by rw [tD];omega) (fun _ _=>by rw [tA,tV];omega) (fun _ _=>by rw [tB,tD];omega) hn' sA sV sB sD hx hl hA mo
  clear mo hn' sAD sVB sAB sVD
  conv=>whnf
  refine sI (by rfl) ?_
  conv=>whnf
  refine sI (by rfl) ?_
  conv=>whnf
  refine sI (by rfl) ?_
  conv=>whnf
  refine sI (by rfl) ?_
  conv=>whnf
  rw [w1]
  refine goK ?_
  with_unfolding_all exact next
end
end Go.Dn

namespace Go.Dn
open Go
theorem goJ {G G':Prop} (k:G') (h:G'→G:=by
 intro hk;((try refine And.intro (by rfl) ?_);(conv=>whnf);(repeat (refine sI (by rfl) ?_;conv=>whnf));(generalize hE:keepE _ _=e0;revert hE;apply kI;(repeat (first | exact kN _ | (apply kC;with_unfolding_all rfl;rfl)));rintro rfl));exact hk):G:=h k
end Go.Dn

namespace Go.Dn
open Go Go.Proofs.C1
set_option maxRecDepth 100000
attribute [local irreducible] afterS keepE
section
variable {gt:GT} {C:CallT} {R:List Rs} {ty:TypeId} {t b:Nat}
set_option maxHeartbeats 8000000 in
theorem mrg3_wp (hm:MonoC C) {f:FuncId} {cs:List AV} {n k:Nat} {cz:Nat→Nat→Int} (hz:Cz cz) (hc:CmpC C f cs R ty t b n cz) (ih:MrgC C R ty t b n (.fn f [] cs) cz k) (hr:RotC C R ty t b (.fn f [] cs)) {S:St} {xs:List AV} {P X Y Q:List Nat} {a m c:Nat}
  (ha:a=P.length) (hmm:m=P.length+X.length) (hcc:c=P.length+X.length+Y.length) (hX:2≤X.length) (hY:2≤Y.length) (hk:X.length+Y.length≤k+1) (hn:∀x∈X++Y,x<n) (sX:Srt (leZ cz) X) (sY:Srt (leZ cz) Y)
  (hx:xs.length=(P++(X++(Y++Q))).length) (hl:(P++(X++(Y++Q))).length<1152921504606846976) (hA:ArS S R ty t b (P++(X++(Y++Q)))) :
  wpF gt C F109 [slA t xs.length xs,.int .i64 a,.int .i64 m,.int .i64 c,.fn f [] cs] S fun r S'=>r=.ret (.tup [])∧∃Z,Z.Perm (X++Y)∧Srt (leZ cz) Z∧ArS S' R ty t b (P++(Z++Q)):=by
 have hlen:(P++(X++(Y++Q))).length=P.length+(X.length+(Y.length+Q.length)):=by simp only [lA]
 have hl':=hl
 rw [hlen] at hl'
 obtain⟨hN,hNe⟩:∃h,h=(X.length+Y.length) / 2:=⟨_,rfl⟩
 have w1:wr .i64 ((m:Int)-(a:Int))=(X.length:Int):=by rw [wr64 (by omega) (by omega)];omega
 have w2:wr .i64 ((c:Int)-(m:Int))=(Y.length:Int):=by rw [wr64 (by omega) (by omega)];omega
 have w3:wr .i64 (((P.length+hN:Nat):Int)+(m:Int))=((P.length+hN+m:Nat):Int):=by rw [wr64 (by omega) (by omega)];omega
 have next:∀(l0 h0 lo hi:Nat) (z:Env),lo=P.length+l0→hi=P.length+h0→((l0=0∧h0=X.length∧X.length≤hN∧hN≤Y.length)∨(l0+Y.length=hN∧h0=hN∧hN≤X.length))→_:=fun l0 h0 lo hi z e1 e2 e3 =>
  mrgSeek_wp (gt:=gt) (z:=z) (G:=fun S'=>∃Z,Z.Perm (X++Y)∧Srt (leZ cz) Z∧ArS S' R ty t b (P++(Z++Q))) hm hz hc ih hr (a:=a) (m:=m) (c:=c) (mid:=P.length+hN) (nn:=P.length+hN+m) ha hmm hcc rfl rfl e1 e2 e3 (by omega) (by omega) hn sX sY (by omega) hx hl hA (fun S' Z p s h=>⟨Z,p,s,h⟩)
 refine⟨rfl,?_⟩
 refine goW ?_
 rw [w1,eqI_false (show ¬(X.length:Int)=1 by omega)]
 refine goW ?_
 rw [w2,eqI_false (show ¬(Y.length:Int)=1 by omega)]
 refine goW ?_
 rw [midW (by omega),show (a+c) / 2=P.length+hN by omega]
 refine goW ?_
 rw [w3]
 by_cases hc1:(m:Int) > ((P.length+hN:Nat):Int)
 ·rw [dT hc1]
  have next:=next (hN-Y.length) hN (P.length+hN+m-c) (P.length+hN) [] (by omega) rfl (.inr (by omega))
  have w4:wr .i64 (((P.length+hN+m:Nat):Int)-(c:Int))=((P.length+hN+m-c:Nat):Int):=by rw [wr64 (by omega) (by omega)];omega
  refine goJ ?_
  refine goJ ?_
  rw [w4]
  with_unfolding_all exact next
 ·rw [dF hc1]
  have next:=next 0 X.length a m [] (by omega) hmm (.inl (by omega))
  refine goJ ?_
  refine goJ ?_
  with_unfolding_all exact next
end

section
variable {gt:GT} {C:CallT} {R:List Rs} {ty:TypeId} {t b:Nat}
theorem mrgC (hm:MonoC C) (hI:∀us S Q,wpF gt C F109 us S Q→C 109 us S Q) {f:FuncId} {cs:List AV} {n:Nat} {cz:Nat→Nat→Int} (hz:Cz cz) (hc:CmpC C f cs R ty t b n cz) (hr:RotC C R ty t b (.fn f [] cs)):∀k,MrgC C R ty t b n (.fn f [] cs) cz k
 | 0=>fun S xs P X Y Q a m c hk _ _ _ hX hY=>by
  exfalso
  have:=List.length_pos_iff.2 hX
  omega
 | k+1=>fun S xs P X Y Q a m c hk ha hmm hcc hX hY hn sX sY hx hl hA=>hI _ _ _ (by
  have lX:=List.length_pos_iff.2 hX
  have lY:=List.length_pos_iff.2 hY
  by_cases c1:X.length=1
  ·obtain⟨x,rfl⟩:=List.length_eq_one_iff.1 c1
   have:=mrg1_wp (gt:=gt) hm hz hc (P:=P) (Y:=Y) (Q:=Q) (x:=x) (S:=S) (xs:=xs) (fun y hy=>hn y (List.mem_append_right _ hy)) (hn x (by simp)) sY hx hl hA
   rw [ha,hmm,hcc]
   exact this
  ·by_cases c2:Y.length=1
   ·obtain⟨y,rfl⟩:=List.length_eq_one_iff.1 c2
    have:=mrg2_wp (gt:=gt) hm hz hc (P:=P) (Y:=X) (Q:=Q) (x:=y) (S:=S) (xs:=xs) (fun x hx=>hn x (List.mem_append_left _ hx)) (hn y (by simp)) sX (by omega) hx hl hA
    rw [ha,hmm,hcc]
    exact this
   ·exact mrg3_wp hm hz hc (mrgC hm hI hz hc hr k) hr ha hmm hcc (by omega) (by omega) hk hn sX sY hx hl hA)
def StbC (C:CallT) (R:List Rs) (ty:TypeId) (t b n:Nat) (g:AV) (cz:Nat→Nat→Int) (h:FuncId) (ar:List AV→List AV):Prop :=
 ∀(S:St) (xs:List AV) (L:List Nat),(∀x∈L,x<n)→xs.length=L.length→L.length<1152921504606846976→ArS S R ty t b L →
  C h (ar xs) S fun r S'=>r=.ret (.tup [])∧∃Z,Z.Perm L∧Srt (leZ cz) Z∧ArS S' R ty t b Z
abbrev E_s1 (t:Nat) (xs:List AV) (g:AV) (bs a c:Nat):Env:=[(0,.val (slA t xs.length xs)),(1,.val (.int .i64 xs.length)),(2,.val g),(6,.val (.int .i64 bs)),(7,.val (.int .i64 a)),(8,.val (.int .i64 c))]
abbrev E_s2 (t:Nat) (xs:List AV) (g:AV) (bs:Nat):Env:=[(0,.val (slA t xs.length xs)),(1,.val (.int .i64 xs.length)),(2,.val g),(6,.val (.int .i64 bs))]
theorem take_drop2 (u:List Nat) (k:Nat):u.take k++((u.drop k).take k++u.drop (2*k))=u:=by
 rw [show u.drop (2*k)=(u.drop k).drop k by rw [List.drop_drop];congr 1;omega,tkD,tkD]
set_option maxHeartbeats 8000000 in
theorem stb_wp (hm:MonoC C) {f:FuncId} {cs:List AV} {n:Nat} {cz:Nat→Nat→Int} (hi:InsC C R ty t b n (.fn f [] cs) cz) (hg:∀k,MrgC C R ty t b n (.fn f [] cs) cz k) {S:St} {xs:List AV} {L:List Nat} (hn:∀x∈L,x<n) (hx:xs.length=L.length) (hl:L.length<1152921504606846976) (hA:ArS S R ty t b L) :
  wpF gt C F90 [slA t xs.length xs,.int .i64 xs.length,.fn f [] cs] S fun r S'=>r=.ret (.tup [])∧∃Z,Z.Perm L∧Srt (leZ cz) Z∧ArS S' R ty t b Z:=by
 refine⟨rfl,?_⟩
 refine goW ?_
 refine loop_rule hm (α:=List Nat×List Nat) (fun q env S'=>env=E_s1 t xs (.fn f [] cs) 20 q.1.length (q.1.length+20)∧(q.1++q.2).Perm L∧Blk (leZ cz) 20 q.1∧q.1.length % 20=0∧ArS S' R ty t b (q.1++q.2)) (fun q=>q.2.length) ?_ (a:=([],L)) ⟨rfl,List.Perm.refl _,Blk.nil,rfl,hA⟩
 rintro⟨d,u⟩ env S1 ⟨rfl,hp,hb,hd,hA⟩
 simp only at hp hb hd hA
 have pl:=hp.length_eq
 rw [lA] at pl
 have hun:∀x∈u,x<n:=fun x hx=>hn x (hp.mem_iff.1 (List.mem_append_right _ hx))
 refine goW ?_
 by_cases c1:((d.length+20:Nat):Int)≤(xs.length:Int)
 ·rw [dT c1]
  have ht:(u.take 20).length=20:=by rw [lT];omega
  have hA':ArS S1 R ty t b (d++(u.take 20++u.drop 20)):=by rw [tkD];exact hA
  refine goW ?_
  refine call_rule (by rfl) (hm _ _ _ _ _ (hi S1 xs d (u.take 20) (u.drop 20) d.length (d.length+20) rfl (by rw [ht]) (fun x hx=>hun x (List.mem_of_mem_take hx)) (by rw [tkD,lA];omega) (by rw [tkD,lA];omega) hA') ?_)
  rintro r S2 ⟨rfl,Z,z1,z2,z3⟩
  have zl:=z1.length_eq
  rw [ht] at zl
  refine goW ?_
  refine⟨(d++Z,u.drop 20),⟨?_,?_,hb.app (by omega) hd (Blk.of z2),by rw [lA,zl];omega,by rw [aA];exact z3⟩,by simp only [lD];omega⟩
  ·simp only [E_s1]
   rw [show wr .i64 (((d.length+20:Nat):Int)+((20:Nat):Int))=((d.length+20+20:Nat):Int) by rw [wr64 (by omega) (by omega)];omega,lA,zl]
  ·refine List.Perm.trans ?_ hp
   simp only
   rw [aA]
   refine List.Perm.append_left d ?_
   have:=List.Perm.append_right (u.drop 20) z1
   rw [tkD] at this
   exact this
 ·rw [dF c1]
  have hA':ArS S1 R ty t b (d++(u++[])):=by rw [List.append_nil];exact hA
  refine goW ?_
  refine call_rule (by rfl) (hm _ _ _ _ _ (hi S1 xs d u [] d.length xs.length rfl (by omega) hun (by rw [List.append_nil,lA];omega) (by rw [List.append_nil,lA];omega) hA') ?_)
  rintro r S2 ⟨rfl,Z,z1,z2,z3⟩
  have zl:=z1.length_eq
  refine goW ?_
  have hp2:(d++Z).Perm L:=(List.Perm.append_left d z1).trans hp
  have hb2:Blk (leZ cz) 20 (d++Z):=hb.app (by omega) hd (Blk.of z2)
  rw [List.append_nil] at z3
  generalize d++Z=D at hp2 hb2 z3
  clear hp hb hd hA hA' pl hun c1 z1 z2 zl
  refine loop_rule hm (α:=List Nat×Nat) (fun q env S'=>env=E_s2 t xs (.fn f [] cs) q.2∧q.1.Perm L∧0<q.2∧q.2<2305843009213693952∧Blk (leZ cz) q.2 q.1∧ArS S' R ty t b q.1) (fun q=>xs.length-q.2) ?_ (a:=(D,20)) ⟨rfl,hp2,by simp only;omega,by simp only;omega,hb2,z3⟩
  clear hp2 hb2 z3 D Z
  rintro⟨D,bs⟩ env S3 ⟨rfl,hp,b0,b1,hb,hA⟩
  simp only at hp b0 b1 hb hA
  refine goW ?_
  by_cases c2:(bs:Int)<(xs.length:Int)
  ·rw [dT c2]
   refine goW ?_
   have w2:wr .i64 (2*(bs:Int))=((2*bs:Nat):Int):=by rw [wr64 (by omega) (by omega)];omega
   rw [w2]
   refine loop_rule hm (α:=List Nat×List Nat) (fun q env S'=>env=E_s1 t xs (.fn f [] cs) bs q.1.length (q.1.length+2*bs)∧(q.1++q.2).Perm L∧Blk (leZ cz) (2*bs) q.1∧q.1.length % (2*bs)=0∧Blk (leZ cz) bs q.2∧ArS S' R ty t b (q.1++q.2)) (fun q=>q.2.length) ?_ (a:=([],D)) ⟨by simp [E_s1],hp,Blk.nil,by simp,hb,hA⟩
   clear hp hb hA
   rintro⟨d,u⟩ env S4 ⟨rfl,hp,hd,hdl,hb,hA⟩
   simp only at hp hd hdl hb hA
   have pl:=hp.length_eq
   rw [lA] at pl
   have hun:∀x∈u,x<n:=fun x hx=>hn x (hp.mem_iff.1 (List.mem_append_right _ hx))
   refine goW ?_
   by_cases c3:((d.length+2*bs:Nat):Int)≤(xs.length:Int)
   ·rw [dT c3]
    have ht:(u.take bs).length=bs:=by rw [lT];omega
    have ht2:((u.drop bs).take bs).length=bs:=by rw [lT,lD];omega
    have h3:=take_drop2 u bs
    have hA':ArS S4 R ty t b (d++(u.take bs++((u.drop bs).take bs++u.drop (2*bs)))):=by rw [h3];exact hA
    rw [←h3] at hb
    have b1':Blk (leZ cz) bs (u.take bs):=Blk.take hb
    have b2':=Blk.drop hb b0 (by rw [ht];exact Nat.mod_self _)
    have b3':=Blk.drop b2' b0 (by rw [ht2];exact Nat.mod_self _)
    have w3:wr .i64 ((d.length:Int)+(bs:Int))=((d.length+bs:Nat):Int):=by rw [wr64 (by omega) (by omega)];omega
    have w4:wr .i64 (((d.length+2*bs:Nat):Int)+((2*bs:Nat):Int))=((d.length+2*bs+2*bs:Nat):Int):=by rw [wr64 (by omega) (by omega)];omega
    have hcall:=hg (bs+bs) S4 xs d (u.take bs) ((u.drop bs).take bs) (u.drop (2*bs)) d.length (d.length+bs) (d.length+2*bs) (by rw [ht,ht2];omega) rfl (by rw [ht]) (by rw [ht,ht2];omega) (fun h=>by rw [h] at ht;simp at ht;omega) (fun h=>by rw [h] at ht2;simp at ht2;omega) (fun x hx=>hun x (by rw [←h3];simp only [List.mem_append] at hx ⊢;rcases hx with h | h;exact .inl h;exact .inr (.inl h))) (b1'.srt (by omega)) (b2'.take.srt (by omega)) (by rw [h3,lA];omega) (by rw [h3,lA];omega) hA'
    refine goW ?_
    rw [w3]
    refine call_rule (by rfl) (hm _ _ _ _ _ hcall ?_)
    rintro r S5 ⟨rfl,Z,z1,z2,z3⟩
    have zl:=z1.length_eq
    rw [lA,ht,ht2] at zl
    refine goW ?_
    rw [w2,w4]
    refine⟨(d++Z,u.drop (2*bs)),⟨?_,?_,hd.app (by omega) hdl (Blk.of z2),?_,b3',by rw [aA];exact z3⟩,by simp only [lD];omega⟩
    ·rw [lA,zl]
     simp only [E_s1]
     rw [show d.length+(bs+bs)=d.length+2*bs by omega]
    ·refine List.Perm.trans ?_ hp
     simp only
     rw [aA]
     refine List.Perm.append_left d ?_
     have:=List.Perm.append_right (u.drop (2*bs)) z1
     rw [aA,h3] at this
     exact this
    ·simp only
     rw [lA,zl,show bs+bs=2*bs by omega,Nat.add_mod_right];exact hdl
   ·rw [dF c3]
    have w3:wr .i64 ((d.length:Int)+(bs:Int))=((d.length+bs:Nat):Int):=by rw [wr64 (by omega) (by omega)];omega
    have w4:wr .i64 ((bs:Int)*2)=((bs*2:Nat):Int):=by rw [wr64 (by omega) (by omega)];omega
    refine goW ?_
    rw [w3]
    by_cases c4:((d.length+bs:Nat):Int)<(xs.length:Int)
    ·rw [dT c4]
     have ht:(u.take bs).length=bs:=by rw [lT];omega
     have ht2:(u.drop bs).length=u.length-bs:=lD
     have h3:u.take bs++(u.drop bs++[])=u:=by rw [List.append_nil,tkD]
     have hA':ArS S4 R ty t b (d++(u.take bs++(u.drop bs++[]))):=by rw [h3];exact hA
     rw [←tkD bs u] at hb
     have b1':Blk (leZ cz) bs (u.take bs):=Blk.take hb
     have b2':=Blk.drop hb b0 (by rw [ht];exact Nat.mod_self _)
     have hcall:=hg u.length S4 xs d (u.take bs) (u.drop bs) [] d.length (d.length+bs) xs.length (by rw [ht,ht2];omega) rfl (by rw [ht]) (by rw [ht,ht2];omega) (fun h=>by rw [h] at ht;simp at ht;omega) (fun h=>by rw [h] at ht2;simp at ht2;omega) (fun x hx=>hun x (by rw [tkD] at hx;exact hx)) (b1'.srt (by omega)) (b2'.srt (by omega)) (by rw [h3,lA];omega) (by rw [h3,lA];omega) hA'
     refine goW ?_
     refine call_rule (by rfl) (hm _ _ _ _ _ hcall ?_)
     rintro r S5 ⟨rfl,Z,z1,z2,z3⟩
     rw [tkD] at z1
     rw [List.append_nil] at z3
     refine goW ?_
     rw [w4]
     refine⟨(d++Z,2*bs),⟨by simp only [E_s2];rw [Nat.mul_comm],(List.Perm.append_left d z1).trans hp,by simp only;omega,by simp only;omega,hd.app (by omega) hdl (Blk.of z2),z3⟩,by simp only;omega⟩
    ·rw [dF c4]
     refine goW ?_
     rw [w4]
     refine⟨(d++u,2*bs),⟨by simp only [E_s2];rw [Nat.mul_comm],hp,by simp only;omega,by simp only;omega,hd.app (by omega) hdl (Blk.of (hb.srt (by omega))),hA⟩,by simp only;omega⟩
  ·rw [dF c2]
   refine goW ?_
   have pl:=hp.length_eq
   exact⟨_,rfl,rfl,D,hp,hb.srt (by omega),hA⟩
end
end Go.Dn

namespace Go.Dn
open Go Go.Proofs.C1
theorem cmpB_cons (a b:UInt8) (x y:List UInt8):cmpB (a::x) (b::y)=if a.toNat=b.toNat then cmpB x y else if a.toNat<b.toNat then -1 else 1:=by
 rw [cmpB]
 by_cases h:a.toNat=b.toNat
 ·rw [if_pos h,h,Nat.beq_refl];rfl
 ·have:Nat.beq a.toNat b.toNat=false:=by
   cases q:Nat.beq a.toNat b.toNat with
   | false=>rfl
   | true=>exact absurd (bE q) h
  rw [if_neg h,this]
  by_cases k:a.toNat<b.toNat
  ·rw [if_pos k,show Nat.blt a.toNat b.toNat=true from Nat.ble_eq_true_of_le k];rfl
  ·have:Nat.blt a.toNat b.toNat=false:=by
    cases q:Nat.blt a.toNat b.toNat with
    | false=>rfl
    | true=>exact absurd (Nat.le_of_ble_eq_true q) k
   rw [if_neg k,this];rfl
theorem cmpB_self:∀a:List UInt8,cmpB a a=0
 | []=>rfl
 | a::x=>by rw [cmpB_cons,if_pos rfl];exact cmpB_self x
theorem cmpB_anti:∀a b:List UInt8,cmpB b a=- cmpB a b
 | [],[]=>rfl
 | [],_::_=>rfl
 | _::_,[]=>rfl
 | a::x,b::y=>by
  rw [cmpB_cons,cmpB_cons]
  by_cases h:a.toNat=b.toNat
  ·rw [if_pos h,if_pos h.symm];exact cmpB_anti x y
  ·rw [if_neg h,if_neg (fun e=>h e.symm)]
   by_cases k:a.toNat<b.toNat
   ·rw [if_pos k,if_neg (by omega)];rfl
   ·rw [if_neg k,if_pos (by omega)]
theorem cmpB_zero:∀{a b:List UInt8},cmpB a b=0→a=b
 | [],[],_=>rfl
 | [],_::_,h=>by rw [show cmpB [] (_::_)=-1 from rfl] at h;exact absurd h (by decide)
 | _::_,[],h=>by rw [show cmpB (_::_) []=1 from rfl] at h;exact absurd h (by decide)
 | a::x,b::y,h=>by
  rw [cmpB_cons] at h
  by_cases e:a.toNat=b.toNat
  ·rw [if_pos e] at h
   rw [cmpB_zero h,UInt8.toNat_inj.1 e]
  ·rw [if_neg e] at h
   by_cases k:a.toNat<b.toNat
   ·rw [if_pos k] at h;cases h
   ·rw [if_neg k] at h;cases h
theorem cmpB_tr:∀{a b c:List UInt8},0≤cmpB b a→0≤cmpB c b→0≤cmpB c a
 | [],_,[],_,_=>by decide
 | [],_,_::_,_,_=>by rw [show cmpB (_::_) []=1 from rfl];decide
 | _::_,[],_,h,_=>absurd h (by rw [show cmpB [] (_::_)=-1 from rfl];decide)
 | _::_,_::_,[],_,h=>absurd h (by rw [show cmpB [] (_::_)=-1 from rfl];decide)
 | a::x,b::y,c::z,h,k=>by
  rw [cmpB_cons] at h k ⊢
  by_cases e:b.toNat=a.toNat
  ·rw [if_pos e] at h
   by_cases e2:c.toNat=b.toNat
   ·rw [if_pos e2] at k
    rw [if_pos (by omega)]
    exact cmpB_tr h k
   ·rw [if_neg e2] at k
    rw [if_neg (by omega)]
    by_cases l:c.toNat<b.toNat
    ·rw [if_pos l] at k;exact absurd k (by decide)
    ·rw [if_neg (by omega)];decide
  ·rw [if_neg e] at h
   by_cases l:b.toNat<a.toNat
   ·rw [if_pos l] at h;exact absurd h (by decide)
   ·by_cases e2:c.toNat=b.toNat
    ·rw [if_neg (by omega),if_neg (by omega)];decide
    ·rw [if_neg e2] at k
     by_cases l2:c.toNat<b.toNat
     ·rw [if_pos l2] at k;exact absurd k (by decide)
     ·rw [if_neg (by omega),if_neg (by omega)];decide
def czK (keys:List (List UInt8)) (i j:Nat):Int:=cmpB (keys.getD i []) (keys.getD j [])
theorem czK_cz (keys:List (List UInt8)):Cz (czK keys) where
 rf a:=by unfold czK;rw [cmpB_self];exact Int.le_refl 0
 tr h k:=cmpB_tr h k
 asy {a b} h:=by
  unfold czK at h ⊢
  rw [cmpB_anti];omega
def ordK (keys:List (List UInt8)):List Nat:=(List.range keys.length).mergeSort fun i j=>decide (0≤czK keys j i)
theorem ordK_perm (keys:List (List UInt8)):(ordK keys).Perm (List.range keys.length):=List.mergeSort_perm _ _
theorem ordK_srt (keys:List (List UInt8)):Srt (leZ (czK keys)) (ordK keys):=by
 have:=List.pairwise_mergeSort (le:=fun i j=>decide (0≤czK keys j i)) (fun a b c h k=>by
  simp only [decide_eq_true_eq] at h k ⊢
  exact (czK_cz keys).tr h k) (fun a b=>by
  simp only [Bool.or_eq_true,decide_eq_true_eq]
  rcases Int.lt_or_le (czK keys b a) 0 with q | q
  ·exact .inr ((czK_cz keys).asy q)
  ·exact .inl q) (List.range keys.length)
 exact this.imp fun h=>of_decide_eq_true h
theorem ordK_len (keys:List (List UInt8)):(ordK keys).length=keys.length:=by rw [(ordK_perm keys).length_eq,List.length_range]
theorem ordK_lt {keys:List (List UInt8)} {i:Nat} (h:i∈ordK keys):i<keys.length:=List.mem_range.1 ((ordK_perm keys).mem_iff.1 h)
theorem ordK_uniq {keys:List (List UInt8)} (hd:keys.Nodup) {Z:List Nat} (hp:Z.Perm (List.range keys.length)) (hs:Srt (leZ (czK keys)) Z):Z=ordK keys:=by
 refine List.Perm.eq_of_pairwise (fun a b ha hb h k=>?_) hs (ordK_srt keys) (hp.trans (ordK_perm keys).symm)
 have la:=List.mem_range.1 (hp.mem_iff.1 ha)
 have lb:=ordK_lt hb
 unfold leZ czK at h k
 rw [cmpB_anti] at h
 have:=cmpB_zero (a:=keys.getD a []) (b:=keys.getD b []) (by omega)
 rw [List.getD_eq_getElem?_getD,List.getD_eq_getElem?_getD,gE la,gE lb] at this
 exact (List.getElem_inj hd).1 this
end Go.Dn

namespace Go.Dn
open Go Go.Proofs.C1
set_option maxRecDepth 100000
attribute [local irreducible] afterS keepE
theorem sx_ldBx {gt:GT} {d:Option Nat} {env:Env} {S:St} {R:List Rs} (h:Hs S R) (i:Nat) {id:Nat} {ty:TypeId} {v:AV} (hi:R[i]? = some (.bx id ty [v])) (hn:notAgg v=true) {a:DOpd} (ha:loc env a=some (.hp id 0)) :
  stepO gt d env S (.ld false 1 a)=.done (putV d v env) S:=by
 have hb:=(h.ok i _ hi).2
 have:ldL gt env S false 1 (.hp id 0)=some v:=by
  simp only [ldL,ldC,hb,cut]
  show mkv false [v]=some v
  simp only [mkv,hn,cond_true,cond_false]
 simp only [stepO,ha,this,SR.val]
section
variable {gt:GT} {C:CallT}
theorem cmpS_wp {a c:List UInt8}:wpF gt C F91 [.str a,.str c] St.init (Ret (.int .i64 (cmpB a c))):=by
 refine⟨rfl,?_⟩
 refine goW ?_
 exact⟨_,rfl,Ret.sta trivial⟩
theorem compare_wp (hm:MonoC C) (h:∀a c,PF C 91 [.str a,.str c] (.int .i64 (cmpB a c))) {a c:List UInt8}:wpF gt C F78 [.str a,.str c] St.init (Ret (.int .i64 (cmpB a c))):=by
 refine⟨rfl,?_⟩
 refine goW ?_
 refine call_pf hm (by rfl) (h a c) (goW ?_)
 exact⟨_,rfl,Ret.sta trivial⟩
abbrev R_k (keys:List (List UInt8)):List Rs:=[.bx 0 22 [.sl 1 stat (strs keys)]]
set_option maxHeartbeats 2000000 in
theorem ord1_wp (hm:MonoC C) (h:∀a c,PF C 78 [.str a,.str c] (.int .i64 (cmpB a c))) {keys:List (List UInt8)} {S:St} {ty:TypeId} {t b:Nat} {l:List Nat} {i j:Nat} (hA:ArS S (R_k keys) ty t b l) (hi:i<keys.length) (hj:j<keys.length) :
  wpF gt C F77 [.int .i64 i,.int .i64 j,.ptr 0 0] S fun r S'=>r=.ret (.int .i64 (czK keys i j))∧S'=S:=by
 have ei:keys.getD i []=keys[i]:=by rw [List.getD_eq_getElem?_getD,gE hi];rfl
 have ej:keys.getD j []=keys[j]:=by rw [List.getD_eq_getElem?_getD,gE hj];rfl
 unfold czK
 rw [ei,ej]
 have si:=strs_at hi
 have sj:=strs_at hj
 generalize keys[i]=x at si
 generalize keys[j]=y at sj
 have li:i<(strs keys).length:=by rw [strs_length];exact hi
 have lj:j<(strs keys).length:=by rw [strs_length];exact hj
 refine⟨rfl,?_⟩
 refine goW ?_
 refine step_ruleDO rfl rfl (sx_ldBx hA 0 rfl rfl rfl) (goW ?_)
 refine step_ruleDO rfl rfl (sx_ia (k:=i) rfl rfl li) (goW ?_)
 refine step_ruleDO rfl rfl (sx_ldEl (agg:=false) rfl rfl si rfl) (goW ?_)
 refine step_ruleDO rfl rfl (sx_ldBx hA 0 rfl rfl rfl) (goW ?_)
 refine step_ruleDO rfl rfl (sx_ia (k:=j) rfl rfl lj) (goW ?_)
 refine step_ruleDO rfl rfl (sx_ldEl (agg:=false) rfl rfl sj rfl) (goW ?_)
 refine call_pfD hm (by rfl) (h x y) (goW ?_)
 exact⟨_,rfl,rfl,rfl⟩
def SstC (C:CallT) (R:List Rs) (ty:TypeId) (t b n:Nat) (g:AV) (cz:Nat→Nat→Int):Prop :=
 StbC C R ty t b n g cz 76 fun xs=>[slA t xs.length xs,g]
theorem sst_wp (hm:MonoC C) {R:List Rs} {ty:TypeId} {t b n:Nat} {f:FuncId} {cs:List AV} {cz:Nat→Nat→Int} (h:StbC C R ty t b n (.fn f [] cs) cz 90 fun xs=>[slA t xs.length xs,.int .i64 xs.length,.fn f [] cs]) {S:St} {xs:List AV} {L:List Nat} (hn:∀x∈L,x<n) (hx:xs.length=L.length) (hl:L.length<1152921504606846976) (hA:ArS S R ty t b L) :
  wpF gt C F76 [slA t xs.length xs,.fn f [] cs] S fun r S'=>r=.ret (.tup [])∧∃Z,Z.Perm L∧Srt (leZ cz) Z∧ArS S' R ty t b Z:=by
 refine⟨rfl,?_⟩
 refine goW ?_
 refine call_rule (by rfl) (hm _ _ _ _ _ (h S xs L hn hx hl hA) ?_)
 rintro r S2 ⟨rfl,Z,z1,z2,z3⟩
 refine goW ?_
 exact⟨_,rfl,rfl,Z,z1,z2,z3⟩
abbrev slN:AV:=.sl 1 ⟨none,0,some 0,false⟩ []
theorem ins0_wp {S:St} {g:AV}:wpF gt C F108 [slN,.int .i64 0,.int .i64 0,g] S fun r S'=>r=.ret (.tup [])∧S'=S:=by
 refine⟨rfl,?_⟩
 refine goW ?_
 refine⟨1,?_⟩
 refine goW ?_
 exact⟨_,rfl,rfl,rfl⟩
theorem stb0_wp (hm:MonoC C) {g:AV} (h:∀S,C 108 [slN,.int .i64 0,.int .i64 0,g] S fun r S'=>r=.ret (.tup [])∧S'=S) {S:St}:wpF gt C F90 [slN,.int .i64 0,g] S fun r S'=>r=.ret (.tup [])∧S'=S:=by
 refine⟨rfl,?_⟩
 refine goW ?_
 refine⟨1,?_⟩
 refine goW ?_
 refine call_rule (by rfl) (hm _ _ _ _ _ (h S) ?_)
 rintro r S2 ⟨rfl,rfl⟩
 refine goW ?_
 refine⟨1,?_⟩
 refine goW ?_
 exact⟨_,rfl,rfl,rfl⟩
theorem sst0_wp (hm:MonoC C) {g:AV} (h:∀S,C 90 [slN,.int .i64 0,g] S fun r S'=>r=.ret (.tup [])∧S'=S) {S:St}:wpF gt C F76 [slN,g] S fun r S'=>r=.ret (.tup [])∧S'=S:=by
 refine⟨rfl,?_⟩
 refine goW ?_
 refine call_rule (by rfl) (hm _ _ _ _ _ (h S) ?_)
 rintro r S2 ⟨rfl,rfl⟩
 refine goW ?_
 exact⟨_,rfl,rfl,rfl⟩
theorem order0_wp (hm:MonoC C) (h:∀S,C 76 [slN,.fn 77 [] [.ptr 0 0]] S fun r S'=>r=.ret (.tup [])∧S'=S):wpF gt C F61 [.sl 1 stat []] St.init (Ret (.sl 1 stat [])):=by
 refine⟨rfl,?_⟩
 refine goW ?_
 refine⟨1,?_⟩
 refine goW ?_
 refine call_rule (by rfl) (hm _ _ _ _ _ (h _) ?_)
 rintro r S2 ⟨rfl,rfl⟩
 refine goW ?_
 exact⟨_,rfl,_,rfl,by simp only [Rdo];exact⟨trivial,_,_,false,[],rfl,rfl,by simp only [Rdos]⟩⟩
abbrev E_or (t n i:Nat) (xs:List AV):Env:=[(1,.val (.ptr 0 0)),(3,.val (slA t n xs)),(9,.val (.int .i64 n)),(10,.val (.int .i64 i))]
theorem ints_zero (n:Nat):List.replicate n (.int .i64 0)=ints (List.replicate n 0):=by simp [ints]
set_option maxHeartbeats 4000000 in
theorem order_wp (hm:MonoC C) {keys:List (List UInt8)} (h:∀t b,SstC C (R_k keys) 3 t b keys.length (.fn 77 [] [.ptr 0 0]) (czK keys)) (hd:keys.Nodup) (h0:0<keys.length) (hl:keys.length<1099511627776) :
  wpF gt C F61 [.sl 1 stat (strs keys)] St.init (Ret (.sl 1 stat (ints (ordK keys)))):=by
 have sl:(strs keys).length=keys.length:=strs_length keys
 refine⟨rfl,?_⟩
 refine goW ?_
 have hb:=Hs.init.newBox 22 [.sl 1 stat (strs keys)]
 refine r_mks (n:=keys.length) (c:=keys.length) hb trivial (by rw [←sl];rfl) (by rw [←sl];rfl) (Nat.le_refl _) h0 (by omega) (by omega) rfl ?_
 intro t b S hS
 have hA:ArS S (R_k keys) 3 t b (List.replicate keys.length 0):=by
  unfold ArS
  rw [←ints_zero,List.append_nil]
  exact hS
 clear hS hb
 have hxl:(List.replicate keys.length (AV.int .i64 0)).length=keys.length:=List.length_replicate
 generalize List.replicate keys.length (AV.int .i64 0)=xs at hxl
 refine goW ?_
 rw [hxl]
 refine loop_rule hm (α:=Nat) (fun i env S'=>env=E_or t keys.length i xs∧i≤keys.length∧ArS S' (R_k keys) 3 t b (List.range i++List.replicate (keys.length-i) 0)) (fun i=>keys.length-i) ?_ (a:=0) ⟨rfl,Nat.zero_le _,by simpa using hA⟩
 clear hA
 rintro i env S' ⟨rfl,hi,hA⟩
 refine goW ?_
 by_cases c:(i:Int)<(keys.length:Int)
 ·rw [dT c]
  have hset:(List.range i++List.replicate (keys.length-i) 0).set i i=List.range (i+1)++List.replicate (keys.length-(i+1)) 0:=by
   obtain⟨m,hm⟩:∃m,keys.length-i=m+1:=⟨keys.length-i-1,by omega⟩
   rw [hm,List.replicate_succ,set_mid (by rw [List.length_range]),show keys.length-(i+1)=m by omega,List.range_succ,aA];rfl
  have hll:xs.length=(List.range i++List.replicate (keys.length-i) 0).length:=by rw [hxl,lA,List.length_range,List.length_replicate];omega
  refine goW ?_
  refine step_ruleO (sx_ia (k:=i) rfl rfl (by omega)) (goW ?_)
  refine st_runP (hA.st hll rfl rfl (by omega)) (by trivial) ?_
  intro S2 hA2
  rw [hset] at hA2
  refine goW ?_
  refine⟨i+1,⟨?_,by omega,hA2⟩,by omega⟩
  rw [wrNat (by omega)]
  try rfl
 ·rw [dF c]
  obtain rfl:i=keys.length:=by omega
  rw [Nat.sub_self,List.replicate_zero,List.append_nil] at hA
  have hcall:=h t b S' xs (List.range keys.length) (fun x hx=>List.mem_range.1 hx) (by rw [hxl,List.length_range]) (by rw [List.length_range];omega) hA
  simp only [hxl] at hcall
  refine goW ?_
  refine call_rule (by rfl) (hm _ _ _ _ _ hcall ?_)
  rintro r S2 ⟨rfl,Z,z1,z2,z3⟩
  rw [ordK_uniq hd z1 z2] at z3
  refine goW ?_
  exact⟨_,rfl,_,rfl,by simp only [Rdo];exact⟨trivial,_,_,false,_,rfl,z3.els (by rw [hxl,ordK_len]),Stas.rdos _ (by
   generalize ordK keys=l
   induction l with
   | nil=>trivial
   | cons a r ih=>exact⟨trivial,ih⟩)⟩⟩
end

def zPT:PT:=.mk 0 [] [] []
mutual
def sortT:PT→PT
 |.mk k s keys kids=>if k=7∧keys.length=kids.length then .mk k s ((ordK keys).map fun i=>keys.getD i []) ((ordK keys).map fun i=>(sortTs kids).getD i zPT) else .mk k s keys (sortTs kids)
def sortTs:List PT→List PT
 | []=>[]
 | t::r=>sortT t::sortTs r
end
theorem sortTs_map:∀l:List PT,sortTs l=l.map sortT
 | []=>rfl
 | t::r=>by simp only [sortTs,List.map_cons,sortTs_map r]
mutual
def PT.nd:PT→Prop
 |.mk k _ keys kids=>(k=7→keys.length=kids.length→keys.Nodup∧keys.length<1099511627776)∧PT.nds kids
def PT.nds:List PT→Prop
 | []=>True
 | t::r=>t.nd∧PT.nds r
end
theorem PT.nds_get:∀{l:List PT} {i:Nat} (h:i<l.length),PT.nds l→(l[i]).nd
 | a::r,0,_,h=>by simp only [PT.nds] at h;exact h.1
 | a::r,i+1,hi,h=>by simp only [PT.nds] at h;exact PT.nds_get (l:=r) (i:=i) (by simpa using hi) h.2
def DC.lft:DC→DC |.seq a _=>a | c=>c
section
variable {gt:GT} {C:CallT}
abbrev E_so1 (k:Int) (s:List UInt8) (keys:List (List UInt8)) (o1 o2:SI) (all kids:List PT) (i:Int):Env :=
 [(2,.box zT),(3,.box [.int .i64 k,.str s,.sl 1 o1 (strs keys),.sl 4 o2 (encTs kids)]),(32,.val (.sl 4 stat (encTs all))),(33,.val (.int .i64 (encTs all).length)),(34,.val (.int .i64 i))]
abbrev E_so2 (t:PT) (k:Int) (s:List UInt8) (keys:List (List UInt8)) (o1 o2:SI) (kids:List PT) (L:List Nat) (i:Int):Env :=
 [(1,.box (encT t).cells),(2,.box zT),(3,.box [.int .i64 k,.str s,.sl 1 o1 (strs keys),.sl 4 o2 (encTs kids)]),(49,.val (.sl 1 stat (ints L))),(50,.val (.int .i64 (ints L).length)),(51,.val (.int .i64 i))]
set_option maxHeartbeats 4000000 in
theorem sorted1_wp (hm:MonoC C) {k:Int} {s:List UInt8} {keys:List (List UInt8)} {kids:List PT} (ih:∀u,u.n<(PT.mk k s keys kids).n→u.ok→u.nd→PF C 57 [encT u] (encT (sortT u))) (hk:(PT.mk k s keys kids).ok) (hd:PT.nds kids) {S:St} (hR:Hs S [.gr 9 ⟨none,0,some 0,true⟩ [],.gr 25 ⟨none,0,some 0,true⟩ []]) {z:Env} :
  wpD gt C (.seq F57.body.rt.rt.lft.rt F57.body.rt.rt.rt) ((1,.box (encT (.mk k s keys kids)).cells)::(2,.box zT)::(3,.box [.int .i64 k,.str s,.sl 1 ⟨none,0,some 0,true⟩ [],.sl 4 ⟨none,0,some 0,true⟩ []])::(24,.val (.bool true))::z) S (bodyQ gt F57.res (Ret (encT (.mk k s keys (sortTs kids))))):=by
 simp only [PT.ok] at hk
 obtain⟨hk1,hk2,hk3⟩:=hk
 conv=>whnf
 refine goW ?_
 refine r_app hR 0 rfl trivial rfl rfl rfl (by rw [strs_length];simpa using hk1) (by rw [strs_length];simp;omega) (by decide) (by decide) (cells_strs keys) ?_
 intro o1 S1 hR
 refine goW ?_
 have hlen:=encTs_len kids
 refine loop_rule hm (α:=Nat) (fun i env S'=>i≤kids.length∧∃o2,Hs S' [.gr 9 o1 (strs keys),.gr 25 o2 (encTs ((sortTs kids).take i))]∧env=E_so1 k s keys o1 o2 kids ((sortTs kids).take i) i) (fun i=>kids.length-i) ?_ (a:=0) ⟨Nat.zero_le _,_,hR,rfl⟩
 rintro i env S' ⟨hi,o2,hR,rfl⟩
 have hsl:(sortTs kids).length=kids.length:=by rw [sortTs_map,List.length_map]
 refine goW ?_
 by_cases h:(i:Int)<(encTs kids).length
 ·rw [dT h]
  refine goW ?_
  have hik:i<kids.length:=by omega
  have his:i<(sortTs kids).length:=by omega
  have hge:(sortTs kids)[i]=sortT kids[i]:=by simp only [sortTs_map,List.getElem_map]
  refine step_ruleO (sx_ia (k:=i) rfl rfl (by omega)) (goW ?_)
  refine step_ruleO (sx_ldEl (agg:=true) rfl rfl (encTs_get hik) (rdT _)) ?_
  have ihk:=ih _ (kid_lt hik) (PT.oks_get hk3 (gE hik)) (PT.nds_get hik hd)
  have hok:=encT_ok (sortT kids[i])
  have hts:encTs ((sortTs kids).take (i+1))=encTs ((sortTs kids).take i)++[encT (sortT kids[i])]:=by rw [tS his,encTs_app,hge];rfl
  obtain⟨ka,sa,xa,ya,he⟩:=encT_agg kids[i]
  obtain⟨kb,sb,xb,yb,he2⟩:=encT_agg (sortT kids[i])
  rw [he2] at ihk hts hok
  rw [he] at ihk ⊢
  refine goW ?_
  refine call_pfD hm (by rfl) ihk (goW ?_)
  have hlt:(encTs ((sortTs kids).take i)).length=i:=by rw [encTs_len,lT];omega
  refine r_appD hR 1 rfl (by trivial) rfl rfl rfl (by rw [hlt];simp;omega) (by rw [hlt];simp;omega) (by decide) (by decide) hok ?_
  intro o3 S3 hR
  refine goW ?_
  refine⟨i+1,⟨by omega,o3,by rw [hts];exact hR,?_⟩,by omega⟩
  rw [wrNat (by omega)]
  simp only [E_so1,hts]
  try rfl
 ·rw [dF h]
  refine goW ?_
  have:(sortTs kids).take i=sortTs kids:=List.take_of_length_le (by omega)
  rw [this] at hR ⊢
  exact⟨_,rfl,_,rfl,rdo_T hR (i:=0) (j:=1) rfl rfl⟩
set_option maxHeartbeats 4000000 in
theorem sorted2_wp (hm:MonoC C) (ho:∀keys:List (List UInt8),keys.Nodup→keys.length<1099511627776→PF C 61 [.sl 1 stat (strs keys)] (.sl 1 stat (ints (ordK keys)))) {k:Int} {s:List UInt8} {keys:List (List UInt8)} {kids:List PT} (ih:∀u,u.n<(PT.mk k s keys kids).n→u.ok→u.nd→PF C 57 [encT u] (encT (sortT u))) (hk:(PT.mk k s keys kids).ok) (hd:PT.nds kids) (hdk:keys.Nodup) (hl:keys.length=kids.length) (hl2:keys.length<1099511627776) {S:St} (hR:Hs S [.gr 9 ⟨none,0,some 0,true⟩ [],.gr 25 ⟨none,0,some 0,true⟩ []]) {z:Env} :
  wpD gt C (.seq F57.body.rt.rt.lft.rt F57.body.rt.rt.rt) ((1,.box (encT (.mk k s keys kids)).cells)::(2,.box zT)::(3,.box [.int .i64 k,.str s,.sl 1 ⟨none,0,some 0,true⟩ [],.sl 4 ⟨none,0,some 0,true⟩ []])::(24,.val (.bool false))::z) S (bodyQ gt F57.res (Ret (encT (.mk k s ((ordK keys).map fun i=>keys.getD i []) ((ordK keys).map fun i=>(sortTs kids).getD i zPT))))):=by
 simp only [PT.ok] at hk
 obtain⟨hk1,hk2,hk3⟩:=hk
 have ho:=ho keys hdk hl2
 have hL:=@ordK_lt keys
 have hLl:=ordK_len keys
 generalize ordK keys=L at ho hL hLl
 have hil:=ints_len L
 have hsl:(sortTs kids).length=kids.length:=by rw [sortTs_map,List.length_map]
 have l1:=strs_length keys
 have l2:=encTs_len kids
 conv=>whnf
 refine goW ?_
 refine call_pf hm (by rfl) ho (goW ?_)
 refine loop_rule hm (α:=Nat) (fun i env S'=>i≤L.length∧∃o1 o2,Hs S' [.gr 9 o1 (strs ((L.take i).map fun i=>keys.getD i [])),.gr 25 o2 (encTs ((L.take i).map fun i=>(sortTs kids).getD i zPT))]∧env=E_so2 (.mk k s keys kids) k s ((L.take i).map fun i=>keys.getD i []) o1 o2 ((L.take i).map fun i=>(sortTs kids).getD i zPT) L i) (fun i=>L.length-i) ?_ (a:=0) ⟨Nat.zero_le _,_,_,hR,rfl⟩
 rintro i env S' ⟨hi,o1,o2,hR,rfl⟩
 refine goW ?_
 by_cases h:(i:Int)<(ints L).length
 ·rw [dT h]
  refine goW ?_
  have hik:i<L.length:=by omega
  have hj:=hL (List.getElem_mem hik)
  have hgi:(ints L)[i]? = some (.int .i64 (L[i]:Nat)):=ints_get (gE hik)
  have htk:L.take (i+1)=L.take i++[L[i]]:=tS hik
  generalize L[i]=j at hj hgi htk
  have hjk:j<kids.length:=by omega
  have g1:keys.getD j []=keys[j]:=by rw [List.getD_eq_getElem?_getD,gE hj];rfl
  have g2:(sortTs kids).getD j zPT=sortT kids[j]:=by rw [List.getD_eq_getElem?_getD,gE (by omega)];simp only [sortTs_map,List.getElem_map,Option.getD_some]
  have hks:strs ((L.take (i+1)).map fun i=>keys.getD i [])=strs ((L.take i).map fun i=>keys.getD i [])++[.str keys[j]]:=by rw [htk,List.map_append,List.map_cons,List.map_nil,g1];simp [strs]
  have hts:encTs ((L.take (i+1)).map fun i=>(sortTs kids).getD i zPT)=encTs ((L.take i).map fun i=>(sortTs kids).getD i zPT)++[encT (sortT kids[j])]:=by rw [htk,List.map_append,List.map_cons,List.map_nil,g2,encTs_app];rfl
  have sj:=strs_at hj
  generalize keys[j]=kj at hks sj
  have ihk:=ih _ (kid_lt hjk) (PT.oks_get hk3 (gE hjk)) (PT.nds_get hjk hd)
  have hok:=encT_ok (sortT kids[j])
  have hej:=encTs_get hjk
  obtain⟨ka,sa,xa,ya,he⟩:=encT_agg kids[j]
  obtain⟨kb,sb,xb,yb,he2⟩:=encT_agg (sortT kids[j])
  rw [he2] at ihk hts hok
  have hrd:=rdT kids[j]
  rw [he] at ihk hej hrd
  refine step_ruleO (sx_ia (k:=i) rfl rfl (by omega)) (goW ?_)
  refine step_ruleO (sx_ldEl (agg:=false) rfl rfl hgi rfl) (goW ?_)
  refine step_ruleDO rfl rfl (sx_ia (k:=j) rfl rfl (by omega)) (goW ?_)
  refine step_ruleDO rfl rfl (sx_ldEl (agg:=false) rfl rfl sj rfl) (goW ?_)
  have hlt1:(strs ((L.take i).map fun i=>keys.getD i [])).length=i:=by rw [strs_length,List.length_map,lT];omega
  refine r_appD hR 0 rfl (by trivial) rfl rfl rfl (by rw [hlt1];simp;omega) (by rw [hlt1];simp;omega) (by decide) (by decide) (by rfl) ?_
  intro o3 S3 hR
  refine goW ?_
  refine step_ruleDO rfl rfl (sx_ia (k:=j) rfl rfl (by omega)) (goW ?_)
  refine step_ruleDO rfl rfl (sx_ldEl (agg:=true) rfl rfl hej hrd) (goW ?_)
  refine call_pfD hm (by rfl) ihk (goW ?_)
  have hlt:(encTs ((L.take i).map fun i=>(sortTs kids).getD i zPT)).length=i:=by rw [encTs_len,List.length_map,lT];omega
  refine r_appD hR 1 rfl (by trivial) rfl rfl rfl (by rw [hlt];simp;omega) (by rw [hlt];simp;omega) (by decide) (by decide) hok ?_
  intro o4 S4 hR
  refine goW ?_
  refine⟨i+1,⟨by omega,o3,o4,by rw [hts,hks];exact hR,?_⟩,by omega⟩
  rw [wrNat (by omega)]
  simp only [E_so2,hts,hks]
  try rfl
 ·rw [dF h]
  refine goW ?_
  have:L.take i=L:=List.take_of_length_le (by omega)
  rw [this] at hR ⊢
  exact⟨_,rfl,_,rfl,rdo_T hR (i:=0) (j:=1) rfl rfl⟩
set_option maxHeartbeats 4000000 in
theorem sorted_wp (hm:MonoC C) (ho:∀keys:List (List UInt8),keys.Nodup→keys.length<1099511627776→PF C 61 [.sl 1 stat (strs keys)] (.sl 1 stat (ints (ordK keys)))) {t:PT} (ih:∀u,u.n<t.n→u.ok→u.nd→PF C 57 [encT u] (encT (sortT u))) (hk:t.ok) (hd:t.nd):wpF gt C F57 [encT t] St.init (Ret (encT (sortT t))):=by
 obtain⟨k,s,keys,kids⟩:=t
 simp only [PT.nd] at hd
 obtain⟨hd1,hd2⟩:=hd
 have hR:=(Hs.init.addNil 9 true).addNil 25 true
 have l1:=strs_length keys
 have l2:=encTs_len kids
 have r1:=sorted1_wp (gt:=gt) (z:=[]) hm ih hk hd2 hR
 have no:¬(k=7∧keys.length=kids.length)→sortT (.mk k s keys kids)=.mk k s keys (sortTs kids):=fun h=>by rw [sortT,if_neg h]
 refine⟨rfl,?_⟩
 refine goW ?_
 by_cases c1:k=7
 ·rw [neI_false c1]
  refine goW ?_
  by_cases c2:keys.length=kids.length
  ·rw [neI_false (show ((strs keys).length:Int)=((encTs kids).length:Int) by omega)]
   rw [show sortT (.mk k s keys kids)=_ by rw [sortT,if_pos ⟨c1,c2⟩]]
   have r2:=sorted2_wp (gt:=gt) (z:=[]) hm ho ih hk hd2 (hd1 c1 c2).1 c2 (hd1 c1 c2).2 hR
   clear r1 no
   with_unfolding_all exact r2
  ·rw [neI_true (show ¬((strs keys).length:Int)=((encTs kids).length:Int) by omega),no (fun h=>c2 h.2)]
   with_unfolding_all exact r1
 ·rw [neI_true c1,no (fun h=>c1 h.1)]
  refine goJ ?_
  with_unfolding_all exact r1
end
end Go.Dn

namespace Go.Dn
open Go Go.Proofs.C1
theorem unlike_nodup:∀{seen keys:List (List UInt8)},unlikeB seen keys=true→keys.Nodup∧∀x∈keys,x ∉ seen
 | _,[],_=>⟨List.nodup_nil,by simp⟩
 | seen,s::r,h=>by
  simp only [unlikeB] at h
  by_cases hs:s∈seen
  ·rw [if_pos hs] at h;cases h
  ·rw [if_neg hs,bA] at h
   obtain⟨a,b⟩:=unlike_nodup h.2
   refine⟨List.nodup_cons.2 ⟨fun hm=>b s hm (by simp),a⟩,fun x hx=>?_⟩
   rcases List.mem_cons.1 hx with rfl | hx
   ·exact hs
   ·exact fun hm=>b x hx (by simp [hm])
theorem formed_parts {k:Int} {s:List UInt8} {keys:List (List UInt8)} {kids:List PT} (h:formedB (.mk k s keys kids)=true) :
  formedBs kids=true∧(k=7→s=[]∧keys.length=kids.length∧keys.Nodup)∧(k≠7→keys=[])∧(k≠7→k≠6→kids=[])∧(k=6→s=[]):=by
 simp only [formedB,bA] at h
 obtain⟨h1,h2⟩:=h
 refine⟨h1,?_⟩
 unfold shapeB at h2
 by_cases k1:k=1
 ·rw [if_pos k1] at h2;simp only [bA,decide_eq_true_eq] at h2
  exact⟨fun e=>by omega,fun _=>nL h2.1.1,fun _ _=>nL h2.1.2,fun e=>by omega⟩
 rw [if_neg k1] at h2
 by_cases k2:k=2
 ·rw [if_pos k2] at h2;simp only [bA,decide_eq_true_eq] at h2
  exact⟨fun e=>by omega,fun _=>nL h2.1.1,fun _ _=>nL h2.1.2,fun e=>by omega⟩
 rw [if_neg k2] at h2
 by_cases k3:k=3
 ·rw [if_pos k3,bA,bA] at h2
  have a:=of_decide_eq_true h2.1.1
  have b:=of_decide_eq_true h2.1.2
  exact⟨fun e=>by omega,fun _=>nL a,fun _ _=>nL b,fun e=>by omega⟩
 rw [if_neg k3] at h2
 by_cases k4:k=4
 ·rw [if_pos k4,bA,bA] at h2
  have a:=of_decide_eq_true h2.1.1
  have b:=of_decide_eq_true h2.1.2
  exact⟨fun e=>by omega,fun _=>nL a,fun _ _=>nL b,fun e=>by omega⟩
 rw [if_neg k4] at h2
 by_cases k5:k=5
 ·rw [if_pos k5,bA,bA] at h2
  have a:=of_decide_eq_true h2.1.1
  have b:=of_decide_eq_true h2.1.2
  exact⟨fun e=>by omega,fun _=>nL a,fun _ _=>nL b,fun e=>by omega⟩
 rw [if_neg k5] at h2
 by_cases k6:k=6
 ·rw [if_pos k6,bA] at h2
  have b:=of_decide_eq_true h2.2
  exact⟨fun e=>by omega,fun _=>nL b,fun _ e=>absurd k6 e,fun _=>beqB_iff.1 h2.1⟩
 rw [if_neg k6] at h2
 by_cases k7:k=7
 ·rw [if_pos k7,bA,bA] at h2
  have a:=of_decide_eq_true h2.2.1
  exact⟨fun _=>⟨beqB_iff.1 h2.1,a,(unlike_nodup h2.2.2).1⟩,fun e=>absurd k7 e,fun e=>absurd k7 e,fun e=>absurd e k6⟩
 ·rw [if_neg k7] at h2;cases h2
theorem PT.len_nsq:∀l:List PT,l.length≤PT.ns l
 | []=>Nat.le_refl _
 | t::r=>by have:=PT.n_pos t;have:=PT.len_nsq r;simp only [PT.ns,lC];omega
mutual
theorem formed_nd:∀{t:PT},formedB t=true→t.n<1099511627776→t.nd
 |.mk k s keys kids,h,hn=>by
  obtain⟨h1,h2,_⟩:=formed_parts h
  simp only [PT.n] at hn
  simp only [PT.nd]
  have:=PT.len_nsq kids
  exact⟨fun hk hl=>⟨(h2 hk).2.2,by omega⟩,formed_nds h1 (by omega)⟩
theorem formed_nds:∀{l:List PT},formedBs l=true→PT.ns l<1099511627776→PT.nds l
 | [],_,_=>trivial
 | t::r,h,hn=>by
  simp only [formedBs,bA] at h
  simp only [PT.ns] at hn
  simp only [PT.nds]
  exact⟨formed_nd h.1 (by omega),formed_nds h.2 (by omega)⟩
end
theorem getD_at {α:Type} {l:List α} {i:Nat} {z:α} (h:i<l.length):l.getD i z=l[i]:=by
 rw [List.getD_eq_getElem?_getD,gE h];rfl
def sameB (a b:PT):Bool:=if formedB a && formedB b then eqT (sortT a) (sortT b) else eqT a b
theorem sameB_self (a:PT):sameB a a=true:=by
 unfold sameB;split<;>exact eqT_true rfl
end Go.Dn

namespace Go.Dn
open Go Go.Proofs.C1
set_option maxRecDepth 100000
attribute [local irreducible] afterS keepE
theorem oks_iff:∀{l:List PT},PT.oks l↔∀u∈l,u.ok
 | []=>⟨fun _ u h=>by simp at h,fun _=>trivial⟩
 | t::r=>by
  simp only [PT.oks,oks_iff (l:=r),List.mem_cons]
  exact⟨fun h u hu=>by rcases hu with rfl | hu;exact h.1;exact h.2 u hu,fun h=>⟨h t (.inl rfl),fun u hu=>h u (.inr hu)⟩⟩
mutual
theorem sort_ok:∀{t:PT},t.ok→(sortT t).ok
 |.mk k s keys kids,h=>by
  simp only [PT.ok] at h
  have hs:=sorts_ok h.2.2
  have hsl:(sortTs kids).length=kids.length:=by rw [sortTs_map,List.length_map]
  rw [sortT]
  split
  ·simp only [PT.ok,List.length_map,ordK_len]
   refine⟨h.1,by omega,oks_iff.2 fun u hu=>?_⟩
   obtain⟨i,hi,rfl⟩:=List.mem_map.1 hu
   have:=ordK_lt hi
   rw [getD_at (by omega)]
   exact oks_iff.1 hs _ (List.getElem_mem _)
  ·simp only [PT.ok]
   exact⟨h.1,by omega,hs⟩
theorem sorts_ok:∀{l:List PT},PT.oks l→PT.oks (sortTs l)
 | [],_=>trivial
 | t::r,h=>by
  simp only [PT.oks] at h
  simp only [sortTs,PT.oks]
  exact⟨sort_ok h.1,sorts_ok h.2⟩
end
section
variable {gt:GT} {C:CallT}
abbrev E_eql (a c:List (List UInt8)) (i:Nat):Env:=[(0,.val (.sl 1 stat (strs a))),(1,.val (.sl 1 stat (strs c))),(12,.val (.int .i64 (strs a).length)),(13,.val (.int .i64 i))]
set_option maxHeartbeats 2000000 in
theorem slEqual_wp (hm:MonoC C) {a c:List (List UInt8)} (hl:a.length<4611686018427387904):wpF gt C F70 [.sl 1 stat (strs a),.sl 1 stat (strs c)] St.init (Ret (.bool (decide (a=c)))):=by
 have no:∀{S:St},¬a=c→Ret (.bool (decide (a=c))) (.ret (.bool false)) S:=fun h=>by rw [dF h];exact Ret.sta trivial
 have l1:=strs_length a
 have l2:=strs_length c
 refine⟨rfl,?_⟩
 refine goW ?_
 by_cases z:((strs a).length:Int)=(strs c).length
 case neg =>
  rw [neI_true z]
  refine goW ?_
  exact⟨_,rfl,no fun h=>by rw [h] at z;exact z rfl⟩
 rw [neI_false z]
 refine goW ?_
 refine loop_rule hm (α:=Nat) (fun i env S'=>i≤a.length∧env=E_eql a c i∧S'=St.init∧a.take i=c.take i) (fun i=>a.length-i) ?_ (a:=0) ⟨Nat.zero_le _,rfl,rfl,rfl⟩
 rintro i env S' ⟨hi,rfl,rfl,hp⟩
 refine goW ?_
 by_cases h:(i:Int)<(strs a).length
 ·rw [dT h]
  refine goW ?_
  have hik:i<a.length:=by omega
  have hik':i<c.length:=by omega
  refine step_ruleDO rfl rfl (sx_ia (k:=i) rfl rfl (by omega)) (goW ?_)
  refine step_ruleDO rfl rfl (sx_ldEl (agg:=false) rfl rfl (strs_at hik) rfl) (goW ?_)
  refine step_ruleDO rfl rfl (sx_ia (k:=i) rfl rfl (by omega)) (goW ?_)
  refine step_ruleDO rfl rfl (sx_ldEl (agg:=false) rfl rfl (strs_at hik') rfl) (goW ?_)
  by_cases z:a[i]=c[i]
  ·rw [beqB_true z]
   refine goW ?_
   refine⟨i+1,⟨by omega,?_,rfl,?_⟩,by omega⟩
   ·rw [wrNat (by omega)];try rfl
   ·rw [tS hik,tS hik',hp,z]
  ·rw [beqB_false z]
   refine goW ?_
   exact⟨_,rfl,no fun h=>by subst h;exact z rfl⟩
 rw [dF h]
 refine goW ?_
 rw [List.take_of_length_le (by omega),List.take_of_length_le (by omega)] at hp
 refine⟨_,rfl,?_⟩
 rw [dT hp]
 exact Ret.sta trivial
abbrev E_eqf (f:FuncId) (a c:List PT) (i:Nat):Env:=[(1,.val (.sl 4 stat (encTs c))),(2,.val (.fn f [] [])),(15,.val (.sl 4 stat (encTs a))),(16,.val (.int .i64 (encTs a).length)),(17,.val (.int .i64 i))]
theorem eqTs_false {a c:List PT} (h:¬a=c):eqTs a c=false:=by
 cases hh:eqTs a c with
 | false=>rfl
 | true=>exact absurd (eqTs_iff.1 hh) h
set_option maxHeartbeats 2000000 in
theorem eqFunc_wp (hm:MonoC C) {a c:List PT} (ih:∀u,u.n≤PT.ns a→u.ok→∀v,PF C 56 [encT u,encT v] (.bool (eqT u v))) (hk:PT.oks a) (hl:a.length<4611686018427387904) :
  wpF gt C F71 [.sl 4 stat (encTs a),.sl 4 stat (encTs c),.fn 56 [] []] St.init (Ret (.bool (eqTs a c))):=by
 have no:∀{S:St},¬a=c→Ret (.bool (eqTs a c)) (.ret (.bool false)) S:=fun h=>by rw [eqTs_false h];exact Ret.sta trivial
 have l1:=encTs_len a
 have l2:=encTs_len c
 refine⟨rfl,?_⟩
 refine goW ?_
 by_cases z:((encTs a).length:Int)=(encTs c).length
 case neg =>
  rw [neI_true z]
  refine goW ?_
  exact⟨_,rfl,no fun h=>by rw [h] at z;exact z rfl⟩
 rw [neI_false z]
 refine goW ?_
 refine loop_rule hm (α:=Nat) (fun i env S'=>i≤a.length∧env=E_eqf 56 a c i∧S'=St.init∧a.take i=c.take i) (fun i=>a.length-i) ?_ (a:=0) ⟨Nat.zero_le _,rfl,rfl,rfl⟩
 rintro i env S' ⟨hi,rfl,rfl,hp⟩
 refine goW ?_
 by_cases h:(i:Int)<(encTs a).length
 ·rw [dT h]
  refine goW ?_
  have hik:i<a.length:=by omega
  have hik':i<c.length:=by omega
  have ihk:=ih _ (PT.ns_mem (List.getElem_mem hik)) (PT.oks_get hk (gE hik)) c[i]
  have e1:=encTs_get hik
  have e2:=encTs_get hik'
  have r1:=rdT a[i]
  have r2:=rdT c[i]
  obtain⟨k1,s1,x1,y1,g1⟩:=encT_agg a[i]
  obtain⟨k2,s2,x2,y2,g2⟩:=encT_agg c[i]
  rw [g1] at ihk e1 r1
  rw [g2] at ihk e2 r2
  refine step_ruleO (sx_ia (k:=i) rfl rfl (by omega)) (goW ?_)
  refine step_ruleO (sx_ldEl (agg:=true) rfl rfl e1 r1) (goW ?_)
  refine step_ruleO (sx_ia (k:=i) rfl rfl (by omega)) (goW ?_)
  refine step_ruleO (sx_ldEl (agg:=true) rfl rfl e2 r2) (goW ?_)
  refine call_pf hm (by rfl) ihk (goW ?_)
  by_cases z:a[i]=c[i]
  ·rw [eqT_true z]
   refine goW ?_
   refine⟨i+1,⟨by omega,?_,rfl,?_⟩,by omega⟩
   ·rw [wrNat (by omega)];try rfl
   ·rw [tS hik,tS hik',hp,z]
  ·rw [eqT_false z]
   refine goW ?_
   exact⟨_,rfl,no fun h=>by subst h;exact z rfl⟩
 rw [dF h]
 refine goW ?_
 rw [List.take_of_length_le (by omega),List.take_of_length_le (by omega)] at hp
 refine⟨_,rfl,?_⟩
 rw [eqTs_iff.2 hp]
 exact Ret.sta trivial
set_option maxHeartbeats 2000000 in
theorem identical_wp (hm:MonoC C) {t u:PT} (hk:t.ok) (he:∀a c:List (List UInt8),a.length<4611686018427387904→PF C 70 [.sl 1 stat (strs a),.sl 1 stat (strs c)] (.bool (decide (a=c)))) (hf:∀c:List PT,PF C 71 [.sl 4 stat (encTs t.kids),.sl 4 stat (encTs c),.fn 56 [] []] (.bool (eqTs t.kids c))) :
  wpF gt C F56 [encT t,encT u] St.init (Ret (.bool (eqT t u))):=by
 obtain⟨k,s,keys,kids⟩:=t
 obtain⟨k',s',keys',kids'⟩:=u
 simp only [PT.ok] at hk
 have he:=he keys keys' (by omega)
 have hf:=hf kids'
 simp only [PT.kids] at hf
 rw [eqT]
 refine⟨rfl,?_⟩
 refine goW ?_
 by_cases z0:k=k'
 case neg =>
  rw [eqI_false z0,dF z0]
  refine goW ?_
  exact⟨_,rfl,Ret.sta trivial⟩
 rw [eqI_true z0,dT z0]
 refine goW ?_
 by_cases z1:s=s'
 case neg =>
  rw [beqB_false z1,dF z1]
  refine goW ?_
  exact⟨_,rfl,Ret.sta trivial⟩
 rw [beqB_true z1,dT z1]
 refine goW ?_
 by_cases z2:keys=keys'
 case neg =>
  rw [dF z2] at he
  refine call_pf hm (by rfl) he ?_
  rw [dF z2]
  refine goW ?_
  exact⟨_,rfl,Ret.sta trivial⟩
 rw [dT z2] at he
 refine call_pf hm (by rfl) he ?_
 rw [dT z2]
 refine goW ?_
 refine call_pf hm (by rfl) hf (goW ?_)
 exact⟨_,rfl,Ret.sta trivial⟩
set_option maxHeartbeats 2000000 in
theorem same_wp (hm:MonoC C) (hi:∀t u:PT,t.ok→PF C 56 [encT t,encT u] (.bool (eqT t u))) (hs:∀t:PT,t.ok→t.nd→PF C 57 [encT t] (encT (sortT t)))
  {a c:PT} (ha:PF C 54 [encT a] (.bool (formedB a))) (hc:PF C 54 [encT c] (.bool (formedB c))) (a1:a.ok) (a2:formedB a=true→a.nd) (c1:c.ok) (c2:formedB c=true→c.nd) :
  wpF gt C F30 [encT a,encT c] St.init (Ret (.bool (sameB a c))):=by
 have h1:=hi a c a1
 have h2:=hi (sortT a) (sortT c) (sort_ok a1)
 have s1:=hs a a1
 have s2:=hs c c1
 have key:∀r,sameB a c=r→(formedB a=true→formedB c=true→eqT (sortT a) (sortT c)=r)∧(¬(formedB a=true∧formedB c=true)→eqT a c=r):=fun r e=>by
  unfold sameB at e
  refine⟨fun x y=>?_,fun n=>?_⟩
  ·rw [x,y] at e;exact e
  ·rw [if_neg (by rw [bA];exact n)] at e;exact e
 generalize hr:sameB a c=res
 obtain⟨k1,k2⟩:=key res hr
 clear key hr
 obtain⟨ka,sa,xa,ya,ga⟩:=encT_agg a
 obtain⟨kc,sc,xc,yc,gc⟩:=encT_agg c
 rw [ga] at ha h1 s1 ⊢
 rw [gc] at hc h1 s2 ⊢
 cases fa:formedB a with
 | false =>
  rw [fa] at ha
  rw [k2 (by simp [fa])] at h1
  refine⟨rfl,?_⟩
  refine goW ?_
  refine call_pf hm (by rfl) ha (goW ?_)
  refine call_pf hm (by rfl) h1 (goW ?_)
  exact⟨_,rfl,Ret.sta trivial⟩
 | true =>
  cases fc:formedB c with
  | false =>
   rw [fa] at ha
   rw [fc] at hc
   rw [k2 (by simp [fc])] at h1
   refine⟨rfl,?_⟩
   refine goW ?_
   refine call_pf hm (by rfl) ha (goW ?_)
   refine call_pf hm (by rfl) hc (goW ?_)
   refine call_pf hm (by rfl) h1 (goW ?_)
   exact⟨_,rfl,Ret.sta trivial⟩
  | true =>
   rw [fa] at ha
   rw [fc] at hc
   rw [k1 fa fc] at h2
   have s1:=s1 (a2 fa)
   have s2:=s2 (c2 fc)
   obtain⟨ka',sa',xa',ya',ga'⟩:=encT_agg (sortT a)
   obtain⟨kc',sc',xc',yc',gc'⟩:=encT_agg (sortT c)
   rw [ga'] at s1 h2
   rw [gc'] at s2 h2
   refine⟨rfl,?_⟩
   refine goW ?_
   refine call_pf hm (by rfl) ha (goW ?_)
   refine call_pf hm (by rfl) hc (goW ?_)
   refine call_pfD hm (by rfl) s1 (goW ?_)
   refine call_pfD hm (by rfl) s2 (goW ?_)
   refine call_pfD hm (by rfl) h2 (goW ?_)
   exact⟨_,rfl,Ret.sta trivial⟩
end
end Go.Dn

namespace Go.Proofs.YthjebaophnkpbaaGreatDoor.Fn
open Go.ChangeShapes Go.WideShapes Go.ChangeAt Go.RowKit Go.Dn
section
variable {R:List Rs} {ty:TypeId} {t b:Nat}
theorem swapC (g:AV):SwapC A R ty t b g:=fun S xs P X M Y Q a c n ha hc hn hx hl hxy hA=>by
 subst ha hc hn
 exact AC_intro Tryz.checked.mixed Tryz.func150 (by kernel_rfl) C1.F150_ok (swap_wp hm hx hl hxy hA)
theorem rotC (f:FuncId) (cs:List AV):RotC A R ty t b (.fn f [] cs):=fun S xs P X Y Q a m c ha hmm hc h1 h2 hx hl hA=>by
 subst ha hmm hc
 exact AC_intro Tryz.checked.mixed Tryz.func133 (by kernel_rfl) C1.F133_ok (rot_wp hm (swapC _) h1 h2 hx hl hA)
theorem insC {f:FuncId} {cs:List AV} {n:Nat} {cz:Nat→Nat→Int} (hz:Cz cz) (hc:CmpC A f cs R ty t b n cz):InsC A R ty t b n (.fn f [] cs) cz:=fun S xs P X Q a c ha hcc hX hx hl hA=>by
 subst ha hcc
 exact AC_intro Tryz.checked.mixed Tryz.func108 (by kernel_rfl) C1.F108_ok (ins_wp hm hz hc hX hx hl hA)
theorem mrgA {f:FuncId} {cs:List AV} {n:Nat} {cz:Nat→Nat→Int} (hz:Cz cz) (hc:CmpC A f cs R ty t b n cz):∀k,MrgC A R ty t b n (.fn f [] cs) cz k :=
 mrgC (gt:=gtT) hm (fun us S Q h=>AC_intro Tryz.checked.mixed Tryz.func109 (by kernel_rfl) C1.F109_ok h) hz hc (rotC f cs)
theorem stbC {f:FuncId} {cs:List AV} {n:Nat} {cz:Nat→Nat→Int} (hz:Cz cz) (hc:CmpC A f cs R ty t b n cz):StbC A R ty t b n (.fn f [] cs) cz 90 fun xs=>[slA t xs.length xs,.int .i64 xs.length,.fn f [] cs]:=fun S xs L hn hx hl hA =>
 AC_intro Tryz.checked.mixed Tryz.func90 (by kernel_rfl) C1.F90_ok (stb_wp hm (insC hz hc) (mrgA hz hc) hn hx hl hA)
theorem sstC {f:FuncId} {cs:List AV} {n:Nat} {cz:Nat→Nat→Int} (hz:Cz cz) (hc:CmpC A f cs R ty t b n cz):SstC A R ty t b n (.fn f [] cs) cz:=fun S xs L hn hx hl hA =>
 AC_intro Tryz.checked.mixed Tryz.func76 (by kernel_rfl) C1.F76_ok (sst_wp hm (stbC hz hc) hn hx hl hA)
end
theorem ins0 (g:AV) (S:St):A 108 [slN,.int .i64 0,.int .i64 0,g] S fun r S'=>r=.ret (.tup [])∧S'=S :=
 AC_intro Tryz.checked.mixed Tryz.func108 (by kernel_rfl) C1.F108_ok ins0_wp
theorem stb0 (g:AV) (S:St):A 90 [slN,.int .i64 0,g] S fun r S'=>r=.ret (.tup [])∧S'=S :=
 AC_intro Tryz.checked.mixed Tryz.func90 (by kernel_rfl) C1.F90_ok (stb0_wp hm (ins0 g))
theorem sst0 (g:AV) (S:St):A 76 [slN,g] S fun r S'=>r=.ret (.tup [])∧S'=S :=
 AC_intro Tryz.checked.mixed Tryz.func76 (by kernel_rfl) C1.F76_ok (sst0_wp hm (stb0 g))
theorem cmpS (a c:List UInt8):PF A 91 [.str a,.str c] (.int .i64 (cmpB a c)) :=
 pf Tryz.func91 (by kernel_rfl) C1.F91_ok (s2 trivial trivial) cmpS_wp
theorem compareS (a c:List UInt8):PF A 78 [.str a,.str c] (.int .i64 (cmpB a c)) :=
 pf Tryz.func78 (by kernel_rfl) C1.F78_ok (s2 trivial trivial) (compare_wp hm cmpS)
theorem ord1 (keys:List (List UInt8)) (ty:TypeId) (t b:Nat):CmpC A 77 [.ptr 0 0] (R_k keys) ty t b keys.length (czK keys):=fun S l i j hA hi hj =>
 AC_intro Tryz.checked.mixed Tryz.func77 (by kernel_rfl) C1.F77_ok (ord1_wp hm compareS hA hi hj)
theorem order (keys:List (List UInt8)) (hd:keys.Nodup) (hl:keys.length<1099511627776):PF A 61 [.sl 1 stat (strs keys)] (.sl 1 stat (ints (ordK keys))) :=
 pf Tryz.func61 (by kernel_rfl) C1.F61_ok (s1 (sK keys)) (by
  cases keys with
  | nil =>
   have e:ordK ([]:List (List UInt8))=[]:=nL (ordK_len [])
   rw [e]
   exact order0_wp hm (sst0 _)
  | cons k r=>exact order_wp hm (fun t b=>sstC (czK_cz _) (ord1 _ _ t b)) hd (by simp) hl)
theorem sorted:∀t:PT,t.ok→t.nd→PF A 57 [encT t] (encT (sortT t)) :=
 indT fun t ih hk hd=>pf Tryz.func57 (by kernel_rfl) C1.F57_ok (s1 (sta_T t)) (sorted_wp hm order ih hk hd)
theorem slEqual (a c:List (List UInt8)) (h:a.length<4611686018427387904):PF A 70 [.sl 1 stat (strs a),.sl 1 stat (strs c)] (.bool (decide (a=c))) :=
 pf Tryz.func70 (by kernel_rfl) C1.F70_ok (s2 (sK a) (sK c)) (slEqual_wp hm h)
theorem identical:∀t u:PT,t.ok→PF A 56 [encT t,encT u] (.bool (eqT t u)) :=
 indT fun t ih u h=>pf Tryz.func56 (by kernel_rfl) C1.F56_ok (s2 (sta_T t) (sta_T u)) (identical_wp hm h slEqual fun c =>
  pf Tryz.func71 (by kernel_rfl) C1.F71_ok (s3 (sta_sl (sta_Ts t.kids)) (sta_sl (sta_Ts c)) ⟨trivial,trivial⟩)
   (eqFunc_wp hm (fun v hv hk w=>ih v (by cases t;simp only [PT.kids,PT.n] at hv ⊢;omega) w hk) (by cases t;simp only [PT.ok] at h;exact h.2.2) (by cases t;simp only [PT.ok] at h;simp only [PT.kids];omega)))
theorem same (a c:PT) (a0:a.sok) (a1:a.ok) (a2:a.n<1099511627776) (c0:c.sok) (c1:c.ok) (c2:c.n<1099511627776):PF A 30 [encT a,encT c] (.bool (sameB a c)) :=
 pf Tryz.func30 (by kernel_rfl) C1.F30_ok (s2 (sta_T a) (sta_T c)) (same_wp hm identical sorted (formed a a0) (formed c c0) a1 (fun h=>formed_nd h a2) c1 (fun h=>formed_nd h c2))
end Go.Proofs.YthjebaophnkpbaaGreatDoor.Fn

namespace Go.Dn
open Go Go.Proofs.C1
set_option maxRecDepth 100000
attribute [local irreducible] afterS keepE
theorem PN.ns_app:∀a b:List PN,PN.ns (a++b)=PN.ns a+PN.ns b
 | [],b=>by simp [PN.ns]
 | t::r,b=>by simp only [List.cons_append,PN.ns,PN.ns_app r b];omega
theorem PN.n_pos (t:PN):1≤t.n:=by cases t;simp only [PN.n];omega
theorem PN.len_ns:∀l:List PN,l.length≤PN.ns l
 | []=>Nat.le_refl _
 | t::r=>by have:=PN.len_ns r;have:=t.n_pos;simp only [PN.ns,lC];omega
mutual
def PN.dp:PN→Nat
 |.mk _ _ _ _ _ _ kids _ _ _ _=>PN.dps kids+1
def PN.dps:List PN→Nat
 | []=>0
 | t::r=>max (PN.dp t) (PN.dps r)
end
mutual
theorem PN.dp_le:∀t:PN,t.dp≤t.n
 |.mk _ _ _ _ _ _ kids _ _ _ _=>by have:=PN.dps_le kids;simp only [PN.dp,PN.n];omega
theorem PN.dps_le:∀l:List PN,PN.dps l≤PN.ns l
 | []=>Nat.le_refl _
 | t::r=>by have:=PN.dp_le t;have:=PN.dps_le r;simp only [PN.dps,PN.ns];omega
end
theorem PN.dps_app:∀a b:List PN,PN.dps (a++b)=max (PN.dps a) (PN.dps b)
 | [],b=>by simp [PN.dps]
 | t::r,b=>by simp only [List.cons_append,PN.dps,PN.dps_app r b];omega
section
variable {gt:GT} {C:CallT}
abbrev E_cn (n:Int) (kids:List PN) (i:Int):Env:=[(3,.val (.int .i64 n)),(7,.val (.sl 14 stat (encNs kids))),(8,.val (.int .i64 (encNs kids).length)),(9,.val (.int .i64 i))]
set_option maxHeartbeats 4000000 in
theorem countN_wp (hm:MonoC C) {t:PN} (ih:∀u,u.n<t.n→PF C 13 [encN u] (.int .i64 u.n)) (hl:t.n<4611686018427387904):wpF gt C F13 [encN t] St.init (Ret (.int .i64 t.n)):=by
 obtain⟨k,a,b,c,leaf,h,kids,seps,t,e,f⟩:=t
 have l1:=encNs_len kids
 have l3:=PN.len_ns kids
 have hn:(PN.mk k a b c leaf h kids seps t e f).n=PN.ns kids+1:=rfl
 refine⟨rfl,?_⟩
 refine goW ?_
 refine loop_rule hm (α:=Nat) (fun i env S'=>i≤kids.length∧env=E_cn ((PN.ns (kids.take i)+1:Nat):Int) kids i∧S'=St.init) (fun i=>kids.length-i) ?_ (a:=0) ⟨Nat.zero_le _,rfl,rfl⟩
 rintro i env S' ⟨hi,rfl,rfl⟩
 refine goW ?_
 by_cases hc:(i:Int)<(encNs kids).length
 ·rw [dT hc]
  refine goW ?_
  have hik:i<kids.length:=by omega
  have ihk:=ih _ (kidN_lt hik)
  have hkn:=kidN_lt (k:=k) (a:=a) (b:=b) (c:=c) (leaf:=leaf) (h:=h) (seps:=seps) (t:=t) (e:=e) (f:=f) hik
  have hts:PN.ns (kids.take (i+1))=PN.ns (kids.take i)+kids[i].n:=by rw [tS hik,PN.ns_app];simp [PN.ns]
  have hle:PN.ns (kids.take (i+1))≤PN.ns kids:=by
   conv=>rhs;rw [←tkD (i+1) kids,PN.ns_app]
   omega
  have hg:=encNs_get hik
  have hr:=rdN kids[i]
  obtain⟨_,_,_,_,_,_,_,_,_,_,_,_,_,_,he⟩:=encN_agg kids[i]
  rw [he] at ihk hg hr
  refine step_ruleO (sx_ia (k:=i) rfl rfl (by omega)) (goW ?_)
  refine step_ruleO (sx_ldEl (agg:=true) rfl rfl hg hr) (goW ?_)
  refine call_pf hm (by rfl) ihk (goW ?_)
  refine⟨i+1,⟨by omega,?_,rfl⟩,by omega⟩
  rw [wrNat (by omega),wr64 (by omega) (by omega),hts,show ((PN.ns (kids.take i)+1:Nat):Int)+(kids[i].n:Int)=((PN.ns (kids.take i)+kids[i].n+1:Nat):Int) by omega]
  try rfl
 ·rw [dF hc]
  refine goW ?_
  refine⟨_,rfl,?_⟩
  rw [List.take_of_length_le (by omega),hn]
  exact Ret.sta trivial
set_option maxHeartbeats 4000000 in
theorem depthN_wp (hm:MonoC C) {t:PN} (ih:∀u,u.n<t.n→PF C 40 [encN u] (.int .i64 u.dp)) (hl:t.n<4611686018427387904):wpF gt C F40 [encN t] St.init (Ret (.int .i64 t.dp)):=by
 have hdl:=PN.dp_le t
 obtain⟨k,a,b,c,leaf,h,kids,seps,t,e,f⟩:=t
 have l1:=encNs_len kids
 have l3:=PN.len_ns kids
 have hn:(PN.mk k a b c leaf h kids seps t e f).n=PN.ns kids+1:=rfl
 have hd:(PN.mk k a b c leaf h kids seps t e f).dp=PN.dps kids+1:=rfl
 refine⟨rfl,?_⟩
 refine goW ?_
 refine loop_rule hm (α:=Nat) (fun i env S'=>i≤kids.length∧env=E_cn ((PN.dps (kids.take i):Nat):Int) kids i∧S'=St.init) (fun i=>kids.length-i) ?_ (a:=0) ⟨Nat.zero_le _,rfl,rfl⟩
 rintro i env S' ⟨hi,rfl,rfl⟩
 refine goW ?_
 by_cases hc:(i:Int)<(encNs kids).length
 ·rw [dT hc]
  refine goW ?_
  have hik:i<kids.length:=by omega
  have ihk:=ih _ (kidN_lt hik)
  have hts:PN.dps (kids.take (i+1))=max (PN.dps (kids.take i)) kids[i].dp:=by rw [tS hik,PN.dps_app];simp [PN.dps]
  have hg:=encNs_get hik
  have hr:=rdN kids[i]
  obtain⟨_,_,_,_,_,_,_,_,_,_,_,_,_,_,he⟩:=encN_agg kids[i]
  rw [he] at ihk hg hr
  refine step_ruleO (sx_ia (k:=i) rfl rfl (by omega)) (goW ?_)
  refine step_ruleO (sx_ldEl (agg:=true) rfl rfl hg hr) (goW ?_)
  refine call_pf hm (by rfl) ihk (goW ?_)
  refine⟨i+1,⟨by omega,?_,rfl⟩,by omega⟩
  rw [wrNat (by omega),bmax,hts]
  try rfl
 ·rw [dF hc]
  refine goW ?_
  refine⟨_,rfl,?_⟩
  rw [List.take_of_length_le (by omega),hd,wrNat (by omega)]
  exact Ret.sta trivial
end

theorem rv_nil {S:St} {G:Gh} {w:World} {es:Nat} {nl:Bool} {v:Value} (h:Rv S G w (.sl es ⟨none,0,some 0,nl⟩ []) v):Rv S G w (.sl es stat []) v:=by
 simp only [Rv] at h ⊢
 obtain⟨a,len,cap,hv,⟨h1,h2,h3,h4,h5,h6⟩,_⟩:=h
 have hc:cap=0:=h4 0 rfl
 exact⟨a,len,cap,hv,⟨h1,h2,⟨fun e=>(by cases e),fun e=>(by cases e)⟩,fun c e=>(by cases e),h5,fun p _ h=>by omega⟩,fun _ _ _=>by simp only [Rat]⟩
theorem rv_zT {S:St} {G:Gh} {w:World} {v:Value} (h:Rv S G w (.agg zT) v):Rv S G w (encT zPT) v:=by
 simp only [zPT,encT,Rv] at h ⊢
 obtain⟨vs,hv,hr⟩:=h
 refine⟨vs,hv,?_⟩
 simp only [Rl] at hr ⊢
 obtain⟨v0,r0,e0,a0,v1,r1,e1,a1,v2,r2,e2,a2,v3,r3,e3,a3,e4⟩:=hr
 exact⟨v0,r0,e0,a0,v1,r1,e1,a1,v2,r2,e2,rv_nil a2,v3,r3,e3,rv_nil a3,e4⟩
theorem PF.zero {P:Program} {gt:GT} {f:FuncId} {x u:AV} (h:PF (AC P gt) f [x,encT zPT] u):PF (AC P gt) f [x,.agg zT] u:=fun S =>
 ⟨(h S).1,fun G w args hI hx=>(h S).2 G w args hI (by
  simp only [Rl] at hx ⊢
  obtain⟨v,r,rfl,hv,v2,r2,e2,hv2,e3⟩:=hx
  exact⟨v,r,rfl,hv,v2,r2,e2,rv_zT hv2,e3⟩)⟩
mutual
def PN.sok:PN→Prop
 |.mk _ _ b _ leaf _ kids seps _ _ _=>leaf.sok∧leaf.ok∧leaf.n<1099511627776∧b.length<4294967281∧kids.length<2305843009213693952∧seps.length<2305843009213693952∧PN.soks kids
def PN.soks:List PN→Prop
 | []=>True
 | t::r=>PN.sok t∧PN.soks r
end
theorem PN.soks_get:∀{l:List PN} {i:Nat} (h:i<l.length),PN.soks l→(l[i]).sok
 | a::r,0,_,h=>by simp only [PN.soks] at h;exact h.1
 | a::r,i+1,hi,h=>by simp only [PN.soks] at h;exact PN.soks_get (l:=r) (i:=i) (by simpa using hi) h.2
theorem PN.sok_key {n:PN} (h:n.sok):n.key.length<4294967281:=by cases n;simp only [PN.sok] at h;exact h.2.2.2.1
def leafOK (k:Int) (leaf:PT) (h:List UInt8) (m n:Nat) (t:List UInt8):Bool :=
 decide (leaf.k=k) && (decide (rightB leaf=0) && (beqB h [] && (beqB t [] && (decide (m=0) && decide (n=0)))))
def headOK (k:Int) (c:List UInt8) (leaf:PT) (m n:Nat):Bool :=
 (decide (k=6) || decide (k=7)) && (beqB c [] && (eqT leaf zPT && decide (n=m-1)))
mutual
def formN:PN→Bool
 |.mk k _ _ c leaf h kids seps t _ _=>if leafK k=true then leafOK k leaf h kids.length seps.length t else headOK k c leaf kids.length seps.length && formK k [] kids
def formK:Int→List (List UInt8)→List PN→Bool
 | _,_,[]=>true
 | k,seen,n::r=>if k=7 then (if n.key∈seen then false else validB n.key && (formN n && formK k (seen++[n.key]) r)) else (beqB n.key [] && (formN n && formK k (seen++[n.key]) r))
end
section
variable {gt:GT} {C:CallT}
abbrev E_fo (n:PN) (kids:List PN) (i:Int):Env:=[(1,.box (encN n).cells),(3,.val (.map 0)),(75,.val (.sl 14 stat (encNs kids))),(76,.val (.int .i64 (encNs kids).length)),(77,.val (.int .i64 i))]
set_option maxHeartbeats 16000000 in
theorem formNx_wp (hm:MonoC C) (hlf:∀n:PN,PF C 58 [encN n] (.bool (leafK n.k))) (hr:∀t:PT,t.sok→t.n<1099511627776→PF C 28 [encT t] (.int .i64 (rightB t)))
  (hz:∀t:PT,t.sok→t.ok→t.n<1099511627776→PF C 30 [encT t,.agg zT] (.bool (eqT t zPT))) (hv:∀s:List UInt8,s.length<4611686018427387904→PF C 63 [.str s] (.bool (validB s)))
  {n:PN} (ih:∀u,u.n<n.n→u.sok→PF C 41 [encN u] (.bool (formN u))) (hs:n.sok) (h67:¬n.k=6∧¬n.k=7):wpF gt C F41 [encN n] St.init (Ret (.bool (formN n))):=by
 have hlf:=hlf n
 obtain⟨k,a,b,c,leaf,h,kids,seps,t,e,f⟩:=n
 simp only [PN.sok] at hs
 obtain⟨hs1,hs2,hs3,hs4,hs5,hs6,hs7⟩:=hs
 have hr:=hr leaf hs1 hs3
 have hz:=hz leaf hs1 hs2 hs3
 rw [encT_eq] at hr hz
 have l1:=encNs_len kids
 have l2:=strs_length seps
 simp only [PN.k] at hlf h67
 have ret:∀{z:Bool} {S:St},formN (.mk k a b c leaf h kids seps t e f)=z→Ret (.bool (formN (.mk k a b c leaf h kids seps t e f))) (.ret (.bool z)) S:=fun h=>by rw [h];exact Ret.sta trivial
 have hf:formN (.mk k a b c leaf h kids seps t e f)=if leafK k=true then leafOK k leaf h kids.length seps.length t else headOK k c leaf kids.length seps.length && formK k [] kids:=by rw [formN]
 generalize formN (.mk k a b c leaf h kids seps t e f)=res at ret hf ⊢
 refine⟨rfl,?_⟩
 refine goW ?_
 refine call_pf hm (by rfl) hlf ?_
 cases lk:leafK k with
 | true =>
  rw [lk,if_pos rfl] at hf
  unfold leafOK at hf
  refine goW ?_
  by_cases z1:leaf.k=k
  case neg =>
   rw [eqI_false z1]
   rw [dF z1,Bool.false_and] at hf
   refine goW ?_
   exact⟨_,rfl,ret hf⟩
  rw [eqI_true z1]
  rw [dT z1,Bool.true_and] at hf
  refine goW ?_
  refine call_pf hm (by rfl) hr (goW ?_)
  by_cases z2:rightB leaf=0
  case neg =>
   rw [eqI_false z2]
   rw [dF z2,Bool.false_and] at hf
   refine goW ?_
   exact⟨_,rfl,ret hf⟩
  rw [eqI_true z2]
  rw [dT z2,Bool.true_and] at hf
  refine goW ?_
  cases z3:beqB h [] with
  | false =>
   rw [z3,Bool.false_and] at hf
   refine goW ?_
   exact⟨_,rfl,ret hf⟩
  | true =>
  rw [z3,Bool.true_and] at hf
  refine goW ?_
  cases z4:beqB t [] with
  | false =>
   rw [z4,Bool.false_and] at hf
   refine goW ?_
   exact⟨_,rfl,ret hf⟩
  | true =>
  rw [z4,Bool.true_and] at hf
  refine goW ?_
  by_cases z5:kids.length=0
  case neg =>
   rw [eqI_false (show ¬((encNs kids).length:Int)=0 by omega)]
   rw [dF z5,Bool.false_and] at hf
   refine goW ?_
   exact⟨_,rfl,ret hf⟩
  rw [eqI_true (show ((encNs kids).length:Int)=0 by omega)]
  rw [dT z5,Bool.true_and] at hf
  refine goW ?_
  by_cases z6:seps.length=0
  ·rw [eqI_true (show ((strs seps).length:Int)=0 by omega)]
   rw [dT z6] at hf
   refine goW ?_
   exact⟨_,rfl,ret hf⟩
  ·rw [eqI_false (show ¬((strs seps).length:Int)=0 by omega)]
   rw [dF z6] at hf
   refine goW ?_
   exact⟨_,rfl,ret hf⟩
 | false =>
 rw [lk,if_neg (by simp)] at hf
 unfold headOK at hf
 refine goW ?_
 rw [neI_true h67.1]
 rw [dF h67.1,dF h67.2,Bool.or_self,Bool.false_and,Bool.false_and] at hf
 refine goW ?_
 rw [neI_true h67.2]
 refine goW ?_
 exact⟨_,rfl,ret hf⟩
end

section
variable {gt:GT} {C:CallT}
set_option maxHeartbeats 16000000 in
theorem formN7_wp (hm:MonoC C) (hlf:∀n:PN,PF C 58 [encN n] (.bool (leafK n.k)))
  (hz:∀t:PT,t.sok→t.ok→t.n<1099511627776→PF C 30 [encT t,.agg zT] (.bool (eqT t zPT))) (hv:∀s:List UInt8,s.length<4611686018427387904→PF C 63 [.str s] (.bool (validB s)))
  {a b c:List UInt8} {leaf:PT} {h:List UInt8} {kids:List PN} {seps:List (List UInt8)} {t e:List UInt8} {f:Int} (ih:∀u,u.n<(PN.mk 7 a b c leaf h kids seps t e f).n→u.sok→PF C 41 [encN u] (.bool (formN u))) (hs:(PN.mk 7 a b c leaf h kids seps t e f).sok) :
  wpF gt C F41 [encN (.mk 7 a b c leaf h kids seps t e f)] St.init (Ret (.bool (formN (.mk 7 a b c leaf h kids seps t e f)))):=by
 have hlf:=hlf (.mk 7 a b c leaf h kids seps t e f)
 simp only [PN.sok] at hs
 obtain⟨hs1,hs2,hs3,hs4,hs5,hs6,hs7⟩:=hs
 have hz:=hz leaf hs1 hs2 hs3
 rw [encT_eq] at hz
 have l1:=encNs_len kids
 have l2:=strs_length seps
 rw [show leafK (PN.mk 7 a b c leaf h kids seps t e f).k=false from rfl] at hlf
 have ret:∀{z:Bool} {S:St},formN (.mk 7 a b c leaf h kids seps t e f)=z→Ret (.bool (formN (.mk 7 a b c leaf h kids seps t e f))) (.ret (.bool z)) S:=fun h=>by rw [h];exact Ret.sta trivial
 have hf:formN (.mk 7 a b c leaf h kids seps t e f)=(beqB c [] && (eqT leaf zPT && decide (seps.length=kids.length-1)) && formK 7 [] kids):=by rw [formN];rfl
 generalize formN (.mk 7 a b c leaf h kids seps t e f)=res at ret hf ⊢
 refine⟨rfl,?_⟩
 refine goW ?_
 refine call_pf hm (by rfl) hlf (goW ?_)
 cases z1:beqB c [] with
 | false =>
  rw [z1,Bool.false_and,Bool.false_and] at hf
  refine goW ?_
  exact⟨_,rfl,ret hf⟩
 | true =>
 rw [z1,Bool.true_and] at hf
 refine goW ?_
 refine call_pf hm (by rfl) hz ?_
 cases z2:eqT leaf zPT with
 | false =>
  rw [z2,Bool.false_and,Bool.false_and] at hf
  refine goW ?_
  exact⟨_,rfl,ret hf⟩
 | true =>
 rw [z2,Bool.true_and] at hf
 refine goW ?_
 rw [wr64 (n:=((encNs kids).length:Int)-1) (by omega) (by omega)]
 have emax:(bif decide (((encNs kids).length:Int)-1 > 0) then ((encNs kids).length:Int)-1 else 0)=((kids.length-1:Nat):Int):=by
  by_cases q:((encNs kids).length:Int)-1 > 0
  ·rw [dT q,cond_true];omega
  ·rw [dF q,cond_false];omega
 rw [emax]
 by_cases z3:seps.length=kids.length-1
 case neg =>
  rw [neI_true (show ¬((strs seps).length:Int)=((kids.length-1:Nat):Int) by omega)]
  rw [dF z3,Bool.false_and] at hf
  refine goW ?_
  exact⟨_,rfl,ret hf⟩
 rw [neI_false (show ((strs seps).length:Int)=((kids.length-1:Nat):Int) by omega)]
 rw [dT z3,Bool.true_and] at hf
 clear emax z1 z2 z3 hz
 refine goW ?_
 refine loop_rule hm (α:=Nat) (fun i env S'=>i≤kids.length∧(Hs S' [.mp 0 (mpE (ones ((kids.take i).map PN.key)))])∧env=E_fo (.mk 7 a b c leaf h kids seps t e f) kids i∧res=formK 7 ((kids.take i).map PN.key) (kids.drop i)) (fun i=>kids.length-i) ?_ (a:=0) ⟨Nat.zero_le _,hs_mkm0,rfl,hf⟩
 clear hf
 rintro i env S' ⟨hi,hR,rfl,hf⟩
 refine goW ?_
 by_cases hc:(i:Int)<(encNs kids).length
 case neg =>
  rw [dF hc]
  rw [List.drop_eq_nil_of_le (by omega),formK] at hf
  refine goW ?_
  exact⟨_,rfl,ret hf⟩
 rw [dT hc]
 have hik:i<kids.length:=by omega
 have ihk:=ih _ (kidN_lt hik) (PN.soks_get hik hs7)
 have hkl:=PN.sok_key (PN.soks_get hik hs7)
 have htk:(kids.take (i+1)).map PN.key=(kids.take i).map PN.key++[kids[i].key]:=by rw [tS hik,List.map_append];rfl
 have hg:=encNs_get hik
 have hrd:=rdN kids[i]
 rw [dC hik,formK] at hf
 obtain⟨_,_,_,_,_,_,_,_,_,_,_,he⟩:=encN_parts kids[i]
 rw [he] at ihk hg hrd
 generalize kids[i].key=key at ihk hg hrd hf htk hkl
 generalize formN kids[i]=fk at ihk hf
 generalize kids[i].k=kk at ihk hg hrd
 generalize encNs kids[i].kids=kl at ihk hg hrd
 refine goW ?_
 refine step_ruleO (sx_ia (k:=i) rfl rfl (by omega)) (goW ?_)
 refine step_ruleO (sx_ldEl (agg:=true) rfl rfl hg hrd) (goW ?_)
 refine step_ruleO (sx_lkpS hR 0 rfl rfl rfl) ?_
 rw [if_pos rfl] at hf
 by_cases hs:key∈(kids.take i).map PN.key
 ·obtain⟨j,hj⟩:=posS_ones hs
  rw [if_pos hs] at hf
  rw [hj]
  refine goW ?_
  rw [show wr .i64 ((1:Int)+1)=2 from rfl]
  refine st_runP (r_mupS hR 0 rfl rfl rfl rfl) trivial ?_
  intro S2 hR
  refine goW ?_
  refine st_any (by exact rfl) (sx_lkpS hR 0 rfl rfl rfl) ?_
  rw [show posS key (putS key 2 (ones ((kids.take i).map PN.key))) 0=some (j,2) by unfold putS;rw [hj];exact posS_set hj]
  refine goW ?_
  exact⟨_,rfl,ret hf⟩
 have hj:=posS_no hs
 rw [if_neg hs] at hf
 rw [hj]
 refine goW ?_
 rw [show wr .i64 ((0:Int)+1)=1 from rfl]
 refine st_runP (r_mupS hR 0 rfl rfl rfl rfl) trivial ?_
 intro S2 hR
 refine goW ?_
 refine st_any (by exact rfl) (sx_lkpS hR 0 rfl rfl rfl) ?_
 have hput:putS key 1 (ones ((kids.take i).map PN.key))=ones ((kids.take (i+1)).map PN.key):=by unfold putS;rw [hj,htk];simp [ones]
 rw [show posS key (putS key 1 (ones ((kids.take i).map PN.key))) 0=some (0+(ones ((kids.take i).map PN.key)).length,1) by unfold putS;rw [hj];exact posS_app hj]
 rw [hput] at hR
 refine goW ?_
 refine call_pf hm (by rfl) (hv key (by omega)) ?_
 cases hvb:validB key with
 | false =>
  rw [hvb,Bool.false_and] at hf
  refine goW ?_
  exact⟨_,rfl,ret hf⟩
 | true =>
 rw [hvb,Bool.true_and] at hf
 refine goW ?_
 refine call_pf hm (by rfl) ihk ?_
 cases fk with
 | false =>
  rw [Bool.false_and] at hf
  refine goW ?_
  exact⟨_,rfl,ret hf⟩
 | true =>
  rw [Bool.true_and,←htk] at hf
  refine goW ?_
  refine⟨i+1,⟨by omega,hR,?_,hf⟩,by omega⟩
  rw [wrNat (by omega)]
end

section
variable {gt:GT} {C:CallT}
set_option maxHeartbeats 16000000 in
theorem formN6_wp (hm:MonoC C) (hlf:∀n:PN,PF C 58 [encN n] (.bool (leafK n.k)))
  (hz:∀t:PT,t.sok→t.ok→t.n<1099511627776→PF C 30 [encT t,.agg zT] (.bool (eqT t zPT))) (hv:∀s:List UInt8,s.length<4611686018427387904→PF C 63 [.str s] (.bool (validB s)))
  {a b c:List UInt8} {leaf:PT} {h:List UInt8} {kids:List PN} {seps:List (List UInt8)} {t e:List UInt8} {f:Int} (ih:∀u,u.n<(PN.mk 6 a b c leaf h kids seps t e f).n→u.sok→PF C 41 [encN u] (.bool (formN u))) (hs:(PN.mk 6 a b c leaf h kids seps t e f).sok) :
  wpF gt C F41 [encN (.mk 6 a b c leaf h kids seps t e f)] St.init (Ret (.bool (formN (.mk 6 a b c leaf h kids seps t e f)))):=by
 have hlf:=hlf (.mk 6 a b c leaf h kids seps t e f)
 simp only [PN.sok] at hs
 obtain⟨hs1,hs2,hs3,hs4,hs5,hs6,hs7⟩:=hs
 have hz:=hz leaf hs1 hs2 hs3
 rw [encT_eq] at hz
 have l1:=encNs_len kids
 have l2:=strs_length seps
 rw [show leafK (PN.mk 6 a b c leaf h kids seps t e f).k=false from rfl] at hlf
 have ret:∀{z:Bool} {S:St},formN (.mk 6 a b c leaf h kids seps t e f)=z→Ret (.bool (formN (.mk 6 a b c leaf h kids seps t e f))) (.ret (.bool z)) S:=fun h=>by rw [h];exact Ret.sta trivial
 have hf:formN (.mk 6 a b c leaf h kids seps t e f)=(beqB c [] && (eqT leaf zPT && decide (seps.length=kids.length-1)) && formK 6 [] kids):=by rw [formN];rfl
 generalize formN (.mk 6 a b c leaf h kids seps t e f)=res at ret hf ⊢
 refine⟨rfl,?_⟩
 refine goW ?_
 refine call_pf hm (by rfl) hlf (goW ?_)
 cases z1:beqB c [] with
 | false =>
  rw [z1,Bool.false_and,Bool.false_and] at hf
  refine goW ?_
  exact⟨_,rfl,ret hf⟩
 | true =>
 rw [z1,Bool.true_and] at hf
 refine goW ?_
 refine call_pf hm (by rfl) hz ?_
 cases z2:eqT leaf zPT with
 | false =>
  rw [z2,Bool.false_and,Bool.false_and] at hf
  refine goW ?_
  exact⟨_,rfl,ret hf⟩
 | true =>
 rw [z2,Bool.true_and] at hf
 refine goW ?_
 rw [wr64 (n:=((encNs kids).length:Int)-1) (by omega) (by omega)]
 have emax:(bif decide (((encNs kids).length:Int)-1 > 0) then ((encNs kids).length:Int)-1 else 0)=((kids.length-1:Nat):Int):=by
  by_cases q:((encNs kids).length:Int)-1 > 0
  ·rw [dT q,cond_true];omega
  ·rw [dF q,cond_false];omega
 rw [emax]
 by_cases z3:seps.length=kids.length-1
 case neg =>
  rw [neI_true (show ¬((strs seps).length:Int)=((kids.length-1:Nat):Int) by omega)]
  rw [dF z3,Bool.false_and] at hf
  refine goW ?_
  exact⟨_,rfl,ret hf⟩
 rw [neI_false (show ((strs seps).length:Int)=((kids.length-1:Nat):Int) by omega)]
 rw [dT z3,Bool.true_and] at hf
 clear emax z1 z2 z3 hz
 refine goW ?_
 refine loop_rule hm (α:=Nat) (fun i env S'=>i≤kids.length∧(∃es,Hs S' [.mp 0 (mpE es)])∧env=E_fo (.mk 6 a b c leaf h kids seps t e f) kids i∧res=formK 6 ((kids.take i).map PN.key) (kids.drop i)) (fun i=>kids.length-i) ?_ (a:=0) ⟨Nat.zero_le _,⟨[],hs_mkm0⟩,rfl,hf⟩
 clear hf
 rintro i env S' ⟨hi,⟨es,hR⟩,rfl,hf⟩
 refine goW ?_
 by_cases hc:(i:Int)<(encNs kids).length
 case neg =>
  rw [dF hc]
  rw [List.drop_eq_nil_of_le (by omega),formK] at hf
  refine goW ?_
  exact⟨_,rfl,ret hf⟩
 rw [dT hc]
 have hik:i<kids.length:=by omega
 have ihk:=ih _ (kidN_lt hik) (PN.soks_get hik hs7)
 have hkl:=PN.sok_key (PN.soks_get hik hs7)
 have htk:(kids.take (i+1)).map PN.key=(kids.take i).map PN.key++[kids[i].key]:=by rw [tS hik,List.map_append];rfl
 have hg:=encNs_get hik
 have hrd:=rdN kids[i]
 rw [dC hik,formK] at hf
 obtain⟨_,_,_,_,_,_,_,_,_,_,_,he⟩:=encN_parts kids[i]
 rw [he] at ihk hg hrd
 generalize kids[i].key=key at ihk hg hrd hf htk hkl
 generalize formN kids[i]=fk at ihk hf
 generalize kids[i].k=kk at ihk hg hrd
 generalize encNs kids[i].kids=kl at ihk hg hrd
 refine goW ?_
 refine step_ruleO (sx_ia (k:=i) rfl rfl (by omega)) (goW ?_)
 refine step_ruleO (sx_ldEl (agg:=true) rfl rfl hg hrd) (goW ?_)
 refine step_ruleO (sx_lkpS hR 0 rfl rfl rfl) ?_
 rw [if_neg (by omega)] at hf
 cases hps:posS key es 0
 all_goals
  refine goW ?_
  refine st_runP (r_mupS hR 0 rfl rfl rfl rfl) trivial ?_
  intro S2 hR
  refine goW ?_
  cases z4:beqB key [] with
  | false =>
   rw [z4,Bool.false_and] at hf
   refine goW ?_
   exact⟨_,rfl,ret hf⟩
  | true =>
  rw [z4,Bool.true_and] at hf
  refine goW ?_
  refine call_pf hm (by rfl) ihk ?_
  cases fk with
  | false =>
   rw [Bool.false_and] at hf
   refine goW ?_
   exact⟨_,rfl,ret hf⟩
  | true =>
   rw [Bool.true_and,←htk] at hf
   refine goW ?_
   refine⟨i+1,⟨by omega,⟨_,hR⟩,?_,hf⟩,by omega⟩
   rw [wrNat (by omega)]
end

section
variable {gt:GT} {C:CallT}
end

section
variable {gt:GT} {C:CallT}
end

section
variable {gt:GT} {C:CallT}
end

def rightN (n:PN):Bool:=decide (n.dp≤64) && (decide (n.n≤4096) && formN n)
mutual
def treeN:PN→PT
 |.mk k _ _ _ leaf _ kids _ _ _ _=>if leafK k=true then leaf else .mk k [] (if k=7 then kids.map PN.key else []) (treesN kids)
def treesN:List PN→List PT
 | []=>[]
 | n::r=>treeN n::treesN r
end
theorem treesN_map:∀l:List PN,treesN l=l.map treeN
 | []=>rfl
 | t::r=>by simp only [treesN,List.map_cons,treesN_map r]
def keysN (k:Int) (l:List PN):List (List UInt8):=if k=7 then l.map PN.key else []
theorem keysN_len (k:Int) (l:List PN):(keysN k l).length≤l.length:=by unfold keysN;split<;>simp
section
variable {gt:GT} {C:CallT}
set_option maxHeartbeats 4000000 in
theorem rightN_wp (hm:MonoC C) {n:PN} (hd:PF C 40 [encN n] (.int .i64 n.dp)) (hc:PF C 13 [encN n] (.int .i64 n.n)) (hf:PF C 41 [encN n] (.bool (formN n))) :
  wpF gt C F14 [encN n] St.init (Ret (.bool (rightN n))):=by
 have ret:∀{z:Bool} {S:St},rightN n=z→Ret (.bool (rightN n)) (.ret (.bool z)) S:=fun h=>by rw [h];exact Ret.sta trivial
 have hr:rightN n=(decide (n.dp≤64) && (decide (n.n≤4096) && formN n)):=rfl
 generalize rightN n=res at ret hr ⊢
 generalize n.dp=d at hd hr
 generalize n.n=m at hc hr
 generalize formN n=fb at hf hr
 obtain⟨_,_,_,_,_,_,_,_,_,_,_,_,_,_,he⟩:=encN_agg n
 rw [he] at hd hc hf ⊢
 refine⟨rfl,?_⟩
 refine goW ?_
 refine call_pf hm (by rfl) hd (goW ?_)
 by_cases z1:(d:Int)≤64
 case neg =>
  rw [dF z1]
  rw [dF (by omega),Bool.false_and] at hr
  refine goW ?_
  exact⟨_,rfl,ret hr⟩
 rw [dT z1]
 rw [dT (by omega),Bool.true_and] at hr
 refine goW ?_
 refine call_pf hm (by rfl) hc (goW ?_)
 by_cases z2:(m:Int)≤4096
 case neg =>
  rw [dF z2]
  rw [dF (by omega),Bool.false_and] at hr
  refine goW ?_
  exact⟨_,rfl,ret hr⟩
 rw [dT z2]
 rw [dT (by omega),Bool.true_and] at hr
 refine goW ?_
 refine call_pf hm (by rfl) hf (goW ?_)
 exact⟨_,rfl,ret hr⟩
abbrev E_mk (n:PN) (k:Int) (keys:List (List UInt8)) (o1 o2:SI) (ts:List PT) (kids:List PN) (i:Int):Env :=
 [(1,.box (encN n).cells),(2,.box zT),(3,.box [.int .i64 k,.str [],.sl 1 o1 (strs keys),.sl 4 o2 (encTs ts)]),(15,.val (.sl 14 stat (encNs kids))),(16,.val (.int .i64 (encNs kids).length)),(17,.val (.int .i64 i))]
set_option maxHeartbeats 8000000 in
theorem made_wp (hm:MonoC C) (hlf:∀n:PN,PF C 58 [encN n] (.bool (leafK n.k))) (hcp:∀t:PT,t.ok→PF C 49 [encT t] (encT t))
  {n:PN} (ih:∀u,u.n<n.n→u.ok→PF C 32 [encN u] (encT (treeN u))) (hk:n.ok):wpF gt C F32 [encN n] St.init (Ret (encT (treeN n))):=by
 have hlf:=hlf n
 obtain⟨k,a,b,c,leaf,h,kids,seps,t,e,f⟩:=n
 simp only [PN.ok] at hk
 obtain⟨hk1,hk2,hk3,hk4⟩:=hk
 have hcp:=hcp leaf hk1
 have sl:=sta_T leaf
 rw [encT_eq] at hcp sl
 have l1:=encNs_len kids
 simp only [PN.k] at hlf
 rw [treeN]
 refine⟨rfl,?_⟩
 refine goW ?_
 refine call_pf hm (by rfl) hlf ?_
 cases lk:leafK k with
 | true =>
  rw [if_pos rfl,encT_eq]
  refine goW ?_
  refine call_pf hm (by rfl) hcp (goW ?_)
  exact⟨_,rfl,Ret.sta sl⟩
 | false =>
 rw [if_neg (by simp)]
 have hR:=(Hs.init.addNil 9 true).addNil 25 true
 refine goW ?_
 refine loop_rule hm (α:=Nat) (fun i env S'=>i≤kids.length∧∃o1 o2,Hs S' [.gr 9 o1 (strs (keysN k (kids.take i))),.gr 25 o2 (encTs ((treesN kids).take i))]∧env=E_mk (.mk k a b c leaf h kids seps t e f) k (keysN k (kids.take i)) o1 o2 ((treesN kids).take i) kids i) (fun i=>kids.length-i) ?_ (a:=0) ⟨Nat.zero_le _,_,_,(by
  have e0:keysN k (kids.take 0)=[]:=by unfold keysN;split<;>rfl
  rw [e0];exact hR),(by
  have e0:keysN k (kids.take 0)=[]:=by unfold keysN;split<;>rfl
  rw [e0];rfl)⟩
 clear hR
 rintro i env S' ⟨hi,o1,o2,hR,rfl⟩
 have hsl:(treesN kids).length=kids.length:=by rw [treesN_map,List.length_map]
 refine goW ?_
 by_cases hc:(i:Int)<(encNs kids).length
 case neg =>
  rw [dF hc]
  refine goW ?_
  rw [List.take_of_length_le (show kids.length≤i by omega),List.take_of_length_le (show (treesN kids).length≤i by omega)] at hR ⊢
  exact⟨_,rfl,_,rfl,rdo_T hR (i:=0) (j:=1) rfl rfl⟩
 rw [dT hc]
 have hik:i<kids.length:=by omega
 have his:i<(treesN kids).length:=by omega
 have hge:(treesN kids)[i]=treeN kids[i]:=by simp only [treesN_map,List.getElem_map]
 have ihk:=ih _ (kidN_lt hik) (PN.oks_get hik hk4)
 have hok:=encT_ok (treeN kids[i])
 have hts:encTs ((treesN kids).take (i+1))=encTs ((treesN kids).take i)++[encT (treeN kids[i])]:=by rw [tS his,encTs_app,hge];rfl
 have hlt:(encTs ((treesN kids).take i)).length=i:=by rw [encTs_len,lT];omega
 have hkn:=keysN_len k (kids.take i)
 rw [lT] at hkn
 have hky:keysN k (kids.take (i+1))=if k=7 then keysN k (kids.take i)++[kids[i].key] else keysN k (kids.take i):=by
  unfold keysN
  split
  ·rw [tS hik,List.map_append];rfl
  ·rfl
 have hg:=encNs_get hik
 have hrd:=rdN kids[i]
 obtain⟨_,_,_,_,_,_,_,_,_,_,_,he⟩:=encN_parts kids[i]
 obtain⟨kb,sb,xb,yb,he2⟩:=encT_agg (treeN kids[i])
 rw [he] at ihk hg hrd
 rw [he2] at ihk hts hok
 generalize kids[i].key=key at ihk hg hrd hky
 generalize kids[i].k=kk at ihk hg hrd
 generalize encNs kids[i].kids=kl at ihk hg hrd
 generalize keysN k (kids.take i)=ks at hR hky hkn
 have l3:=strs_length ks
 generalize (treesN kids).take i=ts at hR hts hlt
 have nxt:∀{S3:St} {o3 o4:SI} {ks':List (List UInt8)},keysN k (kids.take (i+1))=ks'→Hs S3 [.gr 9 o3 (strs ks'),.gr 25 o4 (encTs ts++[.agg [.int .i64 kb,.str sb,.sl 1 stat xb,.sl 4 stat yb]])]→∃a':Nat,(a'≤kids.length∧∃o1 o2,Hs S3 [.gr 9 o1 (strs (keysN k (kids.take a'))),.gr 25 o2 (encTs ((treesN kids).take a'))] ∧
   [(1,.box (encN (.mk k a b c leaf h kids seps t e f)).cells),(2,.box zT),(3,.box [.int .i64 k,.str [],.sl 1 o3 (strs ks'),.sl 4 o4 (encTs ts++[.agg [.int .i64 kb,.str sb,.sl 1 stat xb,.sl 4 stat yb]])]),(15,.val (.sl 14 stat (encNs kids))),(16,.val (.int .i64 (encNs kids).length)),(17,.val (.int .i64 ((i+1:Nat):Int)))]=E_mk (.mk k a b c leaf h kids seps t e f) k (keysN k (kids.take a')) o1 o2 ((treesN kids).take a') kids a')∧kids.length-a'<kids.length-i:=fun e1 h1=>by
  subst e1
  rw [←hts] at h1 ⊢
  exact⟨i+1,⟨by omega,_,_,h1,rfl⟩,by omega⟩
 refine goW ?_
 refine step_ruleO (sx_ia (k:=i) rfl rfl (by omega)) (goW ?_)
 refine step_ruleO (sx_ldEl (agg:=true) rfl rfl hg hrd) (goW ?_)
 by_cases k7:k=7
 ·rw [eqI_true k7]
  rw [if_pos k7] at hky
  refine goW ?_
  obtain⟨hR,hsrc⟩:=hR.bldT 9 1
  refine r_app hR 0 rfl trivial rfl rfl (hsrc _ _ _) (by rw [l3];simp;omega) (by rw [l3];simp;omega) (by decide) (by decide) rfl ?_
  intro o3 S3 hR
  rw [show strs ks++(List.replicate 1 (AV.str [])).set 0 (.str key)=strs (ks++[key]) by simp [strs]] at hR ⊢
  refine goW ?_
  refine call_pfD hm (by rfl) ihk (goW ?_)
  refine r_appD hR 1 rfl (by trivial) rfl rfl rfl (by rw [hlt];simp;omega) (by rw [hlt];simp;omega) (by decide) (by decide) hok ?_
  intro o4 S4 hR
  refine goW ?_
  rw [wrNat (by omega)]
  exact nxt hky hR
 ·rw [eqI_false k7]
  rw [if_neg k7] at hky
  refine goW ?_
  refine call_pfD hm (by rfl) ihk (goW ?_)
  refine r_appD hR 1 rfl (by trivial) rfl rfl rfl (by rw [hlt];simp;omega) (by rw [hlt];simp;omega) (by decide) (by decide) hok ?_
  intro o4 S4 hR
  refine goW ?_
  rw [wrNat (by omega)]
  exact nxt hky hR
set_option maxHeartbeats 4000000 in
theorem treeP_wp (hm:MonoC C) {n:PN} (hr:PF C 14 [encN n] (.bool (rightN n))) (hd:PF C 32 [encN n] (encT (treeN n))) :
  wpF gt C F9 [encN n] St.init (Ret (.tup [encT (if rightN n=true then treeN n else zPT),.int .i64 (if rightN n=true then 0 else 1)])):=by
 have st:=sta_T (treeN n)
 obtain⟨kb,sb,xb,yb,he2⟩:=encT_agg (treeN n)
 rw [he2] at hd st
 generalize hres:rightN n=rn at hr ⊢
 obtain⟨_,_,_,_,_,_,_,_,_,_,_,_,_,_,he⟩:=encN_agg n
 rw [he] at hr hd ⊢
 refine⟨rfl,?_⟩
 refine goW ?_
 refine call_pf hm (by rfl) hr ?_
 cases rn with
 | false =>
  refine goW ?_
  exact⟨_,rfl,ret_tup2 rdo_zT trivial⟩
 | true =>
  rw [if_pos rfl,if_pos rfl,he2]
  refine goW ?_
  refine call_pf hm (by rfl) hd (goW ?_)
  exact⟨_,rfl,Ret.sta ⟨st,trivial,trivial⟩⟩
end

section
variable {gt:GT} {d:Option Nat} {env:Env} {S:St} {R:List Rs}
theorem sx_ldB0 (h:Hs S R) (i:Nat) {id:Nat} {ty:TypeId} {v w:AV} (hi:R[i]? = some (.bx id ty [v,w])) (hn:notAgg v=true) {a:DOpd} (ha:loc env a=some (.hp id 0)) :
  stepO gt d env S (.ld false 1 a)=.done (putV d v env) S:=by
 have hb:=(h.ok i _ hi).2
 have:ldL gt env S false 1 (.hp id 0)=some v:=by
  simp only [ldL,ldC,hb,cut]
  show mkv false [v]=some v
  simp only [mkv,hn,cond_true,cond_false]
 simp only [stepO,ha,this,SR.val]
theorem sx_ldB1 (h:Hs S R) (i:Nat) {id:Nat} {ty:TypeId} {v w:AV} (hi:R[i]? = some (.bx id ty [v,w])) (hn:notAgg w=true) {a:DOpd} (ha:loc env a=some (.hp id 1)) :
  stepO gt d env S (.ld false 1 a)=.done (putV d w env) S:=by
 have hb:=(h.ok i _ hi).2
 have:ldL gt env S false 1 (.hp id 1)=some w:=by
  simp only [ldL,ldC,hb,cut]
  show mkv false [w]=some w
  simp only [mkv,hn,cond_true,cond_false]
 simp only [stepO,ha,this,SR.val]
theorem st_B0 (h:Hs S R) (i:Nat) {id:Nat} {ty:TypeId} {v w v':AV} (hi:R[i]? = some (.bx id ty [v,w])) {a x:DOpd} (ha:loc env a=some (.hp id 0)) (hx:opd env x=some v') (hc:v'.cells=[v']) (ho:ok1 v'=true) :
  ∃S',stepO gt d env S (.st 1 a x)=.done (putV d .undef env) S'∧Hs S' (R.set i (.bx id ty [v',w])):=by
 have hb:=(h.ok i _ hi).2
 refine⟨_,?_,h.boxTo hi [v',w]⟩
 simp only [stepO,ha,hx,hc,stL,hb,List.all_cons,List.all_nil,ho]
 rfl
theorem st_B1 (h:Hs S R) (i:Nat) {id:Nat} {ty:TypeId} {v w v':AV} (hi:R[i]? = some (.bx id ty [v,w])) {a x:DOpd} (ha:loc env a=some (.hp id 1)) (hx:opd env x=some v') (hc:v'.cells=[v']) (ho:ok1 v'=true) :
  ∃S',stepO gt d env S (.st 1 a x)=.done (putV d .undef env) S'∧Hs S' (R.set i (.bx id ty [v,v'])):=by
 have hb:=(h.ok i _ hi).2
 refine⟨_,?_,h.boxTo hi [v,v']⟩
 simp only [stepO,ha,hx,hc,stL,hb,List.all_cons,List.all_nil,ho]
 rfl
theorem sx_cvU (h:Hs S R) (i:Nat) {id:Nat} {ty:TypeId} {v w:AV} (hi:R[i]? = some (.bx id ty [v,w])) {x:DOpd} (hx:opd env x=some (.ptr id 0)):stepO gt d env S (.cvU x)=.done (putV d (.ptr id 0) env) S:=by
 have hb:=(h.ok i _ hi).2
 simp only [stepO,hx,hb]
 rfl
theorem sx_cvP (h:Hs S R) (i:Nat) {id:Nat} {ty:TypeId} {v w:AV} (hi:R[i]? = some (.bx id ty [v,w])) {x:DOpd} (hx:opd env x=some (.ptr id 0)) {ok:List (TypeId×Nat×Nat)} (ho:ok.any (fun p=>Nat.beq p.1 ty && (Nat.beq p.2.1 0 && Nat.ble p.2.2 2))=true) :
  stepO gt d env S (.cvP ok x)=.done (putV d (.ptr id 0) env) S:=by
 have hb:=(h.ok i _ hi).2
 simp only [stepO,hx,hb,lC,List.length_nil,Nat.zero_add,Nat.reduceAdd,ho,cond_true]
end
theorem sx_ustr {gt:GT} {d:Option Nat} {env:Env} {S:St} {x y:DOpd} {t l n m:Nat} {ty:TypeId} {xs:List AV} {s:List UInt8} (hx:opd env x=some (.eptr 1 ⟨some (t,l),0,none,false⟩ xs 0 0)) (hy:opd env y=some (.int .i64 (Int.ofNat n))) (hn:n=xs.length) (hb:bytes? xs=some s) (hl:n≤17592186044416)
  (hr:rd S ⟨some (t,l),0,none,false⟩=.here) (ht:lk S.tip t=some (some (m,ty,false))):stepO gt d env S (.ustr ty x y)=.done (putV d (.str s) env) { S with tip:=(t,none)::S.tip }:=by
 have h3:Nat.ble n 17592186044416=true:=Nat.ble_eq_true_of_le hl
 simp only [stepO,hx,hy,hr,ht,Nat.beq_refl,←hn,h3,hb,Bool.and_true,cond_true]
abbrev R_b (id:Nat) (ty:TypeId) (p:AV) (o:SI) (acc:List UInt8):List Rs:=[.bx id ty [p,.sl 1 o (ofBytes acc)],.gr 5 o (ofBytes acc)]
def BS (S:St) (id:Nat) (ty:TypeId) (acc:List UInt8):Prop:=(ty=63∨ty=65)∧∃p o,(p=.nilp∨p=.ptr id 0)∧Hs S (R_b id ty p o acc)
section
variable {gt:GT} {C:CallT}
set_option maxHeartbeats 2000000 in
theorem bString_wp {S:St} {id:Nat} {ty:TypeId} {acc:List UInt8} (h:BS S id ty acc) (h0:acc≠[]) (hl:acc.length≤17592186044416):wpF gt C F35 [.ptr id 0] S fun r S'=>r=.ret (.str acc):=by
 obtain⟨hty,p,o,hp,h⟩:=h
 have l1:=ofBytes_len acc
 obtain⟨a,r,rfl⟩:=List.exists_cons_of_ne_nil h0
 have hg:=h.ok 1 _ rfl
 have hbs:=bytes_of (a::r)
 rcases hg with⟨_,_,_,e⟩ | ⟨t,l,rfl,g1,g2,g3,g4,g5⟩
 ·cases e
 refine⟨rfl,?_⟩
 refine goW ?_
 refine step_ruleDO rfl rfl (sx_ldB1 h 0 rfl rfl rfl) (goW ?_)
 refine step_ruleDO rfl rfl (sx_ldB1 h 0 rfl rfl rfl) (goW ?_)
 refine step_ruleDO rfl rfl (sx_ustr rfl rfl rfl hbs (by rw [l1];exact hl) (RsOK.rd (.inr ⟨t,l,rfl,g1,g2,g3,g4,g5⟩)) g3) (goW ?_)
 exact⟨_,rfl,rfl⟩
end

section
variable {gt:GT} {C:CallT}
end
abbrev nilB:SI:=⟨none,0,some 0,true⟩
def BN (acc:List UInt8) (S:St):Prop:=BS S 0 63 acc∧(acc=[]→∃p,(p=.nilp∨p=.ptr 0 0)∧Hs S (R_b 0 63 p nilB []))
section
variable {gt:GT} {C:CallT}
set_option maxHeartbeats 2000000 in
theorem copyCheckO_wp (hm:MonoC C) {S:St} {p:AV} {o:SI} {acc:List UInt8} (hp:p=.nilp∨p=.ptr 0 0) (h:Hs S (R_b 0 63 p o acc)):wpF gt C F62 [.ptr 0 0] S fun r S'=>r=.ret (.tup [])∧Hs S' (R_b 0 63 (.ptr 0 0) o acc):=by
 refine⟨rfl,?_⟩
 rcases hp with rfl | rfl
 ·refine goW ?_
  refine step_ruleO (sx_ldB0 h 0 rfl rfl rfl) (goW ?_)
  refine step_ruleO (sx_cvU h 0 rfl rfl) (goW ?_)
  refine step_ruleO (sx_cvP h 0 rfl rfl (by rfl)) (goW ?_)
  refine st_runP (st_B0 h 0 rfl rfl rfl rfl rfl) (by trivial) ?_
  intro S2 h2
  refine goW ?_
  exact⟨_,rfl,rfl,h2⟩
 ·refine goW ?_
  refine step_ruleO (sx_ldB0 h 0 rfl rfl rfl) (goW ?_)
  refine step_ruleO (sx_ldB0 h 0 rfl rfl rfl) (goW ?_)
  exact⟨_,rfl,rfl,h⟩
set_option maxHeartbeats 2000000 in
theorem writeStringN_wp (hm:MonoC C) (hc:∀(S:St) (p:AV) (o:SI) (acc:List UInt8),(p=.nilp∨p=.ptr 0 0)→Hs S (R_b 0 63 p o acc)→C 62 [.ptr 0 0] S fun r S'=>r=.ret (.tup [])∧Hs S' (R_b 0 63 (.ptr 0 0) o acc))
  {S:St} {acc s:List UInt8} (h:BN acc S) (hl:acc.length+s.length<1099511627776) :
  wpF gt C F38 [.ptr 0 0,.str s] S fun r S'=>r=.ret (.tup [.int .i64 s.length,.nilif])∧BN (acc++s) S':=by
 have l1:=ofBytes_len acc
 have l2:=ofBytes_len s
 by_cases z:acc=[]∧s=[]
 ·obtain⟨rfl,rfl⟩:=z
  obtain⟨p,hp,h⟩:=h.2 rfl
  have hc:=hc S p nilB [] hp h
  refine⟨rfl,?_⟩
  refine goW ?_
  refine call_rule (by rfl) (hm _ _ _ _ _ hc ?_)
  rintro r S2 ⟨rfl,h⟩
  refine goW ?_
  refine step_ruleO (sx_ldB1 h 0 rfl rfl rfl) (goW ?_)
  refine st_runP (st_B1 h 0 rfl rfl rfl rfl rfl) (by trivial) ?_
  intro S4 h
  refine goW ?_
  exact⟨_,rfl,rfl,⟨.inl rfl,_,_,.inr rfl,h⟩,fun _=>⟨_,.inr rfl,h⟩⟩
 ·obtain⟨hty,p,o,hp,h⟩:=h.1
  have hc:=hc S p o acc hp h
  refine⟨rfl,?_⟩
  refine goW ?_
  refine call_rule (by rfl) (hm _ _ _ _ _ hc ?_)
  rintro r S2 ⟨rfl,h⟩
  refine goW ?_
  refine step_ruleO (sx_ldB1 h 0 rfl rfl rfl) (goW ?_)
  refine r_app h 1 rfl (by trivial) rfl rfl rfl (by rw [l1,l2];omega) (by rw [l1,l2];omega) (by decide) (by decide) (ofBytes_ok s) ?_
  intro o3 S3 h
  refine goW ?_
  refine st_runP (st_B1 h 0 rfl rfl rfl rfl rfl) (by trivial) ?_
  intro S4 h
  refine goW ?_
  refine⟨_,rfl,rfl,⟨hty,.ptr 0 0,o3,.inr rfl,?_⟩,fun e=>absurd (List.append_eq_nil_iff.1 e) z⟩
  rw [show R_b 0 63 (.ptr 0 0) o3 (acc++s)=[.bx 0 63 [.ptr 0 0,.sl 1 o3 (ofBytes acc++ofBytes s)],.gr 5 o3 (ofBytes acc++ofBytes s)] by unfold R_b;rw [ofBytes_app]]
  exact h
set_option maxHeartbeats 2000000 in
theorem bStringN_wp {S:St} {acc:List UInt8} (h:BN acc S) (hl:acc.length≤17592186044416) (hne:acc≠[]→wpF gt C F35 [.ptr 0 0] S fun r S'=>r=.ret (.str acc)):wpF gt C F35 [.ptr 0 0] S fun r S'=>r=.ret (.str acc):=by
 by_cases z:acc=[]
 ·subst z
  obtain⟨p,hp,h⟩:=h.2 rfl
  refine⟨rfl,?_⟩
  refine goW ?_
  refine step_ruleDO rfl rfl (sx_ldB1 h 0 rfl rfl rfl) (goW ?_)
  refine step_ruleDO rfl rfl (sx_ldB1 h 0 rfl rfl rfl) (goW ?_)
  exact⟨_,rfl,rfl⟩
 ·exact hne z
set_option maxHeartbeats 2000000 in
theorem flatTell_wp (hm:MonoC C) {S:St} {acc s:List UInt8} (hw:C 38 [.ptr 0 0,.str s] S fun r S'=>r=.ret (.tup [.int .i64 s.length,.nilif])∧BN (acc++s) S') :
  wpF gt C F37 [.str s,.ptr 0 0] S fun r S'=>r=.ret (.tup [])∧BN (acc++s) S':=by
 refine⟨rfl,?_⟩
 refine goW ?_
 refine call_rule (by rfl) (hm _ _ _ _ _ hw ?_)
 rintro r S2 ⟨rfl,h⟩
 refine goW ?_
 exact⟨_,rfl,rfl,h⟩
set_option maxHeartbeats 2000000 in
theorem flattenP_wp (hm:MonoC C) {n:PN} {L:Nat} (hL:(flatB n).length≤L) (hp:∀S,BN [] S→C 36 [encN n,.fn 37 [] [.ptr 0 0]] S fun r S'=>r=.ret (.tup [])∧BN (flatB n) S')
  (hs:∀S,BN (flatB n) S→C 35 [.ptr 0 0] S fun r S'=>r=.ret (.str (flatB n))):wpF gt C F11 [encN n] St.init (Ret (.str (flatB n))):=by
 have hb:Hs { St.init with nb:=St.init.nb+1,boxes:=(St.init.nb,some (63,[.nilp,.sl 1 ⟨none,0,some 0,true⟩ []]))::St.init.boxes } (R_b 0 63 .nilp nilB []):=(Hs.init.newBox 63 [.nilp,.sl 1 ⟨none,0,some 0,true⟩ []]).addNil 5 true
 have hp:=hp _ ⟨⟨.inl rfl,.nilp,nilB,.inl rfl,hb⟩,fun _=>⟨.nilp,.inl rfl,hb⟩⟩
 obtain⟨_,_,_,_,_,_,_,_,_,_,_,_,_,_,he⟩:=encN_agg n
 rw [he] at hp ⊢
 refine⟨rfl,?_⟩
 refine goW ?_
 refine call_rule (by rfl) (hm _ _ _ _ _ hp ?_)
 rintro r S2 ⟨rfl,h⟩
 refine goW ?_
 refine call_rule (by rfl) (hm _ _ _ _ _ (hs _ h) ?_)
 rintro r S3 rfl
 refine goW ?_
 exact⟨_,rfl,Ret.sta trivial⟩
end

section
variable {gt:GT} {C:CallT}
end
end Go.Dn

namespace Go.Proofs.YthjebaophnkpbaaGreatDoor.Fn
open Go.ChangeShapes Go.WideShapes Go.ChangeAt Go.RowKit Go.Dn
theorem indN {Q:PN→Prop} (h:∀t,(∀u,u.n<t.n→Q u)→Q t) (t:PN):Q t:=(measure PN.n).wf.induction t h
theorem sizeN:∀(t:PN) (m:Int),t.ok→m<2305843009213693952→PF A 16 [encN t,.int .i64 m] (.int .i64 (Dn.sizeN t m)) :=
 indN fun t ih m h k=>pf Tryz.func16 (by kernel_rfl) C1.F16_ok (s2 (sta_N t) trivial) (sizeN_wp hm size3 ih h k)
theorem copyN:∀t:PN,t.ok→PF A 24 [encN t] (encN t) :=
 indN fun t ih h=>pf Tryz.func24 (by kernel_rfl) C1.F24_ok (s1 (sta_N t)) (copyN_wp hm copyT ih h)
theorem scalar (k:Int):PF A 72 [.int .i64 k] (.bool (leafK k)) :=
 pf Tryz.func72 (by kernel_rfl) C1.F72_ok (s1 trivial) scalar_wp
theorem leaf (n:PN):PF A 58 [encN n] (.bool (leafK n.k)) :=
 pf Tryz.func58 (by kernel_rfl) C1.F58_ok (s1 (sta_N n)) (leaf_wp hm scalar)
theorem tells:Tells A 39 [.ptr 0 0] 4611686018427387904 LenAt:=fun s acc S h k =>
 AC_intro Tryz.checked.mixed Tryz.func39 (by kernel_rfl) C1.F39_ok (lenTell_wp h k)
theorem pieces:∀n:PN,n.ok→∀acc S,acc.length+(flatB n).length≤4611686018427387904→LenAt acc S→A 36 [encN n,.fn 39 [] [.ptr 0 0]] S fun r S'=>r=.ret (.tup [])∧LenAt (acc++flatB n) S' :=
 indN fun n ih h acc S hL hΦ=>AC_intro Tryz.checked.mixed Tryz.func36 (by kernel_rfl) C1.F36_ok
  (pieces_wp hm tells leaf ih hL h hΦ)
theorem len (n:PN) (h:n.ok) (hL:(flatB n).length≤4611686018427387904):PF A 12 [encN n] (.int .i64 (flatB n).length) :=
 pf Tryz.func12 (by kernel_rfl) C1.F12_ok (s1 (sta_N n)) (len_wp hm (fun n h _=>pieces n h) h hL)
theorem copyCheck (S:St) (p:AV) (o:SI) (acc:List UInt8) (hp:p=.nilp∨p=.ptr 0 0) (h:Hs S (R_b 0 63 p o acc)):A 62 [.ptr 0 0] S fun r S'=>r=.ret (.tup [])∧Hs S' (R_b 0 63 (.ptr 0 0) o acc) :=
 AC_intro Tryz.checked.mixed Tryz.func62 (by kernel_rfl) C1.F62_ok (copyCheckO_wp hm hp h)
theorem wrString {S:St} {acc s:List UInt8} (h:BN acc S) (hl:acc.length+s.length<1099511627776):A 38 [.ptr 0 0,.str s] S fun r S'=>r=.ret (.tup [.int .i64 s.length,.nilif])∧BN (acc++s) S' :=
 AC_intro Tryz.checked.mixed Tryz.func38 (by kernel_rfl) C1.F38_ok (writeStringN_wp hm copyCheck h hl)
theorem tellsF:Tells A 37 [.ptr 0 0] 1099511627775 BN:=fun s acc S h k =>
 AC_intro Tryz.checked.mixed Tryz.func37 (by kernel_rfl) C1.F37_ok (flatTell_wp hm (wrString k (by omega)))
theorem piecesF:∀n:PN,n.ok→∀acc S,acc.length+(flatB n).length≤1099511627775→BN acc S→A 36 [encN n,.fn 37 [] [.ptr 0 0]] S fun r S'=>r=.ret (.tup [])∧BN (acc++flatB n) S' :=
 indN fun n ih h acc S hL hΦ=>AC_intro Tryz.checked.mixed Tryz.func36 (by kernel_rfl) C1.F36_ok
  (pieces_wp hm tellsF leaf ih hL h hΦ)
theorem bString (S:St) (acc:List UInt8) (hl:acc.length≤17592186044416) (h:BN acc S):A 35 [.ptr 0 0] S fun r S'=>r=.ret (.str acc) :=
 AC_intro Tryz.checked.mixed Tryz.func35 (by kernel_rfl) C1.F35_ok (bStringN_wp h hl fun h0=>bString_wp h.1 h0 hl)
theorem flattenP (n:PN) (h:n.ok) (hL:(flatB n).length≤140737488355):PF A 11 [encN n] (.str (flatB n)) :=
 pf Tryz.func11 (by kernel_rfl) C1.F11_ok (s1 (sta_N n)) (flattenP_wp hm hL (fun S hb=>by have:=piecesF n h [] S (by simp only [List.length_nil];omega) hb;simpa only [List.nil_append] using this) (fun S hb=>bString S _ (by omega) hb))
theorem countN:∀t:PN,t.n<4611686018427387904→PF A 13 [encN t] (.int .i64 t.n) :=
 indN fun t ih h=>pf Tryz.func13 (by kernel_rfl) C1.F13_ok (s1 (sta_N t)) (countN_wp hm (fun u hu=>ih u hu (by omega)) h)
theorem depthN:∀t:PN,t.n<4611686018427387904→PF A 40 [encN t] (.int .i64 t.dp) :=
 indN fun t ih h=>pf Tryz.func40 (by kernel_rfl) C1.F40_ok (s1 (sta_N t)) (depthN_wp hm (fun u hu=>ih u hu (by omega)) h)
theorem zero_formed:formedB zPT=false:=by decide
theorem same_zero (t:PT):sameB t zPT=eqT t zPT:=by
 unfold sameB;rw [zero_formed,Bool.and_false];rfl
theorem sameZ (t:PT) (h1:t.sok) (h2:t.ok) (h3:t.n<1099511627776):PF A 30 [encT t,.agg zT] (.bool (eqT t zPT)) :=
 PF.zero (by rw [←same_zero];exact same t zPT h1 h2 h3 (by simp [zPT,PT.sok,PT.soks]) (by simp [zPT,PT.ok,PT.oks]) (by decide))
theorem formNode:∀t:PN,t.sok→PF A 41 [encN t] (.bool (formN t)) :=
 indN fun t ih h=>pf Tryz.func41 (by kernel_rfl) C1.F41_ok (s1 (sta_N t)) (by
  by_cases h7:t.k=7
  ·obtain⟨k,a,b,c,leaf',h',kids,seps,t,e,f⟩:=t
   simp only [PN.k] at h7
   subst h7
   exact formN7_wp hm leaf sameZ validU ih h
  by_cases h6:t.k=6
  ·obtain⟨k,a,b,c,leaf',h',kids,seps,t,e,f⟩:=t
   simp only [PN.k] at h6
   subst h6
   exact formN6_wp hm leaf sameZ validU ih h
  ·exact formNx_wp hm leaf (fun t h1 h2=>right t (by omega) h1) sameZ validU ih h ⟨h6,h7⟩)
theorem rightNode (n:PN) (h:n.n<4611686018427387904) (hs:n.sok):PF A 14 [encN n] (.bool (rightN n)) :=
 pf Tryz.func14 (by kernel_rfl) C1.F14_ok (s1 (sta_N n)) (rightN_wp hm (depthN n h) (countN n h) (formNode n hs))
theorem made:∀t:PN,t.ok→PF A 32 [encN t] (encT (treeN t)) :=
 indN fun t ih h=>pf Tryz.func32 (by kernel_rfl) C1.F32_ok (s1 (sta_N t)) (made_wp hm leaf copyT ih h)
theorem treeP (n:PN) (h:n.n<4611686018427387904) (hs:n.sok) (hk:n.ok):PF A 9 [encN n] (.tup [encT (if rightN n=true then treeN n else zPT),.int .i64 (if rightN n=true then 0 else 1)]) :=
 pf Tryz.func9 (by kernel_rfl) C1.F9_ok (s1 (sta_N n)) (treeP_wp hm (rightNode n h hs) (made n hk))
end Go.Proofs.YthjebaophnkpbaaGreatDoor.Fn

namespace Go.Proofs.YthjebaophnkpbaaGreatDoor
open Go.Dn
theorem bulk_keys:∀l:List (List UInt8),bulkAs (strs l)≤1048576→(∀s∈l,s.length≤1048576)∧l.length≤1048576
 | [],_=>⟨fun s h=>by simp at h,by simp⟩
 | a::r,h=>by
  have e:strs (a::r)=.str a::strs r:=rfl
  rw [e] at h
  simp only [bulkAs,bulkA] at h
  have ih:=bulk_keys r (by omega)
  have h0:=bulk_strs0 r
  refine⟨fun s hs=>?_,by simp only [lC];omega⟩
  rcases List.mem_cons.1 hs with rfl | hs
  ·omega
  ·exact ih.1 s hs
mutual
theorem bulk_sok:∀t:PT,bulkA (encT t)≤1048576→t.sok∧t.n≤bulkA (encT t)
 |.mk k s keys kids,h=>by
  simp only [encT,bulkA,bulkAs] at h ⊢
  have h1:=bulk_keys keys (by omega)
  have h2:=bulk_soks kids (by omega)
  have h3:=bulk_Ts kids (by omega)
  simp only [PT.sok,PT.n]
  exact⟨⟨by omega,fun s hs=>by have:=h1.1 s hs;omega,by omega,by omega,h2.1⟩,by omega⟩
theorem bulk_soks:∀l:List PT,bulkAs (encTs l)≤1048576→PT.soks l∧PT.ns l≤bulkAs (encTs l)
 | [],_=>⟨trivial,Nat.zero_le _⟩
 | t::r,h=>by
  simp only [encTs,bulkAs] at h
  have h1:=bulk_sok t (by omega)
  have h2:=bulk_soks r (by omega)
  simp only [PT.soks,encTs,bulkAs,PT.ns]
  exact⟨⟨h1.1,h2.1⟩,by omega⟩
end
mutual
theorem bulk_sokN:∀t:PN,bulkA (encN t)≤1048576→t.sok∧t.n≤bulkA (encN t)
 |.mk k a b c leaf h kids seps t e f,hb=>by
  have hl:bulkA (encT leaf)≤1048576:=by
   rw [encT_eq]
   simp only [encN,bulkA,bulkAs] at hb ⊢
   omega
  have h1:=bulk_sok leaf hl
  have h2:=bulk_T leaf hl
  simp only [encN,bulkA,bulkAs] at hb ⊢
  have h3:=bulk_strs seps
  have h4:=bulk_soksN kids (by omega)
  simp only [PN.sok,PN.n]
  exact⟨⟨h1.1,h2,by omega,by omega,by omega,by omega,h4.1⟩,by omega⟩
theorem bulk_soksN:∀l:List PN,bulkAs (encNs l)≤1048576→PN.soks l∧PN.ns l≤bulkAs (encNs l)∧l.length≤bulkAs (encNs l)
 | [],_=>⟨trivial,Nat.zero_le _,Nat.zero_le _⟩
 | t::r,h=>by
  simp only [encNs,bulkAs] at h
  have h1:=bulk_sokN t (by omega)
  have h2:=bulk_soksN r (by omega)
  have:1≤bulkA (encN t):=by cases t;simp only [encN,bulkA];omega
  simp only [PN.soks,encNs,bulkAs,PN.ns,lC]
  exact⟨⟨h1.1,h2.1⟩,by omega,by omega⟩
end
mutual
theorem treeN_ok:∀t:PN,t.ok→(treeN t).ok
 |.mk k a b c leaf h kids seps t e f,hk=>by
  simp only [PN.ok] at hk
  rw [treeN]
  split
  ·exact hk.1
  ·have h1:=treesN_ok kids hk.2.2.2
   have h2:(treesN kids).length=kids.length:=by rw [treesN_map,List.length_map]
   have h3:=keysN_len k kids
   unfold keysN at h3
   simp only [PT.ok]
   refine⟨?_,?_,h1⟩<;>omega
theorem treesN_ok:∀l:List PN,PN.oks l→PT.oks (treesN l)
 | [],_=>trivial
 | t::r,h=>by
  simp only [PN.oks] at h
  exact⟨treeN_ok t h.1,treesN_ok r h.2⟩
end
end Go.Proofs.YthjebaophnkpbaaGreatDoor

namespace Go.Dn
open Go Go.Proofs.C1
set_option maxRecDepth 100000
attribute [local irreducible] afterS keepE
section
variable {gt:GT} {C:CallT}
abbrev E_findO (o:SI) (cur:PN) (at_:Int) (path:List PS) (i:Int):Env:=[(2,.box (encN cur).cells),(4,.box zN),(7,.val (.int .i64 at_)),(13,.val (.sl 2 o (encSs path))),(14,.val (.int .i64 (encSs path).length)),(15,.val (.int .i64 i))]
abbrev E_findO2 (o:SI) (cur:PN) (at_:Int) (path:List PS) (i ki:Int) (ks:List AV) (j:Int):Env:=[(2,.box (encN cur).cells),(4,.box zN),(7,.val (.int .i64 at_)),(10,.val (.int .i64 ki)),(13,.val (.sl 2 o (encSs path))),(14,.val (.int .i64 (encSs path).length)),(15,.val (.int .i64 i)),
 (37,.val (.sl 14 stat ks)),(38,.val (.int .i64 ks.length)),(39,.val (.int .i64 j))]
set_option maxHeartbeats 2000000 in
theorem findO_wp (hm:MonoC C) (hkid:∀n s,n.ok→PF C 42 [encN n,encS s] (.int .i64 (kidI n s))) (hlen:∀n:PN,n.ok→(flatB n).length≤4611686018427387904→PF C 12 [encN n] (.int .i64 (flatB n).length))
  (hcopy:∀n:PN,n.ok→PF C 24 [encN n] (encN n)) {n x:PN} {path:List PS} {fa:Int} {S:St} {o:SI} (hel:elems S true 2 o (encSs path)=some (encSs path)) (hfx:findN n path 0=some (x,fa)) (hb:n.ok) (hL:n.tb≤4611686018427387904) (hp:path.length≤4611686018427387904) :
  wpF gt C F15 [encN n,.sl 2 o (encSs path)] S fun r S'=>r=.ret (.tup [encN x,.int .i64 fa,.bool true])∧S'=S:=by
 have hn:=encN_agg n
 have hlp:=encSs_len path
 refine⟨rfl,?_⟩
 refine goW ?_
 refine loop_rule hm (α:=Nat×PN×Int) (fun a env S'=>a.1≤path.length∧env=E_findO o a.2.1 a.2.2 path a.1∧S=S'∧a.2.1.ok∧0≤a.2.2∧a.2.2+a.2.1.tb≤4611686018427387904∧findN n path 0=findN a.2.1 (path.drop a.1) a.2.2) (fun a=>path.length-a.1) ?_ (a:=(0,n,0)) ⟨Nat.zero_le _,?_,rfl,hb,by simp,by simp only;omega,rfl⟩
 case refine_2=>obtain⟨w0,w1,w2,w3,w4,w5,w6,w7,w8,w9,w10,w11,w12,w13,he⟩:=hn;simp only [E_findO,he];try rfl
 clear hn hb hL
 rintro⟨i,cur,at_⟩ env S' ⟨hi,rfl,rfl,hb,h0,hL,hf⟩
 simp only at hi hb h0 hL hf
 obtain⟨k,a,b,c,leaf,h,kids,seps,t,e,f⟩:=cur
 refine goW ?_
 by_cases hc:(i:Int)<(encSs path).length
 ·rw [dT hc]
  refine goW ?_
  have hik:i<path.length:=by omega
  rw [dC hik] at hf
  have hkid:=hkid (.mk k a b c leaf h kids seps t e f) path[i] hb
  have hge:=encSs_get hik
  have hlt:=kidI_lt (.mk k a b c leaf h kids seps t e f) path[i]
  generalize path[i]=ps at hf hkid hge hlt
  obtain⟨key,num⟩:=ps
  simp only [findN,PN.kids,PN.lead,PN.head,PN.seps] at hf hlt
  generalize kidI (.mk k a b c leaf h kids seps t e f) ⟨key,num⟩=ki at hkid hf hlt
  refine step_ruleO (sx_ia (k:=i) rfl rfl (by omega)) (goW ?_)
  refine step_ruleO (sx_ldEl (agg:=true) rfl hel hge (rdS _)) (goW ?_)
  refine call_pf hm (by rfl) hkid (goW ?_)
  by_cases hneg:ki<0
  ·rw [dT hneg]
   rw [if_pos hneg] at hf
   rw [hf] at hfx
   cases hfx
  rw [dF hneg]
  rw [if_neg hneg] at hf
  obtain⟨m,rfl⟩:∃m:Nat,ki=m:=⟨ki.toNat,by omega⟩
  have hmk:m<kids.length:=by omega
  simp only [Int.toNat_natCast,gE hmk] at hf
  simp only [PN.ok] at hb
  obtain⟨q1,q2,q3,q4⟩:=hb
  have hlk:=encNs_len kids
  have hls:=strs_length seps
  have hof:=offs_le kids seps (j:=m) (by omega)
  have htb:=tbs_take hmk
  have hsl:=sumLen_take seps m
  simp only [PN.tb] at hL
  refine goW ?_
  refine step_ruleO (sx_slHi (h:=m) rfl rfl (by omega)) (goW ?_)
  have hks:((encNs kids).take m).length=m:=by rw [lT];omega
  refine loop_rule hm (α:=Nat) (fun j env S'=>j≤m∧env=E_findO2 o (.mk k a b c leaf h kids seps t e f) (at_+a.length+h.length+offs kids seps j) path i m ((encNs kids).take m) j∧S=S') (fun j=>m-j) ?_ (a:=0) ⟨Nat.zero_le _,?_,rfl⟩
  case refine_2 =>
   rw [show at_+a.length+h.length+(offs kids seps 0:Nat)=at_+((a.length:Int)+h.length) by simp [offs];omega,wr64 (n:=(a.length:Int)+h.length) (by omega) (by omega),wr64 (n:=at_+((a.length:Int)+h.length)) (by omega) (by omega)]
   try rfl
  rintro j env S' ⟨hj,rfl,rfl⟩
  refine goW ?_
  have hofj:=offs_le kids seps (j:=j) (by omega)
  by_cases hc2:(j:Int)<((encNs kids).take m).length
  ·rw [dT hc2]
   refine goW ?_
   have hjm:j<m:=by omega
   have hjk:j<kids.length:=by omega
   have hgj:((encNs kids).take m)[j]? = some (encN kids[j]):=by rw [List.getElem?_take_of_lt hjm];exact encNs_get hjk
   have hrd:=rdN kids[j]
   have hofj1:=offs_le kids seps (j:=j+1) (by omega)
   have htb1:=tbs_step hjk
   have hfl:=flatB_le kids[j]
   have htj:=tbs_take hjk
   have hsj:=sumLen_take seps (j+1)
   have hln:=hlen kids[j] (PN.oks_get hjk q4) (by omega)
   have hstep:offs kids seps (j+1)=offs kids seps j+(flatB kids[j]).length+((seps[j]?).getD []).length:=by simp only [offs,gE hjk]
   have hub:offs kids seps (j+1)≤PN.tbs kids+sumLen seps:=by
    rcases Nat.lt_or_ge (j+1) kids.length with hh | hh
    ·have:=tbs_take hh;omega
    ·rw [List.take_of_length_le hh] at hofj1;omega
   obtain⟨w0,w1,w2,w3,w4,w5,w6,w7,w8,w9,w10,w11,w12,w13,he⟩:=encN_agg kids[j]
   rw [he] at hgj hrd hln
   refine step_ruleO (sx_ia (k:=j) rfl rfl (by omega)) (goW ?_)
   refine step_ruleO (sx_ldEl (agg:=true) rfl rfl hgj hrd) (goW ?_)
   refine call_pf hm (by rfl) hln (goW ?_)
   by_cases hc3:(j:Int)<(strs seps).length
   ·rw [dT hc3]
    refine goW ?_
    have hjs:j<seps.length:=by omega
    rw [gE hjs] at hstep
    simp only [Option.getD_some] at hstep
    refine step_ruleO (sx_ia (k:=j) rfl rfl (by omega)) (goW ?_)
    refine step_ruleO (sx_ldEl (agg:=false) rfl rfl (strs_at hjs) rfl) (goW ?_)
    refine⟨j+1,⟨by omega,?_,rfl⟩,by omega⟩
    rw [wrNat (by omega),wr64 (n:=at_+a.length+h.length+(offs kids seps j:Nat)+((flatB kids[j]).length:Int)) (by omega) (by omega),wr64 (n:=at_+a.length+h.length+(offs kids seps j:Nat)+((flatB kids[j]).length:Int)+(seps[j].length:Int)) (by omega) (by omega),
     show at_+a.length+h.length+(offs kids seps j:Nat)+((flatB kids[j]).length:Int)+(seps[j].length:Int)=at_+a.length+h.length+(offs kids seps (j+1):Nat) by rw [hstep];push_cast;omega]
    try rfl
   ·rw [dF hc3]
    refine goW ?_
    rw [List.getElem?_eq_none (by omega)] at hstep
    simp only [Option.getD_none,List.length_nil,Nat.add_zero] at hstep
    refine⟨j+1,⟨by omega,?_,rfl⟩,by omega⟩
    rw [wrNat (by omega),wr64 (n:=at_+a.length+h.length+(offs kids seps j:Nat)+((flatB kids[j]).length:Int)) (by omega) (by omega),
     show at_+a.length+h.length+(offs kids seps j:Nat)+((flatB kids[j]).length:Int)=at_+a.length+h.length+(offs kids seps (j+1):Nat) by rw [hstep];push_cast;omega]
    try rfl
  ·rw [dF hc2]
   refine goW ?_
   obtain rfl:j=m:=by omega
   have hgj:=encNs_get hmk
   have hrd:=rdN kids[j]
   have hrd2:=encN_agg kids[j]
   have hEq:encN kids[j]=encN kids[j]:=rfl
   obtain⟨w0,w1,w2,w3,w4,w5,w6,w7,w8,w9,w10,w11,w12,w13,he⟩:=encN_agg kids[j]
   rw [he] at hgj hrd
   refine step_ruleO (sx_ia (k:=j) rfl rfl (by omega)) (goW ?_)
   refine step_ruleO (sx_ldEl (agg:=true) rfl rfl hgj hrd) (goW ?_)
   refine⟨(i+1,kids[j],at_+a.length+h.length+(offs kids seps j:Nat)),⟨by simp only;omega,?_,rfl,PN.oks_get hmk q4,by simp only;omega,by simp only;omega,hf⟩,by simp only;omega⟩
   rw [wrNat (by omega)]
   simp only [E_findO,he]
   try rfl
 ·rw [dF hc]
  refine goW ?_
  rw [List.drop_eq_nil_of_le (by omega)] at hf
  simp only [findN] at hf
  rw [hf] at hfx
  simp only [oI,Prod.mk.injEq] at hfx
  obtain⟨rfl,rfl⟩:=hfx
  refine call_pf hm (by rfl) (hcopy _ hb) (goW ?_)
  exact⟨_,rfl,rfl,rfl⟩
abbrev E_getO (o:SI) (cur:PT) (path:List PS) (i:Int):Env:=[(2,.box (encT cur).cells),(4,.box zT),(9,.val (.sl 2 o (encSs path))),(10,.val (.int .i64 (encSs path).length)),(11,.val (.int .i64 i))]
set_option maxHeartbeats 4000000 in
theorem getO_wp (hm:MonoC C) (hpart:∀t s,t.ok→PF C 55 [encT t,encS s] (.int .i64 (atT t s))) (hcopy:∀t:PT,t.ok→PF C 49 [encT t] (encT t))
  {t x:PT} {path:List PS} {S:St} {o:SI} (hel:elems S true 2 o (encSs path)=some (encSs path)) (hfx:getT t path=some x) (hk:t.ok) (hp:path.length≤4611686018427387904):wpF gt C F29 [encT t,.sl 2 o (encSs path)] S fun r S'=>r=.ret (.tup [encT x,.bool true])∧S'=S:=by
 have hlp:=encSs_len path
 have hn:=encT_agg t
 refine⟨rfl,?_⟩
 refine goW ?_
 refine loop_rule hm (α:=Nat×PT) (fun a env S'=>a.1≤path.length∧env=E_getO o a.2 path a.1∧S=S'∧a.2.ok∧getT t path=getT a.2 (path.drop a.1)) (fun a=>path.length-a.1) ?_ (a:=(0,t)) ⟨Nat.zero_le _,?_,rfl,hk,rfl⟩
 case refine_2=>obtain⟨w0,w1,w2,w3,he⟩:=hn;simp only [E_getO,he];try rfl
 clear hn hk
 rintro⟨i,cur⟩ env S' ⟨hi,rfl,rfl,hk,hf⟩
 simp only at hi hk hf
 obtain⟨k,s,keys,kids⟩:=cur
 refine goW ?_
 by_cases hc:(i:Int)<(encSs path).length
 ·rw [dT hc]
  refine goW ?_
  have hik:i<path.length:=by omega
  rw [dC hik] at hf
  have hpart:=hpart (.mk k s keys kids) path[i] hk
  have hge:=encSs_get hik
  have hlt:=atT_lt (.mk k s keys kids) path[i]
  generalize path[i]=ps at hf hpart hge hlt
  obtain⟨key,num⟩:=ps
  simp only [getT,PT.kids] at hf hlt
  generalize atT (.mk k s keys kids) ⟨key,num⟩=ki at hpart hf hlt
  refine step_ruleO (sx_ia (k:=i) rfl rfl (by omega)) (goW ?_)
  refine step_ruleO (sx_ldEl (agg:=true) rfl hel hge (rdS _)) (goW ?_)
  refine call_pf hm (by rfl) hpart (goW ?_)
  by_cases hneg:ki<0
  ·rw [dT hneg]
   rw [if_pos hneg] at hf
   rw [hf] at hfx
   cases hfx
  rw [dF hneg]
  rw [if_neg hneg] at hf
  obtain⟨m,rfl⟩:∃m:Nat,ki=m:=⟨ki.toNat,by omega⟩
  have hmk:m<kids.length:=by omega
  simp only [Int.toNat_natCast,gE hmk] at hf
  simp only [PT.ok] at hk
  obtain⟨q1,q2,q3⟩:=hk
  have hlk:=encTs_len kids
  have hok:=PT.oks_get q3 (gE hmk)
  refine goW ?_
  refine step_ruleO (sx_ia (k:=m) rfl rfl (by omega)) (goW ?_)
  refine step_ruleO (sx_ldEl (agg:=true) rfl rfl (encTs_get hmk) (rdT _)) ?_
  obtain⟨w0,w1,w2,w3,he⟩:=encT_agg kids[m]
  rw [he]
  refine goW ?_
  refine⟨(i+1,kids[m]),⟨by simp only;omega,?_,rfl,hok,hf⟩,by simp only;omega⟩
  simp only [E_getO,he]
  rw [wrNat (by omega)];try rfl
 ·rw [dF hc]
  have hcopy:=hcopy (.mk k s keys kids) hk
  rw [hf,List.drop_eq_nil_of_le (by omega)] at hfx
  simp only [getT,oI] at hfx
  subst hfx
  refine goW ?_
  refine call_pf hm (by rfl) hcopy (goW ?_)
  exact⟨_,rfl,rfl,rfl⟩
end
end Go.Dn

namespace Go.Dn
open Go Go.Proofs.C1
set_option maxRecDepth 100000
theorem keyAt'_plc (key:List UInt8):∀(l:List PN) (i:Nat),keyAt' key l i=plc key (l.map PN.key) i
 | [],_=>rfl
 | n::r,i=>by simp only [keyAt',List.map_cons,plc,keyAt'_plc key r (i+1)]
theorem plc_self:∀{l:List (List UInt8)} {j:Nat} (i:Nat) (hd:l.Nodup) (h:j<l.length),plc l[j] l i=((i+j:Nat):Int)
 | a::r,0,i,_,_=>by simp [plc]
 | a::r,j+1,i,hd,h=>by
  have hj:j<r.length:=by simpa using h
  have hd2:=List.nodup_cons.1 hd
  have ne:¬a=r[j]:=fun e=>hd2.1 (by rw [e];exact List.getElem_mem hj)
  simp only [List.getElem_cons_succ,plc]
  rw [if_neg ne,plc_self (i+1) hd2.2 hj]
  congr 1;omega
theorem formK_kids:∀{k:Int} {seen:List (List UInt8)} {l:List PN},formK k seen l=true→∀x∈l,formN x=true
 | _,_,[],_,x,hx=>by simp at hx
 | k,seen,n::r,h,x,hx=>by
  rw [formK] at h
  split at h
  ·split at h
   ·cases h
   ·simp only [bA] at h
    rcases List.mem_cons.1 hx with rfl | hx
    ·exact h.2.1
    ·exact formK_kids h.2.2 x hx
  ·simp only [bA] at h
   rcases List.mem_cons.1 hx with rfl | hx
   ·exact h.2.1
   ·exact formK_kids h.2.2 x hx
theorem formK_keys:∀{seen:List (List UInt8)} {l:List PN},formK 7 seen l=true→unlikeB seen (l.map PN.key)=true
 | _,[],_=>rfl
 | seen,n::r,h=>by
  rw [formK,if_pos rfl] at h
  rw [List.map_cons,unlikeB]
  split at h
  ·cases h
  ·rename_i hh
   rw [if_neg hh]
   simp only [bA] at h ⊢
   exact⟨h.1,formK_keys h.2.2⟩
theorem unlike_nd:∀{seen l:List (List UInt8)},unlikeB seen l=true→l.Nodup∧∀x∈l,x ∉ seen
 | _,[],_=>⟨List.nodup_nil,fun x h=>by simp at h⟩
 | seen,a::r,h=>by
  rw [unlikeB] at h
  split at h
  ·cases h
  ·rename_i hh
   simp only [bA] at h
   have ih:=unlike_nd h.2
   refine⟨List.nodup_cons.2 ⟨fun hm=>ih.2 a hm (by simp),ih.1⟩,fun x hx=>?_⟩
   rcases List.mem_cons.1 hx with rfl | hx
   ·exact hh
   ·exact fun hs=>ih.2 x hx (by simp [hs])
theorem formN_leaf {x:PN} (h:formN x=true) (hl:leafK x.k=true):x.kids=[]:=by
 obtain⟨k,a,b,c,leaf,h',kids,seps,t,e,f⟩:=x
 rw [PN.k] at hl
 rw [formN,if_pos hl] at h
 simp only [leafOK,bA,decide_eq_true_eq] at h
 exact nL h.2.2.2.2.1
theorem formN_head {x:PN} (h:formN x=true) (hl:¬leafK x.k=true):(x.k=6∨x.k=7)∧formK x.k [] x.kids=true:=by
 obtain⟨k,a,b,c,leaf,h',kids,seps,t,e,f⟩:=x
 rw [PN.k] at hl ⊢
 rw [formN,if_neg hl] at h
 simp only [headOK,bA,Bool.or_eq_true,decide_eq_true_eq] at h
 exact⟨h.1.1,h.2⟩
def stepOf (x:PN) (j:Nat):PS:=if x.k=7 then ⟨(x.kids[j]?.map PN.key).getD [],0⟩ else ⟨[],j⟩
theorem treeN_eq {x:PN} (hl:¬leafK x.k=true):treeN x=.mk x.k [] (keysN x.k x.kids) (treesN x.kids):=by
 obtain⟨k,a,b,c,leaf,h',kids,seps,t,e,f⟩:=x
 rw [PN.k] at hl
 rw [treeN,if_neg hl];rfl
theorem step_kid {x:PN} (h:formN x=true) {j:Nat} (hj:j<x.kids.length):kidI x (stepOf x j)=j∧atT (treeN x) (stepOf x j)=j:=by
 by_cases hl:leafK x.k=true
 ·rw [formN_leaf h hl] at hj;simp at hj
 obtain⟨hk,hf⟩:=formN_head h hl
 have hlen:(treesN x.kids).length=x.kids.length:=by rw [treesN_map,List.length_map]
 rw [treeN_eq hl]
 unfold stepOf kidI atT
 simp only [PT.k,PT.kids,PT.keys,hlen]
 rcases hk with hk | hk
 ·rw [hk]
  have e7:¬(6:Int)=7:=by decide
  simp only [if_neg e7,if_true]
  have:True∧(0:Int)≤(j:Int)∧(j:Int)<(x.kids.length:Int):=⟨trivial,by omega,by omega⟩
  exact⟨if_pos this,if_pos this⟩
 ·rw [hk] at hf ⊢
  have hn:=(unlike_nd (formK_keys hf)).1
  have hjm:j<(x.kids.map PN.key).length:=by rw [List.length_map];exact hj
  have hps:=plc_self 0 hn hjm
  have hg:(x.kids[j]?.map PN.key).getD []=(x.kids.map PN.key)[j]:=by
   rw [gE hj,List.getElem_map];rfl
  have e6:¬(7:Int)=6:=by decide
  simp only [if_neg e6,if_true,hg,true_and]
  have e1:keysN 7 x.kids=x.kids.map PN.key:=by unfold keysN;rw [if_pos rfl]
  rw [keyAt'_plc,e1,hps,Nat.zero_add]
  exact⟨rfl,if_pos (by omega)⟩
theorem findN_snoc:∀{p:List PS} {n x:PN} {a b:Int} (s:PS),findN n p a=some (x,b)→findN n (p++[s]) a=findN x [s] b
 | [],n,x,a,b,s,h=>by simp only [findN,oI,Prod.mk.injEq] at h;obtain⟨rfl,rfl⟩:=h;rfl
 | q::r,n,x,a,b,s,h=>by
  rw [List.cons_append,findN]
  rw [findN] at h
  split at h
  ·cases h
  ·rename_i hh
   rw [if_neg hh]
   split at h
   ·cases h
   ·exact findN_snoc s h
theorem getT_snoc:∀{p:List PS} {t x:PT} (s:PS),getT t p=some x→getT t (p++[s])=getT x [s]
 | [],t,x,s,h=>by simp only [getT,oI] at h;subst h;rfl
 | q::r,t,x,s,h=>by
  rw [List.cons_append,getT]
  rw [getT] at h
  split at h
  ·cases h
  ·rename_i hh
   rw [if_neg hh]
   split at h
   ·cases h
   ·exact getT_snoc s h
theorem flatKs_at (kids:List PN) (seps:List (List UInt8)):∀{j:Nat} (hj:j<kids.length),∃pre,flatKs kids seps 0=pre++(flatB kids[j]++flatKs (kids.drop (j+1)) seps (j+1))∧pre.length=offs kids seps j
 | 0,hj=>⟨[],by
   have:=flatKs_step (seps:=seps) hj
   rw [List.drop_zero] at this
   rw [this];simp [sepAt],rfl⟩
 | j+1,hj=>by
  have hj0:j<kids.length:=by omega
  obtain⟨pre,h1,h2⟩:=flatKs_at kids seps hj0
  have h3:=flatKs_step (seps:=seps) hj
  rw [h3] at h1
  refine⟨pre++(flatB kids[j]++sepAt seps (j+1)),by rw [h1];simp only [aA],?_⟩
  simp only [offs,gE hj0,lA,h2,sepAt]
  rw [if_pos (by omega),Nat.add_sub_cancel]
  omega
theorem PN.dps_mem {t:PN}:∀{l:List PN},t∈l→t.dp≤PN.dps l
 | a::r,h=>by
  simp only [PN.dps]
  rcases List.mem_cons.1 h with rfl | h
  ·omega
  ·have:=PN.dps_mem h;omega
theorem rightN_form {x:PN} (h:rightN x=true):formN x=true∧x.dp≤64∧x.n≤4096:=by
 simp only [rightN,bA,decide_eq_true_eq] at h
 exact⟨h.2.2,h.1,h.2.1⟩
theorem rightN_kid {x:PN} (h:rightN x=true) {j:Nat} (hj:j<x.kids.length):rightN x.kids[j]=true:=by
 obtain⟨h1,h2,h3⟩:=rightN_form h
 have hf:formN x.kids[j]=true:=by
  by_cases hl:leafK x.k=true
  ·have:=formN_leaf h1 hl
   rw [this] at hj;simp at hj
  ·exact formK_kids (formN_head h1 hl).2 _ (List.getElem_mem hj)
 obtain⟨k,a,b,c,leaf,h',kids,seps,t,e,f⟩:=x
 have g1:=PN.dps_mem (List.getElem_mem hj)
 have g2:=PN.ns_mem (List.getElem_mem hj)
 simp only [PN.kids] at hf g1 g2 ⊢
 simp only [PN.dp,PN.n] at h2 h3
 simp only [rightN,hf,Bool.and_true,bA,decide_eq_true_eq]
 omega
theorem leaf_one {t:PT} (h:formedB t=true) (hl:leafK t.k=true):t.dp=1∧t.n=1:=by
 obtain⟨k,s,keys,kids⟩:=t
 have hl:1≤k∧k≤5:=of_decide_eq_true hl
 simp only [formedB,bA] at h
 have hs:=h.2
 have hk:k=1∨k=2∨k=3∨k=4∨k=5:=by omega
 have:kids.length=0:=by
  rcases hk with rfl | rfl | rfl | rfl | rfl<;>(simp only [shapeB] at hs;simp at hs;simp [hs])
 obtain rfl:=nL this
 simp [PT.dp,PT.dps,PT.n,PT.ns]
theorem rightB_form {t:PT} (h:rightB t=0):formedB t=true:=by
 unfold rightB at h
 split at h
 ·cases h
 ·split at h
  ·cases h
  ·split at h
   ·assumption
   ·cases h
mutual
theorem treeN_right:∀x:PN,formN x=true→formedB (treeN x)=true∧(treeN x).dp≤x.dp∧(treeN x).n≤x.n
 |.mk k a b c leaf h' kids seps t e f,h=>by
  rw [formN] at h
  rw [treeN]
  split at h
  ·rename_i hl
   rw [if_pos hl]
   simp only [leafOK,bA,decide_eq_true_eq] at h
   have hf:=rightB_form h.2.1
   have:=leaf_one hf (by rw [h.1];exact hl)
   refine⟨hf,?_⟩
   simp only [PN.dp,PN.n]
   omega
  ·rename_i hl
   rw [if_neg hl]
   simp only [headOK,bA,Bool.or_eq_true,decide_eq_true_eq] at h
   have ih:=treesN_right kids (formK_kids h.2)
   have hlen:(treesN kids).length=kids.length:=by rw [treesN_map,List.length_map]
   refine⟨?_,by simp only [PT.dp,PN.dp];omega,by simp only [PT.n,PN.n];omega⟩
   rw [formedB,ih.1,Bool.true_and,hlen]
   unfold shapeB
   rcases h.1.1 with hk | hk
   ·rw [hk];rfl
   ·rw [hk] at h ⊢
    have hu:=formK_keys h.2
    simp only [show ¬(7:Int)=1 by decide,show ¬(7:Int)=2 by decide,show ¬(7:Int)=3 by decide,show ¬(7:Int)=4 by decide,show ¬(7:Int)=5 by decide,show ¬(7:Int)=6 by decide,if_false,if_true,hu,List.length_map,decide_true,Bool.and_true]
    rfl
theorem treesN_right:∀l:List PN,(∀x∈l,formN x=true)→formedBs (treesN l)=true∧PT.dps (treesN l)≤PN.dps l∧PT.ns (treesN l)≤PN.ns l
 | [],_=>⟨rfl,Nat.le_refl _,Nat.le_refl _⟩
 | t::r,h=>by
  have h1:=treeN_right t (h t (by simp))
  have h2:=treesN_right r fun x hx=>h x (by simp [hx])
  simp only [treesN,formedBs,PT.dps,PT.ns,PN.dps,PN.ns,h1.1,h2.1,Bool.and_self]
  exact⟨trivial,by omega,by omega⟩
end
theorem treeN_rightB {x:PN} (h:rightN x=true):rightB (treeN x)=0:=by
 obtain⟨h1,h2,h3⟩:=rightN_form h
 have:=treeN_right x h1
 unfold rightB
 rw [if_neg (by omega),if_neg (by omega),if_pos this.1]
mutual
theorem treeN_sok:∀x:PN,x.sok→(treeN x).sok
 |.mk k a b c leaf h' kids seps t e f,h=>by
  simp only [PN.sok] at h
  rw [treeN]
  split
  ·exact h.1
  ·have ih:=treesN_sok kids h.2.2.2.2.2.2
   have hlen:(treesN kids).length=kids.length:=by rw [treesN_map,List.length_map]
   have hkl:=keysN_len k kids
   unfold keysN at hkl
   simp only [PT.sok]
   refine⟨by simp,fun q hq=>?_,by omega,by omega,ih⟩
   split at hq
   ·obtain⟨u,hu,rfl⟩:=List.mem_map.1 hq
    obtain⟨i,hi,rfl⟩:=List.getElem_of_mem hu
    exact PN.sok_key (PN.soks_get hi h.2.2.2.2.2.2)
   ·simp at hq
theorem treesN_sok:∀l:List PN,PN.soks l→PT.soks (treesN l)
 | [],_=>trivial
 | t::r,h=>by
  simp only [PN.soks] at h
  exact⟨treeN_sok t h.1,treesN_sok r h.2⟩
end
structure SpanP (n:PN) (p:List PS) (x:PN) (a:Nat):Prop where
 find:findN n p 0=some (x,(a:Int))
 get:getT (treeN n) p=some (treeN x)
 bytes:∃pre suf,flatB n=pre++(flatB x++suf)∧pre.length=a
 right:rightN x=true
 ok:x.ok
 sok:x.sok
 tb:x.tb≤n.tb
 n:x.n≤n.n
theorem SpanP.first {n:PN} (h:rightN n=true) (hk:n.ok) (hs:n.sok):SpanP n [] n 0 :=
 ⟨rfl,rfl,⟨[],[],by simp,rfl⟩,h,hk,hs,Nat.le_refl _,Nat.le_refl _⟩
theorem SpanP.next {n x:PN} {p:List PS} {a:Nat} (h:SpanP n p x a) {j:Nat} (hj:j<x.kids.length):SpanP n (p++[stepOf x j]) x.kids[j] (a+x.lead.length+x.head.length+offs x.kids x.seps j):=by
 have hf:=(rightN_form h.right).1
 obtain⟨s1,s2⟩:=step_kid hf hj
 have hl:¬leafK x.k=true:=fun e=>by rw [formN_leaf hf e] at hj;simp at hj
 have hlen:(treesN x.kids).length=x.kids.length:=by rw [treesN_map,List.length_map]
 refine⟨?_,?_,?_,rightN_kid h.right hj,?_,?_,?_,?_⟩
 ·rw [findN_snoc _ h.find,findN,s1,if_neg (by omega),Int.toNat_natCast,gE hj]
  simp only [findN]
  congr 1
 ·rw [getT_snoc _ h.get,getT,s2,if_neg (by omega),Int.toNat_natCast,treeN_eq hl]
  simp only [PT.kids]
  rw [treesN_map,List.getElem?_map,gE hj]
  simp only [Option.map_some,getT]
 ·obtain⟨pre,suf,h1,h2⟩:=h.bytes
  obtain⟨k,a',b,c,leaf,h',kids,seps,t,e,f⟩:=x
  simp only [PN.kids,PN.lead,PN.head,PN.seps,PN.k] at hj hl ⊢
  obtain⟨pre2,h3,h4⟩:=flatKs_at kids seps hj
  rw [flatB,if_neg hl,h3] at h1
  refine⟨pre++(a'++(h'++pre2)),flatKs (kids.drop (j+1)) seps (j+1)++(t++(e++suf)),by rw [h1];simp only [aA],?_⟩
  simp only [lA,h2,h4];omega
 ·have:=h.ok
  obtain⟨k,a',b,c,leaf,h',kids,seps,t,e,f⟩:=x
  simp only [PN.ok] at this
  exact PN.oks_get hj this.2.2.2
 ·have:=h.sok
  obtain⟨k,a',b,c,leaf,h',kids,seps,t,e,f⟩:=x
  simp only [PN.sok] at this
  exact PN.soks_get hj this.2.2.2.2.2.2
 ·have:=h.tb
  obtain⟨k,a',b,c,leaf,h',kids,seps,t,e,f⟩:=x
  simp only [PN.tb] at this
  simp only [PN.kids] at hj ⊢
  have:=tbs_take hj
  omega
 ·have:=h.n
  obtain⟨k,a',b,c,leaf,h',kids,seps,t,e,f⟩:=x
  simp only [PN.kids] at hj ⊢
  have:=kidN_lt (k:=k) (a:=a') (b:=b) (c:=c) (leaf:=leaf) (h:=h') (seps:=seps) (t:=t) (e:=e) (f:=f) hj
  omega
theorem SpanP.cut {n x:PN} {p:List PS} {a:Nat} (h:SpanP n p x a):a+(flatB x).length≤(flatB n).length∧((flatB n).drop a).take (flatB x).length=flatB x:=by
 obtain⟨pre,suf,h1,h2⟩:=h.bytes
 subst h2
 rw [h1]
 refine⟨by simp only [lA];omega,?_⟩
 rw [List.drop_left',List.take_left']<;>rfl
end Go.Dn

namespace Go.Dn
open Go Go.Proofs.C1
set_option maxRecDepth 100000
attribute [local irreducible] afterS keepE
def intsZ (l:List Int):List AV:=l.map fun n=>.int .i64 n
theorem intsZ_len (l:List Int):(intsZ l).length=l.length:=by simp [intsZ]
theorem intsZ_get {l:List Int} {i:Nat} (h:i<l.length):(intsZ l)[i]? = some (.int .i64 l[i]):=by simp [intsZ,h]
theorem sx_rem {gt:GT} {d:Option Nat} {env:Env} {S:St} {x y:DOpd} {a b:Int} (hx:opd env x=some (.int .i64 a)) (hy:opd env y=some (.int .i64 b)) (h:¬b=0):stepO gt d env S (.bin .rem none x y)=.done (putV d (.int .i64 (a.tmod b)) env) S:=by
 simp only [stepO,hx,hy,binV,binI,eqI_false h,if_true,cond_false,SR.val]
section
variable {gt:GT} {C:CallT}
set_option maxHeartbeats 2000000 in
theorem wthin_wp {a:Int} {n:Nat} (h:0<n) (hn:n<4611686018427387904):wpF gt C F31 [.int .i64 a,.int .i64 0,.int .i64 (((n:Nat):Int)-1)] St.init (Ret (.int .i64 (a % n))):=by
 have t1:=Int.tmod_lt_of_pos a (show (0:Int)<n by omega)
 have t2:-(n:Int)<a.tmod n:=by have:=Int.lt_tmod_of_pos a (show (0:Int)<n by omega);omega
 refine⟨rfl,?_⟩
 refine goW ?_
 rw [wr64 (n:=((n:Nat):Int)-1-0) (by omega) (by omega),wr64 (n:=((n:Nat):Int)-1-0+1) (by omega) (by omega),show ((n:Nat):Int)-1-0+1=n by omega]
 refine step_ruleO (sx_rem rfl rfl (by omega)) (goW ?_)
 have em:=Int.emod_nonneg a (show (n:Int)≠0 by omega)
 have em2:=Int.emod_lt_of_pos a (show (0:Int)<n by omega)
 have key:a % n=if a.tmod n<0 then a.tmod n+n else a.tmod n:=by
  rw [Int.tmod_eq_emod]
  have e:((n:Int).natAbs:Int)=n:=by omega
  split<;>split<;>omega
 by_cases c:a.tmod n<0
 ·rw [dT c]
  rw [if_pos c] at key
  refine goW ?_
  rw [wr64 (n:=a.tmod n+(((n:Nat):Int)-1)) (by omega) (by omega),wr64 (n:=a.tmod n+(((n:Nat):Int)-1)-0) (by omega) (by omega),wr64 (n:=a.tmod n+(((n:Nat):Int)-1)-0+1) (by omega) (by omega),wr64 (n:=0+(a.tmod n+(((n:Nat):Int)-1)-0+1)) (by omega) (by omega)]
  refine⟨_,rfl,?_⟩
  rw [show 0+(a.tmod n+(((n:Nat):Int)-1)-0+1)=a % n by omega]
  exact Ret.sta trivial
 ·rw [dF c]
  rw [if_neg c] at key
  refine goW ?_
  rw [wr64 (n:=0+a.tmod n) (by omega) (by omega)]
  refine⟨_,rfl,?_⟩
  rw [show 0+a.tmod n=a % n by omega]
  exact Ret.sta trivial
end

section
variable {gt:GT} {C:CallT}
abbrev E_spn (l:List Int) (n:PN) (x:PN) (p:List PS) (o:SI) (i:Int):Env :=
 [(1,.val (.sl 1 stat (intsZ l))),(2,.box (encN n).cells),(5,.val (.str (flatB n))),(6,.box (encT (treeN n)).cells),(8,.val (.sl 2 o (encSs p))),(9,.box (encN x).cells),(10,.val (.int .i64 i))]
set_option maxHeartbeats 16000000 in
theorem cstSpans_wp (hm:MonoC C) (hruns:PF C 3 [] (.bool true)) {n:PN} {l:List Int} (hll:l.length<4611686018427387904) (hwl:(flatB n).length≤4611686018427387904) (hnn:n.n<4611686018427387904) (hk:n.ok) (hs:n.sok)
  (hsize:PF C 16 [encN n,.int .i64 3000] (.int .i64 (sizeN n 3000))) (hr:PF C 14 [encN n] (.bool (rightN n))) (htr:rightN n=true→PF C 28 [encT (treeN n)] (.int .i64 0))
  (hfl:∀{p x a},SpanP n p x a→PF C 11 [encN x] (.str (flatB x))) (hlen:∀{p x a},SpanP n p x a→PF C 12 [encN x] (.int .i64 (flatB x).length)) (ht:∀{p x a},SpanP n p x a→PF C 9 [encN x] (.tup [encT (treeN x),.int .i64 0]))
  (hsm:∀{p x a},SpanP n p x a→PF C 30 [encT (treeN x),encT (treeN x)] (.bool true))
  (hfind:∀{S o p x a},elems S true 2 o (encSs p)=some (encSs p)→p.length≤64→SpanP n p x a→C 15 [encN n,.sl 2 o (encSs p)] S fun r S'=>r=.ret (.tup [encN x,.int .i64 a,.bool true])∧S'=S)
  (hget:∀{S o p x a},elems S true 2 o (encSs p)=some (encSs p)→p.length≤64→SpanP n p x a→C 29 [encT (treeN n),.sl 2 o (encSs p)] S fun r S'=>r=.ret (.tup [encT (treeN x),.bool true])∧S'=S)
  (hwi:∀(a:Int) (n:Nat),0<n→n<4611686018427387904→PF C 31 [.int .i64 a,.int .i64 0,.int .i64 (((n:Nat):Int)-1)] (.int .i64 (a % n))) :
  wpF gt C F7 [encN n,.sl 1 stat (intsZ l)] St.init (Ret (.bool true)):=by
 have ll:=intsZ_len l
 generalize hsz:sizeN n 3000=sz at hsize
 obtain⟨_,_,_,_,_,_,_,_,_,_,_,_,_,_,he⟩:=encN_agg n
 obtain⟨_,_,_,_,he2⟩:=encT_agg (treeN n)
 have hfl0:=fun h=>hfl (SpanP.first (n:=n) h hk hs)
 have ht0:=fun h=>ht (SpanP.first (n:=n) h hk hs)
 have hsp0:=fun h=>SpanP.first (n:=n) h hk hs
 generalize hrn:rightN n=rn at hr
 rw [he2] at htr ht0 hget
 rw [he] at hsize hr hfl0 ht0 hfind
 have e0:∀o:SI,E_spn l n n [] o 0=E_spn l n n [] o 0:=fun _=>rfl
 simp only [E_spn,he,he2] at e0
 rw [he]
 refine⟨rfl,?_⟩
 refine goW ?_
 refine call_pf hm (by rfl) hsize (goW ?_)
 by_cases z:sz ≥ 3000
 ·rw [dT z]
  refine goW ?_
  refine call_pf hm (by rfl) hruns (goW ?_)
  exact⟨_,rfl,Ret.sta trivial⟩
 rw [dF z]
 refine goW ?_
 refine call_pf hm (by rfl) hr ?_
 cases rn with
 | false =>
  refine goW ?_
  refine call_pf hm (by rfl) hruns (goW ?_)
  exact⟨_,rfl,Ret.sta trivial⟩
 | true =>
 refine goW ?_
 refine call_pf hm (by rfl) (hfl0 hrn) (goW ?_)
 refine call_pf hm (by rfl) (ht0 hrn) (goW ?_)
 refine call_pf hm (by rfl) (htr hrn) (goW ?_)
 refine loop_rule hm (α:=Nat) (fun i env S'=>∃o p x a,Hs S' [.gr 41 o (encSs p)]∧SpanP n p x a∧p.length=i∧i≤l.length∧env=E_spn l n x p o i) (fun i=>l.length-i) ?_ (a:=0) ⟨_,[],n,0,Hs.init.addNil 41 true,hsp0 hrn,rfl,Nat.zero_le _,?_⟩
 case refine_2=>simp only [E_spn,he,he2];try rfl
 rintro i env S' ⟨o,p,x,a,hR,hp,hpl,hi,rfl⟩
 simp only [E_spn,he,he2]
 have hel:elems S' true 2 o (encSs p)=some (encSs p):=(hR.ok 0 _ rfl).els true 2
 have cut:=hp.cut
 have hflx:=hfl hp
 have hlenx:=hlen hp
 have htx:=ht hp
 have hsmx:=hsm hp
 refine goW ?_
 rw [dT (show (i:Int)≤(intsZ l).length by omega)]
 refine goW ?_
 by_cases z64:(i:Int)<64
 case neg =>
  rw [dF z64]
  refine goW ?_
  refine call_pf hm (by rfl) hruns (goW ?_)
  exact⟨_,rfl,Ret.sta trivial⟩
 rw [dT z64]
 have hfx:=hfind hel (by omega) hp
 have hgx:=hget hel (by omega) hp
 obtain⟨_,_,_,_,he3⟩:=encT_agg (treeN x)
 rw [he3] at htx hsmx hgx
 have hkids:=encNs_len x.kids
 have hkl:x.kids.length<4611686018427387904:=by
  have h1:=hp.n
  have h2:=PN.len_ns x.kids
  have h3:PN.ns x.kids+1=x.n:=by cases x;rfl
  omega
 have nxt:∀{j:Nat} (hj:j<x.kids.length),SpanP n (p++[stepOf x j]) x.kids[j] (a+x.lead.length+x.head.length+offs x.kids x.seps j):=fun hj=>hp.next hj
 generalize hfb:flatB x=fb at cut hflx hlenx
 obtain⟨cut1,cut2⟩:=cut
 obtain⟨_,_,_,_,_,_,_,_,_,_,_,he4⟩:=encN_parts x
 rw [he4] at hflx hlenx htx hfx
 simp only [he4]
 refine goW ?_
 refine call_rule (by rfl) (hm _ _ _ _ _ hfx ?_)
 rintro r S2 ⟨rfl,hS⟩
 subst hS
 refine goW ?_
 refine call_pf hm (by rfl) hflx (goW ?_)
 rw [dF (show ¬(a:Int)<0 by omega)]
 refine goW ?_
 rw [wr64 (n:=(a:Int)+fb.length) (by omega) (by omega),dF (show ¬(a:Int)+fb.length > (flatB n).length by omega)]
 refine goW ?_
 rw [wr64 (n:=(a:Int)+fb.length) (by omega) (by omega),show (a:Int)+fb.length=((a+fb.length:Nat):Int) by push_cast;rfl]
 refine st_any (by exact rfl) (sx_slLH (l:=a) (h:=a+fb.length) rfl rfl rfl (by omega) cut1) ?_
 rw [Nat.add_sub_cancel_left,cut2]
 refine goW ?_
 rw [beqB_true (rfl:fb=fb)]
 refine goW ?_
 refine call_pf hm (by rfl) hlenx (goW ?_)
 rw [neI_false (rfl:(fb.length:Int)=fb.length)]
 refine goW ?_
 refine call_pf hm (by rfl) htx (goW ?_)
 refine call_rule (by rfl) (hm _ _ _ _ _ hgx ?_)
 rintro r S3 ⟨rfl,hS⟩
 subst hS
 refine goW ?_
 refine call_pf hm (by rfl) hsmx (goW ?_)
 by_cases zl:(i:Int)=(intsZ l).length
 ·rw [eqI_true zl]
  refine goW ?_
  refine call_pf hm (by rfl) hruns (goW ?_)
  exact⟨_,rfl,Ret.sta trivial⟩
 rw [eqI_false zl]
 refine goW ?_
 by_cases zk:((encNs x.kids).length:Int)=0
 ·rw [eqI_true zk]
  refine goW ?_
  refine call_pf hm (by rfl) hruns (goW ?_)
  exact⟨_,rfl,Ret.sta trivial⟩
 rw [eqI_false zk]
 have hil:i<l.length:=by omega
 obtain⟨j,hj⟩:∃j:Nat,l[i] % (x.kids.length:Int)=j:=⟨(l[i] % (x.kids.length:Int)).toNat,by have:=Int.emod_nonneg l[i] (show (x.kids.length:Int)≠0 by omega);omega⟩
 have hjl:j<x.kids.length:=by have:=Int.emod_lt_of_pos l[i] (show (0:Int)<x.kids.length by omega);omega
 have hw:=hwi l[i] x.kids.length (by omega) hkl
 rw [hj,←hkids] at hw
 refine goW ?_
 refine step_ruleDO rfl rfl (sx_ia (k:=i) rfl rfl (by omega)) (goW ?_)
 refine step_ruleDO rfl rfl (sx_ldEl (agg:=false) rfl rfl (intsZ_get hil) rfl) (goW ?_)
 rw [wr64 (n:=((encNs x.kids).length:Int)-1) (by omega) (by omega)]
 refine call_pfD hm (by rfl) hw ?_
 have hnx:=nxt hjl
 have hg:=encNs_get hjl
 have hrd:=rdN x.kids[j]
 have hso:stepOf x j=if x.k=7 then ⟨x.kids[j].key,0⟩ else ⟨[],j⟩:=by unfold stepOf;rw [gE hjl];rfl
 have lp:=encSs_len p
 have hend:∀(o2:SI) (S4:St) (st:PS) (ys:List AV),stepOf x j=st→ys=encSs (p++[st])→Hs S4 [.gr 41 o2 ys]→∃b,(∃o' p' x' a',Hs S4 [.gr 41 o' (encSs p')]∧SpanP n p' x' a'∧p'.length=b∧b≤l.length ∧
   [(1,.val (.sl 1 stat (intsZ l))),(2,.box (encN n).cells),(5,.val (.str (flatB n))),(6,.box (encT (treeN n)).cells),(8,.val (.sl 2 o2 ys)),(9,.box (encN x.kids[j]).cells),(10,.val (.int .i64 ((i+1:Nat):Int)))]=E_spn l n x' p' o' b)∧l.length-b<l.length-i:=fun o2 S4 st ys e1 e2 h=>by
  subst e2
  rw [e1] at hnx
  exact⟨i+1,⟨o2,_,_,_,h,hnx,by simp [hpl],by omega,rfl⟩,by omega⟩
 obtain⟨_,_,_,_,_,_,_,_,_,_,_,he5⟩:=encN_parts x.kids[j]
 simp only [E_spn,he,he2,he5] at hend
 rw [he5] at hg hrd
 refine goW ?_
 by_cases k7:x.k=7
 ·rw [eqI_true k7]
  rw [if_pos k7] at hso
  refine goW ?_
  refine step_ruleO (sx_ia (k:=j) rfl rfl (by omega)) (goW ?_)
  refine step_ruleO (sx_ldEl (agg:=true) rfl rfl hg rfl) (goW ?_)
  obtain⟨hR,hsrc⟩:=hR.bldT 41 1
  refine r_app hR 0 rfl trivial rfl rfl (hsrc _ _ _) (by rw [lp];simp;omega) (by rw [lp];simp;omega) (by decide) (by decide) rfl ?_
  intro o3 S4 hR
  refine goW ?_
  refine step_ruleO (sx_ia (k:=j) rfl rfl (by omega)) (goW ?_)
  refine step_ruleO (sx_ldEl (agg:=true) rfl rfl hg hrd) (goW ?_)
  rw [wrNat (by omega)]
  exact hend o3 S4 _ _ hso (by simp [encSs];rfl) hR
 ·rw [eqI_false k7]
  rw [if_neg k7] at hso
  refine goW ?_
  obtain⟨hR,hsrc⟩:=hR.bldT 41 1
  refine r_app hR 0 rfl trivial rfl rfl (hsrc _ _ _) (by rw [lp];simp;omega) (by rw [lp];simp;omega) (by decide) (by decide) rfl ?_
  intro o3 S4 hR
  refine goW ?_
  refine step_ruleO (sx_ia (k:=j) rfl rfl (by omega)) (goW ?_)
  refine step_ruleO (sx_ldEl (agg:=true) rfl rfl hg hrd) (goW ?_)
  rw [wrNat (by omega)]
  exact hend o3 S4 _ _ hso (by simp [encSs];rfl) hR
end
end Go.Dn

namespace Go.Proofs.YthjebaophnkpbaaGreatDoor
open Go.Dn
theorem a_int:isAggP Tryz.prog 3=some false:=by kernel_rfl
theorem u_ints:Tryz.prog.underlying 53=some (.slice 3):=by kernel_rfl
theorem av_ints {d:Nat} {xs:List AV} (h:AVB Tryz.prog d 53 xs):∃l,xs=[.sl 1 stat (intsZ l)]:=by
 cases d with
 | zero=>exact h.elim
 | succ d =>
  unfold AVB at h
  rw [u_ints] at h
  obtain⟨ys,rfl,h2⟩:=h
  rw [c_int]
  have:∃l,ys=intsZ l:=by
   induction ys with
   | nil=>exact⟨[],rfl⟩
   | cons y r ih =>
    obtain⟨l,hl⟩:=ih fun z hz=>h2 z (by simp [hz])
    obtain⟨k1,_,k3⟩:=h2 y (by simp)
    rw [k3 a_int] at k1
    obtain⟨n,rfl⟩:=av_int k1
    exact⟨n::l,by rw [hl];rfl⟩
  obtain⟨l,rfl⟩:=this
  exact⟨l,rfl⟩
theorem bulk_Is (l:List Int):l.length≤bulkAs (intsZ l):=by
 induction l with
 | nil=>exact Nat.zero_le _
 | cons s r ih =>
  have:intsZ (s::r)=.int .i64 s::intsZ r:=rfl
  rw [this]
  simp only [bulkAs,bulkA,lC]
  omega
end Go.Proofs.YthjebaophnkpbaaGreatDoor

namespace Go.Proofs.YthjebaophnkpbaaGreatDoor.Fn
open Go.ChangeShapes Go.WideShapes Go.ChangeAt Go.RowKit Go.Dn
theorem at4 (n:PN) (s:PS) (h:n.ok):PF A 42 [encN n,encS s] (.int .i64 (kidI n s)) :=
 pf Tryz.func42 (by kernel_rfl) C1.F42_ok (s2 (sta_N n) (sP s)) (kid_wp hm h)
theorem findO {n x:PN} {p:List PS} {a:Int} {S:St} {o:SI} (hel:elems S true 2 o (encSs p)=some (encSs p)) (hf:findN n p 0=some (x,a)) (h:n.ok) (hL:n.tb≤4611686018427387904) (hp:p.length≤64) :
  A 15 [encN n,.sl 2 o (encSs p)] S fun r S'=>r=.ret (.tup [encN x,.int .i64 a,.bool true])∧S'=S :=
 AC_intro Tryz.checked.mixed Tryz.func15 (by kernel_rfl) C1.F15_ok (findO_wp hm at4 len copyN hel hf h hL (by omega))
theorem getO {t x:PT} {p:List PS} {S:St} {o:SI} (hel:elems S true 2 o (encSs p)=some (encSs p)) (hf:getT t p=some x) (h:t.ok) (hp:p.length≤64) :
  A 29 [encT t,.sl 2 o (encSs p)] S fun r S'=>r=.ret (.tup [encT x,.bool true])∧S'=S :=
 AC_intro Tryz.checked.mixed Tryz.func29 (by kernel_rfl) C1.F29_ok (getO_wp hm part copyT hel hf h (by omega))
theorem wthin (a:Int) (n:Nat) (h:0<n) (hn:n<4611686018427387904):PF A 31 [.int .i64 a,.int .i64 0,.int .i64 (((n:Nat):Int)-1)] (.int .i64 (a % n)) :=
 pf Tryz.func31 (by kernel_rfl) C1.F31_ok (s3 trivial trivial trivial) (wthin_wp h hn)
end Go.Proofs.YthjebaophnkpbaaGreatDoor.Fn
namespace Go.Proofs.YthjebaophnkpbaaGreatDoor
open Go.Dn Go.Proofs.YthjebaophnkpbaaGreatDoor.Fn
theorem CstSpans.law {n:PN} {l:List Int} (hb:bulkA (encN n)≤1048576) (hll:l.length<4611686018427387904):A 7 [encN n,.sl 1 stat (intsZ l)] St.init (Ret (.bool true)):=by
 obtain⟨hs,hn⟩:=bulk_sokN n hb
 obtain⟨hk,htb⟩:=bulk_N n hb
 have hf:=flatB_le n
 have hfx:∀{p:List PS} {x:PN} {a:Nat},SpanP n p x a→(flatB x).length≤1048576:=fun h=>by
  have:=flatB_le ‹_›;have:=h.cut.1;omega
 exact AC_intro Tryz.checked.mixed Tryz.func7 (by kernel_rfl) Go.Proofs.C1.F7_ok
  (cstSpans_wp Fn.hm Fn.runs hll (by omega) (by omega) hk hs (Fn.sizeN n 3000 hk (by omega)) (Fn.rightNode n (by omega) hs)
   (fun h=>by have:=Fn.right (treeN n) (by have:=treeN_right n (rightN_form h).1;omega) (treeN_sok n hs);rwa [treeN_rightB h] at this)
   (fun h=>Fn.flattenP _ h.ok (by have:=hfx h;omega)) (fun h=>Fn.len _ h.ok (by have:=hfx h;omega))
   (fun {p x a} h=>by have:=Fn.treeP x (by have:=h.n;omega) h.sok h.ok;simpa only [h.right,if_true] using this)
   (fun {p x a} h=>by
    have hx:=treeN_right x (rightN_form h.right).1
    have:=h.n
    have:=Fn.same (treeN x) (treeN x) (treeN_sok x h.sok) (treeN_ok x h.ok) (by omega) (treeN_sok x h.sok) (treeN_ok x h.ok) (by omega)
    rwa [sameB_self] at this)
   (fun he hp h=>Fn.findO he h.find hk (by omega) hp)
   (fun he hp h=>Fn.getO he h.get (treeN_ok n hk) hp)
   Fn.wthin)
end Go.Proofs.YthjebaophnkpbaaGreatDoor

namespace Go.Proofs.YthjebaophnkpbaaGreatDoor.CstSpans
open Go.ChangeShapes Go.WideShapes Go.ChangeAt Go.RowKit Go.Dn Go.Proofs.YthjebaophnkpbaaGreatDoor.Fn
theorem laidOut:laidOutB Tryz.prog=true:=by kernel_rfl
theorem walk {W:World} (hI:Inv Tryz.prog gtT St.init (G0 W) W) {args:Array Value} {xs:List AV} {f:FuncId} (hac:A f xs St.init (Ret (.bool true))) (hx:Rl St.init (G0 W) W xs args.toList):Calls Tryz.prog f args W fun e W'=>e=.returned (.bool true)∧Below W.heap.size W W':=by
 refine Calls.mono (hac.2 (G0 W) W args.toList hI hx) fun e W' hp=>?_
 cases e with
 | returned v =>
  obtain⟨x,S',G',⟨y,hy,hr⟩,t,rv⟩:=hp
  cases hy
  simp only [Rdo] at hr
  subst hr
  refine⟨?_,below_of_ext t.ext⟩
  simp only [Rv] at rv
  rw [rv]
 | panicked chain =>
  obtain⟨x,S',G',u,hc,⟨y,hy,hr⟩,_⟩:=hp
  cases hy
 | outgrown=>exact hp.elim
theorem types:okTypes Tryz.prog [28,26,25,23,22,9,3,48,41,53]=true:=by kernel_rfl
theorem isUb {H:Type}:IsUb (Rows.uptoBulk (H:=H)) Rows.uptoBulkAll where
 lit l:=by cases l<;>simp [Rows.uptoBulk]
 str s:=by simp [Rows.uptoBulk]
 nil:=by simp [Rows.uptoBulk]
 slice a b:=by simp [Rows.uptoBulk]
 agg a:=by simp [Rows.uptoBulk]
 none:=by simp [Rows.uptoBulkAll]
 cons d r:=by simp [Rows.uptoBulkAll]
theorem wantsI:Tryz.pinned.checked.prog.wantsStandIn 53=false:=by kernel_rfl
set_option maxRecDepth 1000000 in
theorem entryI {H:Type} {enc:TypeId×Value→H} {W:World} {v:Value} {d:DataW H} {p:List MemPlace} {base:Nat} (hv:Value.okWide Tryz.prog W .any base 53 v) (h:DataW.Trod enc Tryz.prog W 0 (fun _=>true) true 53 v d p) :
  ∃l:List Int,Rv St.init (G0 W) W (.sl 1 stat (intsZ l)) v∧l.length≤Rows.uptoBulk d:=by
 obtain⟨a,len,cap,rfl⟩:=okWide_slice u_ints hv
 obtain⟨fuel,hf⟩:=h
 obtain⟨zs,hr,ht,hb⟩:=trod_avb isUb types fuel 53 _ _ (by decide) hf
 obtain⟨l,rfl⟩:=av_ints ht
 have hu:(Value.slice a len cap).cells.toList=[.slice a len cap]:=rfl
 rw [hu] at hr
 simp only [Rl] at hr
 obtain⟨u,r,e1,e2,rfl⟩:=hr
 cases e1
 refine⟨l,e2,?_⟩
 have:=bulk_Is l
 simp only [bulkAs,bulkA] at hb
 omega
theorem wantsN:Tryz.pinned.checked.prog.wantsStandIn 28=false:=by kernel_rfl
set_option maxRecDepth 1000000 in
theorem entryN {H:Type} {enc:TypeId×Value→H} {W:World} {v:Value} {d:DataW H} {p:List MemPlace} {base:Nat} (hv:Value.okWide Tryz.prog W .any base 28 v) (h:DataW.Trod enc Tryz.prog W 0 (fun _=>true) true 28 v d p) :
  ∃n:PN,Rv St.init (G0 W) W (encN n) v∧bulkA (encN n)≤Rows.uptoBulk d:=by
 obtain⟨fuel,hf⟩:=h
 obtain⟨zs,hr,ht,hb⟩:=trod_avb isUb types fuel 28 _ _ (by decide) hf
 obtain⟨n,hn⟩:=av_node ht
 refine⟨n,?_,?_⟩
 ·rw [←hn]
  obtain⟨vs,rfl,_⟩:=okWide_struct Tryz.underlying28 hv
  simp only [Rv]
  exact⟨_,rfl,hr⟩
 ·rw [←hn]
  have:sb Tryz.prog 28=1:=by unfold sb;rw [Tryz.underlying28]
  rw [this] at hb
  simpa only [bulkA] using hb
abbrev zeroNode:Value:=.agg #[.int .i64 0,.string .empty,.string .empty,.string .empty,.int .i64 0,.string .empty,.slice none 0 0,.slice none 0 0,.string .empty,.slice none 0 0,.slice none 0 0,.string .empty,.string .empty,.int .i64 0]
abbrev zeroDataN (H:Type):DataW H:=.agg [.lit (.int .i64 0),.lit (.string []),.lit (.string []),.lit (.string []),.agg [.lit (.int .i64 0),.lit (.string []),.nil,.nil],.lit (.string []),.nil,.nil,.lit (.string []),.lit (.string []),.lit (.int .i64 0)]
abbrev zeros:Array Value:=#[zeroNode,.slice none 0 0]
theorem reads (os:Os) {H:Type} (enc:TypeId×Value→H):∃places,DataW.whole enc Tryz.prog ((laidW os).forCall (fun _ _=>0) ⟨#[],zeros,[]⟩).memory Tryz.f7.params.toList Rows.cstSpansSpec.vars false zeros.toList 8=some ([zeroDataN H,.nil],[],places) :=
 ⟨[],by kernel_rfl⟩
set_option maxRecDepth 100000 in
theorem lifted (os:Os) (started:os.Started) (H:Type) (enc:TypeId×Value→H) (F:Stop.Interp) :
  ReturnsInHanded {} Tryz.checked os 7 .any ((Rows.OpenSpec.upto Rows.cstSpansSpec).preRow enc Tryz.prog Tryz.f7 Rows.cstSpansUptoRow.domain false Rows.cstSpansUptoRow.laid)
   (((Rows.OpenSpec.upto Rows.cstSpansSpec).at F).post enc Tryz.prog Tryz.f7 false true false false):=by
 obtain⟨places,hx⟩:=reads os enc
 refine returnsInHanded_of_row (C:=Tryz.checked) (s:=Rows.OpenSpec.upto Rows.cstSpansSpec) own started (by kernel_rfl) Tryz.func7
  (witness_row_atRef (enc:=enc) (C:=Tryz.checked) false (laidW os) zeros (laidW_os _) (by kernel_rfl) (by kernel_rfl) (by kernel_rfl)
   (OpenSpec.preRow_of_cond 8 hx (by kernel_rfl) (fun k hk=>by cases hk;kernel_rfl) (by kernel_rfl) (laidW_met os _))) ?_
 intro W base args ds gs before hval0 hW _ hcond _ hL _ _
 have hval:∀(j:Nat) t v,Tryz.f7.params[j]? = some t→args[j]? = some v→Value.okWide Tryz.prog W .any base t v:=hval0
 have hW':=hW
 obtain⟨p,q,hA0,hV,rfl,hfz,hnd⟩:=hW
 have hA:DataW.TrodAll enc Tryz.prog W 0 (fun _=>true) true Tryz.f7.params.toList args.toList ds p:=hA0
 rw [Tryz.params7] at hA hval
 obtain⟨v0,v1,d0,d1,p0,p1,rfl,rfl,rfl,h0,h1⟩:=trodAll_two hA
 obtain⟨rfl,rfl⟩:=trodVars_none hV
 clear hA0 hval0
 simp only [List.append_nil] at hW'
 have hb:Rows.uptoBulkAll [d0,d1]≤1048576:=by
  have:=hcond _ rfl
  rw [List.append_nil] at this
  exact of_decide_eq_true this
 simp only [Rows.uptoBulkAll] at hb
 obtain⟨x0,hv0,hb0⟩:=entryN (hval 0 28 v0 rfl rfl) h0
 obtain⟨x1,hv1,hb1⟩:=entryI (hval 1 53 v1 rfl rfl) h1
 refine (walk (inv_of_laid hL) (CstSpans.law (by omega) (by omega)) (Rl.cons hv0 (Rl.cons hv1 Rl.nil))).mono fun e W' ⟨he,bel⟩=>?_
 subst he
 have hlt:∀x∈p0++p1,x.block<W.heap.size:=fun x hx=>hW'.lt x (by simpa only [aA] using hx)
 exact⟨_,rfl,_,_,_,[],_,[],hW',trodAll_mk1 (shut_bool Tryz.underlying4 _),
  trodAll_mk2 (Below.trod laidOut (by kernel_rfl) (of_decide_eq_true (by kernel_rfl)) h0 bel (fun x hx=>hlt x (by simp [hx]))) (Below.trod laidOut (by kernel_rfl) (of_decide_eq_true (by kernel_rfl)) h1 bel (fun x hx=>hlt x (by simp [hx]))),rfl,bel.frame _,fun h=>by cases h⟩
end Go.Proofs.YthjebaophnkpbaaGreatDoor.CstSpans
