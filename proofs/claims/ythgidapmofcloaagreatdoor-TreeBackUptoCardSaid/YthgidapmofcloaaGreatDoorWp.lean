/- Times: their bytes. What is read is right. What is written is read back: a tree's text, as the reader sees it. What is written is read back: lists, records, trees. What is written is read back: a tree's whole text. What is written is valid, and read back whole. What is read has no long texts; the law TreeBack, over the functions that it calls. The law TreeBack, over the functions that it calls. 'emendlaw3.TreeBack' as a contract. The row of 'emendlaw3.TreeBack': what is read, and that the call returns true. -/
import Derived.Test.YthgidapmofcloaaGreatDoorTie
import Derived.Test.YthgidapmofcloaaGreatDoorCards
import Derived.ProofKit
import Derived.LaidMore
import Derived.OpenShut
import Derived.Carry
import Derived.Stop.Joined
import Derived.Lay
import Derived.SevenTiedAt
import Derived.Deep.DeepHandedRow
import Derived.Deep.DeepWitnessRowRef
import Derived.Test.YthgidapmofcloaaGreatDoorWo
set_option linter.unusedSimpArgs false
set_option linter.unusedVariables false
set_option maxHeartbeats 64000000
namespace Go.Dn
open Go Go.Proofs.C1
set_option maxRecDepth 100000
theorem two_dig:∀{t:List UInt8},0<=twoB t->∀b∈t,dig b=true
 | [],h=>by simp[twoB]at h
 | [_],h=>by simp[twoB]at h
 | [x,y],h=>by
  simp only[twoB]at h;by_cases hd:dig x=true/\dig y=true
  ·intro b hb;rcases List.mem_cons.1 hb with rfl | hb
   ·exact hd.1
   ·rw[List.mem_singleton.1 hb];exact hd.2
  ·rw[if_neg hd]at h;omega
 | _::_::_::_,h=>by simp[twoB]at h
theorem withinD_dig {t:List UInt8}{lo hi:Int}(h:withinB t lo hi=true)(hl:0<=lo):∀b∈t,dig b=true:=by
 unfold withinB at h;simp only[bA,decide_eq_true_eq]at h;exact two_dig (by omega)
theorem dig_tim {b:UInt8}(h:dig b=true):timC b=true:=by
 have:digC b=true:=by rw[dig_iff]at h;rw[digC_iff];exact h
 unfold timC numC;rw[this];rfl
theorem at_tim {s:List UInt8}{i:Nat}{c b:UInt8}(h:atB s i c=true)(hb:s[i]? = some b)(hc:timC c=true):timC b=true:=by
 rw[atB_get hb,beq_iff_eq]at h;rw[h];exact hc
theorem date_tim {s:List UInt8}(h:dateB s=true):∀b∈s,timC b=true:=by
 unfold dateB at h;simp only[bA,decide_eq_true_eq]at h;obtain⟨hl,h4,h7,h0,h2,h5,h8⟩:=h
 match s,hl with
 | [x0,x1,x2,x3,x4,x5,x6,x7,x8,x9],_ =>
  have d0:=two_dig h0;have d2:=two_dig h2;have d5:=withinD_dig h5 (by decide);have d8:=withinD_dig h8 (by decide);have t4:=at_tim (b:=x4) h4 rfl (by decide);have t7:=at_tim (b:=x7) h7 rfl (by decide);simp only[sub,List.take_succ_cons,List.take_zero,List.drop_succ_cons,List.drop_zero,List.mem_cons,List.not_mem_nil,or_false]at d0 d2 d5 d8;intro b hb;simp only[List.mem_cons,List.not_mem_nil,or_false]at hb;rcases hb with rfl | rfl | rfl | rfl | rfl | rfl | rfl | rfl | rfl | rfl
  ·exact dig_tim (d0 _ (.inl rfl))
  ·exact dig_tim (d0 _ (.inr rfl))
  ·exact dig_tim (d2 _ (.inl rfl))
  ·exact dig_tim (d2 _ (.inr rfl))
  ·exact t4
  ·exact dig_tim (d5 _ (.inl rfl))
  ·exact dig_tim (d5 _ (.inr rfl))
  ·exact t7
  ·exact dig_tim (d8 _ (.inl rfl))
  ·exact dig_tim (d8 _ (.inr rfl))
theorem ten_dig {t:List UInt8}(h:trimA tenD t=[]):∀b∈t,dig b=true:=by
 intro b hb;rw[<-tenD_dig];exact trimA_nil.1 h b hb
theorem clock_tim {s:List UInt8}(h:clockB s=true):∀b∈s,timC b=true:=by
 unfold clockB at h;simp only[bA,decide_eq_true_eq]at h;obtain⟨hl,h2,h5,h0,h3,h6,hr⟩:=h
 match s,hl with
 | x0::x1::x2::x3::x4::x5::x6::x7::r,_ =>
  have d0:=withinD_dig h0 (by decide);have d3:=withinD_dig h3 (by decide);have d6:=withinD_dig h6 (by decide);have t2:=at_tim (b:=x2) h2 rfl (by decide);have t5:=at_tim (b:=x5) h5 rfl (by decide);simp only[sub,List.take_succ_cons,List.take_zero,List.drop_succ_cons,List.drop_zero,List.mem_cons,List.not_mem_nil,or_false]at d0 d3 d6;have hrest:∀b∈r,timC b=true:=by
   cases r with
   | nil=>intro b hb;cases hb
   | cons y z =>
    rw[Bool.or_eq_true]at hr;rcases hr with hr | hr
    ·simp at hr
    ·simp only[bA,decide_eq_true_eq]at hr;obtain⟨h8,_,_,ht⟩:=hr;have t8:=at_tim (b:=y) h8 rfl (by decide);have dz:=ten_dig (beqB_iff.1 ht);intro b hb;rcases List.mem_cons.1 hb with rfl | hb
     ·exact t8
     ·exact dig_tim (dz b hb)
  intro b hb;simp only[List.mem_cons]at hb;rcases hb with rfl | rfl | rfl | rfl | rfl | rfl | rfl | rfl | hb
  ·exact dig_tim (d0 _ (.inl rfl))
  ·exact dig_tim (d0 _ (.inr rfl))
  ·exact t2
  ·exact dig_tim (d3 _ (.inl rfl))
  ·exact dig_tim (d3 _ (.inr rfl))
  ·exact t5
  ·exact dig_tim (d6 _ (.inl rfl))
  ·exact dig_tim (d6 _ (.inr rfl))
  ·exact hrest b hb
theorem cutC_eq {c:UInt8}:∀{s:List UInt8},(cutC c s).2.2=true->s=(cutC c s).1++c::(cutC c s).2.1
 | [],h=>by cases h
 | b::r,h=>by
  simp only[cutC]at h ⊢;by_cases hb:(b == c)=true
  ·rw[if_pos hb];rw[beq_iff_eq.1 hb];rfl
  ·rw[if_neg hb]at h ⊢;simp only at h ⊢;rw[List.cons_append,<-cutC_eq h]
theorem zone_eq (s:List UInt8):s=(zoneB s).1++(zoneB s).2/\∀b∈(zoneB s).2,timC b=true:=by
 unfold zoneB;by_cases h1:tl 90 s=true
 ·rw[if_pos h1];refine⟨?_,λb hb=>by rw[List.mem_singleton.1 hb];decide⟩;unfold tl at h1;cases e:s.reverse with
  | nil=>rw[e]at h1;cases h1
  | cons b r =>
   rw[e]at h1;have hb:b=90:=beq_iff_eq.1 h1;have:=congrArg List.reverse e;rw[List.reverse_reverse,List.reverse_cons,hb]at this;rw[this];simp
 rw[if_neg h1];by_cases h2:s.length<6\/(atB s (s.length-6) 43=false/\atB s (s.length-6) 45=false)
 ·rw[if_pos h2];exact⟨(List.append_nil s).symm,λb hb=>by cases hb⟩
 rw[if_neg h2];by_cases h3:atB (s.drop (s.length-6)) 3 58=false\/withinB (sub (s.drop (s.length-6)) 1 3) 0 23=false\/withinB ((s.drop (s.length-6)).drop 4) 0 59=false
 ·rw[if_pos h3];exact⟨(List.append_nil s).symm,λb hb=>by cases hb⟩
 rw[if_neg h3];refine⟨(tkD _ s).symm,?_⟩;have hl:(s.drop (s.length-6)).length=6:=by rw[lD];omega
 have h0:atB (s.drop (s.length-6)) 0 43=true\/atB (s.drop (s.length-6)) 0 45=true:=by
  unfold atB at h2 ⊢;rw[List.drop_zero];cases q1:hd 43 (s.drop (s.length-6)) with
  | true=>exact .inl rfl
  | false =>
   cases q2:hd 45 (s.drop (s.length-6)) with
   | true=>exact .inr rfl
   | false=>rw[q1,q2]at h2;exact absurd (.inr ⟨rfl,rfl⟩) h2
 generalize s.drop (s.length-6)=z at hl h0 h3 ⊢
 match z,hl with
 | [x0,x1,x2,x3,x4,x5],_ =>
  have a3:atB [x0,x1,x2,x3,x4,x5] 3 58=true:=by cases q:atB [x0,x1,x2,x3,x4,x5] 3 58 with | true=>rfl | false=>exact absurd (.inl q) h3
  have a1:withinB (sub [x0,x1,x2,x3,x4,x5] 1 3) 0 23=true:=by cases q:withinB (sub [x0,x1,x2,x3,x4,x5] 1 3) 0 23 with | true=>rfl | false=>exact absurd (.inr (.inl q)) h3
  have a4:withinB ([x0,x1,x2,x3,x4,x5].drop 4) 0 59=true:=by cases q:withinB ([x0,x1,x2,x3,x4,x5].drop 4) 0 59 with | true=>rfl | false=>exact absurd (.inr (.inr q)) h3
  have d1:=withinD_dig a1 (by decide);have d4:=withinD_dig a4 (by decide);have t3:=at_tim (b:=x3) a3 rfl (by decide);have t0:timC x0=true:=h0.elim (λh=>at_tim (b:=x0) h rfl (by decide)) (λh=>at_tim (b:=x0) h rfl (by decide));simp only[sub,List.take_succ_cons,List.take_zero,List.drop_succ_cons,List.drop_zero,List.mem_cons,List.not_mem_nil,or_false]at d1 d4;intro b hb;simp only[List.mem_cons,List.not_mem_nil,or_false]at hb;rcases hb with rfl | rfl | rfl | rfl | rfl | rfl
  ·exact t0
  ·exact dig_tim (d1 _ (.inl rfl))
  ·exact dig_tim (d1 _ (.inr rfl))
  ·exact t3
  ·exact dig_tim (d4 _ (.inl rfl))
  ·exact dig_tim (d4 _ (.inr rfl))
theorem time_tim {s:List UInt8}(h:timeB s=true):∀b∈s,timC b=true:=by
 unfold timeB at h;rw[Bool.or_eq_true,Bool.or_eq_true,bA,bA]at h;rcases h with h | h | ⟨h1,h2,h3⟩
 ·exact date_tim h
 ·exact clock_tim h
 ·obtain⟨e1,z1⟩:=zone_eq s;have e2:=cutC_eq h1;have d:=date_tim h2;have c:=clock_tim h3;intro b hb;rw[e1]at hb;rcases List.mem_append.1 hb with hb | hb
  ·rw[e2]at hb;rcases List.mem_append.1 hb with hb | hb
   ·exact d b hb
   ·rcases List.mem_cons.1 hb with rfl | hb
    ·decide
    ·exact c b hb
  ·exact z1 b hb

theorem nodP_ok {deep i n:Nat}{x:PR}{t:PT}{e m:Nat}(h:nodP deep i n x=.ok t e m):deep<=64/\n+1<=4096/\x=.ok t e m:=by
 unfold nodP at h;by_cases h1:64<deep
 ·rw[if_pos h1]at h;cases h
 rw[if_neg h1]at h;by_cases h2:4096<n+1
 ·rw[if_pos h2]at h;cases h
 rw[if_neg h2]at h;exact⟨by omega,by omega,h⟩
def RG (deep n:Nat)(t:PT)(m:Nat):Prop:=formedB t=true/\deep+t.dp<=65/\m=n+t.n
theorem leaf_dp (k:Int)(s:List UInt8):(PT.mk k s [] []).dp=1:=by simp only[PT.dp,PT.dps]
theorem leaf_n (k:Int)(s:List UInt8):(PT.mk k s [] []).n=1:=by simp only[PT.n,PT.ns]
theorem leaf_formed {k:Int}{s:List UInt8}(h:shapeB k s [] 0=true):formedB (.mk k s [] [])=true:=by simp only[formedB,formedBs,Bool.true_and,lN];exact h
theorem RG.leaf {deep n:Nat}{k:Int}{s:List UInt8}(hd:deep<=64)(h:shapeB k s [] 0=true):RG deep n (.mk k s [] []) (n+1):=⟨leaf_formed h,by rw[leaf_dp];omega,by rw[leaf_n]⟩
theorem formedBs_all:∀{l:List PT},formedBs l=true↔∀u∈l,formedB u=true
 | []=>by simp[formedBs]
 | t::r=>by simp only[formedBs,bA,formedBs_all (l:=r),List.mem_cons];exact⟨λh u hu=>hu.elim (λe=>e ▸ h.1) (h.2 u),λh=>⟨h t (.inl rfl),λu hu=>h u (.inr hu)⟩⟩
theorem dps_le {d:Nat}:∀{l:List PT},(∀u∈l,u.dp<=d)->PT.dps l<=d
 | [],_=>Nat.zero_le _
 | t::r,h=>by
  simp only[PT.dps];have h1:=h t (List.mem_cons_self ..);have h2:=dps_le λu hu=>h u (List.mem_cons_of_mem _ hu);omega
theorem valid_at {s:List UInt8}(hv:badI s 0<0){i:Nat}(h:isC s i 34=true){t:List UInt8}{k:Nat}(hq:quoB (s.drop i)=.ok t k):validB t=true:=by
 obtain⟨cs,h1,rfl⟩:=valid_iff.1 hv;obtain⟨b,h2,h3⟩:=isC_some h;obtain⟨r,h4,h5⟩:=encL_at cs i b h1 h2 (by omega);rw[h5,h3,encL,encC_lo (by decide)]at hq;have hq:quoL (encL r) 1 (encL [])=.ok t k:=hq;obtain⟨ts,h6,h7⟩:=quoL_valid _ r 1 [] t k (nR _) h4 (λc hc=>by cases hc) hq;unfold validB;rw[decide_eq_true_eq,h7];exact valid_enc ts 0 h6
theorem unlike_snoc {keys:List (List UInt8)}{k:List UInt8}(h:unlikeB [] keys=true)(hk:k ∉ keys)(hv:validB k=true):unlikeB [] (keys++[k])=true:=by
 obtain⟨h1,h2,_⟩:=unlike_iff.1 h;refine unlike_iff.2 ⟨λx hx=>?_,?_,λx _ hx=>by cases hx⟩
 ·rcases List.mem_append.1 hx with hx | hx
  ·exact h1 x hx
  ·rw[List.mem_singleton.1 hx];exact hv
 ·refine List.nodup_append.2 ⟨h2,List.pairwise_singleton _ _,λa ha b hb=>?_⟩;rw[List.mem_singleton.1 hb];exact λe=>hk (e ▸ ha)
theorem scaQ_right {s:List UInt8}{deep i n:Nat}{t:PT}{e m:Nat}(h:scaQ s deep i n=.ok t e m):RG deep n t m:=by
 unfold scaQ scaR at h;cases hc:s[i]? with
 | none=>rw[hc]at h;cases h
 | some c =>
  rw[hc]at h;simp only at h;by_cases h1:(digC c || Nat.beq c.toNat 45)=true
  ·rw[if_pos h1]at h;by_cases h2:(normB (midP s i (rowE numC s i))).2=0
   ·rw[if_pos h2]at h;obtain⟨k1,k2,k3⟩:=nodP_ok h;cases k3;refine RG.leaf k1 ?_;have:=norm_idem h2;unfold shapeB;rw[if_neg (by decide),if_neg (by decide),if_pos rfl,this];simp[beqB_iff]
   ·rw[if_neg h2]at h;cases h
  rw[if_neg h1]at h;by_cases h2:letC c=true
  ·rw[if_pos h2]at h;by_cases h3:midP s i (rowE letC s i)=w4null
   ·rw[if_pos h3]at h;obtain⟨k1,k2,k3⟩:=nodP_ok h;cases k3;exact RG.leaf k1 rfl
   rw[if_neg h3]at h;by_cases h4:midP s i (rowE letC s i)=w4true\/midP s i (rowE letC s i)=w5false
   ·rw[if_pos h4]at h;obtain⟨k1,k2,k3⟩:=nodP_ok h;cases k3;refine RG.leaf k1 ?_;rcases h4 with h4 | h4<;>rw[h4]<;>rfl
   ·rw[if_neg h4]at h;cases h
  ·rw[if_neg h2]at h;cases h
def KG (deep n:Nat)(kids:List PT)(m:Nat):Prop:=(∀u∈kids,formedB u=true)/\(∀u∈kids,deep+1+u.dp<=65)/\m=n+PT.ns kids
theorem KG.snoc {deep n m m2:Nat}{kids:List PT}{t:PT}(h:KG deep n kids m)(k:RG (deep+1) m t m2):KG deep n (kids++[t]) m2:=by
 obtain⟨h1,h2,h3⟩:=h;obtain⟨k1,k2,k3⟩:=k;refine⟨λu hu=>?_,λu hu=>?_,?_⟩
 ·rcases List.mem_append.1 hu with hu | hu
  ·exact h1 u hu
  ·rw[List.mem_singleton.1 hu];exact k1
 ·rcases List.mem_append.1 hu with hu | hu
  ·exact h2 u hu
  ·rw[List.mem_singleton.1 hu];omega
 ·rw[PT.ns_append];simp only[PT.ns];omega
theorem KG.node {deep n m:Nat}{kids:List PT}{k:Int}{s:List UInt8}{keys:List (List UInt8)}(h:KG deep (n+1) kids m)(hd:deep<=64)(hs:shapeB k s keys kids.length=true):RG deep n (.mk k s keys kids) m:=by
 obtain⟨h1,h2,h3⟩:=h;refine⟨?_,?_,?_⟩
 ·simp only[formedB,bA];exact⟨formedBs_all.2 h1,hs⟩
 ·have:=dps_le (d:=64-deep) λu hu=>by have:=h2 u hu;omega
  simp only[PT.dp];omega
 ·simp only[PT.n];omega
theorem treeP_lt {s:List UInt8}{f deep i n:Nat}{t:PT}{e m:Nat}(h:treeP s f deep i n=.ok t e m):i<s.length:=by
 cases f with
 | zero=>rw[treeP]at h;cases h
 | succ f =>
  rw[treeP]at h;cases hc:s[i]? with
  | none=>rw[hc]at h;cases h
  | some c=>exact(List.getElem?_eq_some_iff.1 hc).1
theorem reads_right {s:List UInt8}(hv:badI s 0<0)(hnn:∀t:List UInt8,0<=(normB t).2):∀f:Nat,
  (∀deep i n t e m,treeP s f deep i n=.ok t e m->RG deep n t m) /\
  (∀deep i n acc n0 t e m,KG deep n0 acc n->listP s f deep i n acc=.ok t e m->∃kids,t=.mk 6 [] [] kids/\KG deep n0 kids m) /\
  (∀deep i n keys kids n0 t e m,KG deep n0 kids n->unlikeB [] keys=true->keys.length=kids.length->recP s f deep i n keys kids=.ok t e m->∃keys' kids',t=.mk 7 [] keys' kids'/\KG deep n0 kids' m/\unlikeB [] keys'=true/\keys'.length=kids'.length):=by
 intro f
 induction f with
 | zero=>exact⟨λ_ _ _ _ _ _ h=>(by rw[treeP]at h;cases h),λ_ _ _ _ _ _ _ _ _ h=>(by rw[listP]at h;cases h),λ_ _ _ _ _ _ _ _ _ _ _ _ h=>(by rw[recP]at h;cases h)⟩
 | succ f ih =>
  obtain⟨ih1,ih2,ih3⟩:=ih;have k0:∀deep n,KG deep n [] n:=λdeep n=>⟨λu hu=>(by cases hu),λu hu=>(by cases hu),by simp only[PT.ns];omega⟩
  refine⟨?_,?_,?_⟩
  ·intro deep i n t e m h;have hi:=treeP_lt h;rw[treeP_eq hnn (by omega)]at h;by_cases q1:isC s i 34=true
   ·rw[if_pos q1]at h;obtain⟨k1,k2,k3⟩:=nodP_ok h;unfold quoQ at k3;cases hq:quoB (s.drop i) with
    | bad a w=>rw[hq]at k3;cases k3
    | ok u k =>
     rw[hq]at k3;cases k3;refine RG.leaf k1 ?_;unfold shapeB;rw[if_neg (by decide),if_neg (by decide),if_neg (by decide),if_pos rfl,valid_at hv q1 hq];rfl
   rw[if_neg q1]at h;by_cases q2:isC s i 91=true
   ·rw[if_pos q2]at h;obtain⟨k1,k2,k3⟩:=nodP_ok h;unfold lisP at k3;by_cases q3:isC s (rowE blaC s (i+1)) 93=true
    ·rw[if_pos q3]at k3;cases k3;exact RG.leaf k1 rfl
    ·rw[if_neg q3]at k3;obtain⟨kids,rfl,hk⟩:=ih2 _ _ _ _ _ _ _ _ (k0 deep (n+1)) k3;exact hk.node k1 rfl
   rw[if_neg q2]at h;by_cases q4:isC s i 123=true
   ·rw[if_pos q4]at h;obtain⟨k1,k2,k3⟩:=nodP_ok h;unfold rcP at k3;by_cases q3:isC s (rowE blaC s (i+1)) 125=true
    ·rw[if_pos q3]at k3;cases k3;exact RG.leaf k1 rfl
    ·rw[if_neg q3]at k3;obtain⟨keys,kids,rfl,hk,hu,hl⟩:=ih3 _ _ _ _ _ _ _ _ _ (k0 deep (n+1)) rfl rfl k3;refine hk.node k1 ?_;show (beqB [] [] && (decide (keys.length=kids.length) && unlikeB [] keys))=true;rw[hu,dT hl];rfl
   rw[if_neg q4]at h;by_cases q5:isC s i 64=true
   ·rw[if_pos q5]at h;by_cases q6:timeB (midP s (i+1) (rowE timC s (i+1)))=true
    ·rw[if_pos q6]at h;obtain⟨k1,k2,k3⟩:=nodP_ok h;cases k3;refine RG.leaf k1 ?_;unfold shapeB;rw[if_neg (by decide),if_neg (by decide),if_neg (by decide),if_neg (by decide),if_pos rfl,q6];rfl
    ·rw[if_neg q6]at h;cases h
   rw[if_neg q5]at h;exact scaQ_right h
  ·intro deep i n acc n0 t e m hk h;rw[listP]at h;cases e1:treeP s f (deep+1) (rowE blaC s i) n with
   | bad a w=>rw[e1]at h;cases h
   | ok u j m2 =>
    rw[e1]at h;simp only at h;have hk2:=hk.snoc (ih1 _ _ _ _ _ _ e1);by_cases q1:isC s (rowE blaC s j) 44=true
    ·rw[if_pos q1]at h;exact ih2 _ _ _ _ _ _ _ _ hk2 h
    rw[if_neg q1]at h;by_cases q2:isC s (rowE blaC s j) 93=true
    ·rw[if_pos q2]at h;cases h;exact⟨_,rfl,hk2⟩
    ·rw[if_neg q2,errP_eq]at h;cases h
  ·intro deep i n keys kids n0 t e m hk hu hl h;rw[recP]at h;by_cases q0:isC s (rowE blaC s i) 34=true
   case neg=>rw[if_neg q0,errP_eq]at h;cases h
   rw[if_pos q0]at h;cases hq:quoB (s.drop (rowE blaC s i)) with
   | bad a w=>rw[hq]at h;cases h
   | ok k kk =>
    rw[hq]at h;simp only at h;by_cases q1:k∈keys
    ·rw[if_pos q1]at h;cases h
    rw[if_neg q1]at h;by_cases q2:isC s (rowE blaC s (rowE blaC s i+kk)) 58=true
    case neg=>rw[if_neg q2,errP_eq]at h;cases h
    rw[if_pos q2]at h;cases e1:treeP s f (deep+1) (rowE blaC s (rowE blaC s (rowE blaC s i+kk)+1)) n with
    | bad a w=>rw[e1]at h;cases h
    | ok u j m2 =>
     rw[e1]at h;simp only at h;have hk2:=hk.snoc (ih1 _ _ _ _ _ _ e1);have hu2:=unlike_snoc hu q1 (valid_at hv q0 hq);have hl2:(keys++[k]).length=(kids++[u]).length:=by simp[hl]
     by_cases q3:isC s (rowE blaC s j) 44=true
     ·rw[if_pos q3]at h;exact ih3 _ _ _ _ _ _ _ _ _ hk2 hu2 hl2 h
     rw[if_neg q3]at h;by_cases q4:isC s (rowE blaC s j) 125=true
     ·rw[if_pos q4]at h;cases h;exact⟨_,_,rfl,hk2,hu2,hl2⟩
     ·rw[if_neg q4,errP_eq]at h;cases h
theorem full_right {s:List UInt8}(hnn:∀t:List UInt8,0<=(normB t).2){t:PT}{e m:Nat}(h:fullP s=.ok t e m):rightB t=0:=by
 unfold fullP at h;by_cases hv:badI s 0<0
 case neg=>rw[if_neg hv]at h;cases h
 rw[if_pos hv]at h;have b1:=rowE_le (p:=blaC) (s:=s) (i:=0) (Nat.zero_le _);have fi:=(reads_fine (quoOK s) hnn (by decide) (2*s.length+2)).1 1 (rowE blaC s 0) 0 b1 (by omega);unfold parseP at h;cases e1:treeP s (2*s.length+2) 1 (rowE blaC s 0) 0 with
 | bad a w=>rw[e1]at h;cases h
 | ok u j m2 =>
  rw[e1]at h fi;simp only at h;by_cases z:rowE blaC s j<s.length
  ·rw[if_pos z]at h;cases h
  ·rw[if_neg z]at h;cases h;obtain⟨h1,h2,h3⟩:=(reads_right hv hnn _).1 _ _ _ _ _ _ e1;obtain⟨_,_,_,f4,_⟩:=fi;unfold rightB;rw[if_neg (by omega),if_neg (by omega),if_pos h1]

theorem at0 {s:List UInt8}{i:Nat}{c:UInt8}{r:List UInt8}(h:s.drop i=c::r):s[i]? = some c/\s.drop (i+1)=r/\i<s.length:=by
 have h1:s[i]? = some c:=by
  have:=List.getElem?_drop (xs:=s) (i:=i) (j:=0);rw[h,Nat.add_zero]at this;exact this.symm
 refine⟨h1,?_,(List.getElem?_eq_some_iff.1 h1).1⟩;rw[<-List.drop_drop,h];rfl
theorem dropA {s a b:List UInt8}{i:Nat}(h:s.drop i=a++b):s.drop (i+a.length)=b:=by
 rw[<-List.drop_drop,h,List.drop_left]
theorem rowE_pre {p:UInt8->Bool}{s a b:List UInt8}{i:Nat}(h:s.drop i=a++b)(ha:∀x∈a,p x=true)(hb:b=[]\/∃c r,b=c::r/\p c=false):rowE p s i=i+a.length:=by
 unfold rowE;rw[h]
 congr 1
 clear h
 induction a with
 | nil =>
  rcases hb with rfl | ⟨c,r,rfl,hc⟩
  ·rfl
  ·rw[List.nil_append,List.takeWhile_cons_of_neg (by rw[hc];exact Bool.false_ne_true)]
 | cons x a ih =>
  rw[List.cons_append,List.takeWhile_cons_of_pos (ha x (List.mem_cons_self ..)),lC,ih λy hy=>ha y (List.mem_cons_of_mem _ hy),lC]
theorem midP_pre {s a b:List UInt8}{i:Nat}(h:s.drop i=a++b):midP s i (i+a.length)=a:=by
 unfold midP;rw[h,Nat.add_sub_cancel_left,List.take_left]
theorem isC_at {s:List UInt8}{i k:Nat}{c:UInt8}{r:List UInt8}(h:s.drop i=c::r):(isC s i k=true)=(c.toNat=k):=isC_of (at0 h).1
def Stp (r:List UInt8):Prop:=r=[]\/∃(c:UInt8) (t:List UInt8),r=c::t/\(c=44\/c=93\/c=125)
theorem Stp.no {p:UInt8->Bool}{r:List UInt8}(h:Stp r)(h1:p 44=false)(h2:p 93=false)(h3:p 125=false):r=[]\/∃c t,r=c::t/\p c=false:=by
 rcases h with rfl | ⟨c,t,rfl,rfl | rfl | rfl⟩
 ·exact .inl rfl
 ·exact .inr ⟨_,_,rfl,h1⟩
 ·exact .inr ⟨_,_,rfl,h2⟩
 ·exact .inr ⟨_,_,rfl,h3⟩
def TextOK (t:PT):Prop:=∀(f:Nat) (s:List UInt8) (i:Nat) (rest:List UInt8) (deep n:Nat),s.drop i=textB t++rest->Stp rest->deep+t.dp<=65->n+t.n<=4096->2*(s.length-i)+1<=f->treeP s f deep i n=.ok (sortT t) (i+(textB t).length) (n+t.n)
theorem nod_ok {deep i n:Nat}{x:PR}(h1:deep<=64)(h2:n+1<=4096):nodP deep i n x=x:=by
 unfold nodP;rw[if_neg (by omega),if_neg (by omega)]
theorem dp_pos (t:PT):1<=t.dp:=by cases t;simp only[PT.dp];omega
theorem sort_leaf {k:Int}{s:List UInt8}:sortT (.mk k s [] [])=.mk k s [] []:=by
 rw[sortT];have e:ordK ([]:List (List UInt8))=[]:=nL (ordK_len []);split
 ·rw[e];rfl
 ·simp only[sortTs]
theorem text_sca {s x rest:List UInt8}{k:Int}{deep i n f:Nat}(hnn:∀t:List UInt8,0<=(normB t).2)(h:s.drop i=x++rest)(hs:Stp rest)(hd:deep<=64)(hn:n+1<=4096)
  (hx:(k=3/\(normB x).2=0/\(normB x).1=x)\/(k=1/\x=w4null)\/(k=2/\(x=w4true\/x=w5false))) :
  treeP s (f+1) deep i n=.ok (if k=1 then .mk 1 [] [] [] else .mk k x [] []) (i+x.length) (n+1):=by
 have hw:∀{y:List UInt8},(y=w4null\/y=w4true\/y=w5false)->∃c r,y=c::r/\letC c=true/\∀b∈y,letC b=true:=λhy=>by
  rcases hy with rfl | rfl | rfl<;>exact⟨_,_,rfl,by decide,by decide⟩
 have key:∃c r,x=c::r/\(digC c || Nat.beq c.toNat 45 || letC c)=true:=by
  rcases hx with⟨_,h1,h2⟩ | ⟨_,h1⟩ | ⟨_,h1⟩
  ·obtain⟨_,c,r,h3,h4⟩:=norm_bytes h1;rw[h2]at h3;exact⟨c,r,h3,by rw[h4];rfl⟩
  ·obtain⟨c,r,h3,h4,_⟩:=hw (.inl h1);exact⟨c,r,h3,by rw[h4,Bool.or_true]⟩
  ·obtain⟨c,r,h3,h4,_⟩:=hw (.inr h1);exact⟨c,r,h3,by rw[h4,Bool.or_true]⟩
 obtain⟨c,r,rfl,hc⟩:=key;have ha:=at0 (r:=r++rest) h;have hcn:c.toNat≠34/\c.toNat≠91/\c.toNat≠123/\c.toNat≠64:=by
  rw[Bool.or_eq_true,digX_iff,letC_iff]at hc;omega
 rw[treeP_eq hnn (by omega)];simp only[isC_at (r:=r++rest) h];rw[if_neg hcn.1,if_neg hcn.2.1,if_neg hcn.2.2.1,if_neg hcn.2.2.2,scaQ_eq hnn ha.1];unfold scaP;rcases hx with⟨rfl,h1,h2⟩ | ⟨rfl,h1⟩ | ⟨rfl,h1⟩
 ·obtain⟨h3,c',r',h4,h5⟩:=norm_bytes h1;rw[h2]at h3 h4;cases h4;have e1:=rowE_pre h h3 (hs.no (by decide) (by decide) (by decide));rw[if_pos h5,e1,midP_pre h,if_pos h1,h2,nod_ok hd hn];rfl
 ·obtain⟨c',r',h3,h4,h5⟩:=hw (.inl h1);cases h3;have e1:=rowE_pre h h5 (hs.no (by decide) (by decide) (by decide));have hnd:¬(digC c || Nat.beq c.toNat 45)=true:=λq=>by have:=digX_iff.1 q;have:=letC_iff.1 h4;omega
  rw[if_neg hnd,if_pos h4,e1,midP_pre h,if_pos h1,nod_ok hd hn];rfl
 ·obtain⟨c',r',h3,h4,h5⟩:=hw (.inr h1);cases h3;have e1:=rowE_pre h h5 (hs.no (by decide) (by decide) (by decide));have hnd:¬(digC c || Nat.beq c.toNat 45)=true:=λq=>by have:=digX_iff.1 q;have:=letC_iff.1 h4;omega
  have hnu:c::r≠w4null:=λe=>by rcases h1 with h1 | h1<;>rw[e]at h1<;>exact absurd h1 (by decide)
  rw[if_neg hnd,if_pos h4,e1,midP_pre h,if_neg hnu,if_pos h1,nod_ok hd hn];rfl
theorem text_first {t:PT}(hf:formedB t=true):∃c r,textB t=c::r/\blaC c=false/\c≠93/\c≠125/\c≠44:=by
 obtain⟨k,x,keys,kids⟩:=t;have kd:=formed_kind hf;have kc:k=1\/k=2\/k=3\/k=4\/k=5\/k=6\/k=7:=by omega
 rw[textB];rcases kc with rfl | rfl | rfl | rfl | rfl | rfl | rfl
 ·exact⟨110,[117,108,108],by simp,by decide,by decide,by decide,by decide⟩
 ·have h2:(x=[116,114,117,101]\/x=[102,97,108,115,101]):=by
   simp only[formedB,bA]at hf;have h2:=hf.2;unfold shapeB at h2;rw[if_neg (by omega),if_pos rfl,bA,Bool.or_eq_true]at h2;exact h2.2.imp beqB_iff.1 beqB_iff.1
  rw[if_neg (by omega),if_pos (.inl rfl)];rcases h2 with rfl | rfl
  ·exact⟨_,_,rfl,by decide,by decide,by decide,by decide⟩
  ·exact⟨_,_,rfl,by decide,by decide,by decide,by decide⟩
 ·obtain⟨a,b⟩:=formed_num hf;obtain⟨_,c,r,h3,h4⟩:=norm_bytes a;rw[b]at h3;rw[if_neg (by omega),if_pos (.inr rfl)];have h5:=digX_iff.1 h4;refine⟨c,r,h3,?_,λe=>by rw[e]at h5;revert h5;decide,λe=>by rw[e]at h5;revert h5;decide,λe=>by rw[e]at h5;revert h5;decide⟩;cases q:blaC c with
  | false=>rfl
  | true =>
   unfold blaC at q;simp only[Bool.or_eq_true,Nat.beq_eq]at q;omega
 ·rw[if_neg (by omega),if_neg (by omega),if_pos rfl];exact⟨34,_,rfl,by decide,by decide,by decide,by decide⟩
 ·rw[if_neg (by omega),if_neg (by omega),if_neg (by omega),if_pos rfl];exact⟨64,_,rfl,by decide,by decide,by decide,by decide⟩
 ·rw[if_neg (by omega),if_neg (by omega),if_neg (by omega),if_neg (by omega),if_pos rfl];exact⟨91,_,rfl,by decide,by decide,by decide,by decide⟩
 ·rw[if_neg (by omega),if_neg (by omega),if_neg (by omega),if_neg (by omega),if_neg (by omega)];exact⟨123,_,rfl,by decide,by decide,by decide,by decide⟩

theorem bla_at {s bl:List UInt8}{i:Nat}{c:UInt8}{r:List UInt8}(hb:bl=[]\/bl=[32])(h:s.drop i=bl++c::r)(hc:blaC c=false):rowE blaC s i=i+bl.length :=
 rowE_pre h (λx hx=>by rcases hb with rfl | rfl;cases hx;rw[List.mem_singleton.1 hx];decide) (.inr ⟨c,r,rfl,hc⟩)
theorem listB_cons (m:Nat)(t:List UInt8)(r:List (List UInt8)):listB (m+1) (t::r)=44::32::(t++listB (m+2) r):=by
 simp only[listB,sepB];rw[if_neg (by omega)];rfl
theorem sortTs_cons (t:PT)(r:List PT):sortTs (t::r)=sortT t::sortTs r:=by simp only[sortTs]
theorem text_list {s rest:List UInt8}{deep:Nat}:∀(r:List PT) (k1:PT) (f j m n:Nat) (bl:List UInt8) (acc:List PT),(∀u∈k1::r,TextOK u)->(∀u∈k1::r,formedB u=true)->(bl=[]\/bl=[32]) ->
  s.drop j=bl++(textB k1++(listB (m+1) (textsB r)++93::rest))->(∀u∈k1::r,deep+1+u.dp<=65)->n+PT.ns (k1::r)<=4096->2*(s.length-j)+2<=f ->
  listP s f deep j n acc=.ok (.mk 6 [] [] (acc++sortTs (k1::r))) (j+bl.length+(textB k1).length+(listB (m+1) (textsB r)).length+1) (n+PT.ns (k1::r)):=by
 intro r
 induction r with
 | nil =>
  intro k1 f j m n bl acc hT hF hbl h hdp hn hf;obtain⟨c,r0,e1,e2,e3,e4,e5⟩:=text_first (hF k1 (List.mem_cons_self ..));cases f with
  | zero=>omega
  | succ g =>
  simp only[textsB,listB,List.nil_append,lN,PT.ns,Nat.add_zero]at h hn ⊢;have hb:=bla_at hbl (by rw[h,e1];rfl) e2;have h1:=dropA h;have hlt:j+bl.length<s.length:=(at0 (by rw[h1,e1];rfl)).2.2;have h2:=hT k1 (List.mem_cons_self ..) g s (j+bl.length) (93::rest) (deep+1) n h1 (.inr ⟨93,rest,rfl,.inr (.inl rfl)⟩) (hdp k1 (List.mem_cons_self ..)) hn (by omega);have h3:=dropA h1;have hb2:rowE blaC s (j+bl.length+(textB k1).length)=j+bl.length+(textB k1).length:=rowE_out (at0 h3).1 (by decide);rw[listP,hb,h2];simp only;rw[hb2,if_neg (by rw[isC_at h3];decide),if_pos (by rw[isC_at h3];rfl),sortTs_cons];simp only[sortTs]
 | cons k2 r ih =>
  intro k1 f j m n bl acc hT hF hbl h hdp hn hf;obtain⟨c,r0,e1,e2,e3,e4,e5⟩:=text_first (hF k1 (List.mem_cons_self ..));cases f with
  | zero=>omega
  | succ g =>
  simp only[textsB]at h ⊢;rw[listB_cons]at h ⊢;have hns:PT.ns (k1::k2::r)=k1.n+PT.ns (k2::r):=by simp only[PT.ns]
  have hb:=bla_at hbl (by rw[h,e1];rfl) e2;have h1:=dropA h;have hlt:j+bl.length<s.length:=(at0 (by rw[h1,e1];rfl)).2.2;have h2:=hT k1 (List.mem_cons_self ..) g s (j+bl.length) _ (deep+1) n h1 (.inr ⟨44,_,rfl,.inl rfl⟩) (hdp k1 (List.mem_cons_self ..)) (by omega) (by omega);have h3:=dropA h1;have a3:=at0 h3;have hb2:rowE blaC s (j+bl.length+(textB k1).length)=j+bl.length+(textB k1).length:=rowE_out a3.1 (by decide);rw[listP,hb,h2];simp only;rw[hb2,if_pos (by rw[isC_at h3];rfl)];have hpos:1<=(textB k1).length:=by rw[e1];simp
  rw[ih k2 g (j+bl.length+(textB k1).length+1) (m+1) (n+k1.n) [32] (acc++[sortT k1]) (λu hu=>hT u (List.mem_cons_of_mem _ hu)) (λu hu=>hF u (List.mem_cons_of_mem _ hu)) (.inr rfl)
   (by rw[a3.2.1];show 32::((textB k2++listB (m+2) (textsB r))++93::rest)=32::(textB k2++(listB (m+2) (textsB r)++93::rest));rw[aA]) (λu hu=>hdp u (List.mem_cons_of_mem _ hu)) (by omega) (by omega)]
  rw[sortTs_cons k1,show m+1+1=m+2 from rfl];simp only[aA,List.cons_append,List.nil_append,lC,lA,lN,hns]
  congr 1
  ·omega
  ·omega
theorem textsB_at:∀{kids:List PT} {i:Nat},i<kids.length->(textsB kids).getD i []=textB (kids.getD i zPT)
 | [],_,h=>by cases h
 | t::r,0,_=>by simp only[textsB];rfl
 | t::r,i+1,h=>by
  simp only[textsB,List.getD_cons_succ];exact textsB_at (by simpa using h)
theorem sortTs_at:∀{kids:List PT} {i:Nat},i<kids.length->(sortTs kids).getD i zPT=sortT (kids.getD i zPT)
 | [],_,h=>by cases h
 | t::r,0,_=>by simp only[sortTs];rfl
 | t::r,i+1,h=>by
  simp only[sortTs,List.getD_cons_succ];exact sortTs_at (by simpa using h)
theorem getD_mem {kids:List PT}{i:Nat}(h:i<kids.length):kids.getD i zPT∈kids:=by
 rw[List.getD_eq_getElem?_getD,gE h];exact List.getElem_mem h
theorem recB_cons (keys texts:List (List UInt8))(m i:Nat)(r:List Nat):recB keys texts (m+1) (i::r)=44::32::(quoteB (keys.getD i [])++(58::32::(texts.getD i []++recB keys texts (m+2) r))):=by
 simp only[recB,sepB];rw[if_neg (by omega)];simp
theorem text_rec {s rest:List UInt8}{deep:Nat}{keys:List (List UInt8)}{kids:List PT}(hT:∀u∈kids,TextOK u)(hF:∀u∈kids,formedB u=true)(hdp:∀u∈kids,deep+1+u.dp<=65) :
  ∀(r:List Nat) (i f j m n:Nat) (bl:List UInt8) (ks:List (List UInt8)) (acc:List PT),(∀x∈i::r,x<kids.length)->(ks++(i::r).map λx=>keys.getD x []).Nodup->(bl=[]\/bl=[32]) ->
  s.drop j=bl++(quoteB (keys.getD i [])++(58::32::((textsB kids).getD i []++(recB keys (textsB kids) (m+1) r++125::rest))))->n+PT.ns ((i::r).map λx=>kids.getD x zPT)<=4096->2*(s.length-j)+2<=f ->
  recP s f deep j n ks acc=.ok (.mk 7 [] (ks++(i::r).map λx=>keys.getD x []) (acc++(i::r).map λx=>(sortTs kids).getD x zPT))
   (j+bl.length+(quoteB (keys.getD i [])).length+2+((textsB kids).getD i []).length+(recB keys (textsB kids) (m+1) r).length+1) (n+PT.ns ((i::r).map λx=>kids.getD x zPT)):=by
 have one:∀{i f j n:Nat} {bl Z:List UInt8} {ks:List (List UInt8)},i<kids.length->keys.getD i [] ∉ ks->(bl=[]\/bl=[32])->s.drop j=bl++(quoteB (keys.getD i [])++(58::32::(textB (kids.getD i zPT)++Z)))->Stp Z->n+(kids.getD i zPT).n<=4096->2*(s.length-j)+2<=f+1 ->
   ∀acc e,e=j+bl.length+(quoteB (keys.getD i [])).length+2+(textB (kids.getD i zPT)).length->(recP s (f+1) deep j n ks acc =
    if isC s (rowE blaC s e) 44=true then recP s f deep (rowE blaC s e+1) (n+(kids.getD i zPT).n) (ks++[keys.getD i []]) (acc++[sortT (kids.getD i zPT)])
    else if isC s (rowE blaC s e) 125=true then .ok (.mk 7 [] (ks++[keys.getD i []]) (acc++[sortT (kids.getD i zPT)])) (rowE blaC s e+1) (n+(kids.getD i zPT).n)
    else errP s (rowE blaC s e))/\s.drop e=Z/\e<=s.length/\j+2<=e:=by
  intro i f j n bl Z ks hi hk hbl h hz hn hf acc e he;have hm:=getD_mem hi;have hf1:=text_first (hF _ hm);have hT1:=hT _ hm;have hdp1:=hdp _ hm;generalize kids.getD i zPT=u at h hn he hf1 hT1 hdp1 ⊢;generalize keys.getD i []=k at hk h he ⊢;obtain⟨c,r0,e1,e2,e3,e4,e5⟩:=hf1;have hq:quoteB k=34::(escs k++[34]):=rfl;have hb:=bla_at hbl (by rw[h,hq];rfl) (show blaC 34=false by decide);have h1:=dropA h;have a1:=at0 (by rw[h1,hq];rfl);have hql:2<=(quoteB k).length:=by rw[hq];simp
  have h2:=dropA h1;have a2:=at0 h2;have hb2:rowE blaC s (j+bl.length+(quoteB k).length)=j+bl.length+(quoteB k).length:=rowE_out a2.1 (by decide);have h3:=a2.2.1;have hb3:rowE blaC s (j+bl.length+(quoteB k).length+1)=j+bl.length+(quoteB k).length+1+1:=bla_at (bl:=[32]) (.inr rfl) (by rw[h3,e1];rfl) e2;have h4:s.drop (j+bl.length+(quoteB k).length+1+1)=textB u++Z:=dropA (a:=[32]) h3;have a4:=at0 (by rw[h4,e1];rfl);have h5:=hT1 f s (j+bl.length+(quoteB k).length+1+1) Z (deep+1) n h4 hz hdp1 hn (by omega);have h6:=dropA h4;have he2:j+bl.length+(quoteB k).length+1+1+(textB u).length=e:=by omega
  rw[he2]at h5 h6;have hle:e<=s.length:=by
   have:=congrArg List.length h4;rw[lD,lA]at this;omega
  refine⟨?_,h6,hle,by omega⟩;rw[recP,hb,if_pos (by rw[isC_of a1.1];rfl),h1,quoB_quote];simp only;rw[if_neg hk,hb2,if_pos (by rw[isC_at h2];rfl),hb3,h5]
 intro r
 induction r with
 | nil =>
  intro i f j m n bl ks acc hi hnd hbl h hn hf;cases f with
  | zero=>omega
  | succ g =>
  have hi1:=hi i (List.mem_cons_self ..);simp only[List.map_cons,List.map_nil,PT.ns,Nat.add_zero,recB,List.nil_append,lN]at h hn hnd ⊢;rw[textsB_at hi1]at h ⊢;have hk:keys.getD i [] ∉ ks:=λq=>(List.nodup_append.1 hnd).2.2 _ q _ (List.mem_cons_self ..) rfl;obtain⟨h1,h2,h3,h4⟩:=one hi1 hk hbl h (.inr ⟨125,rest,rfl,.inr (.inr rfl)⟩) hn hf acc _ rfl;have hb2:=rowE_out (p:=blaC) (at0 h2).1 (by decide);rw[h1,hb2,if_neg (by rw[isC_at h2];decide),if_pos (by rw[isC_at h2];rfl),sortTs_at hi1]
 | cons i2 r ih =>
  intro i f j m n bl ks acc hi hnd hbl h hn hf;cases f with
  | zero=>omega
  | succ g =>
  have hi1:=hi i (List.mem_cons_self ..);rw[recB_cons]at h ⊢;have hns:PT.ns ((i::i2::r).map λx=>kids.getD x zPT)=(kids.getD i zPT).n+PT.ns ((i2::r).map λx=>kids.getD x zPT):=by rw[List.map_cons,PT.ns]
  rw[List.map_cons]at hnd;rw[hns]at hn ⊢;have hn1:n+(kids.getD i zPT).n<=4096:=by omega
  rw[textsB_at hi1]at h ⊢;have hk:keys.getD i [] ∉ ks:=λq=>(List.nodup_append.1 hnd).2.2 _ q _ (List.mem_cons_self ..) rfl;obtain⟨h1,h2,h3,h4⟩:=one hi1 hk hbl h (.inr ⟨44,_,rfl,.inl rfl⟩) hn1 hf acc _ rfl;have a2:=at0 h2;have hb2:=rowE_out (p:=blaC) a2.1 (by decide);rw[h1,hb2,if_pos (by rw[isC_at h2];rfl)];rw[ih i2 g (j+bl.length+(quoteB (keys.getD i [])).length+2+(textB (kids.getD i zPT)).length+1) (m+1) (n+(kids.getD i zPT).n) [32] (ks++[keys.getD i []]) (acc++[sortT (kids.getD i zPT)]) (λx hx=>hi x (List.mem_cons_of_mem _ hx)) (by rw[aA];exact hnd) (.inr rfl)
   (by rw[a2.2.1];simp[show m+1+1=m+2 from rfl]) (by omega) (by omega)]
  rw[show m+1+1=m+2 from rfl];simp only[List.map_cons,PT.ns,aA,List.cons_append,List.nil_append,lC,lA,lN,sortTs_at hi1]
  congr 1
  ·omega
  ·omega

theorem leaf_of {k:Int}{x:List UInt8}{keys:List (List UInt8)}{kids:List PT}(h:formedB (.mk k x keys kids)=true)(hk:k<=5):keys=[]/\kids=[]:=by
 have p:=formed_parts h;exact⟨p.2.2.1 (by omega),p.2.2.2.1 (by omega) (by omega)⟩
theorem dps_mem:∀{l:List PT} {u:PT},u∈l->u.dp<=PT.dps l
 | t::r,u,h=>by
  simp only[PT.dps];rcases List.mem_cons.1 h with rfl | h
  ·omega
  ·have:=dps_mem h;omega
theorem map_range (l:List PT):(List.range l.length).map (λi=>l.getD i zPT)=l:=by
 apply List.ext_getElem
 ·simp
 ·intro i h1 h2;simp[List.getD_eq_getElem?_getD];rw[gE h2];rfl
theorem mapK_range (l:List (List UInt8)):(List.range l.length).map (λi=>l.getD i [])=l:=by
 apply List.ext_getElem
 ·simp
 ·intro i h1 h2;simp[List.getD_eq_getElem?_getD];rw[gE h2];rfl
theorem text_ok (hnn:∀t:List UInt8,0<=(normB t).2):∀(m:Nat) (t:PT),t.n<=m->formedB t=true->TextOK t:=by
 intro m
 induction m with
 | zero=>intro t h;have:=PT.n_pos t;omega
 | succ m ih =>
  intro t hm hF f s i rest deep n h hs hd hn hf;obtain⟨k,x,keys,kids⟩:=t;have kd:=formed_kind hF;have kc:k=1\/k=2\/k=3\/k=4\/k=5\/k=6\/k=7:=by omega
  have hp:=dp_pos (.mk k x keys kids);have hpn:=PT.n_pos (.mk k x keys kids);obtain⟨c,r0,e1,e2,e3,e4,e5⟩:=text_first hF;have hi:=(at0 (by rw[h,e1];rfl)).2.2;cases f with
  | zero=>omega
  | succ f =>
  have leaf:k<=5->keys=[]/\kids=[]:=leaf_of hF;rcases kc with rfl | rfl | rfl | rfl | rfl | rfl | rfl
  ·obtain⟨rfl,rfl⟩:=leaf (by decide);have hx:x=[]:=by
    simp only[formedB,bA]at hF;have h2:=hF.2;unfold shapeB at h2;rw[if_pos rfl,bA]at h2;exact beqB_iff.1 h2.2
   subst hx;rw[textB,if_pos rfl]at h ⊢;rw[text_sca (k:=1) hnn h hs (by omega) (by omega) (.inr (.inl ⟨rfl,rfl⟩)),if_pos rfl,sort_leaf,leaf_n]
  ·obtain⟨rfl,rfl⟩:=leaf (by decide);have h2:(x=w4true\/x=w5false):=by
    simp only[formedB,bA]at hF;have h2:=hF.2;unfold shapeB at h2;rw[if_neg (by decide),if_pos rfl,bA,Bool.or_eq_true]at h2;exact h2.2.imp beqB_iff.1 beqB_iff.1
   rw[textB,if_neg (by decide),if_pos (.inl rfl)]at h ⊢;rw[text_sca (k:=2) hnn h hs (by omega) (by omega) (.inr (.inr ⟨rfl,h2⟩)),if_neg (by decide),sort_leaf,leaf_n]
  ·obtain⟨rfl,rfl⟩:=leaf (by decide);rw[textB,if_neg (by decide),if_pos (.inr rfl)]at h ⊢;rw[text_sca (k:=3) hnn h hs (by omega) (by omega) (.inl ⟨rfl,formed_num hF⟩),if_neg (by decide),sort_leaf,leaf_n]
  ·obtain⟨rfl,rfl⟩:=leaf (by decide);rw[textB,if_neg (by decide),if_neg (by decide),if_pos rfl]at h ⊢;have a:=at0 (c:=34) (r:=escs x++[34]++rest) h;rw[treeP_eq hnn (by omega),if_pos (by rw[isC_of a.1];rfl),nod_ok (by omega) (by omega)];unfold quoQ;rw[h,quoB_quote,sort_leaf,leaf_n]
  ·obtain⟨rfl,rfl⟩:=leaf (by decide);rw[textB,if_neg (by decide),if_neg (by decide),if_neg (by decide),if_pos rfl]at h ⊢;have ht:timeB x=true:=by
    simp only[formedB,bA]at hF;have h2:=hF.2;unfold shapeB at h2;rw[if_neg (by decide),if_neg (by decide),if_neg (by decide),if_neg (by decide),if_pos rfl,bA]at h2;exact h2.2
   have a:=at0 (c:=64) (r:=x++rest) h;have e:=rowE_pre a.2.1 (time_tim ht) (hs.no (by decide) (by decide) (by decide));simp only[lC];rw[treeP_eq hnn (by omega)];simp only[isC_of a.1];rw[if_neg (by decide),if_neg (by decide),if_neg (by decide),if_pos (show (64:UInt8).toNat=64 from rfl),e,midP_pre a.2.1,if_pos ht,nod_ok (by omega) (by omega),sort_leaf,leaf_n,show i+(x.length+1)=i+1+x.length by omega]
  ·have hshape:x=[]/\keys=[]:=by
    simp only[formedB,bA]at hF;have h2:=hF.2;unfold shapeB at h2;rw[if_neg (by decide),if_neg (by decide),if_neg (by decide),if_neg (by decide),if_neg (by decide),if_pos rfl,bA]at h2;exact⟨beqB_iff.1 h2.1,nL (of_decide_eq_true h2.2)⟩
   obtain⟨rfl,rfl⟩:=hshape;have hFs:∀u∈kids,formedB u=true:=by
    simp only[formedB,bA]at hF;exact formedBs_all.1 hF.1
   simp only[PT.dp,PT.n]at hd hn hm ⊢;have hsort:sortT (.mk 6 [] [] kids)=.mk 6 [] [] (sortTs kids):=by rw[sortT,if_neg (by intro q;exact absurd q.1 (by decide))]
   rw[textB,if_neg (by decide),if_neg (by decide),if_neg (by decide),if_neg (by decide),if_pos rfl]at h ⊢;have h':s.drop i=91::(listB 0 (textsB kids)++93::rest):=by rw[h];simp
   have a:=at0 h';rw[treeP_eq hnn (by omega)];simp only[isC_of a.1];rw[if_neg (by decide),if_pos (show (91:UInt8).toNat=91 from rfl),nod_ok (by omega) (by omega),hsort];unfold lisP;cases kids with
   | nil =>
    have h2:s.drop (i+1)=93::rest:=a.2.1;have hb:=rowE_out (p:=blaC) (at0 h2).1 (by decide);rw[hb,if_pos (by rw[isC_at h2];rfl)];simp[sortTs,textsB,listB,PT.ns]
   | cons k1 r =>
    have h2:s.drop (i+1)=[]++(textB k1++(listB (0+1) (textsB r)++93::rest)):=by
     rw[a.2.1];simp[textsB,listB,sepB]
    obtain⟨c1,r1,g1,g2,g3,g4,g5⟩:=text_first (hFs k1 (List.mem_cons_self ..));have h3:s.drop (i+1)=c1::(r1++(listB (0+1) (textsB r)++93::rest)):=by rw[h2,g1];rfl
    have hb:=rowE_out (p:=blaC) (at0 h3).1 g2;rw[hb,if_neg (by rw[isC_at h3];exact λq=>g3 (UInt8.toNat_inj.1 q))];rw[text_list r k1 f (i+1) 0 (n+1) [] [] (λu hu=>ih u (by have:=PT.ns_mem hu;omega) (hFs u hu)) hFs (.inl rfl) h2 (λu hu=>by have:=dps_mem hu;omega) (by omega) (by omega)];simp only[List.nil_append,lN,textsB,listB,sepB,if_true,lA,lC,Nat.zero_add,Nat.add_zero]
    congr 1
    ·omega
    ·omega
  ·obtain⟨hFk,h7,_,_,_⟩:=formed_parts hF;obtain⟨rfl,hkl,hnd⟩:=h7 rfl;have hFs:∀u∈kids,formedB u=true:=formedBs_all.1 hFk;simp only[PT.dp,PT.n]at hd hn hm ⊢;have hsort:sortT (.mk 7 [] keys kids)=.mk 7 [] ((ordK keys).map λi=>keys.getD i []) ((ordK keys).map λi=>(sortTs kids).getD i zPT):=by rw[sortT,if_pos ⟨rfl,hkl⟩]
   have hns:PT.ns ((ordK keys).map λi=>kids.getD i zPT)=PT.ns kids:=by
    have p:=(ordK_perm keys).map λi=>kids.getD i zPT;rw[hkl,map_range]at p;exact ns_perm p
   have hndK:((ordK keys).map λi=>keys.getD i []).Nodup:=by
    have p:=(ordK_perm keys).map λi=>keys.getD i [];rw[mapK_range]at p;exact p.nodup_iff.2 hnd
   have hlt:∀j∈ordK keys,j<kids.length:=λj hj=>by rw[<-hkl];exact ordK_lt hj
   rw[textB,if_neg (by decide),if_neg (by decide),if_neg (by decide),if_neg (by decide),if_neg (by decide)]at h ⊢;have h':s.drop i=123::(recB keys (textsB kids) 0 (ordK keys)++125::rest):=by rw[h];simp
   have a:=at0 h';rw[treeP_eq hnn (by omega)];simp only[isC_of a.1];rw[if_neg (by decide),if_neg (by decide),if_pos (show (123:UInt8).toNat=123 from rfl),nod_ok (by omega) (by omega),hsort];unfold rcP;rw[<-hns]at hn ⊢;generalize ordK keys=L at h' a hndK hlt hn ⊢
   clear h hsort hns
   cases L with
   | nil =>
    have h2:s.drop (i+1)=125::rest:=a.2.1;have hb:=rowE_out (p:=blaC) (at0 h2).1 (by decide);rw[hb,if_pos (by rw[isC_at h2];rfl)];simp[recB,PT.ns]
   | cons i0 r =>
    have h2:s.drop (i+1)=[]++(quoteB (keys.getD i0 [])++(58::32::((textsB kids).getD i0 []++(recB keys (textsB kids) (0+1) r++125::rest)))):=by
     rw[a.2.1];simp[recB,sepB]
    have h3:s.drop (i+1)=34::(escs (keys.getD i0 [])++[34]++(58::32::((textsB kids).getD i0 []++(recB keys (textsB kids) (0+1) r++125::rest)))):=by rw[h2];rfl
    have hb:=rowE_out (p:=blaC) (at0 h3).1 (by decide);rw[hb,if_neg (by rw[isC_at h3];decide)];rw[text_rec (λu hu=>ih u (by have:=PT.ns_mem hu;omega) (hFs u hu)) hFs (λu hu=>by have:=dps_mem hu;omega) r i0 f (i+1) 0 (n+1) [] [] [] hlt hndK (.inl rfl) h2 (by omega) (by omega)];simp only[List.nil_append,lN,recB,sepB,if_true,lA,lC,Nat.zero_add,Nat.add_zero]
    congr 1
    ·omega
    ·omega

def Vs (l:List UInt8):Prop:=∃cs,(∀c∈cs,chN c)/\l=encL cs
theorem Vs.nil:Vs []:=⟨[],λc hc=>(by cases hc),rfl⟩
theorem Vs.app {a b:List UInt8}(h:Vs a)(k:Vs b):Vs (a++b):=by
 obtain⟨x,h1,rfl⟩:=h;obtain⟨y,k1,rfl⟩:=k;exact⟨x++y,λc hc=>(List.mem_append.1 hc).elim (h1 c) (k1 c),(encL_app x y).symm⟩
theorem Vs.ascii:∀{l:List UInt8},(∀b∈l,b.toNat<128)->Vs l
 | [],_=>Vs.nil
 | b::r,h=>by
  have hb:=h b (List.mem_cons_self ..);obtain⟨cs,h1,h2⟩:=Vs.ascii (l:=r) λx hx=>h x (List.mem_cons_of_mem _ hx);refine⟨b.toNat::cs,λc hc=>?_,?_⟩
  ·rcases List.mem_cons.1 hc with rfl | hc
   ·exact .inl (by omega)
   ·exact h1 c hc
  ·rw[encL,encC_lo hb,u8eq rfl,<-h2];rfl
theorem hexB_lo {n:Nat}(h:n<16):(hexB n).toNat<128:=by
 have:∀n:Fin 16,(hexB n.val).toNat<128:=by decide
 exact this ⟨n,h⟩
theorem escB_lo {b:UInt8}(h:b.toNat<128):∀x∈escB b,x.toNat<128:=by
 intro x hx;unfold escB at hx;by_cases h1:shortB b≠0
 ·rw[if_pos h1]at hx;rcases List.mem_cons.1 hx with rfl | hx
  ·decide
  ·rw[List.mem_singleton.1 hx];unfold shortB
   (repeat' split)<;>first | exact h | decide
 rw[if_neg h1]at hx;by_cases h2:b.toNat<32\/b=127
 ·rw[if_pos h2]at hx;simp only[List.mem_cons,List.not_mem_nil,or_false]at hx;rcases hx with rfl | rfl | rfl | rfl | rfl | rfl
  ·decide
  ·decide
  ·decide
  ·decide
  ·exact hexB_lo (by omega)
  ·exact hexB_lo (by omega)
 ·rw[if_neg h2]at hx;rw[List.mem_singleton.1 hx];exact h
theorem escs_hi:∀{l:List UInt8},(∀b∈l,128<=b.toNat)->escs l=l
 | [],_=>rfl
 | b::r,h=>by
  have hb:=h b (List.mem_cons_self ..);have e:escB b=[b]:=by
   have h1:shortB b=0:=by
    unfold shortB;have n:∀c:UInt8,c.toNat<128->¬b=c:=λc hc e=>by rw[e]at hb;omega
    rw[if_neg (λq=>q.elim (n _ (by decide)) (n _ (by decide))),if_neg (n _ (by decide)),if_neg (n _ (by decide)),if_neg (n _ (by decide)),if_neg (n _ (by decide)),if_neg (n _ (by decide))]
   unfold escB;rw[if_neg (by rw[h1];exact λq=>q rfl),if_neg (λq=>q.elim (λq=>by omega) (λq=>by rw[q]at hb;revert hb;decide))]
  rw[escs,e,escs_hi λx hx=>h x (List.mem_cons_of_mem _ hx)];rfl
theorem Vs.escs:∀(cs:List Nat),(∀c∈cs,chN c)->Vs (escs (encL cs))
 | [],_=>Vs.nil
 | c::r,h=>by
  have hc:=h c (List.mem_cons_self ..);have hr:=Vs.escs r λd hd=>h d (List.mem_cons_of_mem _ hd);rw[encL,escs_app];refine Vs.app ?_ hr;by_cases h1:c<128
  ·rw[encC_lo h1];show Vs (escB (UInt8.ofNat c)++[]);rw[List.append_nil];exact Vs.ascii (escB_lo (by rw[u8of (by omega)];exact h1))
  ·rw[escs_hi (encC_hi (by omega) (by unfold chN at hc;omega))];exact⟨[c],λd hd=>by rw[List.mem_singleton.1 hd];exact hc,by rw[encL,encL,List.append_nil]⟩
theorem Vs.quote {s:List UInt8}(h:validB s=true):Vs (quoteB s):=by
 unfold validB at h;obtain⟨cs,h1,rfl⟩:=valid_iff.1 (of_decide_eq_true h);exact Vs.app (Vs.app (a:=[34]) (Vs.ascii (by decide)) (Vs.escs cs h1)) (Vs.ascii (by decide))
theorem Vs.sep (n:Nat):Vs (sepB n):=by
 unfold sepB;split
 ·exact Vs.nil
 ·exact Vs.ascii (by decide)
theorem Vs.list:∀{l:List (List UInt8)} (n:Nat),(∀t∈l,Vs t)->Vs (listB n l)
 | [],_,_=>Vs.nil
 | t::r,n,h=>by
  rw[listB];exact((Vs.sep n).app (h t (List.mem_cons_self ..))).app (Vs.list (n+1) λx hx=>h x (List.mem_cons_of_mem _ hx))
theorem Vs.rec_ {keys texts:List (List UInt8)}(hk:∀k∈keys,validB k=true)(ht:∀t∈texts,Vs t)(hl:keys.length=texts.length):∀(L:List Nat) (n:Nat),(∀i∈L,i<keys.length)->Vs (recB keys texts n L)
 | [],_,_=>Vs.nil
 | i::r,n,h=>by
  have hi:=h i (List.mem_cons_self ..);have e1:keys.getD i []∈keys:=by rw[List.getD_eq_getElem?_getD,gE hi];exact List.getElem_mem hi
  have hi2:i<texts.length:=by omega
  have e2:texts.getD i []∈texts:=by rw[List.getD_eq_getElem?_getD,gE hi2];exact List.getElem_mem hi2
  rw[recB];exact((Vs.sep n).app (((Vs.quote (hk _ e1)).app (Vs.ascii (by decide))).app (ht _ e2))).app (Vs.rec_ hk ht hl r (n+1) λx hx=>h x (List.mem_cons_of_mem _ hx))
theorem num_lo {b:UInt8}(h:numC b=true):b.toNat<128:=by
 unfold numC at h;simp only[Bool.or_eq_true,Nat.beq_eq]at h;rcases h with (((h | h) | h) | h) | h
 ·have:=digC_iff.1 h;omega
 ·have:=letC_iff.1 h;omega
 ·omega
 ·omega
 ·omega
theorem tim_lo {b:UInt8}(h:timC b=true):b.toNat<128:=by
 unfold timC at h;rw[Bool.or_eq_true,Nat.beq_eq]at h;rcases h with h | h
 ·exact num_lo h
 ·omega
theorem textsB_len2:∀l:List PT,(textsB l).length=l.length
 | []=>rfl
 | t::r=>by simp only[textsB,lC,textsB_len2 r]
theorem text_valid:∀(m:Nat) (t:PT),t.n<=m->formedB t=true->Vs (textB t):=by
 intro m
 induction m with
 | zero=>intro t h;have:=PT.n_pos t;omega
 | succ m ih =>
  intro t hm hF;obtain⟨k,x,keys,kids⟩:=t;have kd:=formed_kind hF;have kc:k=1\/k=2\/k=3\/k=4\/k=5\/k=6\/k=7:=by omega
  obtain⟨hFk,h7,_,_,_⟩:=formed_parts hF;have hFs:∀u∈kids,formedB u=true:=formedBs_all.1 hFk;have hts:∀x∈textsB kids,Vs x:=λx hx=>by
   rw[textsB_map]at hx;obtain⟨u,hu,rfl⟩:=List.mem_map.1 hx;refine ih u ?_ (hFs u hu);have:=PT.ns_mem hu;simp only[PT.n]at hm;omega
  rw[textB];rcases kc with rfl | rfl | rfl | rfl | rfl | rfl | rfl
  ·rw[if_pos rfl];exact Vs.ascii (by decide)
  ·rw[if_neg (by decide),if_pos (.inl rfl)];have h2:(x=w4true\/x=w5false):=by
    simp only[formedB,bA]at hF;have h2:=hF.2;unfold shapeB at h2;rw[if_neg (by decide),if_pos rfl,bA,Bool.or_eq_true]at h2;exact h2.2.imp beqB_iff.1 beqB_iff.1
   rcases h2 with rfl | rfl
   ·exact Vs.ascii (by decide)
   ·exact Vs.ascii (by decide)
  ·rw[if_neg (by decide),if_pos (.inr rfl)];obtain⟨a,b⟩:=formed_num hF;have:=(norm_bytes a).1;rw[b]at this;exact Vs.ascii λy hy=>num_lo (this y hy)
  ·rw[if_neg (by decide),if_neg (by decide),if_pos rfl];exact Vs.quote (formed_text hF)
  ·rw[if_neg (by decide),if_neg (by decide),if_neg (by decide),if_pos rfl];have ht:timeB x=true:=by
    simp only[formedB,bA]at hF;have h2:=hF.2;unfold shapeB at h2;rw[if_neg (by decide),if_neg (by decide),if_neg (by decide),if_neg (by decide),if_pos rfl,bA]at h2;exact h2.2
   exact Vs.app (a:=[64]) (Vs.ascii (by decide)) (Vs.ascii λy hy=>tim_lo (time_tim ht y hy))
  ·rw[if_neg (by decide),if_neg (by decide),if_neg (by decide),if_neg (by decide),if_pos rfl];exact(Vs.app (Vs.ascii (by decide)) (Vs.list 0 hts)).app (Vs.ascii (by decide))
  ·rw[if_neg (by decide),if_neg (by decide),if_neg (by decide),if_neg (by decide),if_neg (by decide)];obtain⟨rfl,hkl,hnd⟩:=h7 rfl;exact(Vs.app (Vs.ascii (by decide)) (Vs.rec_ (formed_keys hF) hts (by rw[hkl,textsB_len2]) (ordK keys) 0 λi hi=>ordK_lt hi)).app (Vs.ascii (by decide))
theorem full_text (hnn:∀t:List UInt8,0<=(normB t).2){t:PT}(h:rightB t=0):fullP (textB t)=.ok (sortT t) (textB t).length t.n:=by
 have hF:=right_formed h;have hd:t.dp<=64/\t.n<=4096:=by
  unfold rightB at h;by_cases h1:64<t.dp
  ·rw[if_pos h1]at h;cases h
  rw[if_neg h1]at h;by_cases h2:4096<t.n
  ·rw[if_pos h2]at h;cases h
  exact⟨by omega,by omega⟩
 have hv:badI (textB t) 0<0:=valid_iff.2 (text_valid _ t (nR _) hF);obtain⟨c,r,e1,e2,_,_,_⟩:=text_first hF;have h0:(textB t).drop 0=textB t++[]:=by rw[List.drop_zero,List.append_nil]
 have hb:rowE blaC (textB t) 0=0:=rowE_out (c:=c) (by rw[e1];rfl) e2;have ht:=text_ok hnn _ t (nR _) hF (2*(textB t).length+2) (textB t) 0 [] 1 0 h0 (.inl rfl) (by omega) (by omega) (by omega);unfold fullP;rw[if_pos hv];unfold parseP;rw[hb,ht];simp only[Nat.zero_add];have he:rowE blaC (textB t) (textB t).length=(textB t).length:=rowE_end (nR _);rw[he,if_neg (by omega)]
end Go.Dn

namespace Go.Dn
open Go Go.Proofs.C1
set_option maxRecDepth 100000
attribute [local irreducible] afterS keepE
theorem quoL_len:∀(n:Nat) (rest:List UInt8) (i:Nat) (acc t:List UInt8) (k:Nat),rest.length<=n->quoL rest i acc=.ok t k->t.length<=acc.length+4*rest.length:=by
 intro n
 induction n with
 | zero =>
  intro rest i acc t k hn h;obtain rfl:rest=[]:=nL (by omega);rw[quoL]at h;cases h
 | succ n ih =>
  intro rest i acc t k hn h;cases rest with
  | nil=>rw[quoL]at h;cases h
  | cons c r =>
   rw[lC]at hn;rw[quoL]at h;rw[lC];by_cases h1:c.toNat=34
   ·rw[if_pos h1]at h;cases h;omega
   rw[if_neg h1]at h;by_cases h2:c.toNat<32
   ·rw[if_pos h2]at h;cases h
   rw[if_neg h2]at h;by_cases h3:c.toNat=92
   ·rw[if_pos h3]at h;cases he:escU r with
    | none=>rw[he]at h;cases h
    | some p =>
     rw[he]at h;have e1:=escU_len he;have e2:=encC_len p.1;have:=ih _ _ _ _ _ (by rw[lD];omega) h;rw[lA,lD]at this;omega
   ·rw[if_neg h3]at h;have:=ih _ _ _ _ _ (by omega) h;simp only[lA,lC,lN]at this;omega
theorem quoB_len {s t:List UInt8}{k:Nat}(h:quoB s=.ok t k):t.length<=4*s.length:=by
 cases s with
 | nil=>cases h
 | cons c r =>
  simp only[quoB]at h;by_cases h1:c.toNat=34
  ·rw[if_pos h1]at h;have:=quoL_len _ _ _ _ _ _ (nR _) h;rw[lN]at this;rw[lC];omega
  ·rw[if_neg h1]at h;cases h
theorem soks_all:∀{l:List PT},(∀u∈l,u.sok)->PT.soks l
 | [],_=>by simp only[PT.soks]
 | t::r,h=>by simp only[PT.soks];exact⟨h t (List.mem_cons_self ..),soks_all λu hu=>h u (List.mem_cons_of_mem _ hu)⟩
theorem sok_leaf {k:Int}{s:List UInt8}(h:s.length<4294967281):(PT.mk k s [] []).sok:=by
 simp only[PT.sok,PT.soks];exact⟨h,λq hq=>(by cases hq),by decide,by decide,trivial⟩
theorem midP_len (s:List UInt8)(i j:Nat):(midP s i j).length<=s.length:=by
 unfold midP;rw[lT,lD];omega
theorem norm_len {s:List UInt8}(h:(normB s).2=0):(normB s).1.length<=1000:=by
 rcases norm_made h with e | ⟨_,_,_,_,_,_,_,_,_,_,e,_⟩
 ·rw[e];decide
 ·exact e
theorem all2 {Q:PT->Prop}{l:List PT}{t:PT}(h:∀u∈l,Q u)(k:Q t):∀u∈l++[t],Q u:=λu hu=>by
 rcases List.mem_append.1 hu with hu | hu
 ·exact h u hu
 ·rw[List.mem_singleton.1 hu];exact k
theorem scaQ_sok {s:List UInt8}(hs:s.length<=16777216){deep i n:Nat}{t:PT}{e m:Nat}(h:scaQ s deep i n=.ok t e m):n<m/\m<=4096/\t.sok:=by
 unfold scaQ scaR at h;cases hc:s[i]? with
 | none=>rw[hc]at h;cases h
 | some c =>
  rw[hc]at h;simp only at h;by_cases h1:(digC c || Nat.beq c.toNat 45)=true
  ·rw[if_pos h1]at h;by_cases h2:(normB (midP s i (rowE numC s i))).2=0
   ·rw[if_pos h2]at h;obtain⟨k1,k2,k3⟩:=nodP_ok h;cases k3;have:=norm_len h2;exact⟨by omega,by omega,sok_leaf (by omega)⟩
   ·rw[if_neg h2]at h;cases h
  rw[if_neg h1]at h;by_cases h2:letC c=true
  ·rw[if_pos h2]at h;by_cases h3:midP s i (rowE letC s i)=w4null
   ·rw[if_pos h3]at h;obtain⟨k1,k2,k3⟩:=nodP_ok h;cases k3;exact⟨by omega,by omega,sok_leaf (by decide)⟩
   rw[if_neg h3]at h;by_cases h4:midP s i (rowE letC s i)=w4true\/midP s i (rowE letC s i)=w5false
   ·rw[if_pos h4]at h;obtain⟨k1,k2,k3⟩:=nodP_ok h;cases k3;have:=midP_len s i (rowE letC s i);exact⟨by omega,by omega,sok_leaf (by omega)⟩
   ·rw[if_neg h4]at h;cases h
  ·rw[if_neg h2]at h;cases h
theorem reads_sok {s:List UInt8}(hs:s.length<=16777216)(hnn:∀t:List UInt8,0<=(normB t).2):∀f:Nat,
  (∀deep i n t e m,treeP s f deep i n=.ok t e m->n<m/\m<=4096/\t.sok) /\
  (∀deep i n acc t e m,acc.length<=n->(∀u∈acc,u.sok)->listP s f deep i n acc=.ok t e m->n<m/\m<=4096/\t.sok) /\
  (∀deep i n keys kids t e m,keys.length<=n->kids.length<=n->(∀u∈kids,u.sok)->(∀q∈keys,q.length<4294967281)->recP s f deep i n keys kids=.ok t e m->n<m/\m<=4096/\t.sok):=by
 intro f
 induction f with
 | zero=>exact⟨λ_ _ _ _ _ _ h=>(by rw[treeP]at h;cases h),λ_ _ _ _ _ _ _ _ _ h=>(by rw[listP]at h;cases h),λ_ _ _ _ _ _ _ _ _ _ _ _ h=>(by rw[recP]at h;cases h)⟩
 | succ f ih =>
  obtain⟨ih1,ih2,ih3⟩:=ih;have ql:∀{i k:Nat} {t:List UInt8},quoB (s.drop i)=.ok t k->t.length<4294967281:=λh=>by
   have:=quoB_len h;rw[lD]at this;omega
  refine⟨?_,?_,?_⟩
  ·intro deep i n t e m h;have hi:=treeP_lt h;rw[treeP_eq hnn (by omega)]at h;by_cases q1:isC s i 34=true
   ·rw[if_pos q1]at h;obtain⟨k1,k2,k3⟩:=nodP_ok h;unfold quoQ at k3;cases hq:quoB (s.drop i) with
    | bad a w=>rw[hq]at k3;cases k3
    | ok u k =>
     rw[hq]at k3;cases k3;exact⟨by omega,by omega,sok_leaf (ql hq)⟩
   rw[if_neg q1]at h;by_cases q2:isC s i 91=true
   ·rw[if_pos q2]at h;obtain⟨k1,k2,k3⟩:=nodP_ok h;unfold lisP at k3;by_cases q3:isC s (rowE blaC s (i+1)) 93=true
    ·rw[if_pos q3]at k3;cases k3;exact⟨by omega,by omega,sok_leaf (by decide)⟩
    ·rw[if_neg q3]at k3;have:=ih2 _ _ _ _ _ _ _ (Nat.zero_le _) (λu hu=>by cases hu) k3;exact⟨by omega,this.2⟩
   rw[if_neg q2]at h;by_cases q4:isC s i 123=true
   ·rw[if_pos q4]at h;obtain⟨k1,k2,k3⟩:=nodP_ok h;unfold rcP at k3;by_cases q3:isC s (rowE blaC s (i+1)) 125=true
    ·rw[if_pos q3]at k3;cases k3;exact⟨by omega,by omega,sok_leaf (by decide)⟩
    ·rw[if_neg q3]at k3;have:=ih3 _ _ _ _ _ _ _ _ (Nat.zero_le _) (Nat.zero_le _) (λu hu=>by cases hu) (λu hu=>by cases hu) k3;exact⟨by omega,this.2⟩
   rw[if_neg q4]at h;by_cases q5:isC s i 64=true
   ·rw[if_pos q5]at h;by_cases q6:timeB (midP s (i+1) (rowE timC s (i+1)))=true
    ·rw[if_pos q6]at h;obtain⟨k1,k2,k3⟩:=nodP_ok h;cases k3;have:=midP_len s (i+1) (rowE timC s (i+1));exact⟨by omega,by omega,sok_leaf (by omega)⟩
    ·rw[if_neg q6]at h;cases h
   rw[if_neg q5]at h;exact scaQ_sok hs h
  ·intro deep i n acc t e m ha hk h;rw[listP]at h;cases e1:treeP s f (deep+1) (rowE blaC s i) n with
   | bad a w=>rw[e1]at h;cases h
   | ok u j m2 =>
    rw[e1]at h;simp only at h;obtain⟨g1,g2,g3⟩:=ih1 _ _ _ _ _ _ e1;have hk2:=all2 hk g3;have hl2:(acc++[u]).length<=m2:=by simp only[lA,lC,lN];omega
    by_cases q1:isC s (rowE blaC s j) 44=true
    ·rw[if_pos q1]at h;have:=ih2 _ _ _ _ _ _ _ hl2 hk2 h;exact⟨by omega,this.2⟩
    rw[if_neg q1]at h;by_cases q2:isC s (rowE blaC s j) 93=true
    ·rw[if_pos q2]at h;cases h;refine⟨g1,g2,?_⟩;simp only[PT.sok];exact⟨by decide,λq hq=>(by cases hq),by decide,by omega,soks_all hk2⟩
    ·rw[if_neg q2,errP_eq]at h;cases h
  ·intro deep i n keys kids t e m ha hb hk hq0 h;rw[recP]at h;by_cases q0:isC s (rowE blaC s i) 34=true
   case neg=>rw[if_neg q0,errP_eq]at h;cases h
   rw[if_pos q0]at h;cases hq:quoB (s.drop (rowE blaC s i)) with
   | bad a w=>rw[hq]at h;cases h
   | ok k kk =>
    rw[hq]at h;simp only at h;by_cases q1:k∈keys
    ·rw[if_pos q1]at h;cases h
    rw[if_neg q1]at h;by_cases q2:isC s (rowE blaC s (rowE blaC s i+kk)) 58=true
    case neg=>rw[if_neg q2,errP_eq]at h;cases h
    rw[if_pos q2]at h;cases e1:treeP s f (deep+1) (rowE blaC s (rowE blaC s (rowE blaC s i+kk)+1)) n with
    | bad a w=>rw[e1]at h;cases h
    | ok u j m2 =>
     rw[e1]at h;simp only at h;obtain⟨g1,g2,g3⟩:=ih1 _ _ _ _ _ _ e1;have hk2:=all2 hk g3;have hl1:(keys++[k]).length<=m2:=by simp only[lA,lC,lN];omega
     have hl2:(kids++[u]).length<=m2:=by simp only[lA,lC,lN];omega
     have hq2:∀q∈keys++[k],q.length<4294967281:=λq hq'=>by
      rcases List.mem_append.1 hq' with hq' | hq'
      ·exact hq0 q hq'
      ·rw[List.mem_singleton.1 hq'];exact ql hq
     by_cases q3:isC s (rowE blaC s j) 44=true
     ·rw[if_pos q3]at h;have:=ih3 _ _ _ _ _ _ _ _ hl1 hl2 hk2 hq2 h;exact⟨by omega,this.2⟩
     rw[if_neg q3]at h;by_cases q4:isC s (rowE blaC s j) 125=true
     ·rw[if_pos q4]at h;cases h;refine⟨g1,g2,?_⟩;simp only[PT.sok];exact⟨by decide,hq2,by omega,by omega,soks_all hk2⟩
     ·rw[if_neg q4,errP_eq]at h;cases h
theorem full_sok {s:List UInt8}(hs:s.length<=16777216)(hnn:∀t:List UInt8,0<=(normB t).2){t:PT}{e m:Nat}(h:fullP s=.ok t e m):t.sok:=by
 unfold fullP at h;by_cases hv:badI s 0<0
 case neg=>rw[if_neg hv]at h;cases h
 rw[if_pos hv]at h;unfold parseP at h;cases e1:treeP s (2*s.length+2) 1 (rowE blaC s 0) 0 with
 | bad a w=>rw[e1]at h;cases h
 | ok u j m2 =>
  rw[e1]at h;simp only at h;by_cases z:rowE blaC s j<s.length
  ·rw[if_pos z]at h;cases h
  ·rw[if_neg z]at h;cases h;exact((reads_sok hs hnn _).1 _ _ _ _ _ _ e1).2.2
theorem same_sort {t:PT}(h:formedB t=true):sameB t (sortT t)=true:=by
 unfold sameB;rw[h,formed_sort h,sort_idem h];exact eqT_true rfl

def GdB (t:PT):Prop:=t.ok/\t.sok/\t.n<1099511627776
structure BkCs (C:CallT):Prop where
 run:PF C 3 [] (.bool true)
 par:∀{S:St} {R:List Rs} {y:List UInt8},y.length<=65536->Hs S R->C 19 [.str y] S (PaP y R S)
 txt:∀{S:St} {u:PT} {v:AV},GdB u->TV S u v->C 15 [v] S λr S'=>r=.ret (.tup [.str (textR u).1,.int .i64 (textR u).2])/\S'=S
 sam:∀{S:St} {a b:PT} {v w:AV},GdB a->GdB b->TV S a v->TV S b w->C 24 [v,w] S λr S'=>r=.ret (.bool (sameB a b))/\S'=S
 rig:∀{S:St} {u:PT} {v:AV},GdB u->TV S u v->C 16 [v] S λr S'=>r=.ret (.int .i64 (rightB u))/\S'=S
 pla:∀{S:St} {t u:PT} {v w:AV},t.ok->TV S t v->TV S u w->C 32 [v,w] S λr S'=>r=.ret (.bool (eqT t u))/\S'=S
 num:∀t:List UInt8,0<=(normB t).2
theorem gd_full {C:CallT}(K:BkCs C){s:List UInt8}(hs:s.length<=65536){t:PT}{e m:Nat}(h:fullP s=.ok t e m):GdB t:=by
 have h1:=fullP_fine (s:=s) K.num;rw[h]at h1;have h2:=full_right K.num h;have h3:=full_sok (by omega) K.num h;refine⟨h1,h3,?_⟩;unfold rightB at h2;by_cases q1:64<t.dp
 ·rw[if_pos q1]at h2;cases h2
 rw[if_neg q1]at h2;by_cases q2:4096<t.n
 ·rw[if_pos q2]at h2;cases h2
 omega
section
variable {gt:GT}{C:CallT}
theorem back2_wp (hm:MonoC C)(K:BkCs C){s:List UInt8}{S:St}{R:List Rs}{tl:Env}(h:Hs S R)(hl:s.length<=4000) :
  wpD gt C (subC (F10).body [1,1,1,1,1]) ((1,.val (.str s))::tl) S (bodyQ gt (F10).res (Ret (.bool true))):=by
 refine goW ?_;refine call_rule (by rfl) (hm _ _ _ _ _ (K.par (y:=s) (by omega) h) ?_);intro r S2 hp2;unfold PaP at hp2;cases e2:fullP s with
 | bad a w =>
  rw[e2]at hp2;obtain⟨v,id,rfl,tv,h2,k2⟩:=hp2;obtain⟨o5,o6,x5,ev⟩:=tv.agg;simp only[PT.k,PT.s,PT.keys]at ev;generalize hy:strs []=y5 at ev;subst ev;refine goW ?_;refine call_pf hm (by rfl) K.run (goW ?_);exact⟨_,rfl,Ret.sta trivial⟩
 | ok t j m =>
  rw[e2]at hp2;obtain⟨v,rfl,tv,h2,k2⟩:=hp2;have hr:=full_right K.num e2;have hg:=gd_full K (by omega) e2;have ht:textR t=if 65536<(textB t).length then ([],2) else (textB t,0):=by unfold textR;rw[if_pos hr]
  have htx:=K.txt hg tv;have hri:=K.rig hg tv;rw[hr]at hri;obtain⟨o5,o6,x5,ev⟩:=tv.agg;generalize hy:strs t.keys=y5 at ev;generalize t.k=tk at ev;generalize t.s=ts at ev;subst ev;refine goW ?_;refine call_rule (by rfl) (hm _ _ _ _ _ htx ?_);rintro r S3 ⟨rfl,rfl⟩;by_cases c:65536<(textB t).length
  ·rw[ht,if_pos c];refine goW ?_;refine call_rule (by rfl) (hm _ _ _ _ _ (K.par (y:=[]) (by decide) h2) ?_);intro r S4 hp4;unfold PaP at hp4;cases e4:fullP [] with
   | bad a w =>
    rw[e4]at hp4;obtain⟨v4,id,rfl,tv4,h4,k4⟩:=hp4;have hri:=K.rig hg (TV.kp k4 _ _ tv);rw[hr]at hri;obtain⟨o7,o8,x7,ev⟩:=tv4.agg;simp only[PT.k,PT.s,PT.keys]at ev;generalize hy:strs []=y7 at ev;subst ev;refine goW ?_;refine call_rule (by rfl) (hm _ _ _ _ _ hri ?_);rintro r S5 ⟨rfl,rfl⟩;refine goW ?_;refine call_pf hm (by rfl) K.run (goW ?_);exact⟨_,rfl,Ret.sta trivial⟩
   | ok u j m =>
    rw[e4]at hp4;obtain⟨v4,rfl,tv4,h4,k4⟩:=hp4;have hri:=K.rig hg (TV.kp k4 _ _ tv);rw[hr]at hri;obtain⟨o7,o8,x7,ev⟩:=tv4.agg;generalize hy:strs u.keys=y7 at ev;generalize u.k=uk at ev;generalize u.s=us at ev;subst ev;refine goW ?_;refine call_rule (by rfl) (hm _ _ _ _ _ hri ?_);rintro r S5 ⟨rfl,rfl⟩;refine goW ?_;refine call_pf hm (by rfl) K.run (goW ?_);exact⟨_,rfl,Ret.sta trivial⟩
  ·rw[ht,if_neg c];refine goW ?_;refine call_rule (by rfl) (hm _ _ _ _ _ (K.par (y:=textB t) (by omega) h2) ?_);intro r S4 hp4;unfold PaP at hp4;have hft:=full_text K.num hr;rw[hft]at hp4;obtain⟨v4,rfl,tv4,h4,k4⟩:=hp4;have hg4:=gd_full K (by omega) hft;have tv:=TV.kp k4 _ _ tv;have hri:=K.rig hg tv;rw[hr]at hri;have hsa:=K.sam hg hg4 tv tv4;rw[same_sort (right_formed hr)]at hsa;obtain⟨o7,o8,x7,ev⟩:=tv4.agg;generalize hy:strs (sortT t).keys=y7 at ev;generalize (sortT t).k=uk at ev;generalize (sortT t).s=us at ev;subst ev;refine goW ?_;refine call_rule (by rfl) (hm _ _ _ _ _ hsa ?_);rintro r S5 ⟨rfl,rfl⟩;refine goW ?_;refine call_rule (by rfl) (hm _ _ _ _ _ hri ?_);rintro r S6 ⟨rfl,rfl⟩;refine goW ?_;refine call_pf hm (by rfl) K.run (goW ?_);exact⟨_,rfl,Ret.sta trivial⟩
theorem back1_wp (hm:MonoC C)(K:BkCs C){t:PT}(hg:GdB t){s:List UInt8}{tl:Env}(hl:s.length<=4000)(hso:formedB t=true->PF C 34 [encT t] (encT (sortT t))){ka:Int}{sa:List UInt8}{xa ya:List AV}(ga:encT t=.agg [.int .i64 ka,.str sa,.sl 1 stat xa,.sl 4 stat ya]) :
  wpD gt C (subC (F10).body [1,1,1]) ((1,.val (.str s))::(2,.box [.int .i64 ka,.str sa,.sl 1 stat xa,.sl 4 stat ya])::tl) St.init (bodyQ gt (F10).res (Ret (.bool true))):=by
 have tv0:∀S:St,TV S t (.agg [.int .i64 ka,.str sa,.sl 1 stat xa,.sl 4 stat ya]):=λS=>by rw[<-ga];exact TV.stat t
 have htx:=K.txt hg (tv0 St.init);refine goW ?_;refine call_rule (by rfl) (hm _ _ _ _ _ htx ?_);rintro r S3 ⟨rfl,rfl⟩;by_cases e0:rightB t=0/\¬65536<(textB t).length
 case neg =>
  have hne:(textR t).2≠0:=by
   unfold textR;by_cases q:rightB t=0
   ·rw[if_pos q,if_pos (Decidable.byContradiction λz=>e0 ⟨q,z⟩)];decide
   ·rw[if_neg q];exact q
  generalize (textR t).1=w at *;generalize (textR t).2=e at *;refine goW ?_;rw[eqI_false hne];exact back2_wp hm K Hs.init hl
 obtain⟨hr,hlen⟩:=e0;have ht:textR t=(textB t,0):=by unfold textR;rw[if_pos hr,if_neg hlen]
 rw[ht];refine goW ?_;refine call_rule (by rfl) (hm _ _ _ _ _ (K.par (y:=textB t) (by omega) Hs.init) ?_);intro r S4 hp4;unfold PaP at hp4;have hft:=full_text K.num hr;rw[hft]at hp4;obtain⟨v4,rfl,tv4,h4,k4⟩:=hp4;have hg4:=gd_full K (by omega) hft;have hsa:=K.sam hg hg4 (tv0 S4) tv4;rw[same_sort (right_formed hr)]at hsa;have hso:=hso (right_formed hr);rw[ga]at hso;have hpl:=K.pla (u:=sortT t) hg4.1 tv4 (TV.stat (S:=S4) (sortT t));rw[eqT_true rfl]at hpl;obtain⟨o7,o8,x7,ev⟩:=tv4.agg;generalize hy:strs (sortT t).keys=y7 at ev;generalize (sortT t).k=uk at ev;generalize (sortT t).s=us at ev;subst ev;refine goW ?_;refine call_ruleD (by rfl) (hm _ _ _ _ _ hsa ?_);rintro r S5 ⟨rfl,rfl⟩;refine goW ?_;refine call_pfD hm (by rfl) hso (goW ?_);refine call_ruleD (by rfl) (hm _ _ _ _ _ hpl ?_);rintro r S6 ⟨rfl,rfl⟩;refine And.intro (by rfl) ?_
 conv=>whnf
 refine sD (by rfl) (by rfl) ?_
 conv=>whnf
 refine sD (by rfl) (by rfl) ?_
 conv=>whnf
 generalize hE:keepE _ _=e0
 revert hE
 apply kI
 ·(repeat (first | exact kN _ | (apply kC;with_unfolding_all rfl;rfl)))
 rintro rfl;exact back2_wp hm K h4 hl
theorem back_wp (hm:MonoC C)(K:BkCs C){t:PT}(hg:GdB t){s:List UInt8}(hso:formedB t=true->PF C 34 [encT t] (encT (sortT t)))(hsm:PF C 26 [encT t] (.bool (smallB t))) :
  wpF gt C F10 [encT t,.str s] St.init (Ret (.bool true)):=by
 obtain⟨ka,sa,xa,ya,ga⟩:=encT_agg t;generalize smallB t=b at hsm;rw[ga]at hsm ⊢;refine⟨rfl,?_⟩;refine goW ?_;refine call_pf hm (by rfl) hsm ?_;cases b with
 | false =>
  refine goW ?_;refine call_pf hm (by rfl) K.run (goW ?_);exact⟨_,rfl,Ret.sta trivial⟩
 | true =>
 refine goW ?_;by_cases c:s.length<=4000
 ·rw[dF (show ¬(s.length:Int) > 4000 by omega)];exact back1_wp hm K hg c hso ga
 ·rw[dT (show (s.length:Int) > 4000 by omega)];refine goW ?_;refine step_ruleO (sx_slHiS (h:=4000) rfl rfl (by omega)) ?_;refine goJ ?_;exact back1_wp hm K hg (by rw[lT];omega) hso ga
end
end Go.Dn

namespace Go.Proofs.YthgidapmofcloaaGreatDoor
open Go.Dn Go.Proofs.YthgidapmofcloaaGreatDoor.Fn
theorem read1 {f:FuncId}{u:PT}{x:AV}(hx:Sta x)(hf:Flat x){S:St}{v:AV}(h:PF A f [encT u] x)(hv:TV S u v):A f [v] S λr S'=>r=.ret x/\S'=S:=by
 refine AC_mono _ _ _ _ _ (AC_read (us:=[encT u]) (Φ:=λy=>y=x) gtSta ?_ (λy hy=>by rw[hy];exact hf) (AC_mono _ _ _ _ _ (h St.init) λr S1 h=>⟨_,_,h.1,Sta.rdo _ hx,rfl⟩)) ?_
 ·simp only[Rdos];exact⟨_,_,rfl,hv.rdo,rfl⟩
 ·rintro r S' ⟨y,rfl,rfl,rfl⟩;exact⟨rfl,rfl⟩
theorem sameQ {S:St}{a b:PT}{v w:AV}(ha:GdB a)(hb:GdB b)(hv:TV S a v)(hw:TV S b w):A 24 [v,w] S λr S'=>r=.ret (.bool (sameB a b))/\S'=S:=by
 refine AC_mono _ _ _ _ _ (AC_read (us:=[encT a,encT b]) (Φ:=λx=>x=.bool (sameB a b)) gtSta ?_ (λx hx=>by rw[hx];exact rfl) (AC_mono _ _ _ _ _ (Fn.same a b ha.2.1 ha.1 ha.2.2 hb.2.1 hb.1 hb.2.2 St.init) λr S1 h=>⟨_,_,h.1,Sta.rdo _ trivial,rfl⟩)) ?_
 ·simp only[Rdos];exact⟨_,_,rfl,hv.rdo,_,_,rfl,hw.rdo,rfl⟩
 ·rintro r S' ⟨x,rfl,rfl,rfl⟩;exact⟨rfl,rfl⟩
theorem bkCs:BkCs A where
 run:=Fn.runs
 par hy h:=Fn.parseT hy h
 txt {S u v} hg hv:=read1 (x:=.tup [.str (textR u).1,.int .i64 (textR u).2]) ⟨trivial,trivial,trivial⟩ rfl (Fn.tText u hg.1 hg.2.1 hg.2.2) hv
 sam ha hb hv hw:=sameQ ha hb hv hw
 rig {S u v} hg hv:=read1 (x:=.int .i64 (rightB u)) trivial rfl (Fn.right u (by have:=hg.2.2;omega) hg.2.1) hv
 pla ht hv hw:=Fn.plainQ ht hv hw
 num:=Fn.norm_nn
theorem TreeBack.law {t:PT}(s:List UInt8)(hk:t.ok)(hs:t.sok)(hn:t.n<1099511627776):A 10 [encT t,.str s] St.init (Ret (.bool true)) :=
 AC_intro Tryz.checked.mixed Tryz.func10 (by kernel_rfl) Go.Proofs.C1.F10_ok
  (back_wp Fn.hm bkCs ⟨hk,hs,hn⟩ (λh=>Fn.sorted t hk (formed_nd h hn)) (Fn.small t))
end Go.Proofs.YthgidapmofcloaaGreatDoor

namespace Go.Proofs.YthgidapmofcloaaGreatDoor.TreeBack
open Go.ChangeShapes Go.WideShapes Go.ChangeAt Go.RowKit Go.Dn Go.Proofs.YthgidapmofcloaaGreatDoor.Fn
theorem laidOut:laidOutB Tryz.prog=true:=by kernel_rfl
theorem walk {W:World}(hI:Inv Tryz.prog gtT St.init (G0 W) W){args:Array Value}{xs:List AV}{f:FuncId}(hac:A f xs St.init (Ret (.bool true)))(hx:Rl St.init (G0 W) W xs args.toList):Calls Tryz.prog f args W λe W'=>e=.returned (.bool true)/\Below W.heap.size W W':=by
 refine Calls.mono (hac.2 (G0 W) W args.toList hI hx) λe W' hp=>?_;cases e with
 | returned v =>
  obtain⟨x,S',G',⟨y,hy,hr⟩,t,rv⟩:=hp;cases hy;simp only[Rdo]at hr;subst hr;refine⟨?_,below_of_ext t.ext⟩;simp only[Rv]at rv;rw[rv]
 | panicked chain =>
  obtain⟨x,S',G',u,hc,⟨y,hy,hr⟩,_⟩:=hp;cases hy
 | outgrown=>exact hp.elim
theorem types:okTypes Tryz.prog [25,23,22,9,3,60,40]=true:=by kernel_rfl
theorem wantsT:Tryz.pinned.checked.prog.wantsStandIn 25=false:=by kernel_rfl
theorem isUb {H:Type}:IsUb (Rows.uptoBulk (H:=H)) Rows.uptoBulkAll where
 lit l:=by cases l<;>simp[Rows.uptoBulk]
 str s:=by simp[Rows.uptoBulk]
 nil:=by simp[Rows.uptoBulk]
 slice a b:=by simp[Rows.uptoBulk]
 agg a:=by simp[Rows.uptoBulk]
 none:=by simp[Rows.uptoBulkAll]
 cons d r:=by simp[Rows.uptoBulkAll]
set_option maxRecDepth 1000000 in
theorem entryT {H:Type}{enc:TypeId×Value->H}{W:World}{v:Value}{d:DataW H}{p:List MemPlace}{base:Nat}(hv:Value.okWide Tryz.prog W .any base 25 v)(h:DataW.Trod enc Tryz.prog W 0 (λ_=>true) true 25 v d p) :
  ∃n:PT,Rv St.init (G0 W) W (encT n) v/\bulkA (encT n)<=Rows.uptoBulk d:=by
 obtain⟨fuel,hf⟩:=h;obtain⟨zs,hr,ht,hb⟩:=trod_avb isUb types fuel 25 _ _ (by decide) hf;obtain⟨n,hn⟩:=av_tree ht;refine⟨n,?_,?_⟩
 ·rw[<-hn];obtain⟨vs,rfl,_⟩:=okWide_struct Tryz.underlying25 hv;simp only[Rv];exact⟨_,rfl,hr⟩
 ·rw[<-hn];have:sb Tryz.prog 25=1:=by unfold sb;rw[Tryz.underlying25]
  rw[this]at hb;simpa only[bulkA] using hb
theorem wantsK:Tryz.pinned.checked.prog.wantsStandIn 9=false:=by kernel_rfl
set_option maxRecDepth 1000000 in
theorem entryK {H:Type}{enc:TypeId×Value->H}{W:World}{v:Value}{d:DataW H}{p:List MemPlace}{base:Nat}(hv:Value.okWide Tryz.prog W .any base 9 v)(h:DataW.Trod enc Tryz.prog W 0 (λ_=>true) true 9 v d p) :
  ∃s:List UInt8,Rv St.init (G0 W) W (.str s) v/\s.length<=Rows.uptoBulk d:=by
 obtain⟨b,rfl⟩:=okWide_string u_str hv;obtain⟨fuel,hf⟩:=h;obtain⟨zs,hr,ht,hb⟩:=trod_avb isUb types fuel 9 _ _ (by decide) hf;obtain⟨s,rfl⟩:∃s,zs=[.str s]:=by
  rcases fuel with _ | fuel
  ·exact ht.elim
  ·unfold AVB at ht;rw[u_str]at ht;obtain⟨s,e,_⟩:=ht;exact⟨s,e⟩
 have hu:(Value.string b).cells.toList=[.string b]:=rfl;rw[hu]at hr;simp only[Rl]at hr;obtain⟨u,r,e1,e2,rfl⟩:=hr;cases e1;refine⟨s,e2,?_⟩;simp only[bulkAs,bulkA]at hb;omega
abbrev zeroTree:Value:=.agg #[.int .i64 0,.string .empty,.slice none 0 0,.slice none 0 0]
abbrev zeroData (H:Type):DataW H:=.agg [.lit (.int .i64 0),.lit (.string []),.nil,.nil]
abbrev zeros:Array Value:=#[zeroTree,.string .empty]
theorem reads (os:Os){H:Type}(enc:TypeId×Value->H):∃places,DataW.whole enc Tryz.prog ((laidW os).forCall (λ_ _=>0) ⟨#[],zeros,[]⟩).memory Tryz.f10.params.toList Rows.treeBackSpec.vars false zeros.toList 8=some ([zeroData H,.lit (.string [])],[],places) :=
 ⟨[],by kernel_rfl⟩
set_option maxRecDepth 100000 in
theorem lifted (os:Os)(started:os.Started)(H:Type)(enc:TypeId×Value->H)(F:Stop.Interp) :
  ReturnsInHanded {} Tryz.checked os 10 .any ((Rows.OpenSpec.upto Rows.treeBackSpec).preRow enc Tryz.prog Tryz.f10 Rows.treeBackUptoRow.domain false Rows.treeBackUptoRow.laid)
   (((Rows.OpenSpec.upto Rows.treeBackSpec).at F).post enc Tryz.prog Tryz.f10 false true false false):=by
 obtain⟨places,hx⟩:=reads os enc;refine returnsInHanded_of_row (C:=Tryz.checked) (s:=Rows.OpenSpec.upto Rows.treeBackSpec) own started (by kernel_rfl) Tryz.func10
  (witness_row_atRef (enc:=enc) (C:=Tryz.checked) false (laidW os) zeros (laidW_os _) (by kernel_rfl) (by kernel_rfl) (by kernel_rfl)
   (OpenSpec.preRow_of_cond 8 hx (by kernel_rfl) (λk hk=>by cases hk;kernel_rfl) (by kernel_rfl) (laidW_met os _))) ?_
 intro W base args ds gs before hval0 hW _ hcond _ hL _ _;have hval:∀(j:Nat) t v,Tryz.f10.params[j]? = some t->args[j]? = some v->Value.okWide Tryz.prog W .any base t v:=hval0;have hW':=hW;obtain⟨p,q,hA0,hV,rfl,hfz,hnd⟩:=hW;have hA:DataW.TrodAll enc Tryz.prog W 0 (λ_=>true) true Tryz.f10.params.toList args.toList ds p:=hA0;rw[Tryz.params10]at hA hval;obtain⟨v0,v1,d0,d1,p0,p1,rfl,rfl,rfl,h0,h1⟩:=trodAll_two hA;obtain⟨rfl,rfl⟩:=trodVars_none hV
 clear hA0 hval0
 simp only[List.append_nil]at hW';have hb:Rows.uptoBulkAll [d0,d1]<=1048576:=by
  have:=hcond _ rfl;rw[List.append_nil]at this;exact of_decide_eq_true this
 simp only[Rows.uptoBulkAll]at hb;obtain⟨x0,hv0,hb0⟩:=entryT (hval 0 25 v0 rfl rfl) h0;obtain⟨x1,hv1,hb1⟩:=entryK (hval 1 9 v1 rfl rfl) h1;refine(walk (inv_of_laid hL) (law x1 (bulk_T x0 (by omega)) (bulk_sok x0 (by omega)).1 (by have:=(bulk_sok x0 (by omega)).2;omega)) (Rl.cons hv0 (Rl.cons hv1 Rl.nil))).mono λe W' ⟨he,bel⟩=>?_;subst he;have hlt:∀x∈p0++p1,x.block<W.heap.size:=λx hx=>hW'.lt x (by simpa only[aA] using hx);exact⟨_,rfl,_,_,_,[],_,[],hW',trodAll_mk1 (shut_bool Tryz.underlying4 _),
  trodAll_mk2 (Below.trod laidOut (by kernel_rfl) (of_decide_eq_true (by kernel_rfl)) h0 bel (λx hx=>hlt x (by simp[hx]))) (Below.trod laidOut (by kernel_rfl) (of_decide_eq_true (by kernel_rfl)) h1 bel (λx hx=>hlt x (by simp[hx]))),rfl,bel.frame _,λh=>by cases h⟩
end Go.Proofs.YthgidapmofcloaaGreatDoor.TreeBack
