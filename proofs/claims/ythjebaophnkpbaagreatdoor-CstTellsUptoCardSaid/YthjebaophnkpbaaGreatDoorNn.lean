/- Times: the zone; a time. What a text ends with. Maps from texts to numbers, as lists of pairs. Texts of characters: First, Bad, Valid of the program; Char, One, Runes, Valid of the reference. Keys: valid, and no two the same. Trees that are right, however great. Trees that are right, however great: the program's answer. Trees: how deep and how great; whether they are right: the program's answers. Trees: how deep they are, and whether they are right: the program's answers. strings.Cut at one byte, walked. What the shelf's contracts ask of the program: its bodies are theirs. Printed by a program. A function of the library, by a contract of the shelf: pure data in, pure data out. The code is the program's,printed by a program (Gen). What the listed variables give; a world that meets the condition; the law without arguments, run by the kernel. Functions of the library by the contracts of the kit's shelf, as pure functions over the abstract store. The functions that laws about trees reach, as contracts, each by its code. Texts of characters: the reference's Runes and Valid. Trees: the reference's Shaped is the program's formed. Trees: the reference's Depth and Right; the law TreeRights, walked. Noughts cut off at both ends, in either order. Numbers: the reference's Digits and Decimal. Numbers: the reference's run; Split, from its end: the digits without noughts, the exponent. Numbers: the reference's Split: the exponent's number. Numbers: the reference's Split: the exponent's digits. Numbers: the reference's Split: its pieces. Numbers: the reference's Split is the program's. Numbers: the reference's Split is the program's: from its beginning. Numbers: the reference's Split, Join and Normal are the program's. Numbers: the reference's Join and Normal are the program's. Times: the reference's digits and dates. Times: the reference's dates are the program's. Times: the reference's times of a day are the program's. -/
import Derived.Test.YthjebaophnkpbaaGreatDoorProg
import Derived.Shelf.Strings.SlTrimAscii
import Derived.Shelf.Strconv.Atoi
import Derived.Shelf.Strconv.Itoa3
import Derived.Below
import Derived.Test.YthjebaophnkpbaaGreatDoorTie
import Derived.Test.YthjebaophnkpbaaGreatDoorCards
import Derived.ProofKit
import Derived.LaidMore
import Derived.Lib.LaidTab
import Derived.Stop.LaidErr
import Derived.OpenShut
import Derived.Carry
import Derived.Stop.Joined
import Derived.Lay
import Derived.SevenTiedAt
import Derived.Lib.SmallJoins
import Derived.Lib.AppendIntMem
import Derived.Test.YthjebaophnkpbaaGreatDoorNm
set_option linter.unusedSimpArgs false
set_option linter.unusedVariables false
namespace Go.Dn
open Go Go.Proofs.C1
set_option maxRecDepth 100000
attribute [local irreducible] afterS keepE
def zoneB (s:List UInt8):List UInt8×List UInt8 :=
 if tl 90 s=true then (s.take (s.length-1),[90])
 else if s.length<6∨(atB s (s.length-6) 43=false∧atB s (s.length-6) 45=false) then (s,[])
 else if atB (s.drop (s.length-6)) 3 58=false∨withinB (sub (s.drop (s.length-6)) 1 3) 0 23=false∨withinB ((s.drop (s.length-6)).drop 4) 0 59=false then (s,[])
 else (s.take (s.length-6),s.drop (s.length-6))
def encZ (p:List UInt8×List UInt8):AV:=.tup [.str p.1,.str p.2]
theorem sta_Z (p:List UInt8×List UInt8):Sta (encZ p):=⟨trivial,trivial,trivial⟩
def cutC (c:UInt8):List UInt8→List UInt8×List UInt8×Bool
 | []=>([],[],false)
 | b::r=>if b == c then ([],r,true) else (b::(cutC c r).1,(cutC c r).2.1,(cutC c r).2.2)
def timeB (s:List UInt8):Bool :=
 dateB s || (clockB s || ((cutC 84 (zoneB s).1).2.2 && (dateB (cutC 84 (zoneB s).1).1 && clockB (cutC 84 (zoneB s).1).2.1)))
theorem cutC_le (c:UInt8):∀s:List UInt8,(cutC c s).1.length≤s.length∧(cutC c s).2.1.length≤s.length
 | []=>⟨Nat.le_refl _,Nat.le_refl _⟩
 | b::r=>by
  have:=cutC_le c r
  simp only [cutC]
  split
  ·exact⟨Nat.zero_le _,by simp⟩
  ·simp only [lC];omega
theorem zoneB_le (s:List UInt8):(zoneB s).1.length≤s.length:=by
 unfold zoneB
 split
 ·simp only [lT];omega
 ·split
  ·exact Nat.le_refl _
  ·split
   ·exact Nat.le_refl _
   ·simp only [lT];omega
theorem tl_len {c:UInt8} {s:List UInt8} (h:tl c s=true):1≤s.length:=by
 have:=hd_len h;rwa [List.length_reverse] at this
section
variable {gt:GT} {C:CallT}
set_option maxHeartbeats 4000000 in
theorem zone_wp (hm:MonoC C) (hsuf:∀(s:List UInt8) c,s.length<9223372036854775807→PF C 106 [.str s,.str [c]] (.bool (tl c s))) (hw:∀s lo hi,PF C 103 [.str s,.int .i64 lo,.int .i64 hi] (.bool (withinB s lo hi)))
  {s:List UInt8} (hl:s.length<9223372036854775807):wpF gt C F88 [.str s] St.init (Ret (encZ (zoneB s))):=by
 have ret:∀{z:List UInt8×List UInt8} {S:St},zoneB s=z→Ret (encZ (zoneB s)) (.ret (encZ z)) S:=fun h=>by rw [h];exact Ret.sta (sta_Z _)
 have hf:zoneB s=if tl 90 s=true then (s.take (s.length-1),[90])
  else if s.length<6∨(atB s (s.length-6) 43=false∧atB s (s.length-6) 45=false) then (s,[])
  else if atB (s.drop (s.length-6)) 3 58=false∨withinB (sub (s.drop (s.length-6)) 1 3) 0 23=false∨withinB ((s.drop (s.length-6)).drop 4) 0 59=false then (s,[])
  else (s.take (s.length-6),s.drop (s.length-6)):=rfl
 generalize zoneB s=res at ret hf ⊢
 refine⟨rfl,?_⟩
 refine goW ?_
 refine call_pf hm (by rfl) (hsuf s 90 hl) (goW ?_)
 cases y1:tl 90 s with
 | true =>
  have h1:=tl_len y1
  refine goW ?_
  rw [show wr .i64 ((s.length:Int)-1)=((s.length-1:Nat):Int) by rw [wr64 (by omega) (by omega)];omega]
  refine step_ruleO (sx_slHiS (h:=s.length-1) rfl rfl (by omega)) (goW ?_)
  exact⟨_,rfl,ret (z:=(s.take (s.length-1),[90])) (by rw [hf,if_pos y1])⟩
 | false =>
 rw [if_neg (by rw [y1];simp)] at hf
 refine goW ?_
 by_cases z6:s.length<6
 ·rw [dT (show ((s.length:Nat):Int)<6 by omega)]
  refine goW ?_
  exact⟨_,rfl,ret (z:=(s,[])) (by rw [hf,if_pos (.inl z6)])⟩
 rw [dF (show ¬((s.length:Nat):Int)<6 by omega)]
 obtain⟨b6,hb6⟩:∃b,s[s.length-6]? = some b:=⟨_,gE (by omega)⟩
 have hwr:wr .i64 ((s.length:Int)-6)=((s.length-6:Nat):Int):=by rw [wr64 (by omega) (by omega)];omega
 refine goW ?_
 rw [hwr]
 refine st_any (by exact rfl) (sx_ixS (k:=s.length-6) rfl rfl hb6) (goW ?_)
 rw [show ((43:Int))=((43:UInt8).toNat:Int) from rfl,u8_neI,←atB_get (c:=43) hb6]
 have tail:¬(s.length<6∨(atB s (s.length-6) 43=false∧atB s (s.length-6) 45=false))→True:=fun _=>trivial
 clear tail
 have fin:¬(s.length<6∨(atB s (s.length-6) 43=false∧atB s (s.length-6) 45=false))→∀x:Env,wpD gt C F88.body.rt.rt.rt ((0,.val (.str s))::x) St.init (bodyQ gt F88.res (Ret (encZ res))):=fun hno x=>by
  rw [if_neg hno] at hf
  conv=>whnf
  refine goW ?_
  rw [hwr]
  refine step_ruleO (sx_slLo (l:=s.length-6) rfl rfl (by omega)) (goW ?_)
  have hz:(s.drop (s.length-6)).length=6:=by rw [lD];omega
  generalize hzz:s.drop (s.length-6)=z at hf hz ⊢
  obtain⟨b3,hb3⟩:∃b,z[3]? = some b:=⟨_,gE (by omega)⟩
  refine step_ruleO (sx_ixS (k:=3) rfl rfl hb3) (goW ?_)
  rw [show ((58:Int))=((58:UInt8).toNat:Int) from rfl,u8_neI,←atB_get (c:=58) hb3]
  cases w1:atB z 3 58 with
  | false =>
   refine goW ?_
   exact⟨_,rfl,ret (z:=(s,[])) (by rw [hf,if_pos (.inl w1)])⟩
  | true =>
  refine goW ?_
  refine st_any (by exact rfl) (sx_slLH (l:=1) (h:=3) rfl rfl rfl (by omega) (by omega)) (goW ?_)
  rw [show (z.drop 1).take (3-1)=sub z 1 3 from rfl]
  refine call_pf hm (by rfl) (hw (sub z 1 3) 0 23) (goW ?_)
  cases w2:withinB (sub z 1 3) 0 23 with
  | false =>
   refine goW ?_
   exact⟨_,rfl,ret (z:=(s,[])) (by rw [hf,if_pos (.inr (.inl w2))])⟩
  | true =>
  refine goW ?_
  refine st_any (by exact rfl) (sx_slLo (l:=4) rfl rfl (by omega)) (goW ?_)
  refine call_pf hm (by rfl) (hw (z.drop 4) 0 59) (goW ?_)
  cases w3:withinB (z.drop 4) 0 59 with
  | false =>
   refine goW ?_
   exact⟨_,rfl,ret (z:=(s,[])) (by rw [hf,if_pos (.inr (.inr w3))])⟩
  | true =>
  refine goW ?_
  rw [hwr]
  refine step_ruleO (sx_slHiS (h:=s.length-6) rfl rfl (by omega)) (goW ?_)
  exact⟨_,rfl,ret (z:=(s.take (s.length-6),z)) (by rw [hf,if_neg (by rintro (h | h | h);rw [w1] at h;cases h;rw [w2] at h;cases h;rw [w3] at h;cases h)])⟩
 cases y2:atB s (s.length-6) 43 with
 | true =>
  refine goK ?_
  with_unfolding_all exact fin (by rintro (h | ⟨h,_⟩);exact z6 h;rw [y2] at h;cases h) _
 | false =>
 refine goW ?_
 rw [hwr]
 refine st_any (by exact rfl) (sx_ixS (k:=s.length-6) rfl rfl hb6) (goW ?_)
 rw [show ((45:Int))=((45:UInt8).toNat:Int) from rfl,u8_neI,←atB_get (c:=45) hb6]
 cases y3:atB s (s.length-6) 45 with
 | true =>
  refine goK ?_
  with_unfolding_all exact fin (by rintro (h | ⟨_,h⟩);exact z6 h;rw [y3] at h;cases h) _
 | false =>
  refine goW ?_
  exact⟨_,rfl,ret (z:=(s,[])) (by rw [hf,if_pos (.inr ⟨y2,y3⟩)])⟩
set_option maxHeartbeats 4000000 in
theorem time_wp (hm:MonoC C) (hd':∀s,PF C 86 [.str s] (.bool (dateB s))) (hc:∀s:List UInt8,s.length<9223372036854775807→PF C 87 [.str s] (.bool (clockB s)))
  (hz:∀s:List UInt8,s.length<9223372036854775807→PF C 88 [.str s] (encZ (zoneB s))) (hcut:∀s:List UInt8,s.length<4294967281→PF C 89 [.str s,.str [84]] (.tup [.str (cutC 84 s).1,.str (cutC 84 s).2.1,.bool (cutC 84 s).2.2]))
  {s:List UInt8} (hl:s.length<4294967281):wpF gt C F67 [.str s] St.init (Ret (.bool (timeB s))):=by
 have hzl:=zoneB_le s
 have hcut:=hcut (zoneB s).1 (by omega)
 have hcl:=cutC_le 84 (zoneB s).1
 unfold timeB
 refine⟨rfl,?_⟩
 refine goW ?_
 refine call_pf hm (by rfl) (hd' s) (goW ?_)
 cases y1:dateB s with
 | true =>
  refine goW ?_
  exact⟨_,rfl,Ret.sta trivial⟩
 | false =>
 refine goW ?_
 refine call_pf hm (by rfl) (hc s (by omega)) (goW ?_)
 cases y2:clockB s with
 | true =>
  refine goW ?_
  exact⟨_,rfl,Ret.sta trivial⟩
 | false =>
 refine goW ?_
 refine call_pf hm (by rfl) (hz s (by omega)) (goW ?_)
 refine call_pf hm (by rfl) hcut ?_
 generalize cutC 84 (zoneB s).1=q at hcl ⊢
 obtain⟨d,c,k⟩:=q
 refine goW ?_
 cases k with
 | false =>
  refine goW ?_
  exact⟨_,rfl,Ret.sta trivial⟩
 | true =>
 refine goW ?_
 refine call_pf hm (by rfl) (hd' d) (goW ?_)
 cases y3:dateB d with
 | false =>
  refine goW ?_
  exact⟨_,rfl,by simp only [y3];exact Ret.sta trivial⟩
 | true =>
 refine goW ?_
 refine call_pf hm (by rfl) (hc c (by simp only at hcl;omega)) (goW ?_)
 exact⟨_,rfl,by simp only [y3];exact Ret.sta trivial⟩
end

section
variable {gt:GT} {C:CallT}
set_option maxHeartbeats 2000000 in
theorem hasSuf0_wp {s:List UInt8} {c:UInt8} (hl:s.length<9223372036854775807):wpF gt C F131 [.str s,.str [c]] St.init (Ret (.bool (tl c s))):=by
 refine⟨rfl,?_⟩
 refine goW ?_
 by_cases z:1≤s.length
 case neg =>
  have:s=[]:=List.length_eq_zero_iff.1 (by omega)
  subst this
  rw [dF (show ¬((([]:List UInt8).length:Nat):Int) ≥ (([c]:List UInt8).length:Nat) by simp)]
  refine goW ?_
  exact⟨_,rfl,Ret.sta trivial⟩
 rw [dT (show ((s.length:Nat):Int) ≥ (([c]:List UInt8).length:Nat) by simp only [lC,List.length_nil];omega)]
 refine goW ?_
 rw [show wr .i64 ((s.length:Int)-(([c]:List UInt8).length:Nat))=((s.length-1:Nat):Int) by simp only [lC,List.length_nil];rw [wr64 (by omega) (by omega)];omega]
 refine st_any (by exact rfl) (sx_slLo (l:=s.length-1) rfl rfl (by omega)) (goW ?_)
 obtain⟨lb,hlb⟩:∃lb,s[s.length-1]? = some lb:=⟨_,gE (by omega)⟩
 have hd1:s.drop (s.length-1)=[lb]:=by
  rw [dC (show s.length-1<s.length by omega),List.drop_eq_nil_of_le (by omega)]
  rw [gE (show s.length-1<s.length by omega)] at hlb
  simp only [oI] at hlb
  rw [hlb]
 refine⟨_,rfl,?_⟩
 rw [hd1,beqB_one,tl_last hlb (by omega)]
 exact Ret.sta trivial
theorem hasSuf_wp (hm:MonoC C) (h:∀(s:List UInt8) c,s.length<9223372036854775807→PF C 131 [.str s,.str [c]] (.bool (tl c s))) {s:List UInt8} {c:UInt8} (hl:s.length<9223372036854775807):wpF gt C F106 [.str s,.str [c]] St.init (Ret (.bool (tl c s))):=by
 refine⟨rfl,?_⟩
 refine goW ?_
 refine call_pf hm (by rfl) (h s c hl) (goW ?_)
 exact⟨_,rfl,Ret.sta trivial⟩
end

def mpE (l:List (List UInt8×Int)):List (AV×AV):=l.map fun p=>(.str p.1,.int .i64 p.2)
def posS (k:List UInt8):List (List UInt8×Int)→Nat→Option (Nat×Int)
 | [],_=>none
 | (k',v)::r,i=>if k=k' then some (i,v) else posS k r (i+1)
theorem fk (k:List UInt8):∀(l:List (List UInt8×Int)) (i:Nat),findK .str (.str k) (mpE l) i=some ((posS k l i).map fun p=>(p.1,AV.int .i64 p.2))
 | [],_=>rfl
 | (k',v)::r,i=>by
  have ih:=fk k r (i+1)
  simp only [mpE,List.map_cons,findK,eqv,eqStr,posS] at ih ⊢
  by_cases h:k=k'
  ·rw [beqB_true h,if_pos h];rfl
  ·rw [beqB_false h,if_neg h];exact ih
theorem posS_lt {k:List UInt8}:∀{l:List (List UInt8×Int)} {i j:Nat} {v:Int},posS k l i=some (j,v)→i≤j∧j<i+l.length∧l[j-i]? = some (k,v)
 | (k',v')::r,i,j,v,h=>by
  simp only [posS] at h
  split at h
  ·rename_i e
   simp only [oI,Prod.mk.injEq] at h
   obtain⟨rfl,rfl⟩:=h
   subst e
   exact⟨Nat.le_refl _,by simp,by simp⟩
  ·obtain⟨h1,h2,h3⟩:=posS_lt h
   refine⟨by omega,by simp only [lC];omega,?_⟩
   rw [show j-i=(j-(i+1))+1 by omega,List.getElem?_cons_succ]
   exact h3
theorem posS_none {k:List UInt8}:∀{l:List (List UInt8×Int)} {i:Nat},posS k l i=none↔k ∉ l.map Prod.fst
 | [],i=>by simp [posS]
 | (k',v')::r,i=>by
  simp only [posS,List.map_cons,List.mem_cons,not_or]
  split
  ·rename_i e;simp [e]
  ·rename_i e;rw [posS_none];simp [e]
theorem posS_app {k:List UInt8} {v:Int}:∀{l:List (List UInt8×Int)} {i:Nat},posS k l i=none→posS k (l++[(k,v)]) i=some (i+l.length,v)
 | [],i,_=>by simp [posS]
 | (k',v')::r,i,h=>by
  simp only [posS,List.cons_append,lC] at h ⊢
  split at h
  ·cases h
  ·rename_i e;rw [if_neg e,posS_app h];congr 2;omega
theorem posS_set {k:List UInt8} {v w:Int}:∀{l:List (List UInt8×Int)} {i j:Nat},posS k l i=some (j,v)→posS k (l.set (j-i) (k,w)) i=some (j,w)
 | (k',v')::r,i,j,h=>by
  have hlt:=posS_lt h
  simp only [posS] at h
  split at h
  ·rename_i e
   simp only [oI,Prod.mk.injEq] at h
   obtain⟨rfl,rfl⟩:=h
   simp [posS]
  ·rename_i e
   have h3:=posS_lt h
   rw [show j-i=(j-(i+1))+1 by omega,List.set_cons_succ]
   simp only [posS]
   rw [if_neg e]
   exact posS_set h

theorem wrU8 (x:UInt8):wr .i64 (x.toNat:Int)=x.toNat:=by
 have:=u8_lt x
 exact wr64 (by omega) (by omega)
theorem wrap8 {n:Nat} (h:n<256):IntKind.wrap .u8 (n:Int)=n:=by
 refine inR_wrap ?_
 simp only [inR]
 exact Nat.ble_eq_true_of_le (by omega)
theorem wrap64 {n:Nat} (h:n<9223372036854775808):IntKind.wrap .i64 (n:Int)=n:=by
 refine inR_wrap ?_
 simp only [inR]
 exact Nat.ble_eq_true_of_le (by omega)
theorem step63 {acc:Nat} (x:UInt8) (h1:128≤x.toNat) (h2:x.toNat<192) (ha:acc<1125899906842624) :
  IntKind.wrap .i64 ((BitVec.ofInt (IntKind.bits .i64) (wr .i64 ((acc:Int)*2 ^ (min (Int.toNat 6) (IntKind.bits .i64)))) ||| BitVec.ofInt (IntKind.bits .i64) (wr .i64 (IntKind.wrap .u8 ((BitVec.ofInt (IntKind.bits .u8) (x.toNat:Int) &&& BitVec.ofInt (IntKind.bits .u8) 63).toNat:Int)))).toNat:Int)=((acc*64+(x.toNat-128):Nat):Int):=by
 have e1:wr .i64 ((acc:Int)*2 ^ (min (Int.toNat 6) (IntKind.bits .i64)))=((acc*64:Nat):Int):=by
  rw [show min (Int.toNat 6) (IntKind.bits .i64)=6 by decide,show ((2:Int) ^ 6)=64 by decide,wr64 (by omega) (by omega)]
  omega
 have e2:wr .i64 (IntKind.wrap .u8 ((BitVec.ofInt (IntKind.bits .u8) (x.toNat:Int) &&& BitVec.ofInt (IntKind.bits .u8) 63).toNat:Int))=((x.toNat-128:Nat):Int):=by
  have:=and63 x h1 h2
  rw [show IntKind.bits .u8=8 from rfl,this,wrap8 (by omega),wr64 (by omega) (by omega)]
 rw [e1,e2,show IntKind.bits .i64=64 from rfl,or_add (by omega) (by omega),wrap64 (by omega)]
section
variable {gt:GT} {C:CallT}
abbrev E_first (s:List UInt8) (acc n least i:Int):Env:=[(0,.val (.str s)),(2,.val (.int .i64 acc)),(3,.val (.int .i64 n)),(4,.val (.int .i64 least)),(5,.val (.int .i64 i))]
set_option maxHeartbeats 4000000 in
theorem first_wp (hm:MonoC C) (hrow:∀b:UInt8,PF C 111 [.int .u8 b.toNat] (encLead (leadB b.toNat))) (hch:∀c:Int,PF C 112 [.int .i64 c] (.bool (charB c)))
  {s:List UInt8} (hl:s.length<4611686018427387904):wpF gt C F92 [.str s] St.init (Ret (encFirst (firstC s))):=by
 have zero:∀{S:St},firstC s=(0,0)→Ret (encFirst (firstC s)) (.ret (.tup [.int .i64 0,.int .i64 0])) S:=fun h=>by rw [h];exact Ret.sta ⟨trivial,trivial,trivial⟩
 cases s with
 | nil =>
  refine⟨rfl,?_⟩
  refine goW ?_
  exact⟨_,rfl,zero rfl⟩
 | cons b r =>
 have hrow:=hrow b
 have hlb:=leadB_le b.toNat (u8_lt b)
 have hf:firstC (b::r)=if (leadB b.toNat).1=0∨r.length+1<(leadB b.toNat).1 then (0,0) else match contV ((leadB b.toNat).1-1) r (leadB b.toNat).2.1 with
   | none=>(0,0)
   | some c=>if c<(leadB b.toNat).2.2∨charB c=false then (0,0) else (c,(leadB b.toNat).1):=rfl
 generalize leadB b.toNat=p at hrow hlb hf
 obtain⟨n,bits,least⟩:=p
 simp only at hlb hf
 simp only [lC] at hl
 refine⟨rfl,?_⟩
 refine goW ?_
 refine call_pf hm (by rfl) hrow (goW ?_)
 by_cases z:(n:Int)=0
 ·rw [eqI_true z]
  refine goW ?_
  exact⟨_,rfl,zero (by rw [hf,if_pos (.inl (by omega))])⟩
 rw [eqI_false z]
 refine goW ?_
 by_cases z2:(n:Int) > ((b::r).length:Int)
 ·rw [dT z2]
  refine goW ?_
  exact⟨_,rfl,zero (by rw [hf,if_pos (.inr (by simp only [lC] at z2;omega))])⟩
 rw [dF z2]
 refine goW ?_
 simp only [lC] at z2
 rw [if_neg (by omega)] at hf
 refine loop_rule hm (α:=Nat×Nat) (fun a env S'=>1≤a.1∧a.1≤n∧a.2<128*64 ^ (a.1-1)∧env=E_first (b::r) a.2 n least a.1∧S'=St.init∧contV (n-1) r bits=contV (n-a.1) (r.drop (a.1-1)) a.2) (fun a=>n-a.1) ?_ (a:=(1,bits)) ⟨Nat.le_refl _,by simp only;omega,by simpa using hlb.2,rfl,rfl,rfl⟩
 rintro⟨i,acc⟩ env S' ⟨h1,hi,hacc,rfl,rfl,hp⟩
 simp only at h1 hi hacc hp
 refine goW ?_
 have hpow:64 ^ (i-1)≤64 ^ 3:=Nat.pow_le_pow_right (by decide) (by omega)
 have hsmall:acc<33554432:=by
  have:128*64 ^ (i-1)≤128*64 ^ 3:=Nat.mul_le_mul_left _ hpow
  have e:128*64 ^ 3=33554432:=by decide
  omega
 by_cases hc:(i:Int)<n
 ·rw [dT hc]
  refine goW ?_
  have hik:i-1<r.length:=by omega
  have hgb:(b::r)[i]? = some r[i-1]:=by
   obtain⟨j,rfl⟩:∃j,i=j+1:=⟨i-1,by omega⟩
   rw [List.getElem?_cons_succ];exact gE hik
  rw [show n-i=(n-(i+1))+1 by omega,contV_step hik] at hp
  refine step_ruleO (sx_ixS rfl rfl hgb) (goW ?_)
  have hs6:=shr6 r[i-1]
  rw [show min (Int.toNat 6) (IntKind.bits .u8)=6 by decide,hs6]
  by_cases hx:128≤r[i-1].toNat∧r[i-1].toNat<192
  ·rw [dT hx]
   refine goW ?_
   refine step_ruleO (sx_ixS rfl rfl hgb) (goW ?_)
   rw [step63 r[i-1] hx.1 hx.2 (by omega)]
   rw [if_pos hx] at hp
   refine⟨(i+1,acc*64+(r[i-1].toNat-128)),⟨by simp only;omega,by simp only;omega,?_,?_,rfl,?_⟩,by simp only;omega⟩
   ·simp only
    rw [show i+1-1=(i-1)+1 by omega,Nat.pow_succ]
    omega
   ·rw [wrNat (by omega)]
   ·simp only
    rw [hp,show i+1-1=i-1+1 by omega]
  ·rw [dF hx]
   refine goW ?_
   rw [if_neg hx] at hp
   exact⟨_,rfl,zero (by rw [hf,hp])⟩
 rw [dF hc]
 obtain rfl:i=n:=by omega
 rw [Nat.sub_self,show contV 0 (r.drop (i-1)) acc=some acc from rfl] at hp
 simp only [hp] at hf
 refine goW ?_
 by_cases hle:(acc:Int)<least
 ·rw [dT hle]
  refine goW ?_
  exact⟨_,rfl,zero (by rw [hf,if_pos (.inl (by omega))])⟩
 rw [dF hle]
 refine goW ?_
 refine call_pf hm (by rfl) (hch acc) (goW ?_)
 cases hcb:charB acc with
 | false =>
  refine goW ?_
  exact⟨_,rfl,zero (by rw [hf,if_pos (.inr hcb)])⟩
 | true =>
  refine goW ?_
  refine⟨_,rfl,?_⟩
  rw [hf,if_neg (by rw [hcb];simp;omega)]
  exact Ret.sta ⟨trivial,trivial,trivial⟩
theorem firstC_le:∀s:List UInt8,(firstC s).2≤s.length
 | []=>Nat.le_refl _
 | b::r=>by
  simp only [firstC]
  split
  ·exact Nat.zero_le _
  ·split
   ·exact Nat.zero_le _
   ·split
    ·exact Nat.zero_le _
    ·simp only [lC];omega
def badI (s:List UInt8) (at_:Nat):Int :=
 if h:s=[] then -1 else if h0:(firstC s).2=0 then at_ else badI (s.drop (firstC s).2) (at_+(firstC s).2)
termination_by s.length
decreasing_by
 have:0<s.length:=List.length_pos_iff.2 h
 simp only [lD];omega
theorem badI_nil (a:Nat):badI [] a=-1:=by rw [badI];simp
theorem badI_bad {s:List UInt8} {a:Nat} (h:s≠[]) (h0:(firstC s).2=0):badI s a=a:=by rw [badI,dif_neg h,dif_pos h0]
theorem badI_go {s:List UInt8} {a:Nat} (h:s≠[]) (h0:(firstC s).2≠0):badI s a=badI (s.drop (firstC s).2) (a+(firstC s).2):=by rw [badI,dif_neg h,dif_neg h0]
def validB (s:List UInt8):Bool:=decide (badI s 0<0)
abbrev E_bad (s:List UInt8) (i:Int):Env:=[(0,.val (.str s)),(3,.val (.int .i64 i))]
set_option maxHeartbeats 2000000 in
theorem bad_wp (hm:MonoC C) (hfst:∀s:List UInt8,s.length<4611686018427387904→PF C 92 [.str s] (encFirst (firstC s))) {s:List UInt8} (hl:s.length<4611686018427387904) :
  wpF gt C F80 [.str s] St.init (Ret (.int .i64 (badI s 0))):=by
 refine⟨rfl,?_⟩
 refine goW ?_
 refine loop_rule hm (α:=Nat) (fun i env S'=>i≤s.length∧env=E_bad s i∧S'=St.init∧badI s 0=badI (s.drop i) i) (fun i=>s.length-i) ?_ (a:=0) ⟨Nat.zero_le _,rfl,rfl,rfl⟩
 rintro i env S' ⟨hi,rfl,rfl,hp⟩
 refine goW ?_
 by_cases hc:(i:Int)<s.length
 ·rw [dT hc]
  refine goW ?_
  have hik:i<s.length:=by omega
  have hne:s.drop i≠[]:=fun h=>by have:=congrArg List.length h;simp at this;omega
  have hle:=firstC_le (s.drop i)
  rw [lD] at hle
  have hcall:=hfst (s.drop i) (by rw [lD];omega)
  unfold encFirst at hcall
  refine step_ruleO (sx_slLo (l:=i) rfl rfl hi) (goW ?_)
  refine call_pf hm (by rfl) hcall (goW ?_)
  by_cases z:((firstC (s.drop i)).2:Int)=0
  ·rw [eqI_true z]
   refine goW ?_
   refine⟨_,rfl,?_⟩
   rw [hp,badI_bad hne (by omega)]
   exact Ret.sta trivial
  ·rw [eqI_false z]
   refine goW ?_
   refine⟨i+(firstC (s.drop i)).2,⟨by omega,?_,rfl,?_⟩,by omega⟩
   ·rw [wr64 (by omega) (by omega)];rfl
   ·rw [hp,badI_go hne (by omega),List.drop_drop]
 ·rw [dF hc]
  refine goW ?_
  refine⟨_,rfl,?_⟩
  rw [hp,List.drop_eq_nil_of_le (by omega),badI_nil]
  exact Ret.sta trivial
theorem validP_wp (hm:MonoC C) (hbad:∀s:List UInt8,s.length<4611686018427387904→PF C 80 [.str s] (.int .i64 (badI s 0))) {s:List UInt8} (hl:s.length<4611686018427387904) :
  wpF gt C F63 [.str s] St.init (Ret (.bool (validB s))):=by
 refine⟨rfl,?_⟩
 refine goW ?_
 refine call_pf hm (by rfl) (hbad s hl) (goW ?_)
 exact⟨_,rfl,Ret.sta trivial⟩
theorem charR_wp {c:Int}:wpF gt C F118 [.int .i64 c] St.init (Ret (.bool (charB c))):=by
 refine⟨rfl,?_⟩
 refine goW ?_
 by_cases h0:c ≥ 0
 ·rw [dT h0]
  refine goW ?_
  by_cases h1:c≤1114111
  ·rw [dT h1]
   refine goW ?_
   by_cases h2:c<55296
   ·rw [dT h2]
    refine goW ?_
    exact⟨_,rfl,by rw [show charB c=true by simp [charB];omega];exact Ret.sta trivial⟩
   ·rw [dF h2]
    refine goW ?_
    exact⟨_,rfl,by rw [show charB c=decide (c > 57343) by simp only [charB];congr 1;simp;omega];exact Ret.sta trivial⟩
  ·rw [dF h1]
   refine goW ?_
   exact⟨_,rfl,by rw [show charB c=false by simp [charB];omega];exact Ret.sta trivial⟩
 ·rw [dF h0]
  refine goW ?_
  exact⟨_,rfl,by rw [show charB c=false by simp [charB];omega];exact Ret.sta trivial⟩
abbrev E_one (s:List UInt8) (at_:Nat) (size low c i:Int):Env:=[(0,.val (.str s)),(1,.val (.int .i64 at_)),(7,.val (.int .i64 size)),(8,.val (.int .i64 low)),(9,.val (.int .i64 c)),(10,.val (.int .i64 i))]
set_option maxHeartbeats 8000000 in
theorem one_wp (hm:MonoC C) (hch:∀c:Int,PF C 118 [.int .i64 c] (.bool (charB c))) {s:List UInt8} {k:Nat} (hk:k<s.length) (hl:s.length<4611686018427387904) :
  wpF gt C F95 [.str s,.int .i64 k] St.init (Ret (encFirst (firstC (s.drop k)))):=by
 have zero:∀{S:St},firstC (s.drop k)=(0,0)→Ret (encFirst (firstC (s.drop k))) (.ret (.tup [.int .i64 0,.int .i64 0])) S:=fun h=>by rw [h];exact Ret.sta ⟨trivial,trivial,trivial⟩
 have hs:s.drop k=s[k]::s.drop (k+1):=dC hk
 have hgk:s[k]? = some s[k]:=gE hk
 have hrl:(s.drop (k+1)).length=s.length-(k+1):=lD
 have hf:firstC (s.drop k)=if (leadB s[k].toNat).1=0∨(s.drop (k+1)).length+1<(leadB s[k].toNat).1 then (0,0) else match contV ((leadB s[k].toNat).1-1) (s.drop (k+1)) (leadB s[k].toNat).2.1 with
   | none=>(0,0)
   | some c=>if c<(leadB s[k].toNat).2.2∨charB c=false then (0,0) else (c,(leadB s[k].toNat).1):=by rw [hs];rfl
 have hb:=u8_lt s[k]
 have hgr:∀i,1≤i→k+i<s.length→∃(h:i-1<(s.drop (k+1)).length),s[k+i]? = some (s.drop (k+1))[i-1]:=fun i h1 h2=>by
  refine⟨by rw [hrl];omega,?_⟩
  rw [←gE,List.getElem?_drop,show k+1+(i-1)=k+i by omega]
 refine⟨rfl,?_⟩
 refine goW ?_
 refine step_ruleO (sx_ixS rfl rfl hgk) (goW ?_)
 rw [wrU8]
 generalize s[k]=b at hf hb ⊢
 generalize s.drop (k+1)=r at hf hrl hgr ⊢
 by_cases h0:(b.toNat:Int)<128
 ·rw [dT h0]
  refine goW ?_
  refine⟨_,rfl,?_⟩
  have hlb:leadB b.toNat=(1,b.toNat,0):=by unfold leadB;rw [if_pos (by omega)]
  rw [hlb] at hf
  simp only [Nat.reduceEqDiff,false_or] at hf
  rw [if_neg (by omega)] at hf
  rw [show contV (1-1) r b.toNat=some b.toNat from rfl] at hf
  simp only at hf
  rw [if_neg (by simp [charB];omega)] at hf
  rw [hf]
  exact Ret.sta ⟨trivial,trivial,trivial⟩
 rw [dF h0]
 refine goW ?_
 by_cases h1:(b.toNat:Int) ≥ 192
 case neg =>
  rw [dF h1]
  refine goW ?_
  have hz:leadB b.toNat=(0,0,0):=by unfold leadB;rw [if_neg (by omega),if_pos (by omega)]
  rw [show decide ((b.toNat:Int) ≥ 224)=false from dF (by omega)]
  refine goW ?_
  rw [show decide ((b.toNat:Int) ≥ 240)=false from dF (by omega)]
  refine goW ?_
  exact⟨_,rfl,zero (by rw [hf,if_pos (.inl (by rw [hz]))])⟩
 rw [dT h1]
 refine goW ?_
 by_cases h2:(b.toNat:Int)<224
 ·rw [dT h2]
  refine goW ?_
  have hlb:leadB b.toNat=(2,b.toNat-192,128):=by unfold leadB;simp only [show ¬b.toNat<128 by omega,show ¬b.toNat<192 by omega,if_false,show b.toNat<224 by omega,if_true]
  rw [hlb] at hf
  simp only [Nat.reduceEqDiff,false_or] at hf
  rw [show wr .i64 ((b.toNat:Int)-192)=((b.toNat-192:Nat):Int) by rw [wr64 (by omega) (by omega)];omega]
  generalize hbits:b.toNat-192=bits at hf ⊢
  refine goW ?_
  by_cases z2:wr .i64 ((k:Int)+2) > (s.length:Int)
  ·rw [dT z2]
   refine goW ?_
   rw [wr64 (by omega) (by omega)] at z2
   exact⟨_,rfl,zero (by rw [hf,if_pos (by omega)])⟩
  rw [dF z2]
  rw [wr64 (by omega) (by omega)] at z2
  rw [if_neg (by omega)] at hf
  refine goW ?_
  have hlow:True:=trivial
  refine loop_rule hm (α:=Nat×Nat) (fun a env S'=>1≤a.1∧a.1≤2∧a.2<128*64 ^ (a.1-1)∧env=E_one s k 2 128 a.2 a.1∧S'=St.init∧contV (2-1) r bits=contV (2-a.1) (r.drop (a.1-1)) a.2) (fun a=>2-a.1) ?_ (a:=(1,bits)) ⟨Nat.le_refl _,by simp only;omega,by simp only [Nat.sub_self,Nat.pow_zero];omega,rfl,rfl,rfl⟩
  rintro⟨i,acc⟩ env S' ⟨h1,hi,hacc,rfl,rfl,hp⟩
  simp only at h1 hi hacc hp
  refine goW ?_
  have hpow:64 ^ (i-1)≤64 ^ 3:=Nat.pow_le_pow_right (by decide) (by omega)
  have hsmall:acc<33554432:=by
   have:128*64 ^ (i-1)≤128*64 ^ 3:=Nat.mul_le_mul_left _ hpow
   have e:128*64 ^ 3=33554432:=by decide
   omega
  by_cases hc:(i:Int)<2
  ·rw [dT hc]
   refine goW ?_
   obtain⟨hik,hgb⟩:=hgr i h1 (by omega)
   rw [show 2-i=(2-(i+1))+1 by omega,contV_step hik] at hp
   rw [show wr .i64 ((k:Int)+i)=((k+i:Nat):Int) by rw [wr64 (by omega) (by omega)];rfl]
   refine step_ruleO (sx_ixS (k:=k+i) rfl rfl hgb) (goW ?_)
   rw [wrU8]
   generalize r[i-1]=x at hp hgb ⊢
   have hx:=u8_lt x
   by_cases hx1:(x.toNat:Int)<128
   ·rw [dT hx1]
    refine goW ?_
    rw [if_neg (by omega)] at hp
    exact⟨_,rfl,zero (by rw [hf,hp])⟩
   rw [dF hx1]
   refine goW ?_
   by_cases hx2:(x.toNat:Int) ≥ 192
   ·rw [dT hx2]
    refine goW ?_
    rw [if_neg (by omega)] at hp
    exact⟨_,rfl,zero (by rw [hf,hp])⟩
   rw [dF hx2]
   refine goW ?_
   rw [if_pos ⟨by omega,by omega⟩] at hp
   refine⟨(i+1,acc*64+(x.toNat-128)),⟨by simp only;omega,by simp only;omega,?_,?_,rfl,?_⟩,by simp only;omega⟩
   ·simp only
    rw [show i+1-1=(i-1)+1 by omega,Nat.pow_succ]
    omega
   ·rw [wrNat (by omega),wr64 (n:=(acc:Int)*64) (by omega) (by omega),wr64 (n:=(acc:Int)*64+x.toNat) (by omega) (by omega),wr64 (n:=(acc:Int)*64+x.toNat-128) (by omega) (by omega),show (acc:Int)*64+x.toNat-128=((acc*64+(x.toNat-128):Nat):Int) by omega]
   ·simp only
    rw [hp,show i+1-1=i-1+1 by omega]
  rw [dF hc]
  obtain rfl:i=2:=by omega
  rw [Nat.sub_self,show contV 0 (r.drop (2-1)) acc=some acc from rfl] at hp
  simp only [hp] at hf
  refine goW ?_
  by_cases hle:(acc:Int)<128
  ·rw [dT hle]
   refine goW ?_
   exact⟨_,rfl,zero (by rw [hf,if_pos (.inl (by omega))])⟩
  rw [dF hle]
  refine goW ?_
  refine call_pf hm (by rfl) (hch acc) (goW ?_)
  cases hcb:charB acc with
  | false =>
   refine goW ?_
   exact⟨_,rfl,zero (by rw [hf,if_pos (.inr hcb)])⟩
  | true =>
   refine goW ?_
   refine⟨_,rfl,?_⟩
   rw [hf,if_neg (by rw [hcb];simp;omega)]
   exact Ret.sta ⟨trivial,trivial,trivial⟩
 rw [dF h2]
 refine goW ?_
 rw [show decide ((b.toNat:Int) ≥ 224)=true from dT (by omega)]
 refine goW ?_
 by_cases h3:(b.toNat:Int)<240
 ·rw [dT h3]
  refine goW ?_
  have hlb:leadB b.toNat=(3,b.toNat-224,2048):=by unfold leadB;simp only [show ¬b.toNat<128 by omega,show ¬b.toNat<192 by omega,if_false,show ¬b.toNat<224 by omega,show b.toNat<240 by omega,if_true]
  rw [hlb] at hf
  simp only [Nat.reduceEqDiff,false_or] at hf
  rw [show wr .i64 ((b.toNat:Int)-224)=((b.toNat-224:Nat):Int) by rw [wr64 (by omega) (by omega)];omega]
  generalize hbits:b.toNat-224=bits at hf ⊢
  refine goW ?_
  by_cases z2:wr .i64 ((k:Int)+3) > (s.length:Int)
  ·rw [dT z2]
   refine goW ?_
   rw [wr64 (by omega) (by omega)] at z2
   exact⟨_,rfl,zero (by rw [hf,if_pos (by omega)])⟩
  rw [dF z2]
  rw [wr64 (by omega) (by omega)] at z2
  rw [if_neg (by omega)] at hf
  refine goW ?_
  have hlow:True:=trivial
  refine loop_rule hm (α:=Nat×Nat) (fun a env S'=>1≤a.1∧a.1≤3∧a.2<128*64 ^ (a.1-1)∧env=E_one s k 3 2048 a.2 a.1∧S'=St.init∧contV (3-1) r bits=contV (3-a.1) (r.drop (a.1-1)) a.2) (fun a=>3-a.1) ?_ (a:=(1,bits)) ⟨Nat.le_refl _,by simp only;omega,by simp only [Nat.sub_self,Nat.pow_zero];omega,rfl,rfl,rfl⟩
  rintro⟨i,acc⟩ env S' ⟨h1,hi,hacc,rfl,rfl,hp⟩
  simp only at h1 hi hacc hp
  refine goW ?_
  have hpow:64 ^ (i-1)≤64 ^ 3:=Nat.pow_le_pow_right (by decide) (by omega)
  have hsmall:acc<33554432:=by
   have:128*64 ^ (i-1)≤128*64 ^ 3:=Nat.mul_le_mul_left _ hpow
   have e:128*64 ^ 3=33554432:=by decide
   omega
  by_cases hc:(i:Int)<3
  ·rw [dT hc]
   refine goW ?_
   obtain⟨hik,hgb⟩:=hgr i h1 (by omega)
   rw [show 3-i=(3-(i+1))+1 by omega,contV_step hik] at hp
   rw [show wr .i64 ((k:Int)+i)=((k+i:Nat):Int) by rw [wr64 (by omega) (by omega)];rfl]
   refine step_ruleO (sx_ixS (k:=k+i) rfl rfl hgb) (goW ?_)
   rw [wrU8]
   generalize r[i-1]=x at hp hgb ⊢
   have hx:=u8_lt x
   by_cases hx1:(x.toNat:Int)<128
   ·rw [dT hx1]
    refine goW ?_
    rw [if_neg (by omega)] at hp
    exact⟨_,rfl,zero (by rw [hf,hp])⟩
   rw [dF hx1]
   refine goW ?_
   by_cases hx2:(x.toNat:Int) ≥ 192
   ·rw [dT hx2]
    refine goW ?_
    rw [if_neg (by omega)] at hp
    exact⟨_,rfl,zero (by rw [hf,hp])⟩
   rw [dF hx2]
   refine goW ?_
   rw [if_pos ⟨by omega,by omega⟩] at hp
   refine⟨(i+1,acc*64+(x.toNat-128)),⟨by simp only;omega,by simp only;omega,?_,?_,rfl,?_⟩,by simp only;omega⟩
   ·simp only
    rw [show i+1-1=(i-1)+1 by omega,Nat.pow_succ]
    omega
   ·rw [wrNat (by omega),wr64 (n:=(acc:Int)*64) (by omega) (by omega),wr64 (n:=(acc:Int)*64+x.toNat) (by omega) (by omega),wr64 (n:=(acc:Int)*64+x.toNat-128) (by omega) (by omega),show (acc:Int)*64+x.toNat-128=((acc*64+(x.toNat-128):Nat):Int) by omega]
   ·simp only
    rw [hp,show i+1-1=i-1+1 by omega]
  rw [dF hc]
  obtain rfl:i=3:=by omega
  rw [Nat.sub_self,show contV 0 (r.drop (3-1)) acc=some acc from rfl] at hp
  simp only [hp] at hf
  refine goW ?_
  by_cases hle:(acc:Int)<2048
  ·rw [dT hle]
   refine goW ?_
   exact⟨_,rfl,zero (by rw [hf,if_pos (.inl (by omega))])⟩
  rw [dF hle]
  refine goW ?_
  refine call_pf hm (by rfl) (hch acc) (goW ?_)
  cases hcb:charB acc with
  | false =>
   refine goW ?_
   exact⟨_,rfl,zero (by rw [hf,if_pos (.inr hcb)])⟩
  | true =>
   refine goW ?_
   refine⟨_,rfl,?_⟩
   rw [hf,if_neg (by rw [hcb];simp;omega)]
   exact Ret.sta ⟨trivial,trivial,trivial⟩
 rw [dF h3]
 refine goW ?_
 rw [show decide ((b.toNat:Int) ≥ 240)=true from dT (by omega)]
 refine goW ?_
 by_cases h4:(b.toNat:Int)<248
 ·rw [dT h4]
  refine goW ?_
  have hlb:leadB b.toNat=(4,b.toNat-240,65536):=by unfold leadB;simp only [show ¬b.toNat<128 by omega,show ¬b.toNat<192 by omega,if_false,show ¬b.toNat<224 by omega,show ¬b.toNat<240 by omega,show b.toNat<248 by omega,if_true]
  rw [hlb] at hf
  simp only [Nat.reduceEqDiff,false_or] at hf
  rw [show wr .i64 ((b.toNat:Int)-240)=((b.toNat-240:Nat):Int) by rw [wr64 (by omega) (by omega)];omega]
  generalize hbits:b.toNat-240=bits at hf ⊢
  refine goW ?_
  by_cases z2:wr .i64 ((k:Int)+4) > (s.length:Int)
  ·rw [dT z2]
   refine goW ?_
   rw [wr64 (by omega) (by omega)] at z2
   exact⟨_,rfl,zero (by rw [hf,if_pos (by omega)])⟩
  rw [dF z2]
  rw [wr64 (by omega) (by omega)] at z2
  rw [if_neg (by omega)] at hf
  refine goW ?_
  generalize hlow:(65536:Int)=low
  refine loop_rule hm (α:=Nat×Nat) (fun a env S'=>1≤a.1∧a.1≤4∧a.2<128*64 ^ (a.1-1)∧env=E_one s k 4 low a.2 a.1∧S'=St.init∧contV (4-1) r bits=contV (4-a.1) (r.drop (a.1-1)) a.2) (fun a=>4-a.1) ?_ (a:=(1,bits)) ⟨Nat.le_refl _,by simp only;omega,by simp only [Nat.sub_self,Nat.pow_zero];omega,rfl,rfl,rfl⟩
  rintro⟨i,acc⟩ env S' ⟨h1,hi,hacc,rfl,rfl,hp⟩
  simp only at h1 hi hacc hp
  refine goW ?_
  have hpow:64 ^ (i-1)≤64 ^ 3:=Nat.pow_le_pow_right (by decide) (by omega)
  have hsmall:acc<33554432:=by
   have:128*64 ^ (i-1)≤128*64 ^ 3:=Nat.mul_le_mul_left _ hpow
   have e:128*64 ^ 3=33554432:=by decide
   omega
  by_cases hc:(i:Int)<4
  ·rw [dT hc]
   refine goW ?_
   obtain⟨hik,hgb⟩:=hgr i h1 (by omega)
   rw [show 4-i=(4-(i+1))+1 by omega,contV_step hik] at hp
   rw [show wr .i64 ((k:Int)+i)=((k+i:Nat):Int) by rw [wr64 (by omega) (by omega)];rfl]
   refine step_ruleO (sx_ixS (k:=k+i) rfl rfl hgb) (goW ?_)
   rw [wrU8]
   generalize r[i-1]=x at hp hgb ⊢
   have hx:=u8_lt x
   by_cases hx1:(x.toNat:Int)<128
   ·rw [dT hx1]
    refine goW ?_
    rw [if_neg (by omega)] at hp
    exact⟨_,rfl,zero (by rw [hf,hp])⟩
   rw [dF hx1]
   refine goW ?_
   by_cases hx2:(x.toNat:Int) ≥ 192
   ·rw [dT hx2]
    refine goW ?_
    rw [if_neg (by omega)] at hp
    exact⟨_,rfl,zero (by rw [hf,hp])⟩
   rw [dF hx2]
   refine goW ?_
   rw [if_pos ⟨by omega,by omega⟩] at hp
   refine⟨(i+1,acc*64+(x.toNat-128)),⟨by simp only;omega,by simp only;omega,?_,?_,rfl,?_⟩,by simp only;omega⟩
   ·simp only
    rw [show i+1-1=(i-1)+1 by omega,Nat.pow_succ]
    omega
   ·rw [wrNat (by omega),wr64 (n:=(acc:Int)*64) (by omega) (by omega),wr64 (n:=(acc:Int)*64+x.toNat) (by omega) (by omega),wr64 (n:=(acc:Int)*64+x.toNat-128) (by omega) (by omega),show (acc:Int)*64+x.toNat-128=((acc*64+(x.toNat-128):Nat):Int) by omega]
   ·simp only
    rw [hp,show i+1-1=i-1+1 by omega]
  rw [dF hc]
  obtain rfl:i=4:=by omega
  rw [Nat.sub_self,show contV 0 (r.drop (4-1)) acc=some acc from rfl] at hp
  simp only [hp] at hf
  refine goW ?_
  by_cases hle:(acc:Int)<low
  ·rw [dT hle]
   refine goW ?_
   exact⟨_,rfl,zero (by rw [hf,if_pos (.inl (by omega))])⟩
  rw [dF hle]
  refine goW ?_
  refine call_pf hm (by rfl) (hch acc) (goW ?_)
  cases hcb:charB acc with
  | false =>
   refine goW ?_
   exact⟨_,rfl,zero (by rw [hf,if_pos (.inr hcb)])⟩
  | true =>
   refine goW ?_
   refine⟨_,rfl,?_⟩
   rw [hf,if_neg (by rw [hcb];simp;omega)]
   exact Ret.sta ⟨trivial,trivial,trivial⟩
 rw [dF h4]
 refine goW ?_
 have hz:leadB b.toNat=(0,0,0):=by unfold leadB;simp only [show ¬b.toNat<128 by omega,show ¬b.toNat<192 by omega,show ¬b.toNat<224 by omega,show ¬b.toNat<240 by omega,show ¬b.toNat<248 by omega,if_false]
 exact⟨_,rfl,zero (by rw [hf,if_pos (.inl (by rw [hz]))])⟩
end

theorem sx_lkpS {gt:GT} {d:Option Nat} {env:Env} {S:St} {R:List Rs} {m k:DOpd} {z:AV} {id:Nat} {l:List (List UInt8×Int)} {s:List UInt8} (hR:Hs S R) (i:Nat) (hi:R[i]? = some (.mp id (mpE l))) (hm:opd env m=some (.map id)) (hk:opd env k=some (.str s)) :
  stepO gt d env S (.lkp .str z m k false)=.done (putV d (match posS s l 0 with | some p=>.int .i64 p.2 | none=>z) env) S:=by
 have hl:=(hR.ok i _ hi).2
 simp only [stepO,hm,hk,keyV,cond_true,hl,fk]
 cases posS s l 0<;>rfl
def putS (s:List UInt8) (v:Int) (l:List (List UInt8×Int)):List (List UInt8×Int) :=
 match posS s l 0 with
 | some p=>l.set p.1 (s,v)
 | none=>l++[(s,v)]
theorem r_mupS {gt:GT} {d:Option Nat} {env:Env} {S:St} {R:List Rs} {m k x:DOpd} {id:Nat} {l:List (List UInt8×Int)} {s:List UInt8} {v:Int} (hR:Hs S R) (i:Nat) (hi:R[i]? = some (.mp id (mpE l))) (hm:opd env m=some (.map id)) (hk:opd env k=some (.str s)) (hx:opd env x=some (.int .i64 v)) :
  ∃S',stepO gt d env S (.mup .str m k x)=.done (putV d .undef env) S'∧Hs S' (R.set i (.mp id (mpE (putS s v l)))):=by
 have hl:=(hR.ok i _ hi).2
 refine⟨_,?_,hR.mapTo hi (mpE (putS s v l))⟩
 simp only [stepO,hm,hk,hx,keyV,cond_true,hl,fk,putS]
 cases hp:posS s l 0 with
 | none=>simp only [Option.map_none];simp [mpE]
 | some p =>
  obtain⟨j,w⟩:=p
  obtain⟨_,h2,h3⟩:=posS_lt hp
  rw [Nat.sub_zero] at h3
  have:keyAt .str (mpE l) j=true:=by simp [keyAt,mpE,h3,keyV]
  simp only [Option.map_some,this,cond_true]
  simp [mpE,List.map_set]
def unlikeB:List (List UInt8)→List (List UInt8)→Bool
 | _,[]=>true
 | seen,s::r=>if s∈seen then false else validB s && unlikeB (seen++[s]) r
theorem hs_mkm0:Hs { St.init with nm:=St.init.nm+1,maps:=(St.init.nm,[])::St.init.maps } [.mp St.init.nm []]:=by
 obtain⟨id,S',e,h⟩:=hs_mkm (gt:=[]) (d:=none) (env:=[]) Hs.init
 simp only [stepO,SR.done.injEq] at e
 obtain⟨_,rfl⟩:=e
 have h2:=(h.ok 0 _ rfl).2
 have h1:=(h.ok 0 _ rfl).1
 have:id=0:=by simp [St.init] at h1;omega
 subst this
 exact h
def ones (l:List (List UInt8)):List (List UInt8×Int):=l.map fun s=>(s,1)
theorem posS_ones {s:List UInt8} {l:List (List UInt8)} (h:s∈l):∃j,posS s (ones l) 0=some (j,1):=by
 cases hp:posS s (ones l) 0 with
 | none =>
  have:=posS_none.1 hp
  simp [ones] at this
  exact absurd h this
 | some p =>
  obtain⟨j,v⟩:=p
  obtain⟨_,_,h3⟩:=posS_lt hp
  simp only [ones,List.getElem?_map,Option.map_eq_some_iff,Prod.mk.injEq] at h3
  obtain⟨_,_,_,rfl⟩:=h3
  exact⟨j,rfl⟩
theorem posS_no {s:List UInt8} {l:List (List UInt8)} (h:s ∉ l):posS s (ones l) 0=none:=posS_none.2 (by simp [ones];exact h)
section
variable {gt:GT} {C:CallT}
abbrev E_unl (id:Nat) (keys:List (List UInt8)) (i:Int):Env:=[(3,.val (.map id)),(7,.val (.sl 1 stat (strs keys))),(8,.val (.int .i64 (strs keys).length)),(9,.val (.int .i64 i))]
set_option maxHeartbeats 4000000 in
theorem unlike_wp (hm:MonoC C) (hv:∀s:List UInt8,s.length<4611686018427387904→PF C 63 [.str s] (.bool (validB s))) {keys:List (List UInt8)} (hk:∀s∈keys,s.length<4611686018427387904) (hl:keys.length<9223372036854775807) :
  wpF gt C F68 [.sl 1 stat (strs keys)] St.init (Ret (.bool (unlikeB [] keys))):=by
 have hlen:=strs_length keys
 refine⟨rfl,?_⟩
 refine goW ?_
 have hR:=hs_mkm0
 refine loop_rule hm (α:=Nat) (fun i env S'=>i≤keys.length∧Hs S' [.mp 0 (mpE (ones (keys.take i)))]∧env=E_unl 0 keys i∧unlikeB [] keys=unlikeB (keys.take i) (keys.drop i)) (fun i=>keys.length-i) ?_ (a:=0) ⟨Nat.zero_le _,hR,rfl,rfl⟩
 rintro i env S' ⟨hi,hR,rfl,hp⟩
 refine goW ?_
 by_cases hc:(i:Int)<(strs keys).length
 ·rw [dT hc]
  refine goW ?_
  have hik:i<keys.length:=by omega
  refine step_ruleO (sx_ia (k:=i) rfl rfl (by omega)) (goW ?_)
  have hge:(strs keys)[i]? = some (.str keys[i]):=by simp [strs,hik]
  refine step_ruleO (sx_ldEl (agg:=false) rfl rfl hge rfl) (goW ?_)
  have hkl:=hk keys[i] (List.getElem_mem hik)
  have htk:keys.take (i+1)=keys.take i++[keys[i]]:=tS hik
  rw [dC hik] at hp
  simp only [unlikeB] at hp
  generalize keys[i]=s at hp hkl htk ⊢
  refine step_ruleO (sx_lkpS hR 0 rfl rfl rfl) ?_
  by_cases hs:s∈keys.take i
  ·obtain⟨j,hj⟩:=posS_ones hs
   rw [if_pos hs] at hp
   rw [hj]
   refine goW ?_
   rw [show wr .i64 ((1:Int)+1)=2 from rfl]
   refine st_runP (r_mupS hR 0 rfl rfl rfl rfl) trivial ?_
   intro S2 hR
   refine goW ?_
   refine step_ruleO (sx_lkpS hR 0 rfl rfl rfl) ?_
   rw [show posS s (putS s 2 (ones (keys.take i))) 0=some (j,2) by unfold putS;rw [hj];exact posS_set hj]
   refine goW ?_
   exact⟨_,rfl,by rw [hp];exact Ret.sta trivial⟩
  ·have hj:=posS_no hs
   rw [if_neg hs] at hp
   rw [hj]
   refine goW ?_
   rw [show wr .i64 ((0:Int)+1)=1 from rfl]
   refine st_runP (r_mupS hR 0 rfl rfl rfl rfl) trivial ?_
   intro S2 hR
   refine goW ?_
   refine step_ruleO (sx_lkpS hR 0 rfl rfl rfl) ?_
   have hput:putS s 1 (ones (keys.take i))=ones (keys.take (i+1)):=by unfold putS;rw [hj,htk];simp [ones]
   rw [show posS s (putS s 1 (ones (keys.take i))) 0=some (0+(ones (keys.take i)).length,1) by unfold putS;rw [hj];exact posS_app hj]
   rw [hput] at hR
   refine goW ?_
   refine call_pf hm (by rfl) (hv s hkl) (goW ?_)
   cases hvb:validB s with
   | false =>
    refine goW ?_
    exact⟨_,rfl,by rw [hp,hvb];exact Ret.sta trivial⟩
   | true =>
    refine goW ?_
    rw [hvb,Bool.true_and] at hp
    refine⟨i+1,⟨by omega,hR,?_,by rw [hp,htk]⟩,by omega⟩
    rw [wrNat (by omega)]
 ·rw [dF hc]
  refine goW ?_
  refine⟨_,rfl,?_⟩
  rw [hp,List.drop_eq_nil_of_le (by omega)]
  exact Ret.sta trivial
end

def shapeB (k:Int) (s:List UInt8) (keys:List (List UInt8)) (n:Nat):Bool :=
 if k=1 then (decide (keys.length=0) && decide (n=0)) && beqB s []
 else if k=2 then (decide (keys.length=0) && decide (n=0)) && (beqB s [116,114,117,101] || beqB s [102,97,108,115,101])
 else if k=3 then (decide (keys.length=0) && decide (n=0)) && (decide ((normB s).2=0) && beqB (normB s).1 s)
 else if k=4 then (decide (keys.length=0) && decide (n=0)) && validB s
 else if k=5 then (decide (keys.length=0) && decide (n=0)) && timeB s
 else if k=6 then beqB s [] && decide (keys.length=0)
 else if k=7 then beqB s [] && (decide (keys.length=n) && unlikeB [] keys)
 else false
mutual
def formedB:PT→Bool
 |.mk k s keys kids=>formedBs kids && shapeB k s keys kids.length
def formedBs:List PT→Bool
 | []=>true
 | t::r=>formedB t && formedBs r
end
mutual
def PT.sok:PT→Prop
 |.mk _ s keys kids=>s.length<4294967281∧(∀q∈keys,q.length<4294967281)∧keys.length<4611686018427387904∧kids.length<4611686018427387904∧PT.soks kids
def PT.soks:List PT→Prop
 | []=>True
 | t::r=>PT.sok t∧PT.soks r
end

theorem PT.soks_get:∀{l:List PT} {i:Nat} (h:i<l.length),PT.soks l→(l[i]).sok
 | a::r,0,_,h=>by simp only [PT.soks] at h;exact h.1
 | a::r,i+1,hi,h=>by simp only [PT.soks] at h;exact PT.soks_get (l:=r) (i:=i) (by simpa using hi) h.2
section
variable {gt:GT} {C:CallT}
abbrev E_formed (t:PT) (kids:List PT) (i:Int):Env:=[(1,.box (encT t).cells),(9,.val (.sl 4 stat (encTs kids))),(10,.val (.int .i64 (encTs kids).length)),(11,.val (.int .i64 i))]
set_option maxHeartbeats 16000000 in
theorem formed_wp (hm:MonoC C) (hn:∀s:List UInt8,s.length<4294967281→PF C 66 [.str s] (encJoin (normB s))) (hv:∀s:List UInt8,s.length<4294967281→PF C 63 [.str s] (.bool (validB s)))
  (ht:∀s:List UInt8,s.length<4294967281→PF C 67 [.str s] (.bool (timeB s))) (hu:∀keys:List (List UInt8),(∀s∈keys,s.length<4294967281)→keys.length<9223372036854775807→PF C 68 [.sl 1 stat (strs keys)] (.bool (unlikeB [] keys)))
  {t:PT} (ih:∀u,u.n<t.n→u.sok→PF C 54 [encT u] (.bool (formedB u))) (hk:t.sok):wpF gt C F54 [encT t] St.init (Ret (.bool (formedB t))):=by
 obtain⟨k,s,keys,kids⟩:=t
 simp only [PT.sok] at hk
 obtain⟨q1,q2,q3,q5,q4⟩:=hk
 have ret:∀{z:Bool} {S:St},formedB (.mk k s keys kids)=z→Ret (.bool (formedB (.mk k s keys kids))) (.ret (.bool z)) S:=fun h=>by rw [h];exact Ret.sta trivial
 have hf:formedB (.mk k s keys kids)=(formedBs kids && shapeB k s keys kids.length):=rfl
 generalize formedB (.mk k s keys kids)=res at ret hf ⊢
 have l1:=encTs_len kids
 have l2:=strs_length keys
 refine⟨rfl,?_⟩
 refine goW ?_
 refine loop_rule hm (α:=Nat) (fun i env S'=>i≤kids.length∧env=E_formed (.mk k s keys kids) kids i∧S'=St.init∧formedBs kids=formedBs (kids.drop i)) (fun i=>kids.length-i) ?_ (a:=0) ⟨Nat.zero_le _,rfl,rfl,rfl⟩
 rintro i env S' ⟨hi,rfl,rfl,hp⟩
 refine goW ?_
 by_cases hc:(i:Int)<(encTs kids).length
 ·rw [dT hc]
  refine goW ?_
  have hik:i<kids.length:=by omega
  refine step_ruleO (sx_ia (k:=i) rfl rfl (by omega)) (goW ?_)
  refine step_ruleO (sx_ldEl (agg:=true) rfl rfl (encTs_get hik) (rdT _)) ?_
  have ihk:=ih _ (kid_lt hik) (PT.soks_get hik q4)
  obtain⟨ka,sa,xa,ya,he⟩:=encT_agg kids[i]
  rw [he] at ihk ⊢
  rw [dC hik] at hp
  simp only [formedBs] at hp
  generalize formedB kids[i]=fk at ihk hp
  refine goW ?_
  refine call_pf hm (by rfl) ihk (goW ?_)
  cases fk with
  | false =>
   refine goW ?_
   exact⟨_,rfl,ret (by rw [hf,hp];rfl)⟩
  | true =>
   refine goW ?_
   refine⟨i+1,⟨by omega,?_,rfl,by rw [hp,Bool.true_and]⟩,by omega⟩
   rw [wrNat (by omega)]
 rw [dF hc]
 rw [hp,List.drop_eq_nil_of_le (by omega)] at hf
 simp only [formedBs,Bool.true_and] at hf
 clear hp
 refine goW ?_
 have fin:∀bare:Bool,bare=(decide (keys.length=0) && decide (kids.length=0))→∀x:Env,wpD gt C F54.body.rt.rt.rt ((1,.box (encT (.mk k s keys kids)).cells)::(5,.val (.bool bare))::x) St.init (bodyQ gt F54.res (Ret (.bool res))):=fun bare hb x=>by
  unfold shapeB at hf
  rw [←hb] at hf
  conv=>whnf
  refine goW ?_
  by_cases k1:k=1
  ·rw [eqI_true k1]
   rw [if_pos k1] at hf
   refine goW ?_
   cases bare with
   | false =>
    refine goW ?_
    exact⟨_,rfl,ret hf⟩
   | true =>
    refine goW ?_
    exact⟨_,rfl,ret hf⟩
  rw [eqI_false k1]
  rw [if_neg k1] at hf
  refine goW ?_
  by_cases k2:k=2
  ·rw [eqI_true k2]
   rw [if_pos k2] at hf
   refine goW ?_
   cases bare with
   | false =>
    refine goW ?_
    exact⟨_,rfl,ret hf⟩
   | true =>
    refine goW ?_
    cases hb1:beqB s [116,114,117,101] with
    | true =>
     rw [hb1] at hf
     refine goW ?_
     exact⟨_,rfl,ret hf⟩
    | false =>
     rw [hb1] at hf
     refine goW ?_
     exact⟨_,rfl,ret hf⟩
  rw [eqI_false k2]
  rw [if_neg k2] at hf
  refine goW ?_
  by_cases k3:k=3
  ·rw [eqI_true k3]
   rw [if_pos k3] at hf
   refine goW ?_
   have hns:=hn s q1
   generalize normB s=nb at hns hf
   obtain⟨ns,ne⟩:=nb
   simp only at hf
   refine call_pf hm (by rfl) hns (goW ?_)
   cases bare with
   | false =>
    refine goW ?_
    exact⟨_,rfl,ret hf⟩
   | true =>
    refine goW ?_
    by_cases he:ne=0
    ·rw [eqI_true he]
     rw [dT he] at hf
     refine goW ?_
     exact⟨_,rfl,ret hf⟩
    ·rw [eqI_false he]
     rw [dF he] at hf
     refine goW ?_
     exact⟨_,rfl,ret hf⟩
  rw [eqI_false k3]
  rw [if_neg k3] at hf
  refine goW ?_
  by_cases k4:k=4
  ·rw [eqI_true k4]
   rw [if_pos k4] at hf
   refine goW ?_
   cases bare with
   | false =>
    refine goW ?_
    exact⟨_,rfl,ret hf⟩
   | true =>
    refine goW ?_
    refine call_pf hm (by rfl) (hv s q1) (goW ?_)
    exact⟨_,rfl,ret hf⟩
  rw [eqI_false k4]
  rw [if_neg k4] at hf
  refine goW ?_
  by_cases k5:k=5
  ·rw [eqI_true k5]
   rw [if_pos k5] at hf
   refine goW ?_
   cases bare with
   | false =>
    refine goW ?_
    exact⟨_,rfl,ret hf⟩
   | true =>
    refine goW ?_
    refine call_pf hm (by rfl) (ht s q1) (goW ?_)
    exact⟨_,rfl,ret hf⟩
  rw [eqI_false k5]
  rw [if_neg k5] at hf
  refine goW ?_
  by_cases k6:k=6
  ·rw [eqI_true k6]
   rw [if_pos k6] at hf
   refine goW ?_
   cases hs:beqB s [] with
   | false =>
    rw [hs] at hf
    refine goW ?_
    exact⟨_,rfl,ret hf⟩
   | true =>
    rw [hs] at hf
    refine goW ?_
    refine⟨_,rfl,ret ?_⟩
    rw [hf,Bool.true_and,l2,Bool.eq_iff_iff]
    simp
  rw [eqI_false k6]
  rw [if_neg k6] at hf
  refine goW ?_
  by_cases k7:k=7
  ·rw [eqI_true k7]
   rw [if_pos k7] at hf
   refine goW ?_
   cases hs:beqB s [] with
   | false =>
    rw [hs] at hf
    refine goW ?_
    exact⟨_,rfl,ret hf⟩
   | true =>
    rw [hs] at hf
    refine goW ?_
    by_cases hkk:keys.length=kids.length
    ·rw [eqI_true (show (((strs keys).length:Nat):Int)=(encTs kids).length by omega)]
     rw [dT hkk] at hf
     refine goW ?_
     refine call_pf hm (by rfl) (hu keys q2 (by omega)) (goW ?_)
     exact⟨_,rfl,ret hf⟩
    ·rw [eqI_false (show ¬(((strs keys).length:Nat):Int)=(encTs kids).length by omega)]
     rw [dF hkk] at hf
     refine goW ?_
     exact⟨_,rfl,ret hf⟩
  rw [eqI_false k7]
  rw [if_neg k7] at hf
  refine goW ?_
  exact⟨_,rfl,ret hf⟩
 by_cases b1:keys.length=0
 ·rw [eqI_true (show (((strs keys).length:Nat):Int)=0 by omega)]
  refine goK ?_
  with_unfolding_all exact fin (((encTs kids).length:Int) == 0) (by rw [dT b1,Bool.true_and,l1,Bool.eq_iff_iff];simp) _
 ·rw [eqI_false (show ¬(((strs keys).length:Nat):Int)=0 by omega)]
  refine goK ?_
  with_unfolding_all exact fin false (by rw [dF b1];rfl) _
end

mutual
def PT.dp:PT→Nat
 |.mk _ _ _ kids=>PT.dps kids+1
def PT.dps:List PT→Nat
 | []=>0
 | t::r=>max (PT.dp t) (PT.dps r)
end
mutual
theorem PT.dp_le:∀t:PT,t.dp≤t.n
 |.mk _ _ _ kids=>by have:=PT.dps_le kids;simp only [PT.dp,PT.n];omega
theorem PT.dps_le:∀l:List PT,PT.dps l≤PT.ns l
 | []=>Nat.le_refl _
 | t::r=>by have:=PT.dp_le t;have:=PT.dps_le r;simp only [PT.dps,PT.ns];omega
end
theorem PT.dps_app:∀a b:List PT,PT.dps (a++b)=max (PT.dps a) (PT.dps b)
 | [],b=>by simp [PT.dps]
 | t::r,b=>by simp only [List.cons_append,PT.dps,PT.dps_app r b];omega
theorem PT.ns_app:∀a b:List PT,PT.ns (a++b)=PT.ns a+PT.ns b
 | [],b=>by simp [PT.ns]
 | t::r,b=>by simp only [List.cons_append,PT.ns,PT.ns_app r b];omega
theorem PT.len_ns:∀l:List PT,l.length≤PT.ns l
 | []=>Nat.le_refl _
 | t::r=>by
  have:=PT.len_ns r
  have:1≤t.n:=by cases t;simp only [PT.n];omega
  simp only [PT.ns,lC];omega
section
variable {gt:GT} {C:CallT}
abbrev E_dp (n:Int) (kids:List PT) (i:Int):Env:=[(3,.val (.int .i64 n)),(7,.val (.sl 4 stat (encTs kids))),(8,.val (.int .i64 (encTs kids).length)),(9,.val (.int .i64 i))]
set_option maxHeartbeats 4000000 in
theorem size_wp (hm:MonoC C) {t:PT} (ih:∀u,u.n<t.n→PF C 53 [encT u] (.int .i64 u.n)) (hl:t.n<4611686018427387904):wpF gt C F53 [encT t] St.init (Ret (.int .i64 t.n)):=by
 obtain⟨k,s,keys,kids⟩:=t
 have l1:=encTs_len kids
 have l3:=PT.len_ns kids
 have hn:(PT.mk k s keys kids).n=PT.ns kids+1:=rfl
 refine⟨rfl,?_⟩
 refine goW ?_
 refine loop_rule hm (α:=Nat) (fun i env S'=>i≤kids.length∧env=E_dp ((PT.ns (kids.take i)+1:Nat):Int) kids i∧S'=St.init) (fun i=>kids.length-i) ?_ (a:=0) ⟨Nat.zero_le _,rfl,rfl⟩
 rintro i env S' ⟨hi,rfl,rfl⟩
 refine goW ?_
 by_cases hc:(i:Int)<(encTs kids).length
 ·rw [dT hc]
  refine goW ?_
  have hik:i<kids.length:=by omega
  refine step_ruleO (sx_ia (k:=i) rfl rfl (by omega)) (goW ?_)
  refine step_ruleO (sx_ldEl (agg:=true) rfl rfl (encTs_get hik) (rdT _)) ?_
  have ihk:=ih _ (kid_lt hik)
  have hkn:=kid_lt (k:=k) (s:=s) (keys:=keys) hik
  have hts:PT.ns (kids.take (i+1))=PT.ns (kids.take i)+kids[i].n:=by rw [tS hik,PT.ns_app];simp [PT.ns]
  have hle:PT.ns (kids.take (i+1))≤PT.ns kids:=by
   conv=>rhs;rw [←tkD (i+1) kids,PT.ns_app]
   omega
  obtain⟨ka,sa,xa,ya,he⟩:=encT_agg kids[i]
  rw [he] at ihk ⊢
  refine goW ?_
  refine call_pf hm (by rfl) ihk (goW ?_)
  refine⟨i+1,⟨by omega,?_,rfl⟩,by omega⟩
  rw [wrNat (by omega),wr64 (by omega) (by omega),hts,show ((PT.ns (kids.take i)+1:Nat):Int)+(kids[i].n:Int)=((PT.ns (kids.take i)+kids[i].n+1:Nat):Int) by omega]
  try rfl
 ·rw [dF hc]
  refine goW ?_
  refine⟨_,rfl,?_⟩
  rw [List.take_of_length_le (by omega),hn]
  exact Ret.sta trivial
end

def rightB (t:PT):Int:=if 64<t.dp then 4 else if 4096<t.n then 3 else if formedB t=true then 0 else 1
theorem bmax (a b:Nat):(bif decide ((b:Int) > (a:Int)) then (b:Int) else (a:Int))=((max a b:Nat):Int):=by
 by_cases h:(b:Int) > a
 ·rw [dT h,cond_true];omega
 ·rw [dF h,cond_false];omega
section
variable {gt:GT} {C:CallT}
set_option maxHeartbeats 4000000 in
theorem depth_wp (hm:MonoC C) {t:PT} (ih:∀u,u.n<t.n→PF C 52 [encT u] (.int .i64 u.dp)) (hl:t.n<4611686018427387904):wpF gt C F52 [encT t] St.init (Ret (.int .i64 t.dp)):=by
 have hdl:=PT.dp_le t
 obtain⟨k,s,keys,kids⟩:=t
 have l1:=encTs_len kids
 have l3:=PT.len_ns kids
 have hn:(PT.mk k s keys kids).n=PT.ns kids+1:=rfl
 have hd:(PT.mk k s keys kids).dp=PT.dps kids+1:=rfl
 refine⟨rfl,?_⟩
 refine goW ?_
 refine loop_rule hm (α:=Nat) (fun i env S'=>i≤kids.length∧env=E_dp ((PT.dps (kids.take i):Nat):Int) kids i∧S'=St.init) (fun i=>kids.length-i) ?_ (a:=0) ⟨Nat.zero_le _,rfl,rfl⟩
 rintro i env S' ⟨hi,rfl,rfl⟩
 refine goW ?_
 by_cases hc:(i:Int)<(encTs kids).length
 ·rw [dT hc]
  refine goW ?_
  have hik:i<kids.length:=by omega
  refine step_ruleO (sx_ia (k:=i) rfl rfl (by omega)) (goW ?_)
  refine step_ruleO (sx_ldEl (agg:=true) rfl rfl (encTs_get hik) (rdT _)) ?_
  have ihk:=ih _ (kid_lt hik)
  have hts:PT.dps (kids.take (i+1))=max (PT.dps (kids.take i)) kids[i].dp:=by rw [tS hik,PT.dps_app];simp [PT.dps]
  obtain⟨ka,sa,xa,ya,he⟩:=encT_agg kids[i]
  rw [he] at ihk ⊢
  refine goW ?_
  refine call_pf hm (by rfl) ihk (goW ?_)
  refine⟨i+1,⟨by omega,?_,rfl⟩,by omega⟩
  rw [wrNat (by omega),bmax,hts]
  try rfl
 ·rw [dF hc]
  refine goW ?_
  refine⟨_,rfl,?_⟩
  rw [List.take_of_length_le (by omega),hd,wrNat (by omega)]
  exact Ret.sta trivial
set_option maxHeartbeats 4000000 in
theorem right_wp (hm:MonoC C) (hd:∀t:PT,t.n<4611686018427387904→PF C 52 [encT t] (.int .i64 t.dp)) (hs:∀t:PT,t.n<4611686018427387904→PF C 53 [encT t] (.int .i64 t.n))
  (hf:∀t:PT,t.sok→PF C 54 [encT t] (.bool (formedB t))) {t:PT} (hl:t.n<4611686018427387904) (hk:t.sok):wpF gt C F28 [encT t] St.init (Ret (.int .i64 (rightB t))):=by
 have hd:=hd t hl
 have hs:=hs t hl
 have hf:=hf t hk
 have hr:rightB t=if 64<t.dp then 4 else if 4096<t.n then 3 else if formedB t=true then 0 else 1:=rfl
 generalize rightB t=res at hr ⊢
 generalize t.dp=dp at hd hr
 generalize hh:t.n=n at hs hr
 generalize formedB t=fb at hf hr
 obtain⟨k,s,keys,kids⟩:=t
 refine⟨rfl,?_⟩
 refine goW ?_
 refine call_pf hm (by rfl) hd (goW ?_)
 by_cases z1:(dp:Int) > 64
 ·rw [dT z1]
  refine goW ?_
  rw [hr,if_pos (by omega)]
  exact⟨_,rfl,Ret.sta trivial⟩
 rw [dF z1]
 rw [if_neg (by omega)] at hr
 refine goW ?_
 refine call_pf hm (by rfl) hs (goW ?_)
 by_cases z2:(n:Int) > 4096
 ·rw [dT z2]
  refine goW ?_
  rw [hr,if_pos (by omega)]
  exact⟨_,rfl,Ret.sta trivial⟩
 rw [dF z2]
 rw [if_neg (by omega)] at hr
 refine goW ?_
 refine call_pf hm (by rfl) hf ?_
 cases fb with
 | false =>
  refine goW ?_
  rw [hr]
  exact⟨_,rfl,Ret.sta trivial⟩
 | true =>
  refine goW ?_
  rw [hr]
  exact⟨_,rfl,Ret.sta trivial⟩
end

theorem u8_beqN (b c:UInt8):Nat.beq b.toNat c.toNat=(b == c):=by
 rw [Bool.eq_iff_iff,Nat.beq_eq,beq_iff_eq,UInt8.toNat_inj]
theorem cutC_idx (c:UInt8):∀(s:List UInt8) (i:Nat),(idxB c s i=-1∧cutC c s=(s,[],false))∨∃j:Nat,j<s.length∧idxB c s i=((i+j:Nat):Int)∧cutC c s=(s.take j,s.drop (j+1),true)
 | [],i=>.inl ⟨rfl,rfl⟩
 | b::r,i=>by
  by_cases h:(b == c)=true
  ·right
   refine⟨0,by simp,?_,?_⟩
   ·simp only [idxB,u8_beqN,h,cond_true,Nat.add_zero]
   ·simp only [cutC,h,if_true,List.take_zero,Nat.zero_add,List.drop_succ_cons,List.drop_zero]
  ·have h':(b == c)=false:=by simpa using h
   rcases cutC_idx c r (i+1) with⟨h1,h2⟩ | ⟨j,hj,h1,h2⟩
   ·left
    refine⟨by simp only [idxB,u8_beqN,h',cond_false];exact h1,?_⟩
    simp only [cutC,h',h2,Bool.false_eq_true,if_false]
   ·right
    refine⟨j+1,by simp only [lC];omega,?_,?_⟩
    ·simp only [idxB,u8_beqN,h',cond_false,h1];omega
    ·simp only [cutC,h',h2,Bool.false_eq_true,if_false,List.take_succ_cons,List.drop_succ_cons]
section
variable {gt:GT} {C:CallT}
set_option maxHeartbeats 2000000 in
theorem idxByte_wp {s:List UInt8} {c:UInt8}:wpF gt C F146 [.str s,.int .u8 c.toNat] St.init (Ret (.int .i64 (idxB c s 0))):=by
 refine⟨rfl,?_⟩
 refine goW ?_
 refine⟨_,rfl,?_⟩
 rw [Int.toNat_natCast,UInt8.ofNat_toNat]
 exact Ret.sta trivial
set_option maxHeartbeats 2000000 in
theorem idx1_wp (hm:MonoC C) (hb:∀(s:List UInt8) (c:UInt8),PF C 146 [.str s,.int .u8 c.toNat] (.int .i64 (idxB c s 0))) {s:List UInt8}:wpF gt C F132 [.str s,.str [84]] St.init (Ret (.int .i64 (idxB 84 s 0))):=by
 refine⟨rfl,?_⟩
 refine goW ?_
 by_cases h:([84]:List UInt8)=s
 ·rw [beqB_true h]
  subst h
  refine goW ?_
  exact⟨_,rfl,Ret.sta (u:=.int .i64 0) trivial⟩
 ·rw [beqB_false h]
  refine goW ?_
  refine call_pf hm (by rfl) (hb s 84) (goW ?_)
  exact⟨_,rfl,Ret.sta trivial⟩
set_option maxHeartbeats 2000000 in
theorem cutL_wp (hm:MonoC C) (hi:∀s:List UInt8,PF C 132 [.str s,.str [84]] (.int .i64 (idxB 84 s 0))) {s:List UInt8} (hl:s.length<4611686018427387904) :
  wpF gt C F107 [.str s,.str [84]] St.init (Ret (.tup [.str (cutC 84 s).1,.str (cutC 84 s).2.1,.bool (cutC 84 s).2.2])):=by
 have hi:=hi s
 have hc:=cutC_idx 84 s 0
 refine⟨rfl,?_⟩
 refine goW ?_
 refine call_pf hm (by rfl) hi ?_
 rcases hc with⟨h1,h2⟩ | ⟨j,hj,h1,h2⟩
 ·rw [h1,h2]
  refine goW ?_
  exact⟨_,rfl,Ret.sta ⟨trivial,trivial,trivial,trivial⟩⟩
 ·rw [h1,h2,Nat.zero_add]
  refine goW ?_
  rw [dT (show (j:Int) ≥ 0 by omega)]
  refine goW ?_
  refine step_ruleDO rfl rfl (sx_slHiS (h:=j) rfl rfl (by omega)) (goW ?_)
  rw [show wr .i64 ((j:Int)+(([84]:List UInt8).length:Int))=((j+1:Nat):Int) from wrNat (by omega)]
  refine step_ruleDO rfl rfl (sx_slLo (l:=j+1) rfl rfl (by omega)) (goW ?_)
  exact⟨_,rfl,Ret.sta ⟨trivial,trivial,trivial,trivial⟩⟩
set_option maxHeartbeats 2000000 in
theorem cutS_wp (hm:MonoC C) {s:List UInt8} (h:PF C 107 [.str s,.str [84]] (.tup [.str (cutC 84 s).1,.str (cutC 84 s).2.1,.bool (cutC 84 s).2.2])) :
  wpF gt C F89 [.str s,.str [84]] St.init (Ret (.tup [.str (cutC 84 s).1,.str (cutC 84 s).2.1,.bool (cutC 84 s).2.2])):=by
 generalize cutC 84 s=q at h ⊢
 obtain⟨a,b,c⟩:=q
 refine⟨rfl,?_⟩
 refine goW ?_
 refine call_pf hm (by rfl) h (goW ?_)
 exact⟨_,rfl,Ret.sta ⟨trivial,trivial,trivial,trivial⟩⟩
end
end Go.Dn

namespace Go.Proofs.YthjebaophnkpbaaGreatDoor
open Go.Shelf
def Tryz.lays161_ren:Go.Shelf.Ren:=⟨fun | 161=>98 | 231=>122 | 227=>123 | 233=>124 | 235=>125 | 228=>141 | 197=>142 | 151=>143 | 260=>157 | 152=>158 | 137=>169 | 119=>170 | 224=>148 | 225=>147 | 217=>146 | 266=>164 | n=>n,fun | 9=>9 | 4=>4 | 3=>3 | 5=>5 | 117=>142 | 116=>141 | 0=>0 | 124=>145 | 105=>149 | 21=>21 | 119=>177 | 46=>96 | 139=>180 | 138=>179 | n=>n,fun | 3=>3 | 4=>4 | n=>n⟩
theorem Tryz.lays161:Go.Proofs.Lays.n161 Tryz.prog Tryz.lays161_ren where
 mixed:=by kernel_rfl
 f119:=Tryz.func170.trans (congrArg some (by kernel_rfl))
 f137:=Tryz.func169.trans (congrArg some (by kernel_rfl))
 f151:=Tryz.func143.trans (congrArg some (by kernel_rfl))
 f152:=Tryz.func158.trans (congrArg some (by kernel_rfl))
 f161:=Tryz.func98.trans (congrArg some (by kernel_rfl))
 f197:=Tryz.func142.trans (congrArg some (by kernel_rfl))
 f217:=Tryz.func146.trans (congrArg some (by kernel_rfl))
 f224:=Tryz.func148.trans (congrArg some (by kernel_rfl))
 f225:=Tryz.func147.trans (congrArg some (by kernel_rfl))
 f227:=Tryz.func123.trans (congrArg some (by kernel_rfl))
 f228:=Tryz.func141.trans (congrArg some (by kernel_rfl))
 f231:=Tryz.func122.trans (congrArg some (by kernel_rfl))
 f233:=Tryz.func124.trans (congrArg some (by kernel_rfl))
 f235:=Tryz.func125.trans (congrArg some (by kernel_rfl))
 f260:=Tryz.func157.trans (congrArg some (by kernel_rfl))
 f266:=Tryz.func164.trans (congrArg some (by kernel_rfl))
 t0:=Tryz.underlying0
 a0:=Tryz.isAgg0
 z0:=Tryz.sizeOf0
 v0:=Tryz.zeroValue0
 t3:=Tryz.underlying3
 a3:=Tryz.isAgg3
 z3:=Tryz.sizeOf3
 v3:=Tryz.zeroValue3
 t4:=Tryz.underlying4
 a4:=Tryz.isAgg4
 z4:=Tryz.sizeOf4
 v4:=Tryz.zeroValue4
 t5:=Tryz.underlying5
 a5:=Tryz.isAgg5
 z5:=Tryz.sizeOf5
 v5:=Tryz.zeroValue5
 t9:=Tryz.underlying9
 a9:=Tryz.isAgg9
 z9:=Tryz.sizeOf9
 v9:=Tryz.zeroValue9
 t21:=Tryz.underlying21
 a21:=Tryz.isAgg21
 z21:=Tryz.sizeOf21
 v21:=Tryz.zeroValue21
 t46:=Tryz.underlying96
 a46:=Tryz.isAgg96
 z46:=Tryz.sizeOf96
 v46:=Tryz.zeroValue96
 t105:=Tryz.underlying149
 a105:=Tryz.isAgg149
 z105:=Tryz.sizeOf149
 v105:=Tryz.zeroValue149
 t116:=Tryz.underlying141
 a116:=Tryz.isAgg141
 z116:=Tryz.sizeOf141
 t117:=Tryz.underlying142
 a117:=Tryz.isAgg142
 z117:=Tryz.sizeOf142
 v117:=Tryz.zeroValue142
 t119:=Tryz.underlying177
 a119:=Tryz.isAgg177
 z119:=Tryz.sizeOf177
 t124:=Tryz.underlying145
 a124:=Tryz.isAgg145
 z124:=Tryz.sizeOf145
 v124:=Tryz.zeroValue145
 t138:=Tryz.underlying179
 a138:=Tryz.isAgg179
 z138:=Tryz.sizeOf179
 v138:=Tryz.zeroValue179
 t139:=Tryz.underlying180
 a139:=Tryz.isAgg180
 z139:=Tryz.sizeOf180
 v139:=Tryz.zeroValue180
 g3:=by kernel_rfl
 g4:=by kernel_rfl
def Tryz.lays162_ren:Go.Shelf.Ren:=⟨fun | 162=>99 | 232=>126 | 227=>123 | 234=>127 | 236=>128 | 228=>141 | 271=>144 | 151=>143 | 120=>159 | 197=>142 | 152=>158 | 260=>157 | 137=>169 | 119=>170 | 224=>148 | 225=>147 | 217=>146 | 266=>164 | n=>n,fun | 9=>9 | 4=>4 | 3=>3 | 5=>5 | 117=>142 | 116=>141 | 0=>0 | 124=>145 | 21=>21 | 105=>149 | 46=>96 | 119=>177 | 139=>180 | 138=>179 | n=>n,fun | 3=>3 | 4=>4 | n=>n⟩
theorem Tryz.lays162:Go.Proofs.Lays.n162 Tryz.prog Tryz.lays162_ren where
 mixed:=by kernel_rfl
 f119:=Tryz.func170.trans (congrArg some (by kernel_rfl))
 f120:=Tryz.func159.trans (congrArg some (by kernel_rfl))
 f137:=Tryz.func169.trans (congrArg some (by kernel_rfl))
 f151:=Tryz.func143.trans (congrArg some (by kernel_rfl))
 f152:=Tryz.func158.trans (congrArg some (by kernel_rfl))
 f162:=Tryz.func99.trans (congrArg some (by kernel_rfl))
 f197:=Tryz.func142.trans (congrArg some (by kernel_rfl))
 f217:=Tryz.func146.trans (congrArg some (by kernel_rfl))
 f224:=Tryz.func148.trans (congrArg some (by kernel_rfl))
 f225:=Tryz.func147.trans (congrArg some (by kernel_rfl))
 f227:=Tryz.func123.trans (congrArg some (by kernel_rfl))
 f228:=Tryz.func141.trans (congrArg some (by kernel_rfl))
 f232:=Tryz.func126.trans (congrArg some (by kernel_rfl))
 f234:=Tryz.func127.trans (congrArg some (by kernel_rfl))
 f236:=Tryz.func128.trans (congrArg some (by kernel_rfl))
 f260:=Tryz.func157.trans (congrArg some (by kernel_rfl))
 f266:=Tryz.func164.trans (congrArg some (by kernel_rfl))
 f271:=Tryz.func144.trans (congrArg some (by kernel_rfl))
 t0:=Tryz.underlying0
 a0:=Tryz.isAgg0
 z0:=Tryz.sizeOf0
 v0:=Tryz.zeroValue0
 t3:=Tryz.underlying3
 a3:=Tryz.isAgg3
 z3:=Tryz.sizeOf3
 v3:=Tryz.zeroValue3
 t4:=Tryz.underlying4
 a4:=Tryz.isAgg4
 z4:=Tryz.sizeOf4
 v4:=Tryz.zeroValue4
 t5:=Tryz.underlying5
 a5:=Tryz.isAgg5
 z5:=Tryz.sizeOf5
 v5:=Tryz.zeroValue5
 t9:=Tryz.underlying9
 a9:=Tryz.isAgg9
 z9:=Tryz.sizeOf9
 v9:=Tryz.zeroValue9
 t21:=Tryz.underlying21
 a21:=Tryz.isAgg21
 z21:=Tryz.sizeOf21
 v21:=Tryz.zeroValue21
 t46:=Tryz.underlying96
 a46:=Tryz.isAgg96
 z46:=Tryz.sizeOf96
 v46:=Tryz.zeroValue96
 t105:=Tryz.underlying149
 a105:=Tryz.isAgg149
 z105:=Tryz.sizeOf149
 v105:=Tryz.zeroValue149
 t116:=Tryz.underlying141
 a116:=Tryz.isAgg141
 z116:=Tryz.sizeOf141
 t117:=Tryz.underlying142
 a117:=Tryz.isAgg142
 z117:=Tryz.sizeOf142
 v117:=Tryz.zeroValue142
 t119:=Tryz.underlying177
 a119:=Tryz.isAgg177
 z119:=Tryz.sizeOf177
 t124:=Tryz.underlying145
 a124:=Tryz.isAgg145
 z124:=Tryz.sizeOf145
 v124:=Tryz.zeroValue145
 t138:=Tryz.underlying179
 a138:=Tryz.isAgg179
 z138:=Tryz.sizeOf179
 v138:=Tryz.zeroValue179
 t139:=Tryz.underlying180
 a139:=Tryz.isAgg180
 z139:=Tryz.sizeOf180
 v139:=Tryz.zeroValue180
 g3:=by kernel_rfl
 g4:=by kernel_rfl
def Tryz.lays160_ren:Go.Shelf.Ren:=⟨fun | 160=>105 | 232=>126 | 231=>122 | 227=>123 | 234=>127 | 233=>124 | 236=>128 | 235=>125 | 228=>141 | 271=>144 | 151=>143 | 197=>142 | 120=>159 | 152=>158 | 260=>157 | 137=>169 | 119=>170 | 224=>148 | 225=>147 | 217=>146 | 266=>164 | n=>n,fun | 9=>9 | 4=>4 | 3=>3 | 5=>5 | 117=>142 | 116=>141 | 0=>0 | 124=>145 | 21=>21 | 105=>149 | 46=>96 | 119=>177 | 139=>180 | 138=>179 | n=>n,fun | 3=>3 | 4=>4 | n=>n⟩
theorem Tryz.lays160:Go.Proofs.Lays.n160 Tryz.prog Tryz.lays160_ren where
 mixed:=by kernel_rfl
 f119:=Tryz.func170.trans (congrArg some (by kernel_rfl))
 f120:=Tryz.func159.trans (congrArg some (by kernel_rfl))
 f137:=Tryz.func169.trans (congrArg some (by kernel_rfl))
 f151:=Tryz.func143.trans (congrArg some (by kernel_rfl))
 f152:=Tryz.func158.trans (congrArg some (by kernel_rfl))
 f160:=Tryz.func105.trans (congrArg some (by kernel_rfl))
 f197:=Tryz.func142.trans (congrArg some (by kernel_rfl))
 f217:=Tryz.func146.trans (congrArg some (by kernel_rfl))
 f224:=Tryz.func148.trans (congrArg some (by kernel_rfl))
 f225:=Tryz.func147.trans (congrArg some (by kernel_rfl))
 f227:=Tryz.func123.trans (congrArg some (by kernel_rfl))
 f228:=Tryz.func141.trans (congrArg some (by kernel_rfl))
 f231:=Tryz.func122.trans (congrArg some (by kernel_rfl))
 f232:=Tryz.func126.trans (congrArg some (by kernel_rfl))
 f233:=Tryz.func124.trans (congrArg some (by kernel_rfl))
 f234:=Tryz.func127.trans (congrArg some (by kernel_rfl))
 f235:=Tryz.func125.trans (congrArg some (by kernel_rfl))
 f236:=Tryz.func128.trans (congrArg some (by kernel_rfl))
 f260:=Tryz.func157.trans (congrArg some (by kernel_rfl))
 f266:=Tryz.func164.trans (congrArg some (by kernel_rfl))
 f271:=Tryz.func144.trans (congrArg some (by kernel_rfl))
 t0:=Tryz.underlying0
 a0:=Tryz.isAgg0
 z0:=Tryz.sizeOf0
 v0:=Tryz.zeroValue0
 t3:=Tryz.underlying3
 a3:=Tryz.isAgg3
 z3:=Tryz.sizeOf3
 v3:=Tryz.zeroValue3
 t4:=Tryz.underlying4
 a4:=Tryz.isAgg4
 z4:=Tryz.sizeOf4
 v4:=Tryz.zeroValue4
 t5:=Tryz.underlying5
 a5:=Tryz.isAgg5
 z5:=Tryz.sizeOf5
 v5:=Tryz.zeroValue5
 t9:=Tryz.underlying9
 a9:=Tryz.isAgg9
 z9:=Tryz.sizeOf9
 v9:=Tryz.zeroValue9
 t21:=Tryz.underlying21
 a21:=Tryz.isAgg21
 z21:=Tryz.sizeOf21
 v21:=Tryz.zeroValue21
 t46:=Tryz.underlying96
 a46:=Tryz.isAgg96
 z46:=Tryz.sizeOf96
 v46:=Tryz.zeroValue96
 t105:=Tryz.underlying149
 a105:=Tryz.isAgg149
 z105:=Tryz.sizeOf149
 v105:=Tryz.zeroValue149
 t116:=Tryz.underlying141
 a116:=Tryz.isAgg141
 z116:=Tryz.sizeOf141
 t117:=Tryz.underlying142
 a117:=Tryz.isAgg142
 z117:=Tryz.sizeOf142
 v117:=Tryz.zeroValue142
 t119:=Tryz.underlying177
 a119:=Tryz.isAgg177
 z119:=Tryz.sizeOf177
 t124:=Tryz.underlying145
 a124:=Tryz.isAgg145
 z124:=Tryz.sizeOf145
 v124:=Tryz.zeroValue145
 t138:=Tryz.underlying179
 a138:=Tryz.isAgg179
 z138:=Tryz.sizeOf179
 v138:=Tryz.zeroValue179
 t139:=Tryz.underlying180
 a139:=Tryz.isAgg180
 z139:=Tryz.sizeOf180
 v139:=Tryz.zeroValue180
 g3:=by kernel_rfl
 g4:=by kernel_rfl
def Tryz.lays172_ren:Go.Shelf.Ren:=⟨fun | 172=>121 | 244=>139 | 245=>140 | 247=>152 | 279=>153 | 280=>154 | 281=>155 | 282=>156 | 287=>166 | 316=>167 | 171=>101 | 205=>168 | 321=>176 | 322=>177 | 243=>130 | 246=>145 | 283=>160 | 284=>161 | 285=>162 | 286=>163 | 129=>172 | 317=>171 | 318=>173 | 319=>174 | 320=>175 | 337=>178 | 338=>179 | n=>n,fun | 9=>9 | 3=>3 | 75=>71 | 76=>72 | 4=>4 | 5=>5 | 167=>156 | 37=>61 | 0=>0 | 85=>157 | 2=>2 | 168=>159 | 53=>155 | 175=>171 | 46=>96 | 210=>175 | 127=>86 | 145=>188 | 143=>186 | 21=>21 | 171=>163 | 173=>166 | 212=>183 | 51=>168 | 20=>20 | 213=>184 | 232=>190 | 233=>191 | 80=>68 | n=>n,fun | 15=>1 | 16=>2 | 17=>5 | 18=>6 | 19=>7 | n=>n⟩
theorem Tryz.lays172:Go.Proofs.Lays.n172 Tryz.prog Tryz.lays172_ren where
 mixed:=by kernel_rfl
 f129:=Tryz.func172.trans (congrArg some (by kernel_rfl))
 f171:=Tryz.func101.trans (congrArg some (by kernel_rfl))
 f172:=Tryz.func121.trans (congrArg some (by kernel_rfl))
 f205:=Tryz.func168.trans (congrArg some (by kernel_rfl))
 f243:=Tryz.func130.trans (congrArg some (by kernel_rfl))
 f244:=Tryz.func139.trans (congrArg some (by kernel_rfl))
 f245:=Tryz.func140.trans (congrArg some (by kernel_rfl))
 f246:=Tryz.func145.trans (congrArg some (by kernel_rfl))
 f247:=Tryz.func152.trans (congrArg some (by kernel_rfl))
 f279:=Tryz.func153.trans (congrArg some (by kernel_rfl))
 f280:=Tryz.func154.trans (congrArg some (by kernel_rfl))
 f281:=Tryz.func155.trans (congrArg some (by kernel_rfl))
 f282:=Tryz.func156.trans (congrArg some (by kernel_rfl))
 f283:=Tryz.func160.trans (congrArg some (by kernel_rfl))
 f284:=Tryz.func161.trans (congrArg some (by kernel_rfl))
 f285:=Tryz.func162.trans (congrArg some (by kernel_rfl))
 f286:=Tryz.func163.trans (congrArg some (by kernel_rfl))
 f287:=Tryz.func166.trans (congrArg some (by kernel_rfl))
 f316:=Tryz.func167.trans (congrArg some (by kernel_rfl))
 f317:=Tryz.func171.trans (congrArg some (by kernel_rfl))
 f318:=Tryz.func173.trans (congrArg some (by kernel_rfl))
 f319:=Tryz.func174.trans (congrArg some (by kernel_rfl))
 f320:=Tryz.func175.trans (congrArg some (by kernel_rfl))
 f321:=Tryz.func176.trans (congrArg some (by kernel_rfl))
 f322:=Tryz.func177.trans (congrArg some (by kernel_rfl))
 f337:=Tryz.func178.trans (congrArg some (by kernel_rfl))
 f338:=Tryz.func179.trans (congrArg some (by kernel_rfl))
 t0:=Tryz.underlying0
 a0:=Tryz.isAgg0
 z0:=Tryz.sizeOf0
 v0:=Tryz.zeroValue0
 t2:=Tryz.underlying2
 a2:=Tryz.isAgg2
 z2:=Tryz.sizeOf2
 v2:=Tryz.zeroValue2
 t3:=Tryz.underlying3
 a3:=Tryz.isAgg3
 z3:=Tryz.sizeOf3
 v3:=Tryz.zeroValue3
 t4:=Tryz.underlying4
 a4:=Tryz.isAgg4
 z4:=Tryz.sizeOf4
 v4:=Tryz.zeroValue4
 t5:=Tryz.underlying5
 a5:=Tryz.isAgg5
 z5:=Tryz.sizeOf5
 v5:=Tryz.zeroValue5
 t9:=Tryz.underlying9
 a9:=Tryz.isAgg9
 z9:=Tryz.sizeOf9
 v9:=Tryz.zeroValue9
 t20:=Tryz.underlying20
 a20:=Tryz.isAgg20
 z20:=Tryz.sizeOf20
 v20:=Tryz.zeroValue20
 t21:=Tryz.underlying21
 a21:=Tryz.isAgg21
 z21:=Tryz.sizeOf21
 v21:=Tryz.zeroValue21
 t37:=Tryz.underlying61
 a37:=Tryz.isAgg61
 z37:=Tryz.sizeOf61
 v37:=Tryz.zeroValue61
 t46:=Tryz.underlying96
 a46:=Tryz.isAgg96
 z46:=Tryz.sizeOf96
 v46:=Tryz.zeroValue96
 t51:=Tryz.underlying168
 a51:=Tryz.isAgg168
 z51:=Tryz.sizeOf168
 v51:=Tryz.zeroValue168
 t53:=Tryz.underlying155
 a53:=Tryz.isAgg155
 z53:=Tryz.sizeOf155
 v53:=Tryz.zeroValue155
 t75:=Tryz.underlying71
 a75:=Tryz.isAgg71
 z75:=Tryz.sizeOf71
 v75:=Tryz.zeroValue71
 t76:=Tryz.underlying72
 a76:=Tryz.isAgg72
 z76:=Tryz.sizeOf72
 v76:=Tryz.zeroValue72
 t85:=Tryz.underlying157
 a85:=Tryz.isAgg157
 z85:=Tryz.sizeOf157
 v85:=Tryz.zeroValue157
 t127:=Tryz.underlying86
 a127:=Tryz.isAgg86
 z127:=Tryz.sizeOf86
 v127:=Tryz.zeroValue86
 t143:=Tryz.underlying186
 a143:=Tryz.isAgg186
 z143:=Tryz.sizeOf186
 v143:=Tryz.zeroValue186
 t145:=Tryz.underlying188
 a145:=Tryz.isAgg188
 z145:=Tryz.sizeOf188
 v145:=Tryz.zeroValue188
 t167:=Tryz.underlying156
 a167:=Tryz.isAgg156
 z167:=Tryz.sizeOf156
 v167:=Tryz.zeroValue156
 t168:=Tryz.underlying159
 a168:=Tryz.isAgg159
 z168:=Tryz.sizeOf159
 v168:=Tryz.zeroValue159
 t171:=Tryz.underlying163
 a171:=Tryz.isAgg163
 z171:=Tryz.sizeOf163
 v171:=Tryz.zeroValue163
 t173:=Tryz.underlying166
 a173:=Tryz.isAgg166
 z173:=Tryz.sizeOf166
 v173:=Tryz.zeroValue166
 t175:=Tryz.underlying171
 a175:=Tryz.isAgg171
 z175:=Tryz.sizeOf171
 v175:=Tryz.zeroValue171
 t210:=Tryz.underlying175
 a210:=Tryz.isAgg175
 z210:=Tryz.sizeOf175
 v210:=Tryz.zeroValue175
 t212:=Tryz.underlying183
 a212:=Tryz.isAgg183
 z212:=Tryz.sizeOf183
 v212:=Tryz.zeroValue183
 t213:=Tryz.underlying184
 a213:=Tryz.isAgg184
 z213:=Tryz.sizeOf184
 t232:=Tryz.underlying190
 a232:=Tryz.isAgg190
 z232:=Tryz.sizeOf190
 v232:=Tryz.zeroValue190
 t233:=Tryz.underlying191
 a233:=Tryz.isAgg191
 z233:=Tryz.sizeOf191
 v233:=Tryz.zeroValue191
 g15:=by kernel_rfl
 g16:=by kernel_rfl
 g17:=by kernel_rfl
 g18:=by kernel_rfl
 g19:=by kernel_rfl
def Tryz.lays171M_ren:Go.Shelf.Ren:=⟨fun | 171=>101 | 243=>130 | 246=>145 | 283=>160 | 284=>161 | 285=>162 | 286=>163 | 129=>172 | 317=>171 | 318=>173 | 319=>174 | 320=>175 | 337=>178 | 338=>179 | n=>n,fun | 3=>3 | 9=>9 | 2=>2 | 4=>4 | 171=>163 | 0=>0 | 53=>155 | 37=>61 | 5=>5 | 173=>166 | 212=>183 | 51=>168 | 20=>20 | 213=>184 | 46=>96 | 232=>190 | 233=>191 | n=>n,fun | 17=>5 | 18=>6 | 19=>7 | n=>n⟩
theorem Tryz.lays171M:Go.Proofs.LaysM.n171 Tryz.prog Tryz.lays171M_ren where
 mixed:=by kernel_rfl
 f129:=Tryz.func172.trans (congrArg some (by kernel_rfl))
 f171:=Tryz.func101.trans (congrArg some (by kernel_rfl))
 f243:=Tryz.func130.trans (congrArg some (by kernel_rfl))
 f246:=Tryz.func145.trans (congrArg some (by kernel_rfl))
 f283:=Tryz.func160.trans (congrArg some (by kernel_rfl))
 f284:=Tryz.func161.trans (congrArg some (by kernel_rfl))
 f285:=Tryz.func162.trans (congrArg some (by kernel_rfl))
 f286:=Tryz.func163.trans (congrArg some (by kernel_rfl))
 f317:=Tryz.func171.trans (congrArg some (by kernel_rfl))
 f318:=Tryz.func173.trans (congrArg some (by kernel_rfl))
 f319:=Tryz.func174.trans (congrArg some (by kernel_rfl))
 f320:=Tryz.func175.trans (congrArg some (by kernel_rfl))
 f337:=Tryz.func178.trans (congrArg some (by kernel_rfl))
 f338:=Tryz.func179.trans (congrArg some (by kernel_rfl))
 t0:=Tryz.underlying0
 a0:=Tryz.isAgg0
 z0:=Tryz.sizeOf0
 v0:=Tryz.zeroValue0
 t2:=Tryz.underlying2
 a2:=Tryz.isAgg2
 z2:=Tryz.sizeOf2
 v2:=Tryz.zeroValue2
 t3:=Tryz.underlying3
 a3:=Tryz.isAgg3
 z3:=Tryz.sizeOf3
 v3:=Tryz.zeroValue3
 t4:=Tryz.underlying4
 a4:=Tryz.isAgg4
 z4:=Tryz.sizeOf4
 v4:=Tryz.zeroValue4
 t5:=Tryz.underlying5
 a5:=Tryz.isAgg5
 z5:=Tryz.sizeOf5
 v5:=Tryz.zeroValue5
 t9:=Tryz.underlying9
 a9:=Tryz.isAgg9
 z9:=Tryz.sizeOf9
 v9:=Tryz.zeroValue9
 t20:=Tryz.underlying20
 a20:=Tryz.isAgg20
 z20:=Tryz.sizeOf20
 v20:=Tryz.zeroValue20
 t37:=Tryz.underlying61
 a37:=Tryz.isAgg61
 z37:=Tryz.sizeOf61
 v37:=Tryz.zeroValue61
 t46:=Tryz.underlying96
 a46:=Tryz.isAgg96
 z46:=Tryz.sizeOf96
 v46:=Tryz.zeroValue96
 t51:=Tryz.underlying168
 a51:=Tryz.isAgg168
 z51:=Tryz.sizeOf168
 v51:=Tryz.zeroValue168
 t53:=Tryz.underlying155
 a53:=Tryz.isAgg155
 z53:=Tryz.sizeOf155
 v53:=Tryz.zeroValue155
 t171:=Tryz.underlying163
 a171:=Tryz.isAgg163
 z171:=Tryz.sizeOf163
 v171:=Tryz.zeroValue163
 t173:=Tryz.underlying166
 a173:=Tryz.isAgg166
 z173:=Tryz.sizeOf166
 v173:=Tryz.zeroValue166
 t212:=Tryz.underlying183
 a212:=Tryz.isAgg183
 z212:=Tryz.sizeOf183
 v212:=Tryz.zeroValue183
 t213:=Tryz.underlying184
 a213:=Tryz.isAgg184
 z213:=Tryz.sizeOf184
 t232:=Tryz.underlying190
 a232:=Tryz.isAgg190
 z232:=Tryz.sizeOf190
 v232:=Tryz.zeroValue190
 t233:=Tryz.underlying191
 a233:=Tryz.isAgg191
 z233:=Tryz.sizeOf191
 v233:=Tryz.zeroValue191
 g17:=by kernel_rfl
 g18:=by kernel_rfl
 g19:=by kernel_rfl
 i0:=by kernel_rfl
 i2:=by kernel_rfl
 i3:=by kernel_rfl
 i4:=by kernel_rfl
 i5:=by kernel_rfl
 i9:=by kernel_rfl
 i20:=by kernel_rfl
 i37:=by kernel_rfl
 i46:=by kernel_rfl
 i51:=by kernel_rfl
 i53:=by kernel_rfl
 i171:=by kernel_rfl
 i173:=by kernel_rfl
 i212:=by kernel_rfl
 i232:=by kernel_rfl
 i233:=by kernel_rfl
 m17:=by kernel_rfl
 m18:=by kernel_rfl
 m19:=by kernel_rfl
end Go.Proofs.YthjebaophnkpbaaGreatDoor

namespace Go.Dn
open Go Go.RowKit
theorem PF.of_calls {P:Program} {gt:GT} {f:FuncId} {us:List AV} {u:AV} {args:List Value} {v:Value} (hb:HasBody P f)
  (ha:∀S G w vs,Rl S G w us vs→vs=args) (hv:∀S G w,Rv S G w u v)
  (h:∀w,Calls P f ⟨args⟩ w fun e w'=>e=.returned v∧Below w.heap.size w w'):PF (AC P gt) f us u:=fun S =>
 ⟨hb,fun G w vs hI hx=>by
  rw [ha S G w vs hx]
  refine (h w).mono fun e w' hp=>?_
  obtain⟨rfl,bel⟩:=hp
  exact⟨u,S,G,⟨rfl,rfl⟩,Tr.gr hI ⟨bel.os,bel.tape,bel.output,bel.size,bel.block⟩,hv S G w'⟩⟩
theorem PF.of_callsI {P:Program} {gt:GT} {f:FuncId} {us:List AV} {u:AV} {args:List Value} {v:Value} (hb:HasBody P f)
  (ha:∀S G w vs,Rl S G w us vs→vs=args) (hv:∀S G w,Rv S G w u v)
  (h:∀S G w,Inv P gt S G w→Calls P f ⟨args⟩ w fun e w'=>e=.returned v∧Below w.heap.size w w'):PF (AC P gt) f us u:=fun S =>
 ⟨hb,fun G w vs hI hx=>by
  rw [ha S G w vs hx]
  refine (h S G w hI).mono fun e w' hp=>?_
  obtain⟨rfl,bel⟩:=hp
  exact⟨u,S,G,⟨rfl,rfl⟩,Tr.gr hI ⟨bel.os,bel.tape,bel.output,bel.size,bel.block⟩,hv S G w'⟩⟩
theorem rl_str1 {S:St} {G:Gh} {w:World} {a:List UInt8} {vs:List Value} (h:Rl S G w [.str a] vs):vs=[.string ⟨a.toArray⟩]:=by
 simp only [Rl,Rv] at h
 obtain⟨v,r,rfl,hv,rfl⟩:=h
 first | (obtain⟨b,rfl,e⟩:=hv;subst e;rfl) | (subst hv;rfl)
theorem rl_str2 {S:St} {G:Gh} {w:World} {a b:List UInt8} {vs:List Value} (h:Rl S G w [.str a,.str b] vs):vs=[.string ⟨a.toArray⟩,.string ⟨b.toArray⟩]:=by
 simp only [Rl,Rv] at h
 obtain⟨v,r,rfl,hv,v2,r2,rfl,hv2,rfl⟩:=h
 first | (subst hv;subst hv2;rfl) | skip
end Go.Dn

namespace Go.Proofs.C1
open Go Go.Dn
set_option maxRecDepth 100000
noncomputable section
abbrev pF (n:Note) (f:Func):DF:=(prepF Tryz.prog n f).getD ⟨0,.ret,[]⟩
abbrev N3:Note:=⟨[1,2,6,9,12,108],[(0,[]),(1,[1]),(2,[1,2,3]),(3,[1,3,4,5]),(4,[1,55]),(5,[0]),(6,[1,6,7,8]),(7,[1,6,7,8,9,10,11]),(8,[1,6,7,8,9,10,11,14]),(9,[1,107]),(10,[0]),(11,[1,109]),(12,[1,121,122,124]),(13,[1]),(14,[1]),(15,[1]),(16,[1,3]),(17,[0])],[(14,[(some 1),(some 1),(some 1),(some 1),none,none,none,(some 1),(some 1),none,none,none,none,none,none,none,none,none,none]),(12,[(some 1),(some 1),none,none,none,(some 1),(some 1),none,none,none,none,none,none,none,none,none,none,none]),(11,[none,(some 108),(some 108),(some 108)])]⟩
def F3:DF:=pF N3 Tryz.f3
theorem F3_ok:prepF Tryz.prog N3 Tryz.f3=some F3:=by kernel_rfl
theorem F3_fn:FnOK2 Tryz.prog 3 (.pl F3):=.pl Tryz.func3 (by kernel_rfl) F3_ok
theorem F4_ok : prepF Tryz.prog ⟨[1,3,5],[(0,[1]),(1,[1,9]),(2,[2]),(3,[1,3]),(4,[1,3,4]),(5,[1,3,4,5,6]),(6,[1,3,74]),(7,[2]),(8,[2])],[(8,[(some 3),none,(some 1),none,none,(some 3),(some 1),none,none,none,none,none,none]),(6,[(some 3),none,(some 1),none,none,none,(some 3),none,(some 1),none,none,none,none,none,(some 3),none,(some 1),none,none,none,none,(some 3),none,none,none,none,none,none,none,none,none,none,none,none,none,none,none,none,none,(some 5),(some 5),none,none,none,none,none,none,none,(some 5),(some 1),none,none,none,none,none])]⟩ Tryz.f4 = some F4 := by kernel_rfl
theorem F4_fn:FnOK2 Tryz.prog 4 (.pl F4):=.pl Tryz.func4 (by kernel_rfl) F4_ok
abbrev N8:Note:=⟨[0,1,2,3],[(0,[0]),(1,[0,1]),(2,[0,1,2]),(3,[0,1,3]),(4,[0])],[]⟩
def F8:DF:=pF N8 Tryz.f8
theorem F8_ok:prepF Tryz.prog N8 Tryz.f8=some F8:=by kernel_rfl
theorem F8_fn:FnOK2 Tryz.prog 8 (.pl F8):=.pl Tryz.func8 (by kernel_rfl) F8_ok
theorem F9_ok : prepF Tryz.prog ⟨[1,2],[(0,[1,2]),(1,[1,2,6]),(2,[2,3]),(3,[2,3])],[]⟩ Tryz.f9 = some F9 := by kernel_rfl
theorem F9_fn:FnOK2 Tryz.prog 9 (.pl F9):=.pl Tryz.func9 (by kernel_rfl) F9_ok
abbrev N10:Note:=⟨[1],[(0,[1]),(1,[1,4]),(2,[1,4,9]),(3,[2,3]),(4,[1,5]),(5,[5]),(6,[5,20]),(7,[2,3]),(8,[2,3])],[]⟩
def F10:DF:=pF N10 Tryz.f10
theorem F10_ok:prepF Tryz.prog N10 Tryz.f10=some F10:=by kernel_rfl
theorem F10_fn:FnOK2 Tryz.prog 10 (.pl F10):=.pl Tryz.func10 (by kernel_rfl) F10_ok
theorem F11_ok : prepF Tryz.prog ⟨[1],[(0,[1]),(1,[1,3]),(2,[3]),(3,[2])],[]⟩ Tryz.f11 = some F11 := by kernel_rfl
theorem F11_fn:FnOK2 Tryz.prog 11 (.pl F11):=.pl Tryz.func11 (by kernel_rfl) F11_ok
theorem F12_ok : prepF Tryz.prog ⟨[1],[(0,[1]),(1,[1,3]),(2,[3]),(3,[2])],[]⟩ Tryz.f12 = some F12 := by kernel_rfl
theorem F12_fn:FnOK2 Tryz.prog 12 (.pl F12):=.pl Tryz.func12 (by kernel_rfl) F12_ok
theorem F13_ok : prepF Tryz.prog ⟨[1,5],[(0,[1]),(1,[1,3]),(2,[3,7,8,9]),(3,[3,7,8,9,10]),(4,[3,5,7,8,9]),(5,[3,7,8,9]),(6,[3,7,8,9]),(7,[2]),(1000000,[3,7,8,9])],[]⟩ Tryz.f13 = some F13 := by kernel_rfl
theorem F13_fn:FnOK2 Tryz.prog 13 (.pl F13):=.pl Tryz.func13 (by kernel_rfl) F13_ok
theorem F14_ok : prepF Tryz.prog ⟨[1],[(0,[1]),(1,[2])],[]⟩ Tryz.f14 = some F14 := by kernel_rfl
theorem F14_fn:FnOK2 Tryz.prog 14 (.pl F14):=.pl Tryz.func14 (by kernel_rfl) F14_ok
theorem F15_ok : prepF Tryz.prog ⟨[2,4,9,12],[(0,[1,2,4]),(1,[1,2,4,7]),(2,[2,4,7,13,14,15]),(3,[2,4,7,13,14,15,16]),(4,[2,4,7,9,13,14,15]),(5,[2,4,7,10,13,14,15]),(6,[2,4,7,10,13,14,15,23]),(7,[4,5,6]),(8,[2,4,7,10,13,14,15]),(9,[2,4,7,10,13,14,15,37,38,39]),(10,[2,4,7,10,13,14,15,37,38,39,40]),(11,[2,4,7,10,11,12,13,14,15,37,38,39]),(12,[2,4,7,10,11,13,14,15,37,38,39]),(13,[2,4,7,10,11,13,14,15,37,38,39,52]),(14,[2,4,7,10,13,14,15,37,38,39]),(15,[2,4,7,10,13,14,15,37,38,39]),(16,[2,4,7,13,14,15]),(17,[2,4,7,13,14,15]),(18,[4,5,6]),(1000000,[2,4,7,13,14,15]),(1000002,[2,4,7,10,13,14,15,37,38,39])],[]⟩ Tryz.f15 = some F15 := by kernel_rfl
theorem F15_fn:FnOK2 Tryz.prog 15 (.pl F15):=.pl Tryz.func15 (by kernel_rfl) F15_ok
theorem F16_ok : prepF Tryz.prog ⟨[2],[(0,[1,2]),(1,[1,2,5]),(2,[1,2,5,6]),(3,[1,2,5,6,25]),(4,[1,2,5,6]),(5,[1,2,5,6]),(6,[4]),(1000000,[1,2,5,6])],[(1,[(some 2),(some 2),none,none,none,(some 2),(some 2),none,none,none])]⟩ Tryz.f16 = some F16 := by kernel_rfl
theorem F16_fn:FnOK2 Tryz.prog 16 (.pl F16):=.pl Tryz.func16 (by kernel_rfl) F16_ok
theorem F17_ok : prepF Tryz.prog ⟨[1,2,3],[(0,[1,2]),(1,[1,2,3]),(2,[1,2,3]),(3,[1,2,3]),(4,[1,2,3]),(5,[1,2,3]),(6,[1,2,3,4]),(7,[1,2,3,4,22]),(8,[1,2,3,4]),(9,[1,2,3,4]),(10,[2]),(1000000,[1,2,3,4])],[(9,[(some 3),(some 3),(some 1),(some 1),none,none,none,none,none,none,(some 3),(some 3)])]⟩ Tryz.f17 = some F17 := by kernel_rfl
theorem F17_fn:FnOK2 Tryz.prog 17 (.pl F17):=.pl Tryz.func17 (by kernel_rfl) F17_ok
theorem F18_ok : prepF Tryz.prog ⟨[1],[(0,[1]),(1,[2])],[]⟩ Tryz.f18 = some F18 := by kernel_rfl
theorem F18_fn:FnOK2 Tryz.prog 18 (.pl F18):=.pl Tryz.func18 (by kernel_rfl) F18_ok
theorem F19_ok : prepF Tryz.prog ⟨[1],[(0,[1]),(1,[2])],[(1,[none,(some 1),none,none,none])]⟩ Tryz.f19 = some F19 := by kernel_rfl
theorem F19_fn:FnOK2 Tryz.prog 19 (.pl F19):=.pl Tryz.func19 (by kernel_rfl) F19_ok
theorem F20_ok : prepF Tryz.prog ⟨[2],[(0,[1,2]),(1,[1,2,5]),(2,[1,2,5,6]),(3,[1,2,5,6,16]),(4,[1,2,5,6]),(5,[1,2,5,6]),(6,[4]),(1000000,[1,2,5,6])],[]⟩ Tryz.f20 = some F20 := by kernel_rfl
theorem F20_fn:FnOK2 Tryz.prog 20 (.pl F20):=.pl Tryz.func20 (by kernel_rfl) F20_ok
theorem F21_ok : prepF Tryz.prog ⟨[2,3],[(0,[2,3]),(1,[2,3,36]),(2,[4]),(3,[2,3,5]),(4,[2,3,5,41]),(5,[2,3,5]),(6,[2,3,5,54]),(7,[4]),(8,[2,3,6]),(9,[2,3,6,59]),(10,[2,3,6]),(11,[2,3,6,73]),(12,[4]),(13,[4]),(1000000,[2,3,5]),(1000002,[2,3,6])],[(11,[(some 2),(some 2),none,none,none,(some 3),(some 3),none,none,none,none,none]),(6,[(some 2),(some 2),none,none,none,(some 3),(some 3),none,none,none,none])]⟩ Tryz.f21 = some F21 := by kernel_rfl
theorem F21_fn:FnOK2 Tryz.prog 21 (.pl F21):=.pl Tryz.func21 (by kernel_rfl) F21_ok
theorem F22_ok : prepF Tryz.prog ⟨[1,2,3],[(0,[1,2]),(1,[1,2,7]),(2,[2]),(3,[1,2,3]),(4,[1,2,3,4]),(5,[1,2,3,4,18]),(6,[1,2,3,4]),(7,[1,2,3,4,23]),(8,[1,2,3,4]),(9,[1,2,3,4]),(10,[2]),(1000000,[1,2,3,4])],[(9,[(some 3),(some 3),(some 1),(some 1),none,none,none,none,none,none,(some 3),(some 3)]),(8,[(some 3),(some 3),(some 1),(some 1),none,none,none,none,none,none,(some 3),(some 3)])]⟩ Tryz.f22 = some F22 := by kernel_rfl
theorem F22_fn:FnOK2 Tryz.prog 22 (.pl F22):=.pl Tryz.func22 (by kernel_rfl) F22_ok
theorem F23_ok : prepF Tryz.prog ⟨[2,3],[(0,[2,3]),(1,[2,3,86]),(2,[4]),(3,[2,3,5]),(4,[2,3,5,91]),(5,[2,3,5]),(6,[2,3,5,104]),(7,[4]),(8,[2,3,6]),(9,[2,3,6,109]),(10,[2,3,6]),(11,[2,3,6,123]),(12,[4]),(13,[4]),(1000000,[2,3,5]),(1000002,[2,3,6])],[(11,[(some 2),(some 2),none,none,none,(some 3),(some 3),none,none,none,none,none]),(6,[(some 2),(some 2),none,none,none,(some 3),(some 3),none,none,none,none])]⟩ Tryz.f23 = some F23 := by kernel_rfl
theorem F23_fn:FnOK2 Tryz.prog 23 (.pl F23):=.pl Tryz.func23 (by kernel_rfl) F23_ok
theorem F24_ok : prepF Tryz.prog ⟨[1,2,3,5],[(0,[1,2]),(1,[1,2,3]),(2,[1,2,3]),(3,[1,2,3]),(4,[2,3,17,18,19]),(5,[2,3,17,18,19,20]),(6,[2,3,5,17,18,19]),(7,[2,3,17,18,19]),(8,[2,3,17,18,19]),(9,[2]),(1000000,[2,3,17,18,19])],[(7,[(some 3),(some 3),(some 5),none,none,none,(some 3),(some 3)])]⟩ Tryz.f24 = some F24 := by kernel_rfl
theorem F24_fn:FnOK2 Tryz.prog 24 (.pl F24):=.pl Tryz.func24 (by kernel_rfl) F24_ok
theorem F28_ok : prepF Tryz.prog ⟨[1],[(0,[1]),(1,[1,3]),(2,[2]),(3,[1,7]),(4,[2]),(5,[11]),(6,[2]),(7,[2])],[]⟩ Tryz.f28 = some F28 := by kernel_rfl
theorem F28_fn:FnOK2 Tryz.prog 28 (.pl F28):=.pl Tryz.func28 (by kernel_rfl) F28_ok
theorem F30_ok : prepF Tryz.prog ⟨[2,3],[(0,[2,3]),(1,[2,3,12]),(2,[4]),(3,[4])],[(3,[(some 2),none,(some 3),none,none,none])]⟩ Tryz.f30 = some F30 := by kernel_rfl
theorem F30_fn:FnOK2 Tryz.prog 30 (.pl F30):=.pl Tryz.func30 (by kernel_rfl) F30_ok
theorem F32_ok : prepF Tryz.prog ⟨[1,2,3,5],[(0,[1,2]),(1,[1,2,7]),(2,[2]),(3,[1,2,3]),(4,[1,2,3,15,16,17]),(5,[1,2,3,15,16,17,18]),(6,[1,2,3,5,15,16,17]),(7,[1,2,3,5,15,16,17,23]),(8,[1,2,3,5,15,16,17]),(9,[1,2,3,15,16,17]),(10,[1,2,3,15,16,17]),(11,[2]),(1000000,[1,2,3,15,16,17])],[(9,[(some 3),(some 3),(some 5),none,none,none,(some 3),(some 3)])]⟩ Tryz.f32 = some F32 := by kernel_rfl
theorem F32_fn:FnOK2 Tryz.prog 32 (.pl F32):=.pl Tryz.func32 (by kernel_rfl) F32_ok
abbrev N33:Note:=⟨[3,7],[(0,[0,3]),(1,[0,3,13]),(2,[0,3,13,14]),(3,[]),(4,[0,3,13,18]),(5,[0,3,13,18]),(6,[]),(7,[0,3,13,25]),(8,[0,4]),(9,[]),(10,[0,3,13,36]),(11,[]),(12,[0,3,13,43]),(13,[0,3]),(14,[0,48,49,50]),(15,[0,48,49,50,51]),(16,[0,6,7,48,49,50]),(17,[0,7,48,49,50,56]),(18,[0,7,48,49,50]),(19,[0,48,49,50]),(20,[0,48,49,50]),(21,[]),(22,[0,3,65]),(23,[0,3]),(24,[0,3,71,72,73]),(25,[0,3,71,72,73,74]),(26,[0,3,8,9,71,72,73]),(27,[0,3,9,71,72,73,79]),(28,[0,3,9,71,72,73]),(29,[0,3,9,10,71,72,73]),(30,[0,3,9,71,72,73]),(31,[0,3,71,72,73]),(32,[0,3,71,72,73]),(33,[]),(1000001,[0,48,49,50]),(1000003,[0,3,71,72,73])],[]⟩
def F33:DF:=pF N33 Tryz.f33
theorem F33_ok:prepF Tryz.prog N33 Tryz.f33=some F33:=by kernel_rfl
theorem F33_fn:FnOK2 Tryz.prog 33 (.pl F33):=.pl Tryz.func33 (by kernel_rfl) F33_ok
theorem F34_ok : prepF Tryz.prog ⟨[],[(0,[0]),(1,[2])],[]⟩ Tryz.f34 = some F34 := by kernel_rfl
theorem F34_fn:FnOK2 Tryz.prog 34 (.pl F34):=.pl Tryz.func34 (by kernel_rfl) F34_ok
theorem F35_ok : prepF Tryz.prog ⟨[],[(0,[0]),(1,[2])],[]⟩ Tryz.f35 = some F35 := by kernel_rfl
theorem F35_fn:FnOK2 Tryz.prog 35 (.pl F35):=.pl Tryz.func35 (by kernel_rfl) F35_ok
theorem F36_ok : prepF Tryz.prog ⟨[2,5],[(0,[1,2]),(1,[1,2]),(2,[1,2,11]),(3,[1,2]),(4,[1,2]),(5,[1,2,21,22,23]),(6,[1,2,21,22,23,24]),(7,[1,2,4,5,21,22,23]),(8,[1,2,4,5,21,22,23,37]),(9,[1,2,5,21,22,23]),(10,[1,2,21,22,23]),(11,[1,2,21,22,23]),(12,[1,2]),(13,[]),(1000000,[1,2,21,22,23])],[]⟩ Tryz.f36 = some F36 := by kernel_rfl
theorem F36_fn:FnOK2 Tryz.prog 36 (.pl F36):=.pl Tryz.func36 (by kernel_rfl) F36_ok
theorem F37_ok : prepF Tryz.prog ⟨[],[(0,[])],[]⟩ Tryz.f37 = some F37 := by kernel_rfl
theorem F37_fn:FnOK2 Tryz.prog 37 (.pl F37):=.pl Tryz.func37 (by kernel_rfl) F37_ok
theorem F38_ok : prepF Tryz.prog ⟨[],[(0,[0,1]),(1,[0,1]),(2,[1]),(3,[4,5])],[]⟩ Tryz.f38 = some F38 := by kernel_rfl
theorem F38_fn:FnOK2 Tryz.prog 38 (.pl F38):=.pl Tryz.func38 (by kernel_rfl) F38_ok
theorem F39_ok : prepF Tryz.prog ⟨[],[(0,[])],[]⟩ Tryz.f39 = some F39 := by kernel_rfl
theorem F39_fn:FnOK2 Tryz.prog 39 (.pl F39):=.pl Tryz.func39 (by kernel_rfl) F39_ok
theorem F40_ok : prepF Tryz.prog ⟨[1,5],[(0,[1]),(1,[1,3]),(2,[3,7,8,9]),(3,[3,7,8,9,10]),(4,[3,5,7,8,9]),(5,[3,7,8,9]),(6,[3,7,8,9]),(7,[2]),(1000000,[3,7,8,9])],[]⟩ Tryz.f40 = some F40 := by kernel_rfl
theorem F40_fn:FnOK2 Tryz.prog 40 (.pl F40):=.pl Tryz.func40 (by kernel_rfl) F40_ok
theorem F41_ok : prepF Tryz.prog ⟨[1,5],[(0,[1]),(1,[1,7]),(2,[2]),(3,[1,72]),(4,[2]),(5,[1,3]),(6,[1,3,75,76,77]),(7,[1,3,75,76,77,78]),(8,[1,3,5,75,76,77]),(9,[1,3,5,75,76,77]),(10,[1,3,75,76,77,116]),(11,[2]),(12,[1,3,75,76,77]),(13,[2]),(1000000,[1,3,75,76,77])],[]⟩ Tryz.f41 = some F41 := by kernel_rfl
theorem F41_fn:FnOK2 Tryz.prog 41 (.pl F41):=.pl Tryz.func41 (by kernel_rfl) F41_ok
theorem F42_ok : prepF Tryz.prog ⟨[2,3,6],[(0,[2,3]),(1,[2,3,8]),(2,[2,3,8,9]),(3,[3,26]),(4,[4]),(5,[2,3,29]),(6,[3,32,33,34]),(7,[3,32,33,34,35]),(8,[3,5,6,32,33,34]),(9,[3,5,32,33,34,43]),(10,[4]),(11,[3,32,33,34]),(12,[4]),(1000001,[3,32,33,34])],[]⟩ Tryz.f42 = some F42 := by kernel_rfl
theorem F42_fn:FnOK2 Tryz.prog 42 (.pl F42):=.pl Tryz.func42 (by kernel_rfl) F42_ok
theorem F43_ok : prepF Tryz.prog ⟨[2],[(0,[1,2]),(1,[1,2,5]),(2,[1,2,5,6]),(3,[1,2,5,6,16]),(4,[1,2,5,6]),(5,[1,2,5,6]),(6,[4]),(1000000,[1,2,5,6])],[]⟩ Tryz.f43 = some F43 := by kernel_rfl
theorem F43_fn:FnOK2 Tryz.prog 43 (.pl F43):=.pl Tryz.func43 (by kernel_rfl) F43_ok
theorem F44_ok : prepF Tryz.prog ⟨[1,2,3],[(0,[1,2]),(1,[1,2,3]),(2,[1,2,3]),(3,[1,2,3,4]),(4,[1,2,3,4,20]),(5,[1,2,3,4]),(6,[1,2,3,4]),(7,[2]),(1000000,[1,2,3,4])],[(6,[(some 3),(some 3),(some 1),(some 1),none,none,none,none,none,none,(some 3),(some 3)])]⟩ Tryz.f44 = some F44 := by kernel_rfl
theorem F44_fn:FnOK2 Tryz.prog 44 (.pl F44):=.pl Tryz.func44 (by kernel_rfl) F44_ok
theorem F45_ok : prepF Tryz.prog ⟨[1],[(0,[1]),(1,[1,3]),(2,[1,3,4]),(3,[1,3,4,10]),(4,[1,3,4]),(5,[1,3,4,5]),(6,[1,3,4,5,21]),(7,[1,3,4]),(8,[2]),(1000000,[1,3,4])],[]⟩ Tryz.f45 = some F45 := by kernel_rfl
theorem F45_fn:FnOK2 Tryz.prog 45 (.pl F45):=.pl Tryz.func45 (by kernel_rfl) F45_ok
theorem F46_ok : prepF Tryz.prog ⟨[1],[(0,[1]),(1,[1,8]),(2,[2]),(3,[1,60]),(4,[2]),(5,[1,86]),(6,[2]),(7,[1,3]),(8,[1,3,4]),(9,[1,3,4,92]),(10,[1,3,4]),(11,[1,3,4,5]),(12,[1,3,4,5,132]),(13,[2]),(14,[1,3,4]),(15,[2]),(1000000,[1,3,4])],[]⟩ Tryz.f46 = some F46 := by kernel_rfl
theorem F46_fn:FnOK2 Tryz.prog 46 (.pl F46):=.pl Tryz.func46 (by kernel_rfl) F46_ok
theorem F47_ok : prepF Tryz.prog ⟨[3],[(0,[0,3]),(1,[0,3]),(2,[0,3,12]),(3,[4]),(4,[0,3]),(5,[0,3,5]),(6,[0,3,5,28]),(7,[0,3,5]),(8,[0,3,5,40]),(9,[0,3,5]),(10,[0,3,5]),(11,[4]),(1000000,[0,3,5])],[(11,[none,(some 3),(some 3),none,(some 3),(some 3),none,none]),(3,[none,(some 3),(some 3),none,(some 3),(some 3),none,none])]⟩ Tryz.f47 = some F47 := by kernel_rfl
theorem F47_fn:FnOK2 Tryz.prog 47 (.pl F47):=.pl Tryz.func47 (by kernel_rfl) F47_ok
theorem F48_ok : prepF Tryz.prog ⟨[],[(0,[0]),(1,[2])],[]⟩ Tryz.f48 = some F48 := by kernel_rfl
theorem F48_fn:FnOK2 Tryz.prog 48 (.pl F48):=.pl Tryz.func48 (by kernel_rfl) F48_ok
theorem F49_ok : prepF Tryz.prog ⟨[1,2,3,5],[(0,[1,2]),(1,[1,2,3]),(2,[1,2,3]),(3,[2,3,18,19,20]),(4,[2,3,18,19,20,21]),(5,[2,3,5,18,19,20]),(6,[2,3,18,19,20]),(7,[2,3,18,19,20]),(8,[2]),(1000000,[2,3,18,19,20])],[(6,[(some 3),(some 3),(some 5),none,none,none,(some 3),(some 3)])]⟩ Tryz.f49 = some F49 := by kernel_rfl
theorem F49_fn:FnOK2 Tryz.prog 49 (.pl F49):=.pl Tryz.func49 (by kernel_rfl) F49_ok
theorem F52_ok : prepF Tryz.prog ⟨[1,5],[(0,[1]),(1,[1,3]),(2,[3,7,8,9]),(3,[3,7,8,9,10]),(4,[3,5,7,8,9]),(5,[3,7,8,9]),(6,[3,7,8,9]),(7,[2]),(1000000,[3,7,8,9])],[]⟩ Tryz.f52 = some F52 := by kernel_rfl
theorem F52_fn:FnOK2 Tryz.prog 52 (.pl F52):=.pl Tryz.func52 (by kernel_rfl) F52_ok
theorem F53_ok : prepF Tryz.prog ⟨[1,5],[(0,[1]),(1,[1,3]),(2,[3,7,8,9]),(3,[3,7,8,9,10]),(4,[3,5,7,8,9]),(5,[3,7,8,9]),(6,[3,7,8,9]),(7,[2]),(1000000,[3,7,8,9])],[]⟩ Tryz.f53 = some F53 := by kernel_rfl
theorem F53_fn:FnOK2 Tryz.prog 53 (.pl F53):=.pl Tryz.func53 (by kernel_rfl) F53_ok
theorem F54_ok : prepF Tryz.prog ⟨[1,4],[(0,[1]),(1,[1,9,10,11]),(2,[1,9,10,11,12]),(3,[1,4,9,10,11]),(4,[1,9,10,11,17]),(5,[2]),(6,[1,9,10,11]),(7,[1,5]),(8,[1,5,30]),(9,[1,5,30,31]),(10,[2]),(11,[1,5,30,39]),(12,[2]),(13,[1,5,30,52]),(14,[1,5,6,7]),(15,[2]),(16,[1,5,30,71]),(17,[2]),(18,[1,5,30,79]),(19,[2]),(20,[1,30,87]),(21,[2]),(22,[1,98]),(23,[2]),(24,[2]),(1000000,[1,9,10,11])],[]⟩ Tryz.f54 = some F54 := by kernel_rfl
theorem F54_fn:FnOK2 Tryz.prog 54 (.pl F54):=.pl Tryz.func54 (by kernel_rfl) F54_ok
theorem F56_ok : prepF Tryz.prog ⟨[2,3],[(0,[2,3]),(1,[4])],[]⟩ Tryz.f56 = some F56 := by kernel_rfl
theorem F56_fn:FnOK2 Tryz.prog 56 (.pl F56):=.pl Tryz.func56 (by kernel_rfl) F56_ok
theorem F57_ok : prepF Tryz.prog ⟨[1,2,3,5],[(0,[1,2]),(1,[1,2,3]),(2,[1,2,3,24]),(3,[1,2,3]),(4,[2,3,32,33,34]),(5,[2,3,32,33,34,35]),(6,[2,3,5,32,33,34]),(7,[2,3,32,33,34]),(8,[2,3,32,33,34]),(9,[2]),(10,[1,2,3,49,50,51]),(11,[1,2,3,49,50,51,52]),(12,[1,2,3,7,49,50,51]),(13,[1,2,3,7,49,50,51]),(14,[1,2,3,49,50,51]),(15,[1,2,3,49,50,51]),(16,[2]),(1000000,[2,3,32,33,34]),(1000002,[1,2,3,49,50,51])],[(14,[(some 3),(some 3),(some 1),(some 1),none,none,none,none,none,none,(some 3),(some 3)]),(13,[(some 3),(some 3),(some 1),(some 1),none,none,none,none,none,(some 3),(some 3)]),(7,[(some 3),(some 3),(some 5),none,none,none,(some 3),(some 3)])]⟩ Tryz.f57 = some F57 := by kernel_rfl
theorem F57_fn:FnOK2 Tryz.prog 57 (.pl F57):=.pl Tryz.func57 (by kernel_rfl) F57_ok
theorem F58_ok : prepF Tryz.prog ⟨[1],[(0,[1]),(1,[2])],[]⟩ Tryz.f58 = some F58 := by kernel_rfl
theorem F58_fn:FnOK2 Tryz.prog 58 (.pl F58):=.pl Tryz.func58 (by kernel_rfl) F58_ok
abbrev N59:Note:=⟨[],[(0,[0,1,8]),(1,[])],[]⟩
def F59:DF:=pF N59 Tryz.f59
theorem F59_ok:prepF Tryz.prog N59 Tryz.f59=some F59:=by kernel_rfl
theorem F59_fn:FnOK2 Tryz.prog 59 (.pl F59):=.pl Tryz.func59 (by kernel_rfl) F59_ok
abbrev N60:Note:=⟨[],[(0,[0]),(1,[0,10]),(2,[2,3]),(3,[0,4]),(4,[0,4]),(5,[0,4,13,14]),(6,[0,4,13,14,15]),(7,[0,4,5,13,14]),(8,[0,4,6,13,14]),(9,[0,4,6,7,13,14]),(10,[0,4,13,14]),(11,[0,4,6,7,13,14,24]),(12,[0,4,7,13,14]),(13,[0,4,13,14]),(14,[0,4,6,13,14,30]),(15,[0,4,6,13,14]),(16,[0,4,6,13,14]),(17,[0,4,13,14]),(18,[0,4,13,14]),(19,[4]),(20,[2,3]),(1000000,[0,4,13,14])],[]⟩
def F60:DF:=pF N60 Tryz.f60
theorem F60_ok:prepF Tryz.prog N60 Tryz.f60=some F60:=by kernel_rfl
theorem F60_fn:FnOK2 Tryz.prog 60 (.pl F60):=.pl Tryz.func60 (by kernel_rfl) F60_ok
theorem F61_ok : prepF Tryz.prog ⟨[],[(0,[1]),(1,[1,3]),(2,[1,3,9,10]),(3,[1,3,9,10,11]),(4,[1,3,4,9,10]),(5,[1,3,9,10]),(6,[1,3,9,10]),(7,[3]),(8,[2]),(1000000,[1,3,9,10])],[]⟩ Tryz.f61 = some F61 := by kernel_rfl
theorem F61_fn:FnOK2 Tryz.prog 61 (.pl F61):=.pl Tryz.func61 (by kernel_rfl) F61_ok
theorem F62_ok : prepF Tryz.prog ⟨[],[(0,[0,6]),(1,[]),(2,[19])],[]⟩ Tryz.f62 = some F62 := by kernel_rfl
theorem F62_fn:FnOK2 Tryz.prog 62 (.pl F62):=.pl Tryz.func62 (by kernel_rfl) F62_ok
theorem F63_ok : prepF Tryz.prog ⟨[],[(0,[0]),(1,[2])],[]⟩ Tryz.f63 = some F63 := by kernel_rfl
theorem F63_fn:FnOK2 Tryz.prog 63 (.pl F63):=.pl Tryz.func63 (by kernel_rfl) F63_ok
theorem F64_ok : prepF Tryz.prog ⟨[1],[(0,[1]),(1,[1,5]),(2,[2]),(3,[1,8]),(4,[2]),(5,[11]),(6,[2]),(7,[2])],[]⟩ Tryz.f64 = some F64 := by kernel_rfl
theorem F64_fn:FnOK2 Tryz.prog 64 (.pl F64):=.pl Tryz.func64 (by kernel_rfl) F64_ok
theorem F65_ok : prepF Tryz.prog ⟨[4],[(0,[0]),(1,[4]),(2,[2])],[]⟩ Tryz.f65 = some F65 := by kernel_rfl
theorem F65_fn:FnOK2 Tryz.prog 65 (.pl F65):=.pl Tryz.func65 (by kernel_rfl) F65_ok
theorem F66_ok : prepF Tryz.prog ⟨[4],[(0,[0]),(1,[4,5]),(2,[4,5,12]),(3,[2,3]),(4,[2,3])],[]⟩ Tryz.f66 = some F66 := by kernel_rfl
theorem F66_fn:FnOK2 Tryz.prog 66 (.pl F66):=.pl Tryz.func66 (by kernel_rfl) F66_ok
theorem F67_ok : prepF Tryz.prog ⟨[],[(0,[0]),(1,[0,11]),(2,[2]),(3,[0]),(4,[3,4,5]),(5,[2])],[]⟩ Tryz.f67 = some F67 := by kernel_rfl
theorem F67_fn:FnOK2 Tryz.prog 67 (.pl F67):=.pl Tryz.func67 (by kernel_rfl) F67_ok
theorem F68_ok : prepF Tryz.prog ⟨[],[(0,[0]),(1,[0,3]),(2,[3,7,8,9]),(3,[3,7,8,9,10]),(4,[3,5,7,8,9]),(5,[3,5,7,8,9]),(6,[3,7,8,9,25]),(7,[2]),(8,[3,7,8,9]),(9,[2]),(1000000,[3,7,8,9])],[]⟩ Tryz.f68 = some F68 := by kernel_rfl
theorem F68_fn:FnOK2 Tryz.prog 68 (.pl F68):=.pl Tryz.func68 (by kernel_rfl) F68_ok
theorem F70_ok : prepF Tryz.prog ⟨[],[(0,[0,1]),(1,[0,1,10]),(2,[4]),(3,[0,1,12,13]),(4,[0,1,12,13,14]),(5,[0,1,5,12,13]),(6,[0,1,12,13,24]),(7,[4]),(8,[0,1,12,13]),(9,[4]),(1000000,[0,1,12,13])],[]⟩ Tryz.f70 = some F70 := by kernel_rfl
theorem F70_fn:FnOK2 Tryz.prog 70 (.pl F70):=.pl Tryz.func70 (by kernel_rfl) F70_ok
theorem F71_ok : prepF Tryz.prog ⟨[8,9],[(0,[0,1,2]),(1,[0,1,2,14]),(2,[6]),(3,[1,2,15,16,17]),(4,[1,2,15,16,17,18]),(5,[1,2,7,8,15,16,17]),(6,[1,2,8,9,15,16,17]),(7,[1,2,15,16,17,30]),(8,[6]),(9,[1,2,15,16,17]),(10,[6]),(1000000,[1,2,15,16,17])],[]⟩ Tryz.f71 = some F71 := by kernel_rfl
theorem F71_fn:FnOK2 Tryz.prog 71 (.pl F71):=.pl Tryz.func71 (by kernel_rfl) F71_ok
theorem F72_ok : prepF Tryz.prog ⟨[],[(0,[0]),(1,[2])],[]⟩ Tryz.f72 = some F72 := by kernel_rfl
theorem F72_fn:FnOK2 Tryz.prog 72 (.pl F72):=.pl Tryz.func72 (by kernel_rfl) F72_ok
theorem F73_ok : prepF Tryz.prog ⟨[],[(0,[0,1]),(1,[0,1]),(2,[]),(3,[4])],[]⟩ Tryz.f73 = some F73 := by kernel_rfl
theorem F73_fn:FnOK2 Tryz.prog 73 (.pl F73):=.pl Tryz.func73 (by kernel_rfl) F73_ok
abbrev N74:Note:=⟨[],[(0,[0]),(1,[0,3]),(2,[0,3,4]),(3,[0,3,4]),(4,[2]),(5,[3,8]),(6,[2]),(7,[3,10]),(8,[2]),(9,[3,12]),(10,[2]),(11,[3,14]),(12,[2]),(13,[16]),(14,[2]),(15,[2])],[]⟩
def F74:DF:=pF N74 Tryz.f74
theorem F74_ok:prepF Tryz.prog N74 Tryz.f74=some F74:=by kernel_rfl
theorem F74_fn:FnOK2 Tryz.prog 74 (.pl F74):=.pl Tryz.func74 (by kernel_rfl) F74_ok
abbrev N75:Note:=⟨[],[(0,[0]),(1,[2])],[]⟩
def F75:DF:=pF N75 Tryz.f75
theorem F75_ok:prepF Tryz.prog N75 Tryz.f75=some F75:=by kernel_rfl
theorem F75_fn:FnOK2 Tryz.prog 75 (.pl F75):=.pl Tryz.func75 (by kernel_rfl) F75_ok
theorem F76_ok : prepF Tryz.prog ⟨[],[(0,[])],[]⟩ Tryz.f76 = some F76 := by kernel_rfl
theorem F76_fn:FnOK2 Tryz.prog 76 (.pl F76):=.pl Tryz.func76 (by kernel_rfl) F76_ok
theorem F77_ok : prepF Tryz.prog ⟨[],[(0,[0,1,2]),(1,[5])],[]⟩ Tryz.f77 = some F77 := by kernel_rfl
theorem F77_fn:FnOK2 Tryz.prog 77 (.pl F77):=.pl Tryz.func77 (by kernel_rfl) F77_ok
theorem F78_ok : prepF Tryz.prog ⟨[],[(0,[0,1]),(1,[4])],[]⟩ Tryz.f78 = some F78 := by kernel_rfl
theorem F78_fn:FnOK2 Tryz.prog 78 (.pl F78):=.pl Tryz.func78 (by kernel_rfl) F78_ok
theorem F80_ok : prepF Tryz.prog ⟨[],[(0,[0]),(1,[0,3]),(2,[0,3,9]),(3,[0,3,5]),(4,[0,3,5,18]),(5,[2]),(6,[0,3]),(7,[2]),(1000000,[0,3])],[]⟩ Tryz.f80 = some F80 := by kernel_rfl
theorem F80_fn:FnOK2 Tryz.prog 80 (.pl F80):=.pl Tryz.func80 (by kernel_rfl) F80_ok
theorem F81_ok : prepF Tryz.prog ⟨[1],[(0,[1]),(1,[1,3]),(2,[1,3,4]),(3,[1,3,4,10]),(4,[1,3,4]),(5,[1,3,4,5]),(6,[1,3,4,5,21]),(7,[1,3,4]),(8,[2]),(1000000,[1,3,4])],[]⟩ Tryz.f81 = some F81 := by kernel_rfl
theorem F81_fn:FnOK2 Tryz.prog 81 (.pl F81):=.pl Tryz.func81 (by kernel_rfl) F81_ok
theorem F82_ok : prepF Tryz.prog ⟨[1],[(0,[1]),(1,[1,3]),(2,[1,3,17]),(3,[2]),(4,[1,3,17,18]),(5,[2]),(6,[1,3,17,27]),(7,[2]),(8,[1,3,17,41]),(9,[1,3,4,5]),(10,[2]),(11,[1,3,17,61]),(12,[2]),(13,[1,3,17,70]),(14,[2]),(15,[1,17,79]),(16,[1,84]),(17,[2]),(18,[1,85]),(19,[1,93]),(20,[2]),(21,[1,6]),(22,[1,6,7]),(23,[1,6,7,99]),(24,[1,6,7]),(25,[1,6,7,118]),(26,[2]),(27,[1,6,7]),(28,[1,8]),(29,[1,8,129]),(30,[1,8]),(31,[1,8,138]),(32,[2]),(33,[2]),(1000001,[1,6,7]),(1000003,[1,8])],[]⟩ Tryz.f82 = some F82 := by kernel_rfl
theorem F82_fn:FnOK2 Tryz.prog 82 (.pl F82):=.pl Tryz.func82 (by kernel_rfl) F82_ok
theorem F83_ok : prepF Tryz.prog ⟨[3],[(0,[0,3]),(1,[0,3,4]),(2,[0,3,4,5]),(3,[0,3,4,5,11]),(4,[0,3,4,5,6,7]),(5,[0,3,4,5,6,7,19]),(6,[2,3]),(7,[0,3,4,5,7]),(8,[0,3,4,5]),(9,[2,3]),(1000000,[0,3,4,5])],[]⟩ Tryz.f83 = some F83 := by kernel_rfl
theorem F83_fn:FnOK2 Tryz.prog 83 (.pl F83):=.pl Tryz.func83 (by kernel_rfl) F83_ok
theorem F84_ok : prepF Tryz.prog ⟨[2],[(0,[0,2]),(1,[0,2,4,5,6,7,8]),(2,[0,2,4,5,6,7,21]),(3,[2,3]),(4,[2,4,5,6,7,25]),(5,[2,3]),(6,[2,4,5,6,8,9]),(7,[2,4,5,6,9,33]),(8,[2,3]),(9,[2,4,6,9,10]),(10,[2,4,9,10]),(11,[2,4,9,10,11]),(12,[2,4,9,11]),(13,[2,4,9,11,53]),(14,[2,3]),(15,[2,3])],[]⟩ Tryz.f84 = some F84 := by kernel_rfl
theorem F84_fn:FnOK2 Tryz.prog 84 (.pl F84):=.pl Tryz.func84 (by kernel_rfl) F84_ok
theorem F85_ok : prepF Tryz.prog ⟨[1],[(0,[1]),(1,[1,4]),(2,[1,4,9]),(3,[1,4,9]),(4,[1,4,9]),(5,[2,3]),(6,[1,4,42]),(7,[2,3]),(8,[1,51]),(9,[2,3]),(10,[1,5]),(11,[1,5,57]),(12,[1,5]),(13,[1,5,62]),(14,[5]),(15,[5,71]),(16,[2,3]),(17,[2,3])],[]⟩ Tryz.f85 = some F85 := by kernel_rfl
theorem F85_fn:FnOK2 Tryz.prog 85 (.pl F85):=.pl Tryz.func85 (by kernel_rfl) F85_ok
theorem F86_ok : prepF Tryz.prog ⟨[],[(0,[0]),(1,[0,33]),(2,[2]),(3,[2])],[]⟩ Tryz.f86 = some F86 := by kernel_rfl
theorem F86_fn:FnOK2 Tryz.prog 86 (.pl F86):=.pl Tryz.func86 (by kernel_rfl) F86_ok
theorem F87_ok : prepF Tryz.prog ⟨[],[(0,[0]),(1,[0,34]),(2,[2]),(3,[0,37]),(4,[2]),(5,[0,3]),(6,[2])],[]⟩ Tryz.f87 = some F87 := by kernel_rfl
theorem F87_fn:FnOK2 Tryz.prog 87 (.pl F87):=.pl Tryz.func87 (by kernel_rfl) F87_ok
theorem F88_ok : prepF Tryz.prog ⟨[],[(0,[0]),(1,[0,6]),(2,[2,3]),(3,[0,30]),(4,[2,3]),(5,[0,4]),(6,[0,4,51]),(7,[2,3]),(8,[2,3])],[]⟩ Tryz.f88 = some F88 := by kernel_rfl
theorem F88_fn:FnOK2 Tryz.prog 88 (.pl F88):=.pl Tryz.func88 (by kernel_rfl) F88_ok
theorem F89_ok : prepF Tryz.prog ⟨[],[(0,[0,1]),(1,[4,5,6])],[]⟩ Tryz.f89 = some F89 := by kernel_rfl
theorem F89_fn:FnOK2 Tryz.prog 89 (.pl F89):=.pl Tryz.func89 (by kernel_rfl) F89_ok
theorem F90_ok : prepF Tryz.prog ⟨[],[(0,[0,1,2,6]),(1,[0,1,2,6,7,8]),(2,[0,1,2,6,7,8,13]),(3,[0,1,2,6,8]),(4,[0,1,2,6,7,8]),(5,[0,1,2,6,7,8]),(6,[0,1,2,6]),(7,[0,1,2,6,30]),(8,[0,1,2,6,7,8]),(9,[0,1,2,6,7,8,35]),(10,[0,1,2,6,8]),(11,[0,1,2,6,7,8]),(12,[0,1,2,6,7,8]),(13,[0,1,2,6,7,9]),(14,[0,1,2,6,7,9,54]),(15,[0,1,2,6]),(16,[0,1,2,6]),(1000000,[0,1,2,6,7,8]),(1000002,[0,1,2,6]),(1000004,[0,1,2,6,7,8])],[]⟩ Tryz.f90 = some F90 := by kernel_rfl
theorem F90_fn:FnOK2 Tryz.prog 90 (.pl F90):=.pl Tryz.func90 (by kernel_rfl) F90_ok
theorem F91_ok : prepF Tryz.prog ⟨[],[(0,[0,1]),(1,[4])],[]⟩ Tryz.f91 = some F91 := by kernel_rfl
theorem F91_fn:FnOK2 Tryz.prog 91 (.pl F91):=.pl Tryz.func91 (by kernel_rfl) F91_ok
theorem F92_ok : prepF Tryz.prog ⟨[],[(0,[0]),(1,[0,7]),(2,[2,3]),(3,[0,2,3,4]),(4,[0,2,3,4,22]),(5,[2,3]),(6,[0,2,3,4,5]),(7,[0,2,3,4,5,25]),(8,[0,2,3,4,5]),(9,[0,2,3,4,5,32]),(10,[2,3]),(11,[0,2,3,4,5]),(12,[2,3,48]),(13,[2,3]),(14,[2,3]),(1000000,[0,2,3,4,5])],[]⟩ Tryz.f92 = some F92 := by kernel_rfl
theorem F92_fn:FnOK2 Tryz.prog 92 (.pl F92):=.pl Tryz.func92 (by kernel_rfl) F92_ok
theorem F93_ok : prepF Tryz.prog ⟨[4],[(0,[0]),(1,[4,5]),(2,[4,5,12]),(3,[2,3]),(4,[2,3])],[]⟩ Tryz.f93 = some F93 := by kernel_rfl
theorem F93_fn:FnOK2 Tryz.prog 93 (.pl F93):=.pl Tryz.func93 (by kernel_rfl) F93_ok
theorem F94_ok : prepF Tryz.prog ⟨[],[(0,[0]),(1,[0,12]),(2,[2]),(3,[0,26]),(4,[2]),(5,[3]),(6,[3,30]),(7,[2]),(8,[3,4]),(9,[3,4,37]),(10,[2]),(11,[3,4,65]),(12,[2]),(13,[3,4,5]),(14,[3,4,5,6]),(15,[2])],[]⟩ Tryz.f94 = some F94 := by kernel_rfl
theorem F94_fn:FnOK2 Tryz.prog 94 (.pl F94):=.pl Tryz.func94 (by kernel_rfl) F94_ok
theorem F95_ok : prepF Tryz.prog ⟨[],[(0,[0,1]),(1,[0,1,6]),(2,[0,1,6,17]),(3,[4,5]),(4,[0,1,6,7]),(5,[0,1,6,7,8]),(6,[0,1,6,7,8,9]),(7,[0,1,6,7,8,9,19]),(8,[0,1,6,7]),(9,[0,1,6,7,8]),(10,[0,1,7,8,9]),(11,[0,1,6,7,8,9,28]),(12,[0,1,6,7]),(13,[0,1,6,7,8]),(14,[0,1,7,8,9]),(15,[0,1,6,7,8,9,37]),(16,[0,1,6,7]),(17,[0,1,6,7,8]),(18,[0,1,7,8,9]),(19,[0,1,7,8,9,55]),(20,[4,5]),(21,[0,1,7,8,9,10]),(22,[0,1,7,8,9,10,58]),(23,[0,1,7,8,9,10]),(24,[0,1,7,8,9,10,11]),(25,[0,1,7,8,9,10,11,72]),(26,[4,5]),(27,[0,1,7,8,9,10]),(28,[7,9,85]),(29,[4,5]),(30,[4,5]),(1000001,[0,1,7,8,9,10])],[]⟩ Tryz.f95 = some F95 := by kernel_rfl
theorem F95_fn:FnOK2 Tryz.prog 95 (.pl F95):=.pl Tryz.func95 (by kernel_rfl) F95_ok
theorem F96_ok : prepF Tryz.prog ⟨[],[(0,[0,4]),(1,[4,7]),(2,[2,4,7]),(3,[2,4,7,13]),(4,[2,4,7]),(5,[2,4,7,8]),(6,[2,4,7,8,28]),(7,[2,3,4,5,6]),(8,[2,3,4,7]),(9,[2,3,4,7,36]),(10,[2,3,7,8]),(11,[2,3,7,8,41]),(12,[2,3,4,5,6]),(13,[2,3,4,7]),(14,[2,3,4,7,51]),(15,[2,3,4,5,6]),(16,[2,3,4,7,62]),(17,[2,3,4,5,6]),(18,[2,3,4,5]),(19,[2,3,4,5,9]),(20,[2,3,4,5,9,69]),(21,[2,3,4,5,9]),(22,[2,3,4,5,80]),(23,[2,3,4,5,6]),(24,[2,3,4,5,6])],[]⟩ Tryz.f96 = some F96 := by kernel_rfl
theorem F96_fn:FnOK2 Tryz.prog 96 (.pl F96):=.pl Tryz.func96 (by kernel_rfl) F96_ok
theorem F97_ok : prepF Tryz.prog ⟨[],[(0,[0]),(1,[0,4]),(2,[0,4]),(3,[0,4,14]),(4,[2,3]),(5,[4,5]),(6,[5,21]),(7,[2,3]),(8,[2,3])],[]⟩ Tryz.f97 = some F97 := by kernel_rfl
theorem F97_fn:FnOK2 Tryz.prog 97 (.pl F97):=.pl Tryz.func97 (by kernel_rfl) F97_ok
abbrev N98:Note:=⟨[],[(0,[0,1]),(1,[0,1,12]),(2,[4]),(3,[0,1,21]),(4,[4]),(5,[0,1,5,6]),(6,[0,1,5,31]),(7,[4]),(8,[4])],[]⟩
def F98:DF:=pF N98 Tryz.f98
theorem F98_ok:prepF Tryz.prog N98 Tryz.f98=some F98:=by kernel_rfl
theorem F98_fn:FnOK2 Tryz.prog 98 (.pl F98):=.pl Tryz.func98 (by kernel_rfl) F98_ok
abbrev N99:Note:=⟨[],[(0,[0,1]),(1,[0,1,12]),(2,[4]),(3,[0,1,21]),(4,[4]),(5,[0,1,5,6]),(6,[0,1,5,31]),(7,[4]),(8,[4])],[]⟩
def F99:DF:=pF N99 Tryz.f99
theorem F99_ok:prepF Tryz.prog N99 Tryz.f99=some F99:=by kernel_rfl
theorem F99_fn:FnOK2 Tryz.prog 99 (.pl F99):=.pl Tryz.func99 (by kernel_rfl) F99_ok
theorem F100_ok : prepF Tryz.prog ⟨[],[(0,[0]),(1,[0,3]),(2,[0,3,13]),(3,[0,3]),(4,[2]),(1000000,[0,3])],[]⟩ Tryz.f100 = some F100 := by kernel_rfl
theorem F100_fn:FnOK2 Tryz.prog 100 (.pl F100):=.pl Tryz.func100 (by kernel_rfl) F100_ok
abbrev N101:Note:=⟨[],[(0,[0]),(1,[2])],[]⟩
def F101:DF:=pF N101 Tryz.f101
theorem F101_ok:prepF Tryz.prog N101 Tryz.f101=some F101:=by kernel_rfl
theorem F101_fn:FnOK2 Tryz.prog 101 (.pl F101):=.pl Tryz.func101 (by kernel_rfl) F101_ok
theorem F102_ok : prepF Tryz.prog ⟨[],[(0,[0]),(1,[0,25]),(2,[2]),(3,[2])],[]⟩ Tryz.f102 = some F102 := by kernel_rfl
theorem F102_fn:FnOK2 Tryz.prog 102 (.pl F102):=.pl Tryz.func102 (by kernel_rfl) F102_ok
theorem F103_ok : prepF Tryz.prog ⟨[],[(0,[0,1,2]),(1,[6])],[]⟩ Tryz.f103 = some F103 := by kernel_rfl
theorem F103_fn:FnOK2 Tryz.prog 103 (.pl F103):=.pl Tryz.func103 (by kernel_rfl) F103_ok
theorem F104_ok : prepF Tryz.prog ⟨[],[(0,[0,1]),(1,[0,5]),(2,[0,5,6]),(3,[0,5,6]),(4,[0,5,6]),(5,[0,5,6]),(6,[4]),(7,[0,11]),(8,[25]),(9,[4]),(10,[4]),(11,[4])],[]⟩ Tryz.f104 = some F104 := by kernel_rfl
theorem F104_fn:FnOK2 Tryz.prog 104 (.pl F104):=.pl Tryz.func104 (by kernel_rfl) F104_ok
abbrev N105:Note:=⟨[],[(0,[0,1]),(1,[0,1,12]),(2,[4]),(3,[0,1,21]),(4,[4]),(5,[0,1,5,6]),(6,[0,1,5,34]),(7,[4]),(8,[4])],[]⟩
def F105:DF:=pF N105 Tryz.f105
theorem F105_ok:prepF Tryz.prog N105 Tryz.f105=some F105:=by kernel_rfl
theorem F105_fn:FnOK2 Tryz.prog 105 (.pl F105):=.pl Tryz.func105 (by kernel_rfl) F105_ok
theorem F106_ok : prepF Tryz.prog ⟨[],[(0,[0,1]),(1,[4])],[]⟩ Tryz.f106 = some F106 := by kernel_rfl
theorem F106_fn:FnOK2 Tryz.prog 106 (.pl F106):=.pl Tryz.func106 (by kernel_rfl) F106_ok
theorem F107_ok : prepF Tryz.prog ⟨[],[(0,[0,1]),(1,[0,1,7]),(2,[0,1,7,12]),(3,[4,5,6]),(4,[4,5,6])],[]⟩ Tryz.f107 = some F107 := by kernel_rfl
theorem F107_fn:FnOK2 Tryz.prog 107 (.pl F107):=.pl Tryz.func107 (by kernel_rfl) F107_ok
theorem F108_ok : prepF Tryz.prog ⟨[],[(0,[0,1,2,3,8]),(1,[0,1,2,3,8,14]),(2,[0,1,2,3,8]),(3,[0,1,2,3,8,9]),(4,[0,1,2,3,8,9,34]),(5,[0,1,2,3,8,9]),(6,[0,1,2,3,8,9]),(1000000,[0,1,2,3,8]),(1000002,[0,1,2,3,8,9])],[]⟩ Tryz.f108 = some F108 := by kernel_rfl
theorem F108_fn:FnOK2 Tryz.prog 108 (.pl F108):=.pl Tryz.func108 (by kernel_rfl) F108_ok
theorem F109_ok : prepF Tryz.prog ⟨[],[(0,[0,1,2,3,4,28]),(1,[0,1,3,4,10]),(2,[0,1,4,10,11]),(3,[0,1,4,10,11,33]),(4,[0,1,4,10,11,12]),(5,[0,1,4,10,11,12,50]),(6,[0,1,4,10,11]),(7,[0,1,4,10,11]),(8,[0,10,13]),(9,[0,10,13,58]),(10,[0,10,13]),(11,[0,10,13]),(12,[0,1,2,3,4,80]),(13,[0,2,4,14]),(14,[0,2,4,14,15]),(15,[0,2,4,14,15,85]),(16,[0,2,4,14,15,16]),(17,[0,2,4,14,15,16,103]),(18,[0,2,4,14,15]),(19,[0,2,4,14,15]),(20,[0,14,17]),(21,[0,14,17,110]),(22,[0,14,17]),(23,[0,14,17]),(24,[0,1,2,3,4,18]),(25,[0,1,2,3,4,18,19]),(26,[0,1,2,3,4,18,19]),(27,[0,1,2,3,4,18,19,140]),(28,[0,1,2,3,4,18,19,20]),(29,[0,1,2,3,4,18,19,20,21]),(30,[0,1,2,3,4,18,19,20]),(31,[0,1,2,3,4,18,19,20,21]),(32,[0,1,2,3,4,18,19,20,21,22]),(33,[0,1,2,3,4,18,19,20,21,22,151]),(34,[0,1,2,3,4,18,19,20,21,22,23]),(35,[0,1,2,3,4,18,19,20,21,22,23,171]),(36,[0,1,2,3,4,18,19,20,21,22]),(37,[0,1,2,3,4,18,19,20,21,22]),(38,[0,1,2,3,4,18,20,24]),(39,[0,1,2,3,4,18,20,24,185]),(40,[0,1,3,4,18,20,24]),(41,[0,1,3,4,18,20,24,199]),(42,[0,3,4,18,24]),(43,[0,3,4,18,24,213]),(44,[]),(1000000,[0,1,4,10,11]),(1000002,[0,10,13]),(1000004,[0,2,4,14,15]),(1000006,[0,14,17]),(1000008,[0,1,2,3,4,18,19,20,21,22])],[]⟩ Tryz.f109 = some F109 := by kernel_rfl
theorem F109_fn:FnOK2 Tryz.prog 109 (.pl F109):=.pl Tryz.func109 (by kernel_rfl) F109_ok
theorem F111_ok : prepF Tryz.prog ⟨[],[(0,[0]),(1,[0,5]),(2,[2,3,4]),(3,[0,11]),(4,[2,3,4]),(5,[0,18]),(6,[2,3,4]),(7,[0,25]),(8,[2,3,4]),(9,[2,3,4])],[]⟩ Tryz.f111 = some F111 := by kernel_rfl
theorem F111_fn:FnOK2 Tryz.prog 111 (.pl F111):=.pl Tryz.func111 (by kernel_rfl) F111_ok
theorem F112_ok : prepF Tryz.prog ⟨[],[(0,[0]),(1,[2])],[]⟩ Tryz.f112 = some F112 := by kernel_rfl
theorem F112_fn:FnOK2 Tryz.prog 112 (.pl F112):=.pl Tryz.func112 (by kernel_rfl) F112_ok
theorem F113_ok : prepF Tryz.prog ⟨[2],[(0,[0,2]),(1,[0,2,4]),(2,[0,2,4,24]),(3,[0,2,4]),(4,[0,2,4,5]),(5,[0,2,4,5,44]),(6,[2,3]),(7,[0,2,5,6]),(8,[0,2,5,6,7]),(9,[0,2,5,6,7,59]),(10,[0,2,5,6,8]),(11,[0,2,5,6,8,67]),(12,[2,3]),(13,[0,2,6,7,8]),(14,[0,2,5,6,7]),(15,[0,2,5,6,7,9]),(16,[0,2,5,6,7,9,10]),(17,[0,2,5,6,7,9,10,90]),(18,[0,2,5,6,7,10]),(19,[0,2,5,6,7,10,108]),(20,[0,2,5,6,7,10]),(21,[0,2,5,6,7,10]),(22,[0,2,5,6,7,10,11]),(23,[0,2,5,6,7,10,11,120]),(24,[2,3]),(25,[0,2,6,7,9,10,11]),(26,[0,2,5,6,7,9,10]),(27,[0,2,6,7,9,10,130]),(28,[2,3]),(29,[0,2,6,7,9,10,134]),(30,[2,3]),(31,[0,2,6,7,9,10,143]),(32,[0,2,6,7,9,10]),(33,[0,2,6,7,9,10,148]),(34,[2,3]),(35,[0,2,6,7,9,10,12]),(36,[0,2,6,7,9,10,12,13]),(37,[0,2,6,7,9,10,12,13,153]),(38,[0,2,6,7,9,10,12,13]),(39,[0,2,6,7,9,10,12,13]),(40,[0,2,6,7,12,164]),(41,[0,2,6,7,12]),(42,[0,2,6,7,12]),(43,[0,2,12,14]),(44,[0,2,12,14,184]),(45,[0,2,12,14]),(46,[0,2,12,14]),(47,[0,2,12,14,199]),(48,[0,2,12,14]),(49,[0,2,12,14,203]),(50,[2,3]),(51,[2,3]),(1000000,[0,2,6,7,9,10]),(1000002,[0,2,6,7,9,10,12,13]),(1000004,[0,2,12,14]),(1000006,[0,2,12,14])],[]⟩ Tryz.f113 = some F113 := by kernel_rfl
theorem F113_fn:FnOK2 Tryz.prog 113 (.pl F113):=.pl Tryz.func113 (by kernel_rfl) F113_ok
theorem F114_ok : prepF Tryz.prog ⟨[1],[(0,[1]),(1,[1,4]),(2,[1,4,5]),(3,[1,4,5,12]),(4,[1,4,5]),(5,[1,4,5,20]),(6,[2,3]),(7,[1,4,49]),(8,[2,3]),(9,[1,4,57]),(10,[2,3]),(11,[1,59]),(12,[2,3]),(13,[1,6]),(14,[1,6,63]),(15,[1,6]),(16,[1,6,68]),(17,[6]),(18,[6,77]),(19,[2,3]),(20,[2,3]),(1000000,[1,4,5])],[]⟩ Tryz.f114 = some F114 := by kernel_rfl
theorem F114_fn:FnOK2 Tryz.prog 114 (.pl F114):=.pl Tryz.func114 (by kernel_rfl) F114_ok
theorem F115_ok : prepF Tryz.prog ⟨[],[(0,[0]),(1,[0,19]),(2,[2]),(3,[0,3]),(4,[0,3,4]),(5,[3,4,5]),(6,[3,4,5,39]),(7,[2]),(8,[3,4,5,6]),(9,[3,4,5,6,53]),(10,[3,4,5,6]),(11,[3,5,6,55]),(12,[3,5,6]),(13,[5,6,68]),(14,[5,6]),(15,[2])],[]⟩ Tryz.f115 = some F115 := by kernel_rfl
theorem F115_fn:FnOK2 Tryz.prog 115 (.pl F115):=.pl Tryz.func115 (by kernel_rfl) F115_ok
theorem F116_ok : prepF Tryz.prog ⟨[],[(0,[0]),(1,[0,18]),(2,[2]),(3,[0,3]),(4,[0,3,4]),(5,[0,3,4,5]),(6,[0,46]),(7,[2]),(8,[0,49]),(9,[2]),(10,[2])],[]⟩ Tryz.f116 = some F116 := by kernel_rfl
theorem F116_fn:FnOK2 Tryz.prog 116 (.pl F116):=.pl Tryz.func116 (by kernel_rfl) F116_ok
theorem F117_ok : prepF Tryz.prog ⟨[],[(0,[0,1,2]),(1,[0,1,2,7]),(2,[0,1,2,7,8]),(3,[0,1,2,7,8,14]),(4,[0,1,2,7,8]),(5,[0,1,2,7,8,32]),(6,[6]),(7,[0,1,2,7,8]),(8,[6]),(1000000,[0,1,2,7,8])],[]⟩ Tryz.f117 = some F117 := by kernel_rfl
theorem F117_fn:FnOK2 Tryz.prog 117 (.pl F117):=.pl Tryz.func117 (by kernel_rfl) F117_ok
theorem F118_ok : prepF Tryz.prog ⟨[],[(0,[0]),(1,[2])],[]⟩ Tryz.f118 = some F118 := by kernel_rfl
theorem F118_fn:FnOK2 Tryz.prog 118 (.pl F118):=.pl Tryz.func118 (by kernel_rfl) F118_ok
theorem F119_ok : prepF Tryz.prog ⟨[],[(0,[0,1]),(1,[4])],[]⟩ Tryz.f119 = some F119 := by kernel_rfl
theorem F119_fn:FnOK2 Tryz.prog 119 (.pl F119):=.pl Tryz.func119 (by kernel_rfl) F119_ok
theorem F120_ok : prepF Tryz.prog ⟨[],[(0,[0,1]),(1,[4])],[]⟩ Tryz.f120 = some F120 := by kernel_rfl
theorem F120_fn:FnOK2 Tryz.prog 120 (.pl F120):=.pl Tryz.func120 (by kernel_rfl) F120_ok
abbrev N121:Note:=⟨[],[(0,[0]),(1,[0,4,5]),(2,[0,4,5,12]),(3,[2,3]),(4,[2,3])],[]⟩
def F121:DF:=pF N121 Tryz.f121
theorem F121_ok:prepF Tryz.prog N121 Tryz.f121=some F121:=by kernel_rfl
theorem F121_fn:FnOK2 Tryz.prog 121 (.pl F121):=.pl Tryz.func121 (by kernel_rfl) F121_ok
abbrev N122:Note:=⟨[],[(0,[0,1]),(1,[0,1,13]),(2,[0,1]),(3,[4]),(1000000,[0,1])],[]⟩
def F122:DF:=pF N122 Tryz.f122
theorem F122_ok:prepF Tryz.prog N122 Tryz.f122=some F122:=by kernel_rfl
theorem F122_fn:FnOK2 Tryz.prog 122 (.pl F122):=.pl Tryz.func122 (by kernel_rfl) F122_ok
abbrev N123:Note:=⟨[2],[(0,[0,2]),(1,[0,2,4]),(2,[0,2,4,9]),(3,[0,2,4]),(4,[0,2,4,5]),(5,[0,2,4,5,16]),(6,[2,3]),(7,[0,2,4]),(8,[2,3]),(1000000,[0,2,4])],[]⟩
def F123:DF:=pF N123 Tryz.f123
theorem F123_ok:prepF Tryz.prog N123 Tryz.f123=some F123:=by kernel_rfl
theorem F123_fn:FnOK2 Tryz.prog 123 (.pl F123):=.pl Tryz.func123 (by kernel_rfl) F123_ok
abbrev N124:Note:=⟨[],[(0,[0,1]),(1,[0,1,7]),(2,[0,1,12]),(3,[0,1]),(4,[4]),(1000000,[0,1])],[]⟩
def F124:DF:=pF N124 Tryz.f124
theorem F124_ok:prepF Tryz.prog N124 Tryz.f124=some F124:=by kernel_rfl
theorem F124_fn:FnOK2 Tryz.prog 124 (.pl F124):=.pl Tryz.func124 (by kernel_rfl) F124_ok
abbrev N125:Note:=⟨[],[(0,[0,1]),(1,[0,1,9]),(2,[0,1,5,6]),(3,[0,1,6,18]),(4,[0,1]),(5,[4]),(1000000,[0,1])],[]⟩
def F125:DF:=pF N125 Tryz.f125
theorem F125_ok:prepF Tryz.prog N125 Tryz.f125=some F125:=by kernel_rfl
theorem F125_fn:FnOK2 Tryz.prog 125 (.pl F125):=.pl Tryz.func125 (by kernel_rfl) F125_ok
abbrev N126:Note:=⟨[],[(0,[0,1]),(1,[0,1,16]),(2,[0,1]),(3,[4]),(1000000,[0,1])],[]⟩
def F126:DF:=pF N126 Tryz.f126
theorem F126_ok:prepF Tryz.prog N126 Tryz.f126=some F126:=by kernel_rfl
theorem F126_fn:FnOK2 Tryz.prog 126 (.pl F126):=.pl Tryz.func126 (by kernel_rfl) F126_ok
abbrev N127:Note:=⟨[],[(0,[0,1]),(1,[0,1,7]),(2,[0,1,15]),(3,[0,1]),(4,[4]),(1000000,[0,1])],[]⟩
def F127:DF:=pF N127 Tryz.f127
theorem F127_ok:prepF Tryz.prog N127 Tryz.f127=some F127:=by kernel_rfl
theorem F127_fn:FnOK2 Tryz.prog 127 (.pl F127):=.pl Tryz.func127 (by kernel_rfl) F127_ok
abbrev N128:Note:=⟨[],[(0,[0,1]),(1,[0,1,9]),(2,[0,1,5,6]),(3,[0,1,5,6,17]),(4,[0,1,5,6]),(5,[0,1,6,26]),(6,[0,1]),(7,[4]),(1000000,[0,1])],[]⟩
def F128:DF:=pF N128 Tryz.f128
theorem F128_ok:prepF Tryz.prog N128 Tryz.f128=some F128:=by kernel_rfl
theorem F128_fn:FnOK2 Tryz.prog 128 (.pl F128):=.pl Tryz.func128 (by kernel_rfl) F128_ok
theorem F129_ok : prepF Tryz.prog ⟨[],[(0,[0]),(1,[2])],[]⟩ Tryz.f129 = some F129 := by kernel_rfl
theorem F129_fn:FnOK2 Tryz.prog 129 (.pl F129):=.pl Tryz.func129 (by kernel_rfl) F129_ok
abbrev N130:Note:=⟨[],[(0,[0]),(1,[2])],[]⟩
def F130:DF:=pF N130 Tryz.f130
theorem F130_ok:prepF Tryz.prog N130 Tryz.f130=some F130:=by kernel_rfl
theorem F130_fn:FnOK2 Tryz.prog 130 (.pl F130):=.pl Tryz.func130 (by kernel_rfl) F130_ok
theorem F131_ok : prepF Tryz.prog ⟨[],[(0,[0,1]),(1,[4])],[]⟩ Tryz.f131 = some F131 := by kernel_rfl
theorem F131_fn:FnOK2 Tryz.prog 131 (.pl F131):=.pl Tryz.func131 (by kernel_rfl) F131_ok
theorem F132_ok : prepF Tryz.prog ⟨[],[(0,[0,1]),(1,[0,1,5]),(2,[0,1,5,16]),(3,[4]),(4,[0,1,5,24]),(5,[4]),(6,[0,1,5,31]),(7,[4]),(8,[0,1,5,36]),(9,[4]),(10,[0,1,5,6]),(11,[0,1,5,6,7]),(12,[0,1,5,6,7,8]),(13,[0,1,5,6,7,8,9]),(14,[0,1,5,6,7,8,9,10]),(15,[0,1,5,6,7,8,9,10,59]),(16,[0,1,5,6,7,8,9,10,64]),(17,[0,1,5,6,7,8,9,10,11]),(18,[0,1,5,6,7,8,9,10,11,73]),(19,[4]),(20,[0,1,5,6,7,8,9,10]),(21,[0,1,5,6,7,8,9,10,93]),(22,[4]),(23,[0,1,5,6,7,8,9,10]),(24,[0,1,5,6,7,8,9,10]),(25,[0,1,5,6,7,8,9,10,107]),(26,[8,12]),(27,[8,12,114]),(28,[4]),(29,[4]),(30,[0,1,5,6,7,8,9,10,132]),(31,[8,13]),(32,[8,13,139]),(33,[4]),(34,[4]),(35,[4]),(1000001,[0,1,5,6,7,8,9,10])],[]⟩ Tryz.f132 = some F132 := by kernel_rfl
theorem F132_fn:FnOK2 Tryz.prog 132 (.pl F132):=.pl Tryz.func132 (by kernel_rfl) F132_ok
theorem F133_ok : prepF Tryz.prog ⟨[],[(0,[0,2,3,4,10]),(1,[0,2,4,10,11]),(2,[0,2,4,10,11,20]),(3,[0,2,4,10,11,23]),(4,[0,2,4,10,11]),(5,[0,2,4,10,11]),(6,[0,2,4,10,11]),(7,[0,2,4,10,11]),(8,[]),(1000000,[0,2,4,10,11])],[]⟩ Tryz.f133 = some F133 := by kernel_rfl
theorem F133_fn:FnOK2 Tryz.prog 133 (.pl F133):=.pl Tryz.func133 (by kernel_rfl) F133_ok
theorem F134_ok : prepF Tryz.prog ⟨[],[(0,[0,1]),(1,[0,1,14]),(2,[0,1]),(3,[4]),(1000000,[0,1])],[]⟩ Tryz.f134 = some F134 := by kernel_rfl
theorem F134_fn:FnOK2 Tryz.prog 134 (.pl F134):=.pl Tryz.func134 (by kernel_rfl) F134_ok
theorem F135_ok : prepF Tryz.prog ⟨[],[(0,[0]),(1,[2])],[]⟩ Tryz.f135 = some F135 := by kernel_rfl
theorem F135_fn:FnOK2 Tryz.prog 135 (.pl F135):=.pl Tryz.func135 (by kernel_rfl) F135_ok
theorem F136_ok : prepF Tryz.prog ⟨[],[(0,[0]),(1,[0,6]),(2,[2]),(3,[3]),(4,[3,4]),(5,[3,4,17]),(6,[4]),(7,[2])],[]⟩ Tryz.f136 = some F136 := by kernel_rfl
theorem F136_fn:FnOK2 Tryz.prog 136 (.pl F136):=.pl Tryz.func136 (by kernel_rfl) F136_ok
theorem F137_ok : prepF Tryz.prog ⟨[],[(0,[0,1]),(1,[4])],[]⟩ Tryz.f137 = some F137 := by kernel_rfl
theorem F137_fn:FnOK2 Tryz.prog 137 (.pl F137):=.pl Tryz.func137 (by kernel_rfl) F137_ok
theorem F138_ok : prepF Tryz.prog ⟨[],[(0,[0,1]),(1,[0,1,7]),(2,[4]),(3,[4])],[]⟩ Tryz.f138 = some F138 := by kernel_rfl
theorem F138_fn:FnOK2 Tryz.prog 138 (.pl F138):=.pl Tryz.func138 (by kernel_rfl) F138_ok
abbrev N139:Note:=⟨[],[(0,[0]),(1,[0,4]),(2,[0,30]),(3,[0,5]),(4,[0,5,39]),(5,[0,5]),(6,[0,5,44]),(7,[2,3]),(8,[0,5,6]),(9,[5,6,47,48,49]),(10,[5,6,47,48,49,50]),(11,[5,6,8,47,48,49]),(12,[5,6,8,47,48,49]),(13,[5,6,8,47,48,49,56]),(14,[2,3]),(15,[5,6,47,48,49]),(16,[5,6,47,48,49]),(17,[6,66]),(18,[6]),(19,[2,3]),(20,[9,10]),(21,[2,3]),(1000000,[5,6,47,48,49])],[]⟩
def F139:DF:=pF N139 Tryz.f139
theorem F139_ok:prepF Tryz.prog N139 Tryz.f139=some F139:=by kernel_rfl
theorem F139_fn:FnOK2 Tryz.prog 139 (.pl F139):=.pl Tryz.func139 (by kernel_rfl) F139_ok
abbrev N140:Note:=⟨[],[(0,[0,1,2,3,4]),(1,[0,1,2,3,4,11]),(2,[0,1,2,3,4,11,12]),(3,[10]),(4,[0,1,2,3,4,11,19]),(5,[10]),(6,[0,1,2,3,4,11,26]),(7,[10]),(8,[0,1,3,4,34]),(9,[10]),(10,[10])],[]⟩
def F140:DF:=pF N140 Tryz.f140
theorem F140_ok:prepF Tryz.prog N140 Tryz.f140=some F140:=by kernel_rfl
theorem F140_fn:FnOK2 Tryz.prog 140 (.pl F140):=.pl Tryz.func140 (by kernel_rfl) F140_ok
abbrev N141:Note:=⟨[],[(0,[0,1]),(1,[4])],[]⟩
def F141:DF:=pF N141 Tryz.f141
theorem F141_ok:prepF Tryz.prog N141 Tryz.f141=some F141:=by kernel_rfl
theorem F141_fn:FnOK2 Tryz.prog 141 (.pl F141):=.pl Tryz.func141 (by kernel_rfl) F141_ok
abbrev N142:Note:=⟨[],[(0,[0]),(1,[0,10]),(2,[2,3]),(3,[2,3])],[]⟩
def F142:DF:=pF N142 Tryz.f142
theorem F142_ok:prepF Tryz.prog N142 Tryz.f142=some F142:=by kernel_rfl
theorem F142_fn:FnOK2 Tryz.prog 142 (.pl F142):=.pl Tryz.func142 (by kernel_rfl) F142_ok
abbrev N143:Note:=⟨[],[(0,[0,1]),(1,[4])],[]⟩
def F143:DF:=pF N143 Tryz.f143
theorem F143_ok:prepF Tryz.prog N143 Tryz.f143=some F143:=by kernel_rfl
theorem F143_fn:FnOK2 Tryz.prog 143 (.pl F143):=.pl Tryz.func143 (by kernel_rfl) F143_ok
abbrev N144:Note:=⟨[],[(0,[0]),(1,[0,4]),(2,[0,4,10]),(3,[2,3]),(4,[0,4,5]),(5,[0,2,4,5]),(6,[0,2,4,5,18]),(7,[2,3]),(8,[0,4,5,6]),(9,[0,4,5,6]),(10,[0,4,5,6,27]),(11,[0,4,5,6]),(12,[0,4,5,6,33]),(13,[0,4,5,35]),(14,[0,4,5]),(15,[2,3,4,5]),(16,[2,3,48]),(17,[2,3]),(18,[2,3]),(1000000,[0,4,5,6])],[]⟩
def F144:DF:=pF N144 Tryz.f144
theorem F144_ok:prepF Tryz.prog N144 Tryz.f144=some F144:=by kernel_rfl
theorem F144_fn:FnOK2 Tryz.prog 144 (.pl F144):=.pl Tryz.func144 (by kernel_rfl) F144_ok
abbrev N145:Note:=⟨[],[(0,[0,1]),(1,[0,1,11]),(2,[0,17]),(3,[4]),(4,[0,5]),(5,[0,5,6]),(6,[0,5,6,23]),(7,[0,5,6]),(8,[0,5,6,7]),(9,[0,5,7]),(10,[5,7,34]),(11,[5,7]),(12,[4]),(13,[4]),(14,[9]),(15,[4])],[]⟩
def F145:DF:=pF N145 Tryz.f145
theorem F145_ok:prepF Tryz.prog N145 Tryz.f145=some F145:=by kernel_rfl
theorem F145_fn:FnOK2 Tryz.prog 145 (.pl F145):=.pl Tryz.func145 (by kernel_rfl) F145_ok
theorem F146_ok : prepF Tryz.prog ⟨[],[(0,[0,1]),(1,[4])],[]⟩ Tryz.f146 = some F146 := by kernel_rfl
theorem F146_fn:FnOK2 Tryz.prog 146 (.pl F146):=.pl Tryz.func146 (by kernel_rfl) F146_ok
abbrev N148:Note:=⟨[],[(0,[0]),(1,[2])],[]⟩
def F148:DF:=pF N148 Tryz.f148
theorem F148_ok:prepF Tryz.prog N148 Tryz.f148=some F148:=by kernel_rfl
theorem F148_fn:FnOK2 Tryz.prog 148 (.pl F148):=.pl Tryz.func148 (by kernel_rfl) F148_ok
abbrev N149:Note:=⟨[],[(0,[0,1]),(1,[0,1,5,6]),(2,[0,1,5,6,7]),(3,[0,1,5,6,7,8]),(4,[0,1,5,6,7,8,9]),(5,[0,1,5,6,7,8,9,20]),(6,[0,1,5,6,7,8,9]),(7,[0,1,5,6,7,8,9]),(8,[0,1,5,6,7,8,39]),(9,[4]),(10,[0,1,5,6,7,8,10]),(11,[0,1,5,6,7,8,10,44]),(12,[0,1,5,6,7,8,10]),(13,[0,1,5,6,7,8,10]),(14,[0,1,5,6,7,8,10]),(15,[0,1,5,6,7,8,10]),(16,[0,1,5,6,7,8,10,77]),(17,[4]),(18,[4]),(1000000,[0,1,5,6,7,8,9]),(1000002,[0,1,5,6,7,8,10])],[]⟩
def F149:DF:=pF N149 Tryz.f149
theorem F149_ok:prepF Tryz.prog N149 Tryz.f149=some F149:=by kernel_rfl
theorem F149_fn:FnOK2 Tryz.prog 149 (.pl F149):=.pl Tryz.func149 (by kernel_rfl) F149_ok
theorem F150_ok : prepF Tryz.prog ⟨[],[(0,[0,1,2,3,10]),(1,[0,1,2,3,10,13]),(2,[0,1,2,3,10]),(3,[0,1,2,3,10]),(1000000,[0,1,2,3,10])],[]⟩ Tryz.f150 = some F150 := by kernel_rfl
theorem F150_fn:FnOK2 Tryz.prog 150 (.pl F150):=.pl Tryz.func150 (by kernel_rfl) F150_ok
theorem F151_ok : prepF Tryz.prog ⟨[],[(0,[0]),(1,[0,3]),(2,[0,3,8]),(3,[0,3]),(4,[0,3]),(5,[3]),(6,[3,4]),(7,[3,4,5]),(8,[3,4,5,29]),(9,[3,4,5]),(10,[3,4,5]),(11,[2]),(1000000,[0,3]),(1000002,[3,4,5])],[]⟩ Tryz.f151 = some F151 := by kernel_rfl
theorem F151_fn:FnOK2 Tryz.prog 151 (.pl F151):=.pl Tryz.func151 (by kernel_rfl) F151_ok
abbrev N152:Note:=⟨[],[(0,[0,1,2]),(1,[0,1,2,13]),(2,[6,7]),(3,[0,1,2,8]),(4,[0,1,2,8,16]),(5,[0,1,2,8,16,17]),(6,[0,1,2,8]),(7,[0,1,2,8,21]),(8,[0,1,2]),(9,[0,1,2,8]),(10,[0,1,2,8]),(11,[2,7,8,9]),(12,[2,7,8,9,38]),(13,[6,7]),(14,[2,8,9,41]),(15,[2,8,9]),(16,[8,9,10]),(17,[8,9,10,52]),(18,[6,7]),(19,[8,9,10,62]),(20,[6,7]),(21,[8,11]),(22,[11,69]),(23,[11]),(24,[6,7])],[]⟩
def F152:DF:=pF N152 Tryz.f152
theorem F152_ok:prepF Tryz.prog N152 Tryz.f152=some F152:=by kernel_rfl
theorem F152_fn:FnOK2 Tryz.prog 152 (.pl F152):=.pl Tryz.func152 (by kernel_rfl) F152_ok
abbrev N153:Note:=⟨[],[(0,[0,1]),(1,[4])],[]⟩
def F153:DF:=pF N153 Tryz.f153
theorem F153_ok:prepF Tryz.prog N153 Tryz.f153=some F153:=by kernel_rfl
theorem F153_fn:FnOK2 Tryz.prog 153 (.pl F153):=.pl Tryz.func153 (by kernel_rfl) F153_ok
abbrev N154:Note:=⟨[],[(0,[0,1]),(1,[4])],[]⟩
def F154:DF:=pF N154 Tryz.f154
theorem F154_ok:prepF Tryz.prog N154 Tryz.f154=some F154:=by kernel_rfl
theorem F154_fn:FnOK2 Tryz.prog 154 (.pl F154):=.pl Tryz.func154 (by kernel_rfl) F154_ok
abbrev N155:Note:=⟨[],[(0,[0,1,2]),(1,[6])],[]⟩
def F155:DF:=pF N155 Tryz.f155
theorem F155_ok:prepF Tryz.prog N155 Tryz.f155=some F155:=by kernel_rfl
theorem F155_fn:FnOK2 Tryz.prog 155 (.pl F155):=.pl Tryz.func155 (by kernel_rfl) F155_ok
abbrev N156:Note:=⟨[],[(0,[0,1,2]),(1,[6])],[]⟩
def F156:DF:=pF N156 Tryz.f156
theorem F156_ok:prepF Tryz.prog N156 Tryz.f156=some F156:=by kernel_rfl
theorem F156_fn:FnOK2 Tryz.prog 156 (.pl F156):=.pl Tryz.func156 (by kernel_rfl) F156_ok
abbrev N157:Note:=⟨[9],[(0,[0]),(1,[0,4]),(2,[0,4,16]),(3,[2,3]),(4,[0,4,5]),(5,[0,4,5,6]),(6,[0,4,5,6,23]),(7,[0,7]),(8,[2,3]),(9,[0,4,5,6,8]),(10,[0,4,5,8,9]),(11,[0,5,8,9,45]),(12,[2,3]),(13,[0,5,8,9,10]),(14,[0,5,8,10,57]),(15,[2,3]),(16,[0,5,8,10,59]),(17,[2,3]),(18,[0,5,8,10,11]),(19,[0,5,8,10,11,75]),(20,[2,3]),(21,[0,5,10,11,77]),(22,[2,3]),(23,[5,10,11,12]),(24,[5,10,11,12,98]),(25,[2,3]),(26,[2,3])],[]⟩
def F157:DF:=pF N157 Tryz.f157
theorem F157_ok:prepF Tryz.prog N157 Tryz.f157=some F157:=by kernel_rfl
theorem F157_fn:FnOK2 Tryz.prog 157 (.pl F157):=.pl Tryz.func157 (by kernel_rfl) F157_ok
abbrev N158:Note:=⟨[],[(0,[0,1]),(1,[0,7]),(2,[0,7,8]),(3,[0,7,8,9]),(4,[0,7,8,9]),(5,[0,7,8,9,26]),(6,[0,7,8,9,33]),(7,[0,7,8,9,11]),(8,[0,7,8,9,11,43]),(9,[4]),(10,[0,7,8,9]),(11,[0,7,8,9,12]),(12,[0,7,8,9,12,51]),(13,[0,7,8,9,12]),(14,[0,7,8,9,12,64]),(15,[4]),(16,[0,7,8,9,10]),(17,[0,7,8,9,10]),(18,[0,7,8,9,98]),(19,[4]),(20,[8,9,13]),(21,[8,9,13,108]),(22,[4]),(23,[0,7,8,9,14]),(24,[0,7,8,9,14,15]),(25,[0,7,8,9,14,15,124]),(26,[0,7,8,9,14,15]),(27,[0,7,8,9,14,15,139]),(28,[0,7,8,9,14,15,16]),(29,[0,7,8,9,14,15,16,143]),(30,[0,7,8,9,14,15,16]),(31,[0,7,8,9,14,15,16,156]),(32,[4]),(33,[4]),(34,[0,1,160]),(35,[4]),(36,[0,1,171]),(37,[175]),(38,[175,176,177]),(39,[5,6,175]),(40,[5,175,181]),(41,[4]),(42,[4]),(43,[0,1,183]),(44,[4]),(1000001,[0,7,8,9]),(1000003,[0,7,8,9,12]),(1000005,[0,7,8,9,14,15]),(1000007,[0,7,8,9,14,15,16]),(1000009,[175])],[]⟩
def F158:DF:=pF N158 Tryz.f158
theorem F158_ok:prepF Tryz.prog N158 Tryz.f158=some F158:=by kernel_rfl
theorem F158_fn:FnOK2 Tryz.prog 158 (.pl F158):=.pl Tryz.func158 (by kernel_rfl) F158_ok
abbrev N159:Note:=⟨[],[(0,[0]),(1,[2])],[]⟩
def F159:DF:=pF N159 Tryz.f159
theorem F159_ok:prepF Tryz.prog N159 Tryz.f159=some F159:=by kernel_rfl
theorem F159_fn:FnOK2 Tryz.prog 159 (.pl F159):=.pl Tryz.func159 (by kernel_rfl) F159_ok
abbrev N160:Note:=⟨[],[(0,[0]),(1,[0,4]),(2,[2]),(3,[2])],[]⟩
def F160:DF:=pF N160 Tryz.f160
theorem F160_ok:prepF Tryz.prog N160 Tryz.f160=some F160:=by kernel_rfl
theorem F160_fn:FnOK2 Tryz.prog 160 (.pl F160):=.pl Tryz.func160 (by kernel_rfl) F160_ok
abbrev N161:Note:=⟨[],[(0,[0]),(1,[0,3]),(2,[2])],[]⟩
def F161:DF:=pF N161 Tryz.f161
theorem F161_ok:prepF Tryz.prog N161 Tryz.f161=some F161:=by kernel_rfl
theorem F161_fn:FnOK2 Tryz.prog 161 (.pl F161):=.pl Tryz.func161 (by kernel_rfl) F161_ok
abbrev N162:Note:=⟨[],[(0,[0,1,4]),(1,[0,1,4,20]),(2,[0,1,4,5]),(3,[0,1,4,5]),(4,[0,1,4,6,7]),(5,[0,1,4,6,8,9]),(6,[0,1,4,8,9,10,11]),(7,[0,1,4,8,10,11]),(8,[0,1,4,10,11]),(9,[0,1,4,10]),(10,[0,1,4]),(11,[0,1,4]),(12,[0,4,12]),(13,[0,4,12,99]),(14,[0,4,12,13]),(15,[0,4,12,13]),(16,[0,4,12,14,15]),(17,[0,4,12,14]),(18,[0,4,12]),(19,[0,4,12]),(20,[0,4,12,139]),(21,[0,4,12,16]),(22,[0,4,12,16]),(23,[0,4,12]),(24,[0,4,12]),(25,[0,12,161]),(26,[]),(1000000,[0,1,4])],[]⟩
def F162:DF:=pF N162 Tryz.f162
theorem F162_ok:prepF Tryz.prog N162 Tryz.f162=some F162:=by kernel_rfl
theorem F162_fn:FnOK2 Tryz.prog 162 (.pl F162):=.pl Tryz.func162 (by kernel_rfl) F162_ok
abbrev N163:Note:=⟨[],[(0,[0,1,2,3,4,10,11]),(1,[0,1,2,3,4,10,11,28]),(2,[0,1,2,3,4,10,11]),(3,[0,1,2,3,4,10,11,12]),(4,[0,1,2,3,4,10,11,12,13]),(5,[0,1,2,3,4,10,11,12,13,30]),(6,[0,1,2,3,4,10,11,12,13]),(7,[0,1,2,3,4,10,11,12,13,34]),(8,[0,1,2,3,4,10,11,12,13,14]),(9,[0,1,2,3,4,10,11,12,13,14,15]),(10,[0,1,3,4,10,11,12,13,14,15,16]),(11,[0,1,3,4,10,11,12,13,14,15,16,46]),(12,[0,1,3,4,10,11,12,13,14,15,16]),(13,[0,1,3,4,10,11,12,13,14,15,16]),(14,[0,1,3,4,10,11,12,13,14,15,16]),(15,[0,1,3,4,10,11,12,13]),(16,[0,3,4,10,11,12,13]),(17,[0,1,3,4,10,11,12,13,17]),(18,[0,1,3,4,10,11,12,13,17,68]),(19,[0,1,3,4,10,11,12,13,17]),(20,[0,1,3,4,10,11,12,13,17,18]),(21,[0,3,4,10,11,12,13,17,18]),(22,[0,1,3,4,10,11,12,13,17]),(23,[0,1,3,4,10,11,12,13]),(24,[0,3,4,10,11,12,13]),(25,[0,4,10,11,12,13,89]),(26,[0,4,10,11,12,13]),(27,[0,4,10,11,12,13]),(28,[0,10,11,12,13,94]),(29,[10,11]),(30,[10,11]),(1000000,[0,1,3,4,10,11,12,13,14,15,16]),(1000002,[0,1,3,4,10,11,12,13,17])],[]⟩
def F163:DF:=pF N163 Tryz.f163
theorem F163_ok:prepF Tryz.prog N163 Tryz.f163=some F163:=by kernel_rfl
theorem F163_fn:FnOK2 Tryz.prog 163 (.pl F163):=.pl Tryz.func163 (by kernel_rfl) F163_ok
abbrev N165:Note:=⟨[],[(0,[0]),(1,[0,4]),(2,[0,4,5]),(3,[0,4,5,12]),(4,[0,4,5]),(5,[0,4,5]),(6,[0,4,6,7]),(7,[4,6,7,8]),(8,[4,6,7,8,25]),(9,[4,6,7,8]),(10,[4,6,7,8,30]),(11,[4,6,7,8]),(12,[4,6,7,8]),(13,[2,3]),(1000000,[0,4,5]),(1000002,[4,6,7,8])],[]⟩
def F165:DF:=pF N165 Tryz.f165
theorem F165_ok:prepF Tryz.prog N165 Tryz.f165=some F165:=by kernel_rfl
theorem F165_fn:FnOK2 Tryz.prog 165 (.pl F165):=.pl Tryz.func165 (by kernel_rfl) F165_ok
abbrev N166:Note:=⟨[],[(0,[0,1,2]),(1,[0,1,2,19]),(2,[6,7]),(3,[0,1,2,8]),(4,[0,1,2,8,9]),(5,[6,7]),(6,[0,1,2,8,9,25]),(7,[0,2,8,9,32]),(8,[0,1,2,8,9]),(9,[0,1,2,8,9,37]),(10,[0,1,2,8,9]),(11,[0,1,2,8,9]),(12,[0,2,8,9,40]),(13,[0,1,2,8,9]),(14,[0,1,2,8,9]),(15,[0,2,8,9,52]),(16,[0,1,2,8,9]),(17,[0,1,2,8,9]),(18,[0,2,8,9,64]),(19,[0,1,2,8,9]),(20,[0,1,2,8,9]),(21,[0,1,2,8,9,77]),(22,[0,1,2,8,9]),(23,[0,1,2,8,9,83]),(24,[6,7]),(25,[0,1,2,8,9]),(26,[0,1,2,8,9,85]),(27,[0,1,2,8,9,10]),(28,[0,1,2,8,9,85,90]),(29,[0,1,2,8,9,10]),(30,[0,1,2,8,9,92]),(31,[0,1,2,8,9,10]),(32,[0,1,8,9,10,11]),(33,[0,1,8,9,10,11,12]),(34,[0,1,8,9,10,11,12,13]),(35,[1,8,9,10,11,12,13,99,100,101]),(36,[1,8,9,10,11,12,13,99,100,101,102]),(37,[1,8,9,10,11,12,13,15,99,100,101]),(38,[1,8,9,10,11,12,13,15,99,100,101]),(39,[6,7]),(40,[1,8,9,10,11,12,13,15,99,100,101,106]),(41,[1,8,9,10,11,12,13,99,100,101]),(42,[1,8,9,10,11,12,13,15,99,100,101,112]),(43,[1,8,9,10,11,12,13,16,99,100,101]),(44,[1,8,9,10,11,12,13,15,99,100,101,121]),(45,[1,8,9,10,11,12,13,16,99,100,101]),(46,[1,8,9,10,11,12,13,16,99,100,101,137]),(47,[6,7]),(48,[1,8,9,10,11,12,13,16,99,100,101,141]),(49,[6,7]),(50,[1,8,9,10,11,12,13,16,99,100,101]),(51,[1,8,9,10,11,12,13,17,99,100,101]),(52,[1,8,9,10,11,12,17,99,100,101,159]),(53,[6,7]),(54,[1,8,9,10,11,12,13,99,100,101]),(55,[1,8,9,10,11,12,13,99,100,101]),(56,[13,169]),(57,[6,7]),(58,[6,7]),(1000003,[1,8,9,10,11,12,13,99,100,101])],[]⟩
def F166:DF:=pF N166 Tryz.f166
theorem F166_ok:prepF Tryz.prog N166 Tryz.f166=some F166:=by kernel_rfl
theorem F166_fn:FnOK2 Tryz.prog 166 (.pl F166):=.pl Tryz.func166 (by kernel_rfl) F166_ok
abbrev N167:Note:=⟨[],[(0,[0]),(1,[0,6]),(2,[2]),(3,[0,3]),(4,[3]),(5,[2])],[]⟩
def F167:DF:=pF N167 Tryz.f167
theorem F167_ok:prepF Tryz.prog N167 Tryz.f167=some F167:=by kernel_rfl
theorem F167_fn:FnOK2 Tryz.prog 167 (.pl F167):=.pl Tryz.func167 (by kernel_rfl) F167_ok
abbrev N168:Note:=⟨[],[(0,[0]),(1,[2])],[]⟩
def F168:DF:=pF N168 Tryz.f168
theorem F168_ok:prepF Tryz.prog N168 Tryz.f168=some F168:=by kernel_rfl
theorem F168_fn:FnOK2 Tryz.prog 168 (.pl F168):=.pl Tryz.func168 (by kernel_rfl) F168_ok
abbrev N169:Note:=⟨[],[(0,[0,1]),(1,[4])],[]⟩
def F169:DF:=pF N169 Tryz.f169
theorem F169_ok:prepF Tryz.prog N169 Tryz.f169=some F169:=by kernel_rfl
theorem F169_fn:FnOK2 Tryz.prog 169 (.pl F169):=.pl Tryz.func169 (by kernel_rfl) F169_ok
abbrev N170:Note:=⟨[],[(0,[0]),(1,[0,3]),(2,[2]),(3,[10]),(4,[2]),(5,[2])],[]⟩
def F170:DF:=pF N170 Tryz.f170
theorem F170_ok:prepF Tryz.prog N170 Tryz.f170=some F170:=by kernel_rfl
theorem F170_fn:FnOK2 Tryz.prog 170 (.pl F170):=.pl Tryz.func170 (by kernel_rfl) F170_ok
abbrev N171:Note:=⟨[],[(0,[0]),(1,[2])],[]⟩
def F171:DF:=pF N171 Tryz.f171
theorem F171_ok:prepF Tryz.prog N171 Tryz.f171=some F171:=by kernel_rfl
theorem F171_fn:FnOK2 Tryz.prog 171 (.pl F171):=.pl Tryz.func171 (by kernel_rfl) F171_ok
abbrev N172:Note:=⟨[],[(0,[0,2]),(1,[0,2,4]),(2,[0]),(3,[0,2]),(4,[0,2,8]),(5,[0,2]),(6,[0,2]),(7,[0,2,14]),(8,[0,2]),(9,[0,2]),(10,[2])],[]⟩
def F172:DF:=pF N172 Tryz.f172
theorem F172_ok:prepF Tryz.prog N172 Tryz.f172=some F172:=by kernel_rfl
theorem F172_fn:FnOK2 Tryz.prog 172 (.pl F172):=.pl Tryz.func172 (by kernel_rfl) F172_ok
abbrev N173:Note:=⟨[],[(0,[0]),(1,[3]),(2,[2]),(3,[2])],[]⟩
def F173:DF:=pF N173 Tryz.f173
theorem F173_ok:prepF Tryz.prog N173 Tryz.f173=some F173:=by kernel_rfl
theorem F173_fn:FnOK2 Tryz.prog 173 (.pl F173):=.pl Tryz.func173 (by kernel_rfl) F173_ok
abbrev N174:Note:=⟨[],[(0,[0]),(1,[2])],[]⟩
def F174:DF:=pF N174 Tryz.f174
theorem F174_ok:prepF Tryz.prog N174 Tryz.f174=some F174:=by kernel_rfl
theorem F174_fn:FnOK2 Tryz.prog 174 (.pl F174):=.pl Tryz.func174 (by kernel_rfl) F174_ok
abbrev N175:Note:=⟨[],[(0,[0]),(1,[2]),(2,[2])],[]⟩
def F175:DF:=pF N175 Tryz.f175
theorem F175_ok:prepF Tryz.prog N175 Tryz.f175=some F175:=by kernel_rfl
theorem F175_fn:FnOK2 Tryz.prog 175 (.pl F175):=.pl Tryz.func175 (by kernel_rfl) F175_ok
abbrev N176:Note:=⟨[],[(0,[0]),(1,[2])],[]⟩
def F176:DF:=pF N176 Tryz.f176
theorem F176_ok:prepF Tryz.prog N176 Tryz.f176=some F176:=by kernel_rfl
theorem F176_fn:FnOK2 Tryz.prog 176 (.pl F176):=.pl Tryz.func176 (by kernel_rfl) F176_ok
abbrev N177:Note:=⟨[],[(0,[0]),(1,[0,3]),(2,[0,3,4]),(3,[0,3,4,18]),(4,[0,3,4]),(5,[0,3,4,5]),(6,[0,3,4,5,46]),(7,[0,4]),(8,[0,3,4]),(9,[0,3,4,5]),(10,[0,3,4,5,54]),(11,[0,3,4,5]),(12,[0,3,4,5,83]),(13,[0,3,4,5]),(14,[0,3,4,5,87]),(15,[0,4,5,89]),(16,[2]),(17,[0,3,4,5]),(18,[0,4,5,91]),(19,[2]),(20,[0,3,4,5]),(21,[2]),(1000000,[0,3,4,5])],[]⟩
def F177:DF:=pF N177 Tryz.f177
theorem F177_ok:prepF Tryz.prog N177 Tryz.f177=some F177:=by kernel_rfl
theorem F177_fn:FnOK2 Tryz.prog 177 (.pl F177):=.pl Tryz.func177 (by kernel_rfl) F177_ok
abbrev N178:Note:=⟨[],[(0,[0]),(1,[0,4]),(2,[2]),(3,[2])],[]⟩
def F178:DF:=pF N178 Tryz.f178
theorem F178_ok:prepF Tryz.prog N178 Tryz.f178=some F178:=by kernel_rfl
theorem F178_fn:FnOK2 Tryz.prog 178 (.pl F178):=.pl Tryz.func178 (by kernel_rfl) F178_ok
abbrev N179:Note:=⟨[],[(0,[0]),(1,[0,4]),(2,[2]),(3,[2])],[]⟩
def F179:DF:=pF N179 Tryz.f179
theorem F179_ok:prepF Tryz.prog N179 Tryz.f179=some F179:=by kernel_rfl
theorem F179_fn:FnOK2 Tryz.prog 179 (.pl F179):=.pl Tryz.func179 (by kernel_rfl) F179_ok
noncomputable def tab : List (Nat × DX) := [(3,.pl F3),(4,.pl F4),(8,.pl F8),(9,.pl F9),(10,.pl F10),(11,.pl F11),(12,.pl F12),(13,.pl F13),(14,.pl F14),(15,.pl F15),(16,.pl F16),(17,.pl F17),(18,.pl F18),(19,.pl F19),(20,.pl F20),(21,.pl F21),(22,.pl F22),(23,.pl F23),(24,.pl F24),(28,.pl F28),(30,.pl F30),(32,.pl F32),(33,.pl F33),(34,.pl F34),(35,.pl F35),(36,.pl F36),(37,.pl F37),(38,.pl F38),(39,.pl F39),(40,.pl F40),(41,.pl F41),(42,.pl F42),(43,.pl F43),(44,.pl F44),(45,.pl F45),(46,.pl F46),(47,.pl F47),(48,.pl F48),(49,.pl F49),(52,.pl F52),(53,.pl F53),(54,.pl F54),(56,.pl F56),(57,.pl F57),(58,.pl F58),(59,.pl F59),(60,.pl F60),(61,.pl F61),(62,.pl F62),(63,.pl F63),(64,.pl F64),(65,.pl F65),(66,.pl F66),(67,.pl F67),(68,.pl F68),(70,.pl F70),(71,.pl F71),(72,.pl F72),(73,.pl F73),(74,.pl F74),(75,.pl F75),(76,.pl F76),(77,.pl F77),(78,.pl F78),(80,.pl F80),(81,.pl F81),(82,.pl F82),(83,.pl F83),(84,.pl F84),(85,.pl F85),(86,.pl F86),(87,.pl F87),(88,.pl F88),(89,.pl F89),(90,.pl F90),(91,.pl F91),(92,.pl F92),(93,.pl F93),(94,.pl F94),(95,.pl F95),(96,.pl F96),(97,.pl F97),(98,.pl F98),(99,.pl F99),(100,.pl F100),(101,.pl F101),(102,.pl F102),(103,.pl F103),(104,.pl F104),(105,.pl F105),(106,.pl F106),(107,.pl F107),(108,.pl F108),(109,.pl F109),(111,.pl F111),(112,.pl F112),(113,.pl F113),(114,.pl F114),(115,.pl F115),(116,.pl F116),(117,.pl F117),(118,.pl F118),(119,.pl F119),(120,.pl F120),(121,.pl F121),(122,.pl F122),(123,.pl F123),(124,.pl F124),(125,.pl F125),(126,.pl F126),(127,.pl F127),(128,.pl F128),(129,.pl F129),(130,.pl F130),(131,.pl F131),(132,.pl F132),(133,.pl F133),(134,.pl F134),(135,.pl F135),(136,.pl F136),(137,.pl F137),(138,.pl F138),(139,.pl F139),(140,.pl F140),(141,.pl F141),(142,.pl F142),(143,.pl F143),(144,.pl F144),(145,.pl F145),(146,.pl F146),(148,.pl F148),(149,.pl F149),(150,.pl F150),(151,.pl F151),(152,.pl F152),(153,.pl F153),(154,.pl F154),(155,.pl F155),(156,.pl F156),(157,.pl F157),(158,.pl F158),(159,.pl F159),(160,.pl F160),(161,.pl F161),(162,.pl F162),(163,.pl F163),(165,.pl F165),(166,.pl F166),(167,.pl F167),(168,.pl F168),(169,.pl F169),(170,.pl F170),(171,.pl F171),(172,.pl F172),(173,.pl F173),(174,.pl F174),(175,.pl F175),(176,.pl F176),(177,.pl F177),(178,.pl F178),(179,.pl F179)]
theorem tabOK : TabOK2 Tryz.prog tab :=
 .cons F3_fn <|
 .cons F4_fn <|
 .cons F8_fn <|
 .cons F9_fn <|
 .cons F10_fn <|
 .cons F11_fn <|
 .cons F12_fn <|
 .cons F13_fn <|
 .cons F14_fn <|
 .cons F15_fn <|
 .cons F16_fn <|
 .cons F17_fn <|
 .cons F18_fn <|
 .cons F19_fn <|
 .cons F20_fn <|
 .cons F21_fn <|
 .cons F22_fn <|
 .cons F23_fn <|
 .cons F24_fn <|
 .cons F28_fn <|
 .cons F30_fn <|
 .cons F32_fn <|
 .cons F33_fn <|
 .cons F34_fn <|
 .cons F35_fn <|
 .cons F36_fn <|
 .cons F37_fn <|
 .cons F38_fn <|
 .cons F39_fn <|
 .cons F40_fn <|
 .cons F41_fn <|
 .cons F42_fn <|
 .cons F43_fn <|
 .cons F44_fn <|
 .cons F45_fn <|
 .cons F46_fn <|
 .cons F47_fn <|
 .cons F48_fn <|
 .cons F49_fn <|
 .cons F52_fn <|
 .cons F53_fn <|
 .cons F54_fn <|
 .cons F56_fn <|
 .cons F57_fn <|
 .cons F58_fn <|
 .cons F59_fn <|
 .cons F60_fn <|
 .cons F61_fn <|
 .cons F62_fn <|
 .cons F63_fn <|
 .cons F64_fn <|
 .cons F65_fn <|
 .cons F66_fn <|
 .cons F67_fn <|
 .cons F68_fn <|
 .cons F70_fn <|
 .cons F71_fn <|
 .cons F72_fn <|
 .cons F73_fn <|
 .cons F74_fn <|
 .cons F75_fn <|
 .cons F76_fn <|
 .cons F77_fn <|
 .cons F78_fn <|
 .cons F80_fn <|
 .cons F81_fn <|
 .cons F82_fn <|
 .cons F83_fn <|
 .cons F84_fn <|
 .cons F85_fn <|
 .cons F86_fn <|
 .cons F87_fn <|
 .cons F88_fn <|
 .cons F89_fn <|
 .cons F90_fn <|
 .cons F91_fn <|
 .cons F92_fn <|
 .cons F93_fn <|
 .cons F94_fn <|
 .cons F95_fn <|
 .cons F96_fn <|
 .cons F97_fn <|
 .cons F98_fn <|
 .cons F99_fn <|
 .cons F100_fn <|
 .cons F101_fn <|
 .cons F102_fn <|
 .cons F103_fn <|
 .cons F104_fn <|
 .cons F105_fn <|
 .cons F106_fn <|
 .cons F107_fn <|
 .cons F108_fn <|
 .cons F109_fn <|
 .cons F111_fn <|
 .cons F112_fn <|
 .cons F113_fn <|
 .cons F114_fn <|
 .cons F115_fn <|
 .cons F116_fn <|
 .cons F117_fn <|
 .cons F118_fn <|
 .cons F119_fn <|
 .cons F120_fn <|
 .cons F121_fn <|
 .cons F122_fn <|
 .cons F123_fn <|
 .cons F124_fn <|
 .cons F125_fn <|
 .cons F126_fn <|
 .cons F127_fn <|
 .cons F128_fn <|
 .cons F129_fn <|
 .cons F130_fn <|
 .cons F131_fn <|
 .cons F132_fn <|
 .cons F133_fn <|
 .cons F134_fn <|
 .cons F135_fn <|
 .cons F136_fn <|
 .cons F137_fn <|
 .cons F138_fn <|
 .cons F139_fn <|
 .cons F140_fn <|
 .cons F141_fn <|
 .cons F142_fn <|
 .cons F143_fn <|
 .cons F144_fn <|
 .cons F145_fn <|
 .cons F146_fn <|
 .cons F148_fn <|
 .cons F149_fn <|
 .cons F150_fn <|
 .cons F151_fn <|
 .cons F152_fn <|
 .cons F153_fn <|
 .cons F154_fn <|
 .cons F155_fn <|
 .cons F156_fn <|
 .cons F157_fn <|
 .cons F158_fn <|
 .cons F159_fn <|
 .cons F160_fn <|
 .cons F161_fn <|
 .cons F162_fn <|
 .cons F163_fn <|
 .cons F165_fn <|
 .cons F166_fn <|
 .cons F167_fn <|
 .cons F168_fn <|
 .cons F169_fn <|
 .cons F170_fn <|
 .cons F171_fn <|
 .cons F172_fn <|
 .cons F173_fn <|
 .cons F174_fn <|
 .cons F175_fn <|
 .cons F176_fn <|
 .cons F177_fn <|
 .cons F178_fn <|
 .cons F179_fn <|
  .nil
end
end Go.Proofs.C1

namespace Go.Proofs.YthjebaophnkpbaaGreatDoor
open Go.ChangeShapes Go.WideShapes Go.ChangeAt Go.RowKit
abbrev laid:List (String×DataW Unit):=Rows.cstTellsUptoRow.laid
theorem own:ownKnob Tryz.prog.godebug=none:=by kernel_rfl
abbrev pows:List Int:=[1,10,100,1000,10000,100000,1000000,10000000,100000000,1000000000,10000000000,100000000000,1000000000000,10000000000000,100000000000000,1000000000000000,10000000000000000,100000000000000000,1000000000000000000,10000000000000000000]
abbrev powsA:List Dn.AV:=[.int .u64 1,.int .u64 10,.int .u64 100,.int .u64 1000,.int .u64 10000,.int .u64 100000,.int .u64 1000000,.int .u64 10000000,.int .u64 100000000,.int .u64 1000000000,.int .u64 10000000000,.int .u64 100000000000,.int .u64 1000000000000,.int .u64 10000000000000,.int .u64 100000000000000,.int .u64 1000000000000000,.int .u64 10000000000000000,.int .u64 100000000000000000,.int .u64 1000000000000000000,.int .u64 10000000000000000000]
theorem powsA_eq:powsA=pows.map (Dn.AV.int .u64):=rfl
abbrev gtT:Dn.GT:=[(5,powsA)]
theorem globPow : Tryz.prog.globalNamed "internal/strconv.uint64pow10" = some 5 := by kernel_rfl
theorem typePow:(Tryz.prog.globals[5]?).map (·.type)=some 183:=by kernel_rfl
theorem undPow:Tryz.prog.underlying 183=some (.array 20 155):=by kernel_rfl
theorem undU64:Tryz.prog.underlying 155=some (.int .u64):=by kernel_rfl
theorem pow_of_laid {W : World} (h : laidMetH Tryz.prog laid W) : Lib.TabIs Tryz.prog W "internal/strconv.uint64pow10" .u64 pows := by
 rw [MakeChecks.laidMetH_plain _ _ _ (by kernel_rfl)] at h
 exact Lib.tabIs_of_head globPow typePow undPow undU64 (by kernel_rfl) (by kernel_rfl) (laidMet.tail (laidMet.tail h))
theorem inv_of_laid {W:World} (h:laidMetH Tryz.prog laid W):Dn.Inv Tryz.prog gtT Dn.St.init (Dn.G0 W) W:=by
 refine Dn.inv0g fun g cs hg=>?_
 rw [Dn.lk_cons] at hg
 by_cases e:5=g
 ·rw [if_pos e] at hg
  subst e
  cases hg
  have hv:=pow_of_laid h
  simp only [Lib.TabIs,World.var?,globPow,Option.bind_some] at hv
  split at hv
  ·rename_i c ty fr hw
   cases hv
   refine⟨_,ty,fr,hw,?_⟩
   rw [powsA_eq]
   generalize pows=l
   induction l with
   | nil=>exact Dn.Rl.nil
   | cons a r ih=>exact Dn.Rl.cons (by simp only [Dn.Rv]) ih
  ·cases hv
 ·rw [if_neg e] at hg
  cases hg
noncomputable abbrev laidW (os:Os):World:=World.laidAll Tryz.prog os laid
theorem laidW_os (os:Os):(laidW os).os=os:=World.laidAll_os _ _ _
theorem laidW_met (os:Os) (args:Array Value):laidMetH Tryz.prog laid ((laidW os).forCall (fun _ _=>0) ⟨#[],args,[]⟩).memory:=by
 rw [MakeChecks.laidMetH_plain _ _ _ (by kernel_rfl)];exact laidMet_laidAll _ (by kernel_rfl) (by kernel_rfl)
set_option maxRecDepth 1000000 in
theorem ran:Dn.exec2 gtT (fun f=>Dn.lk [] f) (fun f=>Dn.lk C1.tab f) 100000 200 3 [] Dn.St.init Dn.retTrue=true:=by kernel_rfl
end Go.Proofs.YthjebaophnkpbaaGreatDoor

namespace Go.Proofs.YthjebaophnkpbaaGreatDoor
open Go.Dn Go.RowKit
theorem rv_str {S:St} {G:Gh} {w:World} {s:List UInt8}:Rv S G w (.str s) (.string ⟨s.toArray⟩):=by simp only [Rv]
theorem hbTL:HasBody Tryz.prog 98:=⟨_,Tryz.func98,by kernel_rfl,by kernel_rfl⟩
theorem hbTR:HasBody Tryz.prog 99:=⟨_,Tryz.func99,by kernel_rfl,by kernel_rfl⟩
theorem hbTT:HasBody Tryz.prog 105:=⟨_,Tryz.func105,by kernel_rfl,by kernel_rfl⟩
theorem hbAI:HasBody Tryz.prog 121:=⟨_,Tryz.func121,by kernel_rfl,by kernel_rfl⟩
theorem hbIA:HasBody Tryz.prog 101:=⟨_,Tryz.func101,by kernel_rfl,by kernel_rfl⟩
theorem sh_trimL {cs:List UInt8} (hc:cs.length<4294967281) (ha:∀b∈cs,b.toNat<128) (s:List UInt8):PF (AC Tryz.prog gtT) 98 [.str s,.str cs] (.str (trimL cs s)) :=
 PF.of_calls hbTL (fun S G w vs h=>rl_str2 h) (fun S G w=>rv_str) fun w =>
  Any.strings_TrimLeft_laid Tryz.lays161 (by kernel_rfl) ⟨s.toArray⟩ ⟨cs.toArray⟩ w hc fun j b h=>ha b (List.mem_of_getElem? h)
theorem sh_trimR {cs:List UInt8} (hc:cs.length<4294967281) (ha:∀b∈cs,b.toNat<128) (s:List UInt8) (hs:s.length<9223372036854775807):PF (AC Tryz.prog gtT) 99 [.str s,.str cs] (.str (trimR cs s)) :=
 PF.of_calls hbTR (fun S G w vs h=>rl_str2 h) (fun S G w=>rv_str) fun w =>
  Any.strings_TrimRight_laid Tryz.lays162 (by kernel_rfl) ⟨s.toArray⟩ ⟨cs.toArray⟩ w (Nat.le_of_lt hs) hc fun j b h=>ha b (List.mem_of_getElem? h)
theorem sh_trim {cs:List UInt8} (hc:cs.length<4294967281) (ha:∀b∈cs,b.toNat<128) (s:List UInt8) (hs:s.length<9223372036854775807):PF (AC Tryz.prog gtT) 105 [.str s,.str cs] (.str (trimA cs s)) :=
 PF.of_calls hbTT (fun S G w vs h=>rl_str2 h) (fun S G w=>rv_str) fun w =>
  Any.strings_Trim_laid Tryz.lays160 (by kernel_rfl) ⟨s.toArray⟩ ⟨cs.toArray⟩ w (Nat.le_of_lt hs) hc fun j b h=>ha b (List.mem_of_getElem? h)
theorem decFrom_val (l:List UInt8):∀(a:Nat),l.all dig=true→Lib.decFrom a l=some (valB a l):=by
 induction l with
 | nil=>intro a _;rfl
 | cons b r ih =>
  intro a h
  rw [List.all_cons,bA] at h
  have hb:=h.1
  simp only [dig,bA,decide_eq_true_eq] at hb
  have hd:Lib.digitVal b=some (b.toNat-48):=if_pos hb
  unfold Lib.decFrom
  rw [hd]
  exact ih _ h.2
theorem atoi_val (l:List UInt8) (h:l.all dig=true) (h1:1≤l.length):Lib.atoi l=some (valB 0 l:Int):=by
 cases l with
 | nil=>simp at h1
 | cons b r =>
  have hb:=h
  simp only [List.all_cons,bA,dig,decide_eq_true_eq] at hb
  have n1:(b == 45)=false:=by
   cases hh:(b == 45) with
   | false=>rfl
   | true=>rw [beq_iff_eq] at hh;subst hh;exact absurd hb.1.1 (by decide)
  have n2:(b == 43)=false:=by
   cases hh:(b == 43) with
   | false=>rfl
   | true=>rw [beq_iff_eq] at hh;subst hh;exact absurd hb.1.1 (by decide)
  simp only [Lib.atoi,n1,n2,Bool.false_eq_true,if_false,Lib.decNat,List.isEmpty_cons]
  rw [decFrom_val _ 0 h];rfl
theorem sh_atoi (s:List UInt8) (h:s.all dig=true) (h1:1≤s.length) (h2:s.length≤18):PF (AC Tryz.prog gtT) 121 [.str s] (.tup [.int .i64 (valB 0 s),.nilif]) :=
 PF.of_calls hbAI (fun S G w vs h=>rl_str1 h) (v:=.tuple #[.int .i64 (valB 0 s),.nilIface]) (fun S G w=>by
   simp only [Rv]
   exact⟨_,rfl,Rl.cons (by simp only [Rv]) (Rl.cons (by simp only [Rv]) Rl.nil)⟩) fun w =>
  (Any.strconv_Atoi Tryz.lays172 ⟨s.toArray⟩ (valB 0 s) h2 (atoi_val s h h1) w).mono fun e w' ⟨h1,t,h2⟩=>⟨h1,by rw [h2];exact Joins.below_bytesWorld _ _ _ _ (Nat.le_refl _)⟩
theorem decB_dec:∀n:Nat,Lib.decDigits n=decB n:=fun n=>by
 induction n using Nat.strongRecOn with
 | _ n ih =>
  unfold Lib.decDigits decB
  split
  ·rfl
  ·rw [ih (n / 10) (by omega)]
theorem itoa_eq (n:Int):Lib.itoa n=itoaB n:=by unfold Lib.itoa itoaB;rw [decB_dec,decB_dec]
theorem pows_tab:Lib.pow10Tab=pows:=by decide
theorem tab_of_inv {S : St} {G : Gh} {w : World} (hI : Inv Tryz.prog gtT S G w) : Lib.TabIs Tryz.prog w "internal/strconv.uint64pow10" .u64 Lib.pow10Tab := by
 rw [pows_tab]
 obtain⟨_,c,ty,fr,h1,h2⟩:=hI.glob 5 powsA rfl
 have:c=(pows.map fun z=>Value.int .u64 z).toArray:=by
  rw [powsA_eq] at h2
  obtain⟨c⟩:=c
  simp only at h2
  congr 1
  clear h1
  revert h2
  generalize pows=l
  induction l generalizing c with
  | nil=>intro h2;simpa only [List.map_nil,Rl] using h2
  | cons a r ih =>
   intro h2
   simp only [List.map_cons,Rl,Rv] at h2
   obtain⟨v,q,rfl,rfl,h3⟩:=h2
   rw [List.map_cons,ih q h3]
 rw [this] at h1
 simp only [Lib.TabIs,World.var?,globPow,Option.bind_some,h1]
theorem rl_int1 {S:St} {G:Gh} {w:World} {k:IntKind} {n:Int} {vs:List Value} (h:Rl S G w [.int k n] vs):vs=[.int k n]:=by
 simp only [Rl,Rv] at h
 obtain⟨v,r,rfl,rfl,rfl⟩:=h
 rfl
theorem sh_itoa (n:Int) (h1:-999999≤n) (h2:n≤999999):PF (AC Tryz.prog gtT) 101 [.int .i64 n] (.str (itoaB n)) :=
 PF.of_callsI hbIA (fun S G w vs h=>rl_int1 h) (v:=.string ⟨(Lib.itoa n).toArray⟩) (fun S G w=>by rw [itoa_eq];exact rv_str) fun S G w hI =>
  (Any.strconv_Itoa Tryz.lays171M n (by omega) (by omega) w (tab_of_inv hI)).mono fun e w' ⟨h1,k,os,h2⟩=>⟨h1,by rw [h2];exact Lib.below_grow _ _ (Nat.le_refl _) _ _⟩
end Go.Proofs.YthjebaophnkpbaaGreatDoor

namespace Go.Proofs.YthjebaophnkpbaaGreatDoor.Fn
open Go.ChangeShapes Go.WideShapes Go.ChangeAt Go.RowKit Go.Dn
abbrev A:CallT:=AC Tryz.prog gtT
theorem hm:MonoC A:=AC_mono
theorem gtSta:GtSta gtT:=fun g cs h=>by
 rw [lk_cons] at h
 by_cases e:5=g
 ·rw [if_pos e] at h
  cases h
  rw [powsA_eq]
  generalize pows=l
  induction l with
  | nil=>exact trivial
  | cons a r ih=>exact⟨trivial,ih⟩
 ·rw [if_neg e] at h
  cases h
theorem pf {f : FuncId} {fn : Func} {n : Note} {F : DF} {us : List AV} {u : AV} (hf : Tryz.prog.funcs[f]? = some fn) (hn : (fn.name == "runtime.NumGoroutine") = false) (hp : prepF Tryz.prog n fn = some F) (hs : Stas us) (hw : wpF gtT A F us St.init (Ret u)) : PF A f us u :=
 PF.of_init gtSta hs (AC_intro Tryz.checked.mixed hf hn hp hw)
theorem s1 {a:AV} (h:Sta a):Stas [a]:=⟨h,trivial⟩
theorem s2 {a b:AV} (h:Sta a) (k:Sta b):Stas [a,b]:=⟨h,k,trivial⟩
theorem s3 {a b c:AV} (h:Sta a) (k:Sta b) (l:Sta c):Stas [a,b,c]:=⟨h,k,l,trivial⟩
theorem sK (l:List (List UInt8)):Sta (.sl 1 stat (strs l)):=sta_sl (sta_strs l)
theorem indT {Q:PT→Prop} (h:∀t,(∀u,u.n<t.n→Q u)→Q t) (t:PT):Q t:=(measure PT.n).wf.induction t h
theorem size3:∀(t:PT) (m:Int),m<4611686018427387904→PF A 43 [encT t,.int .i64 m] (.int .i64 (Dn.size3 t m)) :=
 indT fun t ih m h=>pf Tryz.func43 (by kernel_rfl) C1.F43_ok (s2 (sta_T t) trivial) (size3_wp hm (fun u hu m h=>ih u hu m h) h)
theorem copyT:∀t:PT,t.ok→PF A 49 [encT t] (encT t) :=
 indT fun t ih h=>pf Tryz.func49 (by kernel_rfl) C1.F49_ok (s1 (sta_T t)) (copy_wp hm ih h)
theorem copy3:∀t:PT,t.ok→PF A 44 [encT t] (encT t) :=
 indT fun t ih h=>pf Tryz.func44 (by kernel_rfl) C1.F44_ok (s1 (sta_T t)) (copy3_wp hm ih h)
theorem plain:∀t u:PT,t.ok→PF A 21 [encT t,encT u] (.bool (eqT t u)) :=
 indT fun t ih u h=>pf Tryz.func21 (by kernel_rfl) C1.F21_ok (s2 (sta_T t) (sta_T u)) (plain_wp hm ih h)
theorem hpre0 (s:List UInt8) (c:UInt8):PF A 137 [.str s,.str [c]] (.bool (hd c s)) :=
 pf Tryz.func137 (by kernel_rfl) C1.F137_ok (s2 trivial trivial) hasPre0_wp
theorem hpre (s:List UInt8) (c:UInt8):PF A 119 [.str s,.str [c]] (.bool (hd c s)) :=
 pf Tryz.func119 (by kernel_rfl) C1.F119_ok (s2 trivial trivial) (hasPre_wp hm hpre0)
theorem tpre0 (s:List UInt8) (c:UInt8):PF A 138 [.str s,.str [c]] (.str (if hd c s then s.drop 1 else s)) :=
 pf Tryz.func138 (by kernel_rfl) C1.F138_ok (s2 trivial trivial) (trimPre0_wp hm hpre0)
theorem tpre (s:List UInt8) (c:UInt8):PF A 120 [.str s,.str [c]] (.str (if hd c s then s.drop 1 else s)) :=
 pf Tryz.func120 (by kernel_rfl) C1.F120_ok (s2 trivial trivial) (trimPre_wp hm tpre0)
theorem digit (b:UInt8):PF A 129 [.int .u8 b.toNat] (.bool (dig b)) :=
 pf Tryz.func129 (by kernel_rfl) C1.F129_ok (s1 trivial) digit_wp
theorem run (s:List UInt8) (h:s.length<9223372036854775807):PF A 100 [.str s] (.int .i64 (runB s)) :=
 pf Tryz.func100 (by kernel_rfl) C1.F100_ok (s1 trivial) (run_wp hm digit h)
theorem cut (s:List UInt8) (h:s.length<9223372036854775807):PF A 96 [.str s] (encCut (cutB s)) :=
 pf Tryz.func96 (by kernel_rfl) C1.F96_ok (s1 trivial) (cut_wp hm hpre tpre run h)
theorem ascii {cs:List UInt8} (h:cs.all (fun b=>decide (b.toNat<128))=true):∀b∈cs,b.toNat<128:=fun b hb=>of_decide_eq_true (List.all_eq_true.1 h b hb)
theorem tl48 (s:List UInt8):PF A 98 [.str s,.str [48]] (.str (trimL [48] s)):=sh_trimL (by decide) (ascii (by decide)) s
theorem tr48 (s:List UInt8) (h:s.length<9223372036854775807):PF A 99 [.str s,.str [48]] (.str (trimR [48] s)):=sh_trimR (by decide) (ascii (by decide)) s h
theorem exponent (e:List UInt8) (h:(expT e).all dig=true):PF A 97 [.str e] (encExp (expB e)) :=
 pf Tryz.func97 (by kernel_rfl) C1.F97_ok (s1 trivial) (exponent_wp hm hpre (fun s=>sh_trimL (by decide) (ascii (by decide)) s) tl48 sh_atoi h)
theorem split (s:List UInt8) (h:s.length<9223372036854775807):PF A 84 [.str s] (encSplit (splitB s)) :=
 pf Tryz.func84 (by kernel_rfl) C1.F84_ok (s1 trivial) (split_wp hm cut exponent tl48 tr48 h)
theorem join (p:Parts3) (h:p.2.1.length≤1000):PF A 85 [encP p] (encJoin (joinB p)) :=
 pf Tryz.func85 (by kernel_rfl) C1.F85_ok (s1 ⟨trivial,trivial,trivial,trivial⟩) (join_wp hm run sh_itoa h)
theorem normal (s:List UInt8) (h:s.length<4294967281):PF A 66 [.str s] (encJoin (normB s)) :=
 pf Tryz.func66 (by kernel_rfl) C1.F66_ok (s1 trivial) (normal_wp hm split join (by omega))
theorem two (s:List UInt8):PF A 102 [.str s] (.int .i64 (twoB s)) :=
 pf Tryz.func102 (by kernel_rfl) C1.F102_ok (s1 trivial) two_wp
theorem within (s:List UInt8) (lo hi:Int):PF A 103 [.str s,.int .i64 lo,.int .i64 hi] (.bool (withinB s lo hi)) :=
 pf Tryz.func103 (by kernel_rfl) C1.F103_ok (s3 trivial trivial trivial) (within_wp hm two)
theorem days (y m:Int):PF A 104 [.int .i64 y,.int .i64 m] (.int .i64 (daysB y m)) :=
 pf Tryz.func104 (by kernel_rfl) C1.F104_ok (s2 trivial trivial) days_wp
theorem date (s:List UInt8):PF A 86 [.str s] (.bool (dateB s)) :=
 pf Tryz.func86 (by kernel_rfl) C1.F86_ok (s1 trivial) (date_wp hm two within days)
theorem clock (s:List UInt8) (h:s.length<9223372036854775807):PF A 87 [.str s] (.bool (clockB s)) :=
 pf Tryz.func87 (by kernel_rfl) C1.F87_ok (s1 trivial) (clock_wp hm within (fun s h=>sh_trim (by decide) (ascii (by decide)) s h) h)
theorem hsuf0 (s:List UInt8) (c:UInt8) (h:s.length<9223372036854775807):PF A 131 [.str s,.str [c]] (.bool (tl c s)) :=
 pf Tryz.func131 (by kernel_rfl) C1.F131_ok (s2 trivial trivial) (hasSuf0_wp h)
theorem hsuf (s:List UInt8) (c:UInt8) (h:s.length<9223372036854775807):PF A 106 [.str s,.str [c]] (.bool (tl c s)) :=
 pf Tryz.func106 (by kernel_rfl) C1.F106_ok (s2 trivial trivial) (hasSuf_wp hm hsuf0 h)
theorem zone (s:List UInt8) (h:s.length<9223372036854775807):PF A 88 [.str s] (encZ (zoneB s)) :=
 pf Tryz.func88 (by kernel_rfl) C1.F88_ok (s1 trivial) (zone_wp hm hsuf within h)
theorem idxByte (s:List UInt8) (c:UInt8):PF A 146 [.str s,.int .u8 c.toNat] (.int .i64 (idxB c s 0)) :=
 pf Tryz.func146 (by kernel_rfl) C1.F146_ok (s2 trivial trivial) idxByte_wp
theorem idx1 (s:List UInt8):PF A 132 [.str s,.str [84]] (.int .i64 (idxB 84 s 0)) :=
 pf Tryz.func132 (by kernel_rfl) C1.F132_ok (s2 trivial trivial) (idx1_wp hm idxByte)
theorem cutL (s:List UInt8) (h:s.length<4294967281):PF A 107 [.str s,.str [84]] (.tup [.str (cutC 84 s).1,.str (cutC 84 s).2.1,.bool (cutC 84 s).2.2]) :=
 pf Tryz.func107 (by kernel_rfl) C1.F107_ok (s2 trivial trivial) (cutL_wp hm idx1 (by omega))
theorem cutS (s:List UInt8) (h:s.length<4294967281):PF A 89 [.str s,.str [84]] (.tup [.str (cutC 84 s).1,.str (cutC 84 s).2.1,.bool (cutC 84 s).2.2]) :=
 pf Tryz.func89 (by kernel_rfl) C1.F89_ok (s2 trivial trivial) (cutS_wp hm (cutL s h))
theorem time (s:List UInt8) (h:s.length<4294967281):PF A 67 [.str s] (.bool (timeB s)) :=
 pf Tryz.func67 (by kernel_rfl) C1.F67_ok (s1 trivial) (time_wp hm date clock zone cutS h)
theorem rowU (b:UInt8):PF A 111 [.int .u8 b.toNat] (encLead (leadB b.toNat)) :=
 pf Tryz.func111 (by kernel_rfl) C1.F111_ok (s1 trivial) (row_wp hm b)
theorem charU (c:Int):PF A 112 [.int .i64 c] (.bool (charB c)) :=
 pf Tryz.func112 (by kernel_rfl) C1.F112_ok (s1 trivial) charB_wp
theorem firstU (s:List UInt8) (h:s.length<4611686018427387904):PF A 92 [.str s] (encFirst (firstC s)) :=
 pf Tryz.func92 (by kernel_rfl) C1.F92_ok (s1 trivial) (first_wp hm rowU charU h)
theorem badU (s:List UInt8) (h:s.length<4611686018427387904):PF A 80 [.str s] (.int .i64 (badI s 0)) :=
 pf Tryz.func80 (by kernel_rfl) C1.F80_ok (s1 trivial) (bad_wp hm firstU h)
theorem validU (s:List UInt8) (h:s.length<4611686018427387904):PF A 63 [.str s] (.bool (validB s)) :=
 pf Tryz.func63 (by kernel_rfl) C1.F63_ok (s1 trivial) (validP_wp hm badU h)
theorem unlike (keys:List (List UInt8)) (hk:∀s∈keys,s.length<4294967281) (hl:keys.length<9223372036854775807):PF A 68 [.sl 1 stat (strs keys)] (.bool (unlikeB [] keys)) :=
 pf Tryz.func68 (by kernel_rfl) C1.F68_ok (s1 (sK keys)) (unlike_wp hm validU (fun s h=>by have:=hk s h;omega) hl)
theorem formed:∀t:PT,t.sok→PF A 54 [encT t] (.bool (formedB t)) :=
 indT fun t ih h=>pf Tryz.func54 (by kernel_rfl) C1.F54_ok (s1 (sta_T t)) (formed_wp hm normal (fun s h=>validU s (by omega)) time unlike ih h)
theorem sizeP:∀t:PT,t.n<4611686018427387904→PF A 53 [encT t] (.int .i64 t.n) :=
 indT fun t ih h=>pf Tryz.func53 (by kernel_rfl) C1.F53_ok (s1 (sta_T t)) (size_wp hm (fun u hu=>ih u hu (by omega)) h)
theorem depthP:∀t:PT,t.n<4611686018427387904→PF A 52 [encT t] (.int .i64 t.dp) :=
 indT fun t ih h=>pf Tryz.func52 (by kernel_rfl) C1.F52_ok (s1 (sta_T t)) (depth_wp hm (fun u hu=>ih u hu (by omega)) h)
theorem right (t:PT) (h:t.n<4611686018427387904) (hk:t.sok):PF A 28 [encT t] (.int .i64 (rightB t)) :=
 pf Tryz.func28 (by kernel_rfl) C1.F28_ok (s1 (sta_T t)) (right_wp hm depthP sizeP formed h hk)
theorem runs:PF A 3 [] (.bool true) :=
 PF.of_init gtSta trivial (AC_mono _ _ _ _ _ (exec2_sound Tryz.checked.mixed C1.tabOK .nil 200 3 [] St.init retTrue ran) fun r S1 q=>by
  cases r with
  | ret x=>cases x<;>simp only [retTrue,Bool.false_eq_true] at q;subst q;exact⟨_,rfl,by simp only [Rdo]⟩
  | pan x=>simp [retTrue] at q)
end Go.Proofs.YthjebaophnkpbaaGreatDoor.Fn

namespace Go.Dn
open Go Go.Proofs.C1
set_option maxRecDepth 100000
attribute [local irreducible] afterS keepE
section
variable {gt:GT} {C:CallT}
def RunesP (s:List UInt8) (r:Res):Prop:=∃x a w,r=.ret (.tup [x,.agg [.int .i64 a,.int .i64 w]])∧(w == 0)=validB s
abbrev E_rn (s:List UInt8) (o:SI) (xs:List AV) (i:Int):Env:=[(0,.val (.str s)),(3,.box [.int .i64 0,.int .i64 0]),(4,.val (.sl 1 o xs)),(5,.val (.int .i64 i))]
set_option maxHeartbeats 4000000 in
theorem runes_wp (hm:MonoC C) (hone:∀(s:List UInt8) (k:Nat),k<s.length→s.length<4611686018427387904→PF C 95 [.str s,.int .i64 k] (encFirst (firstC (s.drop k)))) {s:List UInt8} (hl:s.length<4294967281) :
  wpF gt C F83 [.str s] St.init fun r _=>RunesP s r:=by
 have hR:=Hs.init.addNil 3 true
 refine⟨rfl,?_⟩
 refine goW ?_
 refine loop_rule hm (α:=Nat) (fun i env S'=>i≤s.length∧(∃o xs,Hs S' [.gr 3 o xs]∧xs.length≤i∧env=E_rn s o xs i)∧badI s 0=badI (s.drop i) i) (fun i=>s.length-i) ?_ (a:=0) ⟨Nat.zero_le _,⟨_,_,hR,Nat.le_refl _,rfl⟩,rfl⟩
 rintro i env S' ⟨hi,⟨o,xs,hR,hxl,rfl⟩,hp⟩
 refine goW ?_
 by_cases hc:(i:Int)<(s.length:Nat)
 ·rw [dT hc]
  have hik:i<s.length:=by omega
  have hcall:=hone s i hik (by omega)
  have hne:s.drop i≠[]:=fun h=>by have:=congrArg List.length h;simp at this;omega
  have hle:=firstC_le (s.drop i)
  rw [lD] at hle
  have hbad:=badI_bad (s:=s.drop i) (a:=i) hne
  have hgo:=badI_go (s:=s.drop i) (a:=i) hne
  generalize firstC (s.drop i)=q at hcall hle hbad hgo
  obtain⟨c,n⟩:=q
  simp only at hle hbad hgo
  refine goW ?_
  refine call_pf hm (by rfl) hcall (goW ?_)
  by_cases hz:n=0
  ·rw [eqI_true (show (n:Int)=0 by omega)]
   refine goW ?_
   refine⟨_,rfl,_,_,_,rfl,?_⟩
   unfold validB
   rw [hp,hbad hz,dF (by omega)];rfl
  rw [eqI_false (show ¬(n:Int)=0 by omega)]
  refine goW ?_
  obtain⟨hR,hsrc⟩:=hR.bldT 3 1
  refine r_app hR 0 rfl trivial rfl rfl (hsrc _ _ _) (by simp;omega) (by simp;omega) (by decide) (by decide) rfl ?_
  intro o3 S3 hR
  refine goW ?_
  refine⟨i+n,⟨by omega,⟨_,_,hR,by simp;omega,?_⟩,by rw [hp,hgo hz,List.drop_drop]⟩,by omega⟩
  simp only [E_rn]
  rw [wr64 (by omega) (by omega),show (i:Int)+(n:Int)=((i+n:Nat):Int) by omega]
  try rfl
 ·rw [dF hc]
  refine goW ?_
  refine⟨_,rfl,_,_,_,rfl,?_⟩
  unfold validB
  rw [hp,List.drop_eq_nil_of_le (by omega),badI_nil];rfl
set_option maxHeartbeats 4000000 in
theorem validR_wp (hm:MonoC C) {s:List UInt8} (h:C 83 [.str s] St.init fun r _=>RunesP s r):wpF gt C F65 [.str s] St.init (Ret (.bool (validB s))):=by
 refine⟨rfl,?_⟩
 refine goW ?_
 refine call_rule (by rfl) (hm _ _ _ _ _ h ?_)
 rintro r S' ⟨x,a,w,rfl,hw⟩
 rw [←hw]
 refine goW ?_
 exact⟨_,rfl,Ret.sta trivial⟩
end

section
variable {gt:GT} {C:CallT}
abbrev E_sh (t:PT) (i:Int):Env:=[(1,.box (encT t).cells),(8,.val (.int .i64 i))]
set_option maxHeartbeats 8000000 in
theorem shapedEnd_wp (hm:MonoC C) {k:Int} {s:List UInt8} {keys:List (List UInt8)} {kids:List PT} (ih:∀u,u.n<(PT.mk k s keys kids).n→u.sok→PF C 82 [encT u] (.bool (formedB u))) (hk:PT.soks kids) (hl:kids.length<9223372036854775807) {z:Env} {S:St} {res:Bool} (hf:res=(formedBs kids && beqB s [])) :
  wpD gt C F82.body.rt.rt.rt ((1,.box (encT (.mk k s keys kids)).cells)::z) S (bodyQ gt F82.res (Ret (.bool res))):=by
 have ret:∀{o:Bool} {S:St},res=o→Ret (.bool res) (.ret (.bool o)) S:=fun h=>by rw [h];exact Ret.sta trivial
 have l1:=encTs_len kids
 conv=>whnf
 refine goW ?_
 refine loop_rule hm (α:=Nat) (fun i env S'=>i≤kids.length∧env=E_sh (.mk k s keys kids) i∧S'=S∧formedBs kids=formedBs (kids.drop i)) (fun i=>kids.length-i) ?_ (a:=0) ⟨Nat.zero_le _,rfl,rfl,rfl⟩
 rintro i env S' ⟨hi,rfl,rfl,hp⟩
 refine goW ?_
 by_cases hc:(i:Int)<(encTs kids).length
 ·rw [dT hc]
  have hik:i<kids.length:=by omega
  have ihk:=ih _ (kid_lt hik) (PT.soks_get hik hk)
  have hget:=encTs_get hik
  rw [dC hik] at hp
  simp only [formedBs] at hp
  generalize kids[i]=u at ihk hget hp
  generalize formedB u=fb at ihk hp
  obtain⟨uk,us,ukeys,ukids⟩:=u
  refine goW ?_
  refine step_ruleO (sx_ia (k:=i) rfl rfl (by omega)) (goW ?_)
  refine step_ruleO (sx_ldEl (agg:=true) rfl rfl hget (rdT _)) (goW ?_)
  refine call_pf hm (by rfl) ihk ?_
  cases fb with
  | false =>
   refine goW ?_
   exact⟨_,rfl,ret (by rw [hf,hp];rfl)⟩
  | true =>
   rw [Bool.true_and] at hp
   refine goW ?_
   refine⟨i+1,⟨by omega,?_,rfl,hp⟩,by omega⟩
   rw [wrNat (by omega)]
   try rfl
 ·rw [dF hc]
  rw [hp,List.drop_eq_nil_of_le (by omega)] at hf
  simp only [formedBs,Bool.true_and] at hf
  refine goW ?_
  exact⟨_,rfl,ret hf⟩
abbrev E_kn (t:PT) (id:Nat) (i:Int):Env:=[(1,.box (encT t).cells),(6,.val (.map id)),(7,.val (.int .i64 i))]
set_option maxHeartbeats 16000000 in
theorem shaped_wp (hm:MonoC C) (hn:∀s:List UInt8,s.length<4611686018427387904→PF C 93 [.str s] (encJoin (normB s))) (hv:∀s:List UInt8,s.length<4294967281→PF C 65 [.str s] (.bool (validB s)))
  (ht:∀s:List UInt8,s.length<4611686018427387904→PF C 94 [.str s] (.bool (timeB s)))
  {t:PT} (ih:∀u,u.n<t.n→u.sok→PF C 82 [encT u] (.bool (formedB u))) (hk:t.sok):wpF gt C F82 [encT t] St.init (Ret (.bool (formedB t))):=by
 obtain⟨k,s,keys,kids⟩:=t
 simp only [PT.sok] at hk
 obtain⟨q1,q2,q3,q5,q4⟩:=hk
 have hf:formedB (.mk k s keys kids)=(formedBs kids && shapeB k s keys kids.length):=rfl
 generalize formedB (.mk k s keys kids)=res at hf ⊢
 have ret:∀{z:Bool} {S:St},res=z→Ret (.bool res) (.ret (.bool z)) S:=fun h=>by rw [h];exact Ret.sta trivial
 have fin:=fun (h:res=(formedBs kids && beqB s [])) (z:Env) (S:St)=>shapedEnd_wp (gt:=gt) (z:=z) (S:=S) hm ih q4 (by omega) h
 have l1:=encTs_len kids
 have l2:=strs_length keys
 have hparts:wr .i64 (((strs keys).length:Int)+((encTs kids).length:Int))=((keys.length+kids.length:Nat):Int):=by rw [wr64 (by omega) (by omega)];omega
 have hbare:(((keys.length+kids.length:Nat):Int) == 0)=(decide (keys.length=0) && decide (kids.length=0)):=by
  rw [Bool.eq_iff_iff,beq_iff_eq,bA,decide_eq_true_eq,decide_eq_true_eq];omega
 have hks:∀x:Bool,(formedBs kids && ((decide (keys.length=0) && decide (kids.length=0)) && x))=((decide (keys.length=0) && decide (kids.length=0)) && x):=fun x=>by
  cases hq:(decide (keys.length=0) && decide (kids.length=0)) with
  | false=>simp
  | true =>
   rw [bA,decide_eq_true_eq,decide_eq_true_eq] at hq
   have:kids=[]:=nL hq.2
   rw [this];rfl
 unfold shapeB at hf
 refine⟨rfl,?_⟩
 refine goW ?_
 rw [hparts]
 by_cases k1:k=1
 ·rw [eqI_true k1]
  rw [if_pos k1,hks,←hbare] at hf
  refine goW ?_
  cases hs:beqB s [] with
  | false =>
   refine goW ?_
   exact⟨_,rfl,ret (by rw [hf,hs,Bool.and_false])⟩
  | true =>
   refine goW ?_
   exact⟨_,rfl,ret (by rw [hf,hs,Bool.and_true])⟩
 rw [eqI_false k1]
 rw [if_neg k1] at hf
 refine goW ?_
 by_cases k2:k=2
 ·rw [eqI_true k2]
  rw [if_pos k2,hks,←hbare] at hf
  refine goW ?_
  cases hs:beqB s [116,114,117,101] with
  | true =>
   refine goW ?_
   exact⟨_,rfl,ret (by rw [hf,hs,Bool.true_or,Bool.and_true])⟩
  | false =>
   refine goW ?_
   cases hs2:beqB s [102,97,108,115,101] with
   | true =>
    refine goW ?_
    exact⟨_,rfl,ret (by rw [hf,hs,hs2,Bool.false_or,Bool.and_true])⟩
   | false =>
    refine goW ?_
    exact⟨_,rfl,ret (by rw [hf,hs,hs2,Bool.false_or,Bool.and_false])⟩
 rw [eqI_false k2]
 rw [if_neg k2] at hf
 refine goW ?_
 by_cases k3:k=3
 ·rw [eqI_true k3]
  rw [if_pos k3,hks,←hbare] at hf
  have hns:=hn s (by omega)
  generalize normB s=nb at hns hf
  obtain⟨ns,ne⟩:=nb
  simp only at hf
  refine goW ?_
  refine call_pf hm (by rfl) hns (goW ?_)
  by_cases he:ne=0
  case neg =>
   rw [eqI_false he]
   refine goW ?_
   exact⟨_,rfl,ret (by rw [hf,dF he,Bool.false_and,Bool.and_false])⟩
  rw [eqI_true he]
  rw [dT he,Bool.true_and] at hf
  refine goW ?_
  cases hs:beqB ns s with
  | false =>
   refine goW ?_
   exact⟨_,rfl,ret (by rw [hf,hs,Bool.and_false])⟩
  | true =>
   refine goW ?_
   exact⟨_,rfl,ret (by rw [hf,hs,Bool.and_true])⟩
 rw [eqI_false k3]
 rw [if_neg k3] at hf
 refine goW ?_
 by_cases k4:k=4
 ·rw [eqI_true k4]
  rw [if_pos k4,hks,←hbare] at hf
  have hvs:=hv s q1
  generalize validB s=vb at hvs hf
  refine goW ?_
  refine call_pf hm (by rfl) hvs ?_
  cases vb with
  | false =>
   refine goW ?_
   exact⟨_,rfl,ret (by rw [hf,Bool.and_false])⟩
  | true =>
   refine goW ?_
   exact⟨_,rfl,ret (by rw [hf,Bool.and_true])⟩
 rw [eqI_false k4]
 rw [if_neg k4] at hf
 refine goW ?_
 by_cases k5:k=5
 ·rw [eqI_true k5]
  rw [if_pos k5,hks,←hbare] at hf
  have hts:=ht s (by omega)
  generalize timeB s=tb at hts hf
  refine goW ?_
  refine call_pf hm (by rfl) hts ?_
  cases tb with
  | false =>
   refine goW ?_
   exact⟨_,rfl,ret (by rw [hf,Bool.and_false])⟩
  | true =>
   refine goW ?_
   exact⟨_,rfl,ret (by rw [hf,Bool.and_true])⟩
 rw [eqI_false k5]
 rw [if_neg k5] at hf
 refine goW ?_
 by_cases k6:k=6
 ·rw [eqI_true k6]
  rw [if_pos k6] at hf
  refine goW ?_
  by_cases hz:((strs keys).length:Int) > 0
  ·rw [dT hz]
   refine goW ?_
   exact⟨_,rfl,ret (by rw [hf,dF (by omega),Bool.and_false,Bool.and_false])⟩
  ·rw [dF hz]
   rw [dT (show keys.length=0 by omega),Bool.and_true] at hf
   have fin:=fin hf
   refine goK ?_
   with_unfolding_all exact fin [] _
 rw [eqI_false k6]
 rw [if_neg k6] at hf
 refine goW ?_
 by_cases k7:k=7
 case neg =>
  rw [eqI_false k7]
  rw [if_neg k7,Bool.and_false] at hf
  refine goW ?_
  exact⟨_,rfl,ret hf⟩
 rw [eqI_true k7]
 rw [if_pos k7] at hf
 refine goW ?_
 by_cases hkk:keys.length=kids.length
 case neg =>
  rw [neI_true (show ¬(((strs keys).length:Nat):Int)=(encTs kids).length by omega)]
  refine goW ?_
  exact⟨_,rfl,ret (by rw [hf,dF hkk,Bool.false_and,Bool.and_false,Bool.and_false])⟩
 rw [neI_false (show (((strs keys).length:Nat):Int)=(encTs kids).length by omega)]
 rw [dT hkk,Bool.true_and] at hf
 have hmk:=hs_mkm0
 refine goW ?_
 refine loop_rule hm (α:=Nat) (fun i env S'=>i≤keys.length∧Hs S' [.mp St.init.nm (mpE (ones (keys.take i)))]∧env=E_kn (.mk k s keys kids) St.init.nm i∧unlikeB [] keys=unlikeB (keys.take i) (keys.drop i)) (fun i=>keys.length-i) ?_ (a:=0) ⟨Nat.zero_le _,hmk,rfl,rfl⟩
 rintro i env S' ⟨hi,hR,rfl,hp⟩
 refine goW ?_
 by_cases hc:(i:Int)<(strs keys).length
 ·rw [dT hc]
  have hik:i<keys.length:=by omega
  have hget:=strs_at hik
  have htk:keys.take (i+1)=keys.take i++[keys[i]]:=tS hik
  have hvs:=hv keys[i] (q2 _ (List.getElem_mem hik))
  rw [dC hik] at hp
  simp only [unlikeB] at hp
  generalize keys[i]=a at hget htk hvs hp
  refine goW ?_
  refine step_ruleO (sx_ia (k:=i) rfl rfl (by omega)) (goW ?_)
  refine step_ruleO (sx_ldEl (agg:=false) rfl rfl hget rfl) (goW ?_)
  refine step_ruleO (sx_lkpS hR 0 rfl rfl rfl) ?_
  by_cases hmem:a∈keys.take i
  ·obtain⟨j,hj⟩:=posS_ones hmem
   rw [if_pos hmem] at hp
   rw [hj]
   refine goW ?_
   exact⟨_,rfl,ret (by rw [hf,hp,Bool.and_false,Bool.and_false])⟩
  rw [posS_no hmem]
  rw [if_neg hmem] at hp
  refine goW ?_
  refine st_any (by exact rfl) (sx_ia (k:=i) rfl rfl (by omega)) (goW ?_)
  refine st_any (by exact rfl) (sx_ldEl (agg:=false) rfl rfl hget rfl) (goW ?_)
  refine call_pf hm (by rfl) hvs ?_
  cases hva:validB a with
  | false =>
   rw [hva] at hp
   refine goW ?_
   exact⟨_,rfl,ret (by rw [hf,hp,Bool.false_and,Bool.and_false,Bool.and_false])⟩
  | true =>
   rw [hva,Bool.true_and] at hp
   refine goW ?_
   refine step_ruleO (sx_ia (k:=i) rfl rfl (by omega)) (goW ?_)
   refine step_ruleO (sx_ldEl (agg:=false) rfl rfl hget rfl) (goW ?_)
   refine st_runP (r_mupS hR 0 rfl rfl rfl rfl) (by trivial) ?_
   intro S2 hR
   refine goW ?_
   refine⟨i+1,⟨by omega,?_,?_,by rw [htk];exact hp⟩,by omega⟩
   ·rw [htk]
    have:putS a 1 (ones (keys.take i))=ones (keys.take i++[a]):=by unfold putS;rw [posS_no hmem];simp [ones]
    rw [←this];exact hR
   ·rw [wrNat (by omega)]
    try rfl
 ·rw [dF hc]
  rw [hp,List.drop_eq_nil_of_le (by omega)] at hf
  simp only [unlikeB,Bool.and_true] at hf
  have fin:=fin hf
  refine goK ?_
  with_unfolding_all exact fin [] _
end

mutual
theorem size3_ub:∀(t:PT) (m:Int),size3 t m≤t.n
 |.mk _ _ _ kids,m=>by
  have:=szs_ub kids m 1
  simp only [size3,PT.n];omega
theorem szs_ub:∀(l:List PT) (m n:Int),szs l m n≤n+PT.ns l
 | [],m,n=>by simp [szs,PT.ns]
 | t::r,m,n=>by
  simp only [szs,PT.ns]
  split
  ·have h1:=szs_ub r m (n+size3 t (m-n))
   have h2:=size3_ub t (m-n)
   omega
  ·omega
end
section
variable {gt:GT} {C:CallT}
abbrev E_dp3 (t:PT) (n:Nat) (i:Int):Env:=[(1,.box (encT t).cells),(3,.val (.int .i64 n)),(4,.val (.int .i64 i))]
set_option maxHeartbeats 4000000 in
theorem depth3_wp (hm:MonoC C) {t:PT} (ih:∀u,u.n<t.n→PF C 81 [encT u] (.int .i64 u.dp)) (hl:t.n<4611686018427387904):wpF gt C F81 [encT t] St.init (Ret (.int .i64 t.dp)):=by
 have hdl:=PT.dp_le t
 obtain⟨k,s,keys,kids⟩:=t
 have l1:=encTs_len kids
 have l3:=PT.len_ns kids
 have hn:(PT.mk k s keys kids).n=PT.ns kids+1:=rfl
 have hd:(PT.mk k s keys kids).dp=PT.dps kids+1:=rfl
 refine⟨rfl,?_⟩
 refine goW ?_
 refine loop_rule hm (α:=Nat) (fun i env S'=>i≤kids.length∧env=E_dp3 (.mk k s keys kids) (PT.dps (kids.take i)) i∧S'=St.init) (fun i=>kids.length-i) ?_ (a:=0) ⟨Nat.zero_le _,rfl,rfl⟩
 rintro i env S' ⟨hi,rfl,rfl⟩
 refine goW ?_
 by_cases hc:(i:Int)<(encTs kids).length
 ·rw [dT hc]
  have hik:i<kids.length:=by omega
  have ihk:=ih _ (kid_lt hik)
  have hget:=encTs_get hik
  have hts:PT.dps (kids.take (i+1))=max (PT.dps (kids.take i)) kids[i].dp:=by rw [tS hik,PT.dps_app];simp [PT.dps]
  generalize kids[i]=u at ihk hget hts
  generalize u.dp=d at ihk hts
  obtain⟨uk,us,ukeys,ukids⟩:=u
  generalize PT.dps (kids.take i)=c at hts ⊢
  refine goW ?_
  refine step_ruleO (sx_ia (k:=i) rfl rfl (by omega)) (goW ?_)
  refine step_ruleO (sx_ldEl (agg:=true) rfl rfl hget (rdT _)) (goW ?_)
  refine call_pf hm (by rfl) ihk (goW ?_)
  by_cases hg:(d:Int) > (c:Int)
  ·rw [dT hg]
   rw [show max c d=d by omega] at hts
   refine goW ?_
   refine⟨i+1,⟨by omega,?_,rfl⟩,by omega⟩
   rw [wrNat (by omega),hts]
   try rfl
  ·rw [dF hg]
   rw [show max c d=c by omega] at hts
   refine goW ?_
   refine⟨i+1,⟨by omega,?_,rfl⟩,by omega⟩
   rw [wrNat (by omega),hts]
   try rfl
 ·rw [dF hc]
  refine goW ?_
  refine⟨_,rfl,?_⟩
  rw [List.take_of_length_le (by omega),hd,wrNat (by omega)]
  exact Ret.sta trivial
set_option maxHeartbeats 4000000 in
theorem right3_wp (hm:MonoC C) {t:PT} (hd:PF C 81 [encT t] (.int .i64 t.dp)) (hs:PF C 43 [encT t,.int .i64 4097] (.int .i64 (size3 t 4097)))
  (hf:PF C 82 [encT t] (.bool (formedB t))):wpF gt C F64 [encT t] St.init (Ret (.int .i64 (rightB t))):=by
 have hr:rightB t=if 64<t.dp then 4 else if 4096<t.n then 3 else if formedB t=true then 0 else 1:=rfl
 have h1:=size3_ub t 4097
 have h2:=size3_n t 4097
 generalize rightB t=res at hr ⊢
 generalize t.dp=dp at hd hr
 generalize hh:t.n=n at h1 h2 hr
 generalize size3 t 4097=sz at hs h1 h2
 generalize formedB t=fb at hf hr
 obtain⟨k,s,keys,kids⟩:=t
 refine⟨rfl,?_⟩
 refine goW ?_
 refine call_pf hm (by rfl) hd (goW ?_)
 by_cases z1:(dp:Int) > 64
 ·rw [dT z1]
  refine goW ?_
  rw [hr,if_pos (by omega)]
  exact⟨_,rfl,Ret.sta trivial⟩
 rw [dF z1]
 rw [if_neg (by omega)] at hr
 refine goW ?_
 refine call_pf hm (by rfl) hs (goW ?_)
 by_cases z2:sz > 4096
 ·rw [dT z2]
  refine goW ?_
  rw [hr,if_pos (by omega)]
  exact⟨_,rfl,Ret.sta trivial⟩
 rw [dF z2]
 rw [if_neg (by omega)] at hr
 refine goW ?_
 refine call_pf hm (by rfl) hf ?_
 cases fb with
 | false =>
  refine goW ?_
  rw [hr]
  exact⟨_,rfl,Ret.sta trivial⟩
 | true =>
  refine goW ?_
  rw [hr]
  exact⟨_,rfl,Ret.sta trivial⟩
end
end Go.Dn

namespace Go.Dn
open Go
theorem dropW_nil {p:UInt8→Bool}:∀{l:List UInt8},l.dropWhile p=[]↔∀x∈l,p x=true
 | []=>by simp
 | a::r=>by
  rw [List.dropWhile_cons]
  by_cases h:p a=true
  ·rw [if_pos h,dropW_nil]
   simp only [List.mem_cons,forall_eq_or_imp,h,true_and]
  ·rw [if_neg h]
   simp only [List.mem_cons,forall_eq_or_imp,h,false_and,reduceCtorEq]
theorem trimR_app {cs z r:List UInt8} (h:trimR cs r≠[]):trimR cs (z++r)=z++trimR cs r:=by
 unfold trimR at h ⊢
 rw [List.reverse_append,List.dropWhile_append,if_neg (by simpa using h),List.reverse_append,List.reverse_reverse]
theorem trimR_pre (cs r:List UInt8):trimR cs r <+: r:=by
 unfold trimR
 rw [←List.reverse_suffix,List.reverse_reverse]
 exact List.dropWhile_suffix _
theorem trimL_all {cs z:List UInt8} (h:∀x∈z,cs.contains x=true):trimL cs z=[]:=dropW_nil.2 h
theorem trimR_all {cs z:List UInt8} (h:∀x∈z,cs.contains x=true):trimR cs z=[]:=by
 unfold trimR
 rw [dropW_nil.2 fun x hx=>h x (List.mem_reverse.1 hx)];rfl
theorem trimR_head {cs:List UInt8} {b:UInt8} {r:List UInt8} (h:cs.contains b=false):trimR cs (b::r)≠[]∧trimL cs (trimR cs (b::r))=trimR cs (b::r):=by
 have h1:trimR cs (b::r)≠[]:=by
  intro e
  unfold trimR at e
  rw [List.reverse_eq_nil_iff,dropW_nil] at e
  have:=e b (by simp)
  rw [h] at this;cases this
 refine⟨h1,?_⟩
 obtain⟨t,ht⟩:=trimR_pre cs (b::r)
 cases hh:trimR cs (b::r) with
 | nil=>exact absurd hh h1
 | cons c q =>
  rw [hh] at ht
  simp only [List.cons_append,List.cons.injEq] at ht
  obtain⟨rfl,_⟩:=ht
  unfold trimL
  rw [List.dropWhile_cons_of_neg (by rw [h];simp)]
theorem trim_comm (cs d:List UInt8):trimL cs (trimR cs d)=trimR cs (trimL cs d)∧(trimR cs (trimL cs d)≠[]→d.length-(trimR cs d).length=(trimL cs d).length-(trimR cs (trimL cs d)).length):=by
 have hd:=List.takeWhile_append_dropWhile (p:=(cs.contains ·)) (l:=d)
 have hz:∀x∈d.takeWhile (cs.contains ·),cs.contains x=true:=fun x hx=>List.all_takeWhile (l:=d) (p:=(cs.contains ·)) |> fun h=>by
  have:=List.all_eq_true.1 h x hx
  simpa using this
 cases hr:d.dropWhile (cs.contains ·) with
 | nil =>
  rw [hr,List.append_nil] at hd
  rw [hd] at hz
  rw [trimR_all hz,trimL_all hz]
  exact⟨rfl,fun h=>absurd rfl h⟩
 | cons b r =>
  have hb:cs.contains b=false:=by
   have:=List.head_dropWhile_not (p:=(cs.contains ·)) (l:=d) (by rw [hr];simp)
   simp only [hr,List.head_cons] at this
   exact this
  rw [hr] at hd
  have hL:trimL cs d=b::r:=hr
  obtain⟨h1,h2⟩:=trimR_head (r:=r) hb
  have hR:trimR cs d=d.takeWhile (cs.contains ·)++trimR cs (b::r):=by
   conv=>lhs;rw [←hd]
   exact trimR_app h1
  rw [hL]
  refine⟨?_,fun _=>?_⟩
  ·rw [hR]
   unfold trimL
   rw [List.dropWhile_append,dropW_nil.2 hz]
   exact h2
  ·rw [hR,lA]
   have:=congrArg List.length hd
   rw [lA] at this
   omega
end Go.Dn

namespace Go.Dn
open Go Go.Proofs.C1
set_option maxRecDepth 100000
attribute [local irreducible] afterS keepE
theorem decB_step {n:Nat} (h:¬n<10):decB n=decB (n / 10)++[UInt8.ofNat (48+n % 10)]:=by
 conv=>lhs;unfold decB
 rw [dif_neg h]
theorem decB_last {n:Nat} (h:n<10):decB n=[UInt8.ofNat (48+n)]:=by
 unfold decB;rw [dif_pos h]
theorem decB_le {n k:Nat} (h:n<10 ^ (k+1)):(decB n).length≤k+1:=by
 induction k generalizing n with
 | zero=>rw [decB_last (by omega)];simp
 | succ k ih =>
  by_cases h10:n<10
  ·rw [decB_last h10];simp
  ·rw [decB_step h10]
   rw [pow1] at h
   have:=ih (n:=n / 10) (by omega)
   simp only [lA,lC,List.length_nil];omega
theorem wrapU (n:Int):IntKind.u64.wrap n=n % 18446744073709551616:=by simp [IntKind.wrap,IntKind.bits,IntKind.signed]
theorem digByte {m:Nat} (h:m<10):wr .u8 (wr .i64 (48+(m:Int)))=((UInt8.ofNat (48+m)).toNat:Int):=by
 rw [wr64 (by omega) (by omega),show (48:Int)+(m:Int)=((48+m:Nat):Int) by omega,UInt8.toNat_ofNat',Nat.mod_eq_of_lt (by omega)]
 rw [wr8 (by omega) (by omega)]
section
variable {gt:GT} {C:CallT}
abbrev E_dg (n:Int) (o:SI) (acc:List UInt8):Env:=[(0,.val (.int .i64 n)),(3,.val (.sl 1 o (ofBytes acc)))]
abbrev E_dg2 (o:SI) (acc:List UInt8) (o2:SI) (out:List UInt8) (i:Int):Env:=[(3,.val (.sl 1 o (ofBytes acc))),(4,.val (.sl 1 o2 (ofBytes out))),(5,.val (.int .i64 i))]
set_option maxHeartbeats 4000000 in
theorem digits_wp (hm:MonoC C) {n0:Nat} (hn:n0<9223372036854775808):wpF gt C F151 [.int .i64 n0] St.init (Ret (.str (decB n0))):=by
 have hlen:(decB n0).length≤19:=decB_le (k:=18) (Nat.lt_of_lt_of_le hn (by decide))
 have hR:=Hs.init.addNil 5 false
 refine⟨rfl,?_⟩
 refine goW ?_
 refine loop_rule hm (α:=Nat×List UInt8) (fun a env S'=>a.1≤n0∧∃o,Hs S' [.gr 5 o (ofBytes a.2)]∧env=E_dg a.1 o a.2∧decB n0=decB a.1++a.2.reverse) (fun a=>a.1) ?_ (a:=(n0,[])) ⟨Nat.le_refl _,_,hR,rfl,by simp⟩
 rintro⟨n,acc⟩ env S' ⟨hle,o,hR,rfl,hf⟩
 simp only at hle hR hf
 have hfl:=congrArg List.length hf
 rw [lA,List.length_reverse] at hfl
 have e1:(n:Int).tmod 10=((n % 10:Nat):Int):=by rw [Int.ofNat_tmod];rfl
 have e2:(n:Int).tdiv 10=((n / 10:Nat):Int):=by rw [Int.ofNat_tdiv];rfl
 refine goW ?_
 by_cases h9:(n:Int) > 9
 ·rw [dT h9]
  refine goW ?_
  obtain⟨hR,hsrc⟩:=hR.bldT 5 1
  refine r_app hR 0 rfl trivial rfl rfl (hsrc _ _ _) (by rw [ofBytes_len];simp;omega) (by rw [ofBytes_len];simp;omega) (by decide) (by decide) rfl ?_
  intro o3 S3 hR
  refine goW ?_
  have e3:ofBytes acc++[.int .u8 (wr .u8 (wr .i64 (48+((n:Int).tmod 10))))]=ofBytes (acc++[UInt8.ofNat (48+n % 10)]):=by rw [e1,digByte (by omega),ofBytes_app];rfl
  refine⟨(n / 10,acc++[UInt8.ofNat (48+n % 10)]),⟨by simp only;omega,o3,by rw [←e3];exact hR,?_,?_⟩,by simp only;omega⟩
  ·simp only [E_dg]
   rw [←e3,e2,wr64 (by omega) (by omega)]
   try rfl
  ·simp only
   rw [hf,decB_step (n:=n) (by omega),List.reverse_append,aA];rfl
 rw [dF h9]
 rw [decB_last (n:=n) (by omega)] at hf hfl
 refine goW ?_
 obtain⟨hR,hsrc⟩:=hR.bldT 5 1
 refine r_app hR 0 rfl trivial rfl rfl (hsrc _ _ _) (by rw [ofBytes_len];simp;omega) (by rw [ofBytes_len];simp;omega) (by decide) (by decide) rfl ?_
 intro o3 S3 hR
 have e3:ofBytes acc++[.int .u8 (wr .u8 (wr .i64 (48+(n:Int))))]=ofBytes (acc++[UInt8.ofNat (48+n)]):=by rw [digByte (by omega),ofBytes_app];rfl
 have hR:=hR.addNil 5 false
 have hf2:decB n0=(acc++[UInt8.ofNat (48+n)]).reverse:=by rw [hf,List.reverse_append];rfl
 generalize acc++[UInt8.ofNat (48+n)]=ac2 at e3 hf2
 have hl2:ac2.length≤19:=by rw [←List.length_reverse,←hf2];exact hlen
 have hR:Hs S3 [.gr 5 o3 (ofBytes ac2),.gr 5 ⟨none,0,some 0,false⟩ (ofBytes [])]:=by rw [←e3];exact hR
 have ln:=ofBytes_len ac2
 refine goW ?_
 rw [show ofBytes acc++(List.replicate 1 (AV.int IntKind.u8 0)).set 0 (AV.int IntKind.u8 (wr IntKind.u8 (wr IntKind.i64 (48+(n:Int)))))=ofBytes ac2 from e3]
 refine loop_rule hm (α:=Nat) (fun i env S'=>i≤ac2.length∧∃o2,Hs S' [.gr 5 o3 (ofBytes ac2),.gr 5 o2 (ofBytes (ac2.reverse.take i))]∧env=E_dg2 o3 ac2 o2 (ac2.reverse.take i) ((ac2.length:Int)-1-i)) (fun i=>ac2.length-i) ?_ (a:=0) ⟨Nat.zero_le _,_,hR,?_⟩
 case refine_2 =>
  simp only [E_dg2]
  rw [wr64 (by omega) (by omega),ln]
  simp
  try rfl
 rintro i env S' ⟨hi,o2,hR,rfl⟩
 refine goW ?_
 by_cases hc:((ac2.length:Int)-1-i) ≥ 0
 ·rw [dT hc]
  refine goW ?_
  have hik:ac2.length-1-i<ac2.length:=by omega
  have hge:(ofBytes ac2)[ac2.length-1-i]? = some (.int .u8 (ac2[ac2.length-1-i]).toNat):=by
   simp only [ofBytes,List.getElem?_map,gE hik,Option.map_some]
  rw [show (ac2.length:Int)-1-i=((ac2.length-1-i:Nat):Int) by omega]
  refine step_ruleO (sx_ia (k:=ac2.length-1-i) rfl rfl (by omega)) (goW ?_)
  refine step_ruleO (sx_ldEl (agg:=false) rfl ((hR.ok 0 _ rfl).els false 1) hge rfl) (goW ?_)
  obtain⟨hR,hsrc⟩:=hR.bldT 5 1
  refine r_app hR 1 rfl trivial rfl rfl (hsrc _ _ _) (by rw [ofBytes_len,lT];simp;omega) (by rw [ofBytes_len,lT];simp;omega) (by decide) (by decide) rfl ?_
  intro o4 S4 hR
  refine goW ?_
  have e4:ofBytes (ac2.reverse.take i)++[.int .u8 (ac2[ac2.length-1-i].toNat:Int)]=ofBytes (ac2.reverse.take (i+1)):=by
   rw [tS (by rw [List.length_reverse];omega),ofBytes_app,List.getElem_reverse];rfl
  refine⟨i+1,⟨by omega,o4,by rw [←e4];exact hR,?_⟩,by omega⟩
  simp only [E_dg2]
  rw [←e4,wr64 (by omega) (by omega),show ((ac2.length-1-i:Nat):Int)-1=(ac2.length:Int)-1-((i+1:Nat):Int) by omega]
  try rfl
 ·rw [dF hc]
  refine goW ?_
  rw [List.take_of_length_le (by rw [List.length_reverse];omega)] at hR ⊢
  rw [hf2]
  have hel:=(hR.ok 1 _ rfl).els false 1
  refine step_ruleO (sx_cvBS rfl hel (bytes_of _)) (goW ?_)
  exact⟨_,rfl,Ret.sta trivial⟩
set_option maxHeartbeats 4000000 in
theorem decimal_wp (hm:MonoC C) (hd:∀n:Nat,n<9223372036854775808→PF C 151 [.int .i64 n] (.str (decB n))) {e:Int} (h1:-999999≤e) (h2:e≤999999):wpF gt C F136 [.int .i64 e] St.init (Ret (.str (itoaB e))):=by
 refine⟨rfl,?_⟩
 refine goW ?_
 by_cases h0:e ≥ 0
 ·rw [dT h0]
  obtain⟨n,rfl⟩:∃n:Nat,e=n:=⟨e.toNat,by omega⟩
  refine goW ?_
  refine call_pf hm (by rfl) (hd n (by omega)) (goW ?_)
  refine⟨_,rfl,?_⟩
  rw [show itoaB (n:Int)=decB n by unfold itoaB;rw [if_neg (by omega),Int.toNat_natCast]]
  exact Ret.sta trivial
 ·rw [dF h0]
  obtain⟨n,hn,rfl⟩:∃n:Nat,0<n∧e=-(n:Int):=⟨e.natAbs,by omega,by omega⟩
  have hi:itoaB (-(n:Int))=45::decB n:=by unfold itoaB;rw [if_pos (by omega),Int.natAbs_neg,Int.natAbs_natCast]
  have w0:wr .u64 (-(n:Int))=18446744073709551616-(n:Int):=by rw [wr_eq,wrapU];omega
  have w1:wr .u64 (0-(18446744073709551616-(n:Int)))=(n:Int):=by rw [wr_eq,wrapU];omega
  have e1:(n:Int).tmod 10=((n % 10:Nat):Int):=by rw [Int.ofNat_tmod];rfl
  have e2:(n:Int).tdiv 10=((n / 10:Nat):Int):=by rw [Int.ofNat_tdiv];rfl
  have hw:∀m:Nat,m≤999999→wr .u64 (m:Int)=m:=fun m hm=>by rw [wr_eq,wrapU];omega
  refine goW ?_
  rw [w0,w1,e1,wr64 (n:=((n % 10:Nat):Int)) (by omega) (by omega)]
  refine call_pf hm (by rfl) (hd (n % 10) (by omega)) (goW ?_)
  by_cases h10:(n:Int) ≥ 10
  ·rw [dT h10]
   refine goW ?_
   rw [e2,hw _ (by omega),wr64 (n:=((n / 10:Nat):Int)) (by omega) (by omega)]
   refine call_pf hm (by rfl) (hd (n / 10) (by omega)) (goW ?_)
   have q1:(decB (n / 10)).length≤6:=decB_le (k:=5) (by omega)
   have q2:(decB (n % 10)).length≤6:=decB_le (k:=5) (by omega)
   have q3:decB (n / 10)++decB (n % 10)=decB n:=by rw [decB_step (n:=n) (by omega),decB_last (n:=n % 10) (by omega)]
   refine step_ruleO (st_addS rfl rfl (by omega)) ?_
   rw [q3]
   have q4:(decB n).length≤6:=decB_le (k:=5) (by omega)
   refine goW ?_
   refine step_ruleO (st_addS rfl rfl (by simp only [lC,List.length_nil];omega)) (goW ?_)
   refine⟨_,rfl,?_⟩
   rw [hi]
   exact Ret.sta trivial
  ·rw [dF h10]
   refine goW ?_
   rw [Nat.mod_eq_of_lt (by omega:n<10)]
   have q4:(decB n).length≤6:=decB_le (k:=5) (by omega)
   refine step_ruleO (st_addS rfl rfl (by simp only [lC,List.length_nil];omega)) (goW ?_)
   refine⟨_,rfl,?_⟩
   rw [hi]
   exact Ret.sta trivial
end

theorem trimR_snoc (cs d:List UInt8) (b:UInt8):trimR cs (d++[b])=if cs.contains b=true then trimR cs d else d++[b]:=by
 unfold trimR
 rw [List.reverse_append,List.reverse_singleton,List.singleton_append,List.dropWhile_cons]
 split
 ·rfl
 ·rw [List.reverse_cons,List.reverse_reverse]
theorem trimL_cons (cs d:List UInt8) (b:UInt8):trimL cs (b::d)=if cs.contains b=true then trimL cs d else b::d:=by
 unfold trimL
 rw [List.dropWhile_cons]
theorem has48 (b:UInt8):([48]:List UInt8).contains b=(b == 48):=by
 rw [List.contains_cons,List.contains_nil,Bool.or_false]
abbrev zP:List AV:=[.bool false,.str [],.int .i64 0]
section
variable {gt:GT} {C:CallT}
theorem digitR_wp {b:UInt8}:wpF gt C F135 [.int .u8 b.toNat] St.init (Ret (.bool (dig b))):=by
 refine⟨rfl,?_⟩
 refine goW ?_
 by_cases h1:(b.toNat:Int) ≥ 48
 ·rw [dT h1]
  refine goW ?_
  refine⟨_,rfl,?_⟩
  rw [show dig b=decide ((b.toNat:Int)≤57) by unfold dig;rw [dT (show 48≤b.toNat by omega),Bool.true_and];congr 1;simp;omega]
  exact Ret.sta trivial
 ·rw [dF h1]
  refine goW ?_
  refine⟨_,rfl,?_⟩
  rw [show dig b=false by unfold dig;rw [dF (show ¬48≤b.toNat by omega),Bool.false_and]]
  exact Ret.sta trivial
abbrev E_runR (s:List UInt8) (i:Int):Env:=[(0,.val (.str s)),(1,.val (.int .i64 i))]
set_option maxHeartbeats 2000000 in
theorem runR_wp (hm:MonoC C) (hd:∀b:UInt8,PF C 135 [.int .u8 b.toNat] (.bool (dig b))) {s:List UInt8} {k:Nat} (hk:k≤s.length) (hl:s.length<4611686018427387904):wpF gt C F134 [.str s,.int .i64 k] St.init (Ret (.int .i64 ((k+runB (s.drop k):Nat):Int))):=by
 refine⟨rfl,?_⟩
 refine goW ?_
 refine loop_rule hm (α:=Nat) (fun i env S'=>i≤s.length∧env=E_runR s i∧S'=St.init∧k+runB (s.drop k)=i+runB (s.drop i)) (fun i=>s.length-i) ?_ (a:=k) ⟨hk,rfl,rfl,rfl⟩
 rintro i env S' ⟨hi,rfl,rfl,hp⟩
 refine goW ?_
 by_cases hc:(i:Int)<(s.length:Nat)
 ·rw [dT hc]
  refine goW ?_
  have hik:i<s.length:=by omega
  refine st_any (by exact rfl) (sx_ixS (k:=i) rfl rfl (gE hik)) (goW ?_)
  refine call_pf hm (by rfl) (hd s[i]) ?_
  rw [dC hik] at hp
  simp only [runB] at hp
  cases hdg:dig s[i] with
  | false =>
   refine goW ?_
   refine⟨_,rfl,?_⟩
   rw [hdg] at hp
   rw [hp]
   exact Ret.sta trivial
  | true =>
   refine goW ?_
   rw [hdg,if_pos rfl] at hp
   refine⟨i+1,⟨by omega,?_,rfl,by rw [hp];omega⟩,by omega⟩
   rw [wrNat (by omega)]
 ·rw [dF hc]
  refine goW ?_
  refine⟨_,rfl,?_⟩
  rw [hp,List.drop_eq_nil_of_le (by omega)]
  exact Ret.sta trivial
abbrev E_d (s:List UInt8) (e:Int) (d:List UInt8):Env:=[(0,.val (.str s)),(2,.box zP),(12,.val (.int .i64 e)),(14,.val (.str d))]
set_option maxHeartbeats 4000000 in
theorem splitL_wp (hm:MonoC C) {s d:List UInt8} {e:Int} {z:Env} {res:Parts3×Int} (hs:s≠[])
  (hf:res=if trimL [48] d=[] then (zeroP,0) else ((hd 45 s,trimL [48] d,e),0)) :
  wpD gt C F113.body.rt.rt.rt.rt.rt.rt.rt.rt.rt.rt.rt.rt.rt.rt.rt.rt.rt.rt.rt.rt.rt ((0,.val (.str s))::(2,.box zP)::(12,.val (.int .i64 e))::(14,.val (.str d))::z) St.init (bodyQ gt F113.res (Ret (encSplit res))):=by
 have ret:∀{o:Parts3×Int} {S:St},res=o→Ret (encSplit res) (.ret (encSplit o)) S:=fun h=>by rw [h];exact Ret.sta (sta_split _)
 obtain⟨b0,hb0⟩:=get0 hs
 rw [hd_head (c:=45) hb0] at hf
 conv=>whnf
 refine goW ?_
 refine loop_rule hm (α:=List UInt8) (fun d' env S'=>env=E_d s e d'∧S'=St.init∧trimL [48] d=trimL [48] d') (fun d'=>d'.length) ?_ (a:=d) ⟨rfl,rfl,rfl⟩
 rintro d' env S' ⟨rfl,rfl,ht2⟩
 rw [ht2] at hf
 refine goW ?_
 cases d' with
 | nil =>
  rw [dF (show ¬((([]:List UInt8).length:Nat):Int) > 0 by simp)]
  refine goW ?_
  exact⟨_,rfl,ret (o:=(zeroP,0)) (by rw [hf,if_pos (show trimL [48] ([]:List UInt8)=[] from rfl)])⟩
 | cons c r =>
  have hcr:(c::r)[0]? = some c:=rfl
  have hdr:(c::r).drop 1=r:=rfl
  have hlc:(c::r).length=r.length+1:=rfl
  rw [trimL_cons,has48] at hf ht2
  generalize hd2:c::r=d2 at hcr hdr hlc hf ht2 ⊢
  rw [dT (show ((d2.length:Nat):Int) > 0 by omega)]
  refine goW ?_
  refine st_any (by exact rfl) (sx_ixS (k:=0) rfl rfl hcr) (goW ?_)
  rw [show ((c.toNat:Int) == 48)=(c == 48) from u8_eqI c 48]
  cases hc:(c == 48) with
  | true =>
   rw [hc,if_pos rfl] at ht2
   refine goW ?_
   refine step_ruleO (sx_slLo (l:=1) rfl rfl (by omega)) ?_
   rw [hdr]
   refine goW ?_
   exact⟨r,⟨rfl,rfl,ht2⟩,by omega⟩
  | false =>
   rw [hc] at hf
   simp only [Bool.false_eq_true,if_false] at hf
   have hn2:d2≠[]:=fun e=>by rw [e] at hlc;simp at hlc
   rw [if_neg hn2] at hf
   refine goW ?_
   rw [beqB_false hn2]
   refine goW ?_
   refine step_ruleO (sx_ixS (k:=0) rfl rfl hb0) (goW ?_)
   rw [show ((b0.toNat:Int) == 45)=(b0 == 45) from u8_eqI b0 45]
   exact⟨_,rfl,ret hf⟩
set_option maxHeartbeats 4000000 in
theorem splitEnd_wp (hm:MonoC C) {s w p:List UInt8} {x:Int} {z:Env} {res:Parts3×Int} (hx1:-999999≤x) (hx2:x≤999999) (hs:s≠[]) (hl:w.length+p.length≤1000)
  (hf:res=if trimL [48] (trimR [48] (w++p))=[] then (zeroP,0) else ((hd 45 s,trimL [48] (trimR [48] (w++p)),x-p.length+((w++p).length-(trimR [48] (w++p)).length:Nat)),0)) :
  wpD gt C F113.body.rt.rt.rt.rt.rt.rt.rt.rt.rt.rt.rt.rt.rt.rt.rt.rt.rt.rt ((0,.val (.str s))::(2,.box zP)::(6,.val (.str w))::(7,.val (.str p))::(12,.val (.int .i64 x))::z) St.init (bodyQ gt F113.res (Ret (encSplit res))):=by
 conv=>whnf
 refine goW ?_
 refine step_ruleO (st_addS rfl rfl (by omega)) (goW ?_)
 rw [wr64 (n:=x-(p.length:Int)) (by omega) (by omega)]
 have hl2:(w++p).length=w.length+p.length:=lA
 generalize w++p=d0 at hf hl2 ⊢
 refine loop_rule hm (α:=List UInt8) (fun d env S'=>d.length≤d0.length∧env=E_d s (x-p.length+(d0.length-d.length:Nat)) d∧S'=St.init∧trimR [48] d0=trimR [48] d) (fun d=>d.length) ?_ (a:=d0) ⟨Nat.le_refl _,by rw [Nat.sub_self];simp only [E_d];rw [show x-(p.length:Int)+((0:Nat):Int)=x-p.length by omega],rfl,rfl⟩
 rintro d env S' ⟨hdl,rfl,rfl,ht⟩
 have second:=fun (h:trimR [48] d=d) (z:Env)=>splitL_wp (gt:=gt) (d:=d) (e:=x-p.length+(d0.length-d.length:Nat)) (z:=z) hm hs (res:=res) (by rw [hf,ht,h])
 refine goW ?_
 rcases List.eq_nil_or_concat d with rfl | ⟨q,b,rfl⟩
 ·rw [dF (show ¬((([]:List UInt8).length:Nat):Int) > 0 by simp)]
  refine goK ?_
  with_unfolding_all exact second rfl _
 rw [List.concat_eq_append] at *
 have hlq:(q++[b]).length=q.length+1:=by rw [lA];rfl
 have hlast:(q++[b])[q.length]? = some b:=by rw [List.getElem?_append_right (Nat.le_refl _),Nat.sub_self];rfl
 rw [trimR_snoc,has48] at ht second
 have htk:(q++[b]).take q.length=q:=by simp
 generalize hd':q++[b]=d at hdl hlq hlast htk ht second ⊢
 rw [dT (show ((d.length:Nat):Int) > 0 by omega)]
 refine goW ?_
 rw [show wr .i64 ((d.length:Int)-1)=((q.length:Nat):Int) by rw [wr64 (by omega) (by omega)];omega]
 refine st_any (by exact rfl) (sx_ixS (k:=q.length) rfl rfl hlast) (goW ?_)
 rw [show ((b.toNat:Int) == 48)=(b == 48) from u8_eqI b 48]
 cases hb:(b == 48) with
 | true =>
  rw [hb,if_pos rfl] at ht
  refine goW ?_
  rw [show wr .i64 ((d.length:Int)-1)=((q.length:Nat):Int) by rw [wr64 (by omega) (by omega)];omega]
  refine step_ruleO (sx_slHiS (h:=q.length) rfl rfl (by omega)) ?_
  rw [htk]
  refine goW ?_
  refine⟨q,⟨by omega,?_,rfl,ht⟩,by omega⟩
  simp only [E_d]
  rw [wr64 (by omega) (by omega),show x-(p.length:Int)+((d0.length-d.length:Nat):Int)+1=x-p.length+((d0.length-q.length:Nat):Int) by omega]
  try rfl
 | false =>
  rw [hb] at second
  refine goK ?_
  with_unfolding_all exact second rfl _
end

def finS (s w p:List UInt8) (x:Int):Parts3×Int :=
 if trimL [48] (trimR [48] (w++p))=[] then (zeroP,0) else ((hd 45 s,trimL [48] (trimR [48] (w++p)),x-p.length+((w++p).length-(trimR [48] (w++p)).length:Nat)),0)
section
variable {gt:GT} {C:CallT}
abbrev E_val (s w p ex:List UInt8) (neg:Bool) (a i:Int):Env:=[(0,.val (.str s)),(2,.box zP),(6,.val (.str w)),(7,.val (.str p)),(9,.val (.str ex)),(10,.val (.bool neg)),(12,.val (.int .i64 a)),(13,.val (.int .i64 i))]
set_option maxHeartbeats 4000000 in
theorem splitVal_wp (hm:MonoC C) {s w p ex:List UInt8} {neg:Bool} {z:Env} {res:Parts3×Int} (hs:s≠[]) (hl:w.length+p.length≤1000) (hel:ex.length<4611686018427387904) (hd':ex.all dig=true)
  (hf:res=if 6<ex.length then (zeroP,5) else finS s w p (if neg=true then -(valB 0 ex:Int) else valB 0 ex)) :
  wpD gt C F113.body.rt.rt.rt.rt.rt.rt.rt.rt.rt.rt.rt.rt.rt.rt ((0,.val (.str s))::(2,.box zP)::(6,.val (.str w))::(7,.val (.str p))::(9,.val (.str ex))::(10,.val (.bool neg))::z) St.init (bodyQ gt F113.res (Ret (encSplit res))):=by
 have ret:∀{o:Parts3×Int} {S:St},res=o→Ret (encSplit res) (.ret (encSplit o)) S:=fun h=>by rw [h];exact Ret.sta (sta_split _)
 conv=>whnf
 refine goW ?_
 by_cases h6:(ex.length:Int) > 6
 ·rw [dT h6]
  refine goW ?_
  exact⟨_,rfl,ret (o:=(zeroP,5)) (by rw [hf,if_pos (by omega)])⟩
 rw [dF h6]
 rw [if_neg (by omega)] at hf
 refine goW ?_
 refine loop_rule hm (α:=Nat×Nat) (fun a env S'=>a.1≤ex.length∧a.2<10 ^ a.1∧env=E_val s w p ex neg a.2 a.1∧S'=St.init∧valB 0 ex=valB a.2 (ex.drop a.1)) (fun a=>ex.length-a.1) ?_ (a:=(0,0)) ⟨Nat.zero_le _,by decide,rfl,rfl,rfl⟩
 rintro⟨i,a⟩ env S' ⟨hi,ha,rfl,rfl,hv⟩
 simp only at hi ha hv
 have hp:10 ^ i≤10 ^ 6:=Nat.pow_le_pow_right (by decide) (by omega)
 have h10:(10:Nat) ^ 6=1000000:=by decide
 refine goW ?_
 by_cases hc:(i:Int)<(ex.length:Nat)
 ·rw [dT hc]
  refine goW ?_
  have hik:i<ex.length:=by omega
  refine step_ruleO (sx_ixS (k:=i) rfl rfl (gE hik)) ?_
  rw [dC hik] at hv
  have hdi:dig ex[i]=true:=List.all_eq_true.1 hd' _ (List.getElem_mem hik)
  generalize ex[i]=b at hv hdi ⊢
  have hb:48≤b.toNat∧b.toNat≤57:=by simpa only [dig,bA,decide_eq_true_eq] using hdi
  refine goW ?_
  refine⟨(i+1,a*10+(b.toNat-48)),⟨by simp only;omega,by simp only;rw [pow1];omega,?_,rfl,hv⟩,by simp only;omega⟩
  simp only [E_val]
  rw [wrNat (by omega),wr8 (n:=(b.toNat:Int)-48) (by omega) (by omega),wr64 (n:=(b.toNat:Int)-48) (by omega) (by omega),wr64 (n:=(a:Int)*10) (by omega) (by omega),wr64 (n:=(a:Int)*10+((b.toNat:Int)-48)) (by omega) (by omega),
   show (a:Int)*10+((b.toNat:Int)-48)=((a*10+(b.toNat-48):Nat):Int) by omega]
  try rfl
 ·have hil:ex.length≤i:=by omega
  rw [List.drop_eq_nil_of_le hil] at hv
  have hv2:valB 0 ex=a:=hv
  rw [hv2] at hf
  clear hv2
  rw [dF hc]
  have b1:-999999≤(a:Int)∧(a:Int)≤999999:=⟨by omega,by omega⟩
  have b2:-999999≤-(a:Int)∧-(a:Int)≤999999:=⟨by omega,by omega⟩
  clear hp h10 ha hv
  refine goW ?_
  cases neg with
  | false =>
   simp only [Bool.false_eq_true,if_false] at hf
   refine goK ?_
   with_unfolding_all exact splitEnd_wp (gt:=gt) hm (x:=a) b1.1 b1.2 hs hl hf
  | true =>
   simp only [if_true] at hf
   have e:wr .i64 (0-(a:Int))=-(a:Int):=by rw [wr64 (by omega) (by omega)];omega
   rw [←e] at hf b2
   refine goK ?_
   with_unfolding_all exact splitEnd_wp (gt:=gt) hm (x:=wr .i64 (0-(a:Int))) b2.1 b2.2 hs hl hf
end

def outS (s:List UInt8):Option Cut4→Parts3×Int
 | none=>(zeroP,12)
 | some (_,w,p,e)=>if 1000<s.length then (zeroP,2) else match expB e with
  | none=>(zeroP,5)
  | some x=>finS s w p x
def valS (s w p ex:List UInt8) (neg:Bool):Parts3×Int :=
 if 6<(trimL [48] ex).length then (zeroP,5) else finS s w p (if neg=true then -(valB 0 (trimL [48] ex):Int) else valB 0 (trimL [48] ex))
theorem expD_T {e:List UInt8} (h:(expD e).all dig=true):expT e=trimL [48] (expD e):=by
 unfold expT
 congr 1
 have key:∀l:List UInt8,l.all dig=true→trimL [43,45] l=l:=fun l hl=>by
  cases l with
  | nil=>rfl
  | cons b r =>
   rw [trimL_cons]
   simp only [List.all_cons,bA] at hl
   rw [dig_noSign hl.1];rfl
 unfold expD at h ⊢
 cases e with
 | nil=>rfl
 | cons b r =>
  by_cases h1:hd 45 (b::r)=true
  ·rw [if_pos h1] at h ⊢
   have:b=45:=by simpa [hd] using h1
   subst this
   rw [trimL_cons,if_pos (by decide)]
   exact key r h
  ·rw [if_neg h1] at h ⊢
   by_cases h2:hd 43 (b::r)=true
   ·rw [if_pos h2] at h ⊢
    have:b=43:=by simpa [hd] using h2
    subst this
    rw [trimL_cons,if_pos (by decide)]
    exact key r h
   ·rw [if_neg h2] at h ⊢
    exact key (b::r) h
theorem outS_some {s w p e:List UInt8} {n:Bool} (h:(expD e).all dig=true):outS s (some (n,w,p,e))=if 1000<s.length then (zeroP,2) else valS s w p (expD e) (hd 45 e):=by
 simp only [outS]
 split
 ·rfl
 ·unfold expB valS
  rw [expD_T h]
  by_cases h6:6<(trimL [48] (expD e)).length
  ·rw [if_pos h6,if_pos h6]
  ·rw [if_neg h6,if_neg h6]
section
variable {gt:GT} {C:CallT}
abbrev E_ex (s w p ex:List UInt8) (neg:Bool):Env:=[(0,.val (.str s)),(2,.box zP),(6,.val (.str w)),(7,.val (.str p)),(9,.val (.str ex)),(10,.val (.bool neg))]
set_option maxHeartbeats 4000000 in
theorem splitZ_wp (hm:MonoC C) {s w p ex:List UInt8} {neg:Bool} {z:Env} {res:Parts3×Int} (hs:s≠[]) (hl:w.length+p.length≤1000) (hel:ex.length<4611686018427387904) (hd':ex.all dig=true)
  (hf:res=valS s w p ex neg) :
  wpD gt C F113.body.rt.rt.rt.rt.rt.rt.rt.rt.rt.rt.rt.rt.rt ((0,.val (.str s))::(2,.box zP)::(6,.val (.str w))::(7,.val (.str p))::(9,.val (.str ex))::(10,.val (.bool neg))::z) St.init (bodyQ gt F113.res (Ret (encSplit res))):=by
 unfold valS at hf
 conv=>whnf
 refine goW ?_
 refine loop_rule hm (α:=List UInt8) (fun x env S'=>env=E_ex s w p x neg∧S'=St.init∧trimL [48] ex=trimL [48] x∧x.all dig=true∧x.length<4611686018427387904) (fun x=>x.length) ?_ (a:=ex) ⟨rfl,rfl,rfl,hd',hel⟩
 rintro x env S' ⟨rfl,rfl,ht,hxd,hxl⟩
 rw [ht] at hf
 have fin:=fun (h:trimL [48] x=x) (z:Env)=>splitVal_wp (gt:=gt) (z:=z) (res:=res) hm hs hl hxl hxd (by rw [hf,h])
 refine goW ?_
 cases x with
 | nil =>
  rw [dF (show ¬((([]:List UInt8).length:Nat):Int) > 0 by simp)]
  refine goK ?_
  with_unfolding_all exact fin rfl _
 | cons c r =>
  have hcr:(c::r)[0]? = some c:=rfl
  have hdr:(c::r).drop 1=r:=rfl
  have hlc:(c::r).length=r.length+1:=rfl
  have hrd:r.all dig=true:=by simp only [List.all_cons,bA] at hxd;exact hxd.2
  rw [trimL_cons,has48] at ht fin
  generalize hd2:c::r=d2 at hcr hdr hlc ht fin hxl ⊢
  rw [dT (show ((d2.length:Nat):Int) > 0 by omega)]
  refine goW ?_
  refine st_any (by exact rfl) (sx_ixS (k:=0) rfl rfl hcr) (goW ?_)
  rw [show ((c.toNat:Int) == 48)=(c == 48) from u8_eqI c 48]
  cases hc:(c == 48) with
  | true =>
   rw [hc,if_pos rfl] at ht
   refine goW ?_
   refine step_ruleO (sx_slLo (l:=1) rfl rfl (by omega)) ?_
   rw [hdr]
   refine goW ?_
   exact⟨r,⟨rfl,rfl,ht,hrd,by omega⟩,by omega⟩
  | false =>
   rw [hc] at fin
   refine goK ?_
   with_unfolding_all exact fin rfl _
set_option maxHeartbeats 4000000 in
theorem splitLen_wp (hm:MonoC C) {s w p ex:List UInt8} {neg:Bool} {a:Nat} {z:Env} {res:Parts3×Int} (hs:s≠[]) (hsl:s.length<4611686018427387904) (hl:w.length+p.length≤s.length) (hel:ex.length≤s.length) (hd':ex.all dig=true)
  (hf:res=if a=s.length then (if 1000<s.length then (zeroP,2) else valS s w p ex neg) else (zeroP,12)) :
  wpD gt C F113.body.rt.rt.rt.rt.rt.rt.rt.rt.rt.rt.rt ((0,.val (.str s))::(2,.box zP)::(5,.val (.int .i64 a))::(6,.val (.str w))::(7,.val (.str p))::(9,.val (.str ex))::(10,.val (.bool neg))::z) St.init (bodyQ gt F113.res (Ret (encSplit res))):=by
 have ret:∀{o:Parts3×Int} {S:St},res=o→Ret (encSplit res) (.ret (encSplit o)) S:=fun h=>by rw [h];exact Ret.sta (sta_split _)
 conv=>whnf
 refine goW ?_
 by_cases ha:a=s.length
 case neg =>
  rw [neI_true (show ¬(a:Int)=s.length by omega)]
  refine goW ?_
  exact⟨_,rfl,ret (o:=(zeroP,12)) (by rw [hf,if_neg ha])⟩
 rw [neI_false (show (a:Int)=s.length by omega)]
 rw [if_pos ha] at hf
 refine goW ?_
 by_cases h1:(s.length:Int) > 1000
 ·rw [dT h1]
  refine goW ?_
  exact⟨_,rfl,ret (o:=(zeroP,2)) (by rw [hf,if_pos (by omega)])⟩
 rw [dF h1]
 rw [if_neg (by omega)] at hf
 have fin:=fun z=>splitZ_wp (gt:=gt) (z:=z) hm hs (by omega) (by omega) hd' hf
 refine goK ?_
 with_unfolding_all exact fin _
end

def DC.lf:DC→DC |.seq a _=>a | c=>c
def DC.th:DC→DC |.cnd _ a _=>a | c=>c
theorem hd_drop {c:UInt8} {s:List UInt8} {a:Nat} (h:a<s.length):hd c (s.drop a)=(s[a] == c):=by
 rw [dC h];rfl
theorem hd_drop_end {c:UInt8} {s:List UInt8} {a:Nat} (h:¬a<s.length):hd c (s.drop a)=false:=by
 rw [List.drop_eq_nil_of_le (by omega)];rfl
theorem runB_take:∀s:List UInt8,(s.take (runB s)).all dig=true
 | []=>rfl
 | b::r=>by
  simp only [runB]
  split
  ·rename_i h
   rw [List.take_succ_cons,List.all_cons,h,runB_take r];rfl
  ·rfl
section
variable {gt:GT} {C:CallT}
abbrev E_p (s w p ex:List UInt8) (neg:Bool) (a:Nat):Env:=[(0,.val (.str s)),(2,.box zP),(5,.val (.int .i64 a)),(6,.val (.str w)),(7,.val (.str p)),(9,.val (.str ex)),(10,.val (.bool neg))]
set_option maxHeartbeats 8000000 in
theorem expRun_wp (hm:MonoC C) (hrun:∀(s:List UInt8) (k:Nat),k≤s.length→s.length<4611686018427387904→PF C 134 [.str s,.int .i64 k] (.int .i64 ((k+runB (s.drop k):Nat):Int)))
  {s w p:List UInt8} {neg:Bool} {a:Nat} {z:Env} {Q:Ex→Env→St→Prop} (hsl:s.length<4611686018427387904) (ha:a≤s.length)
  (h0:runB (s.drop a)=0→Q .ret [(2,.box zP),(3,.val (.int .i64 12))] St.init) (h1:runB (s.drop a)≠0→Q .normal (E_p s w p ((s.drop a).take (runB (s.drop a))) neg (a+runB (s.drop a))) St.init) :
  wpD gt C F113.body.rt.rt.rt.rt.rt.rt.rt.rt.rt.rt.lf.rt.th.rt.rt ((0,.val (.str s))::(2,.box zP)::(5,.val (.int .i64 a))::(6,.val (.str w))::(7,.val (.str p))::(10,.val (.bool neg))::z) St.init Q:=by
 have hrun:=hrun s a ha hsl
 have hle:=runB_le (s.drop a)
 rw [lD] at hle
 generalize hr:runB (s.drop a)=r at hrun h0 h1 hle
 conv=>whnf
 refine goW ?_
 refine call_pf hm (by rfl) hrun (goW ?_)
 by_cases hz:r=0
 ·rw [eqI_true (show ((a+r:Nat):Int)=a by omega)]
  refine goW ?_
  exact h0 hz
 rw [eqI_false (show ¬((a+r:Nat):Int)=a by omega)]
 refine goW ?_
 refine step_ruleO (sx_slLH (l:=a) (h:=a+r) rfl rfl rfl (by omega) (by omega)) ?_
 rw [show ((s.drop a).take (a+r-a))=(s.drop a).take r by rw [Nat.add_sub_cancel_left]]
 refine goW ?_
 exact h1 hz
set_option maxHeartbeats 8000000 in
theorem expIn_wp (hm:MonoC C) (hrun:∀(s:List UInt8) (k:Nat),k≤s.length→s.length<4611686018427387904→PF C 134 [.str s,.int .i64 k] (.int .i64 ((k+runB (s.drop k):Nat):Int)))
  {s w p x:List UInt8} {a:Nat} {z:Env} {Q:Ex→Env→St→Prop} (hsl:s.length<4611686018427387904) (ha:a<s.length)
  (h:∀pos,pos≤s.length→s.drop pos=expD (s.drop (a+1))→(runB (s.drop pos)=0→Q .ret [(2,.box zP),(3,.val (.int .i64 12))] St.init) ∧
   (runB (s.drop pos)≠0→Q .normal (E_p s w p ((s.drop pos).take (runB (s.drop pos))) (hd 45 (s.drop (a+1))) (pos+runB (s.drop pos))) St.init)) :
  wpD gt C F113.body.rt.rt.rt.rt.rt.rt.rt.rt.rt.rt.lf.rt.th ((0,.val (.str s))::(2,.box zP)::(5,.val (.int .i64 a))::(6,.val (.str w))::(7,.val (.str p))::(9,.val (.str x))::(10,.val (.bool false))::z) St.init Q:=by
 conv=>whnf
 refine goW ?_
 rw [wrNat (by omega)]
 by_cases hc:(((a+1:Nat):Int))<(s.length:Nat)
 case neg =>
  have hd0:s.drop (a+1)=[]:=List.drop_eq_nil_of_le (by omega)
  obtain⟨q1,q2⟩:=h (a+1) (by omega) (by rw [hd0];rfl)
  rw [show hd 45 (s.drop (a+1))=false by rw [hd0];rfl] at q2
  rw [dF hc]
  refine goK ?_
  with_unfolding_all exact expRun_wp (gt:=gt) hm hrun hsl (by omega) q1 q2
 have hik:a+1<s.length:=by omega
 have hget:s[a+1]? = some s[a+1]:=gE hik
 have hdd:s.drop (a+1)=s[a+1]::s.drop (a+2):=dC hik
 have e45:hd 45 (s.drop (a+1))=(s[a+1] == 45):=by rw [hdd];rfl
 have e43:hd 43 (s.drop (a+1))=(s[a+1] == 43):=by rw [hdd];rfl
 have hexp:expD (s.drop (a+1))=if (s[a+1] == 45)=true then s.drop (a+2) else if (s[a+1] == 43)=true then s.drop (a+2) else s.drop (a+1):=by
  unfold expD
  rw [e45,e43,List.drop_drop]
 rw [hexp] at h
 rw [e45] at h
 clear hdd e45 e43 hexp
 generalize s[a+1]=b at hget h
 rw [dT hc]
 refine goW ?_
 refine st_any (by exact rfl) (sx_ixS (k:=a+1) rfl rfl hget) (goW ?_)
 rw [show ((b.toNat:Int) == 43)=(b == 43) from u8_eqI b 43]
 cases h43:(b == 43) with
 | true =>
  have h45:(b == 45)=false:=by
   rw [beq_iff_eq] at h43
   subst h43;decide
  rw [h43,h45] at h
  simp only [Bool.false_eq_true,if_false,if_true] at h
  obtain⟨q1,q2⟩:=h (a+2) (by omega) rfl
  refine goW ?_
  refine step_ruleO (sx_ixS (k:=a+1) rfl rfl hget) (goW ?_)
  rw [show ((b.toNat:Int) == 45)=(b == 45) from u8_eqI b 45,h45,show wr .i64 (((a+1:Nat):Int)+1)=((a+2:Nat):Int) from wrNat (by omega)]
  refine goK ?_
  with_unfolding_all exact expRun_wp (gt:=gt) hm hrun hsl (by omega) q1 q2
 | false =>
  refine goW ?_
  refine st_any (by exact rfl) (sx_ixS (k:=a+1) rfl rfl hget) (goW ?_)
  rw [show ((b.toNat:Int) == 45)=(b == 45) from u8_eqI b 45]
  cases h45:(b == 45) with
  | true =>
   rw [h45] at h
   simp only [if_true] at h
   obtain⟨q1,q2⟩:=h (a+2) (by omega) rfl
   refine goW ?_
   refine step_ruleO (sx_ixS (k:=a+1) rfl rfl hget) (goW ?_)
   rw [show ((b.toNat:Int) == 45)=(b == 45) from u8_eqI b 45,h45,show wr .i64 (((a+1:Nat):Int)+1)=((a+2:Nat):Int) from wrNat (by omega)]
   refine goK ?_
   with_unfolding_all exact expRun_wp (gt:=gt) hm hrun hsl (by omega) q1 q2
  | false =>
   rw [h43,h45] at h
   simp only [Bool.false_eq_true,if_false] at h
   obtain⟨q1,q2⟩:=h (a+1) (by omega) rfl
   refine goK ?_
   with_unfolding_all exact expRun_wp (gt:=gt) hm hrun hsl (by omega) q1 q2
end

section
variable {gt:GT} {C:CallT}
set_option maxHeartbeats 8000000 in
theorem splitE_wp (hm:MonoC C) (hrun:∀(s:List UInt8) (k:Nat),k≤s.length→s.length<4611686018427387904→PF C 134 [.str s,.int .i64 k] (.int .i64 ((k+runB (s.drop k):Nat):Int)))
  {s w p:List UInt8} {n:Bool} {a:Nat} {z:Env} {res:Parts3×Int} (hs:s≠[]) (hsl:s.length<4611686018427387904) (ha:a≤s.length) (hl:w.length+p.length≤s.length)
  (hf:res=outS s (cutE n w p (s.drop a))) :
  wpD gt C F113.body.rt.rt.rt.rt.rt.rt.rt.rt ((0,.val (.str s))::(2,.box zP)::(5,.val (.int .i64 a))::(6,.val (.str w))::(7,.val (.str p))::z) St.init (bodyQ gt F113.res (Ret (encSplit res))):=by
 unfold cutE at hf
 conv=>whnf
 refine goW ?_
 by_cases hc:(a:Int)<(s.length:Nat)
 case neg =>
  rw [dF hc]
  have hd0:s.drop a=[]:=List.drop_eq_nil_of_le (by omega)
  rw [hd0,if_pos rfl,outS_some (show (expD []).all dig=true from rfl)] at hf
  have hae:a=s.length:=by omega
  have fin:=fun z=>splitLen_wp (gt:=gt) (z:=z) (a:=a) (ex:=[]) (neg:=false) (res:=res) hm hs hsl hl (by simp) rfl (by rw [hf,if_pos hae];rfl)
  refine goK ?_
  with_unfolding_all exact fin _
 have hik:a<s.length:=by omega
 have hdr:s.drop a=s[a]::s.drop (a+1):=dC hik
 have hget:s[a]? = some s[a]:=gE hik
 generalize s[a]=b at hdr hget
 rw [hdr,if_neg (show ¬b::s.drop (a+1)=[] by simp),show (b::s.drop (a+1)).drop 1=s.drop (a+1) from rfl,show hd 101 (b::s.drop (a+1))=(b == 101) from rfl,show hd 69 (b::s.drop (a+1))=(b == 69) from rfl] at hf
 clear hdr
 have hne:¬a=s.length:=by omega
 have notE:=fun (h:res=(zeroP,12)) (z:Env)=>splitLen_wp (gt:=gt) (z:=z) (a:=a) (ex:=[]) (neg:=false) (res:=res) hm hs hsl hl (by simp) rfl (by rw [h,if_neg hne])
 have isE:((b == 101)=true∨(b == 69)=true)→∀pos,pos≤s.length→s.drop pos=expD (s.drop (a+1))→(runB (s.drop pos)=0→res=(zeroP,12)) ∧
   (runB (s.drop pos)≠0→∀z,wpD gt C F113.body.rt.rt.rt.rt.rt.rt.rt.rt.rt.rt.rt ((0,.val (.str s))::(2,.box zP)::(5,.val (.int .i64 ((pos+runB (s.drop pos):Nat):Int)))::(6,.val (.str w))::(7,.val (.str p))::(9,.val (.str ((s.drop pos).take (runB (s.drop pos)))))::(10,.val (.bool (hd 45 (s.drop (a+1)))))::z) St.init (bodyQ gt F113.res (Ret (encSplit res)))):=fun hb pos hp he=>by
  have hle:=runB_le (s.drop pos)
  rw [if_neg (by rintro⟨h1,h2⟩;rcases hb with h | h;rw [h] at h1;cases h1;rw [h] at h2;cases h2)] at hf
  rw [←he] at hf
  refine⟨fun h0=>?_,fun h0 z=>?_⟩
  ·rw [hf,if_pos ?_];rfl
   cases hq:s.drop pos with
   | nil=>exact .inl rfl
   | cons c q=>right;rw [←hq,h0,hq];simp
  ·have hne2:s.drop pos≠[]:=fun e=>by rw [e] at h0;exact h0 rfl
   have hdl:(s.drop pos).length=s.length-pos:=lD
   refine splitLen_wp (gt:=gt) (z:=z) (res:=res) hm hs hsl hl (by rw [lT];omega) (runB_take _) ?_
   by_cases hf2:runB (s.drop pos)<(s.drop pos).length
   ·rw [if_pos (.inr hf2)] at hf
    rw [hf,if_neg (show ¬pos+runB (s.drop pos)=s.length by omega)];rfl
   ·rw [if_neg (by rintro (h | h);exact hne2 h;exact hf2 h)] at hf
    have hall:=runB_all hf2
    rw [hf,if_pos (show pos+runB (s.drop pos)=s.length by omega),List.take_of_length_le (by omega),outS_some (by rw [←he];exact hall),←he]
 rw [dT hc]
 refine goW ?_
 refine st_any (by exact rfl) (sx_ixS (k:=a) rfl rfl hget) (goW ?_)
 rw [show ((b.toNat:Int) == 101)=(b == 101) from u8_eqI b 101]
 cases h1:(b == 101) with
 | true =>
  have isE:=isE (.inl h1)
  refine goK ?_
  with_unfolding_all refine expIn_wp (gt:=gt) hm hrun hsl hik ?_
  intro pos hp he
  obtain⟨i1,i2⟩:=isE pos hp he
  refine⟨fun h0=>?_,fun h0=>?_⟩
  ·rw [i1 h0]
   exact⟨_,rfl,Ret.sta (sta_split (zeroP,12))⟩
  ·with_unfolding_all exact i2 h0 _
 | false =>
  refine goW ?_
  refine st_any (by exact rfl) (sx_ixS (k:=a) rfl rfl hget) (goW ?_)
  rw [show ((b.toNat:Int) == 69)=(b == 69) from u8_eqI b 69]
  cases h2:(b == 69) with
  | true =>
   have isE:=isE (.inr h2)
   refine goK ?_
   with_unfolding_all refine expIn_wp (gt:=gt) hm hrun hsl hik ?_
   intro pos hp he
   obtain⟨i1,i2⟩:=isE pos hp he
   refine⟨fun h0=>?_,fun h0=>?_⟩
   ·rw [i1 h0]
    exact⟨_,rfl,Ret.sta (sta_split (zeroP,12))⟩
   ·with_unfolding_all exact i2 h0 _
  | false =>
   rw [h1,h2,if_pos ⟨rfl,rfl⟩] at hf
   have notE:=notE hf
   refine goK ?_
   with_unfolding_all exact notE _
end

theorem cutE_neg {m n:Bool} {w p q w' p' e:List UInt8} (h:cutE m w p q=some (n,w',p',e)):n=m:=by
 unfold cutE at h
 split at h
 ·simp only [oI,Prod.mk.injEq] at h;exact h.1.symm
 ·split at h
  ·cases h
  ·split at h
   ·cases h
   ·simp only [oI,Prod.mk.injEq] at h;exact h.1.symm
theorem cutP_neg {m n:Bool} {q w p e:List UInt8} (h:cutP m q=some (n,w,p,e)):n=m:=by
 unfold cutP at h
 split at h
 ·cases h
 ·split at h
  ·split at h
   ·cases h
   ·exact cutE_neg h
  ·exact cutE_neg h
theorem split_outS (s:List UInt8):splitB s=outS s (cutB s):=by
 unfold splitB outS
 have hn:∀n w p e,cutB s=some (n,w,p,e)→n=hd 45 s:=fun n w p e h=>by
  unfold cutB at h
  split at h
  ·rename_i hh;rw [cutP_neg h,hh]
  ·rename_i hh;rw [cutP_neg h];simp only [Bool.not_eq_true] at hh;rw [hh]
 cases hc:cutB s with
 | none=>rfl
 | some q =>
  obtain⟨n,w,p,e⟩:=q
  simp only
  rw [hn n w p e hc]
  split
  ·rfl
  ·cases expB e with
   | none=>rfl
   | some x =>
    simp only [finS]
    obtain⟨h1,h2⟩:=trim_comm [48] (w++p)
    rw [h1]
    by_cases hz:trimR [48] (trimL [48] (w++p))=[]
    ·rw [if_pos hz,if_pos hz]
    ·rw [if_neg hz,if_neg hz]
     have h2:=h2 hz
     have t1:=trimR_le [48] (trimL [48] (w++p))
     rw [h2]
     congr 3
     omega
section
variable {gt:GT} {C:CallT}
set_option maxHeartbeats 8000000 in
theorem splitDot_wp (hm:MonoC C) (hrun:∀(s:List UInt8) (k:Nat),k≤s.length→s.length<4611686018427387904→PF C 134 [.str s,.int .i64 k] (.int .i64 ((k+runB (s.drop k):Nat):Int)))
  {s w:List UInt8} {n:Bool} {a:Nat} {z:Env} {res:Parts3×Int} (hs:s≠[]) (hsl:s.length<4611686018427387904) (ha:a≤s.length) (hl:w.length≤a)
  (hf:res=outS s (if hd 46 (s.drop a)=true then (if runB (s.drop (a+1))=0 then none else cutE n w ((s.drop (a+1)).take (runB (s.drop (a+1)))) (s.drop (a+1+runB (s.drop (a+1))))) else cutE n w [] (s.drop a))) :
  wpD gt C F113.body.rt.rt.rt.rt.rt.rt.rt ((0,.val (.str s))::(2,.box zP)::(5,.val (.int .i64 a))::(6,.val (.str w))::(7,.val (.str []))::z) St.init (bodyQ gt F113.res (Ret (encSplit res))):=by
 have ret:∀{o:Parts3×Int} {S:St},res=o→Ret (encSplit res) (.ret (encSplit o)) S:=fun h=>by rw [h];exact Ret.sta (sta_split _)
 conv=>whnf
 refine goW ?_
 by_cases hc:(a:Int)<(s.length:Nat)
 case neg =>
  rw [hd_drop_end (by omega),if_neg (by simp)] at hf
  have fin:=fun (z:Env)=>splitE_wp (gt:=gt) (z:=z) hm hrun hs hsl ha (by simp only [List.length_nil];omega) hf
  rw [dF hc]
  refine goK ?_
  with_unfolding_all exact fin []
 have hik:a<s.length:=by omega
 have hget:s[a]? = some s[a]:=gE hik
 rw [hd_drop hik] at hf
 generalize s[a]=b at hf hget
 rw [dT hc]
 refine goW ?_
 refine st_any (by exact rfl) (sx_ixS (k:=a) rfl rfl hget) (goW ?_)
 rw [show ((b.toNat:Int) == 46)=(b == 46) from u8_eqI b 46]
 cases h46:(b == 46) with
 | false =>
  rw [h46,if_neg (by simp)] at hf
  have fin:=fun (z:Env)=>splitE_wp (gt:=gt) (z:=z) hm hrun hs hsl ha (by simp only [List.length_nil];omega) hf
  refine goK ?_
  with_unfolding_all exact fin []
 | true =>
  rw [h46,if_pos rfl] at hf
  have hrun:=hrun
  have hr1:=hrun s (a+1) (by omega) hsl
  have hle:=runB_le (s.drop (a+1))
  rw [lD] at hle
  generalize hr:runB (s.drop (a+1))=r at hr1 hf hle
  refine goW ?_
  rw [wrNat (by omega)]
  refine call_pf hm (by rfl) hr1 (goW ?_)
  rw [wrNat (by omega)]
  by_cases hz:r=0
  ·rw [eqI_true (show ((a+1+r:Nat):Int)=((a+1:Nat):Int) by omega)]
   rw [if_pos hz] at hf
   refine goW ?_
   exact⟨_,rfl,ret (o:=(zeroP,12)) hf⟩
  rw [eqI_false (show ¬((a+1+r:Nat):Int)=((a+1:Nat):Int) by omega)]
  rw [if_neg hz] at hf
  have fin:=fun (z:Env)=>splitE_wp (gt:=gt) (z:=z) hm hrun hs hsl (by omega) (by rw [lT,lD];omega) hf
  refine goW ?_
  rw [wrNat (by omega)]
  refine step_ruleO (sx_slLH (l:=a+1) (h:=a+1+r) rfl rfl rfl (by omega) (by omega)) ?_
  rw [show ((s.drop (a+1)).take (a+1+r-(a+1)))=(s.drop (a+1)).take r by rw [Nat.add_sub_cancel_left]]
  refine goK ?_
  with_unfolding_all exact fin []
end

section
variable {gt:GT} {C:CallT}
set_option maxHeartbeats 8000000 in
theorem splitRun_wp (hm:MonoC C) (hrun:∀(s:List UInt8) (k:Nat),k≤s.length→s.length<4611686018427387904→PF C 134 [.str s,.int .i64 k] (.int .i64 ((k+runB (s.drop k):Nat):Int)))
  {s:List UInt8} {n:Bool} {i:Nat} {z:Env} {res:Parts3×Int} (hsl:s.length<4611686018427387904) (hi:i≤s.length)
  (hf:res=outS s (cutP n (s.drop i))) :
  wpD gt C F113.body.rt.rt.rt ((0,.val (.str s))::(2,.box zP)::(4,.val (.int .i64 i))::z) St.init (bodyQ gt F113.res (Ret (encSplit res))):=by
 have ret:∀{o:Parts3×Int} {S:St},res=o→Ret (encSplit res) (.ret (encSplit o)) S:=fun h=>by rw [h];exact Ret.sta (sta_split _)
 have hr1:=hrun s i hi hsl
 have hle:=runB_le (s.drop i)
 rw [lD] at hle
 unfold cutP at hf
 rw [List.drop_drop,List.drop_drop,List.drop_drop] at hf
 generalize hr:runB (s.drop i)=r at hr1 hf hle
 conv=>whnf
 refine goW ?_
 refine call_pf hm (by rfl) hr1 (goW ?_)
 by_cases hz:r=0
 ·rw [eqI_true (show ((i+r:Nat):Int)=i by omega)]
  rw [if_pos (.inl hz)] at hf
  refine goW ?_
  exact⟨_,rfl,ret (o:=(zeroP,12)) hf⟩
 rw [eqI_false (show ¬((i+r:Nat):Int)=i by omega)]
 have hik:i<s.length:=by omega
 have hs:s≠[]:=fun e=>by rw [e] at hik;simp at hik
 have hget:s[i]? = some s[i]:=gE hik
 rw [hd_drop hik] at hf
 generalize s[i]=b at hf hget
 refine goW ?_
 refine st_any (by exact rfl) (sx_ixS (k:=i) rfl rfl hget) (goW ?_)
 rw [show ((b.toNat:Int) == 48)=(b == 48) from u8_eqI b 48]
 have dot:¬(1<r∧(b == 48)=true)→∀z,wpD gt C F113.body.rt.rt.rt.rt.rt.rt.rt ((0,.val (.str s))::(2,.box zP)::(5,.val (.int .i64 ((i+r:Nat):Int)))::(6,.val (.str ((s.drop i).take r)))::(7,.val (.str []))::z) St.init (bodyQ gt F113.res (Ret (encSplit res))):=fun h z=>by
  rw [if_neg (by rintro (h' | h');exact hz h';exact h h')] at hf
  refine splitDot_wp (n:=n) hm hrun hs hsl (by omega) (by rw [lT];omega) ?_
  rw [hf]
  simp only [Nat.add_assoc]
 cases h48:(b == 48) with
 | true =>
  refine goW ?_
  rw [wrNat (by omega)]
  by_cases h1:((i+r:Nat):Int) > ((i+1:Nat):Int)
  ·rw [dT h1]
   rw [if_pos (.inr ⟨by omega,h48⟩)] at hf
   refine goW ?_
   exact⟨_,rfl,ret (o:=(zeroP,12)) hf⟩
  ·rw [dF h1]
   have dot:=dot (fun h=>by omega)
   refine goW ?_
   refine step_ruleO (sx_slLH (l:=i) (h:=i+r) rfl rfl rfl (by omega) (by omega)) ?_
   rw [show ((s.drop i).take (i+r-i))=(s.drop i).take r by rw [Nat.add_sub_cancel_left]]
   refine goK ?_
   with_unfolding_all exact dot []
 | false =>
  have dot:=dot (fun h=>by rw [h48] at h;cases h.2)
  refine goW ?_
  refine step_ruleO (sx_slLH (l:=i) (h:=i+r) rfl rfl rfl (by omega) (by omega)) ?_
  rw [show ((s.drop i).take (i+r-i))=(s.drop i).take r by rw [Nat.add_sub_cancel_left]]
  refine goK ?_
  with_unfolding_all exact dot []
set_option maxHeartbeats 8000000 in
theorem splitR_wp (hm:MonoC C) (hrun:∀(s:List UInt8) (k:Nat),k≤s.length→s.length<4611686018427387904→PF C 134 [.str s,.int .i64 k] (.int .i64 ((k+runB (s.drop k):Nat):Int)))
  {s:List UInt8} (hsl:s.length<4611686018427387904):wpF gt C F113 [.str s] St.init (Ret (encSplit (splitB s))):=by
 have hf:=split_outS s
 unfold cutB at hf
 generalize splitB s=res at hf ⊢
 refine⟨rfl,?_⟩
 refine goW ?_
 cases s with
 | nil =>
  have hf:res=outS [] (cutP false (([]:List UInt8).drop 0)):=hf
  have fin:=fun (z:Env)=>splitRun_wp (gt:=gt) (z:=z) (i:=0) hm hrun hsl (Nat.zero_le _) hf
  rw [dF (show ¬(0:Int)<((([]:List UInt8).length:Nat):Int) by simp)]
  refine goK ?_
  with_unfolding_all exact fin []
 | cons b r =>
  have hget:(b::r)[0]? = some b:=rfl
  have h45:hd 45 (b::r)=(b == 45):=rfl
  rw [h45] at hf
  have hlen:(b::r).length=r.length+1:=rfl
  generalize hq:b::r=s at hget hf hsl hlen ⊢
  rw [dT (show (0:Int)<((s.length:Nat):Int) by omega)]
  refine goW ?_
  refine st_any (by exact rfl) (sx_ixS (k:=0) rfl rfl hget) (goW ?_)
  rw [show ((b.toNat:Int) == 45)=(b == 45) from u8_eqI b 45]
  cases hb:(b == 45) with
  | true =>
   rw [hb,if_pos rfl] at hf
   have fin:=fun (z:Env)=>splitRun_wp (gt:=gt) (z:=z) (i:=1) hm hrun hsl (by omega) hf
   refine goK ?_
   with_unfolding_all exact fin []
  | false =>
   rw [hb,if_neg (by simp)] at hf
   have fin:=fun (z:Env)=>splitRun_wp (gt:=gt) (z:=z) (i:=0) hm hrun hsl (by omega) hf
   refine goK ?_
   with_unfolding_all exact fin []
end

section
variable {gt:GT} {C:CallT}
abbrev E_jn (neg:Bool) (d:List UInt8) (e:Int) (i:Int):Env:=[(1,.box [.bool neg,.str d,.int .i64 e]),(4,.val (.int .i64 d.length)),(5,.val (.int .i64 i))]
set_option maxHeartbeats 8000000 in
theorem joinEnd_wp (hm:MonoC C) (hit:∀e:Int,-999999≤e→e≤999999→PF C 136 [.int .i64 e] (.str (itoaB e)))
  {neg:Bool} {d:List UInt8} {e:Int} {z:Env} {res:List UInt8×Int} (hl:d.length≤1000) (h1:-999999≤e) (h2:e≤999999)
  (hf:res=if 1000<((if neg=true then [45]++d else d)++(if e=0 then [] else [101]++itoaB e)).length then ([],2)
  else ((if neg=true then [45]++d else d)++(if e=0 then [] else [101]++itoaB e),0)) :
  wpD gt C F114.body.rt.rt.rt.rt.rt.rt ((1,.box [.bool neg,.str d,.int .i64 e])::z) St.init (bodyQ gt F114.res (Ret (encJoin res))):=by
 have ret:∀{o:List UInt8×Int} {S:St},res=o→Ret (encJoin res) (.ret (encJoin o)) S:=fun h=>by rw [h];exact Ret.sta (sta_join _)
 have hil:=itoaB_len h1 h2
 have hit:=hit e h1 h2
 conv=>whnf
 refine goW ?_
 cases neg with
 | true =>
  rw [if_pos rfl] at hf
  refine goW ?_
  refine step_ruleO (st_addS rfl rfl (by simp only [lC,List.length_nil];omega)) ?_
  have hl2:([45]++d).length=d.length+1:=by simp
  generalize ([45]:List UInt8)++d=x at hf hl2 ⊢
  refine goW ?_
  by_cases z5:e=0
  ·rw [neI_false z5]
   rw [if_pos z5,List.append_nil] at hf
   refine goW ?_
   by_cases z6:(x.length:Int) > 1000
   ·rw [dT z6]
    refine goW ?_
    exact⟨_,rfl,ret (o:=([],2)) (by rw [hf,if_pos (by omega)])⟩
   rw [dF z6]
   refine goW ?_
   exact⟨_,rfl,ret (o:=(x,0)) (by rw [hf,if_neg (by omega)])⟩
  rw [neI_true z5]
  rw [if_neg z5,←aA] at hf
  refine goW ?_
  refine step_ruleO (st_addS rfl rfl (by simp only [lC,List.length_nil];omega)) ?_
  have hl3:(x++[101]).length=x.length+1:=by simp
  generalize x++([101]:List UInt8)=y at hf hl3 ⊢
  refine goW ?_
  refine call_pf hm (by rfl) hit (goW ?_)
  refine step_ruleO (st_addS rfl rfl (by omega)) ?_
  generalize y++itoaB e=v at hf ⊢
  refine goW ?_
  by_cases z6:(v.length:Int) > 1000
  ·rw [dT z6]
   refine goW ?_
   exact⟨_,rfl,ret (o:=([],2)) (by rw [hf,if_pos (by omega)])⟩
  rw [dF z6]
  refine goW ?_
  exact⟨_,rfl,ret (o:=(v,0)) (by rw [hf,if_neg (by omega)])⟩
 | false =>
  simp only [Bool.false_eq_true,if_false] at hf
  refine goW ?_
  by_cases z5:e=0
  ·rw [neI_false z5]
   rw [if_pos z5,List.append_nil] at hf
   refine goW ?_
   by_cases z6:(d.length:Int) > 1000
   ·rw [dT z6]
    refine goW ?_
    exact⟨_,rfl,ret (o:=([],2)) (by rw [hf,if_pos (by omega)])⟩
   rw [dF z6]
   refine goW ?_
   exact⟨_,rfl,ret (o:=(d,0)) (by rw [hf,if_neg (by omega)])⟩
  rw [neI_true z5]
  rw [if_neg z5,←aA] at hf
  refine goW ?_
  refine step_ruleO (st_addS rfl rfl (by simp only [lC,List.length_nil];omega)) ?_
  have hl3:(d++[101]).length=d.length+1:=by simp
  generalize d++([101]:List UInt8)=y at hf hl3 ⊢
  refine goW ?_
  refine call_pf hm (by rfl) hit (goW ?_)
  refine step_ruleO (st_addS rfl rfl (by omega)) ?_
  generalize y++itoaB e=v at hf ⊢
  refine goW ?_
  by_cases z6:(v.length:Int) > 1000
  ·rw [dT z6]
   refine goW ?_
   exact⟨_,rfl,ret (o:=([],2)) (by rw [hf,if_pos (by omega)])⟩
  rw [dF z6]
  refine goW ?_
  exact⟨_,rfl,ret (o:=(v,0)) (by rw [hf,if_neg (by omega)])⟩
set_option maxHeartbeats 8000000 in
theorem joinR_wp (hm:MonoC C) (hdg:∀b:UInt8,PF C 135 [.int .u8 b.toNat] (.bool (dig b))) (hit:∀e:Int,-999999≤e→e≤999999→PF C 136 [.int .i64 e] (.str (itoaB e)))
  {p:Parts3} (hl:p.2.1.length≤1000):wpF gt C F114 [encP p] St.init (Ret (encJoin (joinB p))):=by
 obtain⟨neg,d,e⟩:=p
 simp only at hl
 have ret:∀{o:List UInt8×Int} {S:St},joinB (neg,d,e)=o→Ret (encJoin (joinB (neg,d,e))) (.ret (encJoin o)) S:=fun h=>by rw [h];exact Ret.sta (sta_join _)
 have hf:joinB (neg,d,e)=if runB d<d.length∨(hd 48 d=true∨tl 48 d=true)∨(d=[]∧(e≠0∨neg=true)) then ([],1)
  else if e < -999999∨999999<e then ([],5)
  else if d=[] then ([48],0)
  else if 1000<((if neg=true then [45]++d else d)++(if e=0 then [] else [101]++itoaB e)).length then ([],2)
  else ((if neg=true then [45]++d else d)++(if e=0 then [] else [101]++itoaB e),0):=rfl
 generalize joinB (neg,d,e)=res at ret hf ⊢
 refine⟨rfl,?_⟩
 refine goW ?_
 refine loop_rule hm (α:=Nat) (fun i env S'=>i≤d.length∧env=E_jn neg d e i∧S'=St.init∧runB d=i+runB (d.drop i)) (fun i=>d.length-i) ?_ (a:=0) ⟨Nat.zero_le _,rfl,rfl,by simp⟩
 rintro i env S' ⟨hi,rfl,rfl,hp⟩
 refine goW ?_
 by_cases hc:(i:Int)<(d.length:Nat)
 ·rw [dT hc]
  refine goW ?_
  have hik:i<d.length:=by omega
  refine step_ruleO (sx_ixS (k:=i) rfl rfl (gE hik)) (goW ?_)
  refine call_pf hm (by rfl) (hdg d[i]) ?_
  rw [dC hik] at hp
  simp only [runB] at hp
  cases hdi:dig d[i] with
  | false =>
   rw [hdi] at hp
   refine goW ?_
   exact⟨_,rfl,ret (o:=([],1)) (by rw [hf,if_pos (.inl (by simp only [Bool.false_eq_true,if_false] at hp;omega))])⟩
  | true =>
   rw [hdi,if_pos rfl] at hp
   refine goW ?_
   refine⟨i+1,⟨by omega,?_,rfl,by rw [hp];omega⟩,by omega⟩
   rw [wrNat (by omega)]
 rw [dF hc]
 rw [List.drop_eq_nil_of_le (by omega)] at hp
 have z1:¬runB d<d.length:=by rw [hp];simp only [runB];omega
 clear hp hc
 refine goW ?_
 cases d with
 | nil =>
  rw [eqI_true (show ((([]:List UInt8).length:Nat):Int)=0 from rfl)]
  refine goW ?_
  by_cases y1:e=0
  ·rw [neI_false y1]
   refine goW ?_
   cases neg with
   | true =>
    refine goW ?_
    exact⟨_,rfl,ret (o:=([],1)) (by rw [hf,if_pos (.inr (.inr ⟨rfl,.inr rfl⟩))])⟩
   | false =>
    rw [if_neg (by rintro (h | (h | h) | ⟨_,h | h⟩);exact z1 h;cases h;cases h;exact h y1;cases h)] at hf
    subst y1
    refine goW ?_
    exact⟨_,rfl,ret (o:=([48],0)) (by rw [hf,if_neg (by omega),if_pos rfl])⟩
  ·rw [neI_true y1]
   refine goW ?_
   exact⟨_,rfl,ret (o:=([],1)) (by rw [hf,if_pos (.inr (.inr ⟨rfl,.inl y1⟩))])⟩
 | cons b r =>
  have hlen:(b::r).length=r.length+1:=rfl
  generalize hd0:b::r=d at ret hf hl z1 hlen ⊢
  have hb0:d[0]? = some b:=by rw [←hd0];rfl
  have hne:d≠[]:=by rw [←hd0];simp
  obtain⟨lb,hlb⟩:∃lb,d[d.length-1]? = some lb:=⟨_,gE (by omega)⟩
  rw [eqI_false (show ¬((d.length:Nat):Int)=0 by omega)]
  refine goW ?_
  rw [dT (show ((d.length:Nat):Int) > 0 by omega)]
  refine goW ?_
  refine st_any (by exact rfl) (sx_ixS (k:=0) rfl rfl hb0) (goW ?_)
  rw [show ((b.toNat:Int) == 48)=(b == 48) from u8_eqI b 48,←hd_head (c:=48) hb0]
  cases y1:hd 48 d with
  | true =>
   refine goW ?_
   exact⟨_,rfl,ret (o:=([],1)) (by rw [hf,if_pos (.inr (.inl (.inl y1)))])⟩
  | false =>
   refine goW ?_
   rw [show wr .i64 ((d.length:Int)-1)=((d.length-1:Nat):Int) by rw [wr64 (by omega) (by omega)];omega]
   refine st_any (by exact rfl) (sx_ixS (k:=d.length-1) rfl rfl hlb) (goW ?_)
   rw [show ((lb.toNat:Int) == 48)=(lb == 48) from u8_eqI lb 48,←tl_last (c:=48) hlb (by omega)]
   cases y2:tl 48 d with
   | true =>
    refine goW ?_
    exact⟨_,rfl,ret (o:=([],1)) (by rw [hf,if_pos (.inr (.inl (.inr y2)))])⟩
   | false =>
    rw [if_neg (by rintro (h | (h | h) | ⟨h,_⟩);exact z1 h;rw [y1] at h;cases h;rw [y2] at h;cases h;exact hne h)] at hf
    refine goW ?_
    by_cases x2:e > 999999
    ·rw [dT x2]
     refine goW ?_
     exact⟨_,rfl,ret (o:=([],5)) (by rw [hf,if_pos (.inr x2)])⟩
    rw [dF x2]
    refine goW ?_
    by_cases x1:e < -999999
    ·rw [dT x1]
     refine goW ?_
     exact⟨_,rfl,ret (o:=([],5)) (by rw [hf,if_pos (.inl x1)])⟩
    rw [dF x1]
    rw [if_neg (by omega),if_neg hne] at hf
    refine goW ?_
    rw [eqI_false (show ¬((d.length:Nat):Int)=0 by omega)]
    have fin:=fun (z:Env)=>joinEnd_wp (gt:=gt) (z:=z) hm hit hl (by omega) (by omega) hf
    refine goK ?_
    with_unfolding_all exact fin []
set_option maxHeartbeats 4000000 in
theorem normalR_wp (hm:MonoC C) (hsplit:∀s:List UInt8,s.length<4611686018427387904→PF C 113 [.str s] (encSplit (splitB s))) (hjoin:∀p:Parts3,p.2.1.length≤1000→PF C 114 [encP p] (encJoin (joinB p)))
  {s:List UInt8} (hl:s.length<4611686018427387904):wpF gt C F93 [.str s] St.init (Ret (encJoin (normB s))):=by
 have hsplit:=hsplit s hl
 have hlen:=splitB_len (s:=s)
 unfold normB
 generalize splitB s=q at hsplit hlen ⊢
 obtain⟨⟨neg,d,e⟩,er⟩:=q
 simp only at hlen ⊢
 refine⟨rfl,?_⟩
 refine goW ?_
 refine call_pf hm (by rfl) hsplit (goW ?_)
 by_cases z:er=0
 ·rw [neI_false z,if_pos z]
  refine goW ?_
  have hj:=hjoin (neg,d,e) (hlen z)
  refine call_pf hm (by rfl) hj ?_
  generalize joinB (neg,d,e)=jr
  refine goW ?_
  exact⟨_,rfl,Ret.sta (sta_join _)⟩
 ·rw [neI_true z,if_neg z]
  refine goW ?_
  exact⟨_,rfl,Ret.sta (sta_join ([],er))⟩
end

def digL (n:Nat) (t:List UInt8):Int:=if t.length=n∧t.all dig=true then valB 0 t else -1
def digI (s:List UInt8) (a n:Nat):Int:=digL n ((s.drop a).take n)
theorem digI_two (s:List UInt8) (a:Nat):digI s a 2=twoB ((s.drop a).take 2):=by
 unfold digI
 generalize (s.drop a).take 2=t
 match t with
 | []=>rfl
 | [x]=>rfl
 | [x,y] =>
  unfold digL
  simp only [twoB,lC,List.length_nil,List.all_cons,List.all_nil,Bool.and_true,bA,true_and]
  by_cases h:dig x=true∧dig y=true
  ·have h1:=dig_iff.1 h.1
   have h2:=dig_iff.1 h.2
   refine (if_pos h).trans (Eq.trans ?_ (if_pos h).symm)
   show ((valB 0 [x,y]:Nat):Int)=_
   have e:valB 0 [x,y]=(0*10+(x.toNat-48))*10+(y.toNat-48):=rfl
   rw [e]
   omega
  ·rw [if_neg h,if_neg h]
 | _::_::_::r=>unfold digL;rw [if_neg (by rintro⟨h,_⟩;simp only [lC] at h;omega)];rfl
theorem valB_nil (a:Nat):valB a []=a:=rfl
theorem valB_cons (a:Nat) (b:UInt8) (r:List UInt8):valB a (b::r)=valB (a*10+(b.toNat-48)) r:=by
 have h:valB a (b::r)=valB (a*10+(b.toNat-48)) r:=Eq.refl _
 exact h
theorem valB_snoc (b:UInt8) (l:List UInt8):∀(a:Nat),valB a (l++[b])=valB a l*10+(b.toNat-48):=by
 induction l with
 | nil=>intro a;rw [List.nil_append,valB_cons,valB_nil,valB_nil]
 | cons c r ih=>intro a;rw [List.cons_append,valB_cons,valB_cons];exact ih _
section
variable {gt:GT} {C:CallT}
abbrev E_dgs (s:List UInt8) (a n:Nat) (v:Nat) (i:Nat):Env:=[(0,.val (.str s)),(1,.val (.int .i64 a)),(2,.val (.int .i64 n)),(7,.val (.int .i64 v)),(8,.val (.int .i64 i))]
set_option maxHeartbeats 4000000 in
theorem digs_wp (hm:MonoC C) {s:List UInt8} {a n:Nat} (ha:a<4611686018427387904) (hn:n≤9) (hl:s.length<4611686018427387904):wpF gt C F117 [.str s,.int .i64 a,.int .i64 n] St.init (Ret (.int .i64 (digI s a n))):=by
 have ret:∀{z:Int} {S:St},digI s a n=z→Ret (.int .i64 (digI s a n)) (.ret (.int .i64 z)) S:=fun h=>by rw [h];exact Ret.sta trivial
 refine⟨rfl,?_⟩
 refine goW ?_
 refine loop_rule hm (α:=Nat) (fun j env S'=>j≤n∧a+j≤s.length+(if j=0 then a else 0)∧((s.drop a).take j).all dig=true∧env=E_dgs s a n (valB 0 ((s.drop a).take j)) (a+j)∧S'=St.init) (fun j=>n-j) ?_ (a:=0) ⟨Nat.zero_le _,by simp,by simp,rfl,rfl⟩
 rintro j env S' ⟨hj,hlen,hall,rfl,rfl⟩
 have hlt:=valB_lt _ 0 hall
 have hj9:10 ^ ((s.drop a).take j).length≤10 ^ 9:=Nat.pow_le_pow_right (by decide) (by rw [lT];omega)
 have h9:(10:Nat) ^ 9=1000000000:=by decide
 have hv:valB 0 ((s.drop a).take j)<1000000000:=by omega
 clear hlt hj9 h9
 refine goW ?_
 rw [wr64 (n:=(a:Int)+(n:Int)) (by omega) (by omega)]
 by_cases hc:((a+j:Nat):Int)<(a:Int)+(n:Int)
 ·rw [dT hc]
  have hjn:j<n:=by omega
  have bad:¬(∃h:a+j<s.length,dig s[a+j]=true)→digI s a n=-1:=fun h=>by
   unfold digI digL
   rw [if_neg]
   rintro⟨h1,h2⟩
   rw [lT,lD] at h1
   have hal:a+j<s.length:=by omega
   refine h ⟨hal,List.all_eq_true.1 h2 _ ?_⟩
   refine List.mem_iff_getElem.2 ⟨j,by rw [lT,lD];omega,?_⟩
   rw [List.getElem_take,List.getElem_drop]
  refine goW ?_
  by_cases h1:((a+j:Nat):Int) ≥ (s.length:Nat)
  ·rw [dT h1]
   refine goW ?_
   exact⟨_,rfl,ret (bad fun ⟨h,_⟩=>by omega)⟩
  rw [dF h1]
  have hik:a+j<s.length:=by omega
  have hget:s[a+j]? = some s[a+j]:=gE hik
  have htk:(s.drop a).take (j+1)=(s.drop a).take j++[s[a+j]]:=by
   rw [tS (by rw [lD];omega),List.getElem_drop]
  have bad:dig s[a+j]=false→digI s a n=-1:=fun h=>bad fun ⟨_,h'⟩=>by rw [h] at h';cases h'
  generalize s[a+j]=b at hget htk bad
  refine goW ?_
  refine st_any (by exact rfl) (sx_ixS (k:=a+j) rfl rfl hget) (goW ?_)
  by_cases h2:(b.toNat:Int)<48
  ·rw [dT h2]
   refine goW ?_
   exact⟨_,rfl,ret (bad (by unfold dig;rw [dF (show ¬48≤b.toNat by omega),Bool.false_and]))⟩
  rw [dF h2]
  refine goW ?_
  refine st_any (by exact rfl) (sx_ixS (k:=a+j) rfl rfl hget) (goW ?_)
  by_cases h3:(b.toNat:Int) > 57
  ·rw [dT h3]
   refine goW ?_
   exact⟨_,rfl,ret (bad (by unfold dig;rw [dF (show ¬b.toNat≤57 by omega),Bool.and_false]))⟩
  rw [dF h3]
  have hdb:dig b=true:=dig_iff.2 ⟨by omega,by omega⟩
  refine goW ?_
  refine step_ruleO (sx_ixS (k:=a+j) rfl rfl hget) (goW ?_)
  refine⟨j+1,⟨by omega,by rw [if_neg (by omega)];omega,by rw [htk,List.all_append,hall];simp [hdb],?_,rfl⟩,by omega⟩
  simp only [E_dgs]
  rw [htk,valB_snoc,wrNat (by omega),wr8 (n:=(b.toNat:Int)-48) (by omega) (by omega),wr64 (n:=(b.toNat:Int)-48) (by omega) (by omega)]
  generalize valB 0 ((s.drop a).take j)=v at hv ⊢
  rw [wr64 (n:=(v:Int)*10) (by omega) (by omega),wr64 (n:=(v:Int)*10+((b.toNat:Int)-48)) (by omega) (by omega),
   show (v:Int)*10+((b.toNat:Int)-48)=((v*10+(b.toNat-48):Nat):Int) by omega]
  try rfl
 ·rw [dF hc]
  have hjn:j=n:=by omega
  subst hjn
  refine goW ?_
  have hlen':((s.drop a).take j).length=j:=by
   rw [lT,lD]
   by_cases h0:j=0
   ·subst h0;simp
   ·rw [if_neg h0] at hlen;omega
  exact⟨_,rfl,ret (if_pos ⟨hlen',hall⟩)⟩
end

theorem ten {s:List UInt8} (h:s.length=10):∃b0 b1 b2 b3 b4 b5 b6 b7 b8 b9,s=[b0,b1,b2,b3,b4,b5,b6,b7,b8,b9]:=by
 match s,h with
 | [b0,b1,b2,b3,b4,b5,b6,b7,b8,b9],_=>exact⟨b0,b1,b2,b3,b4,b5,b6,b7,b8,b9,rfl⟩
theorem twoB_ok (a b:UInt8):(0≤twoB [a,b]↔dig a=true∧dig b=true)∧(dig a=true∧dig b=true→twoB [a,b]=((a.toNat:Int)-48)*10+((b.toNat:Int)-48)):=by
 simp only [twoB]
 by_cases h:dig a=true∧dig b=true
 ·rw [if_pos h]
  have h1:=dig_iff.1 h.1
  have h2:=dig_iff.1 h.2
  exact⟨⟨fun _=>h,fun _=>by omega⟩,fun _=>rfl⟩
 ·rw [if_neg h]
  exact⟨⟨fun h'=>by omega,fun h'=>absurd h' h⟩,fun h'=>absurd h' h⟩
theorem dig4 (a b c d:UInt8):digL 4 [a,b,c,d]=if 0≤twoB [a,b]∧0≤twoB [c,d] then twoB [a,b]*100+twoB [c,d] else -1:=by
 unfold digL
 have e:([a,b,c,d].all dig=true)↔(dig a=true∧dig b=true)∧(dig c=true∧dig d=true):=by
  simp only [List.all_cons,List.all_nil,Bool.and_true,bA,and_assoc]
 obtain⟨p1,p2⟩:=twoB_ok a b
 obtain⟨q1,q2⟩:=twoB_ok c d
 by_cases h:(dig a=true∧dig b=true)∧(dig c=true∧dig d=true)
 ·rw [if_pos ⟨rfl,e.2 h⟩,if_pos ⟨p1.2 h.1,q1.2 h.2⟩,p2 h.1,q2 h.2]
  have h1:=dig_iff.1 h.1.1
  have h2:=dig_iff.1 h.1.2
  have h3:=dig_iff.1 h.2.1
  have h4:=dig_iff.1 h.2.2
  rw [valB_cons,valB_cons,valB_cons,valB_cons,valB_nil]
  omega
 ·rw [if_neg fun x=>h (e.1 x.2),if_neg fun x=>h ⟨p1.1 x.1,q1.1 x.2⟩]
theorem dateB_10 (b0 b1 b2 b3 b4 b5 b6 b7 b8 b9:UInt8):dateB [b0,b1,b2,b3,b4,b5,b6,b7,b8,b9] =
  ((b4 == 45) && ((b7 == 45) && (decide (0≤digI [b0,b1,b2,b3,b4,b5,b6,b7,b8,b9] 0 4) && (decide (1≤digI [b0,b1,b2,b3,b4,b5,b6,b7,b8,b9] 5 2) && (decide (digI [b0,b1,b2,b3,b4,b5,b6,b7,b8,b9] 5 2≤12) && (decide (1≤digI [b0,b1,b2,b3,b4,b5,b6,b7,b8,b9] 8 2) &&
   decide (digI [b0,b1,b2,b3,b4,b5,b6,b7,b8,b9] 8 2≤daysB (digI [b0,b1,b2,b3,b4,b5,b6,b7,b8,b9] 0 4) (digI [b0,b1,b2,b3,b4,b5,b6,b7,b8,b9] 5 2)))))))):=by
 have e1:digI [b0,b1,b2,b3,b4,b5,b6,b7,b8,b9] 0 4=if 0≤twoB [b0,b1]∧0≤twoB [b2,b3] then twoB [b0,b1]*100+twoB [b2,b3] else -1:=dig4 b0 b1 b2 b3
 have e2:digI [b0,b1,b2,b3,b4,b5,b6,b7,b8,b9] 5 2=twoB [b5,b6]:=digI_two _ 5
 have e3:digI [b0,b1,b2,b3,b4,b5,b6,b7,b8,b9] 8 2=twoB [b8,b9]:=digI_two _ 8
 have e4:dateB [b0,b1,b2,b3,b4,b5,b6,b7,b8,b9]=((b4 == 45) && ((b7 == 45) && (decide (0≤twoB [b0,b1]) && (decide (0≤twoB [b2,b3]) && ((decide (twoB [b5,b6] ≥ 1) && decide (twoB [b5,b6]≤12)) && (decide (twoB [b8,b9] ≥ 1) && decide (twoB [b8,b9]≤daysB (twoB [b0,b1]*100+twoB [b2,b3]) (twoB [b5,b6])))))))):=rfl
 rw [e1,e2,e3,e4]
 generalize twoB [b0,b1]=y1
 generalize twoB [b2,b3]=y2
 generalize twoB [b5,b6]=m
 generalize twoB [b8,b9]=d
 by_cases h1:0≤y1
 ·by_cases h2:0≤y2
  ·rw [if_pos ⟨h1,h2⟩,dT h1,dT h2,dT (show 0≤y1*100+y2 by omega)]
   simp only [Bool.true_and,Bool.and_assoc,ge_iff_le]
  ·rw [if_neg fun h=>h2 h.2,dF h2,dF (show ¬(0:Int)≤-1 by omega)]
   simp only [Bool.false_and,Bool.and_false]
 ·rw [if_neg fun h=>h1 h.1,dF h1,dF (show ¬(0:Int)≤-1 by omega)]
  simp only [Bool.false_and,Bool.and_false]
section
variable {gt:GT} {C:CallT}
set_option maxHeartbeats 8000000 in
theorem dateEnd_wp (hm:MonoC C) {y m d:Int} {z:Env} {res:Bool} (hf:res=(decide (0≤y) && (decide (1≤m) && (decide (m≤12) && (decide (1≤d) && decide (d≤daysB y m)))))) :
  wpD gt C F115.body.rt.rt.rt.rt.rt ((3,.val (.int .i64 y))::(4,.val (.int .i64 m))::(5,.val (.int .i64 d))::z) St.init (bodyQ gt F115.res (Ret (.bool res))):=by
 have ret:∀{o:Bool} {S:St},res=o→Ret (.bool res) (.ret (.bool o)) S:=fun h=>by rw [h];exact Ret.sta trivial
 conv=>whnf
 refine goW ?_
 by_cases y0:y<0
 ·rw [dT y0]
  refine goW ?_
  exact⟨_,rfl,ret (by rw [hf,dF (by omega)];rfl)⟩
 rw [dF y0]
 rw [dT (show 0≤y by omega),Bool.true_and] at hf
 refine goW ?_
 by_cases m0:m<1
 ·rw [dT m0]
  refine goW ?_
  exact⟨_,rfl,ret (by rw [hf,dF (by omega)];rfl)⟩
 rw [dF m0]
 rw [dT (show 1≤m by omega),Bool.true_and] at hf
 refine goW ?_
 by_cases m1:m > 12
 ·rw [dT m1]
  refine goW ?_
  exact⟨_,rfl,ret (by rw [hf,dF (by omega)];rfl)⟩
 rw [dF m1]
 rw [dT (show m≤12 by omega),Bool.true_and] at hf
 refine goW ?_
 by_cases d0:d<1
 ·rw [dT d0]
  refine goW ?_
  exact⟨_,rfl,ret (by rw [hf,dF (by omega)];rfl)⟩
 rw [dF d0]
 rw [dT (show 1≤d by omega),Bool.true_and] at hf
 unfold daysB at hf
 refine goW ?_
 by_cases m4:m=4
 ·rw [eqI_true m4]
  rw [if_pos (.inl m4)] at hf
  refine goW ?_
  rw [eqI_false (show ¬m=2 by omega)]
  refine goW ?_
  exact⟨_,rfl,ret hf⟩
 rw [eqI_false m4]
 refine goW ?_
 by_cases m6:m=6
 ·rw [eqI_true m6]
  rw [if_pos (.inr (.inl m6))] at hf
  refine goW ?_
  rw [eqI_false (show ¬m=2 by omega)]
  refine goW ?_
  exact⟨_,rfl,ret hf⟩
 rw [eqI_false m6]
 refine goW ?_
 by_cases m9:m=9
 ·rw [eqI_true m9]
  rw [if_pos (.inr (.inr (.inl m9)))] at hf
  refine goW ?_
  rw [eqI_false (show ¬m=2 by omega)]
  refine goW ?_
  exact⟨_,rfl,ret hf⟩
 rw [eqI_false m9]
 refine goW ?_
 by_cases m11:m=11
 ·rw [eqI_true m11]
  rw [if_pos (.inr (.inr (.inr m11)))] at hf
  refine goW ?_
  rw [eqI_false (show ¬m=2 by omega)]
  refine goW ?_
  exact⟨_,rfl,ret hf⟩
 rw [eqI_false m11]
 rw [if_neg (by omega)] at hf
 refine goW ?_
 by_cases m2:m=2
 case neg =>
  rw [eqI_false m2]
  rw [if_neg m2] at hf
  refine goW ?_
  exact⟨_,rfl,ret hf⟩
 rw [eqI_true m2]
 rw [if_pos m2] at hf
 refine goW ?_
 by_cases c4:y.tmod 4=0
 case neg =>
  rw [eqI_false c4]
  rw [if_neg fun h=>c4 h.1] at hf
  refine goW ?_
  exact⟨_,rfl,ret hf⟩
 rw [eqI_true c4]
 refine goW ?_
 by_cases c100:y.tmod 100=0
 case neg =>
  rw [neI_true c100]
  rw [if_pos ⟨c4,.inl c100⟩] at hf
  refine goW ?_
  exact⟨_,rfl,ret hf⟩
 rw [neI_false c100]
 refine goW ?_
 by_cases c400:y.tmod 400=0
 ·rw [eqI_true c400]
  rw [if_pos ⟨c4,.inr c400⟩] at hf
  refine goW ?_
  exact⟨_,rfl,ret hf⟩
 ·rw [eqI_false c400]
  rw [if_neg (by rintro⟨_,h | h⟩;exact h c100;exact c400 h)] at hf
  refine goW ?_
  exact⟨_,rfl,ret hf⟩
set_option maxHeartbeats 8000000 in
theorem date3_wp (hm:MonoC C) (hdg:∀(s:List UInt8) (a n:Nat),a<4611686018427387904→n≤9→s.length<4611686018427387904→PF C 117 [.str s,.int .i64 a,.int .i64 n] (.int .i64 (digI s a n)))
  {s:List UInt8}:wpF gt C F115 [.str s] St.init (Ret (.bool (dateB s))):=by
 refine⟨rfl,?_⟩
 refine goW ?_
 by_cases h10:s.length=10
 case neg =>
  rw [neI_true (show ¬((s.length:Nat):Int)=10 by omega)]
  refine goW ?_
  refine⟨_,rfl,?_⟩
  rw [show dateB s=false by unfold dateB;rw [dF h10];rfl]
  exact Ret.sta trivial
 rw [neI_false (show ((s.length:Nat):Int)=10 by omega)]
 have d1:=hdg s 0 4 (by omega) (by omega) (by omega)
 have d2:=hdg s 5 2 (by omega) (by omega) (by omega)
 have d3:=hdg s 8 2 (by omega) (by omega) (by omega)
 obtain⟨b0,b1,b2,b3,b4,b5,b6,b7,b8,b9,rfl⟩:=ten h10
 have hf:=dateB_10 b0 b1 b2 b3 b4 b5 b6 b7 b8 b9
 generalize dateB [b0,b1,b2,b3,b4,b5,b6,b7,b8,b9]=res at hf ⊢
 have ret:∀{o:Bool} {S:St},res=o→Ret (.bool res) (.ret (.bool o)) S:=fun h=>by rw [h];exact Ret.sta trivial
 generalize digI [b0,b1,b2,b3,b4,b5,b6,b7,b8,b9] 0 4=y at hf d1
 generalize digI [b0,b1,b2,b3,b4,b5,b6,b7,b8,b9] 5 2=m at hf d2
 generalize digI [b0,b1,b2,b3,b4,b5,b6,b7,b8,b9] 8 2=d at hf d3
 refine goW ?_
 rw [show ((b4.toNat:Int) != 45) = !(b4 == 45) from u8_neI b4 45]
 cases h4:(b4 == 45) with
 | false =>
  refine goW ?_
  exact⟨_,rfl,ret (by rw [hf,h4];rfl)⟩
 | true =>
 rw [h4,Bool.true_and] at hf
 refine goW ?_
 rw [show ((b7.toNat:Int) != 45) = !(b7 == 45) from u8_neI b7 45]
 cases h7:(b7 == 45) with
 | false =>
  refine goW ?_
  exact⟨_,rfl,ret (by rw [hf,h7];rfl)⟩
 | true =>
 rw [h7,Bool.true_and] at hf
 refine goW ?_
 refine call_pf hm (by rfl) d1 (goW ?_)
 refine call_pf hm (by rfl) d2 (goW ?_)
 refine call_pf hm (by rfl) d3 ?_
 have fin:=fun z=>dateEnd_wp (gt:=gt) (z:=z) hm hf
 refine goK ?_
 with_unfolding_all exact fin []
end

theorem tenD_all:(List.range 256).all (fun n=>tenD.contains (UInt8.ofNat n) == dig (UInt8.ofNat n))=true:=by kernel_rfl
theorem tenD_dig (b:UInt8):tenD.contains b=dig b:=by
 have:=List.all_eq_true.1 tenD_all b.toNat (List.mem_range.2 (u8_lt b))
 rwa [UInt8.ofNat_toNat,beq_iff_eq] at this
theorem trimA_nil {cs t:List UInt8}:trimA cs t=[]↔∀x∈t,cs.contains x=true:=by
 unfold trimA
 constructor
 ·intro h
  rw [(trim_comm cs t).1] at h
  cases ht:trimL cs t with
  | nil=>exact dropW_nil.1 ht
  | cons b r =>
   exfalso
   rw [ht] at h
   have hb:cs.contains b=false:=by
    have:=List.head_dropWhile_not (p:=(cs.contains ·)) (l:=t) (by show trimL cs t≠[];rw [ht];simp)
    have e:t.dropWhile (cs.contains ·)=b::r:=ht
    simp only [e,List.head_cons] at this
    exact this
   exact (trimR_head hb).1 h
 ·intro h
  rw [trimR_all h];rfl
theorem frac_iff {s:List UInt8} (h1:10≤s.length):decide (0≤digI s 9 (s.length-9))=beqB (trimA tenD (s.drop 9)) []:=by
 have hl:(s.drop 9).length=s.length-9:=lD
 unfold digI
 rw [List.take_of_length_le (by omega)]
 generalize s.drop 9=t at hl ⊢
 unfold digL
 rw [Bool.eq_iff_iff,beqB_iff,trimA_nil,decide_eq_true_eq]
 have e:(t.all dig=true)↔∀x∈t,tenD.contains x=true:=by
  rw [List.all_eq_true]
  exact⟨fun h x hx=>by rw [tenD_dig];exact h x hx,fun h x hx=>by rw [←tenD_dig];exact h x hx⟩
 rw [←e]
 by_cases ha:t.all dig=true
 ·rw [if_pos ⟨hl,ha⟩]
  generalize valB 0 t=v
  exact⟨fun _=>ha,fun _=>by omega⟩
 ·rw [if_neg fun h=>ha h.2]
  exact⟨fun h=>by omega,fun h=>absurd h ha⟩
section
variable {gt:GT} {C:CallT}
set_option maxHeartbeats 8000000 in
theorem clock3_wp (hm:MonoC C) (hdg:∀(s:List UInt8) (a n:Nat),a<4611686018427387904→n≤9→s.length<4611686018427387904→PF C 117 [.str s,.int .i64 a,.int .i64 n] (.int .i64 (digI s a n)))
  {s:List UInt8} (hsl:s.length<4611686018427387904):wpF gt C F116 [.str s] St.init (Ret (.bool (clockB s))):=by
 have hf:clockB s=(decide (8≤s.length) && (atB s 2 58 && (atB s 5 58 && ((decide (digI s 0 2 ≥ 0) && decide (digI s 0 2≤23)) && ((decide (digI s 3 2 ≥ 0) && decide (digI s 3 2≤59)) && ((decide (digI s 6 2 ≥ 0) && decide (digI s 6 2≤59)) &&
  (decide (s.length=8) || (atB s 8 46 && (decide (1≤(s.drop 9).length) && (decide ((s.drop 9).length≤9) && beqB (trimA tenD (s.drop 9)) [])))))))))):=by
  rw [digI_two,digI_two,digI_two];rfl
 have d1:=hdg s 0 2 (by omega) (by omega) hsl
 have d2:=hdg s 3 2 (by omega) (by omega) hsl
 have d3:=hdg s 6 2 (by omega) (by omega) hsl
 have hd9:(s.drop 9).length=s.length-9:=lD
 have hfr:=@frac_iff s
 have d4:=fun h=>hdg s 9 (s.length-9) (by omega) h hsl
 generalize clockB s=res at hf ⊢
 have ret:∀{o:Bool} {S:St},res=o→Ret (.bool res) (.ret (.bool o)) S:=fun h=>by rw [h];exact Ret.sta trivial
 generalize digI s 0 2=h at hf d1
 generalize digI s 3 2=m at hf d2
 generalize digI s 6 2=c at hf d3
 generalize digI s 9 (s.length-9)=fr at hfr d4
 refine⟨rfl,?_⟩
 refine goW ?_
 by_cases h8:(s.length:Int)<8
 ·rw [dT h8]
  refine goW ?_
  exact⟨_,rfl,ret (by rw [hf,dF (by omega)];rfl)⟩
 rw [dF h8]
 rw [dT (show 8≤s.length by omega),Bool.true_and] at hf
 obtain⟨b2,hb2⟩:∃b,s[2]? = some b:=⟨_,gE (by omega)⟩
 obtain⟨b5,hb5⟩:∃b,s[5]? = some b:=⟨_,gE (by omega)⟩
 rw [atB_get hb2,atB_get hb5] at hf
 refine goW ?_
 refine st_any (by exact rfl) (sx_ixS (k:=2) rfl rfl hb2) (goW ?_)
 rw [show ((b2.toNat:Int) != 58) = !(b2 == 58) from u8_neI b2 58]
 cases h2:(b2 == 58) with
 | false =>
  refine goW ?_
  exact⟨_,rfl,ret (by rw [hf,h2];rfl)⟩
 | true =>
 rw [h2,Bool.true_and] at hf
 refine goW ?_
 refine st_any (by exact rfl) (sx_ixS (k:=5) rfl rfl hb5) (goW ?_)
 rw [show ((b5.toNat:Int) != 58) = !(b5 == 58) from u8_neI b5 58]
 cases h5:(b5 == 58) with
 | false =>
  refine goW ?_
  exact⟨_,rfl,ret (by rw [hf,h5];rfl)⟩
 | true =>
 rw [h5,Bool.true_and] at hf
 refine goW ?_
 refine call_pf hm (by rfl) d1 (goW ?_)
 refine call_pf hm (by rfl) d2 (goW ?_)
 refine call_pf hm (by rfl) d3 (goW ?_)
 by_cases q1:h<0
 ·rw [dT q1]
  refine goW ?_
  exact⟨_,rfl,ret (by rw [hf,dF (show ¬h ≥ 0 by omega)];rfl)⟩
 rw [dF q1]
 rw [dT (show h ≥ 0 by omega),Bool.true_and] at hf
 refine goW ?_
 by_cases q2:h > 23
 ·rw [dT q2]
  refine goW ?_
  exact⟨_,rfl,ret (by rw [hf,dF (show ¬h≤23 by omega)];rfl)⟩
 rw [dF q2]
 rw [dT (show h≤23 by omega),Bool.true_and] at hf
 refine goW ?_
 by_cases q3:m<0
 ·rw [dT q3]
  refine goW ?_
  exact⟨_,rfl,ret (by rw [hf,dF (show ¬m ≥ 0 by omega)];rfl)⟩
 rw [dF q3]
 rw [dT (show m ≥ 0 by omega),Bool.true_and] at hf
 refine goW ?_
 by_cases q4:m > 59
 ·rw [dT q4]
  refine goW ?_
  exact⟨_,rfl,ret (by rw [hf,dF (show ¬m≤59 by omega)];rfl)⟩
 rw [dF q4]
 rw [dT (show m≤59 by omega),Bool.true_and] at hf
 refine goW ?_
 by_cases q5:c<0
 ·rw [dT q5]
  refine goW ?_
  exact⟨_,rfl,ret (by rw [hf,dF (show ¬c ≥ 0 by omega)];rfl)⟩
 rw [dF q5]
 rw [dT (show c ≥ 0 by omega),Bool.true_and] at hf
 refine goW ?_
 by_cases q6:c > 59
 ·rw [dT q6]
  refine goW ?_
  exact⟨_,rfl,ret (by rw [hf,dF (show ¬c≤59 by omega)];rfl)⟩
 rw [dF q6]
 rw [dT (show c≤59 by omega),Bool.true_and] at hf
 refine goW ?_
 by_cases q7:s.length=8
 ·rw [eqI_true (show ((s.length:Nat):Int)=8 by omega)]
  refine goW ?_
  exact⟨_,rfl,ret (by rw [hf,dT q7];rfl)⟩
 rw [eqI_false (show ¬((s.length:Nat):Int)=8 by omega)]
 rw [dF q7,Bool.false_or] at hf
 obtain⟨b8,hb8⟩:∃b,s[8]? = some b:=⟨_,gE (by omega)⟩
 rw [atB_get hb8] at hf
 refine goW ?_
 refine step_ruleO (sx_ixS (k:=8) rfl rfl hb8) (goW ?_)
 rw [show ((b8.toNat:Int) == 46)=(b8 == 46) from u8_eqI b8 46]
 cases h46:(b8 == 46) with
 | false =>
  refine goW ?_
  exact⟨_,rfl,ret (by rw [hf,h46];rfl)⟩
 | true =>
 rw [h46,Bool.true_and] at hf
 refine goW ?_
 by_cases q8:(s.length:Int) ≥ 10
 case neg =>
  rw [dF q8]
  refine goW ?_
  exact⟨_,rfl,ret (by rw [hf,dF (by omega)];rfl)⟩
 rw [dT q8]
 rw [dT (show 1≤(s.drop 9).length by omega),Bool.true_and] at hf
 refine goW ?_
 by_cases q9:(s.length:Int)≤18
 case neg =>
  rw [dF q9]
  refine goW ?_
  exact⟨_,rfl,ret (by rw [hf,dF (by omega)];rfl)⟩
 rw [dT q9]
 rw [dT (show (s.drop 9).length≤9 by omega),Bool.true_and,←hfr (by omega)] at hf
 have d4:=d4 (by omega)
 refine goW ?_
 rw [show wr .i64 ((s.length:Int)-9)=((s.length-9:Nat):Int) by rw [wr64 (by omega) (by omega)];omega]
 refine call_pf hm (by rfl) d4 (goW ?_)
 exact⟨_,rfl,ret hf⟩
end
end Go.Dn
