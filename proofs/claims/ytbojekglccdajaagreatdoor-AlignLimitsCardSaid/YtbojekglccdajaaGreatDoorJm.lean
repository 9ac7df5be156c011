/- Trees: the part to which a path leads, and the tree with it replaced: what they are; the program's Get and Set. A list of values that is made for one append. A slice of data that stays, from a place on, reads as one from its beginning. Trees: a tree with a part replaced: the program's set and Set. Trees: the part to which a path leads, and the tree with it replaced: the reference's answers. The law TreeGets, walked. Texts of characters: by the program and by the reference. Numbers: what a text begins with; its digits; a literal's pieces. Numbers: a literal's pieces, by the program. Numbers: the exponent; a literal's parts. Numbers: a number's normal form. Times: two digits; the days of a month. Times: dates. Times: times of a day. Times: the zone; a time. What a text ends with. Maps from texts to numbers, as lists of pairs. Texts of characters: First, Bad, Valid of the program; Char, One, Runes, Valid of the reference. Keys: valid, and no two the same. Trees that are right, however great. Trees that are right, however great: the program's answer. Trees: how deep and how great; whether they are right: the program's answers. Trees: how deep they are, and whether they are right: the program's answers. strings.Cut at one byte, walked. What the shelf's contracts ask of the program: its bodies are theirs. Printed by a program. A function of the library, by a contract of the shelf: pure data in, pure data out. The code is the program's,printed by a program (Gen). What the listed variables give; a world that meets the condition; the law without arguments, run by the kernel. Functions of the library by the contracts of the kit's shelf, as pure functions over the abstract store. The functions that laws about trees reach, as contracts, each by its code. Bytes as lists. Texts of characters: the reference's Runes and Valid. Trees: the reference's Shaped is the program's formed. Trees: the reference's Depth and Right; the law TreeRights, walked. Noughts cut off at both ends, in either order. Numbers: the reference's Digits and Decimal. Numbers: the reference's run; Split, from its end: the digits without noughts, the exponent. Numbers: the reference's Split: the exponent's number. Numbers: the reference's Split: the exponent's digits. Numbers: the reference's Split: its pieces. Numbers: the reference's Split is the program's. Numbers: the reference's Split is the program's: from its beginning. Numbers: the reference's Split, Join and Normal are the program's. Numbers: the reference's Join and Normal are the program's. Times: the reference's digits and dates. Times: the reference's dates are the program's. Times: the reference's times of a day are the program's. Times: the reference's Time, walked. Times: the reference's Time is the program's. The reference's functions that laws about trees reach, as contracts, each by its code. Sorting: what a stable sort by blocks and merges in place does, as plain lists. An array of numbers that is one's own, read and written in place. Sorting in place: ranges swapped, blocks turned round. -/
import Derived.Test.YtbojekglccdajaaGreatDoorProg
import Derived.Shelf.Strings.SlTrimAscii
import Derived.Shelf.Strconv.Atoi
import Derived.Shelf.Strconv.Itoa3
import Derived.Below
import Derived.Test.YtbojekglccdajaaGreatDoorTie
import Derived.Test.YtbojekglccdajaaGreatDoorCards
import Derived.ProofKit
import Derived.LaidMore
import Derived.Lib.LaidTab
import Derived.Stop.LaidErr
import Derived.OpenShut
import Derived.Carry
import Derived.Stop.Joined
import Derived.Lay
import Derived.SevenTiedAt
import Derived.Lib.SmallJoins
import Derived.Lib.AppendIntMem
import Derived.Test.YtbojekglccdajaaGreatDoorJl
set_option linter.unusedSimpArgs false
set_option linter.unusedVariables false
namespace Go.Dn
open Go Go.Proofs.C1
set_option maxRecDepth 100000
attribute [local irreducible] afterS keepE
def PT.zero:PT:=.mk 0 [] [] []
theorem rdo_nil0 {S:St} {es:Nat} {nl:Bool}:Rdo S (.sl es stat []) (.sl es ⟨none,0,some 0,nl⟩ []):=by
 simp only [Rdo]
 exact⟨trivial,_,_,true,[],rfl,rfl,by simp only [Rdos]⟩
section
variable {gt:GT} {C:CallT}
end
end Go.Dn

namespace Go.Dn
open Go Go.RowKit
end Go.Dn

namespace Go.Dn
open Go Go.Proofs.C1
set_option maxRecDepth 100000
attribute [local irreducible] afterS keepE
section
variable {gt:GT} {C:CallT}
end

section
variable {gt:GT} {C:CallT}
end

section
variable {gt:GT} {C:CallT}
end

theorem sx_ixS {gt:GT} {d:Option Nat} {env:Env} {S:St} {x i:DOpd} {s:List UInt8} {k:Nat} {b:UInt8} (hx:opd env x=some (.str s)) (hi:(opd env i).bind nat? = some k) (hb:s[k]? = some b) :
  stepO gt d env S (.ixS x i)=.done (putV d (.int .u8 b.toNat) env) S:=by
 simp only [stepO,hx,hi,hb]
theorem sx_slLo {gt:GT} {d:Option Nat} {env:Env} {S:St} {x lo:DOpd} {s:List UInt8} {l:Nat} (hx:opd env x=some (.str s)) (hl:(opd env lo).bind nat? = some l) (h:l≤s.length) :
  stepO gt d env S (.slS x (some lo) none)=.done (putV d (.str (s.drop l)) env) S:=by
 have hb:bnds env s.length (some lo) none=some (l,s.length):=by
  simp only [bnds,hl,ble_true h,ble_true (Nat.le_refl _),Bool.and_self,cond_true]
 simp only [stepO,hx,hb]
 rw [List.take_of_length_le (by simp)]
theorem sx_slHiS {gt:GT} {d:Option Nat} {env:Env} {S:St} {x hi:DOpd} {s:List UInt8} {h:Nat} (hx:opd env x=some (.str s)) (hh:(opd env hi).bind nat? = some h) (hl:h≤s.length) :
  stepO gt d env S (.slS x none (some hi))=.done (putV d (.str (s.take h)) env) S:=by
 have hb:bnds env s.length none (some hi)=some (0,h):=by
  simp only [bnds,hh,ble_true (Nat.zero_le h),ble_true hl,Bool.and_self,cond_true]
 simp only [stepO,hx,hb,List.drop_zero,Nat.sub_zero]
theorem sx_slLH {gt:GT} {d:Option Nat} {env:Env} {S:St} {x lo hi:DOpd} {s:List UInt8} {l h:Nat} (hx:opd env x=some (.str s)) (hl:(opd env lo).bind nat? = some l) (hh:(opd env hi).bind nat? = some h) (h1:l≤h) (h2:h≤s.length) :
  stepO gt d env S (.slS x (some lo) (some hi))=.done (putV d (.str ((s.drop l).take (h-l))) env) S:=by
 have hb:bnds env s.length (some lo) (some hi)=some (l,h):=by
  simp only [bnds,hl,hh,ble_true h1,ble_true h2,Bool.and_self,cond_true]
 simp only [stepO,hx,hb]
def eqRes (u:AV):Res→St→Bool
 |.ret v,_=>beqA u v
 | _,_=>false
theorem byRun {gt:GT} {C:CallT} (hm:MonoC C) {F:DF} {xs:List AV} {u:AV} (hs:Sta u) (h:exF gt (fun _ _ _ _=>false) 1000 F xs St.init (eqRes u)=true):wpF gt C F xs St.init (Ret u):=by
 refine exF_sound (C':=C) (fun f xs S k h=>by cases h) hm (fun r S h=>?_) h
 cases r with
 | ret v =>
  have:=beqA_eq h
  subst this
  exact Ret.sta hs
 | pan v=>cases h
def leadB (b:Nat):Nat×Nat×Nat :=
 if b<128 then (1,b,0) else if b<192 then (0,0,0) else if b<224 then (2,b-192,128) else if b<240 then (3,b-224,2048) else if b<248 then (4,b-240,65536) else (0,0,0)
def encLead (p:Nat×Nat×Nat):AV:=.tup [.int .i64 p.1,.int .i64 p.2.1,.int .i64 p.2.2]
def contV:Nat→List UInt8→Nat→Option Nat
 | 0,_,acc=>some acc
 | _+1,[],_=>none
 | k+1,x::r,acc=>if 128≤x.toNat∧x.toNat<192 then contV k r (acc*64+(x.toNat-128)) else none
def charB (c:Int):Bool:=decide (0≤c∧c≤1114111∧(c<55296∨57343<c))
def firstC:List UInt8→Nat×Nat
 | []=>(0,0)
 | b::r =>
  if (leadB b.toNat).1=0∨r.length+1<(leadB b.toNat).1 then (0,0) else match contV ((leadB b.toNat).1-1) r (leadB b.toNat).2.1 with
   | none=>(0,0)
   | some c=>if c<(leadB b.toNat).2.2∨charB c=false then (0,0) else (c,(leadB b.toNat).1)
def encFirst (p:Nat×Nat):AV:=.tup [.int .i64 p.1,.int .i64 p.2]
theorem leadB_le (b:Nat) (h:b<256):(leadB b).1≤4∧(leadB b).2.1<128:=by
 unfold leadB
 split
 ·exact⟨by show 1≤4;decide,by assumption⟩
 ·split
  ·exact⟨by decide,by decide⟩
  ·split
   ·exact⟨by show 2≤4;decide,by show b-192<128;omega⟩
   ·split
    ·exact⟨by show 3≤4;decide,by show b-224<128;omega⟩
    ·split
     ·exact⟨by show 4≤4;decide,by show b-240<128;omega⟩
     ·exact⟨by decide,by decide⟩
theorem contV_step {k:Nat} {l:List UInt8} {i acc:Nat} (hi:i<l.length):contV (k+1) (l.drop i) acc=if 128≤l[i].toNat∧l[i].toNat<192 then contV k (l.drop (i+1)) (acc*64+(l[i].toNat-128)) else none:=by
 rw [dC hi];rfl
theorem u8_lt (x:UInt8):x.toNat<256:=UInt8.toNat_lt x
theorem or_add {a b:Nat} (hb:b<64) (ha:a*64+b<18446744073709551616):(BitVec.ofInt 64 ((a*64:Nat):Int) ||| BitVec.ofInt 64 (b:Int)).toNat=a*64+b:=by
 rw [BitVec.ofInt_natCast,BitVec.ofInt_natCast,BitVec.toNat_or,BitVec.toNat_ofNat,BitVec.toNat_ofNat,Nat.mod_eq_of_lt (show a*64<2 ^ 64 by omega),Nat.mod_eq_of_lt (show b<2 ^ 64 by omega)]
 have:=Nat.shiftLeft_add_eq_or_of_lt (i:=6) (b:=b) (by omega) a
 rw [Nat.shiftLeft_eq] at this
 exact this.symm
theorem and63 (x:UInt8) (h1:128≤x.toNat) (h2:x.toNat<192):(BitVec.ofInt 8 (x.toNat:Int) &&& BitVec.ofInt 8 63).toNat=x.toNat-128:=by
 rw [show (63:Int)=((63:Nat):Int) from rfl,BitVec.ofInt_natCast,BitVec.ofInt_natCast,BitVec.toNat_and,BitVec.toNat_ofNat,BitVec.toNat_ofNat,Nat.mod_eq_of_lt (show x.toNat<2 ^ 8 by omega),show (63:Nat) % 2 ^ 8=2 ^ 6-1 by decide,Nat.and_two_pow_sub_one_eq_mod]
 omega
theorem shr6 (x:UInt8):(((x.toNat:Int).fdiv (2 ^ 6)) != 2) = !decide (128≤x.toNat∧x.toNat<192):=by
 have hx:=u8_lt x
 rw [show ((2:Int) ^ 6)=64 by decide,Int.fdiv_eq_ediv_of_nonneg _ (by decide)]
 by_cases h:128≤x.toNat∧x.toNat<192
 ·rw [dT h,show ((x.toNat:Int) / 64)=2 by omega];rfl
 ·rw [dF h]
  have:¬((x.toNat:Int) / 64)=2:=by omega
  simp [this]
section
variable {gt:GT} {C:CallT}
theorem row_gt (gt:GT):(List.range 256).all (fun b=>exF gt (fun _ _ _ _=>false) 1000 F99 [.int .u8 b] St.init (eqRes (encLead (leadB b))))=true:=by kernel_rfl
theorem row_wp (hm:MonoC C) (b:UInt8):wpF gt C F99 [.int .u8 b.toNat] St.init (Ret (encLead (leadB b.toNat))) :=
 byRun hm ⟨trivial,trivial,trivial,trivial⟩ (List.all_eq_true.1 (row_gt gt) b.toNat (List.mem_range.2 (u8_lt b)))
theorem charB_wp {c:Int}:wpF gt C F100 [.int .i64 c] St.init (Ret (.bool (charB c))):=by
 refine⟨rfl,?_⟩
 refine goW ?_
 by_cases h0:c ≥ 0
 ·rw [dT h0]
  refine goW ?_
  by_cases h1:c≤1114111
  ·rw [dT h1]
   refine goW ?_
   by_cases h2:c<55296
   ·rw [dT h2]
    refine goW ?_
    exact⟨_,rfl,by rw [show charB c=true by simp [charB];omega];exact Ret.sta trivial⟩
   ·rw [dF h2]
    refine goW ?_
    exact⟨_,rfl,by rw [show charB c=decide (c > 57343) by simp only [charB];congr 1;simp;omega];exact Ret.sta trivial⟩
  ·rw [dF h1]
   refine goW ?_
   exact⟨_,rfl,by rw [show charB c=false by simp [charB];omega];exact Ret.sta trivial⟩
 ·rw [dF h0]
  refine goW ?_
  exact⟨_,rfl,by rw [show charB c=false by simp [charB];omega];exact Ret.sta trivial⟩
end

def hd (c:UInt8):List UInt8→Bool
 | []=>false
 | b::_=>b == c
def dig (b:UInt8):Bool:=decide (48≤b.toNat) && decide (b.toNat≤57)
def runB:List UInt8→Nat
 | []=>0
 | b::r=>if dig b then runB r+1 else 0
theorem runB_le:∀s,runB s≤s.length
 | []=>Nat.le_refl _
 | b::r=>by have:=runB_le r;simp only [runB,lC];split<;>omega
theorem beqB_one (b c:UInt8):beqB [b] [c]=(b == c):=by
 rw [beqB_eq,Bool.eq_iff_iff];simp
section
variable {gt:GT} {C:CallT}
theorem hasPre0_wp {s:List UInt8} {c:UInt8}:wpF gt C F151 [.str s,.str [c]] St.init (Ret (.bool (hd c s))):=by
 refine⟨rfl,?_⟩
 cases s with
 | nil =>
  refine goW ?_
  exact⟨_,rfl,Ret.sta trivial⟩
 | cons b r =>
  refine goW ?_
  rw [dT (show (((b::r).length:Nat):Int) ≥ (([c]:List UInt8).length:Nat) by simp only [lC,List.length_nil];omega)]
  refine goW ?_
  refine⟨_,rfl,?_⟩
  rw [show (List.take (([c]:List UInt8).length-0) (List.drop 0 (b::r)))=[b] from rfl,beqB_one]
  exact Ret.sta trivial
theorem hasPre_wp (hm:MonoC C) (h:∀s c,PF C 151 [.str s,.str [c]] (.bool (hd c s))) {s:List UInt8} {c:UInt8}:wpF gt C F132 [.str s,.str [c]] St.init (Ret (.bool (hd c s))):=by
 refine⟨rfl,?_⟩
 refine goW ?_
 refine call_pf hm (by rfl) (h s c) (goW ?_)
 exact⟨_,rfl,Ret.sta trivial⟩
theorem trimPre0_wp (hm:MonoC C) (h:∀s c,PF C 151 [.str s,.str [c]] (.bool (hd c s))) {s:List UInt8} {c:UInt8}:wpF gt C F152 [.str s,.str [c]] St.init (Ret (.str (if hd c s then s.drop 1 else s))):=by
 refine⟨rfl,?_⟩
 refine goW ?_
 refine call_pf hm (by rfl) (h s c) (goW ?_)
 cases hh:hd c s with
 | false =>
  refine goW ?_
  exact⟨_,rfl,Ret.sta trivial⟩
 | true =>
  refine goW ?_
  have hl:1≤s.length:=by
   cases s with
   | nil=>cases hh
   | cons b r=>simp
  refine step_ruleO (sx_slLo (l:=1) rfl rfl hl) (goW ?_)
  exact⟨_,rfl,Ret.sta trivial⟩
theorem trimPre_wp (hm:MonoC C) (h:∀s c,PF C 152 [.str s,.str [c]] (.str (if hd c s then s.drop 1 else s))) {s:List UInt8} {c:UInt8}:wpF gt C F133 [.str s,.str [c]] St.init (Ret (.str (if hd c s then s.drop 1 else s))):=by
 refine⟨rfl,?_⟩
 refine goW ?_
 refine call_pf hm (by rfl) (h s c) (goW ?_)
 exact⟨_,rfl,Ret.sta trivial⟩
theorem digit_wp {b:UInt8}:wpF gt C F135 [.int .u8 b.toNat] St.init (Ret (.bool (dig b))):=by
 refine⟨rfl,?_⟩
 refine goW ?_
 by_cases h:(b.toNat:Int) ≥ 48
 ·rw [dT h]
  refine goW ?_
  refine⟨_,rfl,?_⟩
  rw [show dig b=decide ((b.toNat:Int)≤57) by unfold dig;rw [dT (by omega),Bool.true_and];congr 1;simp;omega]
  exact Ret.sta trivial
 ·rw [dF h]
  refine goW ?_
  refine⟨_,rfl,?_⟩
  rw [show dig b=false by unfold dig;rw [dF (by omega),Bool.false_and]]
  exact Ret.sta trivial
abbrev E_run (s:List UInt8) (i:Int):Env:=[(0,.val (.str s)),(3,.val (.int .i64 i))]
set_option maxHeartbeats 2000000 in
theorem run_wp (hm:MonoC C) (hd:∀b:UInt8,PF C 135 [.int .u8 b.toNat] (.bool (dig b))) {s:List UInt8} (hl:s.length<9223372036854775807):wpF gt C F113 [.str s] St.init (Ret (.int .i64 (runB s))):=by
 refine⟨rfl,?_⟩
 refine goW ?_
 refine loop_rule hm (α:=Nat) (fun i env S'=>i≤s.length∧env=E_run s i∧S'=St.init∧runB s=i+runB (s.drop i)) (fun i=>s.length-i) ?_ (a:=0) ⟨Nat.zero_le _,rfl,rfl,by simp⟩
 rintro i env S' ⟨hi,rfl,rfl,hp⟩
 refine goW ?_
 by_cases hc:(i:Int)<(s.length:Nat)
 ·rw [dT hc]
  refine goW ?_
  have hik:i<s.length:=by omega
  refine st_any (by exact rfl) (sx_ixS (k:=i) rfl rfl (gE hik)) (goW ?_)
  refine call_pf hm (by rfl) (hd s[i]) (goW ?_)
  rw [dC hik] at hp
  simp only [runB] at hp
  cases hdg:dig s[i] with
  | false =>
   refine goW ?_
   refine⟨_,rfl,?_⟩
   rw [hdg] at hp
   rw [hp]
   exact Ret.sta trivial
  | true =>
   refine goW ?_
   rw [hdg,if_pos rfl] at hp
   refine⟨i+1,⟨by omega,?_,rfl,by rw [hp];omega⟩,by omega⟩
   rw [wrNat (by omega)]
 ·rw [dF hc]
  refine goW ?_
  refine⟨_,rfl,?_⟩
  rw [hp,List.drop_eq_nil_of_le (by omega)]
  exact Ret.sta trivial
end

abbrev Cut4:=Bool×List UInt8×List UInt8×List UInt8
def expD (ex:List UInt8):List UInt8:=if hd 45 ex then ex.drop 1 else if hd 43 ex then ex.drop 1 else ex
def cutE (neg:Bool) (w p s:List UInt8):Option Cut4 :=
 if s=[] then some (neg,w,p,[])
 else if hd 101 s=false∧hd 69 s=false then none
 else if expD (s.drop 1)=[]∨runB (expD (s.drop 1))<(expD (s.drop 1)).length then none else some (neg,w,p,s.drop 1)
def cutP (neg:Bool) (s:List UInt8):Option Cut4 :=
 if runB s=0∨(1<runB s∧hd 48 s=true) then none
 else if hd 46 (s.drop (runB s)) then
  (if runB ((s.drop (runB s)).drop 1)=0 then none
   else cutE neg (s.take (runB s)) (((s.drop (runB s)).drop 1).take (runB ((s.drop (runB s)).drop 1))) ((s.drop (runB s)).drop (1+runB ((s.drop (runB s)).drop 1))))
 else cutE neg (s.take (runB s)) [] (s.drop (runB s))
def cutB (s:List UInt8):Option Cut4:=if hd 45 s then cutP true (s.drop 1) else cutP false s
def encCut:Option Cut4→AV
 | none=>.tup [.bool false,.str [],.str [],.str [],.bool false]
 | some (n,w,p,e)=>.tup [.bool n,.str w,.str p,.str e,.bool true]
theorem sta_cut (o:Option Cut4):Sta (encCut o):=by
 cases o with
 | none=>exact⟨trivial,trivial,trivial,trivial,trivial,trivial⟩
 | some p=>exact⟨trivial,trivial,trivial,trivial,trivial,trivial⟩
theorem hd_head {c:UInt8} {s:List UInt8} {b:UInt8} (h:s[0]? = some b):hd c s=(b == c):=by
 cases s with
 | nil=>cases h
 | cons x r=>simp only [List.getElem?_cons_zero,oI] at h;rw [←h];rfl
theorem u8_eqI (b c:UInt8):((b.toNat:Int) == (c.toNat:Int))=(b == c):=by
 rw [Bool.eq_iff_iff]
 simp only [beq_iff_eq]
 constructor
 ·intro h;exact UInt8.toNat_inj.1 (by omega)
 ·intro h;rw [h]
theorem u8_neI (b c:UInt8):((b.toNat:Int) != (c.toNat:Int)) = !(b == c):=by
 rw [←u8_eqI];rfl
theorem get0 {s:List UInt8} (h:s≠[]):∃b,s[0]? = some b:=by
 cases s with
 | nil=>exact absurd rfl h
 | cons b r=>exact⟨b,rfl⟩
theorem hd_len {c:UInt8} {s:List UInt8} (h:hd c s=true):1≤s.length:=by
 cases s with
 | nil=>cases h
 | cons b r=>simp
theorem drop1_ne {s:List UInt8} (h:s≠[]):¬s.drop 1=s:=fun e=>by
 have:=congrArg List.length e
 cases s with
 | nil=>exact h rfl
 | cons b r=>simp at this
def DC.rt:DC→DC |.seq _ b=>b | c=>c
section
variable {gt:GT} {C:CallT}
abbrev E_cut (neg:Bool) (w p s:List UInt8) (x:Env):Env:=(2,.val (.bool neg))::(3,.val (.str w))::(4,.val (.str p))::(7,.val (.str s))::x
set_option maxHeartbeats 4000000 in
theorem cutExp_wp (hm:MonoC C) (htp:∀s c,PF C 133 [.str s,.str [c]] (.str (if hd c s then s.drop 1 else s)))
  (hrun:∀s:List UInt8,s.length<9223372036854775807→PF C 113 [.str s] (.int .i64 (runB s))) {res:Option Cut4} {neg:Bool} {w p s:List UInt8} {x:Env} (hl:s.length<9223372036854775807) (h1:1≤s.length)
  (hf:res=if expD (s.drop 1)=[]∨runB (expD (s.drop 1))<(expD (s.drop 1)).length then none else some (neg,w,p,s.drop 1)) :
  wpD gt C F109.body.rt.rt.rt.rt.rt.rt.rt.rt.rt (E_cut neg w p s x) St.init (bodyQ gt F109.res (Ret (encCut res))):=by
 have ret:∀{o:Option Cut4} {S:St},res=o→Ret (encCut res) (.ret (encCut o)) S:=fun h=>by rw [h];exact Ret.sta (sta_cut _)
 conv=>whnf
 refine goW ?_
 refine step_ruleO (sx_slLo (l:=1) rfl rfl h1) (goW ?_)
 have hexl:(s.drop 1).length≤s.length:=by rw [lD];omega
 generalize s.drop 1=ex at hf hexl ⊢
 refine call_pf hm (by rfl) (htp ex 45) (goW ?_)
 cases hm1:hd 45 ex with
 | true =>
  rw [if_pos rfl,beqB_false (drop1_ne (by intro e;rw [e] at hm1;cases hm1))]
  have hx:expD ex=ex.drop 1:=by unfold expD;rw [hm1];rfl
  have hdl:(ex.drop 1).length≤ex.length:=by rw [lD];omega
  rw [hx] at hf
  generalize ex.drop 1=d at hf hdl ⊢
  refine goW ?_
  by_cases z4:d=[]
  ·rw [beqB_true z4]
   refine goW ?_
   exact⟨_,rfl,ret (o:=none) (by rw [hf,if_pos (.inl z4)])⟩
  rw [beqB_false z4]
  refine goW ?_
  refine call_pf hm (by rfl) (hrun d (by omega)) (goW ?_)
  by_cases z5:(runB d:Int)<(d.length:Nat)
  ·rw [dT z5]
   refine goW ?_
   exact⟨_,rfl,ret (o:=none) (by rw [hf,if_pos (.inr (by omega))])⟩
  rw [dF z5]
  refine goW ?_
  exact⟨_,rfl,ret (o:=some (neg,w,p,ex)) (by rw [hf,if_neg (by rintro (e | e);exact z4 e;omega)])⟩
 | false =>
  rw [if_neg (by simp),beqB_true rfl]
  refine goW ?_
  refine call_pf hm (by rfl) (htp ex 43) (goW ?_)
  have hx:expD ex=if hd 43 ex then ex.drop 1 else ex:=by unfold expD;rw [hm1];rfl
  have hdl:(if hd 43 ex then ex.drop 1 else ex).length≤ex.length:=by split<;>first | (rw [lD];omega) | omega
  rw [hx] at hf
  generalize (if hd 43 ex then ex.drop 1 else ex)=d at hf hdl ⊢
  refine goW ?_
  by_cases z4:d=[]
  ·rw [beqB_true z4]
   refine goW ?_
   exact⟨_,rfl,ret (o:=none) (by rw [hf,if_pos (.inl z4)])⟩
  rw [beqB_false z4]
  refine goW ?_
  refine call_pf hm (by rfl) (hrun d (by omega)) (goW ?_)
  by_cases z5:(runB d:Int)<(d.length:Nat)
  ·rw [dT z5]
   refine goW ?_
   exact⟨_,rfl,ret (o:=none) (by rw [hf,if_pos (.inr (by omega))])⟩
  rw [dF z5]
  refine goW ?_
  exact⟨_,rfl,ret (o:=some (neg,w,p,ex)) (by rw [hf,if_neg (by rintro (e | e);exact z4 e;omega)])⟩
set_option maxHeartbeats 4000000 in
theorem cutTail_wp (hm:MonoC C) (htp:∀s c,PF C 133 [.str s,.str [c]] (.str (if hd c s then s.drop 1 else s)))
  (hrun:∀s:List UInt8,s.length<9223372036854775807→PF C 113 [.str s] (.int .i64 (runB s))) {res:Option Cut4} {neg:Bool} {w p s:List UInt8} {x:Env} (hl:s.length<9223372036854775807)
  (hf:res=cutE neg w p s) :
  wpD gt C F109.body.rt.rt.rt.rt.rt.rt.rt (E_cut neg w p s x) St.init (bodyQ gt F109.res (Ret (encCut res))):=by
 have ret:∀{o:Option Cut4} {S:St},res=o→Ret (encCut res) (.ret (encCut o)) S:=fun h=>by rw [h];exact Ret.sta (sta_cut _)
 conv=>whnf
 refine goW ?_
 unfold cutE at hf
 by_cases z1:s=[]
 ·rw [beqB_true z1]
  refine goW ?_
  exact⟨_,rfl,ret (o:=some (neg,w,p,[])) (by rw [hf,if_pos z1])⟩
 obtain⟨b0,hb0⟩:=get0 z1
 rw [beqB_false z1]
 rw [if_neg z1] at hf
 refine goW ?_
 refine step_ruleO (sx_ixS (k:=0) rfl rfl hb0) (goW ?_)
 rw [show ((101:Int))=((101:UInt8).toNat:Int) from rfl,u8_neI,←hd_head (c:=101) hb0]
 cases hxe:hd 101 s with
 | true =>
  refine goW ?_
  with_unfolding_all exact cutExp_wp hm htp hrun hl (hd_len hxe) (hf.trans (if_neg (by rw [hxe];simp)))
 | false =>
  refine goW ?_
  refine st_any (by exact rfl) (sx_ixS (k:=0) rfl rfl hb0) (goW ?_)
  rw [show ((69:Int))=((69:UInt8).toNat:Int) from rfl,u8_neI,←hd_head (c:=69) hb0]
  cases hxe2:hd 69 s with
  | false =>
   refine goW ?_
   exact⟨_,rfl,ret (o:=none) (by rw [hf,if_pos ⟨hxe,hxe2⟩])⟩
  | true =>
   refine goW ?_
   with_unfolding_all exact cutExp_wp hm htp hrun hl (hd_len hxe2) (hf.trans (if_neg (by rw [hxe2];simp)))
abbrev E_cut0 (neg:Bool) (s:List UInt8) (x:Env):Env:=(2,.val (.bool neg))::(4,.val (.str []))::(7,.val (.str s))::x
set_option maxHeartbeats 4000000 in
theorem cutPoint_wp (hm:MonoC C) (hpre:∀s c,PF C 132 [.str s,.str [c]] (.bool (hd c s))) (htp:∀s c,PF C 133 [.str s,.str [c]] (.str (if hd c s then s.drop 1 else s)))
  (hrun:∀s:List UInt8,s.length<9223372036854775807→PF C 113 [.str s] (.int .i64 (runB s))) {res:Option Cut4} {neg:Bool} {s:List UInt8} {x:Env} (hl:s.length<9223372036854775807) (y1:runB s≠0)
  (hf:res=if hd 46 (s.drop (runB s)) then
  (if runB ((s.drop (runB s)).drop 1)=0 then none
   else cutE neg (s.take (runB s)) (((s.drop (runB s)).drop 1).take (runB ((s.drop (runB s)).drop 1))) ((s.drop (runB s)).drop (1+runB ((s.drop (runB s)).drop 1))))
 else cutE neg (s.take (runB s)) [] (s.drop (runB s))) :
  wpD gt C F109.body.rt.rt.rt.rt.rt ((2,.val (.bool neg))::(4,.val (.str []))::(7,.val (.str s))::(8,.val (.int .i64 (runB s)))::x) St.init (bodyQ gt F109.res (Ret (encCut res))):=by
 have ret:∀{o:Option Cut4} {S:St},res=o→Ret (encCut res) (.ret (encCut o)) S:=fun h=>by rw [h];exact Ret.sta (sta_cut _)
 have hrl:=runB_le s
 generalize runB s=n at hf hrl y1 ⊢
 conv=>whnf
 refine goW ?_
 refine step_ruleDO rfl rfl (sx_slHiS (h:=n) rfl rfl hrl) (goW ?_)
 refine step_ruleDO rfl rfl (sx_slLo (l:=n) rfl rfl hrl) (goW ?_)
 have hsl:(s.drop n).length≤s.length:=by rw [lD];omega
 generalize s.drop n=s2 at hf hsl ⊢
 generalize s.take n=w at hf ⊢
 refine call_pf hm (by rfl) (hpre s2 46) (goW ?_)
 cases hp:hd 46 s2 with
 | false =>
  rw [hp,if_neg (by simp)] at hf
  refine goW ?_
  with_unfolding_all exact cutTail_wp (x:=[(36,.val (.bool false))]) hm htp hrun (by omega) hf
 | true =>
  rw [hp,if_pos rfl] at hf
  have h1:=hd_len hp
  refine goW ?_
  refine step_ruleO (sx_slLo (l:=1) rfl rfl h1) (goW ?_)
  have hrl3:=runB_le (s2.drop 1)
  rw [lD] at hrl3
  refine call_pf hm (by rfl) (hrun (s2.drop 1) (by rw [lD];omega)) (goW ?_)
  generalize hm3:runB (s2.drop 1)=m at hf hrl3 ⊢
  by_cases y4:m=0
  ·rw [eqI_true (by omega)]
   refine goW ?_
   exact⟨_,rfl,ret (o:=none) (by rw [hf,if_pos y4])⟩
  rw [eqI_false (by omega)]
  rw [if_neg y4] at hf
  refine goW ?_
  rw [show wr .i64 (1+(m:Int))=((1+m:Nat):Int) by rw [wr64 (by omega) (by omega)];omega]
  refine step_ruleDO rfl rfl (sx_slLH (l:=1) (h:=1+m) rfl rfl rfl (by omega) (by omega)) (goW ?_)
  rw [show wr .i64 (1+(m:Int))=((1+m:Nat):Int) by rw [wr64 (by omega) (by omega)];omega]
  refine step_ruleDO rfl rfl (sx_slLo (l:=1+m) rfl rfl (by omega)) (goW ?_)
  rw [show 1+m-1=m by omega]
  with_unfolding_all exact cutTail_wp (x:=[]) hm htp hrun (by rw [lD];omega) hf
set_option maxHeartbeats 4000000 in
theorem cutSign_wp (hm:MonoC C) (hpre:∀s c,PF C 132 [.str s,.str [c]] (.bool (hd c s))) (htp:∀s c,PF C 133 [.str s,.str [c]] (.str (if hd c s then s.drop 1 else s)))
  (hrun:∀s:List UInt8,s.length<9223372036854775807→PF C 113 [.str s] (.int .i64 (runB s))) {res:Option Cut4} {neg:Bool} {s:List UInt8} {x:Env} (hl:s.length<9223372036854775807)
  (hf:res=cutP neg s) :
  wpD gt C F109.body.rt.rt.rt (E_cut0 neg s x) St.init (bodyQ gt F109.res (Ret (encCut res))):=by
 have ret:∀{o:Option Cut4} {S:St},res=o→Ret (encCut res) (.ret (encCut o)) S:=fun h=>by rw [h];exact Ret.sta (sta_cut _)
 unfold cutP at hf
 have hrun0:=hrun s hl
 conv=>whnf
 refine goW ?_
 refine call_pf hm (by rfl) hrun0 (goW ?_)
 by_cases y1:runB s=0
 ·rw [eqI_true (by omega)]
  refine goW ?_
  exact⟨_,rfl,ret (o:=none) (by rw [hf,if_pos (.inl y1)])⟩
 rw [eqI_false (by omega)]
 refine goW ?_
 have hnil:s≠[]:=by intro e;rw [e] at y1;exact y1 rfl
 obtain⟨b1,hb1⟩:=get0 hnil
 by_cases y2:(runB s:Int) > 1
 ·rw [dT y2]
  refine goW ?_
  refine st_any (by exact rfl) (sx_ixS (k:=0) rfl rfl hb1) (goW ?_)
  rw [show ((48:Int))=((48:UInt8).toNat:Int) from rfl,u8_eqI,←hd_head (c:=48) hb1]
  cases y3:hd 48 s with
  | true =>
   refine goW ?_
   exact⟨_,rfl,ret (o:=none) (by rw [hf,if_pos (.inr ⟨by omega,y3⟩)])⟩
  | false =>
   rw [if_neg (by rintro (e | ⟨_,e⟩);exact y1 e;rw [y3] at e;cases e)] at hf
   refine goK ?_
   with_unfolding_all exact cutPoint_wp hm hpre htp hrun hl y1 hf
 ·rw [dF y2]
  rw [if_neg (by rintro (e | ⟨e,_⟩);exact y1 e;omega)] at hf
  refine goK ?_
  with_unfolding_all exact cutPoint_wp hm hpre htp hrun hl y1 hf
set_option maxHeartbeats 4000000 in
theorem cut_wp (hm:MonoC C) (hpre:∀s c,PF C 132 [.str s,.str [c]] (.bool (hd c s))) (htp:∀s c,PF C 133 [.str s,.str [c]] (.str (if hd c s then s.drop 1 else s)))
  (hrun:∀s:List UInt8,s.length<9223372036854775807→PF C 113 [.str s] (.int .i64 (runB s))) {s:List UInt8} (hl:s.length<9223372036854775807):wpF gt C F109 [.str s] St.init (Ret (encCut (cutB s))):=by
 have hf:cutB s=if hd 45 s then cutP true (s.drop 1) else cutP false s:=rfl
 generalize cutB s=res at hf ⊢
 refine⟨rfl,?_⟩
 refine goW ?_
 refine call_pf hm (by rfl) (hpre s 45) (goW ?_)
 cases hh:hd 45 s with
 | true =>
  rw [hh,if_pos rfl] at hf
  refine goW ?_
  refine step_ruleO (sx_slLo (l:=1) rfl rfl (hd_len hh)) (goW ?_)
  with_unfolding_all exact cutSign_wp hm hpre htp hrun (by rw [lD];omega) hf
 | false =>
  rw [hh,if_neg (by simp)] at hf
  refine goW ?_
  with_unfolding_all exact cutSign_wp hm hpre htp hrun hl hf
end

def trimL (cs s:List UInt8):List UInt8:=s.dropWhile (cs.contains ·)
def trimR (cs s:List UInt8):List UInt8:=(s.reverse.dropWhile (cs.contains ·)).reverse
def valB:Nat→List UInt8→Nat
 | a,[]=>a
 | a,b::r=>valB (a*10+(b.toNat-48)) r
theorem trimL_le (cs s:List UInt8):(trimL cs s).length≤s.length:=(List.dropWhile_sublist _).length_le
theorem trimR_le (cs s:List UInt8):(trimR cs s).length≤s.length:=by
 have:=(List.dropWhile_sublist (l:=s.reverse) (cs.contains ·)).length_le
 simp only [trimR,List.length_reverse] at this ⊢
 exact this
theorem pow1 (n:Nat):10 ^ (n+1)=10*10 ^ n:=by rw [Nat.pow_succ,Nat.mul_comm]
theorem valB_lt (l:List UInt8):∀(a:Nat),l.all dig=true→valB a l<(a+1)*10 ^ l.length:=by
 induction l with
 | nil=>intro a _;rw [List.length_nil,Nat.pow_zero,Nat.mul_one];exact Nat.lt_succ_self a
 | cons b r ih =>
  intro a h
  rw [List.all_cons,bA] at h
  have hb:b.toNat-48≤9:=by
   have:=h.1
   simp only [dig,bA,decide_eq_true_eq] at this
   omega
  have h2:=ih (a*10+(b.toNat-48)) h.2
  rw [lC,pow1,←Nat.mul_assoc]
  refine Nat.lt_of_lt_of_le h2 ?_
  exact Nat.mul_le_mul_right _ (by omega)
def expT (e:List UInt8):List UInt8:=trimL [48] (trimL [43,45] e)
def expB (e:List UInt8):Option Int :=
 if 6<(expT e).length then none else some (if hd 45 e then -(valB 0 (expT e):Int) else valB 0 (expT e))
def encExp:Option Int→AV
 | none=>.tup [.int .i64 0,.bool false]
 | some n=>.tup [.int .i64 n,.bool true]
theorem sta_exp (o:Option Int):Sta (encExp o):=by cases o<;>exact⟨trivial,trivial,trivial⟩
abbrev Parts3:=Bool×List UInt8×Int
def encP (p:Parts3):AV:=.agg [.bool p.1,.str p.2.1,.int .i64 p.2.2]
def zeroP:Parts3:=(false,[],0)
def splitB (s:List UInt8):Parts3×Int :=
 match cutB s with
 | none=>(zeroP,12)
 | some (neg,w,p,e) =>
  if 1000<s.length then (zeroP,2)
  else match expB e with
  | none=>(zeroP,5)
  | some x =>
   if trimR [48] (trimL [48] (w++p))=[] then (zeroP,0)
   else ((neg,trimR [48] (trimL [48] (w++p)),x-p.length+((trimL [48] (w++p)).length-(trimR [48] (trimL [48] (w++p))).length)),0)
def encSplit (p:Parts3×Int):AV:=.tup [encP p.1,.int .i64 p.2]
theorem sta_split (p:Parts3×Int):Sta (encSplit p):=⟨⟨trivial,trivial,trivial,trivial⟩,trivial,trivial⟩
theorem expB_lt {e:List UInt8} {x:Int} (hd':(expT e).all dig=true) (h:expB e=some x):-999999≤x∧x≤999999:=by
 unfold expB at h
 split at h
 ·cases h
 ·rename_i hl
  have:=valB_lt (expT e) 0 hd'
  have h6:10 ^ (expT e).length≤10 ^ 6:=Nat.pow_le_pow_right (by decide) (by omega)
  have h10:(10:Nat) ^ 6=1000000:=by decide
  simp only [oI] at h
  split at h<;>omega
theorem runB_all:∀{s:List UInt8},¬runB s<s.length→s.all dig=true
 | [],_=>rfl
 | b::r,h=>by
  simp only [runB] at h
  have:=runB_le r
  split at h
  ·rename_i hb
   simp only [lC] at h
   simp only [List.all_cons,hb,Bool.true_and]
   exact runB_all (by omega)
  ·simp only [lC] at h;omega
theorem all_dropWhile {p q:UInt8→Bool}:∀{s:List UInt8},s.all q=true→(s.dropWhile p).all q=true
 | [],_=>rfl
 | b::r,h=>by
  simp only [List.all_cons,bA] at h
  simp only [List.dropWhile_cons]
  split
  ·exact all_dropWhile h.2
  ·simp only [List.all_cons,h.1,h.2,Bool.and_self]
theorem expT_dig {e:List UInt8} (h:(expD e).all dig=true):(expT e).all dig=true:=by
 unfold expT trimL
 apply all_dropWhile
 unfold expD at h
 cases e with
 | nil=>rfl
 | cons b r =>
  by_cases h1:hd 45 (b::r)=true
  ·rw [if_pos h1] at h
   have:b=45:=by simpa [hd] using h1
   subst this
   exact all_dropWhile (p:=fun x=>([43,45]:List UInt8).contains x) (s:=r) h
  ·rw [if_neg h1] at h
   by_cases h2:hd 43 (b::r)=true
   ·rw [if_pos h2] at h
    have:b=43:=by simpa [hd] using h2
    subst this
    exact all_dropWhile (p:=fun x=>([43,45]:List UInt8).contains x) (s:=r) h
   ·rw [if_neg h2] at h
    exact all_dropWhile h
theorem cutE_ok {neg n:Bool} {w p s w' p' e:List UInt8} (h:cutE neg w p s=some (n,w',p',e)):w'=w∧p'=p∧(expT e).all dig=true:=by
 unfold cutE at h
 split at h
 ·simp only [oI,Prod.mk.injEq] at h
  obtain⟨_,rfl,rfl,rfl⟩:=h
  exact⟨rfl,rfl,rfl⟩
 ·split at h
  ·cases h
  ·split at h
   ·cases h
   ·rename_i hh
    simp only [oI,Prod.mk.injEq] at h
    obtain⟨_,rfl,rfl,rfl⟩:=h
    exact⟨rfl,rfl,expT_dig (runB_all fun h=>hh (.inr h))⟩
theorem cutP_ok {neg n:Bool} {s w p e:List UInt8} (h:cutP neg s=some (n,w,p,e)):w.length+p.length≤s.length∧(expT e).all dig=true:=by
 unfold cutP at h
 have h0:=runB_le s
 split at h
 ·cases h
 ·split at h
  ·split at h
   ·cases h
   ·obtain⟨rfl,rfl,h3⟩:=cutE_ok h
    refine⟨?_,h3⟩
    have:=runB_le ((s.drop (runB s)).drop 1)
    simp only [lT,lD] at this ⊢
    omega
  ·obtain⟨rfl,rfl,h3⟩:=cutE_ok h
   exact⟨by simp only [lT,List.length_nil];omega,h3⟩
theorem cutB_ok {n:Bool} {s w p e:List UInt8} (h:cutB s=some (n,w,p,e)):w.length+p.length≤s.length∧(expT e).all dig=true:=by
 unfold cutB at h
 split at h
 ·have:=cutP_ok h
  rw [lD] at this
  exact⟨by omega,this.2⟩
 ·exact cutP_ok h
theorem st_addS {gt:GT} {d:Option Nat} {x y:DOpd} {env:Env} {S:St} {a b:List UInt8} (hx:opd env x=some (.str a)) (hy:opd env y=some (.str b)) (hl:a.length+b.length≤9223372036854775807) :
  stepO gt d env S (.bin .add none x y)=.done (putV d (.str (a++b)) env) S:=by
 simp only [stepO,hx,hy,binV,binS,ble_true hl,cond_true]
 try rfl
section
variable {gt:GT} {C:CallT}
set_option maxHeartbeats 4000000 in
theorem exponent_wp (hm:MonoC C) (hpre:∀s c,PF C 132 [.str s,.str [c]] (.bool (hd c s))) (hs:∀s,PF C 111 [.str s,.str [43,45]] (.str (trimL [43,45] s))) (h0:∀s,PF C 111 [.str s,.str [48]] (.str (trimL [48] s)))
  (hat:∀s:List UInt8,s.all dig=true→1≤s.length→s.length≤18→PF C 134 [.str s] (.tup [.int .i64 (valB 0 s),.nilif])) {e:List UInt8} (he:(expT e).all dig=true) :
  wpF gt C F110 [.str e] St.init (Ret (encExp (expB e))):=by
 have hat:=fun h=>hat (48::expT e) (by simp only [List.all_cons,he,Bool.and_true];decide) (by simp) h
 have hv:valB 0 (48::expT e)=valB 0 (expT e):=rfl
 rw [hv] at hat
 have hlt:=fun x=>expB_lt (x:=x) he
 refine⟨rfl,?_⟩
 refine goW ?_
 refine call_pf hm (by rfl) (hpre e 45) (goW ?_)
 refine call_pf hm (by rfl) (hs e) (goW ?_)
 refine call_pf hm (by rfl) (h0 _) (goW ?_)
 rw [show trimL [48] (trimL [43,45] e)=expT e from rfl]
 unfold expB
 unfold expB at hlt
 generalize expT e=t at hat hlt ⊢
 by_cases h6:(t.length:Int) > 6
 ·rw [dT h6]
  refine goW ?_
  refine⟨_,rfl,?_⟩
  rw [if_pos (by omega)]
  exact Ret.sta (sta_exp none)
 rw [dF h6]
 rw [if_neg (by omega)] at hlt ⊢
 refine goW ?_
 refine step_ruleO (st_addS rfl rfl (by simp only [lC,List.length_nil];omega)) (goW ?_)
 refine call_pf hm (by rfl) (hat (by simp only [lC];omega)) (goW ?_)
 cases hn:hd 45 e with
 | true =>
  have:=hlt _ rfl
  rw [hn,if_pos rfl] at this
  refine goW ?_
  rw [wr64 (by omega) (by omega)]
  refine⟨_,rfl,?_⟩
  rw [if_pos rfl,Int.zero_sub]
  exact Ret.sta (sta_exp (some _))
 | false =>
  refine goW ?_
  refine⟨_,rfl,?_⟩
  rw [if_neg (by simp)]
  exact Ret.sta (sta_exp (some _))
set_option maxHeartbeats 4000000 in
theorem split_wp (hm:MonoC C) (hcut:∀s:List UInt8,s.length<9223372036854775807→PF C 109 [.str s] (encCut (cutB s))) (hexp:∀e:List UInt8,(expT e).all dig=true→PF C 110 [.str e] (encExp (expB e)))
  (h0:∀s,PF C 111 [.str s,.str [48]] (.str (trimL [48] s))) (h1:∀s:List UInt8,s.length<9223372036854775807→PF C 112 [.str s,.str [48]] (.str (trimR [48] s)))
  {s:List UInt8} (hl:s.length<9223372036854775807):wpF gt C F87 [.str s] St.init (Ret (encSplit (splitB s))):=by
 have hcut:=hcut s hl
 have hok:=fun n w p e=>cutB_ok (n:=n) (s:=s) (w:=w) (p:=p) (e:=e)
 have ret:∀{o:Parts3×Int} {S:St},splitB s=o→Ret (encSplit (splitB s)) (.ret (encSplit o)) S:=fun h=>by rw [h];exact Ret.sta (sta_split _)
 have hf:splitB s=match cutB s with
  | none=>(zeroP,12)
  | some (neg,w,p,e) =>
   if 1000<s.length then (zeroP,2)
   else match expB e with
   | none=>(zeroP,5)
   | some x =>
    if trimR [48] (trimL [48] (w++p))=[] then (zeroP,0)
    else ((neg,trimR [48] (trimL [48] (w++p)),x-p.length+((trimL [48] (w++p)).length-(trimR [48] (trimL [48] (w++p))).length)),0):=rfl
 generalize splitB s=res at ret hf ⊢
 generalize cutB s=cu at hcut hok hf
 refine⟨rfl,?_⟩
 refine goW ?_
 refine call_pf hm (by rfl) hcut ?_
 cases cu with
 | none =>
  refine goW ?_
  exact⟨_,rfl,ret (o:=(zeroP,12)) hf⟩
 | some q =>
  obtain⟨neg,w,p,e⟩:=q
  obtain⟨hwp,he⟩:=hok neg w p e rfl
  simp only at hf
  have hexp:=hexp e he
  have hb:=fun x=>expB_lt (x:=x) he
  refine goW ?_
  by_cases z1:(s.length:Int) > 1000
  ·rw [dT z1]
   refine goW ?_
   exact⟨_,rfl,ret (o:=(zeroP,2)) (by rw [hf,if_pos (by omega)])⟩
  rw [dF z1]
  rw [if_neg (by omega)] at hf
  refine goW ?_
  generalize expB e=ex at hexp hb hf
  refine call_pf hm (by rfl) hexp ?_
  cases ex with
  | none =>
   refine goW ?_
   exact⟨_,rfl,ret (o:=(zeroP,5)) hf⟩
  | some x =>
   simp only at hf
   have hb:=hb x rfl
   refine goW ?_
   refine step_ruleO (st_addS rfl rfl (by omega)) (goW ?_)
   have t1:=trimL_le [48] (w++p)
   rw [lA] at t1
   have t2:=trimR_le [48] (trimL [48] (w++p))
   refine call_pf hm (by rfl) (h0 (w++p)) (goW ?_)
   generalize trimL [48] (w++p)=ds at t1 t2 hf ⊢
   refine call_pf hm (by rfl) (h1 ds (by omega)) (goW ?_)
   generalize trimR [48] ds=sh at t2 hf ⊢
   by_cases z2:sh=[]
   ·rw [beqB_true z2]
    refine goW ?_
    exact⟨_,rfl,ret (o:=(zeroP,0)) (by rw [hf,if_pos z2])⟩
   rw [beqB_false z2]
   refine goW ?_
   rw [wr64 (n:=x-(p.length:Int)) (by omega) (by omega),wr64 (n:=(ds.length:Int)-(sh.length:Int)) (by omega) (by omega),wr64 (by omega) (by omega)]
   exact⟨_,rfl,ret (o:=((neg,sh,_),0)) (by rw [hf,if_neg z2])⟩
end

def decB (n:Nat):List UInt8:=if h:n<10 then [UInt8.ofNat (48+n)] else decB (n / 10)++[UInt8.ofNat (48+n % 10)]
termination_by n
def itoaB (e:Int):List UInt8:=if e<0 then 45::decB e.natAbs else decB e.toNat
theorem decB_len (n:Nat):(decB n).length≤n+1:=by
 induction n using Nat.strongRecOn with
 | _ n ih =>
  unfold decB
  split
  ·simp
  ·have:=ih (n / 10) (by omega)
   simp only [lA,lC,List.length_nil]
   omega
theorem itoaB_len {e:Int} (h:-999999≤e) (h2:e≤999999):(itoaB e).length≤1000001:=by
 unfold itoaB
 split
 ·have:=decB_len e.natAbs
  simp only [lC];omega
 ·have:=decB_len e.toNat
  omega
def tl (c:UInt8) (s:List UInt8):Bool:=hd c s.reverse
theorem tl_last {c:UInt8} {s:List UInt8} {b:UInt8} (h:s[s.length-1]? = some b) (h0:0<s.length):tl c s=(b == c):=by
 unfold tl
 refine hd_head ?_
 rw [List.getElem?_reverse h0]
 exact h
def joinB (p:Parts3):List UInt8×Int :=
 if runB p.2.1<p.2.1.length∨(hd 48 p.2.1=true∨tl 48 p.2.1=true)∨(p.2.1=[]∧(p.2.2≠0∨p.1=true)) then ([],1)
 else if p.2.2 < -999999∨999999<p.2.2 then ([],5)
 else if p.2.1=[] then ([48],0)
 else if 1000<((if p.1=true then [45]++p.2.1 else p.2.1)++(if p.2.2=0 then [] else [101]++itoaB p.2.2)).length then ([],2)
 else ((if p.1=true then [45]++p.2.1 else p.2.1)++(if p.2.2=0 then [] else [101]++itoaB p.2.2),0)
def encJoin (p:List UInt8×Int):AV:=.tup [.str p.1,.int .i64 p.2]
theorem sta_join (p:List UInt8×Int):Sta (encJoin p):=⟨trivial,trivial,trivial⟩
def normB (s:List UInt8):List UInt8×Int:=if (splitB s).2=0 then joinB (splitB s).1 else ([],(splitB s).2)
theorem splitB_len {s:List UInt8} (h:(splitB s).2=0):(splitB s).1.2.1.length≤1000:=by
 unfold splitB at h ⊢
 cases hc:cutB s with
 | none=>rw [hc] at h;cases h
 | some q =>
  obtain⟨neg,w,p,e⟩:=q
  rw [hc] at h
  simp only at h ⊢
  obtain⟨h1,_⟩:=cutB_ok hc
  split
  ·exact Nat.zero_le _
  ·cases expB e with
   | none=>exact Nat.zero_le _
   | some x =>
    simp only
    split
    ·exact Nat.zero_le _
    ·have t1:=trimL_le [48] (w++p)
     have t2:=trimR_le [48] (trimL [48] (w++p))
     rw [lA] at t1
     show (trimR [48] (trimL [48] (w++p))).length≤1000
     omega
section
variable {gt:GT} {C:CallT}
set_option maxHeartbeats 8000000 in
theorem join_wp (hm:MonoC C) (hrun:∀s:List UInt8,s.length<9223372036854775807→PF C 113 [.str s] (.int .i64 (runB s)))
  (hit:∀e:Int,-999999≤e→e≤999999→PF C 114 [.int .i64 e] (.str (itoaB e))) {p:Parts3} (hl:p.2.1.length≤1000):wpF gt C F88 [encP p] St.init (Ret (encJoin (joinB p))):=by
 obtain⟨neg,d,e⟩:=p
 simp only at hl
 have ret:∀{o:List UInt8×Int} {S:St},joinB (neg,d,e)=o→Ret (encJoin (joinB (neg,d,e))) (.ret (encJoin o)) S:=fun h=>by rw [h];exact Ret.sta (sta_join _)
 have hf:joinB (neg,d,e)=if runB d<d.length∨(hd 48 d=true∨tl 48 d=true)∨(d=[]∧(e≠0∨neg=true)) then ([],1)
  else if e < -999999∨999999<e then ([],5)
  else if d=[] then ([48],0)
  else if 1000<((if neg=true then [45]++d else d)++(if e=0 then [] else [101]++itoaB e)).length then ([],2)
  else ((if neg=true then [45]++d else d)++(if e=0 then [] else [101]++itoaB e),0):=rfl
 generalize joinB (neg,d,e)=res at ret hf ⊢
 refine⟨rfl,?_⟩
 refine goW ?_
 refine call_pf hm (by rfl) (hrun d (by omega)) (goW ?_)
 by_cases z1:(runB d:Int)<(d.length:Nat)
 ·rw [dT z1]
  refine goW ?_
  exact⟨_,rfl,ret (o:=([],1)) (by rw [hf,if_pos (.inl (by omega))])⟩
 rw [dF z1]
 have z1':¬runB d<d.length:=by omega
 clear z1
 refine goW ?_
 cases d with
 | nil =>
  have hn:¬((([]:List UInt8).length:Nat):Int) > 0:=by simp
  rw [dF hn]
  refine goW ?_
  by_cases y1:e=0
  ·rw [neI_false y1]
   refine goW ?_
   cases neg with
   | true =>
    refine goW ?_
    exact⟨_,rfl,ret (o:=([],1)) (by rw [hf,if_pos (.inr (.inr ⟨rfl,.inr rfl⟩))])⟩
   | false =>
    refine goW ?_
    rw [if_neg (by rintro (h | (h | h) | ⟨_,h | h⟩);exact z1' h;cases h;cases h;exact h y1;cases h)] at hf
    subst y1
    refine goW ?_
    exact⟨_,rfl,ret (o:=([48],0)) (by rw [hf,if_neg (by omega),if_pos rfl])⟩
  ·rw [neI_true y1]
   refine goW ?_
   exact⟨_,rfl,ret (o:=([],1)) (by rw [hf,if_pos (.inr (.inr ⟨rfl,.inl y1⟩))])⟩
 | cons b r =>
  have hlen:(b::r).length=r.length+1:=rfl
  generalize hd0:b::r=d at ret hf hl z1' hlen ⊢
  have hb0:d[0]? = some b:=by rw [←hd0];rfl
  have hne:d≠[]:=by rw [←hd0];simp
  obtain⟨lb,hlb⟩:∃lb,d[d.length-1]? = some lb:=⟨_,gE (by omega)⟩
  rw [dT (show ((d.length:Nat):Int) > 0 by omega)]
  refine goW ?_
  refine st_any (by exact rfl) (sx_ixS (k:=0) rfl rfl hb0) (goW ?_)
  rw [show ((48:Int))=((48:UInt8).toNat:Int) from rfl,u8_eqI,←hd_head (c:=48) hb0]
  cases y1:hd 48 d with
  | true =>
   refine goW ?_
   exact⟨_,rfl,ret (o:=([],1)) (by rw [hf,if_pos (.inr (.inl (.inl y1)))])⟩
  | false =>
   refine goW ?_
   rw [show wr .i64 ((d.length:Int)-1)=((d.length-1:Nat):Int) by rw [wr64 (by omega) (by omega)];omega]
   refine st_any (by exact rfl) (sx_ixS (k:=d.length-1) rfl rfl hlb) (goW ?_)
   rw [u8_eqI,←tl_last (c:=48) hlb (by omega)]
   cases y2:tl 48 d with
   | true =>
    refine goW ?_
    exact⟨_,rfl,ret (o:=([],1)) (by rw [hf,if_pos (.inr (.inl (.inr y2)))])⟩
   | false =>
    rw [if_neg (by rintro (h | (h | h) | ⟨h,_⟩);exact z1' h;rw [y1] at h;cases h;rw [y2] at h;cases h;exact hne h)] at hf
    refine goW ?_
    rw [eqI_false (show ¬((d.length:Nat):Int)=0 by omega)]
    refine goW ?_
    by_cases x1:e < -999999
    ·rw [dT x1]
     refine goW ?_
     exact⟨_,rfl,ret (o:=([],5)) (by rw [hf,if_pos (.inl x1)])⟩
    rw [dF x1]
    refine goW ?_
    by_cases x2:e > 999999
    ·rw [dT x2]
     refine goW ?_
     exact⟨_,rfl,ret (o:=([],5)) (by rw [hf,if_pos (.inr x2)])⟩
    rw [dF x2]
    rw [if_neg (by omega),if_neg hne] at hf
    have hil:=itoaB_len (e:=e) (by omega) (by omega)
    refine goW ?_
    rw [eqI_false (show ¬((d.length:Nat):Int)=0 by omega)]
    refine goW ?_
    cases neg with
    | true =>
     rw [if_pos rfl] at hf
     refine goW ?_
     refine step_ruleO (st_addS rfl rfl (by simp only [lC,List.length_nil];omega)) (goW ?_)
     by_cases z5:e=0
     ·rw [neI_false z5]
      rw [if_pos z5] at hf
      refine goW ?_
      by_cases z6:(([45]++d).length:Int) > 1000
      ·rw [dT z6]
       refine goW ?_
       exact⟨_,rfl,ret (o:=([],2)) (by rw [hf,if_pos (by (try simp only [lA,lC,List.length_nil] at z6);(try simp only [lA,lC,List.length_nil]);omega)])⟩
      rw [dF z6]
      refine goW ?_
      exact⟨_,rfl,ret (o:=([45]++d,0)) (by rw [hf,if_neg (by (try simp only [lA,lC,List.length_nil] at z6);(try simp only [lA,lC,List.length_nil]);omega)];try simp only [List.append_nil,aA];try rfl)⟩
     rw [neI_true z5]
     rw [if_neg z5] at hf
     refine goW ?_
     refine call_pf hm (by rfl) (hit e (by omega) (by omega)) (goW ?_)
     refine step_ruleO (st_addS rfl rfl (by simp only [lC,List.length_nil];omega)) (goW ?_)
     refine step_ruleO (st_addS rfl rfl (by simp only [lA,lC,List.length_nil];omega)) (goW ?_)
     by_cases z6:(([45]++d++([101]++itoaB e)).length:Int) > 1000
     ·rw [dT z6]
      refine goW ?_
      exact⟨_,rfl,ret (o:=([],2)) (by rw [hf,if_pos (by (try simp only [lA,lC,List.length_nil] at z6);(try simp only [lA,lC,List.length_nil]);omega)])⟩
     rw [dF z6]
     refine goW ?_
     exact⟨_,rfl,ret (o:=([45]++d++([101]++itoaB e),0)) (by rw [hf,if_neg (by (try simp only [lA,lC,List.length_nil] at z6);(try simp only [lA,lC,List.length_nil]);omega)];try simp only [List.append_nil,aA];try rfl)⟩
    | false =>
     simp only [Bool.false_eq_true,if_false] at hf
     refine goW ?_
     by_cases z5:e=0
     ·rw [neI_false z5]
      rw [if_pos z5] at hf
      refine goW ?_
      by_cases z6:((d).length:Int) > 1000
      ·rw [dT z6]
       refine goW ?_
       exact⟨_,rfl,ret (o:=([],2)) (by rw [hf,if_pos (by (try simp only [lA,lC,List.length_nil] at z6);(try simp only [lA,lC,List.length_nil]);omega)])⟩
      rw [dF z6]
      refine goW ?_
      exact⟨_,rfl,ret (o:=(d,0)) (by rw [hf,if_neg (by (try simp only [lA,lC,List.length_nil] at z6);(try simp only [lA,lC,List.length_nil]);omega)];try simp only [List.append_nil,aA];try rfl)⟩
     rw [neI_true z5]
     rw [if_neg z5] at hf
     refine goW ?_
     refine call_pf hm (by rfl) (hit e (by omega) (by omega)) (goW ?_)
     refine step_ruleO (st_addS rfl rfl (by simp only [lC,List.length_nil];omega)) (goW ?_)
     refine step_ruleO (st_addS rfl rfl (by simp only [lA,lC,List.length_nil];omega)) (goW ?_)
     by_cases z6:((d++([101]++itoaB e)).length:Int) > 1000
     ·rw [dT z6]
      refine goW ?_
      exact⟨_,rfl,ret (o:=([],2)) (by rw [hf,if_pos (by (try simp only [lA,lC,List.length_nil] at z6);(try simp only [lA,lC,List.length_nil]);omega)])⟩
     rw [dF z6]
     refine goW ?_
     exact⟨_,rfl,ret (o:=(d++([101]++itoaB e),0)) (by rw [hf,if_neg (by (try simp only [lA,lC,List.length_nil] at z6);(try simp only [lA,lC,List.length_nil]);omega)];try simp only [List.append_nil,aA];try rfl)⟩
set_option maxHeartbeats 4000000 in
theorem normal_wp (hm:MonoC C) (hsplit:∀s:List UInt8,s.length<9223372036854775807→PF C 87 [.str s] (encSplit (splitB s))) (hjoin:∀p:Parts3,p.2.1.length≤1000→PF C 88 [encP p] (encJoin (joinB p)))
  {s:List UInt8} (hl:s.length<9223372036854775807):wpF gt C F67 [.str s] St.init (Ret (encJoin (normB s))):=by
 have hsplit:=hsplit s hl
 have hlen:=splitB_len (s:=s)
 unfold normB
 generalize splitB s=q at hsplit hlen ⊢
 obtain⟨⟨neg,d,e⟩,er⟩:=q
 simp only at hlen ⊢
 refine⟨rfl,?_⟩
 refine goW ?_
 refine call_pf hm (by rfl) hsplit (goW ?_)
 by_cases z:er=0
 ·rw [neI_false z,if_pos z]
  refine goW ?_
  have hj:=hjoin (neg,d,e) (hlen z)
  refine call_pf hm (by rfl) hj ?_
  generalize joinB (neg,d,e)=jr
  refine goW ?_
  exact⟨_,rfl,Ret.sta (sta_join _)⟩
 ·rw [neI_true z,if_neg z]
  refine goW ?_
  exact⟨_,rfl,Ret.sta (sta_join ([],er))⟩
end

def twoB:List UInt8→Int
 | [a,b]=>if dig a=true∧dig b=true then ((a.toNat:Int)-48)*10+((b.toNat:Int)-48) else -1
 | _=>-1
def withinB (s:List UInt8) (lo hi:Int):Bool:=decide (twoB s ≥ lo) && decide (twoB s≤hi)
def daysB (y m:Int):Int :=
 if m=4∨m=6∨m=9∨m=11 then 30
 else if m=2 then (if Int.tmod y 4=0∧(Int.tmod y 100≠0∨Int.tmod y 400=0) then 29 else 28)
 else 31
theorem dig_iff {b:UInt8}:dig b=true↔48≤b.toNat∧b.toNat≤57:=by
 simp only [dig,bA,decide_eq_true_eq]
section
variable {gt:GT} {C:CallT}
theorem twoB_len {s:List UInt8} (h:s.length≠2):twoB s=-1:=by
 match s,h with
 | [],_=>rfl
 | [_],_=>rfl
 | [_,_],h=>exact absurd rfl h
 | _::_::_::_,_=>rfl
theorem wr8 {n:Int} (h:0≤n) (h2:n<256):wr .u8 n=n:=by
 rw [wr_eq]
 refine inR_wrap ?_
 obtain⟨m,rfl⟩:∃m:Nat,n=m:=⟨n.toNat,by omega⟩
 simp only [inR]
 exact Nat.ble_eq_true_of_le (by omega)
set_option maxHeartbeats 4000000 in
theorem two_wp {s:List UInt8}:wpF gt C F103 [.str s] St.init (Ret (.int .i64 (twoB s))):=by
 have ret:∀{z:Int} {S:St},twoB s=z→Ret (.int .i64 (twoB s)) (.ret (.int .i64 z)) S:=fun h=>by rw [h];exact Ret.sta trivial
 refine⟨rfl,?_⟩
 refine goW ?_
 by_cases z:s.length=2
 case neg =>
  rw [neI_true (show ¬((s.length:Nat):Int)=2 by omega)]
  refine goW ?_
  exact⟨_,rfl,ret (twoB_len z)⟩
 obtain⟨a,b,rfl⟩:∃a b,s=[a,b]:=by
  match s,z with
  | [a,b],_=>exact⟨a,b,rfl⟩
 have ha:=u8_lt a
 have hb:=u8_lt b
 rw [neI_false (show (([a,b]:List UInt8).length:Int)=2 from rfl)]
 have hno:¬(dig a=true∧dig b=true)→twoB [a,b]=-1:=fun h=>if_neg h
 refine goW ?_
 by_cases z1:(a.toNat:Int)<48
 ·rw [dT z1]
  refine goW ?_
  exact⟨_,rfl,ret (hno (by rw [dig_iff,dig_iff];omega))⟩
 rw [dF z1]
 refine goW ?_
 by_cases z2:(a.toNat:Int) > 57
 ·rw [dT z2]
  refine goW ?_
  exact⟨_,rfl,ret (hno (by rw [dig_iff,dig_iff];omega))⟩
 rw [dF z2]
 refine goW ?_
 by_cases z3:(b.toNat:Int)<48
 ·rw [dT z3]
  refine goW ?_
  exact⟨_,rfl,ret (hno (by rw [dig_iff,dig_iff];omega))⟩
 rw [dF z3]
 refine goW ?_
 by_cases z4:(b.toNat:Int) > 57
 ·rw [dT z4]
  refine goW ?_
  exact⟨_,rfl,ret (hno (by rw [dig_iff,dig_iff];omega))⟩
 rw [dF z4]
 refine goW ?_
 refine⟨_,rfl,ret ?_⟩
 rw [wr8 (n:=(a.toNat:Int)-48) (by omega) (by omega),wr8 (n:=(b.toNat:Int)-48) (by omega) (by omega),wr64 (n:=(a.toNat:Int)-48) (by omega) (by omega),wr64 (n:=(b.toNat:Int)-48) (by omega) (by omega),wr64 (n:=((a.toNat:Int)-48)*10) (by omega) (by omega),wr64 (by omega) (by omega)]
 exact if_pos (by rw [dig_iff,dig_iff];omega)
set_option maxHeartbeats 4000000 in
theorem within_wp (hm:MonoC C) (h:∀s,PF C 103 [.str s] (.int .i64 (twoB s))) {s:List UInt8} {lo hi:Int}:wpF gt C F104 [.str s,.int .i64 lo,.int .i64 hi] St.init (Ret (.bool (withinB s lo hi))):=by
 refine⟨rfl,?_⟩
 refine goW ?_
 refine call_pf hm (by rfl) (h s) (goW ?_)
 unfold withinB
 by_cases z1:twoB s ≥ lo
 ·rw [dT z1]
  refine goW ?_
  refine call_pf hm (by rfl) (h s) (goW ?_)
  exact⟨_,rfl,Ret.sta trivial⟩
 ·rw [dF z1]
  refine goW ?_
  exact⟨_,rfl,Ret.sta trivial⟩
set_option maxHeartbeats 4000000 in
theorem days_wp {y m:Int}:wpF gt C F105 [.int .i64 y,.int .i64 m] St.init (Ret (.int .i64 (daysB y m))):=by
 have ret:∀{z:Int} {S:St},daysB y m=z→Ret (.int .i64 (daysB y m)) (.ret (.int .i64 z)) S:=fun h=>by rw [h];exact Ret.sta trivial
 refine⟨rfl,?_⟩
 refine goW ?_
 by_cases z1:m=4
 ·rw [eqI_true z1]
  refine goW ?_
  exact⟨_,rfl,ret (if_pos (.inl z1))⟩
 rw [eqI_false z1]
 refine goW ?_
 by_cases z2:m=6
 ·rw [eqI_true z2]
  refine goW ?_
  exact⟨_,rfl,ret (if_pos (.inr (.inl z2)))⟩
 rw [eqI_false z2]
 refine goW ?_
 by_cases z3:m=9
 ·rw [eqI_true z3]
  refine goW ?_
  exact⟨_,rfl,ret (if_pos (.inr (.inr (.inl z3))))⟩
 rw [eqI_false z3]
 refine goW ?_
 by_cases z4:m=11
 ·rw [eqI_true z4]
  refine goW ?_
  exact⟨_,rfl,ret (if_pos (.inr (.inr (.inr z4))))⟩
 rw [eqI_false z4]
 have hf:daysB y m=if m=2 then (if Int.tmod y 4=0∧(Int.tmod y 100≠0∨Int.tmod y 400=0) then 29 else 28) else 31:=if_neg (by rintro (h | h | h | h)<;>contradiction)
 refine goW ?_
 by_cases z5:m=2
 case neg =>
  rw [eqI_false z5]
  refine goW ?_
  exact⟨_,rfl,ret (by rw [hf,if_neg z5])⟩
 rw [eqI_true z5]
 rw [if_pos z5] at hf
 refine goW ?_
 by_cases z6:Int.tmod y 4=0
 case neg =>
  rw [eqI_false z6]
  refine goW ?_
  exact⟨_,rfl,ret (by rw [hf,if_neg (by rintro⟨h,_⟩;exact z6 h)])⟩
 rw [eqI_true z6]
 refine goW ?_
 by_cases z7:Int.tmod y 100=0
 case neg =>
  rw [neI_true z7]
  refine goW ?_
  exact⟨_,rfl,ret (by rw [hf,if_pos ⟨z6,.inl z7⟩])⟩
 rw [neI_false z7]
 refine goW ?_
 by_cases z8:Int.tmod y 400=0
 ·rw [eqI_true z8]
  refine goW ?_
  exact⟨_,rfl,ret (by rw [hf,if_pos ⟨z6,.inr z8⟩])⟩
 ·rw [eqI_false z8]
  refine goW ?_
  exact⟨_,rfl,ret (by rw [hf,if_neg (by rintro⟨_,h | h⟩;exact h z7;exact z8 h)])⟩
end

def atB (s:List UInt8) (k:Nat) (c:UInt8):Bool:=hd c (s.drop k)
theorem atB_get {s:List UInt8} {k:Nat} {b c:UInt8} (h:s[k]? = some b):atB s k c=(b == c) :=
 hd_head (by rw [List.getElem?_drop];exact h)
def sub (s:List UInt8) (i j:Nat):List UInt8:=(s.drop i).take (j-i)
def dateB (s:List UInt8):Bool :=
 decide (s.length=10) && (atB s 4 45 && (atB s 7 45 && (decide (0≤twoB (s.take 2)) && (decide (0≤twoB (sub s 2 4)) && (withinB (sub s 5 7) 1 12 &&
  withinB (s.drop 8) 1 (daysB (twoB (s.take 2)*100+twoB (sub s 2 4)) (twoB (sub s 5 7))))))))
theorem twoB_le (s:List UInt8):-1≤twoB s∧twoB s≤99:=by
 match s with
 | []=>exact⟨by decide,by decide⟩
 | [_]=>exact⟨Int.le_refl _,by simp only [twoB];omega⟩
 | [a,b] =>
  simp only [twoB]
  split
  ·rename_i h
   rw [dig_iff,dig_iff] at h
   omega
  ·omega
 | _::_::_::_=>exact⟨Int.le_refl _,by simp only [twoB];omega⟩
section
variable {gt:GT} {C:CallT}
set_option maxHeartbeats 4000000 in
theorem date_wp (hm:MonoC C) (h2:∀s,PF C 103 [.str s] (.int .i64 (twoB s))) (hw:∀s lo hi,PF C 104 [.str s,.int .i64 lo,.int .i64 hi] (.bool (withinB s lo hi)))
  (hdy:∀y m,PF C 105 [.int .i64 y,.int .i64 m] (.int .i64 (daysB y m))) {s:List UInt8}:wpF gt C F83 [.str s] St.init (Ret (.bool (dateB s))):=by
 have ret:∀{z:Bool} {S:St},dateB s=z→Ret (.bool (dateB s)) (.ret (.bool z)) S:=fun h=>by rw [h];exact Ret.sta trivial
 have hf:dateB s=(decide (s.length=10) && (atB s 4 45 && (atB s 7 45 && (decide (0≤twoB (s.take 2)) && (decide (0≤twoB (sub s 2 4)) && (withinB (sub s 5 7) 1 12 &&
  withinB (s.drop 8) 1 (daysB (twoB (s.take 2)*100+twoB (sub s 2 4)) (twoB (sub s 5 7))))))))):=rfl
 generalize dateB s=res at ret hf ⊢
 refine⟨rfl,?_⟩
 refine goW ?_
 by_cases z:s.length=10
 case neg =>
  rw [neI_true (show ¬((s.length:Nat):Int)=10 by omega)]
  refine goW ?_
  exact⟨_,rfl,ret (by rw [hf,dF z];rfl)⟩
 rw [neI_false (show ((s.length:Nat):Int)=10 by omega)]
 rw [dT z,Bool.true_and] at hf
 obtain⟨b4,hb4⟩:∃b,s[4]? = some b:=⟨_,gE (by omega)⟩
 obtain⟨b7,hb7⟩:∃b,s[7]? = some b:=⟨_,gE (by omega)⟩
 refine goW ?_
 refine st_any (by exact rfl) (sx_ixS (k:=4) rfl rfl hb4) (goW ?_)
 rw [show ((45:Int))=((45:UInt8).toNat:Int) from rfl,u8_neI,←atB_get (c:=45) hb4]
 cases y1:atB s 4 45 with
 | false =>
  refine goW ?_
  exact⟨_,rfl,ret (by rw [hf,y1];rfl)⟩
 | true =>
 rw [y1,Bool.true_and] at hf
 refine goW ?_
 refine st_any (by exact rfl) (sx_ixS (k:=7) rfl rfl hb7) (goW ?_)
 rw [u8_neI,←atB_get (c:=45) hb7]
 cases y2:atB s 7 45 with
 | false =>
  refine goW ?_
  exact⟨_,rfl,ret (by rw [hf,y2];rfl)⟩
 | true =>
 rw [y2,Bool.true_and] at hf
 refine goW ?_
 refine st_any (by exact rfl) (sx_slHiS (h:=2) rfl rfl (by omega)) (goW ?_)
 refine call_pf hm (by rfl) (h2 (s.take 2)) (goW ?_)
 have g1:=twoB_le (s.take 2)
 by_cases y3:twoB (s.take 2)<0
 ·rw [dT y3]
  refine goW ?_
  exact⟨_,rfl,ret (by rw [hf,dF (show ¬0≤twoB (s.take 2) by omega)];rfl)⟩
 rw [dF y3]
 rw [dT (show 0≤twoB (s.take 2) by omega),Bool.true_and] at hf
 refine goW ?_
 refine st_any (by exact rfl) (sx_slLH (l:=2) (h:=4) rfl rfl rfl (by omega) (by omega)) (goW ?_)
 rw [show (s.drop 2).take (4-2)=sub s 2 4 from rfl]
 refine call_pf hm (by rfl) (h2 (sub s 2 4)) (goW ?_)
 have g2:=twoB_le (sub s 2 4)
 by_cases y4:twoB (sub s 2 4)<0
 ·rw [dT y4]
  refine goW ?_
  exact⟨_,rfl,ret (by rw [hf,dF (show ¬0≤twoB (sub s 2 4) by omega)];rfl)⟩
 rw [dF y4]
 rw [dT (show 0≤twoB (sub s 2 4) by omega),Bool.true_and] at hf
 refine goW ?_
 refine st_any (by exact rfl) (sx_slLH (l:=5) (h:=7) rfl rfl rfl (by omega) (by omega)) (goW ?_)
 rw [show (s.drop 5).take (7-5)=sub s 5 7 from rfl]
 refine call_pf hm (by rfl) (hw (sub s 5 7) 1 12) (goW ?_)
 cases y5:withinB (sub s 5 7) 1 12 with
 | false =>
  refine goW ?_
  exact⟨_,rfl,ret (by rw [hf,y5];rfl)⟩
 | true =>
 rw [y5,Bool.true_and] at hf
 refine goW ?_
 refine step_ruleDO rfl rfl (sx_slLo (l:=8) rfl rfl (by omega)) (goW ?_)
 refine step_ruleDO rfl rfl (sx_slHiS (h:=2) rfl rfl (by omega)) (goW ?_)
 refine step_ruleDO rfl rfl (sx_slLH (l:=2) (h:=4) rfl rfl rfl (by omega) (by omega)) (goW ?_)
 refine step_ruleDO rfl rfl (sx_slLH (l:=5) (h:=7) rfl rfl rfl (by omega) (by omega)) (goW ?_)
 rw [show (s.drop 5).take (7-5)=sub s 5 7 from rfl,show (s.drop 2).take (4-2)=sub s 2 4 from rfl]
 refine call_pfD hm (by rfl) (h2 (s.take 2)) (goW ?_)
 refine call_pfD hm (by rfl) (h2 (sub s 2 4)) (goW ?_)
 refine call_pfD hm (by rfl) (h2 (sub s 5 7)) (goW ?_)
 rw [wr64 (n:=twoB (s.take 2)*100) (by omega) (by omega),wr64 (by omega) (by omega)]
 refine call_pfD hm (by rfl) (hdy _ _) (goW ?_)
 refine call_pfD hm (by rfl) (hw _ _ _) (goW ?_)
 exact⟨_,rfl,ret hf⟩
end

abbrev tenD:List UInt8:=[48,49,50,51,52,53,54,55,56,57]
def trimA (cs s:List UInt8):List UInt8:=trimL cs (trimR cs s)
def clockB (s:List UInt8):Bool :=
 decide (8≤s.length) && (atB s 2 58 && (atB s 5 58 && (withinB (s.take 2) 0 23 && (withinB (sub s 3 5) 0 59 && (withinB (sub s 6 8) 0 59 &&
  (decide (s.length=8) || (atB s 8 46 && (decide (1≤(s.drop 9).length) && (decide ((s.drop 9).length≤9) && beqB (trimA tenD (s.drop 9)) [])))))))))
section
variable {gt:GT} {C:CallT}
set_option maxHeartbeats 4000000 in
theorem clock_wp (hm:MonoC C) (hw:∀s lo hi,PF C 104 [.str s,.int .i64 lo,.int .i64 hi] (.bool (withinB s lo hi)))
  (htr:∀s:List UInt8,s.length<9223372036854775807→PF C 106 [.str s,.str tenD] (.str (trimA tenD s))) {s:List UInt8} (hl:s.length<9223372036854775807):wpF gt C F84 [.str s] St.init (Ret (.bool (clockB s))):=by
 have ret:∀{z:Bool} {S:St},clockB s=z→Ret (.bool (clockB s)) (.ret (.bool z)) S:=fun h=>by rw [h];exact Ret.sta trivial
 have hf:clockB s=(decide (8≤s.length) && (atB s 2 58 && (atB s 5 58 && (withinB (s.take 2) 0 23 && (withinB (sub s 3 5) 0 59 && (withinB (sub s 6 8) 0 59 &&
  (decide (s.length=8) || (atB s 8 46 && (decide (1≤(s.drop 9).length) && (decide ((s.drop 9).length≤9) && beqB (trimA tenD (s.drop 9)) [])))))))))):=rfl
 generalize clockB s=res at ret hf ⊢
 refine⟨rfl,?_⟩
 refine goW ?_
 by_cases z:8≤s.length
 case neg =>
  rw [dT (show ((s.length:Nat):Int)<8 by omega)]
  refine goW ?_
  exact⟨_,rfl,ret (by rw [hf,dF z];rfl)⟩
 rw [dF (show ¬((s.length:Nat):Int)<8 by omega)]
 rw [dT z,Bool.true_and] at hf
 obtain⟨b2,hb2⟩:∃b,s[2]? = some b:=⟨_,gE (by omega)⟩
 obtain⟨b5,hb5⟩:∃b,s[5]? = some b:=⟨_,gE (by omega)⟩
 refine goW ?_
 refine st_any (by exact rfl) (sx_ixS (k:=2) rfl rfl hb2) (goW ?_)
 rw [show ((58:Int))=((58:UInt8).toNat:Int) from rfl,u8_neI,←atB_get (c:=58) hb2]
 cases y1:atB s 2 58 with
 | false =>
  refine goW ?_
  exact⟨_,rfl,ret (by rw [hf,y1];rfl)⟩
 | true =>
 rw [y1,Bool.true_and] at hf
 refine goW ?_
 refine st_any (by exact rfl) (sx_ixS (k:=5) rfl rfl hb5) (goW ?_)
 rw [u8_neI,←atB_get (c:=58) hb5]
 cases y2:atB s 5 58 with
 | false =>
  refine goW ?_
  exact⟨_,rfl,ret (by rw [hf,y2];rfl)⟩
 | true =>
 rw [y2,Bool.true_and] at hf
 refine goW ?_
 refine st_any (by exact rfl) (sx_slHiS (h:=2) rfl rfl (by omega)) (goW ?_)
 refine call_pf hm (by rfl) (hw (s.take 2) 0 23) (goW ?_)
 cases y3:withinB (s.take 2) 0 23 with
 | false =>
  refine goW ?_
  exact⟨_,rfl,ret (by rw [hf,y3];rfl)⟩
 | true =>
 rw [y3,Bool.true_and] at hf
 refine goW ?_
 refine st_any (by exact rfl) (sx_slLH (l:=3) (h:=5) rfl rfl rfl (by omega) (by omega)) (goW ?_)
 rw [show (s.drop 3).take (5-3)=sub s 3 5 from rfl]
 refine call_pf hm (by rfl) (hw (sub s 3 5) 0 59) (goW ?_)
 cases y4:withinB (sub s 3 5) 0 59 with
 | false =>
  refine goW ?_
  exact⟨_,rfl,ret (by rw [hf,y4];rfl)⟩
 | true =>
 rw [y4,Bool.true_and] at hf
 refine goW ?_
 refine st_any (by exact rfl) (sx_slLH (l:=6) (h:=8) rfl rfl rfl (by omega) (by omega)) (goW ?_)
 rw [show (s.drop 6).take (8-6)=sub s 6 8 from rfl]
 refine call_pf hm (by rfl) (hw (sub s 6 8) 0 59) (goW ?_)
 cases y5:withinB (sub s 6 8) 0 59 with
 | false =>
  refine goW ?_
  exact⟨_,rfl,ret (by rw [hf,y5];rfl)⟩
 | true =>
 rw [y5,Bool.true_and] at hf
 refine goW ?_
 by_cases z8:s.length=8
 ·rw [eqI_true (show ((s.length:Nat):Int)=8 by omega)]
  refine goW ?_
  exact⟨_,rfl,ret (by rw [hf,dT z8];rfl)⟩
 rw [eqI_false (show ¬((s.length:Nat):Int)=8 by omega)]
 rw [dF z8,Bool.false_or] at hf
 obtain⟨b8,hb8⟩:∃b,s[8]? = some b:=⟨_,gE (by omega)⟩
 refine goW ?_
 refine step_ruleO (sx_slLo (l:=9) rfl rfl (by omega)) (goW ?_)
 refine step_ruleO (sx_ixS (k:=8) rfl rfl hb8) (goW ?_)
 rw [show ((46:Int))=((46:UInt8).toNat:Int) from rfl,u8_eqI,←atB_get (c:=46) hb8]
 cases y6:atB s 8 46 with
 | false =>
  refine goW ?_
  exact⟨_,rfl,ret (by rw [hf,y6];rfl)⟩
 | true =>
 rw [y6,Bool.true_and] at hf
 have hd9:(s.drop 9).length≤s.length:=by rw [lD];omega
 generalize s.drop 9=p at hf hd9 ⊢
 refine goW ?_
 by_cases z1:1≤p.length
 case neg =>
  rw [dF (show ¬((p.length:Nat):Int) ≥ 1 by omega)]
  refine goW ?_
  exact⟨_,rfl,ret (by rw [hf,dF z1];rfl)⟩
 rw [dT (show ((p.length:Nat):Int) ≥ 1 by omega)]
 rw [dT z1,Bool.true_and] at hf
 refine goW ?_
 by_cases z9:p.length≤9
 case neg =>
  rw [dF (show ¬((p.length:Nat):Int)≤9 by omega)]
  refine goW ?_
  exact⟨_,rfl,ret (by rw [hf,dF z9];rfl)⟩
 rw [dT (show ((p.length:Nat):Int)≤9 by omega)]
 rw [dT z9,Bool.true_and] at hf
 refine goW ?_
 refine call_pf hm (by rfl) (htr p (by omega)) (goW ?_)
 exact⟨_,rfl,ret hf⟩
end

def zoneB (s:List UInt8):List UInt8×List UInt8 :=
 if tl 90 s=true then (s.take (s.length-1),[90])
 else if s.length<6∨(atB s (s.length-6) 43=false∧atB s (s.length-6) 45=false) then (s,[])
 else if atB (s.drop (s.length-6)) 3 58=false∨withinB (sub (s.drop (s.length-6)) 1 3) 0 23=false∨withinB ((s.drop (s.length-6)).drop 4) 0 59=false then (s,[])
 else (s.take (s.length-6),s.drop (s.length-6))
def encZ (p:List UInt8×List UInt8):AV:=.tup [.str p.1,.str p.2]
theorem sta_Z (p:List UInt8×List UInt8):Sta (encZ p):=⟨trivial,trivial,trivial⟩
def cutC (c:UInt8):List UInt8→List UInt8×List UInt8×Bool
 | []=>([],[],false)
 | b::r=>if b == c then ([],r,true) else (b::(cutC c r).1,(cutC c r).2.1,(cutC c r).2.2)
def timeB (s:List UInt8):Bool :=
 dateB s || (clockB s || ((cutC 84 (zoneB s).1).2.2 && (dateB (cutC 84 (zoneB s).1).1 && clockB (cutC 84 (zoneB s).1).2.1)))
theorem cutC_le (c:UInt8):∀s:List UInt8,(cutC c s).1.length≤s.length∧(cutC c s).2.1.length≤s.length
 | []=>⟨Nat.le_refl _,Nat.le_refl _⟩
 | b::r=>by
  have:=cutC_le c r
  simp only [cutC]
  split
  ·exact⟨Nat.zero_le _,by simp⟩
  ·simp only [lC];omega
theorem zoneB_le (s:List UInt8):(zoneB s).1.length≤s.length:=by
 unfold zoneB
 split
 ·simp only [lT];omega
 ·split
  ·exact Nat.le_refl _
  ·split
   ·exact Nat.le_refl _
   ·simp only [lT];omega
theorem tl_len {c:UInt8} {s:List UInt8} (h:tl c s=true):1≤s.length:=by
 have:=hd_len h;rwa [List.length_reverse] at this
section
variable {gt:GT} {C:CallT}
set_option maxHeartbeats 4000000 in
theorem zone_wp (hm:MonoC C) (hsuf:∀(s:List UInt8) c,s.length<9223372036854775807→PF C 107 [.str s,.str [c]] (.bool (tl c s))) (hw:∀s lo hi,PF C 104 [.str s,.int .i64 lo,.int .i64 hi] (.bool (withinB s lo hi)))
  {s:List UInt8} (hl:s.length<9223372036854775807):wpF gt C F85 [.str s] St.init (Ret (encZ (zoneB s))):=by
 have ret:∀{z:List UInt8×List UInt8} {S:St},zoneB s=z→Ret (encZ (zoneB s)) (.ret (encZ z)) S:=fun h=>by rw [h];exact Ret.sta (sta_Z _)
 have hf:zoneB s=if tl 90 s=true then (s.take (s.length-1),[90])
  else if s.length<6∨(atB s (s.length-6) 43=false∧atB s (s.length-6) 45=false) then (s,[])
  else if atB (s.drop (s.length-6)) 3 58=false∨withinB (sub (s.drop (s.length-6)) 1 3) 0 23=false∨withinB ((s.drop (s.length-6)).drop 4) 0 59=false then (s,[])
  else (s.take (s.length-6),s.drop (s.length-6)):=rfl
 generalize zoneB s=res at ret hf ⊢
 refine⟨rfl,?_⟩
 refine goW ?_
 refine call_pf hm (by rfl) (hsuf s 90 hl) (goW ?_)
 cases y1:tl 90 s with
 | true =>
  have h1:=tl_len y1
  refine goW ?_
  rw [show wr .i64 ((s.length:Int)-1)=((s.length-1:Nat):Int) by rw [wr64 (by omega) (by omega)];omega]
  refine step_ruleO (sx_slHiS (h:=s.length-1) rfl rfl (by omega)) (goW ?_)
  exact⟨_,rfl,ret (z:=(s.take (s.length-1),[90])) (by rw [hf,if_pos y1])⟩
 | false =>
 rw [if_neg (by rw [y1];simp)] at hf
 refine goW ?_
 by_cases z6:s.length<6
 ·rw [dT (show ((s.length:Nat):Int)<6 by omega)]
  refine goW ?_
  exact⟨_,rfl,ret (z:=(s,[])) (by rw [hf,if_pos (.inl z6)])⟩
 rw [dF (show ¬((s.length:Nat):Int)<6 by omega)]
 obtain⟨b6,hb6⟩:∃b,s[s.length-6]? = some b:=⟨_,gE (by omega)⟩
 have hwr:wr .i64 ((s.length:Int)-6)=((s.length-6:Nat):Int):=by rw [wr64 (by omega) (by omega)];omega
 refine goW ?_
 rw [hwr]
 refine st_any (by exact rfl) (sx_ixS (k:=s.length-6) rfl rfl hb6) (goW ?_)
 rw [show ((43:Int))=((43:UInt8).toNat:Int) from rfl,u8_neI,←atB_get (c:=43) hb6]
 have tail:¬(s.length<6∨(atB s (s.length-6) 43=false∧atB s (s.length-6) 45=false))→True:=fun _=>trivial
 clear tail
 have fin:¬(s.length<6∨(atB s (s.length-6) 43=false∧atB s (s.length-6) 45=false))→∀x:Env,wpD gt C F85.body.rt.rt.rt ((0,.val (.str s))::x) St.init (bodyQ gt F85.res (Ret (encZ res))):=fun hno x=>by
  rw [if_neg hno] at hf
  conv=>whnf
  refine goW ?_
  rw [hwr]
  refine step_ruleO (sx_slLo (l:=s.length-6) rfl rfl (by omega)) (goW ?_)
  have hz:(s.drop (s.length-6)).length=6:=by rw [lD];omega
  generalize hzz:s.drop (s.length-6)=z at hf hz ⊢
  obtain⟨b3,hb3⟩:∃b,z[3]? = some b:=⟨_,gE (by omega)⟩
  refine step_ruleO (sx_ixS (k:=3) rfl rfl hb3) (goW ?_)
  rw [show ((58:Int))=((58:UInt8).toNat:Int) from rfl,u8_neI,←atB_get (c:=58) hb3]
  cases w1:atB z 3 58 with
  | false =>
   refine goW ?_
   exact⟨_,rfl,ret (z:=(s,[])) (by rw [hf,if_pos (.inl w1)])⟩
  | true =>
  refine goW ?_
  refine st_any (by exact rfl) (sx_slLH (l:=1) (h:=3) rfl rfl rfl (by omega) (by omega)) (goW ?_)
  rw [show (z.drop 1).take (3-1)=sub z 1 3 from rfl]
  refine call_pf hm (by rfl) (hw (sub z 1 3) 0 23) (goW ?_)
  cases w2:withinB (sub z 1 3) 0 23 with
  | false =>
   refine goW ?_
   exact⟨_,rfl,ret (z:=(s,[])) (by rw [hf,if_pos (.inr (.inl w2))])⟩
  | true =>
  refine goW ?_
  refine st_any (by exact rfl) (sx_slLo (l:=4) rfl rfl (by omega)) (goW ?_)
  refine call_pf hm (by rfl) (hw (z.drop 4) 0 59) (goW ?_)
  cases w3:withinB (z.drop 4) 0 59 with
  | false =>
   refine goW ?_
   exact⟨_,rfl,ret (z:=(s,[])) (by rw [hf,if_pos (.inr (.inr w3))])⟩
  | true =>
  refine goW ?_
  rw [hwr]
  refine step_ruleO (sx_slHiS (h:=s.length-6) rfl rfl (by omega)) (goW ?_)
  exact⟨_,rfl,ret (z:=(s.take (s.length-6),z)) (by rw [hf,if_neg (by rintro (h | h | h);rw [w1] at h;cases h;rw [w2] at h;cases h;rw [w3] at h;cases h)])⟩
 cases y2:atB s (s.length-6) 43 with
 | true =>
  refine goK ?_
  with_unfolding_all exact fin (by rintro (h | ⟨h,_⟩);exact z6 h;rw [y2] at h;cases h) _
 | false =>
 refine goW ?_
 rw [hwr]
 refine st_any (by exact rfl) (sx_ixS (k:=s.length-6) rfl rfl hb6) (goW ?_)
 rw [show ((45:Int))=((45:UInt8).toNat:Int) from rfl,u8_neI,←atB_get (c:=45) hb6]
 cases y3:atB s (s.length-6) 45 with
 | true =>
  refine goK ?_
  with_unfolding_all exact fin (by rintro (h | ⟨_,h⟩);exact z6 h;rw [y3] at h;cases h) _
 | false =>
  refine goW ?_
  exact⟨_,rfl,ret (z:=(s,[])) (by rw [hf,if_pos (.inr ⟨y2,y3⟩)])⟩
set_option maxHeartbeats 4000000 in
theorem time_wp (hm:MonoC C) (hd':∀s,PF C 83 [.str s] (.bool (dateB s))) (hc:∀s:List UInt8,s.length<9223372036854775807→PF C 84 [.str s] (.bool (clockB s)))
  (hz:∀s:List UInt8,s.length<9223372036854775807→PF C 85 [.str s] (encZ (zoneB s))) (hcut:∀s:List UInt8,s.length<4294967281→PF C 86 [.str s,.str [84]] (.tup [.str (cutC 84 s).1,.str (cutC 84 s).2.1,.bool (cutC 84 s).2.2]))
  {s:List UInt8} (hl:s.length<4294967281):wpF gt C F64 [.str s] St.init (Ret (.bool (timeB s))):=by
 have hzl:=zoneB_le s
 have hcut:=hcut (zoneB s).1 (by omega)
 have hcl:=cutC_le 84 (zoneB s).1
 unfold timeB
 refine⟨rfl,?_⟩
 refine goW ?_
 refine call_pf hm (by rfl) (hd' s) (goW ?_)
 cases y1:dateB s with
 | true =>
  refine goW ?_
  exact⟨_,rfl,Ret.sta trivial⟩
 | false =>
 refine goW ?_
 refine call_pf hm (by rfl) (hc s (by omega)) (goW ?_)
 cases y2:clockB s with
 | true =>
  refine goW ?_
  exact⟨_,rfl,Ret.sta trivial⟩
 | false =>
 refine goW ?_
 refine call_pf hm (by rfl) (hz s (by omega)) (goW ?_)
 refine call_pf hm (by rfl) hcut ?_
 generalize cutC 84 (zoneB s).1=q at hcl ⊢
 obtain⟨d,c,k⟩:=q
 refine goW ?_
 cases k with
 | false =>
  refine goW ?_
  exact⟨_,rfl,Ret.sta trivial⟩
 | true =>
 refine goW ?_
 refine call_pf hm (by rfl) (hd' d) (goW ?_)
 cases y3:dateB d with
 | false =>
  refine goW ?_
  exact⟨_,rfl,by simp only [y3];exact Ret.sta trivial⟩
 | true =>
 refine goW ?_
 refine call_pf hm (by rfl) (hc c (by simp only at hcl;omega)) (goW ?_)
 exact⟨_,rfl,by simp only [y3];exact Ret.sta trivial⟩
end

section
variable {gt:GT} {C:CallT}
set_option maxHeartbeats 2000000 in
theorem hasSuf0_wp {s:List UInt8} {c:UInt8} (hl:s.length<9223372036854775807):wpF gt C F130 [.str s,.str [c]] St.init (Ret (.bool (tl c s))):=by
 refine⟨rfl,?_⟩
 refine goW ?_
 by_cases z:1≤s.length
 case neg =>
  have:s=[]:=List.length_eq_zero_iff.1 (by omega)
  subst this
  rw [dF (show ¬((([]:List UInt8).length:Nat):Int) ≥ (([c]:List UInt8).length:Nat) by simp)]
  refine goW ?_
  exact⟨_,rfl,Ret.sta trivial⟩
 rw [dT (show ((s.length:Nat):Int) ≥ (([c]:List UInt8).length:Nat) by simp only [lC,List.length_nil];omega)]
 refine goW ?_
 rw [show wr .i64 ((s.length:Int)-(([c]:List UInt8).length:Nat))=((s.length-1:Nat):Int) by simp only [lC,List.length_nil];rw [wr64 (by omega) (by omega)];omega]
 refine st_any (by exact rfl) (sx_slLo (l:=s.length-1) rfl rfl (by omega)) (goW ?_)
 obtain⟨lb,hlb⟩:∃lb,s[s.length-1]? = some lb:=⟨_,gE (by omega)⟩
 have hd1:s.drop (s.length-1)=[lb]:=by
  rw [dC (show s.length-1<s.length by omega),List.drop_eq_nil_of_le (by omega)]
  rw [gE (show s.length-1<s.length by omega)] at hlb
  simp only [oI] at hlb
  rw [hlb]
 refine⟨_,rfl,?_⟩
 rw [hd1,beqB_one,tl_last hlb (by omega)]
 exact Ret.sta trivial
theorem hasSuf_wp (hm:MonoC C) (h:∀(s:List UInt8) c,s.length<9223372036854775807→PF C 130 [.str s,.str [c]] (.bool (tl c s))) {s:List UInt8} {c:UInt8} (hl:s.length<9223372036854775807):wpF gt C F107 [.str s,.str [c]] St.init (Ret (.bool (tl c s))):=by
 refine⟨rfl,?_⟩
 refine goW ?_
 refine call_pf hm (by rfl) (h s c hl) (goW ?_)
 exact⟨_,rfl,Ret.sta trivial⟩
end

def mpE (l:List (List UInt8×Int)):List (AV×AV):=l.map fun p=>(.str p.1,.int .i64 p.2)
def posS (k:List UInt8):List (List UInt8×Int)→Nat→Option (Nat×Int)
 | [],_=>none
 | (k',v)::r,i=>if k=k' then some (i,v) else posS k r (i+1)
theorem fk (k:List UInt8):∀(l:List (List UInt8×Int)) (i:Nat),findK .str (.str k) (mpE l) i=some ((posS k l i).map fun p=>(p.1,AV.int .i64 p.2))
 | [],_=>rfl
 | (k',v)::r,i=>by
  have ih:=fk k r (i+1)
  simp only [mpE,List.map_cons,findK,eqv,eqStr,posS] at ih ⊢
  by_cases h:k=k'
  ·rw [beqB_true h,if_pos h];rfl
  ·rw [beqB_false h,if_neg h];exact ih
theorem posS_lt {k:List UInt8}:∀{l:List (List UInt8×Int)} {i j:Nat} {v:Int},posS k l i=some (j,v)→i≤j∧j<i+l.length∧l[j-i]? = some (k,v)
 | (k',v')::r,i,j,v,h=>by
  simp only [posS] at h
  split at h
  ·rename_i e
   simp only [oI,Prod.mk.injEq] at h
   obtain⟨rfl,rfl⟩:=h
   subst e
   exact⟨Nat.le_refl _,by simp,by simp⟩
  ·obtain⟨h1,h2,h3⟩:=posS_lt h
   refine⟨by omega,by simp only [lC];omega,?_⟩
   rw [show j-i=(j-(i+1))+1 by omega,List.getElem?_cons_succ]
   exact h3
theorem posS_none {k:List UInt8}:∀{l:List (List UInt8×Int)} {i:Nat},posS k l i=none↔k ∉ l.map Prod.fst
 | [],i=>by simp [posS]
 | (k',v')::r,i=>by
  simp only [posS,List.map_cons,List.mem_cons,not_or]
  split
  ·rename_i e;simp [e]
  ·rename_i e;rw [posS_none];simp [e]
theorem posS_app {k:List UInt8} {v:Int}:∀{l:List (List UInt8×Int)} {i:Nat},posS k l i=none→posS k (l++[(k,v)]) i=some (i+l.length,v)
 | [],i,_=>by simp [posS]
 | (k',v')::r,i,h=>by
  simp only [posS,List.cons_append,lC] at h ⊢
  split at h
  ·cases h
  ·rename_i e;rw [if_neg e,posS_app h];congr 2;omega
theorem posS_set {k:List UInt8} {v w:Int}:∀{l:List (List UInt8×Int)} {i j:Nat},posS k l i=some (j,v)→posS k (l.set (j-i) (k,w)) i=some (j,w)
 | (k',v')::r,i,j,h=>by
  have hlt:=posS_lt h
  simp only [posS] at h
  split at h
  ·rename_i e
   simp only [oI,Prod.mk.injEq] at h
   obtain⟨rfl,rfl⟩:=h
   simp [posS]
  ·rename_i e
   have h3:=posS_lt h
   rw [show j-i=(j-(i+1))+1 by omega,List.set_cons_succ]
   simp only [posS]
   rw [if_neg e]
   exact posS_set h

theorem wrap8 {n:Nat} (h:n<256):IntKind.wrap .u8 (n:Int)=n:=by
 refine inR_wrap ?_
 simp only [inR]
 exact Nat.ble_eq_true_of_le (by omega)
theorem wrap64 {n:Nat} (h:n<9223372036854775808):IntKind.wrap .i64 (n:Int)=n:=by
 refine inR_wrap ?_
 simp only [inR]
 exact Nat.ble_eq_true_of_le (by omega)
theorem step63 {acc:Nat} (x:UInt8) (h1:128≤x.toNat) (h2:x.toNat<192) (ha:acc<1125899906842624) :
  IntKind.wrap .i64 ((BitVec.ofInt (IntKind.bits .i64) (wr .i64 ((acc:Int)*2 ^ (min (Int.toNat 6) (IntKind.bits .i64)))) ||| BitVec.ofInt (IntKind.bits .i64) (wr .i64 (IntKind.wrap .u8 ((BitVec.ofInt (IntKind.bits .u8) (x.toNat:Int) &&& BitVec.ofInt (IntKind.bits .u8) 63).toNat:Int)))).toNat:Int)=((acc*64+(x.toNat-128):Nat):Int):=by
 have e1:wr .i64 ((acc:Int)*2 ^ (min (Int.toNat 6) (IntKind.bits .i64)))=((acc*64:Nat):Int):=by
  rw [show min (Int.toNat 6) (IntKind.bits .i64)=6 by decide,show ((2:Int) ^ 6)=64 by decide,wr64 (by omega) (by omega)]
  omega
 have e2:wr .i64 (IntKind.wrap .u8 ((BitVec.ofInt (IntKind.bits .u8) (x.toNat:Int) &&& BitVec.ofInt (IntKind.bits .u8) 63).toNat:Int))=((x.toNat-128:Nat):Int):=by
  have:=and63 x h1 h2
  rw [show IntKind.bits .u8=8 from rfl,this,wrap8 (by omega),wr64 (by omega) (by omega)]
 rw [e1,e2,show IntKind.bits .i64=64 from rfl,or_add (by omega) (by omega),wrap64 (by omega)]
section
variable {gt:GT} {C:CallT}
abbrev E_first (s:List UInt8) (acc n least i:Int):Env:=[(0,.val (.str s)),(2,.val (.int .i64 acc)),(3,.val (.int .i64 n)),(4,.val (.int .i64 least)),(5,.val (.int .i64 i))]
set_option maxHeartbeats 4000000 in
theorem first_wp (hm:MonoC C) (hrow:∀b:UInt8,PF C 99 [.int .u8 b.toNat] (encLead (leadB b.toNat))) (hch:∀c:Int,PF C 100 [.int .i64 c] (.bool (charB c)))
  {s:List UInt8} (hl:s.length<4611686018427387904):wpF gt C F78 [.str s] St.init (Ret (encFirst (firstC s))):=by
 have zero:∀{S:St},firstC s=(0,0)→Ret (encFirst (firstC s)) (.ret (.tup [.int .i64 0,.int .i64 0])) S:=fun h=>by rw [h];exact Ret.sta ⟨trivial,trivial,trivial⟩
 cases s with
 | nil =>
  refine⟨rfl,?_⟩
  refine goW ?_
  exact⟨_,rfl,zero rfl⟩
 | cons b r =>
 have hrow:=hrow b
 have hlb:=leadB_le b.toNat (u8_lt b)
 have hf:firstC (b::r)=if (leadB b.toNat).1=0∨r.length+1<(leadB b.toNat).1 then (0,0) else match contV ((leadB b.toNat).1-1) r (leadB b.toNat).2.1 with
   | none=>(0,0)
   | some c=>if c<(leadB b.toNat).2.2∨charB c=false then (0,0) else (c,(leadB b.toNat).1):=rfl
 generalize leadB b.toNat=p at hrow hlb hf
 obtain⟨n,bits,least⟩:=p
 simp only at hlb hf
 simp only [lC] at hl
 refine⟨rfl,?_⟩
 refine goW ?_
 refine call_pf hm (by rfl) hrow (goW ?_)
 by_cases z:(n:Int)=0
 ·rw [eqI_true z]
  refine goW ?_
  exact⟨_,rfl,zero (by rw [hf,if_pos (.inl (by omega))])⟩
 rw [eqI_false z]
 refine goW ?_
 by_cases z2:(n:Int) > ((b::r).length:Int)
 ·rw [dT z2]
  refine goW ?_
  exact⟨_,rfl,zero (by rw [hf,if_pos (.inr (by simp only [lC] at z2;omega))])⟩
 rw [dF z2]
 refine goW ?_
 simp only [lC] at z2
 rw [if_neg (by omega)] at hf
 refine loop_rule hm (α:=Nat×Nat) (fun a env S'=>1≤a.1∧a.1≤n∧a.2<128*64 ^ (a.1-1)∧env=E_first (b::r) a.2 n least a.1∧S'=St.init∧contV (n-1) r bits=contV (n-a.1) (r.drop (a.1-1)) a.2) (fun a=>n-a.1) ?_ (a:=(1,bits)) ⟨Nat.le_refl _,by simp only;omega,by simpa using hlb.2,rfl,rfl,rfl⟩
 rintro⟨i,acc⟩ env S' ⟨h1,hi,hacc,rfl,rfl,hp⟩
 simp only at h1 hi hacc hp
 refine goW ?_
 have hpow:64 ^ (i-1)≤64 ^ 3:=Nat.pow_le_pow_right (by decide) (by omega)
 have hsmall:acc<33554432:=by
  have:128*64 ^ (i-1)≤128*64 ^ 3:=Nat.mul_le_mul_left _ hpow
  have e:128*64 ^ 3=33554432:=by decide
  omega
 by_cases hc:(i:Int)<n
 ·rw [dT hc]
  refine goW ?_
  have hik:i-1<r.length:=by omega
  have hgb:(b::r)[i]? = some r[i-1]:=by
   obtain⟨j,rfl⟩:∃j,i=j+1:=⟨i-1,by omega⟩
   rw [List.getElem?_cons_succ];exact gE hik
  rw [show n-i=(n-(i+1))+1 by omega,contV_step hik] at hp
  refine step_ruleO (sx_ixS rfl rfl hgb) (goW ?_)
  have hs6:=shr6 r[i-1]
  rw [show min (Int.toNat 6) (IntKind.bits .u8)=6 by decide,hs6]
  by_cases hx:128≤r[i-1].toNat∧r[i-1].toNat<192
  ·rw [dT hx]
   refine goW ?_
   refine step_ruleO (sx_ixS rfl rfl hgb) (goW ?_)
   rw [step63 r[i-1] hx.1 hx.2 (by omega)]
   rw [if_pos hx] at hp
   refine⟨(i+1,acc*64+(r[i-1].toNat-128)),⟨by simp only;omega,by simp only;omega,?_,?_,rfl,?_⟩,by simp only;omega⟩
   ·simp only
    rw [show i+1-1=(i-1)+1 by omega,Nat.pow_succ]
    omega
   ·rw [wrNat (by omega)]
   ·simp only
    rw [hp,show i+1-1=i-1+1 by omega]
  ·rw [dF hx]
   refine goW ?_
   rw [if_neg hx] at hp
   exact⟨_,rfl,zero (by rw [hf,hp])⟩
 rw [dF hc]
 obtain rfl:i=n:=by omega
 rw [Nat.sub_self,show contV 0 (r.drop (i-1)) acc=some acc from rfl] at hp
 simp only [hp] at hf
 refine goW ?_
 by_cases hle:(acc:Int)<least
 ·rw [dT hle]
  refine goW ?_
  exact⟨_,rfl,zero (by rw [hf,if_pos (.inl (by omega))])⟩
 rw [dF hle]
 refine goW ?_
 refine call_pf hm (by rfl) (hch acc) (goW ?_)
 cases hcb:charB acc with
 | false =>
  refine goW ?_
  exact⟨_,rfl,zero (by rw [hf,if_pos (.inr hcb)])⟩
 | true =>
  refine goW ?_
  refine⟨_,rfl,?_⟩
  rw [hf,if_neg (by rw [hcb];simp;omega)]
  exact Ret.sta ⟨trivial,trivial,trivial⟩
theorem firstC_le:∀s:List UInt8,(firstC s).2≤s.length
 | []=>Nat.le_refl _
 | b::r=>by
  simp only [firstC]
  split
  ·exact Nat.zero_le _
  ·split
   ·exact Nat.zero_le _
   ·split
    ·exact Nat.zero_le _
    ·simp only [lC];omega
def badI (s:List UInt8) (at_:Nat):Int :=
 if h:s=[] then -1 else if h0:(firstC s).2=0 then at_ else badI (s.drop (firstC s).2) (at_+(firstC s).2)
termination_by s.length
decreasing_by
 have:0<s.length:=List.length_pos_iff.2 h
 simp only [lD];omega
theorem badI_nil (a:Nat):badI [] a=-1:=by rw [badI];simp
theorem badI_bad {s:List UInt8} {a:Nat} (h:s≠[]) (h0:(firstC s).2=0):badI s a=a:=by rw [badI,dif_neg h,dif_pos h0]
theorem badI_go {s:List UInt8} {a:Nat} (h:s≠[]) (h0:(firstC s).2≠0):badI s a=badI (s.drop (firstC s).2) (a+(firstC s).2):=by rw [badI,dif_neg h,dif_neg h0]
def validB (s:List UInt8):Bool:=decide (badI s 0<0)
abbrev E_bad (s:List UInt8) (i:Int):Env:=[(0,.val (.str s)),(3,.val (.int .i64 i))]
set_option maxHeartbeats 2000000 in
theorem bad_wp (hm:MonoC C) (hfst:∀s:List UInt8,s.length<4611686018427387904→PF C 78 [.str s] (encFirst (firstC s))) {s:List UInt8} (hl:s.length<4611686018427387904) :
  wpF gt C F53 [.str s] St.init (Ret (.int .i64 (badI s 0))):=by
 refine⟨rfl,?_⟩
 refine goW ?_
 refine loop_rule hm (α:=Nat) (fun i env S'=>i≤s.length∧env=E_bad s i∧S'=St.init∧badI s 0=badI (s.drop i) i) (fun i=>s.length-i) ?_ (a:=0) ⟨Nat.zero_le _,rfl,rfl,rfl⟩
 rintro i env S' ⟨hi,rfl,rfl,hp⟩
 refine goW ?_
 by_cases hc:(i:Int)<s.length
 ·rw [dT hc]
  refine goW ?_
  have hik:i<s.length:=by omega
  have hne:s.drop i≠[]:=fun h=>by have:=congrArg List.length h;simp at this;omega
  have hle:=firstC_le (s.drop i)
  rw [lD] at hle
  have hcall:=hfst (s.drop i) (by rw [lD];omega)
  unfold encFirst at hcall
  refine step_ruleO (sx_slLo (l:=i) rfl rfl hi) (goW ?_)
  refine call_pf hm (by rfl) hcall (goW ?_)
  by_cases z:((firstC (s.drop i)).2:Int)=0
  ·rw [eqI_true z]
   refine goW ?_
   refine⟨_,rfl,?_⟩
   rw [hp,badI_bad hne (by omega)]
   exact Ret.sta trivial
  ·rw [eqI_false z]
   refine goW ?_
   refine⟨i+(firstC (s.drop i)).2,⟨by omega,?_,rfl,?_⟩,by omega⟩
   ·rw [wr64 (by omega) (by omega)];rfl
   ·rw [hp,badI_go hne (by omega),List.drop_drop]
 ·rw [dF hc]
  refine goW ?_
  refine⟨_,rfl,?_⟩
  rw [hp,List.drop_eq_nil_of_le (by omega),badI_nil]
  exact Ret.sta trivial
theorem validP_wp (hm:MonoC C) (hbad:∀s:List UInt8,s.length<4611686018427387904→PF C 53 [.str s] (.int .i64 (badI s 0))) {s:List UInt8} (hl:s.length<4611686018427387904) :
  wpF gt C F68 [.str s] St.init (Ret (.bool (validB s))):=by
 refine⟨rfl,?_⟩
 refine goW ?_
 refine call_pf hm (by rfl) (hbad s hl) (goW ?_)
 exact⟨_,rfl,Ret.sta trivial⟩
end

theorem sx_lkpS {gt:GT} {d:Option Nat} {env:Env} {S:St} {R:List Rs} {m k:DOpd} {z:AV} {id:Nat} {l:List (List UInt8×Int)} {s:List UInt8} (hR:Hs S R) (i:Nat) (hi:R[i]? = some (.mp id (mpE l))) (hm:opd env m=some (.map id)) (hk:opd env k=some (.str s)) :
  stepO gt d env S (.lkp .str z m k false)=.done (putV d (match posS s l 0 with | some p=>.int .i64 p.2 | none=>z) env) S:=by
 have hl:=(hR.ok i _ hi).2
 simp only [stepO,hm,hk,keyV,cond_true,hl,fk]
 cases posS s l 0<;>rfl
def putS (s:List UInt8) (v:Int) (l:List (List UInt8×Int)):List (List UInt8×Int) :=
 match posS s l 0 with
 | some p=>l.set p.1 (s,v)
 | none=>l++[(s,v)]
theorem r_mupS {gt:GT} {d:Option Nat} {env:Env} {S:St} {R:List Rs} {m k x:DOpd} {id:Nat} {l:List (List UInt8×Int)} {s:List UInt8} {v:Int} (hR:Hs S R) (i:Nat) (hi:R[i]? = some (.mp id (mpE l))) (hm:opd env m=some (.map id)) (hk:opd env k=some (.str s)) (hx:opd env x=some (.int .i64 v)) :
  ∃S',stepO gt d env S (.mup .str m k x)=.done (putV d .undef env) S'∧Hs S' (R.set i (.mp id (mpE (putS s v l)))):=by
 have hl:=(hR.ok i _ hi).2
 refine⟨_,?_,hR.mapTo hi (mpE (putS s v l))⟩
 simp only [stepO,hm,hk,hx,keyV,cond_true,hl,fk,putS]
 cases hp:posS s l 0 with
 | none=>simp only [Option.map_none];simp [mpE]
 | some p =>
  obtain⟨j,w⟩:=p
  obtain⟨_,h2,h3⟩:=posS_lt hp
  rw [Nat.sub_zero] at h3
  have:keyAt .str (mpE l) j=true:=by simp [keyAt,mpE,h3,keyV]
  simp only [Option.map_some,this,cond_true]
  simp [mpE,List.map_set]
def unlikeB:List (List UInt8)→List (List UInt8)→Bool
 | _,[]=>true
 | seen,s::r=>if s∈seen then false else validB s && unlikeB (seen++[s]) r
theorem hs_mkm0:Hs { St.init with nm:=St.init.nm+1,maps:=(St.init.nm,[])::St.init.maps } [.mp St.init.nm []]:=by
 obtain⟨id,S',e,h⟩:=hs_mkm (gt:=[]) (d:=none) (env:=[]) Hs.init
 simp only [stepO,SR.done.injEq] at e
 obtain⟨_,rfl⟩:=e
 have h2:=(h.ok 0 _ rfl).2
 have h1:=(h.ok 0 _ rfl).1
 have:id=0:=by simp [St.init] at h1;omega
 subst this
 exact h
def ones (l:List (List UInt8)):List (List UInt8×Int):=l.map fun s=>(s,1)
theorem posS_ones {s:List UInt8} {l:List (List UInt8)} (h:s∈l):∃j,posS s (ones l) 0=some (j,1):=by
 cases hp:posS s (ones l) 0 with
 | none =>
  have:=posS_none.1 hp
  simp [ones] at this
  exact absurd h this
 | some p =>
  obtain⟨j,v⟩:=p
  obtain⟨_,_,h3⟩:=posS_lt hp
  simp only [ones,List.getElem?_map,Option.map_eq_some_iff,Prod.mk.injEq] at h3
  obtain⟨_,_,_,rfl⟩:=h3
  exact⟨j,rfl⟩
theorem posS_no {s:List UInt8} {l:List (List UInt8)} (h:s ∉ l):posS s (ones l) 0=none:=posS_none.2 (by simp [ones];exact h)
section
variable {gt:GT} {C:CallT}
abbrev E_unl (id:Nat) (keys:List (List UInt8)) (i:Int):Env:=[(3,.val (.map id)),(7,.val (.sl 1 stat (strs keys))),(8,.val (.int .i64 (strs keys).length)),(9,.val (.int .i64 i))]
set_option maxHeartbeats 4000000 in
theorem unlike_wp (hm:MonoC C) (hv:∀s:List UInt8,s.length<4611686018427387904→PF C 68 [.str s] (.bool (validB s))) {keys:List (List UInt8)} (hk:∀s∈keys,s.length<4611686018427387904) (hl:keys.length<9223372036854775807) :
  wpF gt C F69 [.sl 1 stat (strs keys)] St.init (Ret (.bool (unlikeB [] keys))):=by
 have hlen:=strs_length keys
 refine⟨rfl,?_⟩
 refine goW ?_
 have hR:=hs_mkm0
 refine loop_rule hm (α:=Nat) (fun i env S'=>i≤keys.length∧Hs S' [.mp 0 (mpE (ones (keys.take i)))]∧env=E_unl 0 keys i∧unlikeB [] keys=unlikeB (keys.take i) (keys.drop i)) (fun i=>keys.length-i) ?_ (a:=0) ⟨Nat.zero_le _,hR,rfl,rfl⟩
 rintro i env S' ⟨hi,hR,rfl,hp⟩
 refine goW ?_
 by_cases hc:(i:Int)<(strs keys).length
 ·rw [dT hc]
  refine goW ?_
  have hik:i<keys.length:=by omega
  refine step_ruleO (sx_ia (k:=i) rfl rfl (by omega)) (goW ?_)
  have hge:(strs keys)[i]? = some (.str keys[i]):=by simp [strs,hik]
  refine step_ruleO (sx_ldEl (agg:=false) rfl rfl hge rfl) (goW ?_)
  have hkl:=hk keys[i] (List.getElem_mem hik)
  have htk:keys.take (i+1)=keys.take i++[keys[i]]:=tS hik
  rw [dC hik] at hp
  simp only [unlikeB] at hp
  generalize keys[i]=s at hp hkl htk ⊢
  refine step_ruleO (sx_lkpS hR 0 rfl rfl rfl) ?_
  by_cases hs:s∈keys.take i
  ·obtain⟨j,hj⟩:=posS_ones hs
   rw [if_pos hs] at hp
   rw [hj]
   refine goW ?_
   rw [show wr .i64 ((1:Int)+1)=2 from rfl]
   refine st_runP (r_mupS hR 0 rfl rfl rfl rfl) trivial ?_
   intro S2 hR
   refine goW ?_
   refine step_ruleO (sx_lkpS hR 0 rfl rfl rfl) ?_
   rw [show posS s (putS s 2 (ones (keys.take i))) 0=some (j,2) by unfold putS;rw [hj];exact posS_set hj]
   refine goW ?_
   exact⟨_,rfl,by rw [hp];exact Ret.sta trivial⟩
  ·have hj:=posS_no hs
   rw [if_neg hs] at hp
   rw [hj]
   refine goW ?_
   rw [show wr .i64 ((0:Int)+1)=1 from rfl]
   refine st_runP (r_mupS hR 0 rfl rfl rfl rfl) trivial ?_
   intro S2 hR
   refine goW ?_
   refine step_ruleO (sx_lkpS hR 0 rfl rfl rfl) ?_
   have hput:putS s 1 (ones (keys.take i))=ones (keys.take (i+1)):=by unfold putS;rw [hj,htk];simp [ones]
   rw [show posS s (putS s 1 (ones (keys.take i))) 0=some (0+(ones (keys.take i)).length,1) by unfold putS;rw [hj];exact posS_app hj]
   rw [hput] at hR
   refine goW ?_
   refine call_pf hm (by rfl) (hv s hkl) (goW ?_)
   cases hvb:validB s with
   | false =>
    refine goW ?_
    exact⟨_,rfl,by rw [hp,hvb];exact Ret.sta trivial⟩
   | true =>
    refine goW ?_
    rw [hvb,Bool.true_and] at hp
    refine⟨i+1,⟨by omega,hR,?_,by rw [hp,htk]⟩,by omega⟩
    rw [wrNat (by omega)]
 ·rw [dF hc]
  refine goW ?_
  refine⟨_,rfl,?_⟩
  rw [hp,List.drop_eq_nil_of_le (by omega)]
  exact Ret.sta trivial
end

def shapeB (k:Int) (s:List UInt8) (keys:List (List UInt8)) (n:Nat):Bool :=
 if k=1 then (decide (keys.length=0) && decide (n=0)) && beqB s []
 else if k=2 then (decide (keys.length=0) && decide (n=0)) && (beqB s [116,114,117,101] || beqB s [102,97,108,115,101])
 else if k=3 then (decide (keys.length=0) && decide (n=0)) && (decide ((normB s).2=0) && beqB (normB s).1 s)
 else if k=4 then (decide (keys.length=0) && decide (n=0)) && validB s
 else if k=5 then (decide (keys.length=0) && decide (n=0)) && timeB s
 else if k=6 then beqB s [] && decide (keys.length=0)
 else if k=7 then beqB s [] && (decide (keys.length=n) && unlikeB [] keys)
 else false
mutual
def formedB:PT→Bool
 |.mk k s keys kids=>formedBs kids && shapeB k s keys kids.length
def formedBs:List PT→Bool
 | []=>true
 | t::r=>formedB t && formedBs r
end
mutual
def PT.sok:PT→Prop
 |.mk _ s keys kids=>s.length<4294967281∧(∀q∈keys,q.length<4294967281)∧keys.length<4611686018427387904∧kids.length<4611686018427387904∧PT.soks kids
def PT.soks:List PT→Prop
 | []=>True
 | t::r=>PT.sok t∧PT.soks r
end

theorem PT.soks_get:∀{l:List PT} {i:Nat} (h:i<l.length),PT.soks l→(l[i]).sok
 | a::r,0,_,h=>by simp only [PT.soks] at h;exact h.1
 | a::r,i+1,hi,h=>by simp only [PT.soks] at h;exact PT.soks_get (l:=r) (i:=i) (by simpa using hi) h.2
section
variable {gt:GT} {C:CallT}
abbrev E_formed (t:PT) (kids:List PT) (i:Int):Env:=[(1,.box (encT t).cells),(9,.val (.sl 4 stat (encTs kids))),(10,.val (.int .i64 (encTs kids).length)),(11,.val (.int .i64 i))]
set_option maxHeartbeats 16000000 in
theorem formed_wp (hm:MonoC C) (hn:∀s:List UInt8,s.length<4294967281→PF C 67 [.str s] (encJoin (normB s))) (hv:∀s:List UInt8,s.length<4294967281→PF C 68 [.str s] (.bool (validB s)))
  (ht:∀s:List UInt8,s.length<4294967281→PF C 64 [.str s] (.bool (timeB s))) (hu:∀keys:List (List UInt8),(∀s∈keys,s.length<4294967281)→keys.length<9223372036854775807→PF C 69 [.sl 1 stat (strs keys)] (.bool (unlikeB [] keys)))
  {t:PT} (ih:∀u,u.n<t.n→u.sok→PF C 43 [encT u] (.bool (formedB u))) (hk:t.sok):wpF gt C F43 [encT t] St.init (Ret (.bool (formedB t))):=by
 obtain⟨k,s,keys,kids⟩:=t
 simp only [PT.sok] at hk
 obtain⟨q1,q2,q3,q5,q4⟩:=hk
 have ret:∀{z:Bool} {S:St},formedB (.mk k s keys kids)=z→Ret (.bool (formedB (.mk k s keys kids))) (.ret (.bool z)) S:=fun h=>by rw [h];exact Ret.sta trivial
 have hf:formedB (.mk k s keys kids)=(formedBs kids && shapeB k s keys kids.length):=rfl
 generalize formedB (.mk k s keys kids)=res at ret hf ⊢
 have l1:=encTs_len kids
 have l2:=strs_length keys
 refine⟨rfl,?_⟩
 refine goW ?_
 refine loop_rule hm (α:=Nat) (fun i env S'=>i≤kids.length∧env=E_formed (.mk k s keys kids) kids i∧S'=St.init∧formedBs kids=formedBs (kids.drop i)) (fun i=>kids.length-i) ?_ (a:=0) ⟨Nat.zero_le _,rfl,rfl,rfl⟩
 rintro i env S' ⟨hi,rfl,rfl,hp⟩
 refine goW ?_
 by_cases hc:(i:Int)<(encTs kids).length
 ·rw [dT hc]
  refine goW ?_
  have hik:i<kids.length:=by omega
  refine step_ruleO (sx_ia (k:=i) rfl rfl (by omega)) (goW ?_)
  refine step_ruleO (sx_ldEl (agg:=true) rfl rfl (encTs_get hik) (rdT _)) ?_
  have ihk:=ih _ (kid_lt hik) (PT.soks_get hik q4)
  obtain⟨ka,sa,xa,ya,he⟩:=encT_agg kids[i]
  rw [he] at ihk ⊢
  rw [dC hik] at hp
  simp only [formedBs] at hp
  generalize formedB kids[i]=fk at ihk hp
  refine goW ?_
  refine call_pf hm (by rfl) ihk (goW ?_)
  cases fk with
  | false =>
   refine goW ?_
   exact⟨_,rfl,ret (by rw [hf,hp];rfl)⟩
  | true =>
   refine goW ?_
   refine⟨i+1,⟨by omega,?_,rfl,by rw [hp,Bool.true_and]⟩,by omega⟩
   rw [wrNat (by omega)]
 rw [dF hc]
 rw [hp,List.drop_eq_nil_of_le (by omega)] at hf
 simp only [formedBs,Bool.true_and] at hf
 clear hp
 refine goW ?_
 have fin:∀bare:Bool,bare=(decide (keys.length=0) && decide (kids.length=0))→∀x:Env,wpD gt C F43.body.rt.rt.rt ((1,.box (encT (.mk k s keys kids)).cells)::(5,.val (.bool bare))::x) St.init (bodyQ gt F43.res (Ret (.bool res))):=fun bare hb x=>by
  unfold shapeB at hf
  rw [←hb] at hf
  conv=>whnf
  refine goW ?_
  by_cases k1:k=1
  ·rw [eqI_true k1]
   rw [if_pos k1] at hf
   refine goW ?_
   cases bare with
   | false =>
    refine goW ?_
    exact⟨_,rfl,ret hf⟩
   | true =>
    refine goW ?_
    exact⟨_,rfl,ret hf⟩
  rw [eqI_false k1]
  rw [if_neg k1] at hf
  refine goW ?_
  by_cases k2:k=2
  ·rw [eqI_true k2]
   rw [if_pos k2] at hf
   refine goW ?_
   cases bare with
   | false =>
    refine goW ?_
    exact⟨_,rfl,ret hf⟩
   | true =>
    refine goW ?_
    cases hb1:beqB s [116,114,117,101] with
    | true =>
     rw [hb1] at hf
     refine goW ?_
     exact⟨_,rfl,ret hf⟩
    | false =>
     rw [hb1] at hf
     refine goW ?_
     exact⟨_,rfl,ret hf⟩
  rw [eqI_false k2]
  rw [if_neg k2] at hf
  refine goW ?_
  by_cases k3:k=3
  ·rw [eqI_true k3]
   rw [if_pos k3] at hf
   refine goW ?_
   have hns:=hn s q1
   generalize normB s=nb at hns hf
   obtain⟨ns,ne⟩:=nb
   simp only at hf
   refine call_pf hm (by rfl) hns (goW ?_)
   cases bare with
   | false =>
    refine goW ?_
    exact⟨_,rfl,ret hf⟩
   | true =>
    refine goW ?_
    by_cases he:ne=0
    ·rw [eqI_true he]
     rw [dT he] at hf
     refine goW ?_
     exact⟨_,rfl,ret hf⟩
    ·rw [eqI_false he]
     rw [dF he] at hf
     refine goW ?_
     exact⟨_,rfl,ret hf⟩
  rw [eqI_false k3]
  rw [if_neg k3] at hf
  refine goW ?_
  by_cases k4:k=4
  ·rw [eqI_true k4]
   rw [if_pos k4] at hf
   refine goW ?_
   cases bare with
   | false =>
    refine goW ?_
    exact⟨_,rfl,ret hf⟩
   | true =>
    refine goW ?_
    refine call_pf hm (by rfl) (hv s q1) (goW ?_)
    exact⟨_,rfl,ret hf⟩
  rw [eqI_false k4]
  rw [if_neg k4] at hf
  refine goW ?_
  by_cases k5:k=5
  ·rw [eqI_true k5]
   rw [if_pos k5] at hf
   refine goW ?_
   cases bare with
   | false =>
    refine goW ?_
    exact⟨_,rfl,ret hf⟩
   | true =>
    refine goW ?_
    refine call_pf hm (by rfl) (ht s q1) (goW ?_)
    exact⟨_,rfl,ret hf⟩
  rw [eqI_false k5]
  rw [if_neg k5] at hf
  refine goW ?_
  by_cases k6:k=6
  ·rw [eqI_true k6]
   rw [if_pos k6] at hf
   refine goW ?_
   cases hs:beqB s [] with
   | false =>
    rw [hs] at hf
    refine goW ?_
    exact⟨_,rfl,ret hf⟩
   | true =>
    rw [hs] at hf
    refine goW ?_
    refine⟨_,rfl,ret ?_⟩
    rw [hf,Bool.true_and,l2,Bool.eq_iff_iff]
    simp
  rw [eqI_false k6]
  rw [if_neg k6] at hf
  refine goW ?_
  by_cases k7:k=7
  ·rw [eqI_true k7]
   rw [if_pos k7] at hf
   refine goW ?_
   cases hs:beqB s [] with
   | false =>
    rw [hs] at hf
    refine goW ?_
    exact⟨_,rfl,ret hf⟩
   | true =>
    rw [hs] at hf
    refine goW ?_
    by_cases hkk:keys.length=kids.length
    ·rw [eqI_true (show (((strs keys).length:Nat):Int)=(encTs kids).length by omega)]
     rw [dT hkk] at hf
     refine goW ?_
     refine call_pf hm (by rfl) (hu keys q2 (by omega)) (goW ?_)
     exact⟨_,rfl,ret hf⟩
    ·rw [eqI_false (show ¬(((strs keys).length:Nat):Int)=(encTs kids).length by omega)]
     rw [dF hkk] at hf
     refine goW ?_
     exact⟨_,rfl,ret hf⟩
  rw [eqI_false k7]
  rw [if_neg k7] at hf
  refine goW ?_
  exact⟨_,rfl,ret hf⟩
 by_cases b1:keys.length=0
 ·rw [eqI_true (show (((strs keys).length:Nat):Int)=0 by omega)]
  refine goK ?_
  with_unfolding_all exact fin (((encTs kids).length:Int) == 0) (by rw [dT b1,Bool.true_and,l1,Bool.eq_iff_iff];simp) _
 ·rw [eqI_false (show ¬(((strs keys).length:Nat):Int)=0 by omega)]
  refine goK ?_
  with_unfolding_all exact fin false (by rw [dF b1];rfl) _
end

mutual
def PT.dp:PT→Nat
 |.mk _ _ _ kids=>PT.dps kids+1
def PT.dps:List PT→Nat
 | []=>0
 | t::r=>max (PT.dp t) (PT.dps r)
end
section
variable {gt:GT} {C:CallT}
end

def rightB (t:PT):Int:=if 64<t.dp then 4 else if 4096<t.n then 3 else if formedB t=true then 0 else 1
section
variable {gt:GT} {C:CallT}
end

theorem u8_beqN (b c:UInt8):Nat.beq b.toNat c.toNat=(b == c):=by
 rw [Bool.eq_iff_iff,Nat.beq_eq,beq_iff_eq,UInt8.toNat_inj]
theorem cutC_idx (c:UInt8):∀(s:List UInt8) (i:Nat),(idxB c s i=-1∧cutC c s=(s,[],false))∨∃j:Nat,j<s.length∧idxB c s i=((i+j:Nat):Int)∧cutC c s=(s.take j,s.drop (j+1),true)
 | [],i=>.inl ⟨rfl,rfl⟩
 | b::r,i=>by
  by_cases h:(b == c)=true
  ·right
   refine⟨0,by simp,?_,?_⟩
   ·simp only [idxB,u8_beqN,h,cond_true,Nat.add_zero]
   ·simp only [cutC,h,if_true,List.take_zero,Nat.zero_add,List.drop_succ_cons,List.drop_zero]
  ·have h':(b == c)=false:=by simpa using h
   rcases cutC_idx c r (i+1) with⟨h1,h2⟩ | ⟨j,hj,h1,h2⟩
   ·left
    refine⟨by simp only [idxB,u8_beqN,h',cond_false];exact h1,?_⟩
    simp only [cutC,h',h2,Bool.false_eq_true,if_false]
   ·right
    refine⟨j+1,by simp only [lC];omega,?_,?_⟩
    ·simp only [idxB,u8_beqN,h',cond_false,h1];omega
    ·simp only [cutC,h',h2,Bool.false_eq_true,if_false,List.take_succ_cons,List.drop_succ_cons]
section
variable {gt:GT} {C:CallT}
set_option maxHeartbeats 2000000 in
theorem idxByte_wp {s:List UInt8} {c:UInt8}:wpF gt C F147 [.str s,.int .u8 c.toNat] St.init (Ret (.int .i64 (idxB c s 0))):=by
 refine⟨rfl,?_⟩
 refine goW ?_
 refine⟨_,rfl,?_⟩
 rw [Int.toNat_natCast,UInt8.ofNat_toNat]
 exact Ret.sta trivial
set_option maxHeartbeats 2000000 in
theorem idx1_wp (hm:MonoC C) (hb:∀(s:List UInt8) (c:UInt8),PF C 147 [.str s,.int .u8 c.toNat] (.int .i64 (idxB c s 0))) {s:List UInt8}:wpF gt C F131 [.str s,.str [84]] St.init (Ret (.int .i64 (idxB 84 s 0))):=by
 refine⟨rfl,?_⟩
 refine goW ?_
 by_cases h:([84]:List UInt8)=s
 ·rw [beqB_true h]
  subst h
  refine goW ?_
  exact⟨_,rfl,Ret.sta (u:=.int .i64 0) trivial⟩
 ·rw [beqB_false h]
  refine goW ?_
  refine call_pf hm (by rfl) (hb s 84) (goW ?_)
  exact⟨_,rfl,Ret.sta trivial⟩
set_option maxHeartbeats 2000000 in
theorem cutL_wp (hm:MonoC C) (hi:∀s:List UInt8,PF C 131 [.str s,.str [84]] (.int .i64 (idxB 84 s 0))) {s:List UInt8} (hl:s.length<4611686018427387904) :
  wpF gt C F108 [.str s,.str [84]] St.init (Ret (.tup [.str (cutC 84 s).1,.str (cutC 84 s).2.1,.bool (cutC 84 s).2.2])):=by
 have hi:=hi s
 have hc:=cutC_idx 84 s 0
 refine⟨rfl,?_⟩
 refine goW ?_
 refine call_pf hm (by rfl) hi ?_
 rcases hc with⟨h1,h2⟩ | ⟨j,hj,h1,h2⟩
 ·rw [h1,h2]
  refine goW ?_
  exact⟨_,rfl,Ret.sta ⟨trivial,trivial,trivial,trivial⟩⟩
 ·rw [h1,h2,Nat.zero_add]
  refine goW ?_
  rw [dT (show (j:Int) ≥ 0 by omega)]
  refine goW ?_
  refine step_ruleDO rfl rfl (sx_slHiS (h:=j) rfl rfl (by omega)) (goW ?_)
  rw [show wr .i64 ((j:Int)+(([84]:List UInt8).length:Int))=((j+1:Nat):Int) from wrNat (by omega)]
  refine step_ruleDO rfl rfl (sx_slLo (l:=j+1) rfl rfl (by omega)) (goW ?_)
  exact⟨_,rfl,Ret.sta ⟨trivial,trivial,trivial,trivial⟩⟩
set_option maxHeartbeats 2000000 in
theorem cutS_wp (hm:MonoC C) {s:List UInt8} (h:PF C 108 [.str s,.str [84]] (.tup [.str (cutC 84 s).1,.str (cutC 84 s).2.1,.bool (cutC 84 s).2.2])) :
  wpF gt C F86 [.str s,.str [84]] St.init (Ret (.tup [.str (cutC 84 s).1,.str (cutC 84 s).2.1,.bool (cutC 84 s).2.2])):=by
 generalize cutC 84 s=q at h ⊢
 obtain⟨a,b,c⟩:=q
 refine⟨rfl,?_⟩
 refine goW ?_
 refine call_pf hm (by rfl) h (goW ?_)
 exact⟨_,rfl,Ret.sta ⟨trivial,trivial,trivial,trivial⟩⟩
end
end Go.Dn

namespace Go.Proofs.YtbojekglccdajaaGreatDoor
open Go.Shelf
def Tryz.lays161_ren:Go.Shelf.Ren:=⟨fun | 161=>111 | 231=>123 | 227=>125 | 233=>126 | 235=>128 | 228=>143 | 197=>144 | 151=>145 | 260=>158 | 152=>159 | 137=>173 | 119=>174 | 224=>149 | 225=>148 | 217=>147 | 266=>161 | n=>n,fun | 9=>9 | 4=>4 | 3=>3 | 5=>5 | 117=>158 | 116=>157 | 0=>0 | 124=>161 | 105=>167 | 21=>21 | 119=>190 | 46=>140 | 139=>193 | 138=>192 | n=>n,fun | 3=>1 | 4=>2 | n=>n⟩
theorem Tryz.lays161:Go.Proofs.Lays.n161 Tryz.prog Tryz.lays161_ren where
 mixed:=by kernel_rfl
 f119:=Tryz.func174.trans (congrArg some (by kernel_rfl))
 f137:=Tryz.func173.trans (congrArg some (by kernel_rfl))
 f151:=Tryz.func145.trans (congrArg some (by kernel_rfl))
 f152:=Tryz.func159.trans (congrArg some (by kernel_rfl))
 f161:=Tryz.func111.trans (congrArg some (by kernel_rfl))
 f197:=Tryz.func144.trans (congrArg some (by kernel_rfl))
 f217:=Tryz.func147.trans (congrArg some (by kernel_rfl))
 f224:=Tryz.func149.trans (congrArg some (by kernel_rfl))
 f225:=Tryz.func148.trans (congrArg some (by kernel_rfl))
 f227:=Tryz.func125.trans (congrArg some (by kernel_rfl))
 f228:=Tryz.func143.trans (congrArg some (by kernel_rfl))
 f231:=Tryz.func123.trans (congrArg some (by kernel_rfl))
 f233:=Tryz.func126.trans (congrArg some (by kernel_rfl))
 f235:=Tryz.func128.trans (congrArg some (by kernel_rfl))
 f260:=Tryz.func158.trans (congrArg some (by kernel_rfl))
 f266:=Tryz.func161.trans (congrArg some (by kernel_rfl))
 t0:=Tryz.underlying0
 a0:=Tryz.isAgg0
 z0:=Tryz.sizeOf0
 v0:=Tryz.zeroValue0
 t3:=Tryz.underlying3
 a3:=Tryz.isAgg3
 z3:=Tryz.sizeOf3
 v3:=Tryz.zeroValue3
 t4:=Tryz.underlying4
 a4:=Tryz.isAgg4
 z4:=Tryz.sizeOf4
 v4:=Tryz.zeroValue4
 t5:=Tryz.underlying5
 a5:=Tryz.isAgg5
 z5:=Tryz.sizeOf5
 v5:=Tryz.zeroValue5
 t9:=Tryz.underlying9
 a9:=Tryz.isAgg9
 z9:=Tryz.sizeOf9
 v9:=Tryz.zeroValue9
 t21:=Tryz.underlying21
 a21:=Tryz.isAgg21
 z21:=Tryz.sizeOf21
 v21:=Tryz.zeroValue21
 t46:=Tryz.underlying140
 a46:=Tryz.isAgg140
 z46:=Tryz.sizeOf140
 v46:=Tryz.zeroValue140
 t105:=Tryz.underlying167
 a105:=Tryz.isAgg167
 z105:=Tryz.sizeOf167
 v105:=Tryz.zeroValue167
 t116:=Tryz.underlying157
 a116:=Tryz.isAgg157
 z116:=Tryz.sizeOf157
 t117:=Tryz.underlying158
 a117:=Tryz.isAgg158
 z117:=Tryz.sizeOf158
 v117:=Tryz.zeroValue158
 t119:=Tryz.underlying190
 a119:=Tryz.isAgg190
 z119:=Tryz.sizeOf190
 t124:=Tryz.underlying161
 a124:=Tryz.isAgg161
 z124:=Tryz.sizeOf161
 v124:=Tryz.zeroValue161
 t138:=Tryz.underlying192
 a138:=Tryz.isAgg192
 z138:=Tryz.sizeOf192
 v138:=Tryz.zeroValue192
 t139:=Tryz.underlying193
 a139:=Tryz.isAgg193
 z139:=Tryz.sizeOf193
 v139:=Tryz.zeroValue193
 g3:=by kernel_rfl
 g4:=by kernel_rfl
def Tryz.lays162_ren:Go.Shelf.Ren:=⟨fun | 162=>112 | 232=>124 | 227=>125 | 234=>127 | 236=>129 | 228=>143 | 271=>146 | 151=>145 | 120=>160 | 197=>144 | 152=>159 | 260=>158 | 137=>173 | 119=>174 | 224=>149 | 225=>148 | 217=>147 | 266=>161 | n=>n,fun | 9=>9 | 4=>4 | 3=>3 | 5=>5 | 117=>158 | 116=>157 | 0=>0 | 124=>161 | 21=>21 | 105=>167 | 46=>140 | 119=>190 | 139=>193 | 138=>192 | n=>n,fun | 3=>1 | 4=>2 | n=>n⟩
theorem Tryz.lays162:Go.Proofs.Lays.n162 Tryz.prog Tryz.lays162_ren where
 mixed:=by kernel_rfl
 f119:=Tryz.func174.trans (congrArg some (by kernel_rfl))
 f120:=Tryz.func160.trans (congrArg some (by kernel_rfl))
 f137:=Tryz.func173.trans (congrArg some (by kernel_rfl))
 f151:=Tryz.func145.trans (congrArg some (by kernel_rfl))
 f152:=Tryz.func159.trans (congrArg some (by kernel_rfl))
 f162:=Tryz.func112.trans (congrArg some (by kernel_rfl))
 f197:=Tryz.func144.trans (congrArg some (by kernel_rfl))
 f217:=Tryz.func147.trans (congrArg some (by kernel_rfl))
 f224:=Tryz.func149.trans (congrArg some (by kernel_rfl))
 f225:=Tryz.func148.trans (congrArg some (by kernel_rfl))
 f227:=Tryz.func125.trans (congrArg some (by kernel_rfl))
 f228:=Tryz.func143.trans (congrArg some (by kernel_rfl))
 f232:=Tryz.func124.trans (congrArg some (by kernel_rfl))
 f234:=Tryz.func127.trans (congrArg some (by kernel_rfl))
 f236:=Tryz.func129.trans (congrArg some (by kernel_rfl))
 f260:=Tryz.func158.trans (congrArg some (by kernel_rfl))
 f266:=Tryz.func161.trans (congrArg some (by kernel_rfl))
 f271:=Tryz.func146.trans (congrArg some (by kernel_rfl))
 t0:=Tryz.underlying0
 a0:=Tryz.isAgg0
 z0:=Tryz.sizeOf0
 v0:=Tryz.zeroValue0
 t3:=Tryz.underlying3
 a3:=Tryz.isAgg3
 z3:=Tryz.sizeOf3
 v3:=Tryz.zeroValue3
 t4:=Tryz.underlying4
 a4:=Tryz.isAgg4
 z4:=Tryz.sizeOf4
 v4:=Tryz.zeroValue4
 t5:=Tryz.underlying5
 a5:=Tryz.isAgg5
 z5:=Tryz.sizeOf5
 v5:=Tryz.zeroValue5
 t9:=Tryz.underlying9
 a9:=Tryz.isAgg9
 z9:=Tryz.sizeOf9
 v9:=Tryz.zeroValue9
 t21:=Tryz.underlying21
 a21:=Tryz.isAgg21
 z21:=Tryz.sizeOf21
 v21:=Tryz.zeroValue21
 t46:=Tryz.underlying140
 a46:=Tryz.isAgg140
 z46:=Tryz.sizeOf140
 v46:=Tryz.zeroValue140
 t105:=Tryz.underlying167
 a105:=Tryz.isAgg167
 z105:=Tryz.sizeOf167
 v105:=Tryz.zeroValue167
 t116:=Tryz.underlying157
 a116:=Tryz.isAgg157
 z116:=Tryz.sizeOf157
 t117:=Tryz.underlying158
 a117:=Tryz.isAgg158
 z117:=Tryz.sizeOf158
 v117:=Tryz.zeroValue158
 t119:=Tryz.underlying190
 a119:=Tryz.isAgg190
 z119:=Tryz.sizeOf190
 t124:=Tryz.underlying161
 a124:=Tryz.isAgg161
 z124:=Tryz.sizeOf161
 v124:=Tryz.zeroValue161
 t138:=Tryz.underlying192
 a138:=Tryz.isAgg192
 z138:=Tryz.sizeOf192
 v138:=Tryz.zeroValue192
 t139:=Tryz.underlying193
 a139:=Tryz.isAgg193
 z139:=Tryz.sizeOf193
 v139:=Tryz.zeroValue193
 g3:=by kernel_rfl
 g4:=by kernel_rfl
def Tryz.lays160_ren:Go.Shelf.Ren:=⟨fun | 160=>106 | 232=>124 | 231=>123 | 227=>125 | 234=>127 | 233=>126 | 236=>129 | 235=>128 | 228=>143 | 271=>146 | 151=>145 | 197=>144 | 120=>160 | 152=>159 | 260=>158 | 137=>173 | 119=>174 | 224=>149 | 225=>148 | 217=>147 | 266=>161 | n=>n,fun | 9=>9 | 4=>4 | 3=>3 | 5=>5 | 117=>158 | 116=>157 | 0=>0 | 124=>161 | 21=>21 | 105=>167 | 46=>140 | 119=>190 | 139=>193 | 138=>192 | n=>n,fun | 3=>1 | 4=>2 | n=>n⟩
theorem Tryz.lays160:Go.Proofs.Lays.n160 Tryz.prog Tryz.lays160_ren where
 mixed:=by kernel_rfl
 f119:=Tryz.func174.trans (congrArg some (by kernel_rfl))
 f120:=Tryz.func160.trans (congrArg some (by kernel_rfl))
 f137:=Tryz.func173.trans (congrArg some (by kernel_rfl))
 f151:=Tryz.func145.trans (congrArg some (by kernel_rfl))
 f152:=Tryz.func159.trans (congrArg some (by kernel_rfl))
 f160:=Tryz.func106.trans (congrArg some (by kernel_rfl))
 f197:=Tryz.func144.trans (congrArg some (by kernel_rfl))
 f217:=Tryz.func147.trans (congrArg some (by kernel_rfl))
 f224:=Tryz.func149.trans (congrArg some (by kernel_rfl))
 f225:=Tryz.func148.trans (congrArg some (by kernel_rfl))
 f227:=Tryz.func125.trans (congrArg some (by kernel_rfl))
 f228:=Tryz.func143.trans (congrArg some (by kernel_rfl))
 f231:=Tryz.func123.trans (congrArg some (by kernel_rfl))
 f232:=Tryz.func124.trans (congrArg some (by kernel_rfl))
 f233:=Tryz.func126.trans (congrArg some (by kernel_rfl))
 f234:=Tryz.func127.trans (congrArg some (by kernel_rfl))
 f235:=Tryz.func128.trans (congrArg some (by kernel_rfl))
 f236:=Tryz.func129.trans (congrArg some (by kernel_rfl))
 f260:=Tryz.func158.trans (congrArg some (by kernel_rfl))
 f266:=Tryz.func161.trans (congrArg some (by kernel_rfl))
 f271:=Tryz.func146.trans (congrArg some (by kernel_rfl))
 t0:=Tryz.underlying0
 a0:=Tryz.isAgg0
 z0:=Tryz.sizeOf0
 v0:=Tryz.zeroValue0
 t3:=Tryz.underlying3
 a3:=Tryz.isAgg3
 z3:=Tryz.sizeOf3
 v3:=Tryz.zeroValue3
 t4:=Tryz.underlying4
 a4:=Tryz.isAgg4
 z4:=Tryz.sizeOf4
 v4:=Tryz.zeroValue4
 t5:=Tryz.underlying5
 a5:=Tryz.isAgg5
 z5:=Tryz.sizeOf5
 v5:=Tryz.zeroValue5
 t9:=Tryz.underlying9
 a9:=Tryz.isAgg9
 z9:=Tryz.sizeOf9
 v9:=Tryz.zeroValue9
 t21:=Tryz.underlying21
 a21:=Tryz.isAgg21
 z21:=Tryz.sizeOf21
 v21:=Tryz.zeroValue21
 t46:=Tryz.underlying140
 a46:=Tryz.isAgg140
 z46:=Tryz.sizeOf140
 v46:=Tryz.zeroValue140
 t105:=Tryz.underlying167
 a105:=Tryz.isAgg167
 z105:=Tryz.sizeOf167
 v105:=Tryz.zeroValue167
 t116:=Tryz.underlying157
 a116:=Tryz.isAgg157
 z116:=Tryz.sizeOf157
 t117:=Tryz.underlying158
 a117:=Tryz.isAgg158
 z117:=Tryz.sizeOf158
 v117:=Tryz.zeroValue158
 t119:=Tryz.underlying190
 a119:=Tryz.isAgg190
 z119:=Tryz.sizeOf190
 t124:=Tryz.underlying161
 a124:=Tryz.isAgg161
 z124:=Tryz.sizeOf161
 v124:=Tryz.zeroValue161
 t138:=Tryz.underlying192
 a138:=Tryz.isAgg192
 z138:=Tryz.sizeOf192
 v138:=Tryz.zeroValue192
 t139:=Tryz.underlying193
 a139:=Tryz.isAgg193
 z139:=Tryz.sizeOf193
 v139:=Tryz.zeroValue193
 g3:=by kernel_rfl
 g4:=by kernel_rfl
def Tryz.lays172_ren:Go.Shelf.Ren:=⟨fun | 172=>134 | 244=>153 | 245=>154 | 247=>163 | 279=>164 | 280=>165 | 281=>166 | 282=>167 | 287=>175 | 316=>176 | 171=>114 | 205=>177 | 321=>183 | 322=>184 | 243=>136 | 246=>155 | 283=>168 | 284=>169 | 285=>170 | 286=>171 | 129=>179 | 317=>178 | 318=>180 | 319=>181 | 320=>182 | 337=>185 | 338=>186 | n=>n,fun | 9=>9 | 3=>3 | 75=>60 | 76=>162 | 4=>4 | 5=>5 | 167=>179 | 37=>141 | 0=>0 | 85=>180 | 2=>2 | 168=>182 | 53=>166 | 175=>195 | 46=>140 | 210=>199 | 127=>206 | 145=>209 | 143=>207 | 21=>21 | 171=>185 | 173=>188 | 212=>202 | 51=>176 | 20=>20 | 213=>203 | 232=>211 | 233=>212 | 80=>94 | n=>n,fun | 15=>3 | 16=>4 | 17=>5 | 18=>6 | 19=>7 | n=>n⟩
theorem Tryz.lays172:Go.Proofs.Lays.n172 Tryz.prog Tryz.lays172_ren where
 mixed:=by kernel_rfl
 f129:=Tryz.func179.trans (congrArg some (by kernel_rfl))
 f171:=Tryz.func114.trans (congrArg some (by kernel_rfl))
 f172:=Tryz.func134.trans (congrArg some (by kernel_rfl))
 f205:=Tryz.func177.trans (congrArg some (by kernel_rfl))
 f243:=Tryz.func136.trans (congrArg some (by kernel_rfl))
 f244:=Tryz.func153.trans (congrArg some (by kernel_rfl))
 f245:=Tryz.func154.trans (congrArg some (by kernel_rfl))
 f246:=Tryz.func155.trans (congrArg some (by kernel_rfl))
 f247:=Tryz.func163.trans (congrArg some (by kernel_rfl))
 f279:=Tryz.func164.trans (congrArg some (by kernel_rfl))
 f280:=Tryz.func165.trans (congrArg some (by kernel_rfl))
 f281:=Tryz.func166.trans (congrArg some (by kernel_rfl))
 f282:=Tryz.func167.trans (congrArg some (by kernel_rfl))
 f283:=Tryz.func168.trans (congrArg some (by kernel_rfl))
 f284:=Tryz.func169.trans (congrArg some (by kernel_rfl))
 f285:=Tryz.func170.trans (congrArg some (by kernel_rfl))
 f286:=Tryz.func171.trans (congrArg some (by kernel_rfl))
 f287:=Tryz.func175.trans (congrArg some (by kernel_rfl))
 f316:=Tryz.func176.trans (congrArg some (by kernel_rfl))
 f317:=Tryz.func178.trans (congrArg some (by kernel_rfl))
 f318:=Tryz.func180.trans (congrArg some (by kernel_rfl))
 f319:=Tryz.func181.trans (congrArg some (by kernel_rfl))
 f320:=Tryz.func182.trans (congrArg some (by kernel_rfl))
 f321:=Tryz.func183.trans (congrArg some (by kernel_rfl))
 f322:=Tryz.func184.trans (congrArg some (by kernel_rfl))
 f337:=Tryz.func185.trans (congrArg some (by kernel_rfl))
 f338:=Tryz.func186.trans (congrArg some (by kernel_rfl))
 t0:=Tryz.underlying0
 a0:=Tryz.isAgg0
 z0:=Tryz.sizeOf0
 v0:=Tryz.zeroValue0
 t2:=Tryz.underlying2
 a2:=Tryz.isAgg2
 z2:=Tryz.sizeOf2
 v2:=Tryz.zeroValue2
 t3:=Tryz.underlying3
 a3:=Tryz.isAgg3
 z3:=Tryz.sizeOf3
 v3:=Tryz.zeroValue3
 t4:=Tryz.underlying4
 a4:=Tryz.isAgg4
 z4:=Tryz.sizeOf4
 v4:=Tryz.zeroValue4
 t5:=Tryz.underlying5
 a5:=Tryz.isAgg5
 z5:=Tryz.sizeOf5
 v5:=Tryz.zeroValue5
 t9:=Tryz.underlying9
 a9:=Tryz.isAgg9
 z9:=Tryz.sizeOf9
 v9:=Tryz.zeroValue9
 t20:=Tryz.underlying20
 a20:=Tryz.isAgg20
 z20:=Tryz.sizeOf20
 v20:=Tryz.zeroValue20
 t21:=Tryz.underlying21
 a21:=Tryz.isAgg21
 z21:=Tryz.sizeOf21
 v21:=Tryz.zeroValue21
 t37:=Tryz.underlying141
 a37:=Tryz.isAgg141
 z37:=Tryz.sizeOf141
 v37:=Tryz.zeroValue141
 t46:=Tryz.underlying140
 a46:=Tryz.isAgg140
 z46:=Tryz.sizeOf140
 v46:=Tryz.zeroValue140
 t51:=Tryz.underlying176
 a51:=Tryz.isAgg176
 z51:=Tryz.sizeOf176
 v51:=Tryz.zeroValue176
 t53:=Tryz.underlying166
 a53:=Tryz.isAgg166
 z53:=Tryz.sizeOf166
 v53:=Tryz.zeroValue166
 t75:=Tryz.underlying60
 a75:=Tryz.isAgg60
 z75:=Tryz.sizeOf60
 v75:=Tryz.zeroValue60
 t76:=Tryz.underlying162
 a76:=Tryz.isAgg162
 z76:=Tryz.sizeOf162
 v76:=Tryz.zeroValue162
 t85:=Tryz.underlying180
 a85:=Tryz.isAgg180
 z85:=Tryz.sizeOf180
 v85:=Tryz.zeroValue180
 t127:=Tryz.underlying206
 a127:=Tryz.isAgg206
 z127:=Tryz.sizeOf206
 v127:=Tryz.zeroValue206
 t143:=Tryz.underlying207
 a143:=Tryz.isAgg207
 z143:=Tryz.sizeOf207
 v143:=Tryz.zeroValue207
 t145:=Tryz.underlying209
 a145:=Tryz.isAgg209
 z145:=Tryz.sizeOf209
 v145:=Tryz.zeroValue209
 t167:=Tryz.underlying179
 a167:=Tryz.isAgg179
 z167:=Tryz.sizeOf179
 v167:=Tryz.zeroValue179
 t168:=Tryz.underlying182
 a168:=Tryz.isAgg182
 z168:=Tryz.sizeOf182
 v168:=Tryz.zeroValue182
 t171:=Tryz.underlying185
 a171:=Tryz.isAgg185
 z171:=Tryz.sizeOf185
 v171:=Tryz.zeroValue185
 t173:=Tryz.underlying188
 a173:=Tryz.isAgg188
 z173:=Tryz.sizeOf188
 v173:=Tryz.zeroValue188
 t175:=Tryz.underlying195
 a175:=Tryz.isAgg195
 z175:=Tryz.sizeOf195
 v175:=Tryz.zeroValue195
 t210:=Tryz.underlying199
 a210:=Tryz.isAgg199
 z210:=Tryz.sizeOf199
 v210:=Tryz.zeroValue199
 t212:=Tryz.underlying202
 a212:=Tryz.isAgg202
 z212:=Tryz.sizeOf202
 v212:=Tryz.zeroValue202
 t213:=Tryz.underlying203
 a213:=Tryz.isAgg203
 z213:=Tryz.sizeOf203
 t232:=Tryz.underlying211
 a232:=Tryz.isAgg211
 z232:=Tryz.sizeOf211
 v232:=Tryz.zeroValue211
 t233:=Tryz.underlying212
 a233:=Tryz.isAgg212
 z233:=Tryz.sizeOf212
 v233:=Tryz.zeroValue212
 g15:=by kernel_rfl
 g16:=by kernel_rfl
 g17:=by kernel_rfl
 g18:=by kernel_rfl
 g19:=by kernel_rfl
def Tryz.lays171M_ren:Go.Shelf.Ren:=⟨fun | 171=>114 | 243=>136 | 246=>155 | 283=>168 | 284=>169 | 285=>170 | 286=>171 | 129=>179 | 317=>178 | 318=>180 | 319=>181 | 320=>182 | 337=>185 | 338=>186 | n=>n,fun | 3=>3 | 9=>9 | 2=>2 | 4=>4 | 171=>185 | 0=>0 | 53=>166 | 37=>141 | 5=>5 | 173=>188 | 212=>202 | 51=>176 | 20=>20 | 213=>203 | 46=>140 | 232=>211 | 233=>212 | n=>n,fun | 17=>5 | 18=>6 | 19=>7 | n=>n⟩
theorem Tryz.lays171M:Go.Proofs.LaysM.n171 Tryz.prog Tryz.lays171M_ren where
 mixed:=by kernel_rfl
 f129:=Tryz.func179.trans (congrArg some (by kernel_rfl))
 f171:=Tryz.func114.trans (congrArg some (by kernel_rfl))
 f243:=Tryz.func136.trans (congrArg some (by kernel_rfl))
 f246:=Tryz.func155.trans (congrArg some (by kernel_rfl))
 f283:=Tryz.func168.trans (congrArg some (by kernel_rfl))
 f284:=Tryz.func169.trans (congrArg some (by kernel_rfl))
 f285:=Tryz.func170.trans (congrArg some (by kernel_rfl))
 f286:=Tryz.func171.trans (congrArg some (by kernel_rfl))
 f317:=Tryz.func178.trans (congrArg some (by kernel_rfl))
 f318:=Tryz.func180.trans (congrArg some (by kernel_rfl))
 f319:=Tryz.func181.trans (congrArg some (by kernel_rfl))
 f320:=Tryz.func182.trans (congrArg some (by kernel_rfl))
 f337:=Tryz.func185.trans (congrArg some (by kernel_rfl))
 f338:=Tryz.func186.trans (congrArg some (by kernel_rfl))
 t0:=Tryz.underlying0
 a0:=Tryz.isAgg0
 z0:=Tryz.sizeOf0
 v0:=Tryz.zeroValue0
 t2:=Tryz.underlying2
 a2:=Tryz.isAgg2
 z2:=Tryz.sizeOf2
 v2:=Tryz.zeroValue2
 t3:=Tryz.underlying3
 a3:=Tryz.isAgg3
 z3:=Tryz.sizeOf3
 v3:=Tryz.zeroValue3
 t4:=Tryz.underlying4
 a4:=Tryz.isAgg4
 z4:=Tryz.sizeOf4
 v4:=Tryz.zeroValue4
 t5:=Tryz.underlying5
 a5:=Tryz.isAgg5
 z5:=Tryz.sizeOf5
 v5:=Tryz.zeroValue5
 t9:=Tryz.underlying9
 a9:=Tryz.isAgg9
 z9:=Tryz.sizeOf9
 v9:=Tryz.zeroValue9
 t20:=Tryz.underlying20
 a20:=Tryz.isAgg20
 z20:=Tryz.sizeOf20
 v20:=Tryz.zeroValue20
 t37:=Tryz.underlying141
 a37:=Tryz.isAgg141
 z37:=Tryz.sizeOf141
 v37:=Tryz.zeroValue141
 t46:=Tryz.underlying140
 a46:=Tryz.isAgg140
 z46:=Tryz.sizeOf140
 v46:=Tryz.zeroValue140
 t51:=Tryz.underlying176
 a51:=Tryz.isAgg176
 z51:=Tryz.sizeOf176
 v51:=Tryz.zeroValue176
 t53:=Tryz.underlying166
 a53:=Tryz.isAgg166
 z53:=Tryz.sizeOf166
 v53:=Tryz.zeroValue166
 t171:=Tryz.underlying185
 a171:=Tryz.isAgg185
 z171:=Tryz.sizeOf185
 v171:=Tryz.zeroValue185
 t173:=Tryz.underlying188
 a173:=Tryz.isAgg188
 z173:=Tryz.sizeOf188
 v173:=Tryz.zeroValue188
 t212:=Tryz.underlying202
 a212:=Tryz.isAgg202
 z212:=Tryz.sizeOf202
 v212:=Tryz.zeroValue202
 t213:=Tryz.underlying203
 a213:=Tryz.isAgg203
 z213:=Tryz.sizeOf203
 t232:=Tryz.underlying211
 a232:=Tryz.isAgg211
 z232:=Tryz.sizeOf211
 v232:=Tryz.zeroValue211
 t233:=Tryz.underlying212
 a233:=Tryz.isAgg212
 z233:=Tryz.sizeOf212
 v233:=Tryz.zeroValue212
 g17:=by kernel_rfl
 g18:=by kernel_rfl
 g19:=by kernel_rfl
 i0:=by kernel_rfl
 i2:=by kernel_rfl
 i3:=by kernel_rfl
 i4:=by kernel_rfl
 i5:=by kernel_rfl
 i9:=by kernel_rfl
 i20:=by kernel_rfl
 i37:=by kernel_rfl
 i46:=by kernel_rfl
 i51:=by kernel_rfl
 i53:=by kernel_rfl
 i171:=by kernel_rfl
 i173:=by kernel_rfl
 i212:=by kernel_rfl
 i232:=by kernel_rfl
 i233:=by kernel_rfl
 m17:=by kernel_rfl
 m18:=by kernel_rfl
 m19:=by kernel_rfl
end Go.Proofs.YtbojekglccdajaaGreatDoor

namespace Go.Dn
open Go Go.RowKit
theorem PF.of_calls {P:Program} {gt:GT} {f:FuncId} {us:List AV} {u:AV} {args:List Value} {v:Value} (hb:HasBody P f)
  (ha:∀S G w vs,Rl S G w us vs→vs=args) (hv:∀S G w,Rv S G w u v)
  (h:∀w,Calls P f ⟨args⟩ w fun e w'=>e=.returned v∧Below w.heap.size w w'):PF (AC P gt) f us u:=fun S =>
 ⟨hb,fun G w vs hI hx=>by
  rw [ha S G w vs hx]
  refine (h w).mono fun e w' hp=>?_
  obtain⟨rfl,bel⟩:=hp
  exact⟨u,S,G,⟨rfl,rfl⟩,Tr.gr hI ⟨bel.os,bel.tape,bel.output,bel.size,bel.block⟩,hv S G w'⟩⟩
theorem PF.of_callsI {P:Program} {gt:GT} {f:FuncId} {us:List AV} {u:AV} {args:List Value} {v:Value} (hb:HasBody P f)
  (ha:∀S G w vs,Rl S G w us vs→vs=args) (hv:∀S G w,Rv S G w u v)
  (h:∀S G w,Inv P gt S G w→Calls P f ⟨args⟩ w fun e w'=>e=.returned v∧Below w.heap.size w w'):PF (AC P gt) f us u:=fun S =>
 ⟨hb,fun G w vs hI hx=>by
  rw [ha S G w vs hx]
  refine (h S G w hI).mono fun e w' hp=>?_
  obtain⟨rfl,bel⟩:=hp
  exact⟨u,S,G,⟨rfl,rfl⟩,Tr.gr hI ⟨bel.os,bel.tape,bel.output,bel.size,bel.block⟩,hv S G w'⟩⟩
theorem rl_str1 {S:St} {G:Gh} {w:World} {a:List UInt8} {vs:List Value} (h:Rl S G w [.str a] vs):vs=[.string ⟨a.toArray⟩]:=by
 simp only [Rl,Rv] at h
 obtain⟨v,r,rfl,hv,rfl⟩:=h
 first | (obtain⟨b,rfl,e⟩:=hv;subst e;rfl) | (subst hv;rfl)
theorem rl_str2 {S:St} {G:Gh} {w:World} {a b:List UInt8} {vs:List Value} (h:Rl S G w [.str a,.str b] vs):vs=[.string ⟨a.toArray⟩,.string ⟨b.toArray⟩]:=by
 simp only [Rl,Rv] at h
 obtain⟨v,r,rfl,hv,v2,r2,rfl,hv2,rfl⟩:=h
 first | (subst hv;subst hv2;rfl) | skip
end Go.Dn

namespace Go.Proofs.C1
open Go Go.Dn
set_option maxRecDepth 100000
noncomputable section
abbrev pF (n:Note) (f:Func):DF:=(prepF Tryz.prog n f).getD ⟨0,.ret,[]⟩
abbrev N3:Note:=⟨[],[(0,[]),(1,[1,2,3]),(2,[1,2,3,4,5,6]),(3,[1,2,3,4,5,6,7,8,9]),(4,[1,2,3,4,5,6,7,8,9,12]),(5,[1,2,3,4,5,6,7,8,9,12,14]),(6,[1,2,3,4,5,6,7,8,9,12,14,15,16,17]),(7,[0])],[]⟩
def F3:DF:=pF N3 Tryz.f3
theorem F3_ok:prepF Tryz.prog N3 Tryz.f3=some F3:=by kernel_rfl
theorem F3_fn:FnOK2 Tryz.prog 3 (.pl F3):=.pl Tryz.func3 (by kernel_rfl) F3_ok
theorem F8_ok : prepF Tryz.prog ⟨[],[(0,[0]),(1,[3]),(2,[3,4]),(3,[3,4,5]),(4,[3,4,5,6]),(5,[3,4,5,6,22]),(6,[3,4,5,6]),(7,[3,4,5,6]),(8,[3,4,5,7]),(9,[3,4,5,7,32]),(10,[3,4,5,7]),(11,[3,4,5,7]),(12,[3,4,5,8,9,10]),(13,[3,8,9,10,11,12]),(14,[3,8,9,10,11,12,53]),(15,[2]),(16,[2]),(1000000,[3,4,5,6]),(1000002,[3,4,5,7])],[]⟩ Tryz.f8 = some F8 := by kernel_rfl
theorem F8_fn:FnOK2 Tryz.prog 8 (.pl F8):=.pl Tryz.func8 (by kernel_rfl) F8_ok
theorem F11_ok : prepF Tryz.prog ⟨[],[(0,[0,1]),(1,[0,1,23]),(2,[4,5,6]),(3,[0,1,7]),(4,[0,1,7,28,29]),(5,[0,1,7,28,29,30]),(6,[0,1,7,8,28,29]),(7,[0,1,7,28,29]),(8,[0,1,7,28,29]),(9,[0,1,7,43]),(10,[4,5,6]),(11,[0,1,7,9]),(12,[0,1,7,9]),(13,[0,1,7,9,10,11]),(14,[0,1,7,9,10,11,67]),(15,[0,1,7,9,10,11,12]),(16,[0,1,7,9,10,11]),(17,[0,1,7,9,10,11,12,78]),(18,[0,1,7,9,10,11]),(19,[0,1,7,9,10,11]),(20,[0,1,7,9,10,11,106]),(21,[0,1,7,9,10,11]),(22,[4,5,6]),(1000000,[0,1,7,28,29]),(1000002,[0,1,7,9,10,11])],[]⟩ Tryz.f11 = some F11 := by kernel_rfl
theorem F11_fn:FnOK2 Tryz.prog 11 (.pl F11):=.pl Tryz.func11 (by kernel_rfl) F11_ok
abbrev N12:Note:=⟨[3],[(0,[0]),(1,[3]),(2,[2])],[]⟩
def F12:DF:=pF N12 Tryz.f12
theorem F12_ok:prepF Tryz.prog N12 Tryz.f12=some F12:=by kernel_rfl
theorem F12_fn:FnOK2 Tryz.prog 12 (.pl F12):=.pl Tryz.func12 (by kernel_rfl) F12_ok
theorem F13_ok : prepF Tryz.prog ⟨[],[(0,[0,1,2,3]),(1,[1,2,3,13]),(2,[1,2,3,13,14]),(3,[8,9]),(4,[1,2,3,13,19]),(5,[8,9]),(6,[2,3,25]),(7,[10,12]),(8,[8,9]),(9,[8,9])],[]⟩ Tryz.f13 = some F13 := by kernel_rfl
theorem F13_fn:FnOK2 Tryz.prog 13 (.pl F13):=.pl Tryz.func13 (by kernel_rfl) F13_ok
theorem F14_ok : prepF Tryz.prog ⟨[],[(0,[0,1]),(1,[0,1,10]),(2,[4]),(3,[0,1,5]),(4,[0,1,5,14]),(5,[0,1,5]),(6,[0,1,5,25]),(7,[4]),(8,[4]),(1000000,[0,1,5])],[]⟩ Tryz.f14 = some F14 := by kernel_rfl
theorem F14_fn:FnOK2 Tryz.prog 14 (.pl F14):=.pl Tryz.func14 (by kernel_rfl) F14_ok
theorem F15_ok : prepF Tryz.prog ⟨[],[(0,[0,1]),(1,[0,1,5]),(2,[0,5,11,12]),(3,[0,5,11,12,13]),(4,[0,5,6,11,12]),(5,[0,5,6,11,12,18]),(6,[0,5,11,12]),(7,[0,5,11,12]),(8,[0,5,11,12]),(9,[4]),(1000000,[0,5,11,12])],[]⟩ Tryz.f15 = some F15 := by kernel_rfl
theorem F15_fn:FnOK2 Tryz.prog 15 (.pl F15):=.pl Tryz.func15 (by kernel_rfl) F15_ok
theorem F16_ok : prepF Tryz.prog ⟨[10,11,15,16],[(0,[0,1,2]),(1,[0,1,2,7]),(2,[0,1,2,7,8]),(3,[0,2,7,8,22,23,24]),(4,[0,2,7,8,22,23,24,25]),(5,[0,2,7,8,10,22,23,24]),(6,[0,2,7,8,11,12,22,23,24]),(7,[0,2,7,8,11,12,13,22,23,24]),(8,[0,2,7,8,11,12,13,22,23,24,34,35,36]),(9,[0,2,7,8,11,12,13,22,23,24,34,35,36,37]),(10,[0,2,7,8,11,12,13,14,15,22,23,24,34,35,36]),(11,[0,2,7,8,11,12,13,14,16,17,22,23,24,34,35,36]),(12,[0,2,7,8,11,12,13,14,22,23,24,34,35,36,69]),(13,[0,2,7,8,11,12,13,14,22,23,24,34,35,36]),(14,[0,2,7,8,11,12,13,22,23,24,34,35,36]),(15,[0,2,7,8,11,12,13,22,23,24,34,35,36]),(16,[0,2,7,8,22,23,24]),(17,[0,2,7,8,22,23,24]),(18,[6]),(1000000,[0,2,7,8,22,23,24]),(1000002,[0,2,7,8,11,12,13,22,23,24,34,35,36])],[]⟩ Tryz.f16 = some F16 := by kernel_rfl
theorem F16_fn:FnOK2 Tryz.prog 16 (.pl F16):=.pl Tryz.func16 (by kernel_rfl) F16_ok
theorem F17_ok : prepF Tryz.prog ⟨[],[(0,[0,1]),(1,[0,1,5]),(2,[1,5,9,10,11]),(3,[1,5,9,10,11,12]),(4,[1,5,7,9,10,11]),(5,[1,5,7,9,10,11,16]),(6,[1,5,9,10,11,18]),(7,[4]),(8,[1,5,7,9,10,11]),(9,[1,5,9,10,11,31]),(10,[4]),(11,[1,5,9,10,11]),(12,[4]),(1000000,[1,5,9,10,11])],[]⟩ Tryz.f17 = some F17 := by kernel_rfl
theorem F17_fn:FnOK2 Tryz.prog 17 (.pl F17):=.pl Tryz.func17 (by kernel_rfl) F17_ok
theorem F25_ok : prepF Tryz.prog ⟨[],[(0,[0,1,2]),(1,[0,1,2]),(2,[0,1,2,14]),(3,[0,1]),(4,[6])],[]⟩ Tryz.f25 = some F25 := by kernel_rfl
theorem F25_fn:FnOK2 Tryz.prog 25 (.pl F25):=.pl Tryz.func25 (by kernel_rfl) F25_ok
theorem F27_ok : prepF Tryz.prog ⟨[],[(0,[0,9,10]),(1,[0,9,10,11]),(2,[0,2,9,10]),(3,[0,2,9,10,18,19]),(4,[0,2,9,10,18,19,20]),(5,[0,2,3,9,10,18,19]),(6,[0,2,9,10,18,19]),(7,[0,2,3,9,10,18,19,65]),(8,[0,2,9,10,18,19]),(9,[0,2,9,10,18,19]),(10,[0,9,10]),(1000000,[0,9,10]),(1000002,[0,2,9,10,18,19])],[]⟩ Tryz.f27 = some F27 := by kernel_rfl
theorem F27_fn:FnOK2 Tryz.prog 27 (.pl F27):=.pl Tryz.func27 (by kernel_rfl) F27_ok
theorem F28_ok : prepF Tryz.prog ⟨[],[(0,[0,1,2]),(1,[23]),(2,[6]),(3,[6])],[]⟩ Tryz.f28 = some F28 := by kernel_rfl
theorem F28_fn:FnOK2 Tryz.prog 28 (.pl F28):=.pl Tryz.func28 (by kernel_rfl) F28_ok
abbrev N29:Note:=⟨[2],[(0,[1,2]),(1,[1,2,4]),(2,[2,4,5]),(3,[2,4,5,10]),(4,[2,3]),(5,[2,3])],[]⟩
def F29:DF:=pF N29 Tryz.f29
theorem F29_ok:prepF Tryz.prog N29 Tryz.f29=some F29:=by kernel_rfl
theorem F29_fn:FnOK2 Tryz.prog 29 (.pl F29):=.pl Tryz.func29 (by kernel_rfl) F29_ok
theorem F30_ok : prepF Tryz.prog ⟨[2,4],[(0,[1,2,4]),(1,[1,2,4,10]),(2,[4,5]),(3,[1,2,4,13,14,15]),(4,[1,2,4,13,14,15,16]),(5,[1,2,4,6,7,13,14,15]),(6,[1,2,4,6,13,14,15,29]),(7,[4,5]),(8,[1,2,4,13,14,15]),(9,[4,5]),(1000000,[1,2,4,13,14,15])],[(7,[(some 2),(some 2),none,none,none,(some 2),(some 2),none,none,none,none,none,(some 4),none])]⟩ Tryz.f30 = some F30 := by kernel_rfl
theorem F30_fn:FnOK2 Tryz.prog 30 (.pl F30):=.pl Tryz.func30 (by kernel_rfl) F30_ok
theorem F31_ok : prepF Tryz.prog ⟨[2,3],[(0,[2,3]),(1,[2,3,12]),(2,[4]),(3,[4])],[(3,[(some 2),none,(some 3),none,none,none])]⟩ Tryz.f31 = some F31 := by kernel_rfl
theorem F31_fn:FnOK2 Tryz.prog 31 (.pl F31):=.pl Tryz.func31 (by kernel_rfl) F31_ok
theorem F37_ok : prepD Tryz.prog ⟨[],[(0,[0,1,4]),(1,[0,1,4,8]),(2,[4]),(3,[0,1,4,5]),(4,[0,1,4,5,14]),(5,[4]),(6,[0,1,4]),(7,[4]),(8,[4])],[]⟩ Tryz.f37 = some F37 := by kernel_rfl
theorem F37_fn : FnOK2 Tryz.prog 37 (.df F37) := .df Tryz.func37 (by kernel_rfl) F37_ok
abbrev N38:Note:=⟨[4],[(0,[1,2,4]),(1,[1,2,4]),(2,[2,4]),(3,[2,4]),(4,[4,20]),(5,[])],[(4,[(some 4),(some 4),none,none,none,none,none,none])]⟩
def F38:DF:=pF N38 Tryz.f38
theorem F38_ok:prepF Tryz.prog N38 Tryz.f38=some F38:=by kernel_rfl
theorem F38_fn:FnOK2 Tryz.prog 38 (.pl F38):=.pl Tryz.func38 (by kernel_rfl) F38_ok
abbrev N39:Note:=⟨[1],[(0,[1]),(1,[])],[]⟩
def F39:DF:=pF N39 Tryz.f39
theorem F39_ok:prepF Tryz.prog N39 Tryz.f39=some F39:=by kernel_rfl
theorem F39_fn:FnOK2 Tryz.prog 39 (.pl F39):=.pl Tryz.func39 (by kernel_rfl) F39_ok
abbrev N40:Note:=⟨[2,4,7],[(0,[1,2,4]),(1,[1,2,4,5]),(2,[1,2,4,5,13]),(3,[2,4]),(4,[4]),(5,[1,2,4,5,26]),(6,[1,2,4]),(7,[4]),(8,[1,2,4,5,38]),(9,[1,2,4]),(10,[4]),(11,[1,2,4,5,50]),(12,[1,2,4,5]),(13,[1,2,4,5,6]),(14,[1,2,4,5,6,67]),(15,[1,2,4,5,6]),(16,[4,6]),(17,[4]),(18,[1,2,4,5,7]),(19,[4,7]),(20,[4])],[]⟩
def F40:DF:=pF N40 Tryz.f40
theorem F40_ok:prepF Tryz.prog N40 Tryz.f40=some F40:=by kernel_rfl
theorem F40_fn:FnOK2 Tryz.prog 40 (.pl F40):=.pl Tryz.func40 (by kernel_rfl) F40_ok
abbrev N41:Note:=⟨[],[(0,[0,11]),(1,[0]),(2,[])],[]⟩
def F41:DF:=pF N41 Tryz.f41
theorem F41_ok:prepF Tryz.prog N41 Tryz.f41=some F41:=by kernel_rfl
theorem F41_fn:FnOK2 Tryz.prog 41 (.pl F41):=.pl Tryz.func41 (by kernel_rfl) F41_ok
theorem F42_ok : prepF Tryz.prog ⟨[],[(0,[0]),(1,[2])],[]⟩ Tryz.f42 = some F42 := by kernel_rfl
theorem F42_fn:FnOK2 Tryz.prog 42 (.pl F42):=.pl Tryz.func42 (by kernel_rfl) F42_ok
theorem F43_ok : prepF Tryz.prog ⟨[1,4],[(0,[1]),(1,[1,9,10,11]),(2,[1,9,10,11,12]),(3,[1,4,9,10,11]),(4,[1,9,10,11,17]),(5,[2]),(6,[1,9,10,11]),(7,[1,5]),(8,[1,5,30]),(9,[1,5,30,31]),(10,[2]),(11,[1,5,30,39]),(12,[2]),(13,[1,5,30,52]),(14,[1,5,6,7]),(15,[2]),(16,[1,5,30,71]),(17,[2]),(18,[1,5,30,79]),(19,[2]),(20,[1,30,87]),(21,[2]),(22,[1,98]),(23,[2]),(24,[2]),(1000000,[1,9,10,11])],[]⟩ Tryz.f43 = some F43 := by kernel_rfl
theorem F43_fn:FnOK2 Tryz.prog 43 (.pl F43):=.pl Tryz.func43 (by kernel_rfl) F43_ok
theorem F44_ok : prepF Tryz.prog ⟨[2,3],[(0,[2,3]),(1,[4])],[]⟩ Tryz.f44 = some F44 := by kernel_rfl
theorem F44_fn:FnOK2 Tryz.prog 44 (.pl F44):=.pl Tryz.func44 (by kernel_rfl) F44_ok
theorem F45_ok : prepF Tryz.prog ⟨[1,2,3,5],[(0,[1,2]),(1,[1,2,3]),(2,[1,2,3,24]),(3,[1,2,3]),(4,[2,3,32,33,34]),(5,[2,3,32,33,34,35]),(6,[2,3,5,32,33,34]),(7,[2,3,32,33,34]),(8,[2,3,32,33,34]),(9,[2]),(10,[1,2,3,49,50,51]),(11,[1,2,3,49,50,51,52]),(12,[1,2,3,7,49,50,51]),(13,[1,2,3,7,49,50,51]),(14,[1,2,3,49,50,51]),(15,[1,2,3,49,50,51]),(16,[2]),(1000000,[2,3,32,33,34]),(1000002,[1,2,3,49,50,51])],[(14,[(some 3),(some 3),(some 1),(some 1),none,none,none,none,none,none,(some 3),(some 3)]),(13,[(some 3),(some 3),(some 1),(some 1),none,none,none,none,none,(some 3),(some 3)]),(7,[(some 3),(some 3),(some 5),none,none,none,(some 3),(some 3)])]⟩ Tryz.f45 = some F45 := by kernel_rfl
theorem F45_fn:FnOK2 Tryz.prog 45 (.pl F45):=.pl Tryz.func45 (by kernel_rfl) F45_ok
abbrev N52:Note:=⟨[],[(0,[0,1]),(1,[4])],[]⟩
def F52:DF:=pF N52 Tryz.f52
theorem F52_ok:prepF Tryz.prog N52 Tryz.f52=some F52:=by kernel_rfl
theorem F52_fn:FnOK2 Tryz.prog 52 (.pl F52):=.pl Tryz.func52 (by kernel_rfl) F52_ok
theorem F53_ok : prepF Tryz.prog ⟨[],[(0,[0]),(1,[0,3]),(2,[0,3,9]),(3,[0,3,5]),(4,[0,3,5,18]),(5,[2]),(6,[0,3]),(7,[2]),(1000000,[0,3])],[]⟩ Tryz.f53 = some F53 := by kernel_rfl
theorem F53_fn:FnOK2 Tryz.prog 53 (.pl F53):=.pl Tryz.func53 (by kernel_rfl) F53_ok
theorem F54_ok : prepG Tryz.prog ⟨[],[(0,[0,1]),(1,[0,1,6]),(2,[0,1,2,3]),(3,[0,1,2,13]),(4,[0,2]),(5,[])],[]⟩ Tryz.f54 = some F54 := by kernel_rfl
theorem F54_fn : FnOK2 Tryz.prog 54 (.rc F54) := .rc Tryz.func54 (by kernel_rfl) F54_ok
abbrev N55:Note:=⟨[],[(0,[0,1]),(1,[0,1,5]),(2,[0,1,5,32]),(3,[0,1,5]),(4,[4]),(1000000,[0,1,5])],[]⟩
def F55:DF:=pF N55 Tryz.f55
theorem F55_ok:prepF Tryz.prog N55 Tryz.f55=some F55:=by kernel_rfl
theorem F55_fn:FnOK2 Tryz.prog 55 (.pl F55):=.pl Tryz.func55 (by kernel_rfl) F55_ok
abbrev N56:Note:=⟨[],[(0,[0]),(1,[2])],[]⟩
def F56:DF:=pF N56 Tryz.f56
theorem F56_ok:prepF Tryz.prog N56 Tryz.f56=some F56:=by kernel_rfl
theorem F56_fn:FnOK2 Tryz.prog 56 (.pl F56):=.pl Tryz.func56 (by kernel_rfl) F56_ok
abbrev N57:Note:=⟨[],[(0,[0,1]),(1,[4])],[]⟩
def F57:DF:=pF N57 Tryz.f57
theorem F57_ok:prepF Tryz.prog N57 Tryz.f57=some F57:=by kernel_rfl
theorem F57_fn:FnOK2 Tryz.prog 57 (.pl F57):=.pl Tryz.func57 (by kernel_rfl) F57_ok
abbrev N58:Note:=⟨[],[(0,[0,1,3,9]),(1,[0,1,3]),(2,[0,1]),(3,[1,24]),(4,[])],[]⟩
def F58:DF:=pF N58 Tryz.f58
theorem F58_ok:prepF Tryz.prog N58 Tryz.f58=some F58:=by kernel_rfl
theorem F58_fn:FnOK2 Tryz.prog 58 (.pl F58):=.pl Tryz.func58 (by kernel_rfl) F58_ok
abbrev N59:Note:=⟨[],[(0,[0]),(1,[0,3,4,5]),(2,[0,3,4,5,21]),(3,[0,3,4]),(4,[3]),(5,[2])],[]⟩
def F59:DF:=pF N59 Tryz.f59
theorem F59_ok:prepF Tryz.prog N59 Tryz.f59=some F59:=by kernel_rfl
theorem F59_fn:FnOK2 Tryz.prog 59 (.pl F59):=.pl Tryz.func59 (by kernel_rfl) F59_ok
abbrev N60:Note:=⟨[2,4,5],[(0,[1,2,4]),(1,[1,2,4,5]),(2,[1,2,4,5]),(3,[1,2,4,5]),(4,[1,2,4,5,14]),(5,[4,5]),(6,[4]),(7,[1,2,4,5]),(8,[1,2,4,5]),(9,[1,2,4,5]),(10,[1,2,4,5,40]),(11,[4,5]),(12,[4]),(13,[1,2,4,5]),(1000000,[1,2,4,5])],[(8,[(some 5),(some 5),(some 2),none,none,none,none,none,(some 5),(some 5)])]⟩
def F60:DF:=pF N60 Tryz.f60
theorem F60_ok:prepF Tryz.prog N60 Tryz.f60=some F60:=by kernel_rfl
theorem F60_fn:FnOK2 Tryz.prog 60 (.pl F60):=.pl Tryz.func60 (by kernel_rfl) F60_ok
abbrev N61:Note:=⟨[2,4,5],[(0,[1,2,4]),(1,[1,2,4,5]),(2,[1,2,4,5,6]),(3,[1,2,4,5,6]),(4,[1,2,4,5,6]),(5,[1,2,4,5,6,18]),(6,[4,5]),(7,[4]),(8,[1,2,4,5,6]),(9,[1,2,4,5,6,7]),(10,[1,2,4,5,6,7,38]),(11,[1,2,4,5,6,7]),(12,[1,2,4,5,6,7,8]),(13,[1,2,4,5,6,7,8]),(14,[1,2,4,5,6,7,8,52]),(15,[1,2,4,5,6,8]),(16,[1,2,4,5,6,8]),(17,[1,2,4,5,6,8]),(18,[1,2,4,5,6,8]),(19,[1,2,4,5,6]),(20,[1,2,4,5,6]),(21,[1,2,4,5,6]),(22,[1,2,4,5,6,82]),(23,[4,5]),(24,[4]),(25,[1,2,4,5,6]),(1000000,[1,2,4,5,6])],[(20,[(some 5),(some 5),(some 2),none,none,none,none,none,(some 5),(some 5)])]⟩
def F61:DF:=pF N61 Tryz.f61
theorem F61_ok:prepF Tryz.prog N61 Tryz.f61=some F61:=by kernel_rfl
theorem F61_fn:FnOK2 Tryz.prog 61 (.pl F61):=.pl Tryz.func61 (by kernel_rfl) F61_ok
abbrev N62:Note:=⟨[],[(0,[0]),(1,[2])],[]⟩
def F62:DF:=pF N62 Tryz.f62
theorem F62_ok:prepF Tryz.prog N62 Tryz.f62=some F62:=by kernel_rfl
theorem F62_fn:FnOK2 Tryz.prog 62 (.pl F62):=.pl Tryz.func62 (by kernel_rfl) F62_ok
abbrev N63:Note:=⟨[],[(0,[0]),(1,[2])],[]⟩
def F63:DF:=pF N63 Tryz.f63
theorem F63_ok:prepF Tryz.prog N63 Tryz.f63=some F63:=by kernel_rfl
theorem F63_fn:FnOK2 Tryz.prog 63 (.pl F63):=.pl Tryz.func63 (by kernel_rfl) F63_ok
theorem F64_ok : prepF Tryz.prog ⟨[],[(0,[0]),(1,[0,11]),(2,[2]),(3,[0]),(4,[3,4,5]),(5,[2])],[]⟩ Tryz.f64 = some F64 := by kernel_rfl
theorem F64_fn:FnOK2 Tryz.prog 64 (.pl F64):=.pl Tryz.func64 (by kernel_rfl) F64_ok
abbrev N65:Note:=⟨[],[(0,[])],[]⟩
def F65:DF:=pF N65 Tryz.f65
theorem F65_ok:prepF Tryz.prog N65 Tryz.f65=some F65:=by kernel_rfl
theorem F65_fn:FnOK2 Tryz.prog 65 (.pl F65):=.pl Tryz.func65 (by kernel_rfl) F65_ok
abbrev N66:Note:=⟨[2],[(0,[0,2]),(1,[0,2,3]),(2,[0,2,3,11]),(3,[2,3,4,5]),(4,[2,3,4,5,53]),(5,[2,4]),(6,[2]),(7,[0,2,3,59]),(8,[0,2,3,6]),(9,[0,2,3,6,84]),(10,[0,2,3,6,84,85]),(11,[2]),(12,[0,2,3,6,84,88]),(13,[0,2,3,6,88]),(14,[2]),(15,[0,2]),(16,[2]),(17,[2])],[]⟩
def F66:DF:=pF N66 Tryz.f66
theorem F66_ok:prepF Tryz.prog N66 Tryz.f66=some F66:=by kernel_rfl
theorem F66_fn:FnOK2 Tryz.prog 66 (.pl F66):=.pl Tryz.func66 (by kernel_rfl) F66_ok
theorem F67_ok : prepF Tryz.prog ⟨[4],[(0,[0]),(1,[4,5]),(2,[4,5,12]),(3,[2,3]),(4,[2,3])],[]⟩ Tryz.f67 = some F67 := by kernel_rfl
theorem F67_fn:FnOK2 Tryz.prog 67 (.pl F67):=.pl Tryz.func67 (by kernel_rfl) F67_ok
theorem F68_ok : prepF Tryz.prog ⟨[],[(0,[0]),(1,[2])],[]⟩ Tryz.f68 = some F68 := by kernel_rfl
theorem F68_fn:FnOK2 Tryz.prog 68 (.pl F68):=.pl Tryz.func68 (by kernel_rfl) F68_ok
theorem F69_ok : prepF Tryz.prog ⟨[],[(0,[0]),(1,[0,3]),(2,[3,7,8,9]),(3,[3,7,8,9,10]),(4,[3,5,7,8,9]),(5,[3,5,7,8,9]),(6,[3,7,8,9,25]),(7,[2]),(8,[3,7,8,9]),(9,[2]),(1000000,[3,7,8,9])],[]⟩ Tryz.f69 = some F69 := by kernel_rfl
theorem F69_fn:FnOK2 Tryz.prog 69 (.pl F69):=.pl Tryz.func69 (by kernel_rfl) F69_ok
theorem F70_ok : prepF Tryz.prog ⟨[],[(0,[0,1]),(1,[0,1,10]),(2,[4]),(3,[0,1,12,13]),(4,[0,1,12,13,14]),(5,[0,1,5,12,13]),(6,[0,1,12,13,24]),(7,[4]),(8,[0,1,12,13]),(9,[4]),(1000000,[0,1,12,13])],[]⟩ Tryz.f70 = some F70 := by kernel_rfl
theorem F70_fn:FnOK2 Tryz.prog 70 (.pl F70):=.pl Tryz.func70 (by kernel_rfl) F70_ok
theorem F71_ok : prepF Tryz.prog ⟨[8,9],[(0,[0,1,2]),(1,[0,1,2,14]),(2,[6]),(3,[1,2,15,16,17]),(4,[1,2,15,16,17,18]),(5,[1,2,7,8,15,16,17]),(6,[1,2,8,9,15,16,17]),(7,[1,2,15,16,17,30]),(8,[6]),(9,[1,2,15,16,17]),(10,[6]),(1000000,[1,2,15,16,17])],[]⟩ Tryz.f71 = some F71 := by kernel_rfl
theorem F71_fn:FnOK2 Tryz.prog 71 (.pl F71):=.pl Tryz.func71 (by kernel_rfl) F71_ok
theorem F72_ok : prepF Tryz.prog ⟨[],[(0,[1]),(1,[1,3]),(2,[1,3,9,10]),(3,[1,3,9,10,11]),(4,[1,3,4,9,10]),(5,[1,3,9,10]),(6,[1,3,9,10]),(7,[3]),(8,[2]),(1000000,[1,3,9,10])],[]⟩ Tryz.f72 = some F72 := by kernel_rfl
theorem F72_fn:FnOK2 Tryz.prog 72 (.pl F72):=.pl Tryz.func72 (by kernel_rfl) F72_ok
theorem F78_ok : prepF Tryz.prog ⟨[],[(0,[0]),(1,[0,7]),(2,[2,3]),(3,[0,2,3,4]),(4,[0,2,3,4,22]),(5,[2,3]),(6,[0,2,3,4,5]),(7,[0,2,3,4,5,25]),(8,[0,2,3,4,5]),(9,[0,2,3,4,5,32]),(10,[2,3]),(11,[0,2,3,4,5]),(12,[2,3,48]),(13,[2,3]),(14,[2,3]),(1000000,[0,2,3,4,5])],[]⟩ Tryz.f78 = some F78 := by kernel_rfl
theorem F78_fn:FnOK2 Tryz.prog 78 (.pl F78):=.pl Tryz.func78 (by kernel_rfl) F78_ok
abbrev N79:Note:=⟨[],[(0,[0]),(1,[0,11]),(2,[2,3,4]),(3,[0,15]),(4,[2,3,4]),(5,[0,5]),(6,[0,5,6]),(7,[0,5,6,20]),(8,[0,5,6,7]),(9,[0,5,6]),(10,[0,5,6]),(11,[0,5,6,7,30]),(12,[2,3,4]),(13,[0,5,6,7,37]),(14,[2,3,4]),(15,[0,5,6,7,42]),(16,[0,5,6,8,9]),(17,[0,5,6,8,9,54]),(18,[2,3,4]),(19,[0,5,6,9]),(20,[0,5,6]),(21,[2,3,4]),(1000000,[0,5,6])],[]⟩
def F79:DF:=pF N79 Tryz.f79
theorem F79_ok:prepF Tryz.prog N79 Tryz.f79=some F79:=by kernel_rfl
theorem F79_fn:FnOK2 Tryz.prog 79 (.pl F79):=.pl Tryz.func79 (by kernel_rfl) F79_ok
abbrev N80:Note:=⟨[],[(0,[0,7]),(1,[0]),(2,[])],[]⟩
def F80:DF:=pF N80 Tryz.f80
theorem F80_ok:prepF Tryz.prog N80 Tryz.f80=some F80:=by kernel_rfl
theorem F80_fn:FnOK2 Tryz.prog 80 (.pl F80):=.pl Tryz.func80 (by kernel_rfl) F80_ok
abbrev N81:Note:=⟨[],[(0,[0]),(1,[2])],[]⟩
def F81:DF:=pF N81 Tryz.f81
theorem F81_ok:prepF Tryz.prog N81 Tryz.f81=some F81:=by kernel_rfl
theorem F81_fn:FnOK2 Tryz.prog 81 (.pl F81):=.pl Tryz.func81 (by kernel_rfl) F81_ok
abbrev N82:Note:=⟨[],[(0,[0]),(1,[2])],[]⟩
def F82:DF:=pF N82 Tryz.f82
theorem F82_ok:prepF Tryz.prog N82 Tryz.f82=some F82:=by kernel_rfl
theorem F82_fn:FnOK2 Tryz.prog 82 (.pl F82):=.pl Tryz.func82 (by kernel_rfl) F82_ok
theorem F83_ok : prepF Tryz.prog ⟨[],[(0,[0]),(1,[0,33]),(2,[2]),(3,[2])],[]⟩ Tryz.f83 = some F83 := by kernel_rfl
theorem F83_fn:FnOK2 Tryz.prog 83 (.pl F83):=.pl Tryz.func83 (by kernel_rfl) F83_ok
theorem F84_ok : prepF Tryz.prog ⟨[],[(0,[0]),(1,[0,34]),(2,[2]),(3,[0,37]),(4,[2]),(5,[0,3]),(6,[2])],[]⟩ Tryz.f84 = some F84 := by kernel_rfl
theorem F84_fn:FnOK2 Tryz.prog 84 (.pl F84):=.pl Tryz.func84 (by kernel_rfl) F84_ok
theorem F85_ok : prepF Tryz.prog ⟨[],[(0,[0]),(1,[0,6]),(2,[2,3]),(3,[0,30]),(4,[2,3]),(5,[0,4]),(6,[0,4,51]),(7,[2,3]),(8,[2,3])],[]⟩ Tryz.f85 = some F85 := by kernel_rfl
theorem F85_fn:FnOK2 Tryz.prog 85 (.pl F85):=.pl Tryz.func85 (by kernel_rfl) F85_ok
theorem F86_ok : prepF Tryz.prog ⟨[],[(0,[0,1]),(1,[4,5,6])],[]⟩ Tryz.f86 = some F86 := by kernel_rfl
theorem F86_fn:FnOK2 Tryz.prog 86 (.pl F86):=.pl Tryz.func86 (by kernel_rfl) F86_ok
theorem F87_ok : prepF Tryz.prog ⟨[2],[(0,[0,2]),(1,[0,2,4,5,6,7,8]),(2,[0,2,4,5,6,7,21]),(3,[2,3]),(4,[2,4,5,6,7,25]),(5,[2,3]),(6,[2,4,5,6,8,9]),(7,[2,4,5,6,9,33]),(8,[2,3]),(9,[2,4,6,9,10]),(10,[2,4,9,10]),(11,[2,4,9,10,11]),(12,[2,4,9,11]),(13,[2,4,9,11,53]),(14,[2,3]),(15,[2,3])],[]⟩ Tryz.f87 = some F87 := by kernel_rfl
theorem F87_fn:FnOK2 Tryz.prog 87 (.pl F87):=.pl Tryz.func87 (by kernel_rfl) F87_ok
theorem F88_ok : prepF Tryz.prog ⟨[1],[(0,[1]),(1,[1,4]),(2,[1,4,9]),(3,[1,4,9]),(4,[1,4,9]),(5,[2,3]),(6,[1,4,42]),(7,[2,3]),(8,[1,51]),(9,[2,3]),(10,[1,5]),(11,[1,5,57]),(12,[1,5]),(13,[1,5,62]),(14,[5]),(15,[5,71]),(16,[2,3]),(17,[2,3])],[]⟩ Tryz.f88 = some F88 := by kernel_rfl
theorem F88_fn:FnOK2 Tryz.prog 88 (.pl F88):=.pl Tryz.func88 (by kernel_rfl) F88_ok
theorem F89_ok : prepF Tryz.prog ⟨[],[(0,[])],[]⟩ Tryz.f89 = some F89 := by kernel_rfl
theorem F89_fn:FnOK2 Tryz.prog 89 (.pl F89):=.pl Tryz.func89 (by kernel_rfl) F89_ok
theorem F90_ok : prepF Tryz.prog ⟨[],[(0,[0,1,2]),(1,[5])],[]⟩ Tryz.f90 = some F90 := by kernel_rfl
theorem F90_fn:FnOK2 Tryz.prog 90 (.pl F90):=.pl Tryz.func90 (by kernel_rfl) F90_ok
theorem F91_ok : prepF Tryz.prog ⟨[],[(0,[0,1]),(1,[4])],[]⟩ Tryz.f91 = some F91 := by kernel_rfl
theorem F91_fn:FnOK2 Tryz.prog 91 (.pl F91):=.pl Tryz.func91 (by kernel_rfl) F91_ok
theorem F99_ok : prepF Tryz.prog ⟨[],[(0,[0]),(1,[0,5]),(2,[2,3,4]),(3,[0,11]),(4,[2,3,4]),(5,[0,18]),(6,[2,3,4]),(7,[0,25]),(8,[2,3,4]),(9,[2,3,4])],[]⟩ Tryz.f99 = some F99 := by kernel_rfl
theorem F99_fn:FnOK2 Tryz.prog 99 (.pl F99):=.pl Tryz.func99 (by kernel_rfl) F99_ok
theorem F100_ok : prepF Tryz.prog ⟨[],[(0,[0]),(1,[2])],[]⟩ Tryz.f100 = some F100 := by kernel_rfl
theorem F100_fn:FnOK2 Tryz.prog 100 (.pl F100):=.pl Tryz.func100 (by kernel_rfl) F100_ok
abbrev N101:Note:=⟨[],[(0,[0]),(1,[0,5]),(2,[2,3]),(3,[0,7]),(4,[0,7,8]),(5,[0,7,8]),(6,[0,7,8]),(7,[2,3]),(8,[0,7,15]),(9,[2,3]),(10,[0,7,17]),(11,[2,3]),(12,[0,7,19]),(13,[2,3]),(14,[0,7,21]),(15,[2,3]),(16,[0,7,23]),(17,[2,3]),(18,[0,25]),(19,[2,3]),(20,[2,3])],[]⟩
def F101:DF:=pF N101 Tryz.f101
theorem F101_ok:prepF Tryz.prog N101 Tryz.f101=some F101:=by kernel_rfl
theorem F101_fn:FnOK2 Tryz.prog 101 (.pl F101):=.pl Tryz.func101 (by kernel_rfl) F101_ok
abbrev N102:Note:=⟨[],[(0,[0,3]),(1,[0,3,5]),(2,[0,3,5,7]),(3,[4]),(4,[0,3,5,15]),(5,[4]),(6,[0,3,5,27]),(7,[4]),(8,[4])],[]⟩
def F102:DF:=pF N102 Tryz.f102
theorem F102_ok:prepF Tryz.prog N102 Tryz.f102=some F102:=by kernel_rfl
theorem F102_fn:FnOK2 Tryz.prog 102 (.pl F102):=.pl Tryz.func102 (by kernel_rfl) F102_ok
theorem F103_ok : prepF Tryz.prog ⟨[],[(0,[0]),(1,[0,25]),(2,[2]),(3,[2])],[]⟩ Tryz.f103 = some F103 := by kernel_rfl
theorem F103_fn:FnOK2 Tryz.prog 103 (.pl F103):=.pl Tryz.func103 (by kernel_rfl) F103_ok
theorem F104_ok : prepF Tryz.prog ⟨[],[(0,[0,1,2]),(1,[6])],[]⟩ Tryz.f104 = some F104 := by kernel_rfl
theorem F104_fn:FnOK2 Tryz.prog 104 (.pl F104):=.pl Tryz.func104 (by kernel_rfl) F104_ok
theorem F105_ok : prepF Tryz.prog ⟨[],[(0,[0,1]),(1,[0,5]),(2,[0,5,6]),(3,[0,5,6]),(4,[0,5,6]),(5,[0,5,6]),(6,[4]),(7,[0,11]),(8,[25]),(9,[4]),(10,[4]),(11,[4])],[]⟩ Tryz.f105 = some F105 := by kernel_rfl
theorem F105_fn:FnOK2 Tryz.prog 105 (.pl F105):=.pl Tryz.func105 (by kernel_rfl) F105_ok
abbrev N106:Note:=⟨[],[(0,[0,1]),(1,[0,1,12]),(2,[4]),(3,[0,1,21]),(4,[4]),(5,[0,1,5,6]),(6,[0,1,5,34]),(7,[4]),(8,[4])],[]⟩
def F106:DF:=pF N106 Tryz.f106
theorem F106_ok:prepF Tryz.prog N106 Tryz.f106=some F106:=by kernel_rfl
theorem F106_fn:FnOK2 Tryz.prog 106 (.pl F106):=.pl Tryz.func106 (by kernel_rfl) F106_ok
theorem F107_ok : prepF Tryz.prog ⟨[],[(0,[0,1]),(1,[4])],[]⟩ Tryz.f107 = some F107 := by kernel_rfl
theorem F107_fn:FnOK2 Tryz.prog 107 (.pl F107):=.pl Tryz.func107 (by kernel_rfl) F107_ok
theorem F108_ok : prepF Tryz.prog ⟨[],[(0,[0,1]),(1,[0,1,7]),(2,[0,1,7,12]),(3,[4,5,6]),(4,[4,5,6])],[]⟩ Tryz.f108 = some F108 := by kernel_rfl
theorem F108_fn:FnOK2 Tryz.prog 108 (.pl F108):=.pl Tryz.func108 (by kernel_rfl) F108_ok
theorem F109_ok : prepF Tryz.prog ⟨[],[(0,[0,4]),(1,[4,7]),(2,[2,4,7]),(3,[2,4,7,13]),(4,[2,4,7]),(5,[2,4,7,8]),(6,[2,4,7,8,28]),(7,[2,3,4,5,6]),(8,[2,3,4,7]),(9,[2,3,4,7,36]),(10,[2,3,7,8]),(11,[2,3,7,8,41]),(12,[2,3,4,5,6]),(13,[2,3,4,7]),(14,[2,3,4,7,51]),(15,[2,3,4,5,6]),(16,[2,3,4,7,62]),(17,[2,3,4,5,6]),(18,[2,3,4,5]),(19,[2,3,4,5,9]),(20,[2,3,4,5,9,69]),(21,[2,3,4,5,9]),(22,[2,3,4,5,80]),(23,[2,3,4,5,6]),(24,[2,3,4,5,6])],[]⟩ Tryz.f109 = some F109 := by kernel_rfl
theorem F109_fn:FnOK2 Tryz.prog 109 (.pl F109):=.pl Tryz.func109 (by kernel_rfl) F109_ok
theorem F110_ok : prepF Tryz.prog ⟨[],[(0,[0]),(1,[0,4]),(2,[0,4]),(3,[0,4,14]),(4,[2,3]),(5,[4,5]),(6,[5,21]),(7,[2,3]),(8,[2,3])],[]⟩ Tryz.f110 = some F110 := by kernel_rfl
theorem F110_fn:FnOK2 Tryz.prog 110 (.pl F110):=.pl Tryz.func110 (by kernel_rfl) F110_ok
abbrev N111:Note:=⟨[],[(0,[0,1]),(1,[0,1,12]),(2,[4]),(3,[0,1,21]),(4,[4]),(5,[0,1,5,6]),(6,[0,1,5,31]),(7,[4]),(8,[4])],[]⟩
def F111:DF:=pF N111 Tryz.f111
theorem F111_ok:prepF Tryz.prog N111 Tryz.f111=some F111:=by kernel_rfl
theorem F111_fn:FnOK2 Tryz.prog 111 (.pl F111):=.pl Tryz.func111 (by kernel_rfl) F111_ok
abbrev N112:Note:=⟨[],[(0,[0,1]),(1,[0,1,12]),(2,[4]),(3,[0,1,21]),(4,[4]),(5,[0,1,5,6]),(6,[0,1,5,31]),(7,[4]),(8,[4])],[]⟩
def F112:DF:=pF N112 Tryz.f112
theorem F112_ok:prepF Tryz.prog N112 Tryz.f112=some F112:=by kernel_rfl
theorem F112_fn:FnOK2 Tryz.prog 112 (.pl F112):=.pl Tryz.func112 (by kernel_rfl) F112_ok
theorem F113_ok : prepF Tryz.prog ⟨[],[(0,[0]),(1,[0,3]),(2,[0,3,13]),(3,[0,3]),(4,[2]),(1000000,[0,3])],[]⟩ Tryz.f113 = some F113 := by kernel_rfl
theorem F113_fn:FnOK2 Tryz.prog 113 (.pl F113):=.pl Tryz.func113 (by kernel_rfl) F113_ok
abbrev N114:Note:=⟨[],[(0,[0]),(1,[2])],[]⟩
def F114:DF:=pF N114 Tryz.f114
theorem F114_ok:prepF Tryz.prog N114 Tryz.f114=some F114:=by kernel_rfl
theorem F114_fn:FnOK2 Tryz.prog 114 (.pl F114):=.pl Tryz.func114 (by kernel_rfl) F114_ok
theorem F115_ok : prepF Tryz.prog ⟨[],[(0,[0,1,2,6]),(1,[0,1,2,6,7,8]),(2,[0,1,2,6,7,8,13]),(3,[0,1,2,6,8]),(4,[0,1,2,6,7,8]),(5,[0,1,2,6,7,8]),(6,[0,1,2,6]),(7,[0,1,2,6,30]),(8,[0,1,2,6,7,8]),(9,[0,1,2,6,7,8,35]),(10,[0,1,2,6,8]),(11,[0,1,2,6,7,8]),(12,[0,1,2,6,7,8]),(13,[0,1,2,6,7,9]),(14,[0,1,2,6,7,9,54]),(15,[0,1,2,6]),(16,[0,1,2,6]),(1000000,[0,1,2,6,7,8]),(1000002,[0,1,2,6]),(1000004,[0,1,2,6,7,8])],[]⟩ Tryz.f115 = some F115 := by kernel_rfl
theorem F115_fn:FnOK2 Tryz.prog 115 (.pl F115):=.pl Tryz.func115 (by kernel_rfl) F115_ok
theorem F116_ok : prepF Tryz.prog ⟨[],[(0,[0,1]),(1,[4])],[]⟩ Tryz.f116 = some F116 := by kernel_rfl
theorem F116_fn:FnOK2 Tryz.prog 116 (.pl F116):=.pl Tryz.func116 (by kernel_rfl) F116_ok
abbrev N121:Note:=⟨[],[(0,[0]),(1,[0,4]),(2,[0,4,14]),(3,[4,16]),(4,[2,3]),(5,[2,3]),(6,[0,4,25]),(7,[2,3]),(8,[4,5]),(9,[4,5,34]),(10,[2,3]),(11,[2,3])],[]⟩
def F121:DF:=pF N121 Tryz.f121
theorem F121_ok:prepF Tryz.prog N121 Tryz.f121=some F121:=by kernel_rfl
theorem F121_fn:FnOK2 Tryz.prog 121 (.pl F121):=.pl Tryz.func121 (by kernel_rfl) F121_ok
abbrev N122:Note:=⟨[],[(0,[0,1]),(1,[3])],[]⟩
def F122:DF:=pF N122 Tryz.f122
theorem F122_ok:prepF Tryz.prog N122 Tryz.f122=some F122:=by kernel_rfl
theorem F122_fn:FnOK2 Tryz.prog 122 (.pl F122):=.pl Tryz.func122 (by kernel_rfl) F122_ok
abbrev N123:Note:=⟨[],[(0,[0,1]),(1,[0,1,13]),(2,[0,1]),(3,[4]),(1000000,[0,1])],[]⟩
def F123:DF:=pF N123 Tryz.f123
theorem F123_ok:prepF Tryz.prog N123 Tryz.f123=some F123:=by kernel_rfl
theorem F123_fn:FnOK2 Tryz.prog 123 (.pl F123):=.pl Tryz.func123 (by kernel_rfl) F123_ok
abbrev N124:Note:=⟨[],[(0,[0,1]),(1,[0,1,16]),(2,[0,1]),(3,[4]),(1000000,[0,1])],[]⟩
def F124:DF:=pF N124 Tryz.f124
theorem F124_ok:prepF Tryz.prog N124 Tryz.f124=some F124:=by kernel_rfl
theorem F124_fn:FnOK2 Tryz.prog 124 (.pl F124):=.pl Tryz.func124 (by kernel_rfl) F124_ok
abbrev N125:Note:=⟨[2],[(0,[0,2]),(1,[0,2,4]),(2,[0,2,4,9]),(3,[0,2,4]),(4,[0,2,4,5]),(5,[0,2,4,5,16]),(6,[2,3]),(7,[0,2,4]),(8,[2,3]),(1000000,[0,2,4])],[]⟩
def F125:DF:=pF N125 Tryz.f125
theorem F125_ok:prepF Tryz.prog N125 Tryz.f125=some F125:=by kernel_rfl
theorem F125_fn:FnOK2 Tryz.prog 125 (.pl F125):=.pl Tryz.func125 (by kernel_rfl) F125_ok
abbrev N126:Note:=⟨[],[(0,[0,1]),(1,[0,1,7]),(2,[0,1,12]),(3,[0,1]),(4,[4]),(1000000,[0,1])],[]⟩
def F126:DF:=pF N126 Tryz.f126
theorem F126_ok:prepF Tryz.prog N126 Tryz.f126=some F126:=by kernel_rfl
theorem F126_fn:FnOK2 Tryz.prog 126 (.pl F126):=.pl Tryz.func126 (by kernel_rfl) F126_ok
abbrev N127:Note:=⟨[],[(0,[0,1]),(1,[0,1,7]),(2,[0,1,15]),(3,[0,1]),(4,[4]),(1000000,[0,1])],[]⟩
def F127:DF:=pF N127 Tryz.f127
theorem F127_ok:prepF Tryz.prog N127 Tryz.f127=some F127:=by kernel_rfl
theorem F127_fn:FnOK2 Tryz.prog 127 (.pl F127):=.pl Tryz.func127 (by kernel_rfl) F127_ok
abbrev N128:Note:=⟨[],[(0,[0,1]),(1,[0,1,9]),(2,[0,1,5,6]),(3,[0,1,6,18]),(4,[0,1]),(5,[4]),(1000000,[0,1])],[]⟩
def F128:DF:=pF N128 Tryz.f128
theorem F128_ok:prepF Tryz.prog N128 Tryz.f128=some F128:=by kernel_rfl
theorem F128_fn:FnOK2 Tryz.prog 128 (.pl F128):=.pl Tryz.func128 (by kernel_rfl) F128_ok
abbrev N129:Note:=⟨[],[(0,[0,1]),(1,[0,1,9]),(2,[0,1,5,6]),(3,[0,1,5,6,17]),(4,[0,1,5,6]),(5,[0,1,6,26]),(6,[0,1]),(7,[4]),(1000000,[0,1])],[]⟩
def F129:DF:=pF N129 Tryz.f129
theorem F129_ok:prepF Tryz.prog N129 Tryz.f129=some F129:=by kernel_rfl
theorem F129_fn:FnOK2 Tryz.prog 129 (.pl F129):=.pl Tryz.func129 (by kernel_rfl) F129_ok
theorem F130_ok : prepF Tryz.prog ⟨[],[(0,[0,1]),(1,[4])],[]⟩ Tryz.f130 = some F130 := by kernel_rfl
theorem F130_fn:FnOK2 Tryz.prog 130 (.pl F130):=.pl Tryz.func130 (by kernel_rfl) F130_ok
theorem F131_ok : prepF Tryz.prog ⟨[],[(0,[0,1]),(1,[0,1,5]),(2,[0,1,5,16]),(3,[4]),(4,[0,1,5,24]),(5,[4]),(6,[0,1,5,31]),(7,[4]),(8,[0,1,5,36]),(9,[4]),(10,[0,1,5,6]),(11,[0,1,5,6,7]),(12,[0,1,5,6,7,8]),(13,[0,1,5,6,7,8,9]),(14,[0,1,5,6,7,8,9,10]),(15,[0,1,5,6,7,8,9,10,59]),(16,[0,1,5,6,7,8,9,10,64]),(17,[0,1,5,6,7,8,9,10,11]),(18,[0,1,5,6,7,8,9,10,11,73]),(19,[4]),(20,[0,1,5,6,7,8,9,10]),(21,[0,1,5,6,7,8,9,10,93]),(22,[4]),(23,[0,1,5,6,7,8,9,10]),(24,[0,1,5,6,7,8,9,10]),(25,[0,1,5,6,7,8,9,10,107]),(26,[8,12]),(27,[8,12,114]),(28,[4]),(29,[4]),(30,[0,1,5,6,7,8,9,10,132]),(31,[8,13]),(32,[8,13,139]),(33,[4]),(34,[4]),(35,[4]),(1000001,[0,1,5,6,7,8,9,10])],[]⟩ Tryz.f131 = some F131 := by kernel_rfl
theorem F131_fn:FnOK2 Tryz.prog 131 (.pl F131):=.pl Tryz.func131 (by kernel_rfl) F131_ok
theorem F132_ok : prepF Tryz.prog ⟨[],[(0,[0,1]),(1,[4])],[]⟩ Tryz.f132 = some F132 := by kernel_rfl
theorem F132_fn:FnOK2 Tryz.prog 132 (.pl F132):=.pl Tryz.func132 (by kernel_rfl) F132_ok
theorem F133_ok : prepF Tryz.prog ⟨[],[(0,[0,1]),(1,[4])],[]⟩ Tryz.f133 = some F133 := by kernel_rfl
theorem F133_fn:FnOK2 Tryz.prog 133 (.pl F133):=.pl Tryz.func133 (by kernel_rfl) F133_ok
abbrev N134:Note:=⟨[],[(0,[0]),(1,[0,4,5]),(2,[0,4,5,12]),(3,[2,3]),(4,[2,3])],[]⟩
def F134:DF:=pF N134 Tryz.f134
theorem F134_ok:prepF Tryz.prog N134 Tryz.f134=some F134:=by kernel_rfl
theorem F134_fn:FnOK2 Tryz.prog 134 (.pl F134):=.pl Tryz.func134 (by kernel_rfl) F134_ok
theorem F135_ok : prepF Tryz.prog ⟨[],[(0,[0]),(1,[2])],[]⟩ Tryz.f135 = some F135 := by kernel_rfl
theorem F135_fn:FnOK2 Tryz.prog 135 (.pl F135):=.pl Tryz.func135 (by kernel_rfl) F135_ok
abbrev N136:Note:=⟨[],[(0,[0]),(1,[2])],[]⟩
def F136:DF:=pF N136 Tryz.f136
theorem F136_ok:prepF Tryz.prog N136 Tryz.f136=some F136:=by kernel_rfl
theorem F136_fn:FnOK2 Tryz.prog 136 (.pl F136):=.pl Tryz.func136 (by kernel_rfl) F136_ok
theorem F137_ok : prepF Tryz.prog ⟨[],[(0,[0,1,2,3,8]),(1,[0,1,2,3,8,14]),(2,[0,1,2,3,8]),(3,[0,1,2,3,8,9]),(4,[0,1,2,3,8,9,34]),(5,[0,1,2,3,8,9]),(6,[0,1,2,3,8,9]),(1000000,[0,1,2,3,8]),(1000002,[0,1,2,3,8,9])],[]⟩ Tryz.f137 = some F137 := by kernel_rfl
theorem F137_fn:FnOK2 Tryz.prog 137 (.pl F137):=.pl Tryz.func137 (by kernel_rfl) F137_ok
theorem F138_ok : prepF Tryz.prog ⟨[],[(0,[0,1,2,3,4,28]),(1,[0,1,3,4,10]),(2,[0,1,4,10,11]),(3,[0,1,4,10,11,33]),(4,[0,1,4,10,11,12]),(5,[0,1,4,10,11,12,50]),(6,[0,1,4,10,11]),(7,[0,1,4,10,11]),(8,[0,10,13]),(9,[0,10,13,58]),(10,[0,10,13]),(11,[0,10,13]),(12,[0,1,2,3,4,80]),(13,[0,2,4,14]),(14,[0,2,4,14,15]),(15,[0,2,4,14,15,85]),(16,[0,2,4,14,15,16]),(17,[0,2,4,14,15,16,103]),(18,[0,2,4,14,15]),(19,[0,2,4,14,15]),(20,[0,14,17]),(21,[0,14,17,110]),(22,[0,14,17]),(23,[0,14,17]),(24,[0,1,2,3,4,18]),(25,[0,1,2,3,4,18,19]),(26,[0,1,2,3,4,18,19]),(27,[0,1,2,3,4,18,19,140]),(28,[0,1,2,3,4,18,19,20]),(29,[0,1,2,3,4,18,19,20,21]),(30,[0,1,2,3,4,18,19,20]),(31,[0,1,2,3,4,18,19,20,21]),(32,[0,1,2,3,4,18,19,20,21,22]),(33,[0,1,2,3,4,18,19,20,21,22,151]),(34,[0,1,2,3,4,18,19,20,21,22,23]),(35,[0,1,2,3,4,18,19,20,21,22,23,171]),(36,[0,1,2,3,4,18,19,20,21,22]),(37,[0,1,2,3,4,18,19,20,21,22]),(38,[0,1,2,3,4,18,20,24]),(39,[0,1,2,3,4,18,20,24,185]),(40,[0,1,3,4,18,20,24]),(41,[0,1,3,4,18,20,24,199]),(42,[0,3,4,18,24]),(43,[0,3,4,18,24,213]),(44,[]),(1000000,[0,1,4,10,11]),(1000002,[0,10,13]),(1000004,[0,2,4,14,15]),(1000006,[0,14,17]),(1000008,[0,1,2,3,4,18,19,20,21,22])],[]⟩ Tryz.f138 = some F138 := by kernel_rfl
theorem F138_fn:FnOK2 Tryz.prog 138 (.pl F138):=.pl Tryz.func138 (by kernel_rfl) F138_ok
abbrev N142:Note:=⟨[],[(0,[0,1]),(1,[0,1,11]),(2,[4]),(3,[0,1,5]),(4,[0,5,12,13]),(5,[0,5,12,13,14]),(6,[0,5,6,12,13]),(7,[0,5,7,12,13]),(8,[0,5,7,12,13,21]),(9,[4]),(10,[0,5,12,13]),(11,[0,5,12,13]),(12,[4]),(1000000,[0,5,12,13])],[]⟩
def F142:DF:=pF N142 Tryz.f142
theorem F142_ok:prepF Tryz.prog N142 Tryz.f142=some F142:=by kernel_rfl
theorem F142_fn:FnOK2 Tryz.prog 142 (.pl F142):=.pl Tryz.func142 (by kernel_rfl) F142_ok
abbrev N143:Note:=⟨[],[(0,[0,1]),(1,[4])],[]⟩
def F143:DF:=pF N143 Tryz.f143
theorem F143_ok:prepF Tryz.prog N143 Tryz.f143=some F143:=by kernel_rfl
theorem F143_fn:FnOK2 Tryz.prog 143 (.pl F143):=.pl Tryz.func143 (by kernel_rfl) F143_ok
abbrev N144:Note:=⟨[],[(0,[0]),(1,[0,10]),(2,[2,3]),(3,[2,3])],[]⟩
def F144:DF:=pF N144 Tryz.f144
theorem F144_ok:prepF Tryz.prog N144 Tryz.f144=some F144:=by kernel_rfl
theorem F144_fn:FnOK2 Tryz.prog 144 (.pl F144):=.pl Tryz.func144 (by kernel_rfl) F144_ok
abbrev N145:Note:=⟨[],[(0,[0,1]),(1,[4])],[]⟩
def F145:DF:=pF N145 Tryz.f145
theorem F145_ok:prepF Tryz.prog N145 Tryz.f145=some F145:=by kernel_rfl
theorem F145_fn:FnOK2 Tryz.prog 145 (.pl F145):=.pl Tryz.func145 (by kernel_rfl) F145_ok
abbrev N146:Note:=⟨[],[(0,[0]),(1,[0,4]),(2,[0,4,10]),(3,[2,3]),(4,[0,4,5]),(5,[0,2,4,5]),(6,[0,2,4,5,18]),(7,[2,3]),(8,[0,4,5,6]),(9,[0,4,5,6]),(10,[0,4,5,6,27]),(11,[0,4,5,6]),(12,[0,4,5,6,33]),(13,[0,4,5,35]),(14,[0,4,5]),(15,[2,3,4,5]),(16,[2,3,48]),(17,[2,3]),(18,[2,3]),(1000000,[0,4,5,6])],[]⟩
def F146:DF:=pF N146 Tryz.f146
theorem F146_ok:prepF Tryz.prog N146 Tryz.f146=some F146:=by kernel_rfl
theorem F146_fn:FnOK2 Tryz.prog 146 (.pl F146):=.pl Tryz.func146 (by kernel_rfl) F146_ok
theorem F147_ok : prepF Tryz.prog ⟨[],[(0,[0,1]),(1,[4])],[]⟩ Tryz.f147 = some F147 := by kernel_rfl
theorem F147_fn:FnOK2 Tryz.prog 147 (.pl F147):=.pl Tryz.func147 (by kernel_rfl) F147_ok
abbrev N149:Note:=⟨[],[(0,[0]),(1,[2])],[]⟩
def F149:DF:=pF N149 Tryz.f149
theorem F149_ok:prepF Tryz.prog N149 Tryz.f149=some F149:=by kernel_rfl
theorem F149_fn:FnOK2 Tryz.prog 149 (.pl F149):=.pl Tryz.func149 (by kernel_rfl) F149_ok
abbrev N150:Note:=⟨[],[(0,[0,1]),(1,[0,1,5,6]),(2,[0,1,5,6,7]),(3,[0,1,5,6,7,8]),(4,[0,1,5,6,7,8,9]),(5,[0,1,5,6,7,8,9,20]),(6,[0,1,5,6,7,8,9]),(7,[0,1,5,6,7,8,9]),(8,[0,1,5,6,7,8,39]),(9,[4]),(10,[0,1,5,6,7,8,10]),(11,[0,1,5,6,7,8,10,44]),(12,[0,1,5,6,7,8,10]),(13,[0,1,5,6,7,8,10]),(14,[0,1,5,6,7,8,10]),(15,[0,1,5,6,7,8,10]),(16,[0,1,5,6,7,8,10,77]),(17,[4]),(18,[4]),(1000000,[0,1,5,6,7,8,9]),(1000002,[0,1,5,6,7,8,10])],[]⟩
def F150:DF:=pF N150 Tryz.f150
theorem F150_ok:prepF Tryz.prog N150 Tryz.f150=some F150:=by kernel_rfl
theorem F150_fn:FnOK2 Tryz.prog 150 (.pl F150):=.pl Tryz.func150 (by kernel_rfl) F150_ok
theorem F151_ok : prepF Tryz.prog ⟨[],[(0,[0,1]),(1,[4])],[]⟩ Tryz.f151 = some F151 := by kernel_rfl
theorem F151_fn:FnOK2 Tryz.prog 151 (.pl F151):=.pl Tryz.func151 (by kernel_rfl) F151_ok
theorem F152_ok : prepF Tryz.prog ⟨[],[(0,[0,1]),(1,[0,1,7]),(2,[4]),(3,[4])],[]⟩ Tryz.f152 = some F152 := by kernel_rfl
theorem F152_fn:FnOK2 Tryz.prog 152 (.pl F152):=.pl Tryz.func152 (by kernel_rfl) F152_ok
abbrev N153:Note:=⟨[],[(0,[0]),(1,[0,4]),(2,[0,30]),(3,[0,5]),(4,[0,5,39]),(5,[0,5]),(6,[0,5,44]),(7,[2,3]),(8,[0,5,6]),(9,[5,6,47,48,49]),(10,[5,6,47,48,49,50]),(11,[5,6,8,47,48,49]),(12,[5,6,8,47,48,49]),(13,[5,6,8,47,48,49,56]),(14,[2,3]),(15,[5,6,47,48,49]),(16,[5,6,47,48,49]),(17,[6,66]),(18,[6]),(19,[2,3]),(20,[9,10]),(21,[2,3]),(1000000,[5,6,47,48,49])],[]⟩
def F153:DF:=pF N153 Tryz.f153
theorem F153_ok:prepF Tryz.prog N153 Tryz.f153=some F153:=by kernel_rfl
theorem F153_fn:FnOK2 Tryz.prog 153 (.pl F153):=.pl Tryz.func153 (by kernel_rfl) F153_ok
abbrev N154:Note:=⟨[],[(0,[0,1,2,3,4]),(1,[0,1,2,3,4,11]),(2,[0,1,2,3,4,11,12]),(3,[10]),(4,[0,1,2,3,4,11,19]),(5,[10]),(6,[0,1,2,3,4,11,26]),(7,[10]),(8,[0,1,3,4,34]),(9,[10]),(10,[10])],[]⟩
def F154:DF:=pF N154 Tryz.f154
theorem F154_ok:prepF Tryz.prog N154 Tryz.f154=some F154:=by kernel_rfl
theorem F154_fn:FnOK2 Tryz.prog 154 (.pl F154):=.pl Tryz.func154 (by kernel_rfl) F154_ok
abbrev N155:Note:=⟨[],[(0,[0,1]),(1,[0,1,11]),(2,[0,17]),(3,[4]),(4,[0,5]),(5,[0,5,6]),(6,[0,5,6,23]),(7,[0,5,6]),(8,[0,5,6,7]),(9,[0,5,7]),(10,[5,7,34]),(11,[5,7]),(12,[4]),(13,[4]),(14,[9]),(15,[4])],[]⟩
def F155:DF:=pF N155 Tryz.f155
theorem F155_ok:prepF Tryz.prog N155 Tryz.f155=some F155:=by kernel_rfl
theorem F155_fn:FnOK2 Tryz.prog 155 (.pl F155):=.pl Tryz.func155 (by kernel_rfl) F155_ok
theorem F156_ok : prepF Tryz.prog ⟨[],[(0,[0,2,3,4,10]),(1,[0,2,4,10,11]),(2,[0,2,4,10,11,20]),(3,[0,2,4,10,11,23]),(4,[0,2,4,10,11]),(5,[0,2,4,10,11]),(6,[0,2,4,10,11]),(7,[0,2,4,10,11]),(8,[]),(1000000,[0,2,4,10,11])],[]⟩ Tryz.f156 = some F156 := by kernel_rfl
theorem F156_fn:FnOK2 Tryz.prog 156 (.pl F156):=.pl Tryz.func156 (by kernel_rfl) F156_ok
abbrev N157:Note:=⟨[],[(0,[0]),(1,[0,3]),(2,[2]),(3,[0,13]),(4,[2]),(5,[0,24]),(6,[2]),(7,[2])],[]⟩
def F157:DF:=pF N157 Tryz.f157
theorem F157_ok:prepF Tryz.prog N157 Tryz.f157=some F157:=by kernel_rfl
theorem F157_fn:FnOK2 Tryz.prog 157 (.pl F157):=.pl Tryz.func157 (by kernel_rfl) F157_ok
abbrev N158:Note:=⟨[9],[(0,[0]),(1,[0,4]),(2,[0,4,16]),(3,[2,3]),(4,[0,4,5]),(5,[0,4,5,6]),(6,[0,4,5,6,23]),(7,[0,7]),(8,[2,3]),(9,[0,4,5,6,8]),(10,[0,4,5,8,9]),(11,[0,5,8,9,45]),(12,[2,3]),(13,[0,5,8,9,10]),(14,[0,5,8,10,57]),(15,[2,3]),(16,[0,5,8,10,59]),(17,[2,3]),(18,[0,5,8,10,11]),(19,[0,5,8,10,11,75]),(20,[2,3]),(21,[0,5,10,11,77]),(22,[2,3]),(23,[5,10,11,12]),(24,[5,10,11,12,98]),(25,[2,3]),(26,[2,3])],[]⟩
def F158:DF:=pF N158 Tryz.f158
theorem F158_ok:prepF Tryz.prog N158 Tryz.f158=some F158:=by kernel_rfl
theorem F158_fn:FnOK2 Tryz.prog 158 (.pl F158):=.pl Tryz.func158 (by kernel_rfl) F158_ok
abbrev N159:Note:=⟨[],[(0,[0,1]),(1,[0,7]),(2,[0,7,8]),(3,[0,7,8,9]),(4,[0,7,8,9]),(5,[0,7,8,9,26]),(6,[0,7,8,9,33]),(7,[0,7,8,9,11]),(8,[0,7,8,9,11,43]),(9,[4]),(10,[0,7,8,9]),(11,[0,7,8,9,12]),(12,[0,7,8,9,12,51]),(13,[0,7,8,9,12]),(14,[0,7,8,9,12,64]),(15,[4]),(16,[0,7,8,9,10]),(17,[0,7,8,9,10]),(18,[0,7,8,9,98]),(19,[4]),(20,[8,9,13]),(21,[8,9,13,108]),(22,[4]),(23,[0,7,8,9,14]),(24,[0,7,8,9,14,15]),(25,[0,7,8,9,14,15,124]),(26,[0,7,8,9,14,15]),(27,[0,7,8,9,14,15,139]),(28,[0,7,8,9,14,15,16]),(29,[0,7,8,9,14,15,16,143]),(30,[0,7,8,9,14,15,16]),(31,[0,7,8,9,14,15,16,156]),(32,[4]),(33,[4]),(34,[0,1,160]),(35,[4]),(36,[0,1,171]),(37,[175]),(38,[175,176,177]),(39,[5,6,175]),(40,[5,175,181]),(41,[4]),(42,[4]),(43,[0,1,183]),(44,[4]),(1000001,[0,7,8,9]),(1000003,[0,7,8,9,12]),(1000005,[0,7,8,9,14,15]),(1000007,[0,7,8,9,14,15,16]),(1000009,[175])],[]⟩
def F159:DF:=pF N159 Tryz.f159
theorem F159_ok:prepF Tryz.prog N159 Tryz.f159=some F159:=by kernel_rfl
theorem F159_fn:FnOK2 Tryz.prog 159 (.pl F159):=.pl Tryz.func159 (by kernel_rfl) F159_ok
abbrev N160:Note:=⟨[],[(0,[0]),(1,[2])],[]⟩
def F160:DF:=pF N160 Tryz.f160
theorem F160_ok:prepF Tryz.prog N160 Tryz.f160=some F160:=by kernel_rfl
theorem F160_fn:FnOK2 Tryz.prog 160 (.pl F160):=.pl Tryz.func160 (by kernel_rfl) F160_ok
abbrev N162:Note:=⟨[],[(0,[0]),(1,[0,4]),(2,[0,4,5]),(3,[0,4,5,12]),(4,[0,4,5]),(5,[0,4,5]),(6,[0,4,6,7]),(7,[4,6,7,8]),(8,[4,6,7,8,25]),(9,[4,6,7,8]),(10,[4,6,7,8,30]),(11,[4,6,7,8]),(12,[4,6,7,8]),(13,[2,3]),(1000000,[0,4,5]),(1000002,[4,6,7,8])],[]⟩
def F162:DF:=pF N162 Tryz.f162
theorem F162_ok:prepF Tryz.prog N162 Tryz.f162=some F162:=by kernel_rfl
theorem F162_fn:FnOK2 Tryz.prog 162 (.pl F162):=.pl Tryz.func162 (by kernel_rfl) F162_ok
abbrev N163:Note:=⟨[],[(0,[0,1,2]),(1,[0,1,2,13]),(2,[6,7]),(3,[0,1,2,8]),(4,[0,1,2,8,16]),(5,[0,1,2,8,16,17]),(6,[0,1,2,8]),(7,[0,1,2,8,21]),(8,[0,1,2]),(9,[0,1,2,8]),(10,[0,1,2,8]),(11,[2,7,8,9]),(12,[2,7,8,9,38]),(13,[6,7]),(14,[2,8,9,41]),(15,[2,8,9]),(16,[8,9,10]),(17,[8,9,10,52]),(18,[6,7]),(19,[8,9,10,62]),(20,[6,7]),(21,[8,11]),(22,[11,69]),(23,[11]),(24,[6,7])],[]⟩
def F163:DF:=pF N163 Tryz.f163
theorem F163_ok:prepF Tryz.prog N163 Tryz.f163=some F163:=by kernel_rfl
theorem F163_fn:FnOK2 Tryz.prog 163 (.pl F163):=.pl Tryz.func163 (by kernel_rfl) F163_ok
abbrev N164:Note:=⟨[],[(0,[0,1]),(1,[4])],[]⟩
def F164:DF:=pF N164 Tryz.f164
theorem F164_ok:prepF Tryz.prog N164 Tryz.f164=some F164:=by kernel_rfl
theorem F164_fn:FnOK2 Tryz.prog 164 (.pl F164):=.pl Tryz.func164 (by kernel_rfl) F164_ok
abbrev N165:Note:=⟨[],[(0,[0,1]),(1,[4])],[]⟩
def F165:DF:=pF N165 Tryz.f165
theorem F165_ok:prepF Tryz.prog N165 Tryz.f165=some F165:=by kernel_rfl
theorem F165_fn:FnOK2 Tryz.prog 165 (.pl F165):=.pl Tryz.func165 (by kernel_rfl) F165_ok
abbrev N166:Note:=⟨[],[(0,[0,1,2]),(1,[6])],[]⟩
def F166:DF:=pF N166 Tryz.f166
theorem F166_ok:prepF Tryz.prog N166 Tryz.f166=some F166:=by kernel_rfl
theorem F166_fn:FnOK2 Tryz.prog 166 (.pl F166):=.pl Tryz.func166 (by kernel_rfl) F166_ok
abbrev N167:Note:=⟨[],[(0,[0,1,2]),(1,[6])],[]⟩
def F167:DF:=pF N167 Tryz.f167
theorem F167_ok:prepF Tryz.prog N167 Tryz.f167=some F167:=by kernel_rfl
theorem F167_fn:FnOK2 Tryz.prog 167 (.pl F167):=.pl Tryz.func167 (by kernel_rfl) F167_ok
abbrev N168:Note:=⟨[],[(0,[0]),(1,[0,4]),(2,[2]),(3,[2])],[]⟩
def F168:DF:=pF N168 Tryz.f168
theorem F168_ok:prepF Tryz.prog N168 Tryz.f168=some F168:=by kernel_rfl
theorem F168_fn:FnOK2 Tryz.prog 168 (.pl F168):=.pl Tryz.func168 (by kernel_rfl) F168_ok
abbrev N169:Note:=⟨[],[(0,[0]),(1,[0,3]),(2,[2])],[]⟩
def F169:DF:=pF N169 Tryz.f169
theorem F169_ok:prepF Tryz.prog N169 Tryz.f169=some F169:=by kernel_rfl
theorem F169_fn:FnOK2 Tryz.prog 169 (.pl F169):=.pl Tryz.func169 (by kernel_rfl) F169_ok
abbrev N170:Note:=⟨[],[(0,[0,1,4]),(1,[0,1,4,20]),(2,[0,1,4,5]),(3,[0,1,4,5]),(4,[0,1,4,6,7]),(5,[0,1,4,6,8,9]),(6,[0,1,4,8,9,10,11]),(7,[0,1,4,8,10,11]),(8,[0,1,4,10,11]),(9,[0,1,4,10]),(10,[0,1,4]),(11,[0,1,4]),(12,[0,4,12]),(13,[0,4,12,99]),(14,[0,4,12,13]),(15,[0,4,12,13]),(16,[0,4,12,14,15]),(17,[0,4,12,14]),(18,[0,4,12]),(19,[0,4,12]),(20,[0,4,12,139]),(21,[0,4,12,16]),(22,[0,4,12,16]),(23,[0,4,12]),(24,[0,4,12]),(25,[0,12,161]),(26,[]),(1000000,[0,1,4])],[]⟩
def F170:DF:=pF N170 Tryz.f170
theorem F170_ok:prepF Tryz.prog N170 Tryz.f170=some F170:=by kernel_rfl
theorem F170_fn:FnOK2 Tryz.prog 170 (.pl F170):=.pl Tryz.func170 (by kernel_rfl) F170_ok
abbrev N171:Note:=⟨[],[(0,[0,1,2,3,4,10,11]),(1,[0,1,2,3,4,10,11,28]),(2,[0,1,2,3,4,10,11]),(3,[0,1,2,3,4,10,11,12]),(4,[0,1,2,3,4,10,11,12,13]),(5,[0,1,2,3,4,10,11,12,13,30]),(6,[0,1,2,3,4,10,11,12,13]),(7,[0,1,2,3,4,10,11,12,13,34]),(8,[0,1,2,3,4,10,11,12,13,14]),(9,[0,1,2,3,4,10,11,12,13,14,15]),(10,[0,1,3,4,10,11,12,13,14,15,16]),(11,[0,1,3,4,10,11,12,13,14,15,16,46]),(12,[0,1,3,4,10,11,12,13,14,15,16]),(13,[0,1,3,4,10,11,12,13,14,15,16]),(14,[0,1,3,4,10,11,12,13,14,15,16]),(15,[0,1,3,4,10,11,12,13]),(16,[0,3,4,10,11,12,13]),(17,[0,1,3,4,10,11,12,13,17]),(18,[0,1,3,4,10,11,12,13,17,68]),(19,[0,1,3,4,10,11,12,13,17]),(20,[0,1,3,4,10,11,12,13,17,18]),(21,[0,3,4,10,11,12,13,17,18]),(22,[0,1,3,4,10,11,12,13,17]),(23,[0,1,3,4,10,11,12,13]),(24,[0,3,4,10,11,12,13]),(25,[0,4,10,11,12,13,89]),(26,[0,4,10,11,12,13]),(27,[0,4,10,11,12,13]),(28,[0,10,11,12,13,94]),(29,[10,11]),(30,[10,11]),(1000000,[0,1,3,4,10,11,12,13,14,15,16]),(1000002,[0,1,3,4,10,11,12,13,17])],[]⟩
def F171:DF:=pF N171 Tryz.f171
theorem F171_ok:prepF Tryz.prog N171 Tryz.f171=some F171:=by kernel_rfl
theorem F171_fn:FnOK2 Tryz.prog 171 (.pl F171):=.pl Tryz.func171 (by kernel_rfl) F171_ok
theorem F172_ok : prepF Tryz.prog ⟨[],[(0,[0,1,2,3,10]),(1,[0,1,2,3,10,13]),(2,[0,1,2,3,10]),(3,[0,1,2,3,10]),(1000000,[0,1,2,3,10])],[]⟩ Tryz.f172 = some F172 := by kernel_rfl
theorem F172_fn:FnOK2 Tryz.prog 172 (.pl F172):=.pl Tryz.func172 (by kernel_rfl) F172_ok
abbrev N173:Note:=⟨[],[(0,[0,1]),(1,[4])],[]⟩
def F173:DF:=pF N173 Tryz.f173
theorem F173_ok:prepF Tryz.prog N173 Tryz.f173=some F173:=by kernel_rfl
theorem F173_fn:FnOK2 Tryz.prog 173 (.pl F173):=.pl Tryz.func173 (by kernel_rfl) F173_ok
abbrev N174:Note:=⟨[],[(0,[0]),(1,[0,3]),(2,[2]),(3,[10]),(4,[2]),(5,[2])],[]⟩
def F174:DF:=pF N174 Tryz.f174
theorem F174_ok:prepF Tryz.prog N174 Tryz.f174=some F174:=by kernel_rfl
theorem F174_fn:FnOK2 Tryz.prog 174 (.pl F174):=.pl Tryz.func174 (by kernel_rfl) F174_ok
abbrev N175:Note:=⟨[],[(0,[0,1,2]),(1,[0,1,2,19]),(2,[6,7]),(3,[0,1,2,8]),(4,[0,1,2,8,9]),(5,[6,7]),(6,[0,1,2,8,9,25]),(7,[0,2,8,9,32]),(8,[0,1,2,8,9]),(9,[0,1,2,8,9,37]),(10,[0,1,2,8,9]),(11,[0,1,2,8,9]),(12,[0,2,8,9,40]),(13,[0,1,2,8,9]),(14,[0,1,2,8,9]),(15,[0,2,8,9,52]),(16,[0,1,2,8,9]),(17,[0,1,2,8,9]),(18,[0,2,8,9,64]),(19,[0,1,2,8,9]),(20,[0,1,2,8,9]),(21,[0,1,2,8,9,77]),(22,[0,1,2,8,9]),(23,[0,1,2,8,9,83]),(24,[6,7]),(25,[0,1,2,8,9]),(26,[0,1,2,8,9,85]),(27,[0,1,2,8,9,10]),(28,[0,1,2,8,9,85,90]),(29,[0,1,2,8,9,10]),(30,[0,1,2,8,9,92]),(31,[0,1,2,8,9,10]),(32,[0,1,8,9,10,11]),(33,[0,1,8,9,10,11,12]),(34,[0,1,8,9,10,11,12,13]),(35,[1,8,9,10,11,12,13,99,100,101]),(36,[1,8,9,10,11,12,13,99,100,101,102]),(37,[1,8,9,10,11,12,13,15,99,100,101]),(38,[1,8,9,10,11,12,13,15,99,100,101]),(39,[6,7]),(40,[1,8,9,10,11,12,13,15,99,100,101,106]),(41,[1,8,9,10,11,12,13,99,100,101]),(42,[1,8,9,10,11,12,13,15,99,100,101,112]),(43,[1,8,9,10,11,12,13,16,99,100,101]),(44,[1,8,9,10,11,12,13,15,99,100,101,121]),(45,[1,8,9,10,11,12,13,16,99,100,101]),(46,[1,8,9,10,11,12,13,16,99,100,101,137]),(47,[6,7]),(48,[1,8,9,10,11,12,13,16,99,100,101,141]),(49,[6,7]),(50,[1,8,9,10,11,12,13,16,99,100,101]),(51,[1,8,9,10,11,12,13,17,99,100,101]),(52,[1,8,9,10,11,12,17,99,100,101,159]),(53,[6,7]),(54,[1,8,9,10,11,12,13,99,100,101]),(55,[1,8,9,10,11,12,13,99,100,101]),(56,[13,169]),(57,[6,7]),(58,[6,7]),(1000003,[1,8,9,10,11,12,13,99,100,101])],[]⟩
def F175:DF:=pF N175 Tryz.f175
theorem F175_ok:prepF Tryz.prog N175 Tryz.f175=some F175:=by kernel_rfl
theorem F175_fn:FnOK2 Tryz.prog 175 (.pl F175):=.pl Tryz.func175 (by kernel_rfl) F175_ok
abbrev N176:Note:=⟨[],[(0,[0]),(1,[0,6]),(2,[2]),(3,[0,3]),(4,[3]),(5,[2])],[]⟩
def F176:DF:=pF N176 Tryz.f176
theorem F176_ok:prepF Tryz.prog N176 Tryz.f176=some F176:=by kernel_rfl
theorem F176_fn:FnOK2 Tryz.prog 176 (.pl F176):=.pl Tryz.func176 (by kernel_rfl) F176_ok
abbrev N177:Note:=⟨[],[(0,[0]),(1,[2])],[]⟩
def F177:DF:=pF N177 Tryz.f177
theorem F177_ok:prepF Tryz.prog N177 Tryz.f177=some F177:=by kernel_rfl
theorem F177_fn:FnOK2 Tryz.prog 177 (.pl F177):=.pl Tryz.func177 (by kernel_rfl) F177_ok
abbrev N178:Note:=⟨[],[(0,[0]),(1,[2])],[]⟩
def F178:DF:=pF N178 Tryz.f178
theorem F178_ok:prepF Tryz.prog N178 Tryz.f178=some F178:=by kernel_rfl
theorem F178_fn:FnOK2 Tryz.prog 178 (.pl F178):=.pl Tryz.func178 (by kernel_rfl) F178_ok
abbrev N179:Note:=⟨[],[(0,[0,2]),(1,[0,2,4]),(2,[0]),(3,[0,2]),(4,[0,2,8]),(5,[0,2]),(6,[0,2]),(7,[0,2,14]),(8,[0,2]),(9,[0,2]),(10,[2])],[]⟩
def F179:DF:=pF N179 Tryz.f179
theorem F179_ok:prepF Tryz.prog N179 Tryz.f179=some F179:=by kernel_rfl
theorem F179_fn:FnOK2 Tryz.prog 179 (.pl F179):=.pl Tryz.func179 (by kernel_rfl) F179_ok
abbrev N180:Note:=⟨[],[(0,[0]),(1,[3]),(2,[2]),(3,[2])],[]⟩
def F180:DF:=pF N180 Tryz.f180
theorem F180_ok:prepF Tryz.prog N180 Tryz.f180=some F180:=by kernel_rfl
theorem F180_fn:FnOK2 Tryz.prog 180 (.pl F180):=.pl Tryz.func180 (by kernel_rfl) F180_ok
abbrev N181:Note:=⟨[],[(0,[0]),(1,[2])],[]⟩
def F181:DF:=pF N181 Tryz.f181
theorem F181_ok:prepF Tryz.prog N181 Tryz.f181=some F181:=by kernel_rfl
theorem F181_fn:FnOK2 Tryz.prog 181 (.pl F181):=.pl Tryz.func181 (by kernel_rfl) F181_ok
abbrev N182:Note:=⟨[],[(0,[0]),(1,[2]),(2,[2])],[]⟩
def F182:DF:=pF N182 Tryz.f182
theorem F182_ok:prepF Tryz.prog N182 Tryz.f182=some F182:=by kernel_rfl
theorem F182_fn:FnOK2 Tryz.prog 182 (.pl F182):=.pl Tryz.func182 (by kernel_rfl) F182_ok
abbrev N183:Note:=⟨[],[(0,[0]),(1,[2])],[]⟩
def F183:DF:=pF N183 Tryz.f183
theorem F183_ok:prepF Tryz.prog N183 Tryz.f183=some F183:=by kernel_rfl
theorem F183_fn:FnOK2 Tryz.prog 183 (.pl F183):=.pl Tryz.func183 (by kernel_rfl) F183_ok
abbrev N184:Note:=⟨[],[(0,[0]),(1,[0,3]),(2,[0,3,4]),(3,[0,3,4,18]),(4,[0,3,4]),(5,[0,3,4,5]),(6,[0,3,4,5,46]),(7,[0,4]),(8,[0,3,4]),(9,[0,3,4,5]),(10,[0,3,4,5,54]),(11,[0,3,4,5]),(12,[0,3,4,5,83]),(13,[0,3,4,5]),(14,[0,3,4,5,87]),(15,[0,4,5,89]),(16,[2]),(17,[0,3,4,5]),(18,[0,4,5,91]),(19,[2]),(20,[0,3,4,5]),(21,[2]),(1000000,[0,3,4,5])],[]⟩
def F184:DF:=pF N184 Tryz.f184
theorem F184_ok:prepF Tryz.prog N184 Tryz.f184=some F184:=by kernel_rfl
theorem F184_fn:FnOK2 Tryz.prog 184 (.pl F184):=.pl Tryz.func184 (by kernel_rfl) F184_ok
abbrev N185:Note:=⟨[],[(0,[0]),(1,[0,4]),(2,[2]),(3,[2])],[]⟩
def F185:DF:=pF N185 Tryz.f185
theorem F185_ok:prepF Tryz.prog N185 Tryz.f185=some F185:=by kernel_rfl
theorem F185_fn:FnOK2 Tryz.prog 185 (.pl F185):=.pl Tryz.func185 (by kernel_rfl) F185_ok
abbrev N186:Note:=⟨[],[(0,[0]),(1,[0,4]),(2,[2]),(3,[2])],[]⟩
def F186:DF:=pF N186 Tryz.f186
theorem F186_ok:prepF Tryz.prog N186 Tryz.f186=some F186:=by kernel_rfl
theorem F186_fn:FnOK2 Tryz.prog 186 (.pl F186):=.pl Tryz.func186 (by kernel_rfl) F186_ok
noncomputable def tab : List (Nat × DX) := [(3,.pl F3),(8,.pl F8),(11,.pl F11),(12,.pl F12),(13,.pl F13),(14,.pl F14),(15,.pl F15),(16,.pl F16),(17,.pl F17),(25,.pl F25),(27,.pl F27),(28,.pl F28),(29,.pl F29),(30,.pl F30),(31,.pl F31),(37,.df F37),(38,.pl F38),(39,.pl F39),(40,.pl F40),(41,.pl F41),(42,.pl F42),(43,.pl F43),(44,.pl F44),(45,.pl F45),(52,.pl F52),(53,.pl F53),(54,.rc F54),(55,.pl F55),(56,.pl F56),(57,.pl F57),(58,.pl F58),(59,.pl F59),(60,.pl F60),(61,.pl F61),(62,.pl F62),(63,.pl F63),(64,.pl F64),(65,.pl F65),(66,.pl F66),(67,.pl F67),(68,.pl F68),(69,.pl F69),(70,.pl F70),(71,.pl F71),(72,.pl F72),(78,.pl F78),(79,.pl F79),(80,.pl F80),(81,.pl F81),(82,.pl F82),(83,.pl F83),(84,.pl F84),(85,.pl F85),(86,.pl F86),(87,.pl F87),(88,.pl F88),(89,.pl F89),(90,.pl F90),(91,.pl F91),(99,.pl F99),(100,.pl F100),(101,.pl F101),(102,.pl F102),(103,.pl F103),(104,.pl F104),(105,.pl F105),(106,.pl F106),(107,.pl F107),(108,.pl F108),(109,.pl F109),(110,.pl F110),(111,.pl F111),(112,.pl F112),(113,.pl F113),(114,.pl F114),(115,.pl F115),(116,.pl F116),(121,.pl F121),(122,.pl F122),(123,.pl F123),(124,.pl F124),(125,.pl F125),(126,.pl F126),(127,.pl F127),(128,.pl F128),(129,.pl F129),(130,.pl F130),(131,.pl F131),(132,.pl F132),(133,.pl F133),(134,.pl F134),(135,.pl F135),(136,.pl F136),(137,.pl F137),(138,.pl F138),(142,.pl F142),(143,.pl F143),(144,.pl F144),(145,.pl F145),(146,.pl F146),(147,.pl F147),(149,.pl F149),(150,.pl F150),(151,.pl F151),(152,.pl F152),(153,.pl F153),(154,.pl F154),(155,.pl F155),(156,.pl F156),(157,.pl F157),(158,.pl F158),(159,.pl F159),(160,.pl F160),(162,.pl F162),(163,.pl F163),(164,.pl F164),(165,.pl F165),(166,.pl F166),(167,.pl F167),(168,.pl F168),(169,.pl F169),(170,.pl F170),(171,.pl F171),(172,.pl F172),(173,.pl F173),(174,.pl F174),(175,.pl F175),(176,.pl F176),(177,.pl F177),(178,.pl F178),(179,.pl F179),(180,.pl F180),(181,.pl F181),(182,.pl F182),(183,.pl F183),(184,.pl F184),(185,.pl F185),(186,.pl F186)]
theorem tabOK : TabOK2 Tryz.prog tab :=
 .cons F3_fn <|
 .cons F8_fn <|
 .cons F11_fn <|
 .cons F12_fn <|
 .cons F13_fn <|
 .cons F14_fn <|
 .cons F15_fn <|
 .cons F16_fn <|
 .cons F17_fn <|
 .cons F25_fn <|
 .cons F27_fn <|
 .cons F28_fn <|
 .cons F29_fn <|
 .cons F30_fn <|
 .cons F31_fn <|
 .cons F37_fn <|
 .cons F38_fn <|
 .cons F39_fn <|
 .cons F40_fn <|
 .cons F41_fn <|
 .cons F42_fn <|
 .cons F43_fn <|
 .cons F44_fn <|
 .cons F45_fn <|
 .cons F52_fn <|
 .cons F53_fn <|
 .cons F54_fn <|
 .cons F55_fn <|
 .cons F56_fn <|
 .cons F57_fn <|
 .cons F58_fn <|
 .cons F59_fn <|
 .cons F60_fn <|
 .cons F61_fn <|
 .cons F62_fn <|
 .cons F63_fn <|
 .cons F64_fn <|
 .cons F65_fn <|
 .cons F66_fn <|
 .cons F67_fn <|
 .cons F68_fn <|
 .cons F69_fn <|
 .cons F70_fn <|
 .cons F71_fn <|
 .cons F72_fn <|
 .cons F78_fn <|
 .cons F79_fn <|
 .cons F80_fn <|
 .cons F81_fn <|
 .cons F82_fn <|
 .cons F83_fn <|
 .cons F84_fn <|
 .cons F85_fn <|
 .cons F86_fn <|
 .cons F87_fn <|
 .cons F88_fn <|
 .cons F89_fn <|
 .cons F90_fn <|
 .cons F91_fn <|
 .cons F99_fn <|
 .cons F100_fn <|
 .cons F101_fn <|
 .cons F102_fn <|
 .cons F103_fn <|
 .cons F104_fn <|
 .cons F105_fn <|
 .cons F106_fn <|
 .cons F107_fn <|
 .cons F108_fn <|
 .cons F109_fn <|
 .cons F110_fn <|
 .cons F111_fn <|
 .cons F112_fn <|
 .cons F113_fn <|
 .cons F114_fn <|
 .cons F115_fn <|
 .cons F116_fn <|
 .cons F121_fn <|
 .cons F122_fn <|
 .cons F123_fn <|
 .cons F124_fn <|
 .cons F125_fn <|
 .cons F126_fn <|
 .cons F127_fn <|
 .cons F128_fn <|
 .cons F129_fn <|
 .cons F130_fn <|
 .cons F131_fn <|
 .cons F132_fn <|
 .cons F133_fn <|
 .cons F134_fn <|
 .cons F135_fn <|
 .cons F136_fn <|
 .cons F137_fn <|
 .cons F138_fn <|
 .cons F142_fn <|
 .cons F143_fn <|
 .cons F144_fn <|
 .cons F145_fn <|
 .cons F146_fn <|
 .cons F147_fn <|
 .cons F149_fn <|
 .cons F150_fn <|
 .cons F151_fn <|
 .cons F152_fn <|
 .cons F153_fn <|
 .cons F154_fn <|
 .cons F155_fn <|
 .cons F156_fn <|
 .cons F157_fn <|
 .cons F158_fn <|
 .cons F159_fn <|
 .cons F160_fn <|
 .cons F162_fn <|
 .cons F163_fn <|
 .cons F164_fn <|
 .cons F165_fn <|
 .cons F166_fn <|
 .cons F167_fn <|
 .cons F168_fn <|
 .cons F169_fn <|
 .cons F170_fn <|
 .cons F171_fn <|
 .cons F172_fn <|
 .cons F173_fn <|
 .cons F174_fn <|
 .cons F175_fn <|
 .cons F176_fn <|
 .cons F177_fn <|
 .cons F178_fn <|
 .cons F179_fn <|
 .cons F180_fn <|
 .cons F181_fn <|
 .cons F182_fn <|
 .cons F183_fn <|
 .cons F184_fn <|
 .cons F185_fn <|
 .cons F186_fn <|
  .nil
end
end Go.Proofs.C1

namespace Go.Proofs.YtbojekglccdajaaGreatDoor
open Go.ChangeShapes Go.WideShapes Go.ChangeAt Go.RowKit
abbrev laid:List (String×DataW Unit):=Rows.alignTellsUptoRow.laid
theorem own:ownKnob Tryz.prog.godebug=none:=by kernel_rfl
abbrev pows:List Int:=[1,10,100,1000,10000,100000,1000000,10000000,100000000,1000000000,10000000000,100000000000,1000000000000,10000000000000,100000000000000,1000000000000000,10000000000000000,100000000000000000,1000000000000000000,10000000000000000000]
abbrev powsA:List Dn.AV:=[.int .u64 1,.int .u64 10,.int .u64 100,.int .u64 1000,.int .u64 10000,.int .u64 100000,.int .u64 1000000,.int .u64 10000000,.int .u64 100000000,.int .u64 1000000000,.int .u64 10000000000,.int .u64 100000000000,.int .u64 1000000000000,.int .u64 10000000000000,.int .u64 100000000000000,.int .u64 1000000000000000,.int .u64 10000000000000000,.int .u64 100000000000000000,.int .u64 1000000000000000000,.int .u64 10000000000000000000]
theorem powsA_eq:powsA=pows.map (Dn.AV.int .u64):=rfl
abbrev gtT:Dn.GT:=[(5,powsA)]
theorem globPow : Tryz.prog.globalNamed "internal/strconv.uint64pow10" = some 5 := by kernel_rfl
theorem typePow:(Tryz.prog.globals[5]?).map (·.type)=some 202:=by kernel_rfl
theorem undPow:Tryz.prog.underlying 202=some (.array 20 166):=by kernel_rfl
theorem undU64:Tryz.prog.underlying 166=some (.int .u64):=by kernel_rfl
theorem pow_of_laid {W : World} (h : laidMetH Tryz.prog laid W) : Lib.TabIs Tryz.prog W "internal/strconv.uint64pow10" .u64 pows := by
 rw [MakeChecks.laidMetH_plain _ _ _ (by kernel_rfl)] at h
 exact Lib.tabIs_of_head globPow typePow undPow undU64 (by kernel_rfl) (by kernel_rfl) (laidMet.tail (laidMet.tail h))
theorem inv_of_laid {W:World} (h:laidMetH Tryz.prog laid W):Dn.Inv Tryz.prog gtT Dn.St.init (Dn.G0 W) W:=by
 refine Dn.inv0g fun g cs hg=>?_
 rw [Dn.lk_cons] at hg
 by_cases e:5=g
 ·rw [if_pos e] at hg
  subst e
  cases hg
  have hv:=pow_of_laid h
  simp only [Lib.TabIs,World.var?,globPow,Option.bind_some] at hv
  split at hv
  ·rename_i c ty fr hw
   cases hv
   refine⟨_,ty,fr,hw,?_⟩
   rw [powsA_eq]
   generalize pows=l
   induction l with
   | nil=>exact Dn.Rl.nil
   | cons a r ih=>exact Dn.Rl.cons (by simp only [Dn.Rv]) ih
  ·cases hv
 ·rw [if_neg e] at hg
  cases hg
set_option maxRecDepth 1000000 in
theorem ran:Dn.exec2 gtT (fun f=>Dn.lk [] f) (fun f=>Dn.lk C1.tab f) 100000 200 3 [] Dn.St.init Dn.retTrue=true:=by kernel_rfl
end Go.Proofs.YtbojekglccdajaaGreatDoor

namespace Go.Proofs.YtbojekglccdajaaGreatDoor
open Go.Dn Go.RowKit
theorem rv_str {S:St} {G:Gh} {w:World} {s:List UInt8}:Rv S G w (.str s) (.string ⟨s.toArray⟩):=by simp only [Rv]
theorem hbTL:HasBody Tryz.prog 111:=⟨_,Tryz.func111,by kernel_rfl,by kernel_rfl⟩
theorem hbTR:HasBody Tryz.prog 112:=⟨_,Tryz.func112,by kernel_rfl,by kernel_rfl⟩
theorem hbTT:HasBody Tryz.prog 106:=⟨_,Tryz.func106,by kernel_rfl,by kernel_rfl⟩
theorem hbAI:HasBody Tryz.prog 134:=⟨_,Tryz.func134,by kernel_rfl,by kernel_rfl⟩
theorem hbIA:HasBody Tryz.prog 114:=⟨_,Tryz.func114,by kernel_rfl,by kernel_rfl⟩
theorem sh_trimL {cs:List UInt8} (hc:cs.length<4294967281) (ha:∀b∈cs,b.toNat<128) (s:List UInt8):PF (AC Tryz.prog gtT) 111 [.str s,.str cs] (.str (trimL cs s)) :=
 PF.of_calls hbTL (fun S G w vs h=>rl_str2 h) (fun S G w=>rv_str) fun w =>
  Any.strings_TrimLeft_laid Tryz.lays161 (by kernel_rfl) ⟨s.toArray⟩ ⟨cs.toArray⟩ w hc fun j b h=>ha b (List.mem_of_getElem? h)
theorem sh_trimR {cs:List UInt8} (hc:cs.length<4294967281) (ha:∀b∈cs,b.toNat<128) (s:List UInt8) (hs:s.length<9223372036854775807):PF (AC Tryz.prog gtT) 112 [.str s,.str cs] (.str (trimR cs s)) :=
 PF.of_calls hbTR (fun S G w vs h=>rl_str2 h) (fun S G w=>rv_str) fun w =>
  Any.strings_TrimRight_laid Tryz.lays162 (by kernel_rfl) ⟨s.toArray⟩ ⟨cs.toArray⟩ w (Nat.le_of_lt hs) hc fun j b h=>ha b (List.mem_of_getElem? h)
theorem sh_trim {cs:List UInt8} (hc:cs.length<4294967281) (ha:∀b∈cs,b.toNat<128) (s:List UInt8) (hs:s.length<9223372036854775807):PF (AC Tryz.prog gtT) 106 [.str s,.str cs] (.str (trimA cs s)) :=
 PF.of_calls hbTT (fun S G w vs h=>rl_str2 h) (fun S G w=>rv_str) fun w =>
  Any.strings_Trim_laid Tryz.lays160 (by kernel_rfl) ⟨s.toArray⟩ ⟨cs.toArray⟩ w (Nat.le_of_lt hs) hc fun j b h=>ha b (List.mem_of_getElem? h)
theorem decFrom_val (l:List UInt8):∀(a:Nat),l.all dig=true→Lib.decFrom a l=some (valB a l):=by
 induction l with
 | nil=>intro a _;rfl
 | cons b r ih =>
  intro a h
  rw [List.all_cons,bA] at h
  have hb:=h.1
  simp only [dig,bA,decide_eq_true_eq] at hb
  have hd:Lib.digitVal b=some (b.toNat-48):=if_pos hb
  unfold Lib.decFrom
  rw [hd]
  exact ih _ h.2
theorem atoi_val (l:List UInt8) (h:l.all dig=true) (h1:1≤l.length):Lib.atoi l=some (valB 0 l:Int):=by
 cases l with
 | nil=>simp at h1
 | cons b r =>
  have hb:=h
  simp only [List.all_cons,bA,dig,decide_eq_true_eq] at hb
  have n1:(b == 45)=false:=by
   cases hh:(b == 45) with
   | false=>rfl
   | true=>rw [beq_iff_eq] at hh;subst hh;exact absurd hb.1.1 (by decide)
  have n2:(b == 43)=false:=by
   cases hh:(b == 43) with
   | false=>rfl
   | true=>rw [beq_iff_eq] at hh;subst hh;exact absurd hb.1.1 (by decide)
  simp only [Lib.atoi,n1,n2,Bool.false_eq_true,if_false,Lib.decNat,List.isEmpty_cons]
  rw [decFrom_val _ 0 h];rfl
theorem sh_atoi (s:List UInt8) (h:s.all dig=true) (h1:1≤s.length) (h2:s.length≤18):PF (AC Tryz.prog gtT) 134 [.str s] (.tup [.int .i64 (valB 0 s),.nilif]) :=
 PF.of_calls hbAI (fun S G w vs h=>rl_str1 h) (v:=.tuple #[.int .i64 (valB 0 s),.nilIface]) (fun S G w=>by
   simp only [Rv]
   exact⟨_,rfl,Rl.cons (by simp only [Rv]) (Rl.cons (by simp only [Rv]) Rl.nil)⟩) fun w =>
  (Any.strconv_Atoi Tryz.lays172 ⟨s.toArray⟩ (valB 0 s) h2 (atoi_val s h h1) w).mono fun e w' ⟨h1,t,h2⟩=>⟨h1,by rw [h2];exact Joins.below_bytesWorld _ _ _ _ (Nat.le_refl _)⟩
theorem decB_dec:∀n:Nat,Lib.decDigits n=decB n:=fun n=>by
 induction n using Nat.strongRecOn with
 | _ n ih =>
  unfold Lib.decDigits decB
  split
  ·rfl
  ·rw [ih (n / 10) (by omega)]
theorem itoa_eq (n:Int):Lib.itoa n=itoaB n:=by unfold Lib.itoa itoaB;rw [decB_dec,decB_dec]
theorem pows_tab:Lib.pow10Tab=pows:=by decide
theorem tab_of_inv {S : St} {G : Gh} {w : World} (hI : Inv Tryz.prog gtT S G w) : Lib.TabIs Tryz.prog w "internal/strconv.uint64pow10" .u64 Lib.pow10Tab := by
 rw [pows_tab]
 obtain⟨_,c,ty,fr,h1,h2⟩:=hI.glob 5 powsA rfl
 have:c=(pows.map fun z=>Value.int .u64 z).toArray:=by
  rw [powsA_eq] at h2
  obtain⟨c⟩:=c
  simp only at h2
  congr 1
  clear h1
  revert h2
  generalize pows=l
  induction l generalizing c with
  | nil=>intro h2;simpa only [List.map_nil,Rl] using h2
  | cons a r ih =>
   intro h2
   simp only [List.map_cons,Rl,Rv] at h2
   obtain⟨v,q,rfl,rfl,h3⟩:=h2
   rw [List.map_cons,ih q h3]
 rw [this] at h1
 simp only [Lib.TabIs,World.var?,globPow,Option.bind_some,h1]
theorem rl_int1 {S:St} {G:Gh} {w:World} {k:IntKind} {n:Int} {vs:List Value} (h:Rl S G w [.int k n] vs):vs=[.int k n]:=by
 simp only [Rl,Rv] at h
 obtain⟨v,r,rfl,rfl,rfl⟩:=h
 rfl
theorem sh_itoa (n:Int) (h1:-999999≤n) (h2:n≤999999):PF (AC Tryz.prog gtT) 114 [.int .i64 n] (.str (itoaB n)) :=
 PF.of_callsI hbIA (fun S G w vs h=>rl_int1 h) (v:=.string ⟨(Lib.itoa n).toArray⟩) (fun S G w=>by rw [itoa_eq];exact rv_str) fun S G w hI =>
  (Any.strconv_Itoa Tryz.lays171M n (by omega) (by omega) w (tab_of_inv hI)).mono fun e w' ⟨h1,k,os,h2⟩=>⟨h1,by rw [h2];exact Lib.below_grow _ _ (Nat.le_refl _) _ _⟩
end Go.Proofs.YtbojekglccdajaaGreatDoor

namespace Go.Proofs.YtbojekglccdajaaGreatDoor.Fn
open Go.ChangeShapes Go.WideShapes Go.ChangeAt Go.RowKit Go.Dn
abbrev A:CallT:=AC Tryz.prog gtT
theorem hm:MonoC A:=AC_mono
theorem gtSta:GtSta gtT:=fun g cs h=>by
 rw [lk_cons] at h
 by_cases e:5=g
 ·rw [if_pos e] at h
  cases h
  rw [powsA_eq]
  generalize pows=l
  induction l with
  | nil=>exact trivial
  | cons a r ih=>exact⟨trivial,ih⟩
 ·rw [if_neg e] at h
  cases h
theorem pf {f : FuncId} {fn : Func} {n : Note} {F : DF} {us : List AV} {u : AV} (hf : Tryz.prog.funcs[f]? = some fn) (hn : (fn.name == "runtime.NumGoroutine") = false) (hp : prepF Tryz.prog n fn = some F) (hs : Stas us) (hw : wpF gtT A F us St.init (Ret u)) : PF A f us u :=
 PF.of_init gtSta hs (AC_intro Tryz.checked.mixed hf hn hp hw)
theorem s1 {a:AV} (h:Sta a):Stas [a]:=⟨h,trivial⟩
theorem s2 {a b:AV} (h:Sta a) (k:Sta b):Stas [a,b]:=⟨h,k,trivial⟩
theorem s3 {a b c:AV} (h:Sta a) (k:Sta b) (l:Sta c):Stas [a,b,c]:=⟨h,k,l,trivial⟩
theorem sK (l:List (List UInt8)):Sta (.sl 1 stat (strs l)):=sta_sl (sta_strs l)
theorem indT {Q:PT→Prop} (h:∀t,(∀u,u.n<t.n→Q u)→Q t) (t:PT):Q t:=(measure PT.n).wf.induction t h
theorem hpre0 (s:List UInt8) (c:UInt8):PF A 151 [.str s,.str [c]] (.bool (hd c s)) :=
 pf Tryz.func151 (by kernel_rfl) C1.F151_ok (s2 trivial trivial) hasPre0_wp
theorem hpre (s:List UInt8) (c:UInt8):PF A 132 [.str s,.str [c]] (.bool (hd c s)) :=
 pf Tryz.func132 (by kernel_rfl) C1.F132_ok (s2 trivial trivial) (hasPre_wp hm hpre0)
theorem tpre0 (s:List UInt8) (c:UInt8):PF A 152 [.str s,.str [c]] (.str (if hd c s then s.drop 1 else s)) :=
 pf Tryz.func152 (by kernel_rfl) C1.F152_ok (s2 trivial trivial) (trimPre0_wp hm hpre0)
theorem tpre (s:List UInt8) (c:UInt8):PF A 133 [.str s,.str [c]] (.str (if hd c s then s.drop 1 else s)) :=
 pf Tryz.func133 (by kernel_rfl) C1.F133_ok (s2 trivial trivial) (trimPre_wp hm tpre0)
theorem digit (b:UInt8):PF A 135 [.int .u8 b.toNat] (.bool (dig b)) :=
 pf Tryz.func135 (by kernel_rfl) C1.F135_ok (s1 trivial) digit_wp
theorem run (s:List UInt8) (h:s.length<9223372036854775807):PF A 113 [.str s] (.int .i64 (runB s)) :=
 pf Tryz.func113 (by kernel_rfl) C1.F113_ok (s1 trivial) (run_wp hm digit h)
theorem cut (s:List UInt8) (h:s.length<9223372036854775807):PF A 109 [.str s] (encCut (cutB s)) :=
 pf Tryz.func109 (by kernel_rfl) C1.F109_ok (s1 trivial) (cut_wp hm hpre tpre run h)
theorem ascii {cs:List UInt8} (h:cs.all (fun b=>decide (b.toNat<128))=true):∀b∈cs,b.toNat<128:=fun b hb=>of_decide_eq_true (List.all_eq_true.1 h b hb)
theorem tl48 (s:List UInt8):PF A 111 [.str s,.str [48]] (.str (trimL [48] s)):=sh_trimL (by decide) (ascii (by decide)) s
theorem tr48 (s:List UInt8) (h:s.length<9223372036854775807):PF A 112 [.str s,.str [48]] (.str (trimR [48] s)):=sh_trimR (by decide) (ascii (by decide)) s h
theorem exponent (e:List UInt8) (h:(expT e).all dig=true):PF A 110 [.str e] (encExp (expB e)) :=
 pf Tryz.func110 (by kernel_rfl) C1.F110_ok (s1 trivial) (exponent_wp hm hpre (fun s=>sh_trimL (by decide) (ascii (by decide)) s) tl48 sh_atoi h)
theorem split (s:List UInt8) (h:s.length<9223372036854775807):PF A 87 [.str s] (encSplit (splitB s)) :=
 pf Tryz.func87 (by kernel_rfl) C1.F87_ok (s1 trivial) (split_wp hm cut exponent tl48 tr48 h)
theorem join (p:Parts3) (h:p.2.1.length≤1000):PF A 88 [encP p] (encJoin (joinB p)) :=
 pf Tryz.func88 (by kernel_rfl) C1.F88_ok (s1 ⟨trivial,trivial,trivial,trivial⟩) (join_wp hm run sh_itoa h)
theorem normal (s:List UInt8) (h:s.length<4294967281):PF A 67 [.str s] (encJoin (normB s)) :=
 pf Tryz.func67 (by kernel_rfl) C1.F67_ok (s1 trivial) (normal_wp hm split join (by omega))
theorem two (s:List UInt8):PF A 103 [.str s] (.int .i64 (twoB s)) :=
 pf Tryz.func103 (by kernel_rfl) C1.F103_ok (s1 trivial) two_wp
theorem within (s:List UInt8) (lo hi:Int):PF A 104 [.str s,.int .i64 lo,.int .i64 hi] (.bool (withinB s lo hi)) :=
 pf Tryz.func104 (by kernel_rfl) C1.F104_ok (s3 trivial trivial trivial) (within_wp hm two)
theorem days (y m:Int):PF A 105 [.int .i64 y,.int .i64 m] (.int .i64 (daysB y m)) :=
 pf Tryz.func105 (by kernel_rfl) C1.F105_ok (s2 trivial trivial) days_wp
theorem date (s:List UInt8):PF A 83 [.str s] (.bool (dateB s)) :=
 pf Tryz.func83 (by kernel_rfl) C1.F83_ok (s1 trivial) (date_wp hm two within days)
theorem clock (s:List UInt8) (h:s.length<9223372036854775807):PF A 84 [.str s] (.bool (clockB s)) :=
 pf Tryz.func84 (by kernel_rfl) C1.F84_ok (s1 trivial) (clock_wp hm within (fun s h=>sh_trim (by decide) (ascii (by decide)) s h) h)
theorem hsuf0 (s:List UInt8) (c:UInt8) (h:s.length<9223372036854775807):PF A 130 [.str s,.str [c]] (.bool (tl c s)) :=
 pf Tryz.func130 (by kernel_rfl) C1.F130_ok (s2 trivial trivial) (hasSuf0_wp h)
theorem hsuf (s:List UInt8) (c:UInt8) (h:s.length<9223372036854775807):PF A 107 [.str s,.str [c]] (.bool (tl c s)) :=
 pf Tryz.func107 (by kernel_rfl) C1.F107_ok (s2 trivial trivial) (hasSuf_wp hm hsuf0 h)
theorem zone (s:List UInt8) (h:s.length<9223372036854775807):PF A 85 [.str s] (encZ (zoneB s)) :=
 pf Tryz.func85 (by kernel_rfl) C1.F85_ok (s1 trivial) (zone_wp hm hsuf within h)
theorem idxByte (s:List UInt8) (c:UInt8):PF A 147 [.str s,.int .u8 c.toNat] (.int .i64 (idxB c s 0)) :=
 pf Tryz.func147 (by kernel_rfl) C1.F147_ok (s2 trivial trivial) idxByte_wp
theorem idx1 (s:List UInt8):PF A 131 [.str s,.str [84]] (.int .i64 (idxB 84 s 0)) :=
 pf Tryz.func131 (by kernel_rfl) C1.F131_ok (s2 trivial trivial) (idx1_wp hm idxByte)
theorem cutL (s:List UInt8) (h:s.length<4294967281):PF A 108 [.str s,.str [84]] (.tup [.str (cutC 84 s).1,.str (cutC 84 s).2.1,.bool (cutC 84 s).2.2]) :=
 pf Tryz.func108 (by kernel_rfl) C1.F108_ok (s2 trivial trivial) (cutL_wp hm idx1 (by omega))
theorem cutS (s:List UInt8) (h:s.length<4294967281):PF A 86 [.str s,.str [84]] (.tup [.str (cutC 84 s).1,.str (cutC 84 s).2.1,.bool (cutC 84 s).2.2]) :=
 pf Tryz.func86 (by kernel_rfl) C1.F86_ok (s2 trivial trivial) (cutS_wp hm (cutL s h))
theorem time (s:List UInt8) (h:s.length<4294967281):PF A 64 [.str s] (.bool (timeB s)) :=
 pf Tryz.func64 (by kernel_rfl) C1.F64_ok (s1 trivial) (time_wp hm date clock zone cutS h)
theorem rowU (b:UInt8):PF A 99 [.int .u8 b.toNat] (encLead (leadB b.toNat)) :=
 pf Tryz.func99 (by kernel_rfl) C1.F99_ok (s1 trivial) (row_wp hm b)
theorem charU (c:Int):PF A 100 [.int .i64 c] (.bool (charB c)) :=
 pf Tryz.func100 (by kernel_rfl) C1.F100_ok (s1 trivial) charB_wp
theorem firstU (s:List UInt8) (h:s.length<4611686018427387904):PF A 78 [.str s] (encFirst (firstC s)) :=
 pf Tryz.func78 (by kernel_rfl) C1.F78_ok (s1 trivial) (first_wp hm rowU charU h)
theorem badU (s:List UInt8) (h:s.length<4611686018427387904):PF A 53 [.str s] (.int .i64 (badI s 0)) :=
 pf Tryz.func53 (by kernel_rfl) C1.F53_ok (s1 trivial) (bad_wp hm firstU h)
theorem validU (s:List UInt8) (h:s.length<4611686018427387904):PF A 68 [.str s] (.bool (validB s)) :=
 pf Tryz.func68 (by kernel_rfl) C1.F68_ok (s1 trivial) (validP_wp hm badU h)
theorem unlike (keys:List (List UInt8)) (hk:∀s∈keys,s.length<4294967281) (hl:keys.length<9223372036854775807):PF A 69 [.sl 1 stat (strs keys)] (.bool (unlikeB [] keys)) :=
 pf Tryz.func69 (by kernel_rfl) C1.F69_ok (s1 (sK keys)) (unlike_wp hm validU (fun s h=>by have:=hk s h;omega) hl)
theorem formed:∀t:PT,t.sok→PF A 43 [encT t] (.bool (formedB t)) :=
 indT fun t ih h=>pf Tryz.func43 (by kernel_rfl) C1.F43_ok (s1 (sta_T t)) (formed_wp hm normal (fun s h=>validU s (by omega)) time unlike ih h)
theorem runs:PF A 3 [] (.bool true) :=
 PF.of_init gtSta trivial (AC_mono _ _ _ _ _ (exec2_sound Tryz.checked.mixed C1.tabOK .nil 200 3 [] St.init retTrue ran) fun r S1 q=>by
  cases r with
  | ret x=>cases x<;>simp only [retTrue,Bool.false_eq_true] at q;subst q;exact⟨_,rfl,by simp only [Rdo]⟩
  | pan x=>simp [retTrue] at q)
end Go.Proofs.YtbojekglccdajaaGreatDoor.Fn

namespace Go.Dn
open Go Go.Proofs.C1
set_option maxRecDepth 100000
attribute [local irreducible] afterS keepE
section
variable {gt:GT} {C:CallT}
end

section
variable {gt:GT} {C:CallT}
end

section
variable {gt:GT} {C:CallT}
end
end Go.Dn

namespace Go.Dn
open Go
end Go.Dn

namespace Go.Dn
open Go Go.Proofs.C1
set_option maxRecDepth 100000
attribute [local irreducible] afterS keepE
section
variable {gt:GT} {C:CallT}
end

section
variable {gt:GT} {C:CallT}
end

section
variable {gt:GT} {C:CallT}
end

section
variable {gt:GT} {C:CallT}
end

def DC.lf:DC→DC |.seq a _=>a | c=>c
section
variable {gt:GT} {C:CallT}
end

section
variable {gt:GT} {C:CallT}
end

section
variable {gt:GT} {C:CallT}
end

section
variable {gt:GT} {C:CallT}
end

section
variable {gt:GT} {C:CallT}
end

section
variable {gt:GT} {C:CallT}
end

section
variable {gt:GT} {C:CallT}
end

section
variable {gt:GT} {C:CallT}
end

section
variable {gt:GT} {C:CallT}
end
end Go.Dn

namespace Go.Dn
open Go
end Go.Dn

namespace Go.Proofs.YtbojekglccdajaaGreatDoor.Fn
open Go.ChangeShapes Go.WideShapes Go.ChangeAt Go.RowKit Go.Dn
end Go.Proofs.YtbojekglccdajaaGreatDoor.Fn

namespace Go.Dn
section
variable {α:Type} (le:α→α→Prop)
abbrev Srt (l:List α):Prop:=l.Pairwise le
variable {le}
theorem srt_app {x y:List α}:Srt le (x++y)↔Srt le x∧Srt le y∧∀u∈x,∀v∈y,le u v:=List.pairwise_append
theorem ends_le (tr:∀{a b c:α},le a b→le b c→le a c) {x y:List α} (hx:Srt le x) (hy:Srt le y) (h:∀u v,x[x.length-1]? = some u→y[0]? = some v→le u v) (rf:∀a,le a a):∀u∈x,∀v∈y,le u v:=by
 intro u hu v hv
 obtain⟨i,hi,rfl⟩:=List.mem_iff_getElem.1 hu
 obtain⟨j,hj,rfl⟩:=List.mem_iff_getElem.1 hv
 have h1:le x[i] (x[x.length-1]'(by omega)):=by
  rcases Nat.lt_or_ge i (x.length-1) with q | q
  ·exact List.pairwise_iff_getElem.1 hx i (x.length-1) hi (by omega) q
  ·have:i=x.length-1:=by omega
   simp only [this];exact rf _
 have h2:le (y[0]'(by omega)) y[j]:=by
  rcases Nat.eq_zero_or_pos j with q | q
  ·simp only [q];exact rf _
  ·exact List.pairwise_iff_getElem.1 hy 0 j (by omega) hj q
 exact tr (tr h1 (h _ _ (gE (by omega)) (gE (by omega)))) h2
theorem merge_ok {A B C D Z1 Z2:List α} (h1:Srt le Z1) (h2:Srt le Z2) (p1:Z1.Perm (A++C)) (p2:Z2.Perm (B++D)) (hAB:∀u∈A,∀v∈B,le u v) (hAD:∀u∈A,∀v∈D,le u v) (hCB:∀u∈C,∀v∈B,le u v) (hCD:∀u∈C,∀v∈D,le u v) :
  Srt le (Z1++Z2)∧(Z1++Z2).Perm ((A++B)++(C++D)):=by
 refine⟨srt_app.2 ⟨h1,h2,fun u hu v hv=>?_⟩,?_⟩
 ·have hu:=p1.mem_iff.1 hu
  have hv:=p2.mem_iff.1 hv
  rcases List.mem_append.1 hu with hu | hu<;>rcases List.mem_append.1 hv with hv | hv
  ·exact hAB u hu v hv
  ·exact hAD u hu v hv
  ·exact hCB u hu v hv
  ·exact hCD u hu v hv
 ·refine (p1.append p2).trans ?_
  rw [aA,aA]
  refine List.Perm.append_left A ?_
  rw [←aA,←aA]
  exact List.Perm.append_right D List.perm_append_comm
def Blk (le:α→α→Prop) (n:Nat) (d:List α):Prop:=∀(i j:Nat) (hi:i<d.length) (hj:j<d.length),i<j→i / n=j / n→le d[i] d[j]
theorem Blk.nil {n:Nat}:Blk le n []:=fun i j hi=>by simp at hi
theorem Blk.srt {n:Nat} {d:List α} (h:Blk le n d) (hn:d.length≤n):Srt le d :=
 List.pairwise_iff_getElem.2 fun i j hi hj hij=>h i j hi hj hij (by rw [Nat.div_eq_of_lt (by omega),Nat.div_eq_of_lt (by omega)])
theorem Blk.take {n:Nat} {x y:List α} (h:Blk le n (x++y)):Blk le n x:=fun i j hi hj hij e=>by
 have:=h i j (by rw [lA];omega) (by rw [lA];omega) hij e
 rwa [List.getElem_append_left hi,List.getElem_append_left hj] at this
theorem Blk.drop {n:Nat} {x y:List α} (h:Blk le n (x++y)) (hn:0<n) (hx:x.length % n=0):Blk le n y:=fun i j hi hj hij e=>by
 have:=h (x.length+i) (x.length+j) (by rw [lA];omega) (by rw [lA];omega) (by omega) (by
  obtain⟨k,hk⟩:=Nat.dvd_of_mod_eq_zero hx
  rw [hk,Nat.mul_add_div hn,Nat.mul_add_div hn,e])
 rw [List.getElem_append_right (by omega),List.getElem_append_right (by omega)] at this
 simpa only [Nat.add_sub_cancel_left] using this
theorem Blk.app {n:Nat} {x y:List α} (h:Blk le n x) (hn:0<n) (hx:x.length % n=0) (hy:Blk le n y):Blk le n (x++y):=fun i j hi hj hij e=>by
 obtain⟨k,hk⟩:=Nat.dvd_of_mod_eq_zero hx
 rcases Nat.lt_or_ge j x.length with q | q
 ·rw [List.getElem_append_left (by omega),List.getElem_append_left q]
  exact h i j (by omega) q hij e
 ·rcases Nat.lt_or_ge i x.length with q' | q'
  ·exfalso
   have h1:i / n<k:=by rw [Nat.div_lt_iff_lt_mul hn,Nat.mul_comm];omega
   have h2:k≤j / n:=by rw [Nat.le_div_iff_mul_le hn,Nat.mul_comm];omega
   omega
  ·rw [List.getElem_append_right q',List.getElem_append_right q]
   rw [lA] at hi hj
   refine hy _ _ (by omega) (by omega) (by omega) ?_
   have e1:i=n*k+(i-x.length):=by omega
   have e2:j=n*k+(j-x.length):=by omega
   rw [e1,e2,Nat.mul_add_div hn,Nat.mul_add_div hn] at e
   omega
theorem Blk.of {n:Nat} {d:List α} (h:Srt le d):Blk le n d:=fun i j hi hj hij _=>List.pairwise_iff_getElem.1 h i j hi hj hij
end
end Go.Dn

namespace Go.Dn
open Go Go.RowKit
def ints (l:List Nat):List AV:=l.map fun (n:Nat)=>AV.int .i64 (n:Int)
theorem ints_len (l:List Nat):(ints l).length=l.length:=by simp [ints]
theorem ints_get {l:List Nat} {i n:Nat} (h:l[i]? = some n):(ints l)[i]? = some (.int .i64 (n:Int)):=by simp [ints,h]
theorem ints_el (l:List Nat):∀y∈ints l,El false 1 y:=fun y hy=>by
 simp only [ints,List.mem_map] at hy
 obtain⟨n,_,rfl⟩:=hy
 exact⟨rfl,rfl⟩
theorem ints_set (l:List Nat) (i n:Nat):(ints l).set i (.int .i64 (n:Int))=ints (l.set i n):=by simp [ints,List.map_set]
def ArS (S:St) (R:List Rs) (ty:TypeId) (t b:Nat) (l:List Nat):Prop:=Hs S (R++[.bx b ty ((ints l).flatMap AV.cells++[]),.mk t t b])
abbrev slA (t n:Nat) (xs:List AV):AV:=.sl 1 ⟨some (t,t),0,some n,false⟩ xs
section
variable {S:St} {R:List Rs} {ty:TypeId} {t b:Nat} {l:List Nat}
theorem ArS.hi:(R++[Rs.bx b ty ((ints l).flatMap AV.cells++[]),Rs.mk t t b])[R.length]? = some (.bx b ty ((ints l).flatMap AV.cells++[])):=by simp
theorem ArS.hj:(R++[Rs.bx b ty ((ints l).flatMap AV.cells++[]),Rs.mk t t b])[R.length+1]? = some (.mk t t b):=by simp
theorem ArS.els (h:ArS S R ty t b l) {n:Nat} {xs:List AV} (hx:xs.length=l.length):elems S false 1 ⟨some (t,t),0,some n,false⟩ xs=some (ints l):=by
 have:=arr_els h ArS.hi ArS.hj (ints_el l) (off:=0) (cap:=some n) (nl:=false) (xs:=xs) (by rw [ints_len];omega)
 rw [List.drop_zero,hx,List.take_of_length_le (by rw [ints_len];omega)] at this
 exact this
theorem ArS.st (h:ArS S R ty t b l) {gt:GT} {d:Option Nat} {env:Env} {a x:DOpd} {n:Nat} {xs:List AV} {k v:Nat} (hx:xs.length=l.length) (ha:loc env a=some (.el 1 ⟨some (t,t),0,some n,false⟩ xs k 0)) (hv:opd env x=some (.int .i64 (v:Int))) (hk:k<l.length) :
  ∃S',stepO gt d env S (.st 1 a x)=.done (putV d .undef env) S'∧ArS S' R ty t b (l.set k v):=by
 obtain⟨S',h1,h2⟩:=arr_st h R.length ArS.hi ArS.hj (fun y hy=>(ints_el l y hy).1) (gt:=gt) (d:=d) (env:=env) (a:=a) (x:=x) (xs:=xs) (so:=0) (k:=k) (off:=0) (sz:=1) (cap:=some n) (nl:=false) (v:=.int .i64 (v:Int)) (v':=.int .i64 (v:Int)) ha hv rfl (by omega) (by rw [ints_len];omega) (Nat.le_refl 1) (by
  have hc:(ints l)[0+k]'(by rw [ints_len];omega)=.int .i64 ((l[k]:Nat):Int):=by simp [ints]
  rw [hc];rfl)
 refine⟨S',h1,?_⟩
 rw [Nat.zero_add,ints_set] at h2
 unfold ArS
 simpa using h2
end
theorem st_runPD {C:CallT} {gt:GT} {d:Option Nat} {op:DOp} {gd:Option (Nat×Bool)} {l:Option Nat} {env env':Env} {S:St} {P:St→Prop} {K:Env→St→Prop} {Q:Ex→Env→St→Prop} (h:∃S',stepO gt d env S op=.done env' S'∧P S') (hg:Gd env gd) (h0:isLoc op=false) (h1:conform l env op=true) (k:∀S',P S'→K env' S'):afterS C d env S K Q (stepD gt (⟨d,op,gd⟩,l) env S):=by
 obtain⟨S',h2,h3⟩:=h
 exact st_anyD hg h0 h1 h2 (k S' h3)
theorem set_mid {α:Type} {P Q:List α} {x y:α} {n:Nat} (h:n=P.length):(P++(x::Q)).set n y=P++(y::Q):=by
 subst h
 rw [List.set_append_right _ _ (Nat.le_refl _),Nat.sub_self];rfl
theorem get_mid {α:Type} {P Q:List α} {x:α} {n:Nat} (h:n=P.length):(P++(x::Q))[n]? = some x:=by
 subst h
 rw [List.getElem?_append_right (Nat.le_refl _),Nat.sub_self];rfl
end Go.Dn

namespace Go.Dn
open Go Go.Proofs.C1
set_option maxRecDepth 100000
attribute [local irreducible] afterS keepE
section
variable {gt:GT} {C:CallT} {R:List Rs} {ty:TypeId} {t b:Nat}
def SwapC (C:CallT) (R:List Rs) (ty:TypeId) (t b:Nat) (g:AV):Prop :=
 ∀(S:St) (xs:List AV) (P X M Y Q:List Nat) (a c n:Nat),a=P.length→c=P.length+X.length+M.length→n=X.length→xs.length=(P++(X++(M++(Y++Q)))).length→(P++(X++(M++(Y++Q)))).length<4611686018427387904→X.length=Y.length→ArS S R ty t b (P++(X++(M++(Y++Q)))) →
  C 172 [slA t xs.length xs,.int .i64 a,.int .i64 c,.int .i64 n,g] S fun r S'=>r=.ret (.tup [])∧ArS S' R ty t b (P++(Y++(M++(X++Q))))
def RotC (C:CallT) (R:List Rs) (ty:TypeId) (t b:Nat) (g:AV):Prop :=
 ∀(S:St) (xs:List AV) (P X Y Q:List Nat) (a m c:Nat),a=P.length→m=P.length+X.length→c=P.length+X.length+Y.length→X≠[]→Y≠[]→xs.length=(P++(X++(Y++Q))).length→(P++(X++(Y++Q))).length<2305843009213693952→ArS S R ty t b (P++(X++(Y++Q))) →
  C 156 [slA t xs.length xs,.int .i64 a,.int .i64 m,.int .i64 c,g] S fun r S'=>r=.ret (.tup [])∧ArS S' R ty t b (P++(Y++(X++Q)))
abbrev E_sw (t:Nat) (xs:List AV) (a c n i:Nat):Env:=[(0,.val (slA t xs.length xs)),(1,.val (.int .i64 a)),(2,.val (.int .i64 c)),(3,.val (.int .i64 n)),(10,.val (.int .i64 i))]
set_option maxHeartbeats 4000000 in
theorem swap_wp (hm:MonoC C) {S:St} {xs:List AV} {P X M Y Q:List Nat} {g:AV} (hx:xs.length=(P++(X++(M++(Y++Q)))).length) (hl:(P++(X++(M++(Y++Q)))).length<4611686018427387904) (hxy:X.length=Y.length) (hA:ArS S R ty t b (P++(X++(M++(Y++Q))))) :
  wpF gt C F172 [slA t xs.length xs,.int .i64 P.length,.int .i64 ((P.length+X.length+M.length:Nat):Int),.int .i64 X.length,g] S fun r S'=>r=.ret (.tup [])∧ArS S' R ty t b (P++(Y++(M++(X++Q)))):=by
 have hlen:(P++(X++(M++(Y++Q)))).length=P.length+(X.length+(M.length+(Y.length+Q.length))):=by simp only [lA]
 rw [hlen] at hx hl
 refine⟨rfl,?_⟩
 refine goW ?_
 refine loop_rule hm (α:=Nat×List Nat×List Nat×List Nat×List Nat) (fun a env S'=>env=E_sw t xs P.length (P.length+X.length+M.length) X.length a.1∧a.1+a.2.2.1.length=X.length∧a.2.1.length=P.length+a.1∧a.2.2.1.length=a.2.2.2.2.length∧a.2.1.length+a.2.2.1.length+a.2.2.2.1.length=P.length+X.length+M.length+a.1 ∧
   ArS S' R ty t b (a.2.1++(a.2.2.1++(a.2.2.2.1++(a.2.2.2.2++Q))))∧P++(Y++(M++(X++Q)))=a.2.1++(a.2.2.2.2++(a.2.2.2.1++(a.2.2.1++Q)))) (fun a=>X.length-a.1) ?_ (a:=(0,P,X,M,Y)) ⟨rfl,by simp,by simp,hxy,by simp,hA,rfl⟩
 rintro⟨i,Pi,Xi,Mi,Yi⟩ env S' ⟨rfl,h1,h2,h3,h4,hA,hT⟩
 simp only at h1 h2 h3 h4 hA hT
 refine goW ?_
 by_cases hc:(i:Int)<(X.length:Nat)
 ·rw [dT hc]
  match Xi,Yi,h1,h3,h4,hA,hT with
  | [],_,h1,_,_,_,_=>simp at h1;omega
  | _::_,[],_,h3,_,_,_=>simp at h3
  | x::Xr,y::Yr,h1,h3,h4,hA,hT =>
  simp only [lC] at h1 h3 h4
  have hla:(Pi++((x::Xr)++(Mi++((y::Yr)++Q)))).length=xs.length:=by simp only [lA,lC];omega
  have g1:(Pi++((x::Xr)++(Mi++((y::Yr)++Q))))[P.length+i]? = some x:=get_mid (by omega)
  have g2:(Pi++((x::Xr)++(Mi++((y::Yr)++Q))))[P.length+X.length+M.length+i]? = some y:=by
   rw [show Pi++((x::Xr)++(Mi++((y::Yr)++Q)))=(Pi++((x::Xr)++Mi))++(y::(Yr++Q)) by simp only [aA,List.cons_append]]
   exact get_mid (by simp only [lA,lC];omega)
  have s1:(Pi++((x::Xr)++(Mi++((y::Yr)++Q)))).set (P.length+i) y=Pi++(y::(Xr++(Mi++((y::Yr)++Q)))):=set_mid (by omega)
  have s2:(Pi++(y::(Xr++(Mi++((y::Yr)++Q))))).set (P.length+X.length+M.length+i) x=(Pi++[y])++(Xr++((Mi++[x])++(Yr++Q))):=by
   rw [show Pi++(y::(Xr++(Mi++((y::Yr)++Q))))=(Pi++(y::(Xr++Mi)))++(y::(Yr++Q)) by simp only [aA,List.cons_append],set_mid (by simp only [lA,lC];omega)]
   simp only [aA,List.cons_append,List.nil_append]
  generalize Pi++((x::Xr)++(Mi++((y::Yr)++Q)))=l at hA hla g1 g2 s1
  have k1:P.length+i<l.length:=by omega
  have k2:P.length+X.length+M.length+i<l.length:=by omega
  have w1:wr .i64 ((P.length:Int)+(i:Int))=((P.length+i:Nat):Int):=by rw [wr64 (by omega) (by omega)];omega
  have w2:wr .i64 (((P.length+X.length+M.length:Nat):Int)+(i:Int))=((P.length+X.length+M.length+i:Nat):Int):=by rw [wr64 (by omega) (by omega)];omega
  refine goW ?_
  rw [w1,w2]
  refine step_ruleDO rfl rfl (sx_ia (k:=P.length+X.length+M.length+i) rfl rfl (by omega)) (goW ?_)
  refine step_ruleDO rfl rfl (sx_ldEl (agg:=false) rfl (hA.els hla.symm) (ints_get g2) rfl) (goW ?_)
  rw [w1]
  refine step_ruleDO rfl rfl (sx_ia (k:=P.length+i) rfl rfl (by omega)) (goW ?_)
  refine step_ruleDO rfl rfl (sx_ldEl (agg:=false) rfl (hA.els hla.symm) (ints_get g1) rfl) (goW ?_)
  refine step_ruleDO rfl rfl (sx_ia (k:=P.length+i) rfl rfl (by omega)) (goW ?_)
  refine st_runPD (hA.st hla.symm rfl rfl k1) (by trivial) rfl rfl ?_
  intro S2 hA
  rw [s1] at hA
  refine goW ?_
  refine step_ruleDO rfl rfl (sx_ia (k:=P.length+X.length+M.length+i) rfl rfl (by omega)) (goW ?_)
  have hl2:(Pi++(y::(Xr++(Mi++((y::Yr)++Q))))).length=l.length:=by rw [←s1,List.length_set]
  refine st_runPD (hA.st (by omega) rfl rfl (by omega)) (by trivial) rfl rfl ?_
  intro S3 hA
  rw [s2] at hA
  refine goW ?_
  refine⟨(i+1,Pi++[y],Xr,Mi++[x],Yr),⟨?_,by simp only;omega,by simp only [lA,lC,List.length_nil];omega,by simp only;omega,by simp only [lA,lC,List.length_nil];omega,hA,?_⟩,by simp only;omega⟩
  ·rw [wrNat (by omega)]
  ·rw [hT];simp only [aA,List.cons_append,List.nil_append]
 ·rw [dF hc]
  have e1:Xi=[]:=nL (by omega)
  have e2:Yi=[]:=nL (by omega)
  subst e1;subst e2
  refine goW ?_
  refine⟨_,rfl,rfl,?_⟩
  rw [hT];exact hA
abbrev E_ro (t:Nat) (xs:List AV) (m:Nat) (g:AV) (i j:Nat):Env:=[(0,.val (slA t xs.length xs)),(2,.val (.int .i64 m)),(4,.val g),(10,.val (.int .i64 i)),(11,.val (.int .i64 j))]
set_option maxHeartbeats 4000000 in
theorem rot_wp (hm:MonoC C) {f:FuncId} {cs:List AV} (hsw:SwapC C R ty t b (.fn f [] cs)) {S:St} {xs:List AV} {P X Y Q:List Nat} (h1:X≠[]) (h2:Y≠[]) (hx:xs.length=(P++(X++(Y++Q))).length) (hl:(P++(X++(Y++Q))).length<2305843009213693952) (hA:ArS S R ty t b (P++(X++(Y++Q)))) :
  wpF gt C F156 [slA t xs.length xs,.int .i64 P.length,.int .i64 ((P.length+X.length:Nat):Int),.int .i64 ((P.length+X.length+Y.length:Nat):Int),.fn f [] cs] S fun r S'=>r=.ret (.tup [])∧ArS S' R ty t b (P++(Y++(X++Q))):=by
 have hlen:(P++(X++(Y++Q))).length=P.length+(X.length+(Y.length+Q.length)):=by simp only [lA]
 rw [hlen] at hx hl
 have p1:0<X.length:=List.length_pos_iff.2 h1
 have p2:0<Y.length:=List.length_pos_iff.2 h2
 refine⟨rfl,?_⟩
 refine goW ?_
 rw [show wr .i64 (((P.length+X.length:Nat):Int)-(P.length:Int))=(X.length:Int) by rw [wr64 (by omega) (by omega)];omega,show wr .i64 (((P.length+X.length+Y.length:Nat):Int)-((P.length+X.length:Nat):Int))=(Y.length:Int) by rw [wr64 (by omega) (by omega)];omega]
 refine loop_rule hm (α:=List Nat×List Nat×List Nat×List Nat) (fun a env S'=>env=E_ro t xs (P.length+X.length) (.fn f [] cs) a.2.1.length a.2.2.1.length∧0<a.2.1.length∧0<a.2.2.1.length∧a.1.length+a.2.1.length=P.length+X.length∧xs.length=(a.1++(a.2.1++(a.2.2.1++a.2.2.2))).length ∧
   ArS S' R ty t b (a.1++(a.2.1++(a.2.2.1++a.2.2.2)))∧P++(Y++(X++Q))=a.1++(a.2.2.1++(a.2.1++a.2.2.2))) (fun a=>a.2.1.length+a.2.2.1.length) ?_ (a:=(P,X,Y,Q)) ⟨rfl,p1,p2,rfl,by rw [hlen,hx],hA,rfl⟩
 rintro⟨P',L,U,Q'⟩ env S' ⟨rfl,l1,l2,l3,l4,hA,hT⟩
 simp only at l1 l2 l3 l4 hA hT
 have hlen':(P'++(L++(U++Q'))).length=P'.length+(L.length+(U.length+Q'.length)):=by simp only [lA]
 have w1:wr .i64 (((P.length+X.length:Nat):Int)-(L.length:Int))=((P'.length:Nat):Int):=by rw [wr64 (by omega) (by omega)];omega
 refine goW ?_
 by_cases hne:(L.length:Int)=U.length
 ·rw [neI_false hne]
  refine goW ?_
  rw [w1]
  refine call_rule (by rfl) (hm _ _ _ _ _ (hsw S' xs P' L [] U Q' P'.length (P.length+X.length) L.length rfl (by simp only [List.length_nil];omega) rfl l4 (by simp only [List.nil_append];omega) (by omega) hA) ?_)
  rintro r S2 ⟨rfl,hA⟩
  refine goW ?_
  refine⟨_,rfl,rfl,?_⟩
  rw [hT];exact hA
 rw [neI_true hne]
 refine goW ?_
 by_cases hgt:(L.length:Int) > U.length
 ·rw [dT hgt]
  obtain⟨L1,L2,hL,e1,hLl⟩:∃L1 L2,L=L1++L2∧L1.length=U.length∧L1.length+L2.length=L.length:=⟨L.take U.length,L.drop U.length,(tkD _ _).symm,by rw [lT];omega,by rw [lT,lD];omega⟩
  have l5:xs.length=(P'++(L1++(L2++(U++Q')))).length:=by simp only [lA];omega
  rw [hL,aA] at hA hT
  refine goW ?_
  rw [w1]
  refine call_rule (by rfl) (hm _ _ _ _ _ (hsw S' xs P' L1 L2 U Q' P'.length (P.length+X.length) U.length rfl (by omega) (by omega) l5 (by rw [←l5];omega) e1 hA) ?_)
  rintro r S2 ⟨rfl,hA⟩
  refine goW ?_
  refine⟨(P'++U,L2,L1,Q'),⟨?_,by simp only;omega,by simp only;omega,by simp only [lA];omega,?_,?_,?_⟩,by simp only;omega⟩
  ·simp only [E_ro]
   rw [wr64 (by omega) (by omega),show (L.length:Int)-(U.length:Int)=(L2.length:Int) by omega,e1]
   try rfl
  ·simp only [lA];omega
  ·rw [aA];exact hA
  ·rw [hT];simp only [aA]
 ·rw [dF hgt]
  obtain⟨U1,U2,hU,e1,hUl⟩:∃U1 U2,U=U1++U2∧U2.length=L.length∧U1.length+U2.length=U.length:=⟨U.take (U.length-L.length),U.drop (U.length-L.length),(tkD _ _).symm,by rw [lD];omega,by rw [lT,lD];omega⟩
  have l5:xs.length=(P'++(L++(U1++(U2++Q')))).length:=by simp only [lA];omega
  rw [hU,aA] at hA hT
  refine goW ?_
  rw [w1,wr64 (n:=((P.length+X.length:Nat):Int)+(U.length:Int)) (by omega) (by omega),show wr .i64 (((P.length+X.length:Nat):Int)+(U.length:Int)-(L.length:Int))=((P.length+X.length+U1.length:Nat):Int) by rw [wr64 (by omega) (by omega)];omega]
  refine call_rule (by rfl) (hm _ _ _ _ _ (hsw S' xs P' L U1 U2 Q' P'.length (P.length+X.length+U1.length) L.length rfl (by omega) rfl l5 (by rw [←l5];omega) e1.symm hA) ?_)
  rintro r S2 ⟨rfl,hA⟩
  refine goW ?_
  refine⟨(P',U2,U1,L++Q'),⟨?_,by simp only;omega,by simp only;omega,by simp only;omega,?_,hA,?_⟩,by simp only;omega⟩
  ·simp only [E_ro]
   rw [wr64 (by omega) (by omega),show (U.length:Int)-(L.length:Int)=(U1.length:Int) by omega,e1]
   try rfl
  ·simp only [lA];omega
  ·rw [hT]
end
end Go.Dn
